/- Joined: RtB, AwA, CvK, RbA, RpF, FiB, PoT, FiP, FiD, FiE, FiR: contracts and plain laws, each with its own heading below. -/
import Derived.Lib.MinMax
import Derived.Test.YtpkoapmpknbgoaaGreatPackBI
import Derived.Test.YtpkoapmpknbgoaaGreatPackBF
import Derived.Test.YtpkoapmpknbgoaaGreatPackBK
import Derived.Test.YtpkoapmpknbgoaaGreatPackBC
import Derived.Maps.AppendAt
import Derived.Laws.OwnMore
import Derived.Lib.AppendZeros
import Derived.Test.YtpkoapmpknbgoaaGreatPackBJ
import Derived.BigRegion
import Derived.Deep.CutRange
import Derived.Laws.EntriesVeiled
set_option maxRecDepth 100000
set_option maxHeartbeats 16000000
namespace Go.Proofs.YtpkoapmpknbgoaaGreat
section
open Go.RowKit Go.Lib Wd
theorem bx_far(lo hi:E2):bxOk lo hi= !(farB lo.1 lo.2||(farB hi.1 hi.2||(decide (hi.1<lo.1)||decide (hi.2<lo.2)))):=by
 rw[Bool.eq_iff_iff];unfold bxOk axOk axG farB;simp;omega
theorem cross_small{p q c:E2}(hp:Sm 100000000000 p)(hq:Sm 16777216 (subE q p))(hc:Sm 100000000000 c):crossF p.1 p.2 q.1 q.2 c.1 c.2=if crossE p q c<0 then -1 else if 0<crossE p q c then 1 else 0:=by
 obtain⟨p1,p2⟩:=p;obtain⟨q1,q2⟩:=q;obtain⟨c1,c2⟩:=c;unfold Sm subE at *;simp only at *;have hw:∀{x:Int},-9223372036854775808<=x->x<=9223372036854775807->wrap64 x=x:=fun h1 h2=>by unfold wrap64;omega
 unfold crossF crossE;simp only;rw[hw (by omega) (by omega),hw (by omega) (by omega),hw (by omega) (by omega),hw (by omega) (by omega)];generalize(q1-p1)*(c2-p2)=a;generalize(q2-p2)*(c1-p1)=b
 (repeat' split) <;> omega
theorem cross_opp{m:Nat}(hm:m<=12)(z:E2){k:Nat}(hk:k<6):0<crossE (hexC m z k) (hexC m z ((k+1)%6)) (hexC m z ((k+3)%6)):=by
 obtain⟨h0,h1,h2,h3,h4,h5⟩:=hexC_eq m z;have hd:=det_d hm;have hA:=aN_pos m;have c:=cross_six hm z;rcases(show k=0∨k=1∨k=2∨k=3∨k=4∨k=5 by omega)with rfl|rfl|rfl|rfl|rfl|rfl
 ·rw[show (0+1)%6=1 from rfl,show(0+3)%6=3 from rfl,(c _).1,h3]
  generalize d0E m=d at *;generalize d1E m=e at *;unfold subE;simp only;grind
 ·rw[show (1+1)%6=2 from rfl,show(1+3)%6=4 from rfl,(c _).2.1,h4]
  generalize d0E m=d at *;generalize d1E m=e at *;unfold subE;simp only;grind
 ·rw[show (2+1)%6=3 from rfl,show(2+3)%6=5 from rfl,(c _).2.2.1,h5]
  generalize d0E m=d at *;generalize d1E m=e at *;unfold subE;simp only;grind
 ·rw[show (3+1)%6=4 from rfl,show(3+3)%6=0 from rfl,(c _).2.2.2.1,h0]
  generalize d0E m=d at *;generalize d1E m=e at *;unfold addE;simp only;grind
 ·rw[show (4+1)%6=5 from rfl,show(4+3)%6=1 from rfl,(c _).2.2.2.2.1,h1]
  generalize d0E m=d at *;generalize d1E m=e at *;unfold addE;simp only;grind
 ·rw[show (5+1)%6=0 from rfl,show(5+3)%6=2 from rfl,(c _).2.2.2.2.2,h2]
  generalize d0E m=d at *;generalize d1E m=e at *;unfold addE subE;simp only;grind
theorem ring_far{l:List E2}(h:RingSm l){k:Nat}(hk:k<6):Sm 100000000000 (prG l k):=(h k hk).1
theorem two_pts(w:World)(p q:E2)(t:TypeId):
  Two (((w.alloc (.cells #[.int .i64 p.1,.int .i64 p.2] t)).alloc (.cells #[.int .i64 q.1,.int .i64 q.2] t)).drew) w.heap.size (.int .i64 p.1) (.int .i64 p.2)/\Two (((w.alloc (.cells #[.int .i64 p.1,.int .i64 p.2] t)).alloc (.cells #[.int .i64 q.1,.int .i64 q.2] t)).drew) (w.heap.size+1) (.int .i64 q.1) (.int .i64 q.2)/\
  Below w.heap.size w (((w.alloc (.cells #[.int .i64 p.1,.int .i64 p.2] t)).alloc (.cells #[.int .i64 q.1,.int .i64 q.2] t)).drew)/\w.heap.size+1<(((w.alloc (.cells #[.int .i64 p.1,.int .i64 p.2] t)).alloc (.cells #[.int .i64 q.1,.int .i64 q.2] t)).drew).heap.size:=
 ⟨(Two.of_row (t:=t) (f:=_) (heap_new _ _ _ rfl)).later (by simp) (br.alloc lr _).drew,Two.of_row (t:=t) (f:=_) (heap_new _ _ _ (by simp)),(((Below.refl _ w).alloc lr _).alloc (by simp) _).drew,by show _<((w.alloc _).alloc _).heap.size;simp⟩
theorem rtouch_any(r:Int)(z lo hi:E2)(w:World):
  Calls Tryz.prog 89 #[vC r z,vE lo,vE hi] w fun e w'=>e=.returned (.bool (ctB r z lo hi))/\Below w.heap.size w w':=by
 have HOK:=Hd (rok_any r z);have HF1:=Hd (far_any lo.1 lo.2);have HF2:=Hd (far_any hi.1 hi.2);have HV:Hid (ctB r z lo hi=(!(farB lo.1 lo.2||(farB hi.1 hi.2||(decide (hi.1<lo.1)||decide (hi.2<lo.2))))&&(okB r z&&touchB (prG (hexL (12-r.toNat) z)) (triE lo) (triE hi)))):=by show _=_;rw[<- bx_far];rfl
 obtain⟨X,hX⟩:∃X,ctB r z lo hi=X:=⟨_,rfl⟩;rw[hX]at HV ⊢;clear hX;have T0:Hid (Tri (((w.alloc (.cells #[.int .i64 r,.int .i64 z.1,.int .i64 z.2] 39)).alloc (.cells #[.int .i64 lo.1,.int .i64 lo.2] 26)).alloc (.cells #[.int .i64 hi.1,.int .i64 hi.2] 26)) w.heap.size r z):=(show Tri (w.alloc (.cells #[.int .i64 r,.int .i64 z.1,.int .i64 z.2] 39)) w.heap.size r z from heap_new _ _ _ rfl).later ((br.alloc lr _).alloc (by simp) _);have L0:Hid (Two (((w.alloc (.cells #[.int .i64 r,.int .i64 z.1,.int .i64 z.2] 39)).alloc (.cells #[.int .i64 lo.1,.int .i64 lo.2] 26)).alloc (.cells #[.int .i64 hi.1,.int .i64 hi.2] 26)) (w.heap.size+1) (.int .i64 lo.1) (.int .i64 lo.2)):=(Two.of_row (t:=26) (f:=_) (heap_new _ _ _ (by simp))).later (by simp) (br.alloc lr _);have H0:Hid (Two (((w.alloc (.cells #[.int .i64 r,.int .i64 z.1,.int .i64 z.2] 39)).alloc (.cells #[.int .i64 lo.1,.int .i64 lo.2] 26)).alloc (.cells #[.int .i64 hi.1,.int .i64 hi.2] 26)) (w.heap.size+1+1) (.int .i64 hi.1) (.int .i64 hi.2)):=Two.of_row (t:=26) (f:=_) (heap_new _ _ _ (by simp));have B0:Hid (Below w.heap.size w (((w.alloc (.cells #[.int .i64 r,.int .i64 z.1,.int .i64 z.2] 39)).alloc (.cells #[.int .i64 lo.1,.int .i64 lo.2] 26)).alloc (.cells #[.int .i64 hi.1,.int .i64 hi.2] 26))):=(((Below.refl w.heap.size w).alloc lr _).alloc (by simp) _).alloc (by simp <;> omega) _;have s0:w.heap.size+3<=(((w.alloc (.cells #[.int .i64 r,.int .i64 z.1,.int .i64 z.2] 39)).alloc (.cells #[.int .i64 lo.1,.int .i64 lo.2] 26)).alloc (.cells #[.int .i64 hi.1,.int .i64 hi.2] 26)).heap.size:=by simp
 simp only[vE,vC]at*
 go_enter Tryz.func89,Tryz.ntmps89
 go_upto_region 1 with(fail)
 generalize((w.alloc (.cells #[.int .i64 r,.int .i64 z.1,.int .i64 z.2] 39)).alloc (.cells #[.int .i64 lo.1,.int .i64 lo.2] 26)).alloc (.cells #[.int .i64 hi.1,.int .i64 hi.2] 26)=w1 at *;obtain⟨t0,t1,t2,-,-,-,-⟩:=T0.out.cells
 go_wp2_with fail
 refine(HOK.out _).mono ?_;rintro e w2 ⟨rfl,hb2⟩;have T2:=Hd (T0.out.later hb2);have L2:=Hd (L0.out.later (by omega) hb2);have H2:=Hd (H0.out.later (by omega) hb2);have B2:=Hd (B0.out.trans (hb2.mono B0.out.size));have s2:w.heap.size+3<=w2.heap.size:=by have:=hb2.size;omega
 clear hb2 T0 L0 H0 B0 t0 t1 t2 HOK;obtain⟨l0,l1⟩:=L2.out;obtain⟨h0,h1⟩:=H2.out;cases hok:okB r z with
 |false=>
  have HXF:Hid (X=false):=by show _=_;rw[HV.out,hok];simp
  clear HV hok;go_wp2;go_ret;rw[HXF.out];exact⟨rfl,B2.out⟩
 |true=>
 rw[hok]at HV;cases hf1:farB lo.1 lo.2 with
 |true=>
  have HXF:Hid (X=false):=by show _=_;rw[HV.out,hf1];rfl
  rw[hf1]at HF1;clear HV hok hf1
  go_wp2_with fail
  refine(HF1.out _).mono ?_;rintro e wq ⟨rfl,rfl⟩;go_wp2;go_ret;rw[HXF.out];exact⟨rfl,B2.out⟩
 |false=>
 rw[hf1]at HV HF1;cases hf2:farB hi.1 hi.2 with
 |true=>
  have HXF:Hid (X=false):=by show _=_;rw[HV.out,hf2];rfl
  rw[hf2]at HF2;clear HV hok hf1 hf2
  go_wp2_with fail
  refine(HF1.out _).mono ?_;rintro e wq ⟨rfl,rfl⟩
  go_wp2_with fail
  refine(HF2.out _).mono ?_;rintro e wq ⟨rfl,rfl⟩;go_wp2;go_ret;rw[HXF.out];exact⟨rfl,B2.out⟩
 |false=>
 rw[hf2]at HV HF2;cases hc1:decide (hi.1<lo.1)with
 |true=>
  have HXF:Hid (X=false):=by show _=_;rw[HV.out,hc1];rfl
  clear HV hok hf1 hf2
  go_wp2_with fail
  refine(HF1.out _).mono ?_;rintro e wq ⟨rfl,rfl⟩
  go_wp2_with fail
  refine(HF2.out _).mono ?_;rintro e wq ⟨rfl,rfl⟩;go_wp2;go_ret;rw[HXF.out];exact⟨rfl,B2.out⟩
 |false=>
 rw[hc1]at HV;cases hc2:decide (hi.2<lo.2)with
 |true=>
  have HXF:Hid (X=false):=by show _=_;rw[HV.out,hc2];rfl
  clear HV hok hf1 hf2
  go_wp2_with fail
  refine(HF1.out _).mono ?_;rintro e wq ⟨rfl,rfl⟩
  go_wp2_with fail
  refine(HF2.out _).mono ?_;rintro e wq ⟨rfl,rfl⟩;go_wp2;go_ret;rw[HXF.out];exact⟨rfl,B2.out⟩
 |false=>
 rw[hc2]at HV;have hbx:bxOk lo hi=true:=by rw[bx_far,hf1,hf2,hc1,hc2];rfl
 obtain⟨k,rfl,hk12⟩:=okB_nat hok;obtain⟨g1,g2,g3⟩:=ok_near hok;obtain⟨n1,n2⟩:=tri_sm hbx;rw[show ((k:Int)).toNat=k by omega]at HV;have HXT:Hid (X=touchB (prG (hexL (12-k) z)) (triE lo) (triE hi)):=by show _=_;rw[HV.out];simp
 have HHX:=Hd (rhex_in z g2 k g1);have hrs:RingSm (hexL (12-k) z):=ring_sm (by omega) g3;have HTP:=Hd (touch_parts (hexL (12-k) z) (hexL_len _ _) (triE lo) (triE hi));have HAY:Hid (∀ i,i<2->((∀ j,j<6->axG (prG (hexL (12-k) z) j) i<3*axG lo i)∨(∀ j,j<6->3*axG hi i<axG (prG (hexL (12-k) z) j) i))->besB (hexL (12-k) z) (triE lo) (triE hi)=true):=fun i hi2 hh=>besB_yes _ _ _ hi2 (by
  rw[hexL_len];rcases(show i=0∨i=1 by omega)with rfl|rfl
  ·exact hh
  ·exact hh)
 have HAN:Hid ((∀ i,i<2->(∃ j,j<6/\3*axG lo i<=axG (prG (hexL (12-k) z) j) i)/\∃j,j<6/\axG (prG (hexL (12-k) z) j) i<=3*axG hi i)->besB (hexL (12-k) z) (triE lo) (triE hi)=false):=fun hh=>besB_no _ _ _ (by
  rw[hexL_len];intro i hi2;have:=hh i hi2;rcases(show i=0∨i=1 by omega)with rfl|rfl
  ·exact this
  ·exact this)
 have HSD:Hid (∀ i,i<6->∀w,Calls Tryz.prog 136 #[vE (prG (hexL (12-k) z) i),vE (prG (hexL (12-k) z) ((i+1)%6)),.int .i64 (prG (hexL (12-k) z) ((i+3)%6)).1,.int .i64 (prG (hexL (12-k) z) ((i+3)%6)).2] w fun e w'=>e=.returned (.int .i64 1)/\Below w.heap.size w w'):=fun i hi6 w=>by
  have h:=cross_any (prG (hexL (12-k) z) i).1 (prG (hexL (12-k) z) i).2 (prG (hexL (12-k) z) ((i+1)%6)).1 (prG (hexL (12-k) z) ((i+1)%6)).2 (prG (hexL (12-k) z) ((i+3)%6)).1 (prG (hexL (12-k) z) ((i+3)%6)).2 w;rw[cross_small (hrs i hi6).1 (hrs i hi6).2 (ring_far hrs (by omega))]at h;have ho:=cross_opp (show 12-k<=12 by omega) z hi6;rw[<- hexL_get _ _ hi6, <-hexL_get (12-k) z (show(i+1)%6<6 by omega), <-hexL_get (12-k) z (show(i+3)%6<6 by omega)]at ho;rw[if_neg (by omega),if_pos ho]at h;exact h
 have HCR:Hid (∀ i,i<6->∀j,j<4->∀w,Calls Tryz.prog 136 #[vE (prG (hexL (12-k) z) i),vE (prG (hexL (12-k) z) ((i+1)%6)),.int .i64 (prG (boxC (triE lo) (triE hi)) j).1,.int .i64 (prG (boxC (triE lo) (triE hi)) j).2] w fun e w'=>e=.returned (.int .i64 (if crossE (prG (hexL (12-k) z) i) (prG (hexL (12-k) z) ((i+1)%6)) (prG (boxC (triE lo) (triE hi)) j)<0 then -1 else if 0<crossE (prG (hexL (12-k) z) i) (prG (hexL (12-k) z) ((i+1)%6)) (prG (boxC (triE lo) (triE hi)) j)then 1 else 0))/\Below w.heap.size w w'):=fun i hi6 j hj w=>by
  have h:=cross_any (prG (hexL (12-k) z) i).1 (prG (hexL (12-k) z) i).2 (prG (hexL (12-k) z) ((i+1)%6)).1 (prG (hexL (12-k) z) ((i+1)%6)).2 (prG (boxC (triE lo) (triE hi)) j).1 (prG (boxC (triE lo) (triE hi)) j).2 w;rw[cross_small (hrs i hi6).1 (hrs i hi6).2 ((boxC_sm n1 n2 hj).mono (by decide))]at h;exact h
 have HOY:Hid (∀ i,i<6->(∀ j,j<4->crossE (prG (hexL (12-k) z) i) (prG (hexL (12-k) z) ((i+1)%6)) (prG (boxC (triE lo) (triE hi)) j)<0)->((List.range 6).all fun k_1=> !outF (hexL (12-k) z) (triE lo) (triE hi) k_1)=false):=fun i hi6 hh=>by
  rw[List.all_eq_false];refine⟨i,List.mem_range.2 hi6,?_⟩;unfold outF;rw[Bool.not_not,Bool.not_eq_true, <-Bool.not_eq_true,any_four];rintro⟨j,hj,h⟩;have:=hh j hj;have:=of_decide_eq_true h;omega
 have HON:Hid ((∀ i,i<6->∃j,j<4/\0<=crossE (prG (hexL (12-k) z) i) (prG (hexL (12-k) z) ((i+1)%6)) (prG (boxC (triE lo) (triE hi)) j))->((List.range 6).all fun k_1=> !outF (hexL (12-k) z) (triE lo) (triE hi) k_1)=true):=fun hh=>by
  rw[List.all_eq_true];intro i hi6;obtain⟨j,hj,h⟩:=hh i (List.mem_range.1 hi6);unfold outF;rw[Bool.not_not,any_four];exact⟨j,hj,decide_eq_true h⟩
 have HCE:Hid (prV (boxC (triE lo) (triE hi))=[.int .i64 (3*lo.1),.int .i64 (3*lo.2),.int .i64 (3*hi.1),.int .i64 (3*lo.2),.int .i64 (3*hi.1),.int .i64 (3*hi.2),.int .i64 (3*lo.1),.int .i64 (3*hi.2)]/\(boxC (triE lo) (triE hi)).length=4):=⟨rfl,rfl⟩;have HL6:=Hd (hexL_len (12-k) z);have hbd:(-2147483648<=lo.1/\lo.1<=2147483648)/\(-2147483648<=lo.2/\lo.2<=2147483648)/\(-2147483648<=hi.1/\hi.1<=2147483648)/\(-2147483648<=hi.2/\hi.2<=2147483648):=by
  unfold farB at hf1 hf2;simp at hf1 hf2;omega
 generalize touchB (prG (hexL (12-k) z)) (triE lo) (triE hi)=T at *;generalize((List.range 6).all fun k_1=> !outF (hexL (12-k) z) (triE lo) (triE hi) k_1)=A at *;generalize besB (hexL (12-k) z) (triE lo) (triE hi)=bs at *;generalize hexL (12-k) z=l at *;generalize boxC (triE lo) (triE hi)=C at *;have HTT:Hid (T=(!bs&&A)):=HTP.out;clear HTP hrs g2 g3 n1 n2 hbx hf1 hf2 HV hok;obtain⟨⟨bl1,bl2⟩,⟨bl3,bl4⟩,⟨bh1,bh2⟩,bh3,bh4⟩:=hbd;simp only[vE]at*
 go_wp2_with fail
 refine(HF1.out _).mono ?_;rintro e wq ⟨rfl,rfl⟩
 go_wp2_with fail
 refine(HF2.out _).mono ?_;rintro e wq ⟨rfl,rfl⟩;obtain⟨t0,t1,t2,-,-,-,-⟩:=T2.out.cells
 go_wp2_with fail
 refine(HHX.out _).mono ?_;rintro e w3 ⟨ao,c,rfl,ho3,hb3⟩;have HP3:=Hd (prAt_own HL6.out.symm ho3);have L3:=Hd (L2.out.later (by omega) hb3);have H3:=Hd (H2.out.later (by omega) hb3);have B3:=Hd (B2.out.trans (hb3.mono B2.out.size));have s3:w.heap.size+3<=w3.heap.size:=by have:=hb3.size;omega
 clear ho3 hb3 T2 L2 H2 B2 t0 t1 t2 l0 l1 h0 h1 HHX HF1 HF2;obtain⟨l0,l1⟩:=L3.out;obtain⟨h0,h1⟩:=H3.out
 go_upto_region 5 with(fail)
 have hka:=prAt_new w3 C 185;rw[HCE.out.1]at hka;have K4:=(Below.refl w3.heap.size w3).alloc lr (.cells #[.int .i64 (3*lo.1),.int .i64 (3*lo.2),.int .i64 (3*hi.1),.int .i64 (3*lo.2),.int .i64 (3*hi.1),.int .i64 (3*hi.2),.int .i64 (3*lo.1),.int .i64 (3*hi.2)] 185);have HKA:Hid (PrAt (w3.alloc (.cells #[.int .i64 (3*lo.1),.int .i64 (3*lo.2),.int .i64 (3*hi.1),.int .i64 (3*lo.2),.int .i64 (3*hi.1),.int .i64 (3*hi.2),.int .i64 (3*lo.1),.int .i64 (3*hi.2)] 185)) (some ⟨w3.heap.size,0,none⟩) C):=hka;have L4:=Hd (L3.out.later (by omega) K4);have H4:=Hd (H3.out.later (by omega) K4);have HR4:=Hd (HP3.out.below K4);have B4:=Hd (B3.out.trans (K4.mono B3.out.size));have s4:w.heap.size+3<=(w3.alloc (.cells #[.int .i64 (3*lo.1),.int .i64 (3*lo.2),.int .i64 (3*hi.1),.int .i64 (3*lo.2),.int .i64 (3*hi.1),.int .i64 (3*hi.2),.int .i64 (3*lo.1),.int .i64 (3*hi.2)] 185)).heap.size:=by simp;omega
 clear hka K4 L3 H3 HP3 B3 l0 l1 h0 h1;generalize w3.alloc (.cells #[.int .i64 (3*lo.1),.int .i64 (3*lo.2),.int .i64 (3*hi.1),.int .i64 (3*lo.2),.int .i64 (3*hi.1),.int .i64 (3*hi.2),.int .i64 (3*lo.1),.int .i64 (3*hi.2)] 185)=w4 at *;obtain⟨b,off,rfl,hb,hc⟩:=HR4.out (by rw[HL6.out];omega);have HCC:Hid (∀ wx,Below w4.heap.size w4 wx->∀j,j<6->wx.cell? ⟨b,off+j*2,none⟩=some (.int .i64 (prG l j).1)/\wx.cell? ⟨b,off+j*2+1,none⟩=some (.int .i64 (prG l j).2)):=fun wx hx j hj=>by
  obtain⟨k0,k1⟩:=hc j (by rw[HL6.out];exact hj);exact⟨(hx.cell (p:=⟨b,_,none⟩) hb).trans k0,(hx.cell (p:=⟨b,_,none⟩) hb).trans k1⟩
 clear hc;go_wp2
 go_loopw [9] (fun iv wr=>∃(i:Nat),i<=2/\iv=.int .i64 i/\Hid ((∀ j,j<i->(∃ q,q<6/\3*axG lo j<=axG (prG l q) j)/\∃q,q<6/\axG (prG l q) j<=3*axG hi j)/\Below w4.heap.size w4 wr)) (fun i _=>2-(intOf i).toNat)
 case atStart=>exact⟨0,by omega,rfl,fun j hj=>by omega,br⟩
 case round=>
  obtain⟨i,hi2,rfl,HI⟩:=hrel;obtain⟨wo,rfl⟩:∃wo,wo=wr:=⟨_,rfl⟩;have hso:=HI.out.2.size;have hbo:b<wo.heap.size:=by omega
  rcases(show i=0∨i=1∨2<=i by omega)with rfl|rfl|hge
  ·have p0:decide (((0:Nat):Int)<2)=true:=by decide
   obtain⟨c0,c1⟩:=HCC.out wo HI.out.2 0 (by omega);rw[Nat.zero_mul,Nat.add_zero]at c0 c1;have BD:Hid (Below w4.heap.size w4 wo.drew):=HI.out.2.drew;have HP:=Hd HI.out.1;have A0:Hid (∃ j,j<6/\(prG l 0).1=axG (prG l j) 0):=⟨0,by omega,rfl⟩;generalize prG l 0=y0 at *;clear HI
   go_upto_region 8 with(fail)
   go_wp2_with(first|(with_reducible refine wp_region_lex (by kernel_rfl) (by kernel_rfl) ?_)|(with_reducible refine OnlyG.intro (by kernel_rfl) ?_))
   clear c0 c1;generalize wo.drew=wd at *;have hbd:b<wd.heap.size:=by have:=BD.out.size;omega
   go_loopw [10,11,12] (fun av zv kv wy=>∃(k:Nat) (a z:Int),k<=6/\av=.int .i64 a/\zv=.int .i64 z/\kv=.int .i64 k/\Hid ((∃ j,j<6/\a=axG (prG l j) 0)/\(∀ j,j<k->a<=axG (prG l j) 0)/\(∃ j,j<6/\z=axG (prG l j) 0)/\(∀ j,j<k->axG (prG l j) 0<=z))/\Hid (Below w4.heap.size w4 wy)) (fun _ _ k _=>6-(intOf k).toNat)
   case atStart=>exact⟨0,y0.1,y0.1,by omega,rfl,rfl,rfl,⟨A0.out,fun j hj=>by omega,A0.out,fun j hj=>by omega⟩,BD.out⟩
   case round=>
    obtain⟨k,a,z,hk,rfl,rfl,rfl,HA,HJ⟩:=hrel;obtain⟨wy,rfl⟩:∃wy,wy=wr:=⟨_,rfl⟩;have hsy:=HJ.out.size;by_cases hlt2:k<6
    ·have p1:decide ((k:Int)<6)=true:=decide_eq_true (by omega)
     have hk0:(0:Int)<=(k:Int):=by omega
     have hk6:(k:Int)<6:=by omega
     obtain⟨d0,d1⟩:=HCC.out wy HJ.out k hlt2;have hby:b<wy.heap.size:=by omega
     have HA2:Hid ((∃ j,j<6/\min a (axG (prG l k) 0)=axG (prG l j) 0)/\(∀ j,j<k+1->min a (axG (prG l k) 0)<=axG (prG l j) 0)/\(∃ j,j<6/\max z (axG (prG l k) 0)=axG (prG l j) 0)/\(∀ j,j<k+1->axG (prG l j) 0<=max z (axG (prG l k) 0))):=by
      obtain⟨⟨j1,h1,e1⟩,h2,⟨j3,h3,e3⟩,h4⟩:=HA.out;refine⟨?_,fun j hj=>?_,?_,fun j hj=>?_⟩
      ·by_cases hc:a<=axG (prG l k) 0
       ·exact⟨j1,h1,by omega⟩
       ·exact⟨k,hlt2,by omega⟩
      ·by_cases e:j=k
       ·rw[e];omega
       ·have:=h2 j (by omega);omega
      ·by_cases hc:axG (prG l k) 0<=z
       ·exact⟨j3,h3,by omega⟩
       ·exact⟨k,hlt2,by omega⟩
      ·by_cases e:j=k
       ·rw[e];omega
       ·have:=h4 j (by omega);omega
     have hax:axG (prG l k) 0=(prG l k).1:=rfl;rw[hax]at HA2;generalize prG l k=y at *;have HJ3:Hid (Below w4.heap.size w4 wy.drew):=HJ.out.drew;clear HA hax
     go_upto_region 12 with(fail)
     go_region
     go_wp2
     (try rw[imin_c,imax_c])
     go_roundw
     case rel=>exact⟨k+1,_,_,by omega,rfl,rfl,by go_num,HA2.out,HJ3.out⟩
     case measure=>simp[intOf];omega
    ·obtain rfl:k=6:=by omega
     have p1:decide (((6:Nat):Int)<6)=false:=by decide
     obtain⟨l0,l1⟩:=L4.out.later (by omega) HJ.out;obtain⟨h0,h1⟩:=H4.out.later (by omega) HJ.out;have HF:=Hd (B4.out.trans (HJ.out.mono B4.out.size));obtain⟨q1,q2,q3,q4⟩:=HA.out;have e0:axG lo 0=lo.1:=rfl;have e1:axG hi 0=hi.1:=rfl;by_cases hc3:z<3*lo.1
     ·have p2:decide (z<3*lo.1)=true:=decide_eq_true hc3
      have HBS:=Hd (HAY.out 0 (by decide) (.inl fun j hj=>by have:=q4 j hj;rw[e0];omega));have HXF:Hid (X=false):=by show _=_;rw[HXT.out,HTT.out,HBS.out];rfl
      clear q1 q2 q3 q4 HA HAY HAN HP HBS e0 e1;go_wp2;go_ret;rw[HXF.out];exact⟨rfl,HF.out⟩
     ·have p2:decide (z<3*lo.1)=false:=decide_eq_false hc3
      by_cases hc4:3*hi.1<a
      ·have p3:decide (3*hi.1<a)=true:=decide_eq_true hc4
       have HBS:=Hd (HAY.out 0 (by decide) (.inr fun j hj=>by have:=q2 j hj;rw[e1];omega));have HXF:Hid (X=false):=by show _=_;rw[HXT.out,HTT.out,HBS.out];rfl
       clear q1 q2 q3 q4 HA HAY HAN HP HBS e0 e1;go_wp2;go_ret;rw[HXF.out];exact⟨rfl,HF.out⟩
      ·have p3:decide (3*hi.1<a)=false:=decide_eq_false hc4
       have HP2:Hid (∀ j,j<0+1->(∃ q,q<6/\3*axG lo j<=axG (prG l q) j)/\∃q,q<6/\axG (prG l q) j<=3*axG hi j):=fun j hj=>by
        by_cases e:j=0
        ·subst e
         obtain⟨j1,g1,f1⟩:=q1;obtain⟨j3,g3,f3⟩:=q3;exact⟨⟨j3,g3,by rw[<- f3,e0];omega⟩,j1,g1,by rw[<- f1,e1];omega⟩
        ·exact HP.out j (by omega)
       have HJE:=HJ;clear q1 q2 q3 q4 HA HP e0 e1;go_wp2
       go_roundw
       case rel=>exact⟨0+1,by omega,by go_num,HP2.out,HJE.out⟩
       case measure=>simp[intOf]
  ·have p0:decide (((1:Nat):Int)<2)=true:=by decide
   obtain⟨c0,c1⟩:=HCC.out wo HI.out.2 0 (by omega);rw[Nat.zero_mul,Nat.add_zero]at c0 c1;have BD:Hid (Below w4.heap.size w4 wo.drew):=HI.out.2.drew;have HP:=Hd HI.out.1;have A0:Hid (∃ j,j<6/\(prG l 0).2=axG (prG l j) 1):=⟨0,by omega,rfl⟩;generalize prG l 0=y0 at *;clear HI
   go_upto_region 8 with(fail)
   go_wp2_with(first|(with_reducible refine wp_region_lex (by kernel_rfl) (by kernel_rfl) ?_)|(with_reducible refine OnlyG.intro (by kernel_rfl) ?_))
   clear c0 c1;generalize wo.drew=wd at *;have hbd:b<wd.heap.size:=by have:=BD.out.size;omega
   go_loopw [10,11,12] (fun av zv kv wy=>∃(k:Nat) (a z:Int),k<=6/\av=.int .i64 a/\zv=.int .i64 z/\kv=.int .i64 k/\Hid ((∃ j,j<6/\a=axG (prG l j) 1)/\(∀ j,j<k->a<=axG (prG l j) 1)/\(∃ j,j<6/\z=axG (prG l j) 1)/\(∀ j,j<k->axG (prG l j) 1<=z))/\Hid (Below w4.heap.size w4 wy)) (fun _ _ k _=>6-(intOf k).toNat)
   case atStart=>exact⟨0,y0.2,y0.2,by omega,rfl,rfl,rfl,⟨A0.out,fun j hj=>by omega,A0.out,fun j hj=>by omega⟩,BD.out⟩
   case round=>
    obtain⟨k,a,z,hk,rfl,rfl,rfl,HA,HJ⟩:=hrel;obtain⟨wy,rfl⟩:∃wy,wy=wr:=⟨_,rfl⟩;have hsy:=HJ.out.size;by_cases hlt2:k<6
    ·have p1:decide ((k:Int)<6)=true:=decide_eq_true (by omega)
     have hk0:(0:Int)<=(k:Int):=by omega
     have hk6:(k:Int)<6:=by omega
     obtain⟨d0,d1⟩:=HCC.out wy HJ.out k hlt2;have hby:b<wy.heap.size:=by omega
     have HA2:Hid ((∃ j,j<6/\min a (axG (prG l k) 1)=axG (prG l j) 1)/\(∀ j,j<k+1->min a (axG (prG l k) 1)<=axG (prG l j) 1)/\(∃ j,j<6/\max z (axG (prG l k) 1)=axG (prG l j) 1)/\(∀ j,j<k+1->axG (prG l j) 1<=max z (axG (prG l k) 1))):=by
      obtain⟨⟨j1,h1,e1⟩,h2,⟨j3,h3,e3⟩,h4⟩:=HA.out;refine⟨?_,fun j hj=>?_,?_,fun j hj=>?_⟩
      ·by_cases hc:a<=axG (prG l k) 1
       ·exact⟨j1,h1,by omega⟩
       ·exact⟨k,hlt2,by omega⟩
      ·by_cases e:j=k
       ·rw[e];omega
       ·have:=h2 j (by omega);omega
      ·by_cases hc:axG (prG l k) 1<=z
       ·exact⟨j3,h3,by omega⟩
       ·exact⟨k,hlt2,by omega⟩
      ·by_cases e:j=k
       ·rw[e];omega
       ·have:=h4 j (by omega);omega
     have hax:axG (prG l k) 1=(prG l k).2:=rfl;rw[hax]at HA2;generalize prG l k=y at *;have HJ3:Hid (Below w4.heap.size w4 wy.drew):=HJ.out.drew;clear HA hax
     go_upto_region 12 with(fail)
     go_region
     go_wp2
     (try rw[imin_c,imax_c])
     go_roundw
     case rel=>exact⟨k+1,_,_,by omega,rfl,rfl,by go_num,HA2.out,HJ3.out⟩
     case measure=>simp[intOf];omega
    ·obtain rfl:k=6:=by omega
     have p1:decide (((6:Nat):Int)<6)=false:=by decide
     obtain⟨l0,l1⟩:=L4.out.later (by omega) HJ.out;obtain⟨h0,h1⟩:=H4.out.later (by omega) HJ.out;have HF:=Hd (B4.out.trans (HJ.out.mono B4.out.size));obtain⟨q1,q2,q3,q4⟩:=HA.out;have e0:axG lo 1=lo.2:=rfl;have e1:axG hi 1=hi.2:=rfl;by_cases hc3:z<3*lo.2
     ·have p2:decide (z<3*lo.2)=true:=decide_eq_true hc3
      have HBS:=Hd (HAY.out 1 (by decide) (.inl fun j hj=>by have:=q4 j hj;rw[e0];omega));have HXF:Hid (X=false):=by show _=_;rw[HXT.out,HTT.out,HBS.out];rfl
      clear q1 q2 q3 q4 HA HAY HAN HP HBS e0 e1;go_wp2;go_ret;rw[HXF.out];exact⟨rfl,HF.out⟩
     ·have p2:decide (z<3*lo.2)=false:=decide_eq_false hc3
      by_cases hc4:3*hi.2<a
      ·have p3:decide (3*hi.2<a)=true:=decide_eq_true hc4
       have HBS:=Hd (HAY.out 1 (by decide) (.inr fun j hj=>by have:=q2 j hj;rw[e1];omega));have HXF:Hid (X=false):=by show _=_;rw[HXT.out,HTT.out,HBS.out];rfl
       clear q1 q2 q3 q4 HA HAY HAN HP HBS e0 e1;go_wp2;go_ret;rw[HXF.out];exact⟨rfl,HF.out⟩
      ·have p3:decide (3*hi.2<a)=false:=decide_eq_false hc4
       have HP2:Hid (∀ j,j<1+1->(∃ q,q<6/\3*axG lo j<=axG (prG l q) j)/\∃q,q<6/\axG (prG l q) j<=3*axG hi j):=fun j hj=>by
        by_cases e:j=1
        ·subst e
         obtain⟨j1,g1,f1⟩:=q1;obtain⟨j3,g3,f3⟩:=q3;exact⟨⟨j3,g3,by rw[<- f3,e0];omega⟩,j1,g1,by rw[<- f1,e1];omega⟩
        ·exact HP.out j (by omega)
       have HJE:=HJ;clear q1 q2 q3 q4 HA HP e0 e1;go_wp2
       go_roundw
       case rel=>exact⟨1+1,by omega,by go_num,HP2.out,HJE.out⟩
       case measure=>simp[intOf]
  ·have p0:decide ((i:Int)<2)=false:=decide_eq_false (by omega)
   have HBS:=Hd (HAN.out fun j hj=>HI.out.1 j (by omega));have HXA:Hid (X=A):=by show _=_;rw[HXT.out,HTT.out,HBS.out];rfl
   have HI4:=Hd HI.out.2;clear HI HBS HAN HAY HXT HTT;go_wp2
   go_loopw [13] (fun iv wr=>∃(i:Nat),i<=6/\iv=.int .i64 i/\Hid ((∀ j,j<i->∃q,q<4/\0<=crossE (prG l j) (prG l ((j+1)%6)) (prG C q))/\Below w4.heap.size w4 wr)) (fun i _=>6-(intOf i).toNat)
   case atStart=>exact⟨0,by omega,rfl,fun j hj=>by omega,HI4.out⟩
   case round=>
    obtain⟨e,hi6,rfl,HI⟩:=hrel;obtain⟨wi,rfl⟩:∃wi,wi=wr:=⟨_,rfl⟩;have hsi:=HI.out.2.size;by_cases hlt:e<6
    ·have p1:decide ((e:Int)<6)=true:=decide_eq_true (by omega)
     obtain⟨m,hm,hm6,hmk⟩:∃m:Nat,((e:Int)+1).tmod 6=m/\m<6/\(e+1)%6=m:=⟨(e+1)%6,by rw[Int.tmod_eq_emod_of_nonneg (by omega)];omega,by omega,rfl⟩;obtain⟨n,hn,hn6,hnk⟩:∃n:Nat,((e:Int)+3).tmod 6=n/\n<6/\(e+3)%6=n:=⟨(e+3)%6,by rw[Int.tmod_eq_emod_of_nonneg (by omega)];omega,by omega,rfl⟩;have hsd:=HSD.out e hlt;rw[hmk,hnk]at hsd;have hcr:=HCR.out e hlt;rw[hmk]at hcr;have hoy:=HOY.out e hlt;rw[hmk]at hoy;have HNX:Hid ((∃ q,q<4/\0<=crossE (prG l e) (prG l m) (prG C q))->∀j,j<e+1->∃q,q<4/\0<=crossE (prG l j) (prG l ((j+1)%6)) (prG C q)):=fun h j hj=>by
      by_cases ee:j=e
      ·rw[ee,hmk];exact h
      ·exact HI.out.1 j (by omega)
     have HIB:=Hd HI.out.2;obtain⟨c0,c1⟩:=HCC.out wi HI.out.2 e hlt;obtain⟨d0,d1⟩:=HCC.out wi HI.out.2 m hm6;have HOO:Hid (∀ wx,Below wi.heap.size wi wx->wx.cell? ⟨b,off+n*2,none⟩=some (.int .i64 (prG l n).1)/\wx.cell? ⟨b,off+n*2+1,none⟩=some (.int .i64 (prG l n).2)):=fun wx hx=>HCC.out wx (HIB.out.trans (hx.mono hsi)) n hn6
     have hbi:b<wi.heap.size:=by omega
     clear HI hmk hnk;generalize prG l e=p at *;generalize prG l m=q at *;generalize prG l n=o at *;have HSD1:=Hd hsd;have HCR1:=Hd hcr;have HOY1:=Hd hoy;have hi0:(0:Int)<=(e:Int):=by omega
     have hi6':(e:Int)<6:=by omega
     have hmI:(m:Int)<6:=by omega
     have hnI:(n:Int)<6:=by omega
     clear hsd hcr hoy
     go_upto_region 18 with(fail)
     go_cut [14,15]from 137 to 146 (fun v14 v15 wx=>∃g1 g2:Nat,v14=.pointer (some ⟨g1,0,none⟩)/\v15=.pointer (some ⟨g2,0,none⟩)/\Hid (Two wx g1 (.int .i64 p.1) (.int .i64 p.2)/\Two wx g2 (.int .i64 q.1) (.int .i64 q.2)/\g1<wx.heap.size/\g2<wx.heap.size/\Below wi.heap.size wi wx))
     case first=>
      have T1:=Hd (two_pts wi p q 26);have T2:=Hd (two_pts wi q p 26);clear HSD1 HCR1 HOY1 HNX HOO
      go_region
      all_goals
       go_wp2
       go_meet
       first
        |exact⟨_,_,rfl,rfl,T1.out.1,T1.out.2.1,Nat.lt_trans (Nat.lt_succ_self _) T1.out.2.2.2,T1.out.2.2.2,T1.out.2.2.1⟩
        |exact⟨_,_,rfl,rfl,T2.out.2.1,T2.out.1,T2.out.2.2.2,Nat.lt_trans (Nat.lt_succ_self _) T2.out.2.2.2,T2.out.2.2.1⟩
     case rest=>
      obtain⟨g1,g2,rfl,rfl,HT⟩:=hcut;clear c0 c1 d0 d1;have HCX:Hid (∀ wx,Below wc.heap.size wc wx->Two wx g1 (.int .i64 p.1) (.int .i64 p.2)/\Two wx g2 (.int .i64 q.1) (.int .i64 q.2)/\Below wi.heap.size wi wx):=fun wx hx=>⟨HT.out.1.later HT.out.2.2.1 hx,HT.out.2.1.later HT.out.2.2.2.1 hx,HT.out.2.2.2.2.trans (hx.mono HT.out.2.2.2.2.size)⟩
      have hsc:=HT.out.2.2.2.2.size;clear HT
      go_upto_region 19 with(fail)
      refine wp_region_inv (fun w w'=>Below w.heap.size w w') (fun qi_ qv_ _=>qv_=([.agg #[.int .i64 p.1,.int .i64 p.2],.agg #[.int .i64 q.1,.int .i64 q.2],.slice (some ⟨b,off,none⟩) 6 c,.int .i64 e,.int .i64 ((e:Int)+3),.int .i64 n,.pointer (some ⟨b,off+n*2,none⟩),.pointer (some ⟨b,off+n*2,none⟩),.int .i64 o.1,.slice (some ⟨b,off,none⟩) 6 c,.int .i64 e,.int .i64 ((e:Int)+3),.int .i64 n,.pointer (some ⟨b,off+n*2,none⟩),.pointer (some ⟨b,off+n*2+1,none⟩),.int .i64 o.2,.int .i64 1,.int .i64 1]:List Value).getD qi_ undef) (by kernel_rfl) (by kernel_rfl) (fun _=>br) (fun _ _ _ h1 h2=>below_later h1 h1.size h2) (fun _ _ _ _ _ _ h=>h) ?_;refine inv_cons (fun wx hg hd=>?_) (fun v0=>?_)
      ·have hx:=hxo wc hg
       clear hd hg;obtain⟨⟨k1,k2⟩,-⟩:=HCX.out _ hx;go_wp2;exact⟨_,rfl,br,rfl⟩
      (try simp only[pq])
      refine inv_cons (fun wx hg hd=>?_) (fun v1=>?_)
      ·have hx:=hxo wc hg
       clear hd hg;obtain⟨-,⟨k1,k2⟩,-⟩:=HCX.out _ hx;go_wp2;exact⟨_,rfl,br,rfl⟩
      (try simp only[pq])
      refine inv_cons (fun wx hg hd=>?_) (fun v2=>?_)
      ·have hx:=hxo wc hg
       clear hd hg;go_wp2;exact⟨_,rfl,br,rfl⟩
      (try simp only[pq])
      refine inv_cons (fun wx hg hd=>?_) (fun v3=>?_)
      ·have hx:=hxo wc hg
       clear hd hg;go_wp2;exact⟨_,rfl,br,rfl⟩
      (try simp only[pq])
      refine inv_cons (fun wx hg hd=>?_) (fun v4=>?_)
      ·have hx:=hxo wc hg
       (try cases gk 3 hd (by decide) rfl rfl)
       clear hd hg;go_wp2;exact⟨_,rfl,br,rfl⟩
      (try simp only[pq])
      refine inv_cons (fun wx hg hd=>?_) (fun v5=>?_)
      ·have hx:=hxo wc hg
       (try cases gk 4 hd (by decide) rfl rfl)
       clear hd hg;go_wp2;exact⟨_,rfl,br,rfl⟩
      (try simp only[pq])
      refine inv_cons (fun wx hg hd=>?_) (fun v6=>?_)
      ·have hx:=hxo wc hg
       (try cases gk 2 hd (by decide) rfl rfl)
       (try cases gk 5 hd (by decide) rfl rfl)
       clear hd hg;go_wp2;exact⟨_,rfl,br,rfl⟩
      (try simp only[pq])
      refine inv_cons (fun wx hg hd=>?_) (fun v7=>?_)
      ·have hx:=hxo wc hg
       (try cases gk 6 hd (by decide) rfl rfl)
       clear hd hg;go_wp2;exact⟨_,rfl,br,rfl⟩
      (try simp only[pq])
      refine inv_cons (fun wx hg hd=>?_) (fun v8=>?_)
      ·have hx:=hxo wc hg
       (try cases gk 7 hd (by decide) rfl rfl)
       clear hd hg;obtain⟨k1,k2⟩:=HOO.out _ (HCX.out _ hx).2.2;go_wp2;exact⟨_,rfl,br,rfl⟩
      (try simp only[pq])
      refine inv_cons (fun wx hg hd=>?_) (fun v9=>?_)
      ·have hx:=hxo wc hg
       clear hd hg;go_wp2;exact⟨_,rfl,br,rfl⟩
      (try simp only[pq])
      refine inv_cons (fun wx hg hd=>?_) (fun v10=>?_)
      ·have hx:=hxo wc hg
       clear hd hg;go_wp2;exact⟨_,rfl,br,rfl⟩
      (try simp only[pq])
      refine inv_cons (fun wx hg hd=>?_) (fun v11=>?_)
      ·have hx:=hxo wc hg
       (try cases gk 10 hd (by decide) rfl rfl)
       clear hd hg;go_wp2;exact⟨_,rfl,br,rfl⟩
      (try simp only[pq])
      refine inv_cons (fun wx hg hd=>?_) (fun v12=>?_)
      ·have hx:=hxo wc hg
       (try cases gk 11 hd (by decide) rfl rfl)
       clear hd hg;go_wp2;exact⟨_,rfl,br,rfl⟩
      (try simp only[pq])
      refine inv_cons (fun wx hg hd=>?_) (fun v13=>?_)
      ·have hx:=hxo wc hg
       (try cases gk 9 hd (by decide) rfl rfl)
       (try cases gk 12 hd (by decide) rfl rfl)
       clear hd hg;go_wp2;exact⟨_,rfl,br,rfl⟩
      (try simp only[pq])
      refine inv_cons (fun wx hg hd=>?_) (fun v14=>?_)
      ·have hx:=hxo wc hg
       (try cases gk 13 hd (by decide) rfl rfl)
       clear hd hg;go_wp2;exact⟨_,rfl,br,rfl⟩
      (try simp only[pq])
      refine inv_cons (fun wx hg hd=>?_) (fun v15=>?_)
      ·have hx:=hxo wc hg
       (try cases gk 14 hd (by decide) rfl rfl)
       clear hd hg;obtain⟨k1,k2⟩:=HOO.out _ (HCX.out _ hx).2.2;go_wp2;exact⟨_,rfl,br,rfl⟩
      (try simp only[pq])
      refine inv_cons (fun wx hg hd=>?_) (fun v16=>?_)
      ·have hx:=hxo wc hg
       (try cases gk 0 hd (by decide) rfl rfl)
       (try cases gk 1 hd (by decide) rfl rfl)
       (try cases gk 8 hd (by decide) rfl rfl)
       (try cases gk 15 hd (by decide) rfl rfl)
       clear hd hg
       go_wp2_with fail
       refine(HSD1.out _).mono ?_;rintro e w' ⟨rfl,hb⟩;go_wp2;exact⟨_,rfl,hb,rfl⟩
      (try simp only[pq])
      refine inv_cons (fun wx hg hd=>?_) (fun v17=>?_)
      ·have hx:=hxo wc hg
       (try cases gk 16 hd (by decide) rfl rfl)
       clear hd hg;go_wp2;exact⟨_,rfl,br,rfl⟩
      (try simp only[pq])
      refine inv_done (fun wx hg hd=>?_);have hx:=hxo wc hg
      cases gl hd rfl
      clear hd hg
      (try go_simp)
      have HX9:=Hd hx;clear hx HSD1;obtain⟨w9,rfl⟩:∃w9,w9=wx:=⟨_,rfl⟩;go_wp2
      go_loopw [17,18] (fun av jv wz=>∃(j:Nat) (ap:Bool),j<=4/\jv=.int .i64 j/\av=.bool ap/\Hid ((ap=true->∀q',q'<j->crossE p q (prG C q')<0)/\(ap=false->∃q',q'<4/\0<=crossE p q (prG C q')))/\Hid (Below wc.heap.size wc wz)) (fun _ j _=>4-(intOf j).toNat)
      case atStart=>exact⟨0,true,by omega,rfl,rfl,⟨fun _ q' hq=>by omega,fun h=>by cases h⟩,HX9.out⟩
      case round=>
       obtain⟨j,ap,hj,rfl,rfl,HAP,HZ⟩:=hrel;obtain⟨wz,rfl⟩:∃wz,wz=wr:=⟨_,rfl⟩;have hsz:=HZ.out.size;by_cases hlt4:j<4
       ·have p2:decide ((j:Int)<4)=true:=decide_eq_true (by omega)
        have hj0:(0:Int)<=(j:Int):=by omega
        have hj4:(j:Int)<4:=by omega
        have hcr:=HCR1.out j hlt4;obtain⟨D,hD⟩:∃D,crossE p q (prG C j)=D:=⟨_,rfl⟩;have HST:Hid ((D<0->(ap=true->∀q',q'<j+1->crossE p q (prG C q')<0)/\(ap=false->∃q',q'<4/\0<=crossE p q (prG C q')))/\(0<=D->(false=true->∀q',q'<j+1->crossE p q (prG C q')<0)/\(false=false->∃q',q'<4/\0<=crossE p q (prG C q')))):=⟨fun hneg=>⟨fun h q' hq=>by
          by_cases e9:q'=j
          ·rw[e9,hD];exact hneg
          ·exact HAP.out.1 h q' (by omega),HAP.out.2⟩,fun hpos=>⟨fun h=>(by cases h),fun _=>⟨j,hlt4,by rw[hD];exact hpos⟩⟩⟩
        have HBC:Hid (∀ wx,Below wz.heap.size wz wx->wx.cell? ⟨w3.heap.size,j*2,none⟩=some (.int .i64 (prG C j).1)/\wx.cell? ⟨w3.heap.size,j*2+1,none⟩=some (.int .i64 (prG C j).2)):=fun wx hx=>by
         obtain⟨g,off',e,hg,hcc⟩:=HKA.out.below (HIB.out.trans (((HCX.out _ (HZ.out.trans (hx.mono hsz))).2.2).mono hsi)) (by rw[HCE.out.2];omega);cases e;have:=hcc j (by rw[HCE.out.2];exact hlt4);rw[Nat.zero_add]at this;exact this
        rw[hD]at hcr;obtain⟨S,hS,hSD⟩:∃S:Int,(if D<0 then(-1:Int)else if 0<D then 1 else 0)=S/\((D<0/\S= -1)∨(0<=D/\(S=1∨S=0))):=by
         by_cases h:D<0
         ·exact⟨-1,by rw[if_pos h],.inl ⟨h,rfl⟩⟩
         ·by_cases h2:0<D
          ·exact⟨1,by rw[if_neg h,if_pos h2],.inr ⟨by omega,.inl rfl⟩⟩
          ·exact⟨0,by rw[if_neg h,if_neg h2],.inr ⟨by omega,.inr rfl⟩⟩
        rw[hS]at hcr;have HCJ:=Hd hcr;have HSD2:=Hd hSD;generalize prG C j=cj at *;clear hcr hS hSD hD
        go_upto_region 24 with(fail)
        refine wp_region_inv (fun w w'=>Below w.heap.size w w') (fun qi_ qv_ _=>qv_=([.agg #[.int .i64 p.1,.int .i64 p.2],.agg #[.int .i64 q.1,.int .i64 q.2],.int .i64 j,.pointer (some ⟨w3.heap.size,j*2,none⟩),.pointer (some ⟨w3.heap.size,j*2,none⟩),.int .i64 cj.1,.int .i64 j,.pointer (some ⟨w3.heap.size,j*2,none⟩),.pointer (some ⟨w3.heap.size,j*2+1,none⟩),.int .i64 cj.2,.int .i64 S,.int .i64 S]:List Value).getD qi_ undef) (by kernel_rfl) (by kernel_rfl) (fun _=>br) (fun _ _ _ h1 h2=>below_later h1 h1.size h2) (fun _ _ _ _ _ _ h=>h) ?_;refine inv_cons (fun wx hg hd=>?_) (fun v0=>?_)
        ·have hx:=hxo wz hg
         clear hd hg;obtain⟨⟨k1,k2⟩,-⟩:=HCX.out _ (HZ.out.trans (hx.mono hsz));go_wp2;exact⟨_,rfl,br,rfl⟩
        (try simp only[pq])
        refine inv_cons (fun wx hg hd=>?_) (fun v1=>?_)
        ·have hx:=hxo wz hg
         clear hd hg;obtain⟨-,⟨k1,k2⟩,-⟩:=HCX.out _ (HZ.out.trans (hx.mono hsz));go_wp2;exact⟨_,rfl,br,rfl⟩
        (try simp only[pq])
        refine inv_cons (fun wx hg hd=>?_) (fun v2=>?_)
        ·have hx:=hxo wz hg
         clear hd hg;go_wp2;exact⟨_,rfl,br,rfl⟩
        (try simp only[pq])
        refine inv_cons (fun wx hg hd=>?_) (fun v3=>?_)
        ·have hx:=hxo wz hg
         (try cases gk 2 hd (by decide) rfl rfl)
         clear hd hg;go_wp2;exact⟨_,rfl,br,rfl⟩
        (try simp only[pq])
        refine inv_cons (fun wx hg hd=>?_) (fun v4=>?_)
        ·have hx:=hxo wz hg
         (try cases gk 3 hd (by decide) rfl rfl)
         clear hd hg;go_wp2;exact⟨_,rfl,br,rfl⟩
        (try simp only[pq])
        refine inv_cons (fun wx hg hd=>?_) (fun v5=>?_)
        ·have hx:=hxo wz hg
         (try cases gk 4 hd (by decide) rfl rfl)
         clear hd hg;obtain⟨k1,k2⟩:=HBC.out _ hx;go_wp2;exact⟨_,rfl,br,rfl⟩
        (try simp only[pq])
        refine inv_cons (fun wx hg hd=>?_) (fun v6=>?_)
        ·have hx:=hxo wz hg
         clear hd hg;go_wp2;exact⟨_,rfl,br,rfl⟩
        (try simp only[pq])
        refine inv_cons (fun wx hg hd=>?_) (fun v7=>?_)
        ·have hx:=hxo wz hg
         (try cases gk 6 hd (by decide) rfl rfl)
         clear hd hg;go_wp2;exact⟨_,rfl,br,rfl⟩
        (try simp only[pq])
        refine inv_cons (fun wx hg hd=>?_) (fun v8=>?_)
        ·have hx:=hxo wz hg
         (try cases gk 7 hd (by decide) rfl rfl)
         clear hd hg;go_wp2;exact⟨_,rfl,br,rfl⟩
        (try simp only[pq])
        refine inv_cons (fun wx hg hd=>?_) (fun v9=>?_)
        ·have hx:=hxo wz hg
         (try cases gk 8 hd (by decide) rfl rfl)
         clear hd hg;obtain⟨k1,k2⟩:=HBC.out _ hx;go_wp2;exact⟨_,rfl,br,rfl⟩
        (try simp only[pq])
        refine inv_cons (fun wx hg hd=>?_) (fun v10=>?_)
        ·have hx:=hxo wz hg
         (try cases gk 0 hd (by decide) rfl rfl)
         (try cases gk 1 hd (by decide) rfl rfl)
         (try cases gk 5 hd (by decide) rfl rfl)
         (try cases gk 9 hd (by decide) rfl rfl)
         clear hd hg
         go_wp2_with fail
         refine(HCJ.out _).mono ?_;rintro e w' ⟨rfl,hb⟩;go_wp2;exact⟨_,rfl,hb,rfl⟩
        (try simp only[pq])
        refine inv_cons (fun wx hg hd=>?_) (fun v11=>?_)
        ·have hx:=hxo wz hg
         (try cases gk 10 hd (by decide) rfl rfl)
         clear hd hg;go_wp2;exact⟨_,rfl,br,rfl⟩
        (try simp only[pq])
        refine inv_done (fun wx hg hd=>?_);have hx:=hxo wz hg
        cases gl hd rfl
        clear hd hg
        (try go_simp)
        have HZX:=Hd (HZ.out.trans (hx.mono hsz));clear hx HBC HCJ HZ;rcases HSD2.out with⟨hneg,rfl⟩|⟨hpos,hs2⟩
        ·have HA3:=Hd (HST.out.1 hneg)
         clear HAP HSD2 HST hneg;cases ap
         all_goals
          go_wp2
          go_roundw
          case rel=>exact⟨j+1,_,by omega,by go_num,rfl,HA3.out,HZX.out⟩
          case measure=>simp[intOf];omega
        ·have HA3:=Hd (HST.out.2 hpos)
         clear HAP HSD2 HST hpos;rcases hs2 with rfl|rfl
         all_goals
          cases ap
          all_goals
           go_wp2
           go_roundw
           case rel=>exact⟨j+1,false,by omega,by go_num,rfl,HA3.out,HZX.out⟩
           case measure=>simp[intOf];omega
       ·obtain rfl:j=4:=by omega
        have p2:decide (((4:Nat):Int)<4)=false:=by decide
        have HIX:=Hd (HIB.out.trans ((HCX.out _ HZ.out).2.2.mono hsi));cases ap with
        |true=>
         have HXF:Hid (X=false):=by show _=_;rw[HXA.out];exact HOY1.out (HAP.out.1 rfl)
         have HF:=Hd (B4.out.trans (HIX.out.mono B4.out.size));clear HAP HZ HCX HNX;go_wp2;go_ret;rw[HXF.out];exact⟨rfl,HF.out⟩
        |false=>
         have HN3:=Hd (HNX.out (HAP.out.2 rfl));clear HAP HZ HCX HNX;go_wp2
         go_roundw
         case rel=>exact⟨e+1,by omega,by go_num,HN3.out,HIX.out⟩
         case measure=>simp[intOf];omega
    ·obtain rfl:e=6:=by omega
     have p1:decide (((6:Nat):Int)<6)=false:=by decide
     have HXF:Hid (X=true):=by show _=_;rw[HXA.out];exact HON.out HI.out.1
     have HF:=Hd (B4.out.trans (HI.out.2.mono B4.out.size));clear HI;go_wp2;go_ret;rw[HXF.out];exact⟨rfl,HF.out⟩
end
section
open Go.RowKit Go.Lib Go.Sort
theorem words_news{w:World}{B:Nat}{ao:Option Addr}{l:List Int}(h:WordsAt w B ao l):∀ad,ao=some ad->∀j u,(uV l)[j]? =some u->w.cell? (ad.add j)=some u:=fun ad e j u hj=>by
 have hjl:j<l.length:=by have:=(List.getElem?_eq_some_iff.1 hj).1;rwa[uV_len]at this
 obtain⟨b,off,e2,_,hc⟩:=h (by omega);rw[e2]at e;cases e;rw[uV_get l j hjl]at hj;cases hj;have hadd:(⟨b,off,none⟩:Addr).add j=⟨b,off+j,none⟩:=by unfold Addr.add;split <;> simp_all
 rw[hadd];exact hc j hjl
theorem append_words{w:World}{base n m c:Nat}{v:Value}{xs l:List Int}{ao:Option Addr}(hown:w.ownsRow base 35 1 v n (uV xs))(hw:WordsAt w w.heap.size ao l)(hl:l.length=m)(hz:ao=none->m=0/\c=0)(hb:base<=w.heap.size)(hn:n+m<=1000000):
  ∃v' w',(Builtin.append_ #[22,22] 22 #[v,.slice ao m c]).run Tryz.prog w=.ok v' w'/\w'.ownsRow base 35 1 v' (n+m) (uV (xs++l))/\w.grownBy w' v.ownBlock:=by
 obtain⟨i0,hi,hz0,hz1,hz2⟩:=info_parts info_u;have hu:uV (xs++l)=uV xs++uV l:=by simp[uV]
 cases ao with
 |none=>
  obtain⟨rfl,rfl⟩:=hz rfl;obtain rfl:l=[]:=List.eq_nil_of_length_eq_zero hl;refine⟨v,w,run_append_owned_none w base 22 22 35 i0 1 Tryz.underlying22 hi v n (uV xs) hown,by simpa using hown,⟨rfl,rfl,rfl,lr,fun _ _ _=>rfl⟩⟩
 |some ad=>
  obtain⟨v',w',hr,h2,h3,_⟩:=run_append_own w base 22 22 35 i0 (.int .u64 0) 1 8 Tryz.underlying22 hi hz0 hz1 hz2 rfl (by decide) v n (uV xs) hown ad m c (uV l) (by rw[uV_len,hl,Nat.mul_one]) (words_news hw ad rfl) (uV_cell l) (by unfold maxLen;omega) (by omega) hb;exact⟨v',w',hr,by rw[hu];exact h2,h3⟩
theorem wpList_append_want{P:Program}(w:World){ops:Array Oper}{rest:List Oper}{o:Oper}{a:Act}{Q:Exit->Act->World->Prop}(hgd:Region.wanted o (yielded ops a.tmps)=true)(s x:Operand)(t tn:TypeId)
  (ho:o.op=.call { callee:=.builtin .append,args:=#[s,x],argTypes:=#[t,tn] }) (vs vx:Value) (hs:a.eval s=vs) (hx:a.eval x=vx)
  (v':Value) (w':World) (hr:(Builtin.append_ #[t,tn] o.type #[vs,vx]).run P w=.ok v' w') (h:wpList P ops Q rest (a.put o.dst v') w'):wpList P ops Q (o::rest) a w:=by
 unfold wpList;rw[if_pos hgd];exact .inl (wp_append_run w s x t tn ho vs vx hs hx v' w' hr h)
theorem rset_own_n{w:World}{ao:Option Addr}{n c:Nat}{l:List Int}(hn:n=l.length)(hl:n<=1000000)(h:WordsAt w w.heap.size ao l):Calls Tryz.prog 12 #[.slice ao n c] w fun e w'=>∃ao' c',e=.returned (.slice ao' (setF l).length c')/\w'.ownsRow w.heap.size 35 1 (.slice ao' (setF l).length c') (setF l).length (uV (setF l))/\Below w.heap.size w w':=by
 subst hn;exact rset_own ao c l w h (by omega)
theorem same_n{w:World}{ao bo:Option Addr}{n m c d:Nat}{a b:List Int}(hn:n=a.length)(hm:m=b.length)(hl:n<=1000000)(ha:WordsAt w w.heap.size ao a)(hb:WordsAt w w.heap.size bo b):
  Calls Tryz.prog 10 #[.slice ao n c,.slice bo m d] w fun e w'=>e=.returned (.bool (decide (a=b)))/\Below w.heap.size w w':=by
 subst hn;subst hm;exact same_any ao bo c d a b w _ _ ha hb (by omega)
theorem rhas_n{w:World}{ao:Option Addr}{n c:Nat}{l:List Int}(x:Int)(hn:n=l.length)(hl:n<=1000000)(h:WordsAt w w.heap.size ao l)(hr:Rising l):
  Calls Tryz.prog 13 #[.slice ao n c,.int .u64 x] w fun e w'=>e=.returned (.bool (hasF l x))/\w=w':=by
 subst hn;exact rhas_any ao c l x w _ h (by omega) hr
def LAt(w:World)(ao:Option Addr)(n c:Nat)(L:List Int):Prop:=n=L.length/\WordsAt w w.heap.size ao L/\(ao=none->n=0/\c=0)
theorem LAt.later{w w':World}{ao:Option Addr}{n c:Nat}{L:List Int}(h:LAt w ao n c L)(hb:Below w.heap.size w w'):LAt w' ao n c L:=⟨h.1,(h.2.1.below hb lr).wider hb.size,h.2.2⟩
theorem LAt.of_own{w:World}{base n c:Nat}{ao:Option Addr}{L:List Int}(hn:n=L.length)(h:w.ownsRow base 35 1 (.slice ao n c) n (uV L)):LAt w ao n c L:=
 ⟨hn,words_own hn h,fun e=>by
  rcases h.2 with⟨hv,h0⟩|⟨g,cap,cur,hv,_⟩
  ·simp only[Value.slice.injEq]at hv;exact⟨hv.2.1,hv.2.2⟩
  ·simp only[Value.slice.injEq]at hv;rw[e]at hv;cases hv.1⟩
end
section
open Go.RowKit Go.Lib Wd Cv
theorem nodup_sub:∀(H l:List E2),H.Nodup->(∀ p∈H,p∈l)->H.length<=l.length
 |[],_,_,_=>Nat.zero_le _
 |a::H,l,hn,h=>by
  rw[List.nodup_cons]at hn;have ha:=h a (by simp);have h1:=nodup_sub H (l.erase a) hn.2 fun p hp=>(List.mem_erase_of_ne (fun(e:p=a)=>hn.1 (e ▸ hp))).2 (h p (by simp[hp]))
  rw[List.length_erase_of_mem ha]at h1;have:=List.length_pos_of_mem ha;simp only[List.length_cons];omega
def WApt(w:World)(fo ao:Option Addr)(L:List Int):Prop:=∃b off,fo=some ⟨b,off,none⟩/\b<w.heap.size/\(∀ i,i<L.length->w.cell? ⟨b,off+i,none⟩=some (.int .u64 (L.getD i 0)))/\∀g o s,ao=some ⟨g,o,s⟩->g≠b
theorem WApt.words{w:World}{fo ao:Option Addr}{L:List Int}(h:WApt w fo ao L):WordsAt w w.heap.size fo L:=fun _=>by
 obtain⟨b,off,h1,h2,h3,_⟩:=h;exact⟨b,off,h1,h2,h3⟩
theorem WApt.later{w w':World}{fo ao:Option Addr}{L:List Int}(h:WApt w fo ao L)(hb:Below w.heap.size w w'):WApt w' fo ao L:=by
 obtain⟨b,off,h1,h2,h3,h4⟩:=h;exact⟨b,off,h1,Nat.lt_of_lt_of_le h2 hb.size,fun i hi=>(hb.cell (p:=⟨b,_,none⟩) h2).trans (h3 i hi),h4⟩
theorem WApt.push{w w':World}{fo ao ao':Option Addr}{L:List Int}(h:WApt w fo ao L)(ht:Turn (fun k=>∃o s,ao=some ⟨k,o,s⟩) w w')(hn:∀k o s,ao'=some ⟨k,o,s⟩->(∃ o s,ao=some ⟨k,o,s⟩)∨w.heap.size<=k):WApt w' fo ao' L:=by
 obtain⟨b,off,h1,h2,h3,h4⟩:=h;refine⟨b,off,h1,Nat.lt_of_lt_of_le h2 ht.2.2.2.1,fun i hi=>?_,fun g o s e=>?_⟩
 ·exact(ht.cell (p:=⟨b,_,none⟩) h2 (fun⟨o,s,e⟩=>h4 b o s e rfl)).trans (h3 i hi)
 ·rcases hn g o s e with⟨o2,s2,e2⟩|h5
  ·exact h4 g o2 s2 e2
  ·omega
theorem WApt.cut{w:World}{fo:Option Addr}{g o o':Nat}{L:List Int}(h:WApt w fo (some ⟨g,o,none⟩) L):WApt w fo (some ⟨g,o',none⟩) L:=by
 obtain⟨b,off,h1,h2,h3,h4⟩:=h;exact⟨b,off,h1,h2,h3,fun g2 o2 s2 e=>by cases e;exact h4 g o none rfl⟩
theorem WApt.of_own{w w':World}{ao fo:Option Addr}{n c:Nat}{L:List Int}(hn:n=L.length)(h0:0<n)(h:w'.ownsRow w.heap.size 35 1 (.slice fo n c) n (uV L))(ha:∀g o s,ao=some ⟨g,o,s⟩->g<w.heap.size):WApt w' fo ao L:=by
 obtain⟨b,off,e,h1,h2⟩:=words_own hn h (by omega);refine⟨b,off,e,h1,h2,fun g o s e2 he=>?_⟩;have:=(own_lt h b off none e).1;have:=ha g o s e2;omega
def RboxP(w:World)(R:Nat)(lo hi:E2)(most:Nat)(e:Ending)(w':World):Prop:=
 (e=.returned (.tuple #[.slice none 0 0,.bool false])∨∃L ao c n,IsBox R lo hi L/\L.length<=most/\e=.returned (.tuple #[.slice ao n c,.bool true])/\n=L.length/\WordsAt w' w'.heap.size ao L)/\Below w.heap.size w w'
theorem rbox_any(lo hi:E2){R:Nat}(hc:chE lo hi R=0)(most:Nat)(hm1:1<=most)(hm:most<=1000)(w:World):Calls Tryz.prog 49 #[vE lo,vE hi,.int .i64 R,.int .i64 most] w (RboxP w R lo hi most):=by
 obtain⟨i0,hi0,hz0,hz1,hz2⟩:=info_parts info_u;obtain⟨⟨_,r12⟩,wlo,whi,hx,hy⟩:=ch_ok hc;have hR:R<=12:=by omega
 have clo:=(worldB_iff _ _).1 wlo;have chi:=(worldB_iff _ _).1 whi;have hok0:=near_ok0 clo.1 clo.2 hR;have ht0:TouchP (hexC (12-R) (nearE lo.1 lo.2 R)) (triE lo) (triE hi):=touch_at (by omega) ⟨Int.le_refl _,hx⟩ ⟨Int.le_refl _,hy⟩ (inZ_near hR);have HNR:=Hd (fun w=>rnear_in lo.1 lo.2 clo.1 clo.2 R hR w);have HWO:=Hd (fun w=>word_any R (nearE lo.1 lo.2 R) w);rw[(ofW_okF hok0).1,(ofW_okF hok0).2]at HWO;have HST:Hid (RInv R lo hi (nearE lo.1 lo.2 R) [nearE lo.1 lo.2 R] [nearE lo.1 lo.2 R]/\setF (wF R [nearE lo.1 lo.2 R])=[((wordN R (nearE lo.1 lo.2 R):Nat):Int)]/\wF R [nearE lo.1 lo.2 R]=[((wordN R (nearE lo.1 lo.2 R):Nat):Int)]):=
  ⟨RInv.start hok0 ht0,setF_up_eq (by unfold Up;simp[wF]),rfl⟩
 have HFB:Hid (∀ F,RInv R lo hi (nearE lo.1 lo.2 R) F []->F.length<=20000->IsBox R lo hi (setF (wF R F))):=fun F h hl=>found_box hR hx hy h hl
 have HDN:Hid (∀ F T t j,RMid R lo hi (nearE lo.1 lo.2 R) t F T (rgsL (wordN R t) 1 1 1) j->(rgsL (wordN R t) 1 1 1).length<=j->RInv R lo hi (nearE lo.1 lo.2 R) F T):=fun F T t j h hj=>h.done hR wlo whi hx hy hj
 have HNE:Hid (∀ t,okB R t=true->(∀ w,Calls Tryz.prog 24 #[.int .u64 (wordN R t:Nat)] w (ToldOwn w (rgsL (wordN R t) 1 1 1) 0))/\(rgsL (wordN R t) 1 1 1).length<=6):=fun t ht=>by
  have h1:=(wordN_lt ht).1;have h2:=rgs_word ht 1 1 1 1 (by omega) (by omega) (by omega);rw[(ofW_okF ht).1]at h2;refine⟨fun w=>?_,(nb_mem ht).2.2⟩;have:=rnei_own (wordN R t) (by omega) w;rw[h2.1]at this;exact this
 have HNY:Hid (∀ t,okB R t=true->∀j,j<(rgsL (wordN R t) 1 1 1).length->∃y,okB R y=true/\(rgsL (wordN R t) 1 1 1).getD j 0=(wordN R y:Nat)/\(∀ w,Calls Tryz.prog 14 #[.int .u64 (wordN R y:Nat)] w fun e w'=>e=.returned (.tuple #[vC R y,.int .i64 0])/\Below w.heap.size w w')/\
   ∃b:Bool,(b=true↔TouchP (hexC (12-R) y) (triE lo) (triE hi))/\∀w,Calls Tryz.prog 89 #[vC R y,vE lo,vE hi] w fun e w'=>e=.returned (.bool b)/\Below w.heap.size w w'):=fun t ht j hj=>by
  obtain⟨k,_,hy,e⟩:=(nb_mem ht).1 _ (getD_mem hj);have h1:=(wordN_lt hy).1;obtain⟨v1,v2,v3⟩:=word_cell hy;refine⟨_,hy,e,fun w=>?_,ctB R _ lo hi,?_,fun w=>rtouch_any R _ lo hi w⟩
  ·have:=rcell_any (wordN R (addE t (unitE k))) (by omega) w
   unfold cvR cvZ cvE at this;rw[if_pos v1,if_pos v1,if_pos v1,v2,v3]at this;exact this
  ·rw[ct_iff]
   exact⟨fun h=>h.2.2,fun h=>⟨(bxOk_iff _ _).2 (by omega),hy,h⟩⟩
 generalize nearE lo.1 lo.2 R=z0 at *;obtain⟨lx,ly⟩:=lo;obtain⟨ux,uy⟩:=hi;obtain⟨w1,hw1⟩:∃W,(w.alloc (.cells #[.int .i64 lx,.int .i64 ly] 26)).alloc (.cells #[.int .i64 ux,.int .i64 uy] 26)=W:=⟨_,rfl⟩;have hb1:Below w.heap.size w w1:=by rw[<- hw1];exact(br.alloc lr _).alloc (by simp) _
 have x0:w1.heap[w.heap.size]? =some (.cells #[.int .i64 lx,.int .i64 ly] 26 (0,0)):=by
  rw[<- hw1,Below.heap_alloc _ _ _ (by simp)];exact heap_new _ _ _ rfl
 have x1:w1.heap[w.heap.size+1]? =some (.cells #[.int .i64 ux,.int .i64 uy] 26 (0,0)):=by rw[<- hw1];exact heap_new _ _ _ (by simp)
 have HP0:=Hd (stay_of x0);have HP1:=Hd (stay_of x1);have HB1:=Hd hb1;have HW1:=Hd hw1;obtain⟨l0,l1,l2⟩:=cel2 x0;clear hw1 hb1 x0 x1 hok0 ht0 clo chi wlo whi hx hy r12 hc;simp only[vE,vC]at*
 go_enter Tryz.func49,Tryz.ntmps49
 go_upto_region 1 with(fail)
 rw[HW1.out];clear HW1
 go_wp2_with fail
 refine(HNR.out _).mono ?_;rintro e w2 ⟨rfl,hb2⟩;have HB2:=Hd hb2;clear hb2 l0 l1 l2 HNR
 go_upto_region 2 with(fail)
 have K2:Below w1.heap.size w1 (w2.alloc (.cells #[.int .i64 z0.1,.int .i64 z0.2] 37)):=HB2.out.alloc HB2.out.size _;have x2:(w2.alloc (.cells #[.int .i64 z0.1,.int .i64 z0.2] 37)).heap[w2.heap.size]? =some (.cells #[.int .i64 z0.1,.int .i64 z0.2] 37 (0,0)):=heap_new _ _ _ rfl;generalize w2.alloc (.cells #[.int .i64 z0.1,.int .i64 z0.2] 37)=w3 at *;generalize w2.heap.size=dz at *;obtain⟨l0,l1,l2⟩:=cel2 x2;have HB3:=Hd K2;clear K2 x2 HB2
 go_wp2_with fail
 refine(HWO.out _).mono ?_;rintro e w4 ⟨rfl,hb4⟩;have HB4:=Hd (HB3.out.trans (hb4.mono HB3.out.size));clear hb4 HWO l0 l1 l2 HB3
 as_aux_lemma=>
  go_upto_region 5 with(fail)
  generalize hW0:wordN R z0=W0 at *;have K5:Below w1.heap.size w1 ((w4.alloc (.cells #[.int .u64 W0] 35)).alloc (.cells #[.int .u64 W0] 35)):=(HB4.out.alloc HB4.out.size _).alloc (by have:=HB4.out.size;simp only[World.size_alloc];omega) _;have x5:((w4.alloc (.cells #[.int .u64 W0] 35)).alloc (.cells #[.int .u64 W0] 35)).heap[w4.heap.size]? =some (.cells #[.int .u64 W0] 35 (0,0)):=by rw[Below.heap_alloc _ _ _ (by simp)];exact heap_new _ _ _ rfl
  have x6:((w4.alloc (.cells #[.int .u64 W0] 35)).alloc (.cells #[.int .u64 W0] 35)).heap[w4.heap.size+1]? =some (.cells #[.int .u64 W0] 35 (0,0)):=heap_new _ _ _ (by simp);have hs4:=HB4.out.size;generalize(w4.alloc (.cells #[.int .u64 W0] 35)).alloc (.cells #[.int .u64 W0] 35)=w5 at *;have HI0:Hid (WApt w5 (some ⟨w4.heap.size,0,none⟩) (some ⟨w4.heap.size+1,0,none⟩) [(W0:Int)]/\MidU w5 w1.heap.size (some ⟨w4.heap.size+1,0,none⟩) 1 1 [(W0:Int)]):=by
   refine⟨⟨w4.heap.size,0,rfl,(Array.getElem?_eq_some_iff.1 x5).1,fun i hi=>?_,fun g o s e=>by cases e;omega⟩,MidU.of_new (by omega) x6⟩;have h0:i=0:=by simpa using hi
   subst h0;exact cell_of_row _ _ 0 _ _ _ x5
  have HB5:=Hd K5;clear K5 x5 x6 HB4;generalize w4.heap.size=d4 at *;clear hs4
  as_aux_lemma=>
   go_loopg [14,15] (2*(most+1)) (fun q s14 s15 wr=>∃(F T:List E2) (fo:Option Addr) (nf fc:Nat) (ao:Option Addr) (n c:Nat),s14=.slice fo nf fc/\s15=.slice ao n c/\1<=nf/\nf<=most/\2*(most+1-nf)+n<=q/\
    Hid ((RInv R (lx,ly) (ux,uy) z0 F T/\nf=(setF (wF R F)).length/\nf=F.length)/\(WApt wr fo ao (setF (wF R F))/\MidU wr w1.heap.size ao n c (wF R T))/\Below w1.heap.size w1 wr))
   case atStart=>
    refine⟨[z0],[z0],_,1,1,_,1,1,rfl,rfl,by omega,by omega,by omega,⟨HST.out.1,?_,rfl⟩,⟨?_,?_⟩,HB5.out⟩
    ·rw[HST.out.2.1];rfl
    ·rw[HST.out.2.1];exact HI0.out.1
    ·rw[HST.out.2.2];exact HI0.out.2
   case round=>
    obtain⟨F,T,fo,nf,fc,ao,n,c,rfl,rfl,hf1,hf2,hq,HR⟩:=hrel;have hTn:n=T.length:=by
     have h1:(wF R T).length=n:=HR.out.2.1.2.1;rw[<- h1,wF_length]
    cases T with
    |nil=>
     obtain rfl:n=0:=hTn;have HBX:=Hd (HFB.out F HR.out.1.1 (by have:=HR.out.1.2.2;omega));have HLE:Hid ((setF (wF R F)).length<=most):=by have:=HR.out.1.2.1;show _<=_;omega
     have HNF:=Hd HR.out.1.2.1;have HWD:=Hd HR.out.2.1.1.words;have HBR:=Hd (HB1.out.trans (HR.out.2.2.mono HB1.out.size));generalize setF (wF R F)=L at *;clear HR HNE HNY HDN HFB HST HI0 HB5
     as_aux_lemma=>
      go_wp2;go_ret2;exact⟨.inr ⟨L,fo,fc,nf,HBX.out,HLE.out,rfl,HNF.out,HWD.out⟩,HBR.out⟩
    |cons t T=>
     obtain⟨m,rfl⟩:∃m,n=m+1:=⟨T.length,hTn⟩;obtain⟨g,off,rfl,hgB,hg,hcs⟩:=HR.out.2.1.2.blk;have hokt:=(HR.out.1.1.good t (HR.out.1.1.sub t (by simp))).1;have c0:=hcs 0 (by omega);rw[Nat.add_zero,show(wF R (t::T)).getD 0 0=(wordN R t:Nat)from rfl]at c0;obtain⟨hne,hnl⟩:=HNE.out t hokt;have HNt:=Hd hne;have HYt:=Hd (HNY.out t hokt);have HDt:=Hd (fun F T j=>HDN.out F T t j);have HPOP:=Hd (HR.out.1.1.pop (rgsL (wordN R t) 1 1 1));generalize rgsL (wordN R t) 1 1 1=NL at *;generalize hWt:wordN R t=Wt at *;have hgo:(0:Int)<((m+1:Nat):Int):=by omega
     have HTN:=Hd hTn;have HWT:=Hd hWt;clear hne hcs hTn hWt
     as_aux_lemma=>
      go_upto_region 6 with(fail)
      go_wp2_with fail
      refine(HNt.out _).mono ?_;rintro e w6 ⟨lo',lc,rfl,hown,hb6⟩;have HB6:=Hd (HR.out.2.2.trans (hb6.mono HR.out.2.2.size));have HM6:=Hd (HR.out.2.1.2.later hb6);have HF6:=Hd (HR.out.2.1.1.later hb6);have HL6:Hid (NL.length=0∨WApt w6 lo' (some ⟨g,off,none⟩) NL):=by
       by_cases h0:NL.length=0
       ·exact .inl h0
       ·exact .inr (WApt.of_own rfl (by omega) hown fun g' o s e=>by cases e;exact hg)
      have HNF:=Hd (And.intro HR.out.1.2.1 HR.out.1.2.2);clear hown hb6 HNt HR c0 hg hgB;have hc1:m+1<=c:=HM6.out.2.1;obtain⟨nl,hnl2⟩:∃nl,NL.length=nl:=⟨_,rfl⟩;have HNL:=Hd hnl2;rw[hnl2]at hnl ⊢;clear hnl2
      go_upto_region 7 with(fail)
      obtain⟨bd,hbd⟩:∃bd,2*(most+1-nf)+m=bd:=⟨_,rfl⟩;have HGK:Hid (bd<2*(most+1-nf)+(m+1)):=by show _<_;omega
      have HBD:=Hd hbd;have HQ:=Hd hq;clear hbd hq
      go_cut [15]from 51 to 52 (fun s15 wr'=>∃(ao2:Option Addr) (c2:Nat),s15=.slice ao2 m c2/\Hid (MidU wr' w1.heap.size ao2 m c2 (wF R T)/\WApt wr' fo ao2 (setF (wF R F))/\(nl=0∨WApt wr' lo' ao2 NL)/\Below w1.heap.size w1 wr'))
      case first=>
       obtain⟨c',rfl⟩:∃c',c=c'+1:=⟨c-1,by omega⟩;by_cases hc0:c'=0
       ·have hm0:m=0:=by omega
        subst hc0;subst hm0;clear HTN HWT HGK HBD HQ;have HML:=Hd (And.intro (MidU.last HM6.out) (And.intro HF6.out (And.intro (show nl=0∨_ by have:=HL6.out;rwa[HNL.out]at this) HB6.out)));clear HM6 HF6 HL6 HPOP HYt HDt HNF;go_wp2
        go_meet
        exact⟨_,_,rfl,HML.out⟩
       ·have hne1:¬(c'+1=1):=by omega
        clear HTN HWT HGK HBD HQ;have HMT:=Hd (And.intro (MidU.tail HM6.out) (And.intro (HF6.out.cut (o':=off+1)) (And.intro (show nl=0∨WApt w6 lo' (some ⟨g,off+1,none⟩) NL by have:=HL6.out;rw[HNL.out]at this;exact this.imp (fun h=>h) fun h=>h.cut) HB6.out)));clear HM6 HF6 HL6 HPOP HYt HDt HNF;go_wp2
        go_meet
        exact⟨_,_,rfl,HMT.out⟩
      case rest=>
       obtain⟨ao2,c2,rfl,HC⟩:=hcut;clear HM6 HF6 HL6 HB6 hc1
       as_aux_lemma=>
        go_upto_region 9 with(fail)
        go_loopg [14,15,18] nl (fun q2 s14 s15 s18 wr2=>∃(F T:List E2) (fo:Option Addr) (nf fc:Nat) (ao:Option Addr) (n c j:Nat),s14=.slice fo nf fc/\s15=.slice ao n c/\s18=.int .i64 j/\j<=nl/\nl-j<=q2/\1<=nf/\nf<=most/\2*(most+1-nf)+n<=bd/\
         Hid ((RMid R (lx,ly) (ux,uy) z0 t F T NL j/\nf=(setF (wF R F)).length/\nf=F.length)/\(WApt wr2 fo ao (setF (wF R F))/\(nl=0∨WApt wr2 lo' ao NL)/\MidU wr2 w1.heap.size ao n c (wF R T))/\Below w1.heap.size w1 wr2))
        case atStart=>exact⟨F,T,fo,nf,fc,ao2,m,c2,0,rfl,rfl,by go_num,by omega,by omega,hf1,hf2,by have:=HBD.out;omega,⟨HPOP.out,HNF.out.1,HNF.out.2⟩,⟨HC.out.2.1,HC.out.2.2.1,HC.out.1⟩,HC.out.2.2.2⟩
        case round=>
         clear HC HPOP HNF;obtain⟨F2,T2,fo2,nf2,fc2,ao3,n3,c3,j,rfl,rfl,rfl,hj,hq2,hf3,hf4,hq3,HR2⟩:=hrel;by_cases hlt:j<nl
         ·obtain⟨y,hy,hyw,hcell,b,hb,htch⟩:=HYt.out j (by rw[HNL.out];exact hlt)
          obtain⟨lb,loff,hlo,hlb,hlc,hla⟩:=HR2.out.2.1.2.1.resolve_left (by omega);subst hlo;have hcl:=hlc j (by rw[HNL.out];exact hlt);rw[hyw]at hcl;have HCL:Hid (∀ wx,Below wr.heap.size wr wx->wx.cell? ⟨lb,loff+j,none⟩=some (.int .u64 (wordN R y:Nat))):=fun wx hx=>(hx.cell (p:=⟨lb,loff+j,none⟩) hlb).trans hcl
          have hFH:=found_has (fun z hz=>(HR2.out.1.1.good z hz).1) hy;have HHAS:=Hd (fun w (h:WordsAt w w.heap.size fo2 (setF (wF R F2)))=>rhas_n (w:=w) (ao:=fo2) (n:=nf2) (c:=fc2) (wordN R y:Nat) HR2.out.1.2.1 (by omega) h (setF_up _).rising);have HCE:=Hd hcell;have HTC:=Hd htch;have HTB:=Hd hb;obtain⟨hv,hhv⟩:∃hv,hasF (setF (wF R F2)) (wordN R y:Nat)=hv:=⟨_,rfl⟩;rw[hhv]at HHAS hFH;have HFH:=Hd hFH;have HPUT:=Hd (found_put R F2 y);have HWF:Hid (wF R (T2++[y])=wF R T2++[((wordN R y:Nat):Int)]):=by
           show _=_;unfold wF;rw[List.map_append]
           rfl
          have HYW:=Hd hyw;have HSK:Hid ((y∈F2∨¬TouchP (hexC (12-R) y) (triE (lx,ly)) (triE (ux,uy)))->RMid R (lx,ly) (ux,uy) z0 t F2 T2 NL (j+1)):=fun h=>HR2.out.1.1.skip hy hyw h
          have HADD:Hid (y∉F2->TouchP (hexC (12-R) y) (triE (lx,ly)) (triE (ux,uy))->RMid R (lx,ly) (ux,uy) z0 t (y::F2) (T2++[y]) NL (j+1)):=fun h1 h2=>HR2.out.1.1.add hy hyw h1 h2
          generalize wordN R y=Wy at *;have hji:(j:Int)<(nl:Int):=by omega
          have HN2:Hid (nf2<=1000):=by show _<=_;omega
          clear hlc hcell htch hb hFH hyw hhv
          as_aux_lemma=>
           go_upto_region 11 with(fail)
           go_wp2_with fail
           refine(HCE.out _).mono ?_;rintro e w7 ⟨rfl,hb7⟩;have K7:Below wr.heap.size wr (w7.alloc (.cells #[.int .i64 R,.int .i64 y.1,.int .i64 y.2] 39)):=hb7.alloc hb7.size _;have x7:(w7.alloc (.cells #[.int .i64 R,.int .i64 y.1,.int .i64 y.2] 39)).heap[w7.heap.size]? =some (.cells #[.int .i64 R,.int .i64 y.1,.int .i64 y.2] 39 (0,0)):=heap_new _ _ _ rfl;clear hcl hb7 HCE
           go_upto_region 12 with(fail)
           generalize w7.alloc (.cells #[.int .i64 R,.int .i64 y.1,.int .i64 y.2] 39)=w8 at *;generalize w7.heap.size=dy at *;have c8:=HCL.out w8 K7;have HB8:=Hd K7;obtain⟨k1,k2,k3,k4⟩:=cel3 x7;obtain⟨l1,l2,l3⟩:=cel2 (HP0.out w8 (HR2.out.2.2.trans (K7.mono HR2.out.2.2.size)));obtain⟨m1,m2,m3⟩:=cel2 (HP1.out w8 (HR2.out.2.2.trans (K7.mono HR2.out.2.2.size)));have HFW:=Hd (HHAS.out w8 (HR2.out.2.1.1.later K7).words);clear K7 x7 HHAS
           go_wp2_with fail
           refine HFW.out.mono ?_;rintro e w9 ⟨rfl,rfl⟩;clear HFW;cases hv with
           |true=>
            have HNX:=Hd (HSK.out (.inl (HFH.out.1 rfl)));clear HTC HTB HFH HPUT HSK k1 k2 k3 k4 l1 l2 l3 m1 m2 m3 c8 HYt HDt
            as_aux_lemma=>
             go_wp2
             go_roundg (nl-(j+1))
             case measure=>omega
             case rel=>exact⟨F2,T2,fo2,nf2,fc2,ao3,n3,c3,j+1,rfl,rfl,by go_num,by omega,lr,hf3,hf4,hq3,⟨HNX.out,HR2.out.1.2⟩,⟨HR2.out.2.1.1.later HB8.out,.inr ((HR2.out.2.1.2.1.resolve_left (by omega)).later HB8.out),HR2.out.2.1.2.2.later HB8.out⟩,HR2.out.2.2.trans (HB8.out.mono HR2.out.2.2.size)⟩
           |false=>
            have hyF:y∉F2:=fun h=>by have:=HFH.out.2 h;cases this
            have HYF:=Hd hyF;clear hyF HFH
            as_aux_lemma=>
             go_wp2_with fail
             refine(HTC.out _).mono ?_;rintro e w10 ⟨rfl,hb10⟩;have HB10:=Hd (HB8.out.trans (hb10.mono HB8.out.size));clear k1 k2 k3 k4 l1 l2 l3 m1 m2 m3 c8 HB8 hb10 HTC;cases b with
             |false=>
              have HNX:=Hd (HSK.out (.inr fun h=>by have:=HTB.out.2 h;cases this));clear HTB HPUT HSK HYt HDt HYF
              as_aux_lemma=>
               go_wp2
               go_roundg (nl-(j+1))
               case measure=>omega
               case rel=>exact⟨F2,T2,fo2,nf2,fc2,ao3,n3,c3,j+1,rfl,rfl,by go_num,by omega,lr,hf3,hf4,hq3,⟨HNX.out,HR2.out.1.2⟩,⟨HR2.out.2.1.1.later HB10.out,.inr ((HR2.out.2.1.2.1.resolve_left (by omega)).later HB10.out),HR2.out.2.1.2.2.later HB10.out⟩,HR2.out.2.2.trans (HB10.out.mono HR2.out.2.2.size)⟩
             |true=>
              have HNX:=Hd (HADD.out HYF.out (HTB.out.1 rfl));have HFL:Hid (nf2+1=(setF (wF R (y::F2))).length/\nf2+1=(y::F2).length):=by
               refine⟨?_,by rw[List.length_cons, <-HR2.out.1.2.2]⟩;rw[found_len HNX.out.nf fun z hz=>(HNX.out.good z hz).1,List.length_cons, <-HR2.out.1.2.2]
              have c10:=HCL.out w10 HB10.out;have hU:=HR2.out.1.2.1;have hF10:=HR2.out.2.1.1.later HB10.out;obtain⟨fb,foff,hfo,-⟩:=id hF10;have hb0:Below w10.heap.size w10 (w10.alloc (.cells #[.int .u64 Wy] 35)):=br.alloc lr _;have hn2:=HN2.out;obtain⟨x1,wA,hrA,hA,hgA⟩:=append_words (w:=w10.alloc (.cells #[.int .u64 Wy] 35)) (base:=w10.heap.size) (n:=1) (v:=.slice (some ⟨w10.heap.size,0,none⟩) 1 1) (xs:=[(Wy:Int)]) (l:=setF (wF R F2)) (ao:=fo2) (m:=nf2) (c:=fc2)
               (World.ownsRow_lit w10 #[.int .u64 Wy] 1 lr (by decide) rfl) (hF10.later hb0).words hU.symm (fun e=>by rw[hfo]at e;cases e) (by simp) (by omega)
              obtain⟨xo,xc,rfl,-⟩:=own_form hA;have hba:Below w10.heap.size w10 wA:=hb0.grown hgA (by simp) (by intro k hk;simp[Value.ownBlock]at hk;omega);have hsl:1+nf2=([(Wy:Int)]++setF (wF R F2)).length:=by rw[List.length_append, <-hU];rfl
              have HSET:=Hd (rset_own_n (ao:=xo) (c:=xc) hsl (by omega) (words_own hsl hA));rw[List.singleton_append,HPUT.out, <-HFL.out.1]at HSET;have HR1:=Hd hrA;have HBA:=Hd (HB10.out.trans (hba.mono HB10.out.size));have c11:=HCL.out wA HBA.out;clear hU hF10 hfo hb0 hrA hA hgA hba hsl HB10 HPUT HTB HSK HYF
              as_aux_lemma=>
               go_upto_region 13 with(fail)
               go_wp2_with(at_builtin;refine wpList_append_want _ (by kernel_rfl) (.tmp 84) (.tmp 85) 22 22 rfl _ _ rfl rfl _ _ HR1.out ?_)
               refine HSET.out.mono ?_;rintro e w11 ⟨so,sc,rfl,hs,hb11⟩;have HB11:=Hd (HBA.out.trans (hb11.mono HBA.out.size));have hM11:=(HR2.out.2.1.2.2.later HBA.out);have HF11:Hid (WApt w11 so ao3 (setF (wF R (y::F2)))):=WApt.of_own HFL.out.1 (by omega) hs fun g o s e=>by
                obtain⟨g2,o2,e2,_,h4,_⟩:=hM11.blk;rw[e]at e2;cases e2;exact h4
               have hb12:Below w11.heap.size w11 (w11.alloc (.cells #[.int .u64 Wy] 35)):=br.alloc lr _;have c12:(w11.alloc (.cells #[.int .u64 Wy] 35)).cell? ⟨w11.heap.size,0,none⟩=some (.int .u64 Wy):=cell_of_row _ _ 0 _ _ _ (heap_new w11 (.cells #[.int .u64 Wy] 35) _ rfl);have c13:=HCL.out w11 HB11.out;have HM12:=Hd ((hM11.later hb11).later hb12);have HB12:=Hd hb12;have hn3:n3<=1000000:=by
                have h1:(wF R T2).length=n3:=HR2.out.2.1.2.2.1;have h2:=nodup_sub T2 F2 HR2.out.1.1.nt HR2.out.1.1.sub;rw[wF_length]at h1;have h3:=HR2.out.1.2.2;omega
               have hz1:w1.heap.size<=(w11.alloc (.cells #[.int .u64 Wy] 35)).heap.size:=by
                have h1:=HR2.out.2.2.size;have h2:=HB11.out.size;have h3:=hb12.size;omega
               clear hs hb11 hM11 hb12 HBA HSET HR1 c10 c11
               as_aux_lemma=>
                go_upto_region 15 with(at_builtin;refine wpList_append_mid rfl (.tmp 88) (.tmp 93) rfl HM12.out hz1 hn3 (Wy:Int) ⟨w11.heap.size,0,none⟩ c12 rfl rfl ?_;intro ao4 c4 w13 hM13 hT13 hN13)
                have HF13:=Hd ((HF11.out.later HB12.out).push hT13 hN13);have HL13:=Hd ((((HR2.out.2.1.2.1.resolve_left (by omega)).later HB11.out).later HB12.out).push hT13 hN13);rw[<- HWF.out]at hM13;have HM13:=Hd hM13;have HB13:Hid (Below w1.heap.size w1 w13):=by
                 have h1:Below w1.heap.size w1 (w11.alloc (.cells #[.int .u64 Wy] 35)):=(HR2.out.2.2.trans (HB11.out.mono HR2.out.2.2.size)).trans (HB12.out.mono (by have:=HR2.out.2.2.size;have:=HB11.out.size;omega));refine h1.trans (hT13.below h1.size fun k hk ⟨o,s,e⟩=>?_);obtain⟨g2,o2,e2,h4,_⟩:=HM12.out.blk;rw[e]at e2;cases e2;omega
                have HFL2:=Hd HFL.out;have HHR:=Hd HNX.out;clear c12 c13 hM13 hT13 hN13 HM12 HB12 HF11 HB11 HCL HWF HFL HNX HR2 hn2 hz1;by_cases hbig:most<nf2+1
                ·have hbi:(most:Int)<((nf2+1:Nat):Int):=by omega
                 have HBR:=Hd (HB1.out.trans (HB13.out.mono HB1.out.size));clear HF13 HL13 HM13 HB13 HFL2 HHR HYt HDt
                 as_aux_lemma=>
                  go_wp2;go_ret2;exact⟨.inl rfl,HBR.out⟩
                ·have hbi:¬((most:Int)<((nf2+1:Nat):Int)):=by omega
                 clear HYt HDt
                 as_aux_lemma=>
                  go_wp2
                  go_roundg (nl-(j+1))
                  case measure=>omega
                  case rel=>exact⟨y::F2,T2++[y],so,nf2+1,sc,ao4,n3+1,c4,j+1,rfl,rfl,by go_num,by omega,lr,by omega,by omega,by omega,⟨HHR.out,HFL2.out⟩,⟨HF13.out,.inr HL13.out,HM13.out⟩,HB13.out⟩
         ·obtain rfl:j=nl:=by omega
          have hji:¬((j:Int)<(j:Int)):=by omega
          have HNX:=Hd (HDt.out F2 T2 j HR2.out.1.1 (by rw[HNL.out];exact lr));clear HYt HDt
          as_aux_lemma=>
           go_wp2
           go_roundg bd
           case measure=>have:=HGK.out;have:=HQ.out;omega
           case rel=>exact⟨F2,T2,fo2,nf2,fc2,ao3,n3,c3,rfl,rfl,hf3,hf4,hq3,⟨HNX.out,HR2.out.1.2⟩,⟨HR2.out.2.1.1,HR2.out.2.1.2.2⟩,HR2.out.2.2⟩
end
end Go.Proofs.YtpkoapmpknbgoaaGreat
namespace Go.Proofs.YtpkoapmpknbgoaaGreat.Po
section
open Go.RowKit
structure Box2 (w:World) (g h:Nat) (s:Bx):Prop where
 c0:w.cell? ⟨g,0,none⟩=some (.int .i64 s.a)
 c1:w.cell? ⟨g,1,none⟩=some (.int .i64 s.b)
 d0:w.cell? ⟨h,0,none⟩=some (.int .i64 s.c)
 d1:w.cell? ⟨h,1,none⟩=some (.int .i64 s.d)
 f0:w.frozen? ⟨g,0,none⟩=false
 f1:w.frozen? ⟨g,1,none⟩=false
 f2:w.frozen? ⟨h,0,none⟩=false
 f3:w.frozen? ⟨h,1,none⟩=false
 s1:g<w.heap.size
 s2:h<w.heap.size
 ne:g≠h
theorem Box2.drew{w:World}{g h:Nat}{s:Bx}(b:Box2 w g h s):Box2 w.drew g h s:=⟨b.c0,b.c1,b.d0,b.d1,b.f0,b.f1,b.f2,b.f3,b.s1,b.s2,b.ne⟩
theorem Box2.of{w:World}{g:Nat}{s:Bx}(b:BoxAt w g s):Box2 w g (g+1) s:=⟨b.c0,b.c1,b.d0,b.d1,b.f0,b.f1,b.f2,b.f3,by have:=b.sz;omega,b.sz,by omega⟩
theorem Box2.of'{w:World}{g:Nat}{a b c d:Int}(x:BoxAt w g ⟨c,d,a,b⟩):Box2 w (g+1) g ⟨a,b,c,d⟩:=⟨x.d0,x.d1,x.c0,x.c1,x.f2,x.f3,x.f0,x.f1,x.sz,by have:=x.sz;omega,by omega⟩
theorem Box2.lo{w:World}{g h:Nat}{s:Bx}(b:Box2 w g h s)(k:Nat)(x:Int)(s':Bx)(hk:(k=0/\s'=⟨x,s.b,s.c,s.d⟩)∨(k=1/\s'=⟨s.a,x,s.c,s.d⟩)):Box2 (w.setCell ⟨g,k,none⟩ (.int .i64 x)) g h s':=by
 have hne:=b.ne;have e1:∀(i j:Nat) (v:Value),i≠j->(w.setCell ⟨g,i,none⟩ v).cell? ⟨g,j,none⟩=w.cell? ⟨g,j,none⟩:=fun i j v hij=>World.cell?_setCell_other _ _ _ _ (fun h=>hij (congrArg Addr.off h))
 have e2:∀(i j:Nat) (v:Value),(w.setCell ⟨g,i,none⟩ v).cell? ⟨h,j,none⟩=w.cell? ⟨h,j,none⟩:=fun i j v=>World.cell?_setCell_other _ _ _ _ (fun h=>hne (congrArg Addr.block h))
 rcases hk with⟨rfl,rfl⟩|⟨rfl,rfl⟩
 ·exact⟨World.cell?_setCell_same _ _ _ b.c0,(e1 _ _ _ (by decide)).trans b.c1,(e2 _ _ _).trans b.d0,(e2 _ _ _).trans b.d1,by rw[World.frozen?_setCell];exact b.f0,by rw[World.frozen?_setCell];exact b.f1,by rw[World.frozen?_setCell];exact b.f2,by rw[World.frozen?_setCell];exact b.f3,by simpa using b.s1,by simpa using b.s2,hne⟩
 ·exact⟨(e1 _ _ _ (by decide)).trans b.c0,World.cell?_setCell_same _ _ _ b.c1,(e2 _ _ _).trans b.d0,(e2 _ _ _).trans b.d1,by rw[World.frozen?_setCell];exact b.f0,by rw[World.frozen?_setCell];exact b.f1,by rw[World.frozen?_setCell];exact b.f2,by rw[World.frozen?_setCell];exact b.f3,by simpa using b.s1,by simpa using b.s2,hne⟩
theorem Box2.hi{w:World}{g h:Nat}{s:Bx}(b:Box2 w g h s)(k:Nat)(x:Int)(s':Bx)(hk:(k=0/\s'=⟨s.a,s.b,x,s.d⟩)∨(k=1/\s'=⟨s.a,s.b,s.c,x⟩)):Box2 (w.setCell ⟨h,k,none⟩ (.int .i64 x)) g h s':=by
 have hne:=b.ne;have e1:∀(i j:Nat) (v:Value),i≠j->(w.setCell ⟨h,i,none⟩ v).cell? ⟨h,j,none⟩=w.cell? ⟨h,j,none⟩:=fun i j v hij=>World.cell?_setCell_other _ _ _ _ (fun h=>hij (congrArg Addr.off h))
 have e2:∀(i j:Nat) (v:Value),(w.setCell ⟨h,i,none⟩ v).cell? ⟨g,j,none⟩=w.cell? ⟨g,j,none⟩:=fun i j v=>World.cell?_setCell_other _ _ _ _ (fun h=>hne (congrArg Addr.block h).symm)
 rcases hk with⟨rfl,rfl⟩|⟨rfl,rfl⟩
 ·exact⟨(e2 _ _ _).trans b.c0,(e2 _ _ _).trans b.c1,World.cell?_setCell_same _ _ _ b.d0,(e1 _ _ _ (by decide)).trans b.d1,by rw[World.frozen?_setCell];exact b.f0,by rw[World.frozen?_setCell];exact b.f1,by rw[World.frozen?_setCell];exact b.f2,by rw[World.frozen?_setCell];exact b.f3,by simpa using b.s1,by simpa using b.s2,hne⟩
 ·exact⟨(e2 _ _ _).trans b.c0,(e2 _ _ _).trans b.c1,(e1 _ _ _ (by decide)).trans b.d0,World.cell?_setCell_same _ _ _ b.d1,by rw[World.frozen?_setCell];exact b.f0,by rw[World.frozen?_setCell];exact b.f1,by rw[World.frozen?_setCell];exact b.f2,by rw[World.frozen?_setCell];exact b.f3,by simpa using b.s1,by simpa using b.s2,hne⟩
theorem rbox_no(ao:Option Addr)(c:Nat)(ls:List (List Pt))(w:World)(B:Nat)(hB:B<=w.heap.size)(h:RingsAt w B ao ls)(hn:ls.length<=1000000000)(ht:totTo ls ls.length<=1000000000)(hz:checkF ls≠0):
  Calls Tryz.prog 19 #[.slice ao ls.length c] w fun e w'=>e=.returned (boxV (boxF ls))/\Below w.heap.size w w':=by
 have HC:=Hd (fun w1 (hb:Below w.heap.size w w1)=>rcheck_any ao c ls w1 B (by have:=hb.size;omega) (h.below hb hB) hn ht);obtain⟨n,hnn⟩:∃n,ls.length=n:=⟨_,rfl⟩;rw[hnn]at hn HC ⊢;clear hnn ht;have HF:Hid (boxF ls=⟨0,0,0,0⟩):=by show _=_;unfold boxF;rw[if_neg hz]
 have hzb:(checkF ls != 0)=true:=by simpa using hz
 go_enter Tryz.func19,Tryz.ntmps19
 go_wp2_with fail
 have HB:Hid (BoxAt _ _ _):=BoxAt.new w 26 0 0 0 0;have HBl:Hid (Below w.heap.size w ((w.alloc (.cells #[.int .i64 0,.int .i64 0] 26)).alloc (.cells #[.int .i64 0,.int .i64 0] 26))):=(br.alloc lr _).alloc (by simp) _;refine(HC.out _ HBl.out).mono ?_;rintro e w1 ⟨rfl,hb1⟩;have hbw:Below w.heap.size w w1:=HBl.out.trans (hb1.mono (by simp;omega));obtain⟨c0,c1,d0,d1,f0,f1,f2,f3,sz⟩:=HB.out.below hb1;have HX:Hid (BoxAt w1 w.heap.size ⟨0,0,0,0⟩):=HB.out.below hb1;clear HB HBl hb1 HC;go_wp2;have HY:=HX.out.put4 0 0 0 0;refine bodyPost_ret (v:=boxV ⟨0,0,0,0⟩) (by have c0:=HY.c0;have c1:=HY.c1;have d0:=HY.d0;have d1:=HY.d1;simp[results,Tryz.results19,go_sem,boxV, *]) rfl ⟨by rw[HF.out],below_put4 hbw lr _ _ _ _⟩
theorem rbox_yes(ao:Option Addr)(c:Nat)(ls:List (List Pt))(w:World)(B:Nat)(hB:B<=w.heap.size)(h:RingsAt w B ao ls)(hn:ls.length<=1000000000)(ht:totTo ls ls.length<=1000000000)(hz:checkF ls=0):
  Calls Tryz.prog 19 #[.slice ao ls.length c] w fun e w'=>e=.returned (boxV (boxF ls))/\Below w.heap.size w w':=by
 have HC:=Hd (fun w1 (hb:Below w.heap.size w w1)=>rcheck_any ao c ls w1 B (by have:=hb.size;omega) (h.below hb hB) hn ht);obtain⟨hl0,hl3⟩:=check_zero hz;have HTT:Hid (∀ k,k<ls.length->(rg ls k).length<=1000000000):=fun k hk=>by
  have h1:=totTo_succ ls k hk;have h2:=totTo_le ls (k+1) (by omega);omega
 have HL3:=Hd hl3;have HR:=Hd h;obtain⟨n,hnn⟩:∃n,ls.length=n:=⟨_,rfl⟩;rw[hnn]at hn HC hl0 HTT HL3 ⊢;have HN:Hid (ls.length=n):=hnn;clear hnn ht hl3 h;have HF:Hid (boxF ls=bxTo ls n):=by show _=_;unfold boxF;rw[if_pos hz,HN.out]
 have hzb:(checkF ls != 0)=false:=by simpa using hz
 go_enter Tryz.func19,Tryz.ntmps19
 go_wp2_with fail
 have HB:Hid (BoxAt _ _ _):=BoxAt.new w 26 0 0 0 0;have HBl:Hid (Below w.heap.size w ((w.alloc (.cells #[.int .i64 0,.int .i64 0] 26)).alloc (.cells #[.int .i64 0,.int .i64 0] 26))):=(br.alloc lr _).alloc (by simp) _;refine(HC.out _ HBl.out).mono ?_;rintro e w1 ⟨rfl,hb1⟩;have hbw:Below w.heap.size w w1:=HBl.out.trans (hb1.mono (by simp;omega));have HX:Hid (BoxAt w1 w.heap.size ⟨0,0,0,0⟩):=HB.out.below hb1;have HW1:=Hd hbw;clear HB HBl hb1 HC;obtain⟨b,off,rfl,hb,hc⟩:=(HR.out.below hbw hB) (by rw[HN.out];omega);obtain⟨ri,ci,r0,hri⟩:=hc 0 (by rw[HN.out];omega);obtain⟨rb,ro,rfl,hrb,hrc⟩:=hri (by have:=HL3.out 0 (by omega);omega);obtain⟨p0,p1⟩:=hrc 0 (by have:=HL3.out 0 (by omega);omega);have hlen:3<=(rg ls 0).length:=HL3.out 0 (by omega);have hw1:=hbw.size;clear hc hrc hri hbw;generalize(rg ls 0).length=m0 at r0 hlen;simp only[Nat.add_zero,Nat.zero_mul]at p0 p1 r0;have hbw0:b<w1.heap.size:=by omega
 have hrbw0:rb<w1.heap.size:=by omega
 have HS0:Hid (bxTo ls 0=⟨px (rg ls 0) 0,py (rg ls 0) 0,px (rg ls 0) 0,py (rg ls 0) 0⟩):=rfl;generalize px (rg ls 0) 0=x0 at p0 HS0;generalize py (rg ls 0) 0=y0 at p1 HS0
 go_upto_region 3 with(fail)
 go_cut [4,5]from 14 to 23 (fun v4 v5 wx=>∃g1 g2:Nat,v4=.pointer (some ⟨g1,0,none⟩)/\v5=.pointer (some ⟨g2,0,none⟩)/\w1.heap.size<=g1/\w1.heap.size<=g2/\Hid (Box2 wx g1 g2 ⟨x0,y0,x0,y0⟩)/\Below w1.heap.size w1 wx)
 case first=>
  go_region
  ·go_wp2
   go_meet
   exact⟨_,_,rfl,rfl,by omega,by omega,(Box2.of (BoxAt.new w1 26 x0 y0 x0 y0)).drew,((br.alloc lr _).alloc (by simp) _).drew⟩
  ·go_wp2
   go_meet
   exact⟨_,_,rfl,rfl,by omega,by omega,(Box2.of' (BoxAt.new w1 26 x0 y0 x0 y0)).drew,((br.alloc lr _).alloc (by simp) _).drew⟩
 case rest=>
  obtain⟨g1,g2,rfl,rfl,hg1,hg2,HB2,hbc⟩:=hcut;have HBC:=Hd hbc;clear p0 p1 r0 hbc;go_wp2
  go_loopw [6] (fun i wr=>∃k:Nat,k<=n/\i=.int .i64 k/\Hid (Box2 wr g1 g2 (bxTo ls k))/\Below w1.heap.size w1 wr) (fun i _=>n-(intOf i).toNat)
  case atStart=>exact⟨0,Nat.zero_le _,rfl,by rw[HS0.out];exact HB2,HBC.out⟩
  case round=>
   obtain⟨k,hk,rfl,HY,hnx⟩:=hrel;have hsz:=hnx.size;by_cases hlt:k<n
   ·have hwx:Below w.heap.size w wr:=HW1.out.trans (hnx.mono hw1)
    obtain⟨b',off',e',hb',hc⟩:=(HR.out.below hwx hB) (by rw[HN.out];omega);cases e';obtain⟨ri,ci,r0,hri⟩:=hc k (by rw[HN.out];omega);clear hc;have hm3:=HL3.out k hlt;have hmb:=HTT.out k hlt;have HS:=Hd (bxTo_succ ls k);have HRI:=Hd hri;clear hri hwx;obtain⟨l,hl⟩:∃l,rg ls k=l:=⟨_,rfl⟩;rw[hl]at HRI hm3 hmb HS r0;clear hl;obtain⟨m,hm⟩:∃m,l.length=m:=⟨_,rfl⟩;rw[hm]at r0 hm3 hmb HS;have HM:Hid (l.length=m):=hm;clear hm;obtain⟨rb,ro,rfl,hrb,_⟩:=HRI.out (by rw[HM.out];omega);have HRB:Hid (∀ wx,Below w1.heap.size wr wx->wx.cell? ⟨b,off+k,none⟩=some (.slice (some ⟨rb,ro,none⟩) m ci)/\b<wx.heap.size/\rb<wx.heap.size/\∀j,j<m->wx.cell? ⟨rb,ro+j*2,none⟩=some (.int .i64 (px l j))/\wx.cell? ⟨rb,ro+j*2+1,none⟩=some (.int .i64 (py l j))):=fun wx hbx=>by
     have hz:=hbx.size;refine⟨(hbx.cell (p:=⟨b,off+k,none⟩) hbw0).trans r0,by omega,by omega,fun j hj=>?_⟩;obtain⟨rb',ro',e',_,hc⟩:=(HRI.out.below hbx (by omega)) (by rw[HM.out];omega);cases e';exact hc j (by rw[HM.out];exact hj)
    obtain⟨wo,hwo⟩:∃wo:World,wo=wr:=⟨_,rfl⟩;subst hwo;go_wp2
    go_loopw [7] (fun i wi=>∃j:Nat,j<=m/\i=.int .i64 j/\Hid (Box2 wi g1 g2 (bxR l (bxTo ls k) j))/\Below w1.heap.size wo wi) (fun i _=>m-(intOf i).toNat)
    case atStart=>exact⟨0,Nat.zero_le _,rfl,HY,br⟩
    case round=>
     obtain⟨j,hj,rfl,HZ,hni⟩:=hrel;obtain⟨q0,qb,qr,_⟩:=HRB.out _ hni;clear r0;by_cases hjl:j<m
     ·have HP:Hid (∀ wx,Below w1.heap.size wo wx->(wx.cell? ⟨b,off+k,none⟩=some (.slice (some ⟨rb,ro,none⟩) m ci)/\b<wx.heap.size/\rb<wx.heap.size)/\wx.cell? ⟨rb,ro+j*2,none⟩=some (.int .i64 (px l j))/\wx.cell? ⟨rb,ro+j*2+1,none⟩=some (.int .i64 (py l j))):=fun wx hbx=>by
       obtain⟨a1,a2,a3,a4⟩:=HRB.out _ hbx;exact⟨⟨a1,a2,a3⟩,a4 j hjl⟩
      have HSJ:=Hd (bxR_succ l (bxTo ls k) j);generalize px l j=x at HP HSJ;generalize py l j=y at HP HSJ;generalize bxR l (bxTo ls k) j=s at HZ HSJ;obtain⟨wj,hwj⟩:∃wj:World,wj=wr:=⟨_,rfl⟩;subst hwj;go_wp2
      go_loopw [8] (fun i wt=>∃t:Nat,t<=2/\i=.int .i64 t/\Hid (Box2 wt g1 g2 (bpart s x y t))/\Below w1.heap.size wo wt) (fun i _=>2-(intOf i).toNat)
      case atStart=>exact⟨0,Nat.zero_le _,rfl,HZ,hni⟩
      case round=>
       obtain⟨t,ht,rfl,HT,hnt⟩:=hrel;clear q0 qb qr;rcases(show t=0∨t=1∨t=2 by omega)with rfl|rfl|rfl
       ·obtain⟨⟨q0,qb,qr⟩,p0,p1⟩:=HP.out _ hnt
        obtain⟨c0,c1,d0,d1,f0,f1,f2,f3,s1,s2,ne⟩:=HT.out;simp only[bpart]at c0 c1 d0 d1
        go_upto_region 13 with(fail)
        go_cut []from 43 to 57 (fun wx=>Hid (Box2 wx g1 g2 ⟨min s.a x,s.b,s.c,s.d⟩)/\Below w1.heap.size wo wx)
        case first=>
         go_region
         go_wp2
         all_goals
          go_meet
          exact⟨(HT.out.lo 0 _ _ (.inl ⟨rfl,by simp only[bpart]⟩)).drew,(hnt.setCell (p:=⟨g1,0,none⟩) hg1 _).drew⟩
        case rest=>
         obtain⟨HT1,hnt1⟩:=hcut;clear q0 qb qr p0 p1 c0 c1 d0 d1 f0 f1 f2 f3 s1 s2 ne;obtain⟨⟨q0,qb,qr⟩,p0,p1⟩:=HP.out _ hnt1;obtain⟨c0,c1,d0,d1,f0,f1,f2,f3,s1,s2,ne⟩:=HT1.out;dsimp only at c0 c1 d0 d1
         go_upto_region 14 with(fail)
         go_region
         go_wp2;refine⟨⟨1,by omega,rfl,?_,(hnt1.setCell (p:=⟨g2,0,none⟩) hg2 _).drew⟩,by simp[intOf]⟩
         (try rw[imaxD])
         exact(HT1.out.hi 0 _ _ (.inl ⟨rfl,rfl⟩)).drew
       ·obtain⟨⟨q0,qb,qr⟩,p0,p1⟩:=HP.out _ hnt
        obtain⟨c0,c1,d0,d1,f0,f1,f2,f3,s1,s2,ne⟩:=HT.out;simp only[bpart]at c0 c1 d0 d1
        go_upto_region 13 with(fail)
        go_cut []from 43 to 57 (fun wx=>Hid (Box2 wx g1 g2 ⟨min s.a x,min s.b y,max s.c x,s.d⟩)/\Below w1.heap.size wo wx)
        case first=>
         go_region
         go_wp2
         all_goals
          go_meet
          exact⟨(HT.out.lo 1 _ _ (.inr ⟨rfl,by simp only[bpart]⟩)).drew,(hnt.setCell (p:=⟨g1,1,none⟩) hg1 _).drew⟩
        case rest=>
         obtain⟨HT1,hnt1⟩:=hcut;clear q0 qb qr p0 p1 c0 c1 d0 d1 f0 f1 f2 f3 s1 s2 ne;obtain⟨⟨q0,qb,qr⟩,p0,p1⟩:=HP.out _ hnt1;obtain⟨c0,c1,d0,d1,f0,f1,f2,f3,s1,s2,ne⟩:=HT1.out;dsimp only at c0 c1 d0 d1
         go_upto_region 14 with(fail)
         go_region
         go_wp2;refine⟨⟨2,by omega,rfl,?_,(hnt1.setCell (p:=⟨g2,1,none⟩) hg2 _).drew⟩,by simp[intOf]⟩
         (try rw[imaxD])
         exact(HT1.out.hi 1 _ _ (.inr ⟨rfl,rfl⟩)).drew
       ·go_wp2
        go_roundw
        case rel=>exact⟨j+1,by omega,by go_num,by rw[HSJ.out];exact HT,hnt⟩
        case measure=>simp[intOf];omega
     ·obtain rfl:j=m:=by omega
      go_wp2
      go_roundw
      case rel=>exact⟨k+1,by omega,by go_num,by rw[HS.out];exact HZ,hnx.trans hni⟩
      case measure=>simp[intOf];omega
   ·obtain rfl:k=n:=by omega
    have hxb:BoxAt wr w.heap.size ⟨0,0,0,0⟩:=HX.out.below hnx;obtain⟨e0,e1,e2,e3,e4,e5,e6,e7,e8⟩:=hxb;obtain⟨c0,c1,d0,d1,f0,f1,f2,f3,s1,s2,ne⟩:=HY.out;have HP':=Hd ((HX.out.below hnx).put4 (bxTo ls k).a (bxTo ls k).b (bxTo ls k).c (bxTo ls k).d).drew;have HEND:=Hd (HW1.out.trans (hnx.mono hw1));have hgx1:w.heap.size+1<g1:=by have:=HX.out.sz;omega
    have hgx2:w.heap.size+1<g2:=by have:=HX.out.sz;omega
    generalize bxTo ls k=s at*
    go_upto_region 15 with(fail)
    go_region
    go_wp2;refine bodyPost_ret (v:=boxV s) (by have c0:=HP'.out.c0;have c1:=HP'.out.c1;have d0:=HP'.out.d0;have d1:=HP'.out.d1;simp[results,Tryz.results19,go_sem,boxV, *]) rfl ⟨by rw[HF.out],(below_put4 HEND.out lr _ _ _ _).drew⟩
theorem rbox_any(ao:Option Addr)(c:Nat)(ls:List (List Pt))(w:World)(B:Nat)(hB:B<=w.heap.size)(h:RingsAt w B ao ls)(hn:ls.length<=1000000000)(ht:totTo ls ls.length<=1000000000):
  Calls Tryz.prog 19 #[.slice ao ls.length c] w fun e w'=>e=.returned (boxV (boxF ls))/\Below w.heap.size w w':=by
 by_cases hz:checkF ls=0
 ·exact rbox_yes ao c ls w B hB h hn ht hz
 ·exact rbox_no ao c ls w B hB h hn ht hz
end
end Go.Proofs.YtpkoapmpknbgoaaGreat.Po
namespace Go.Proofs.YtpkoapmpknbgoaaGreat
section
open Go.RowKit Go.Lib Wd Cv
def blo(ls:List (List (Int×Int))):E2:=((Po.boxF ls).a,(Po.boxF ls).b)
def bhi(ls:List (List (Int×Int))):E2:=((Po.boxF ls).c,(Po.boxF ls).d)
def FillP(w:World)(ls:List (List (Int×Int)))(r:Int)(e:Ending)(w':World):Prop:=
 if Po.checkF ls=0 then
  if chE (blo ls) (bhi ls) r=0 then
   (∃ D L ao c n,AllOf (12-r.toNat) (triE (blo ls)) (triE (bhi ls)) D/\D.length<=20000/\L=((srt (wsL r.toNat D)).filter (cenB r.toNat (blo ls) (bhi ls))).filter (fillB ls r.toNat)/\e=.returned (.tuple #[.slice ao n c,.int .i64 0])/\n=L.length/\w'.ownsRow w.heap.size 35 1 (.slice ao n c) n (uV L))∨
   (∃ D:List E2,D.Nodup/\D.length=20001/\(∀ z∈D,TouchP (hexC (12-r.toNat) z) (triE (blo ls)) (triE (bhi ls)))/\e=.returned (.tuple #[.slice none 0 0,.int .i64 7]))
  else e=.returned (.tuple #[.slice none 0 0,.int .i64 (chE (blo ls) (bhi ls) r)])
 else e=.returned (.tuple #[.slice none 0 0,.int .i64 (Po.checkF ls)])
theorem mine_turn2{w W W':World}{blk:Nat}(h:Below w.heap.size w W)(ht:Turn (fun k=>k=blk) W W')(hb:w.heap.size<=blk):Below w.heap.size w W':=
 ⟨ht.1.trans h.os,ht.2.1.trans h.tape,ht.2.2.1.trans h.output,Nat.le_trans h.size ht.2.2.2.1,fun k hk=>(ht.2.2.2.2 k (Nat.lt_of_lt_of_le hk h.size) (fun hs=>by omega)).trans (h.block k hk)⟩
theorem mine_turn3{w W W':World}{S:Nat->Prop}(h:Below w.heap.size w W)(ht:Turn S W W')(hb:∀k,S k->w.heap.size<=k):Below w.heap.size w W':=
 ⟨ht.1.trans h.os,ht.2.1.trans h.tape,ht.2.2.1.trans h.output,Nat.le_trans h.size ht.2.2.2.1,fun k hk=>(ht.2.2.2.2 k (Nat.lt_of_lt_of_le hk h.size) (fun hs=>by have:=hb k hs;omega)).trans (h.block k hk)⟩
theorem fill_any{ao:Option Addr}{n c B:Nat}{ls:List (List (Int×Int))}(r:Int){w:World}(hB:B<=w.heap.size)(h:RgAt w B ao n ls):
  Calls Tryz.prog 8 #[.slice ao n c,.int .i64 r] w fun e w'=>FillP w ls r e w'/\Below w.heap.size w w':=by
 have hmf:∀(fn:Fn) (first cap:Array Value) (w:World),(Instr.makeFunc fn first cap).run Tryz.prog w=.ok (.func fn first cap) w:=fun _ _ _ _=>rfl
 have hch:=Po.check_any ao c ls w B hB h.rings (by rw[h.len];exact h.few) h.tot;rw[h.len]at hch;have HCH:=Hd hch;have HBX:Hid (∀ W,Below w.heap.size w W->Calls Tryz.prog 28 #[.slice ao n c] W fun e w'=>e=.returned (Po.boxV (Po.boxF ls))/\Below W.heap.size W w'):=fun W hW=>by
  have h1:=h.below hW hB;have:=Po.box_any ao c ls W B (Nat.le_trans hB hW.size) h1.rings (by rw[h1.len];exact h1.few) h1.tot
  rwa[h1.len]at this
 have HRG:Hid (∀ W,Below w.heap.size w W->RgAt W B ao n ls):=fun W hW=>h.below hW hB
 have HBB:=Hd hB;by_cases hck:Po.checkF ls=0
 ·obtain⟨⟨a,b,c',d⟩,hs⟩:∃s,Po.boxF ls=s:=⟨_,rfl⟩
  have HFP:Hid (∀ e w',CenP w (a,b) (c',d) r e w'->True):=fun _ _ _=>trivial
  rw[hck]at HCH;rw[hs]at HBX;unfold Po.boxV at HBX;have HS:=Hd hs;have HK:=Hd hck;clear hch h hB hck hs HFP
  go_enter Tryz.func8,Tryz.ntmps8
  go_wp2_with fail
  refine HCH.out.mono ?_;rintro e w1 ⟨rfl,hb1⟩;have HB1:=Hd hb1;clear hb1 HCH
  go_wp2_with fail
  refine(HBX.out w1 HB1.out).mono ?_;rintro e w2 ⟨rfl,hb2⟩;have HB2:=Hd (HB1.out.trans (hb2.mono HB1.out.size));clear hb2 HBX
  go_upto_region 5 with(fail)
  obtain⟨w3,hw3⟩:∃W,(w2.alloc (.cells #[.int .i64 a,.int .i64 b] 26)).alloc (.cells #[.int .i64 c',.int .i64 d] 26)=W:=⟨_,rfl⟩;have hb3:Below w2.heap.size w2 w3:=by rw[<- hw3];exact(br.alloc lr _).alloc (by simp) _
  have y0:w3.heap[w2.heap.size]? =some (.cells #[.int .i64 a,.int .i64 b] 26 (0,0)):=by rw[<- hw3,Below.heap_alloc _ _ _ (by simp)];exact heap_new _ _ _ rfl
  have y1:w3.heap[w2.heap.size+1]? =some (.cells #[.int .i64 c',.int .i64 d] 26 (0,0)):=by rw[<- hw3];exact heap_new _ _ _ (by simp)
  rw[hw3];have l0:w3.cell? ⟨w2.heap.size,0,none⟩=some (.int .i64 a):=cell_of_row _ _ 0 _ _ _ y0;have l1:w3.cell? ⟨w2.heap.size,1,none⟩=some (.int .i64 b):=cell_of_row _ _ 1 _ _ _ y0;have u0:w3.cell? ⟨w2.heap.size+1,0,none⟩=some (.int .i64 c'):=cell_of_row _ _ 0 _ _ _ y1;have u1:w3.cell? ⟨w2.heap.size+1,1,none⟩=some (.int .i64 d):=cell_of_row _ _ 1 _ _ _ y1;have g0:=(Array.getElem?_eq_some_iff.1 y0).1;have g1:=(Array.getElem?_eq_some_iff.1 y1).1;have HB3:=Hd (HB2.out.trans (hb3.mono HB2.out.size));have hcen:=centres_any (a,b) (c',d) r w3;simp only[vE]at hcen;have HCE:=Hd hcen;clear hw3 hb3 y0 y1 hcen
  go_wp2_with fail
  refine HCE.out.mono ?_;rintro e w4 ⟨hP,hb4⟩;have HB34:=Hd hb4;have HB4:=Hd (HB3.out.trans (hb4.mono HB3.out.size));clear hb4 HCE l0 l1 u0 u1 g0 g1;unfold CenP at hP;by_cases hch:chE (a,b) (c',d) r=0
  ·rw[if_pos hch]at hP
   rcases hP with⟨D,L,aL,cL,m,h1,h2,rfl,rfl,h3,h4⟩|⟨D,h1,h2,h3,rfl⟩
   ·obtain⟨k,rfl⟩:∃k:Nat,r=k:=⟨r.toNat,by have:=(ch_ok hch).1;omega⟩
    simp only[Int.toNat_natCast]at h1 h3 h4;have h20:m<=20000:=by rw[h3];exact Nat.le_trans (List.length_filter_le _ _) (by rw[srt_length];exact Nat.le_trans (wsL_le _ _) h2)
    obtain⟨w5,hw5⟩:∃W,w4.alloc (.cells #[.func (.func 29) #[.slice ao n c] #[]] 62)=W:=⟨_,rfl⟩;have hb5:Below w4.heap.size w4 w5:=by rw[<- hw5];exact br.alloc lr _
    have z0:w5.heap[w4.heap.size]? =some (.cells #[.func (.func 29) #[.slice ao n c] #[]] 62 (0,0)):=by rw[<- hw5];exact heap_new _ _ _ rfl
    have HW5:=Hd hw5;have HB5:=Hd (HB4.out.trans (hb5.mono HB4.out.size));have g5:=(Array.getElem?_eq_some_iff.1 z0).1;have hLL:∀g o s,aL=some ⟨g,o,s⟩->w3.heap.size<=g/\g<w4.heap.size:=fun g o s e=>own_lt h4 g o s e
    obtain⟨blk,hblk,hge,hne⟩:∃blk,(∀ g o s,aL=some ⟨g,o,s⟩->g=blk)/\w3.heap.size<=blk/\blk≠w4.heap.size:=by
     cases aL with
     |none=>exact⟨w4.heap.size+1,fun g o s e=>(by cases e),by have:=HB34.out.size;omega,by omega⟩
     |some x=>
      obtain⟨g,o,s⟩:=x;exact⟨g,fun g' o' s' e=>by cases e;rfl,(hLL g o s rfl).1,by have:=(hLL g o s rfl).2;omega⟩
    have hAsk:AskU 31 #[.pointer (some ⟨w4.heap.size,0,none⟩)] (fun x=> !fillB ls k x) w5 blk ((srt (wsL k D)).filter (cenB k (a,b) (c',d))):=by
     intro W x hW hxm;have hxs:=(List.mem_filter.1 hxm).1;rw[srt_mem]at hxs;unfold wsL at hxs;obtain⟨z,hz,rfl⟩:=List.mem_map.1 hxs;have hz2:=(List.mem_filter.1 hz).2;have hbw:Below w.heap.size w W:=mine_turn2 HB5.out hW (by have:=HB3.out.size;omega);refine filask_any (c:=c) hz2 (Nat.le_trans HBB.out hbw.size) (HRG.out W hbw) ?_;exact(World.cell?_of_block (a:=⟨w4.heap.size,0,none⟩) (hW.2.2.2.2 _ g5 (fun e=>hne e.symm))).trans (cell_of_row _ _ 0 _ _ _ z0)
    have HDF:=Hd (fildelete_any _ _ aL m cL _ w5 w3.heap.size blk h3.symm (by omega) (Nat.le_trans HB34.out.size hb5.size) (own_later h4 hb5) hAsk hblk);have hff:(((srt (wsL k D)).filter (cenB k (a,b) (c',d))).filter fun x=> !(!fillB ls k x))=((srt (wsL k D)).filter (cenB k (a,b) (c',d))).filter (fillB ls k):=List.filter_congr fun x _=>Bool.not_not _
    rw[hff]at HDF;have HY:Hid (∀ w' q,q=(((srt (wsL k D)).filter (cenB k (a,b) (c',d))).filter (fillB ls k)).length->w'.ownsRow w3.heap.size 35 1 (.slice aL q cL) q (uV (((srt (wsL k D)).filter (cenB k (a,b) (c',d))).filter (fillB ls k)))->FillP w ls k (.returned (.tuple #[.slice aL q cL,.int .i64 0])) w'):=fun w' q hq ho=>by
     unfold FillP blo bhi;rw[if_pos HK.out,HS.out,if_pos hch];simp only[Int.toNat_natCast];exact .inl ⟨D,_,aL,cL,q,h1,h2,rfl,rfl,hq,own_base ho HB3.out.size⟩
    have HT:Hid (∀ g o s,aL=some ⟨g,o,s⟩->w.heap.size<=g):=fun g o s e=>Nat.le_trans HB3.out.size (hLL g o s e).1
    generalize((srt (wsL k D)).filter (cenB k (a,b) (c',d))).filter (fillB ls k)=F at *;generalize(fun x=> !fillB ls k x)=pp at *;clear h1 h2 h3 h4 hch hAsk hff hblk hge hne hLL z0 hb5 hw5 h20 g5
    go_wp2_with(rw[HW5.out])
    go_wp2_with fail
    refine HDF.out.mono ?_;rintro e w6 ⟨rfl,ho,ht⟩;have HQ:=Hd (HY.out w6 _ rfl ho);have HB6:Hid (Below w.heap.size w w6):=mine_turn3 HB5.out ht fun q hq=>HT.out q 0 none hq
    clear ho ht;go_wp2;go_ret2;exact⟨HQ.out,HB6.out⟩
   ·have HQ:Hid (FillP w ls r (.returned (.tuple #[.slice none 0 0,.int .i64 7])) w4):=by
     unfold FillP blo bhi;rw[if_pos HK.out,HS.out,if_pos hch];exact .inr ⟨D,h1,h2,h3,rfl⟩
    clear h1 h2 h3 hch;go_wp2;go_ret2;exact⟨HQ.out,HB4.out⟩
  ·rw[if_neg hch]at hP
   subst hP;have HQ:Hid (FillP w ls r (.returned (.tuple #[.slice none 0 0,.int .i64 (chE (a,b) (c',d) r)])) w4):=by
    unfold FillP blo bhi;rw[if_pos HK.out,HS.out,if_neg hch]
    rfl
   have hb:(chE (a,b) (c',d) r != 0)=true:=by simpa using hch
   generalize chE (a,b) (c',d) r=er at *;clear hch;go_wp2;go_ret2;exact⟨HQ.out,HB4.out⟩
 ·have HQ:Hid (∀ w',FillP w ls r (.returned (.tuple #[.slice none 0 0,.int .i64 (Po.checkF ls)])) w'):=fun w'=>by unfold FillP;rw[if_neg hck]
  obtain⟨q,hq⟩:∃q,Po.checkF ls=q:=⟨_,rfl⟩;rw[hq]at HCH HQ hck;have qb:(q != 0)=true:=by simpa using hck
  clear hch h hB hck hq
  go_enter Tryz.func8,Tryz.ntmps8
  go_wp2_with fail
  refine HCH.out.mono ?_;rintro e w1 ⟨rfl,hb1⟩;have HB1:=Hd hb1;clear hb1;go_wp2;go_ret2;exact⟨HQ.out w1,HB1.out⟩
end
end Go.Proofs.YtpkoapmpknbgoaaGreat
namespace Go.Proofs.YtpkoapmpknbgoaaGreat.Po
section
namespace Tri
def cx(a b c d:Int):Int:=a*d-c*b
def One(a b c:Int):Prop:=(0<=a/\0<=b/\0<=c)∨(a<=0/\b<=0/\c<=0)
instance (a b c : Int) : Decidable (One a b c) := by unfold One; infer_instance
end Tri
open Go.RowKit
end
section
open Go.RowKit
def Wd1(a:Int):Prop:=0<=a/\a<1073741824
def qr(x y u v:Int):List Pt:=[(x,v),(u,v),(u,y),(x,y)]
section
variable {x y u v : Int} (hx : Wd1 x) (hy : Wd1 y) (hu : Wd1 u) (hv : Wd1 v)
include hx hy hu hv
end
def t1(x y u v:Int):List Pt:=[(x,y),(u,y),(u,v)]
def t2(x y u v:Int):List Pt:=[(x,y),(u,v),(x,v)]
def dg(x y u v s t:Int):Int:=(u-x)*(t-y)-(v-y)*(s-x)
def ringV(l:List Pt):List Value:=l.flatMap fun p=>[.int .i64 p.1,.int .i64 p.2]
theorem ringV_get:∀(l:List Pt) (k:Nat),k<l.length->(ringV l)[k*2]? =some (.int .i64 (px l k))/\(ringV l)[k*2+1]? =some (.int .i64 (py l k))
 |[],k,h=>by simp at h
 |p::l,0,_=>by simp[ringV,px,py]
 |p::l,k+1,h=>by
  have ih:=ringV_get l k (by simpa using h);have e1:(k+1)*2=k*2+1+1:=by omega
  have e2:(k+1)*2+1=k*2+1+1+1:=by omega
  rw[e2,e1];exact ih
theorem ringAt_cells{w:World}{B b:Nat}{l:List Pt}(hb:b<B)(hc:∀j u,(ringV l)[j]? =some u->w.cell? ⟨b,j,none⟩=some u):RingAt w B (some ⟨b,0,none⟩) l:=
 fun _=>⟨b,0,rfl,hb,fun k hk=>by
  obtain⟨h1,h2⟩:=ringV_get l k hk;simp only[Nat.zero_add];exact⟨hc _ _ h1,hc _ _ h2⟩⟩
theorem ringAt_new(w:World)(l:List Pt)(t:TypeId):RingAt (w.alloc (.cells (ringV l).toArray t)) (w.heap.size+1) (some ⟨w.heap.size,0,none⟩) l:=
 ringAt_cells (by omega) fun j u hu=>by
  rw[cell_of_row _ w.heap.size j _ t (0,0) (heap_new w _ _ rfl)];simpa using hu
end
end Go.Proofs.YtpkoapmpknbgoaaGreat.Po
namespace Go.Proofs.YtpkoapmpknbgoaaGreat
section
open Go.RowKit Go.Lib Wd Cv
theorem rgAt_lit(w:World)(l:List (Int×Int))(hl:l.length<=1000)(ci:Nat):
  RgAt ((w.alloc (.cells (Po.ringV l).toArray 26)).alloc (.cells #[.slice (some ⟨w.heap.size,0,none⟩) l.length ci] 27)) (w.heap.size+1+1) (some ⟨w.heap.size+1,0,none⟩) 1 [l]/\
  Below w.heap.size w ((w.alloc (.cells (Po.ringV l).toArray 26)).alloc (.cells #[.slice (some ⟨w.heap.size,0,none⟩) l.length ci] 27)):=by
 have h1:=Po.rings_one ci 27 (Po.ringAt_new w l 26) (by rw[World.size_alloc];omega);have hs:(w.alloc (.cells (Po.ringV l).toArray 26)).heap.size=w.heap.size+1:=World.size_alloc _ _;rw[hs]at h1;refine⟨⟨h1,rfl,by decide,?_⟩,((Below.refl _ w).alloc lr _).alloc (by rw[hs];omega) _⟩;show Po.totTo [l] 1<=_;unfold Po.totTo;simp;omega
def FilW(R:Nat)(ls:List (List (Int×Int)))(x:Int):Prop:=∃z,okB R z=true/\inB (blo ls) (bhi ls) (atE (12-R) z)=true/\Po.insideF ls (atE (12-R) z).1 (atE (12-R) z).2=true/\x=(wordN R z:Nat)
def IsFil(R:Nat)(ls:List (List (Int×Int)))(L:List Int):Prop:=Up L/\(∀ x,x∈L↔FilW R ls x)/\L.length<=20000
theorem isFil_of{R:Nat}{ls:List (List (Int×Int))}{D:List E2}(h:AllOf (12-R) (triE (blo ls)) (triE (bhi ls)) D)(hl:D.length<=20000):IsFil R ls (((srt (wsL R D)).filter (cenB R (blo ls) (bhi ls))).filter (fillB ls R)):=by
 have hb:=isCen_of h hl;refine⟨filter_up hb.1 _,fun x=>?_,Nat.le_trans (List.length_filter_le _ _) hb.2.2⟩;rw[List.mem_filter,hb.2.1];unfold CenW FilW fillB;constructor
 ·rintro⟨⟨z,h1,h2,rfl⟩,h3⟩
  rw[Int.toNat_natCast,(word_cell h1).2.2]at h3;exact⟨z,h1,h2,h3,rfl⟩
 ·rintro⟨z,h1,h2,h3,rfl⟩
  exact⟨⟨z,h1,h2,rfl⟩,by rw[Int.toNat_natCast,(word_cell h1).2.2];exact h3⟩
theorem fill_few{ao:Option Addr}{n c B R:Nat}{ls:List (List (Int×Int))}{w:World}(hB:B<=w.heap.size)(h:RgAt w B ao n ls)(hk:Po.checkF ls=0)(hc:chE (blo ls) (bhi ls) R=0)(hw:(bhi ls).1-(blo ls).1<=28*sizeN (12-R))(hh:(bhi ls).2-(blo ls).2<=28*sizeN (12-R)):
  Calls Tryz.prog 8 #[.slice ao n c,.int .i64 R] w (ToldB w (IsFil R ls)):=by
 have hR:R<=12:=by have:=(ch_ok hc).1;omega
 refine(fill_any (c:=c) R hB h).mono ?_;rintro e w' ⟨hP,hb⟩;unfold FillP at hP;rw[if_pos hk,if_pos hc,Int.toNat_natCast]at hP;rcases hP with⟨D,L,ao,c,n,h1,h2,rfl,rfl,h3,h4⟩|⟨D,h1,h2,h3,_⟩
 ·exact⟨_,ao,c,n,isFil_of h1 h2,rfl,h3,h4,hb⟩
 ·have:=few_of hR hw hh h1 h3
  omega
theorem fill_bad{ao:Option Addr}{n c B:Nat}{ls:List (List (Int×Int))}(r:Int){w:World}(hB:B<=w.heap.size)(h:RgAt w B ao n ls)(hk:Po.checkF ls≠0):
  Calls Tryz.prog 8 #[.slice ao n c,.int .i64 r] w fun e w'=>e=.returned (.tuple #[.slice none 0 0,.int .i64 (Po.checkF ls)])/\Below w.heap.size w w':=by
 refine(fill_any (c:=c) r hB h).mono ?_;rintro e w' ⟨hP,hb⟩;unfold FillP at hP;rw[if_neg hk]at hP;exact⟨hP,hb⟩
def awkR:List (Int×Int):=[(0,0),(60,0),(60,5),(0,5)]
theorem awkR_check:Po.checkF [awkR]=0:=by kernel_rfl
theorem awkR_box:blo [awkR]=(0,0)/\bhi [awkR]=(60,5):=by constructor <;> kernel_rfl
theorem awkR_in:∀z:E2,inB (0,0) (60,5) (atE 0 z)=true->z=(0,0)∨z=(1,0):=fun z h=>by
 rw[inB_iff]at h;have e:atE 0 z=(52*z.1+26*z.2,45*z.2):=by
  show spotE (mulE (1,0) z)=_;unfold spotE mulE;simp
 rw[e]at h;dsimp only at h;obtain⟨a,b⟩:=z;dsimp only at h;have hb:b=0:=by omega
 subst hb;have:a=0∨a=1:=by omega
 rcases this with rfl|rfl
 ·exact .inl rfl
 ·exact .inr rfl
theorem awkR_two{L:List Int}(h:IsFil 12 [awkR] L):L.length=2:=by
 have hm:∀x,x∈L↔x∈[((wordN 12 (0,0):Nat):Int),((wordN 12 (1,0):Nat):Int)]:=fun x=>by
  rw[h.2.1];unfold FilW;rw[awkR_box.1,awkR_box.2];constructor
  ·rintro⟨z,_,h2,_,rfl⟩
   rcases awkR_in z h2 with rfl|rfl <;> simp
  ·intro hx
   simp only[List.mem_cons,List.not_mem_nil,or_false]at hx;rcases hx with rfl|rfl
   ·exact⟨(0,0),by kernel_rfl,by kernel_rfl,by kernel_rfl,rfl⟩
   ·exact⟨(1,0),by kernel_rfl,by kernel_rfl,by kernel_rfl,rfl⟩
 have hn:L.Nodup:=h.1.imp fun h=>Int.ne_of_lt h
 have hd:([((wordN 12 (0,0):Nat):Int),((wordN 12 (1,0):Nat):Int)]:List Int).Nodup:=by
  rw[List.nodup_cons];refine⟨?_,List.pairwise_singleton _ _⟩;intro hx;have:=List.mem_singleton.1 hx;revert this;have e:decide (((wordN 12 (0,0):Nat):Int)=((wordN 12 (1,0):Nat):Int))=false:=by kernel_rfl
  exact of_decide_eq_false e
 exact((List.perm_ext_iff_of_nodup hn hd).2 hm).length_eq
theorem awake11_any(w:World):Calls Tryz.prog 11 #[] w fun e w'=>e=.returned (.bool true)/\Below w.heap.size w w':=by
 have hrg:=rgAt_lit w awkR (by decide) 4;have hrg1:RgAt ((w.alloc (.cells #[.int .i64 0,.int .i64 0,.int .i64 60,.int .i64 0,.int .i64 60,.int .i64 5,.int .i64 0,.int .i64 5] 26)).alloc (.cells #[.slice (some ⟨w.heap.size,0,none⟩) 4 4] 27)) (w.heap.size+1+1) (some ⟨w.heap.size+1,0,none⟩) 1 [awkR]:=hrg.1;have hB:Below w.heap.size w ((w.alloc (.cells #[.int .i64 0,.int .i64 0,.int .i64 60,.int .i64 0,.int .i64 60,.int .i64 5,.int .i64 0,.int .i64 5] 26)).alloc (.cells #[.slice (some ⟨w.heap.size,0,none⟩) 4 4] 27)):=hrg.2;have hf:=fill_few (c:=1) (R:=12) (by simp only[World.size_alloc];exact lr) hrg1 awkR_check (by rw[awkR_box.1,awkR_box.2];kernel_rfl) (by rw[awkR_box.1,awkR_box.2];decide) (by rw[awkR_box.1,awkR_box.2];decide);have HF:=Hd hf;have HB:=Hd hB;have HE:Hid (∀ W,Calls Tryz.prog 8 #[.slice none 0 0,.int .i64 12] W fun e w'=>e=.returned (.tuple #[.slice none 0 0,.int .i64 1])/\Below W.heap.size W w'):=fun W=>
  fill_bad (ls:=[]) (n:=0) (B:=0) 12 (Nat.zero_le _) ⟨fun h=>absurd h (by simp),rfl,by decide,by decide⟩ (by decide)
 clear hrg hrg1 hB hf
 go_enter Tryz.func11,Tryz.ntmps11
 go_wp2_with fail
 refine HF.out.mono ?_;rintro e w1 ⟨L,ao,c,n,hL,rfl,hn,ho,hb⟩;have hn2:n=2:=hn.trans (awkR_two hL);subst hn2;have HB1:=Hd (HB.out.trans (hb.mono HB.out.size));clear hL hn ho hb HF
 go_wp2_with fail
 refine(HE.out _).mono ?_;rintro e w2 ⟨rfl,hb2⟩;have HB2:=Hd (HB1.out.trans (hb2.mono HB1.out.size));clear hb2;go_wp2;go_ret;exact⟨rfl,HB2.out⟩
section
variable {x y u v : Int} (hx : 0 <= x /\ x < 1073741824) (hy : 0 <= y /\ y < 1073741824) (hu : 0 <= u /\ u < 1073741824) (hv : 0 <= v /\ v < 1073741824) (hxu : x <= u) (hyv : y <= v)
include hx hy hu hv hxu hyv
end
theorem ch_in{R:Nat}(hR:R<=12){lo hi:E2}(h1:worldB lo.1 lo.2=true)(h2:worldB hi.1 hi.2=true)(hx:lo.1<=hi.1)(hy:lo.2<=hi.2):chE lo hi R=0:=by
 unfold chE;rw[if_neg (by omega),if_pos ⟨h1,h2⟩,if_neg (by omega)]
end
end Go.Proofs.YtpkoapmpknbgoaaGreat
namespace Go.Proofs.YtpkoapmpknbgoaaGreat.Po
section
open Go.RowKit
theorem own_below{w w':World}{base:Nat}{e:TypeId}{size:Nat}{v:Value}{n:Nat}{xs:List Value}(h:w.ownsRow base e size v n xs){C:Nat}(hb:Below C w w')(hC:w.heap.size<=C):w'.ownsRow base e size v n xs:=by
 refine⟨h.1,?_⟩;rcases h.2 with h2|⟨g,cap,cur,hv,hg,hh,r⟩
 ·exact .inl h2
 ·refine .inr ⟨g,cap,cur,hv,hg,?_,r⟩
  have hlt:g<w.heap.size:=by
   rcases Nat.lt_or_ge g w.heap.size with hlt|hge
   ·exact hlt
   ·rw[Array.getElem?_eq_none hge]at hh;cases hh
  rw[hb.block g (by omega)];exact hh
theorem own_ne{w:World}{b1 b2:Nat}{e1 e2:TypeId}{s1 s2:Nat}{v1 v2:Value}{n1 n2:Nat}{x1 x2:List Value}(h1:w.ownsRow b1 e1 s1 v1 n1 x1)(h2:w.ownsRow b2 e2 s2 v2 n2 x2)(hne:e1≠e2):v1.ownBlock=none∨v1.ownBlock≠v2.ownBlock:=by
 rcases h1.2 with⟨rfl,_⟩|⟨g,cap,cur,rfl,_,hg,_⟩
 ·exact .inl rfl
 ·right
  rcases h2.2 with⟨rfl,_⟩|⟨g',cap',cur',rfl,_,hg',_⟩
  ·simp[Value.ownBlock]
  ·simp only[Value.ownBlock,ne_eq,Option.some.injEq]
   rintro rfl;rw[hg]at hg';simp at hg';exact hne hg'.2
def OwnRings(w:World)(base:Nat):List Value->List (List Pt)->Prop
 |[],[]=>True
 |v::vs,l::ls=>w.ownsRow base 26 2 v l.length (ringV l)/\OwnRings w base vs ls
 |_,_=>False
theorem OwnRings.below{w w':World}{base C:Nat}(hb:Below C w w')(hC:w.heap.size<=C):∀{vs:List Value} {ls:List (List Pt)},OwnRings w base vs ls->OwnRings w' base vs ls
 |[],[],_=>trivial
 |_::_,_::_,h=>⟨own_below h.1 hb hC,OwnRings.below hb hC h.2⟩
theorem OwnRings.grown{w w':World}{base b2:Nat}{out:Value}{n:Nat}{xs:List Value}(ho:w.ownsRow b2 27 1 out n xs)(hg:w.grownBy w' out.ownBlock):∀{vs:List Value} {ls:List (List Pt)},OwnRings w base vs ls->OwnRings w' base vs ls
 |[],[],_=>trivial
 |_::_,_::_,h=>⟨h.1.kept hg (own_ne h.1 ho (by decide)),OwnRings.grown ho hg h.2⟩
theorem OwnRings.snoc{w:World}{base:Nat}{v:Value}{l:List Pt}(hv:w.ownsRow base 26 2 v l.length (ringV l)):∀{vs:List Value} {ls:List (List Pt)},OwnRings w base vs ls->OwnRings w base (vs++[v]) (ls++[l])
 |[],[],_=>⟨hv,trivial⟩
 |_::_,_::_,h=>⟨h.1,OwnRings.snoc hv h.2⟩
theorem ringV_snoc(l:List Pt)(x y:Int):ringV (l++[(x,y)])=ringV l++[.int .i64 x,.int .i64 y]:=by unfold ringV;simp
theorem info_ring:(Tryz.prog.info? 27).map (fun i=>(i.zero,i.size,i.bytes))=some (some (.slice none 0 0),1,24):=by kernel_rfl
theorem OwnRings.get{w:World}{base:Nat}:∀{vs:List Value} {ls:List (List Pt)},OwnRings w base vs ls->∀i,i<ls.length->∃v,vs[i]? =some v/\w.ownsRow base 26 2 v (rg ls i).length (ringV (rg ls i))
 |[],[],_,i,hi=>by simp at hi
 |v::_,l::_,h,0,_=>⟨v,rfl,h.1⟩
 |_::_,l::ls,h,i+1,hi=>by
  obtain⟨v,hv,ho⟩:=OwnRings.get h.2 i (by simpa using hi);exact⟨v,hv,ho⟩
theorem ring_of_own{w:World}{base:Nat}{v:Value}{l:List Pt}(h:w.ownsRow base 26 2 v l.length (ringV l)):∃ao c,v=.slice ao l.length c/\RingAt w w.heap.size ao l:=by
 obtain⟨ao,c,rfl,_,hc⟩:=own_form h;refine⟨ao,c,rfl,fun h0=>?_⟩;obtain⟨g,rfl,_,hg,hcell⟩:=hc h0;exact ringAt_cells hg hcell h0
theorem rings_of_own{w:World}{base b2 n c:Nat}{ao:Option Addr}{vs:List Value}{ls:List (List Pt)}(h:w.ownsRow base 27 1 (.slice ao n c) n vs)(hO:OwnRings w b2 vs ls)(hn:n=ls.length):RingsAt w w.heap.size ao ls:=by
 intro h0;obtain⟨ao',c',e,_,hc⟩:=own_form h;cases e;obtain⟨g,rfl,_,hg,hcell⟩:=hc (by omega);refine⟨g,0,rfl,hg,fun i hi=>?_⟩;obtain⟨v,hv,ho⟩:=hO.get i hi;obtain⟨ri,ci,rfl,hr⟩:=ring_of_own ho;exact⟨ri,ci,by rw[Nat.zero_add];exact hcell i _ hv,hr⟩
end
end Go.Proofs.YtpkoapmpknbgoaaGreat.Po
namespace Go.Proofs.YtpkoapmpknbgoaaGreat
section
open Go.RowKit Go.Lib Wd Cv
def RingR(X Y s:Int)(l:List (Int×Int)):Prop:=l.length<=6/\∀p∈l,(X<=p.1/\p.1<1073741824/\p.1-X<7*s)/\Y<=p.2/\p.2<1073741824/\p.2-Y<7*s
def RingsOK(X Y s:Int)(ls:List (List (Int×Int))):Prop:=ls.length<=2/\∀l∈ls,3<=l.length/\RingR X Y s l
theorem ring_part(x i s:Int)(hx:0<=x/\x<1073741824)(hi:0<=i)(hs:52<=s):∃A,i.tmod (7*s)=A/\0<=A/\A<7*s/\((7*s:Int)==0)=false/\x<=min (x+A) 1073741823/\min (x+A) 1073741823<1073741824/\min (x+A) 1073741823-x<7*s:=by
 have h1:=Int.emod_nonneg i (show 7*s≠0 by omega);have h2:=Int.emod_lt_of_pos i (show 0<7*s by omega);rw[Int.tmod_eq_emod_of_nonneg hi];exact⟨_,rfl,h1,h2,by simp;omega,by omega,by omega,by omega⟩
theorem lrings_any(x y:Int)(ax:Option Addr)(nx cx:Nat)(z:Nat->Int)(R:Nat)(hR:R<=12)(w:World)(hx:IntsAtK .i64 w w.heap.size ax nx z)(hnx:nx<=1000000000000000):
   Calls Tryz.prog 17 #[.int .i64 x,.int .i64 y,.slice ax nx cx,.int .i64 R] w fun e w'=>∃v ls,e=.returned v/\RingsOK (x%1073741824) (y%1073741824) (sizeN (12-R)) ls/\(∃ vs,w'.ownsRow w.heap.size 27 1 v ls.length vs/\Po.OwnRings w' w.heap.size vs ls)/\Below w.heap.size w w':=by
 obtain⟨i0,hi,hz0,hz1,hz2⟩:=info_parts Po.info_ring;obtain⟨i1,hj,hy0,hy1,hy2⟩:=info_parts info_pt;have HPT:=Hd (point_in x y w);have hxx:0<=x%1073741824/\x%1073741824<1073741824:=by omega
 have hyy:0<=y%1073741824/\y%1073741824<1073741824:=by omega
 generalize x%1073741824=X at *;generalize y%1073741824=Y at *;obtain⟨sz,hsz⟩:∃q,sizeN (12-R)=q:=⟨_,rfl⟩;rw[hsz];have HSZ:=Hd hsz;clear hsz
 go_enter Tryz.func17,Tryz.ntmps17
 go_wp2_with fail
 refine HPT.out.mono ?_;rintro e w1 ⟨rfl,hb1⟩;have HW1:=Hd hb1;clear hb1 HPT
 go_upto_region 4 with(fail)
 go_loopw [9,10] (fun sv iv wr=>∃(i:Nat) (s:Int),R<=i/\i<=12/\sv=.int .i64 s/\iv=.int .i64 i/\wr=w1/\Hid (s=sizeN (i-R))) (fun _ iv _=>12-(intOf iv).toNat)
 case atStart=>exact⟨R,52,lr,hR,rfl,rfl,rfl,by show _=_;rw[Nat.sub_self];rfl⟩
 case round=>
  obtain⟨i,s,hRi,hi12,rfl,rfl,rfl,HS⟩:=hrel;obtain⟨s1,s2⟩:=sizeN_pos (m:=i-R) (by omega);rw[<- HS.out]at s1 s2;by_cases hlt:i<12
  · have hN:Hid (s*8/3=sizeN (i+1-R)):=by
     show _=_;rw[show i+1-R=(i-R)+1 by omega,HS.out];rfl
    have hi0:(i:Int)<12:=by omega
    clear HS;go_wp2;refine⟨⟨i+1,s*8/3,by omega,by omega,rfl,by rw[show ((i+1:Nat):Int)=(i:Int)+1 by omega],trivial,hN.out⟩,by simp[intOf];omega⟩
  have hie:i=12:=by omega
  have hic:(i:Int)=12:=by omega
  rw[hic];obtain⟨w1,hw1e⟩:∃W,W=wr:=⟨_,rfl⟩;rw[<- hw1e]at HW1 ⊢;clear hw1e;have hss:s=sz:=by rw[HS.out,hie];exact HSZ.out
  clear HS HSZ hRi hlt hi12 hie hic;subst hss;have z1:((7*s:Int)==0)=false:=by simp;omega
  go_upto_region 9 with(fail)
  go_loopw [11,12] (fun v a wr=>∃(at0 k:Nat) (vs:List Value) (ls:List (List (Int×Int))),a=.int .i64 at0/\at0<=nx/\k<=2/\Hid (RingsOK X Y s ls/\k=ls.length)/\wr.ownsRow w.heap.size 27 1 v k vs/\Hid (Po.OwnRings wr w.heap.size vs ls)/\Below w.heap.size w wr) (fun _ a _=>nx-(intOf a).toNat)
  case atStart=>exact⟨0,0,[],[],rfl,by omega,by omega,⟨⟨by simp,by simp⟩,rfl⟩,World.ownsRow_nil _ _ _ _,trivial,HW1.out⟩
  case round=>
    obtain⟨at0,k,vs,ls,rfl,hat,hk,HT,hown,HO,hbel⟩:=hrel;by_cases hlt:at0+5<nx
    ·by_cases hk3:k<2
     ·obtain⟨b,off,rfl,hbB,hc⟩:=hx (by omega)
      obtain⟨ao,co,rfl,hkc,hoc⟩:=own_form hown;have c0:=(hbel.cell (p:=⟨b,off+at0,none⟩) (show b<w.heap.size by omega)).trans (hc at0 (by omega));generalize z at0=za at c0;have HC:=Hd hc;have HOC:=Hd hoc;have e3:bits BinOp.and IntKind.i64 za 3=za%4:=i64_and_mask za 2 (by omega) 3 rfl;have hsz:=hbel.size;obtain⟨wo,hwo⟩:∃wo:World,wo=wr:=⟨_,rfl⟩;subst hwo;clear hc hoc hx;have q1:decide ((at0:Int)+5<(nx:Int))=true:=by simp;omega
      have q2:decide ((k:Int)<2)=true:=by simp;omega
      go_wp2
      go_loopw [14,12,15] (fun lv a i wi=>∃(j at1:Nat) (lc:List (Int×Int)),i=.int .i64 j/\a=.int .i64 at1/\at1<=nx/\at0+2*j=at1/\j<=6/\Hid (RingR X Y s lc/\lc.length=j)/\wi.ownsRow wo.heap.size 26 2 lv j (Po.ringV lc)/\Below wo.heap.size wo wi) (fun _ _ i _=>6-(intOf i).toNat)
      case atStart=>exact⟨0,at0,[],rfl,rfl,by omega,by omega,by omega,⟨⟨by simp,by simp⟩,rfl⟩,World.ownsRow_nil _ _ _ _,br⟩
      case round=>
       obtain⟨j,at1,lc,rfl,rfl,hat1,hje,hj6,HL,hlown,hni⟩:=hrel;have hsi:=hni.size;have hni2:=hbel.trans (hni.mono hsz);by_cases hgo:(j:Int)<3+za%4/\at1+1<nx
       ·obtain⟨hg1,hg2⟩:=hgo
        have d0:=(hni2.cell (p:=⟨b,off+at1,none⟩) (show b<w.heap.size by omega)).trans (HC.out at1 (by omega));have d1:=(hni2.cell (p:=⟨b,off+(at1+1),none⟩) (show b<w.heap.size by omega)).trans (HC.out (at1+1) (by omega));generalize z at1=zx at d0;generalize z (at1+1)=zy at d1;have ex:bits BinOp.and IntKind.i64 zx 4294967295=zx%4294967296:=i64_and_mask zx 32 (by omega) 4294967295 rfl;have ey:bits BinOp.and IntKind.i64 zy 4294967295=zy%4294967296:=i64_and_mask zy 32 (by omega) 4294967295 rfl;obtain⟨Ax,tx,m1,m2,_,u1,u2,u3⟩:=ring_part X (zx%4294967296) s hxx (by omega) s1;obtain⟨Ay,ty,m3,m4,_,v1,v2,v3⟩:=ring_part Y (zy%4294967296) s hyy (by omega) s1;have HUV:=Hd (And.intro (And.intro u1 (And.intro u2 u3)) (And.intro v1 (And.intro v2 v3)));clear u1 u2 u3 v1 v2 v3;obtain⟨lao,lcap,rfl,_,_⟩:=own_form hlown;have q3:decide ((j:Int)<3+za%4)=true:=by simpa using hg1
        have q4:decide ((at1:Int)+1<(nx:Int))=true:=by simp;omega
        go_wp2_with(first|(with_reducible refine wp_region_lex (by kernel_rfl) (by kernel_rfl) ?_)|(with_reducible refine OnlyG.intro (by kernel_rfl) ?_)|(at_builtin;refine wpList_append_own _ rfl (.tmp 58) (.tmp 83) 27 rfl wo.heap.size 26 i1 (.agg #[.int .i64 0,.int .i64 0]) 2 16 Tryz.underlying27 hj hy0 hy1 hy2 rfl (by decide) _ _ _ rfl ((hlown.alloc _).drew) ⟨wr.heap.size,0,none⟩ 1 1 [.int .i64 (min (X+Ax) 1073741823),.int .i64 (min (Y+Ay) 1073741823)] rfl rfl (cells_new_drew _ _ _ _ rfl) (by simp[Value.oneCell']) (by unfold maxLen;omega) (by omega) (by simp;omega) ?_;intro v' w1 hown1 hgrow _))
        go_roundw
        case rel=>
         rw[<- Po.ringV_snoc]at hown1;refine⟨j+1,at1+2,lc++[(min (X+Ax) 1073741823,min (Y+Ay) 1073741823)],by go_num,by go_num,by omega,by omega,by omega,⟨⟨?_,?_⟩,?_⟩,hown1,below_append ((hni.alloc hsi _).drew) ((hlown.alloc _).drew) (by simp;omega) hgrow⟩
         ·rw[List.length_append,HL.out.2];simp;omega
         ·intro p hp
          rcases List.mem_append.1 hp with hp|hp
          ·exact HL.out.1.2 p hp
          ·obtain rfl:p=_:=by simpa using hp
           exact HUV.out
         ·rw[List.length_append,HL.out.2];rfl
        case measure=>simp[intOf] <;> omega
       ·have hj1:1<=j:=by omega
        obtain⟨lao,lcap,rfl,_,_⟩:=own_form hlown;have hown':=Po.own_below hown hni lr;have hnx1:nx<=1000000000000000:=hnx;have hgo2:(j:Int)<3+za%4->¬((at1:Int)+1<nx):=fun h1 h2=>hgo ⟨h1,by omega⟩
        by_cases h3:3<=j
        ·by_cases hjz:(j:Int)<3+za%4
         all_goals
          (first|have hstop:=hgo2 hjz|skip)
          clear hgo2 hgo
          go_wp2_with(first|(with_reducible refine wp_region_lex (by kernel_rfl) (by kernel_rfl) ?_)|(with_reducible refine OnlyG.intro (by kernel_rfl) ?_)|(at_builtin;refine wpList_append_own _ rfl (.tmp 90) (.tmp 92) 28 rfl w.heap.size 27 i0 (.slice none 0 0) 1 24 Tryz.underlying28 hi hz0 hz1 hz2 rfl (by decide) _ _ _ rfl (hown'.alloc _) ⟨wr.heap.size,0,none⟩ 1 1 [.slice lao j lcap] rfl rfl (cells_new _ _ _ _ rfl) (by simp[Value.oneCell']) (by unfold maxLen;omega) (by omega) (by simp;omega) ?_;intro v' w1 hown1 hgrow _))
          go_roundw
          case rel=>
           refine⟨at1,k+1,vs++[.slice lao j lcap],ls++[lc],rfl,by omega,by omega,⟨⟨?_,?_⟩,?_⟩,hown1,?_,below_append ((hbel.trans (hni.mono hsz)).alloc (by have:=hni.size;omega) _) (hown'.alloc _) (by have:=hni.size;simp;omega) hgrow⟩
           ·rw[List.length_append, <-HT.out.2];simp;omega
           ·intro l hl
            rcases List.mem_append.1 hl with hl|hl
            ·exact HT.out.1.2 l hl
            ·obtain rfl:l=lc:=by simpa using hl
             exact⟨by rw[HL.out.2];exact h3,HL.out.1⟩
           ·rw[List.length_append, <-HT.out.2];rfl
           ·refine Po.OwnRings.grown (hown'.alloc _) hgrow (Po.OwnRings.snoc ?_ (Po.OwnRings.below ((Below.refl wr.heap.size wr).alloc lr _) lr (Po.OwnRings.below hni lr HO.out)))
            rw[HL.out.2];exact own_base (hlown.alloc _) hsz
          case measure=>simp[intOf] <;> omega
        ·exfalso
         by_cases hjz:(j:Int)<3+za%4
         ·have:=hgo2 hjz;omega
         ·omega
     ·have q1:decide ((at0:Int)+5<(nx:Int))=true:=by simp;omega
      have q2:decide ((k:Int)<2)=false:=by simp;omega
      obtain⟨ao,co,rfl,_,_⟩:=own_form hown;go_wp2;go_ret;exact⟨_,ls,rfl,HT.out.1,⟨vs,by rw[<- HT.out.2];exact hown,HO.out⟩,hbel⟩
    ·have q1:decide ((at0:Int)+5<(nx:Int))=false:=by simp;omega
     obtain⟨ao,co,rfl,_,_⟩:=own_form hown;go_wp2;go_ret;exact⟨_,ls,rfl,HT.out.1,⟨vs,by rw[<- HT.out.2];exact hown,HO.out⟩,hbel⟩
end
end Go.Proofs.YtpkoapmpknbgoaaGreat
