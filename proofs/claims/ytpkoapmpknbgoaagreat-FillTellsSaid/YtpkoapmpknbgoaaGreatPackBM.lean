/- Joined: FiQ, FiS, FtB, SlAq, SlBq, BdA, FiT, CellAq, NcAq, NcRq, NcCq, PkPq, PkQq, PkRq, PcAq, PdAq, PdDq, PdEq, QM, PdIq, PdCq, SlCq, HpAq, HpBq, HpEq, HpCq: contracts and plain laws, each with its own heading below. -/
import Derived.Test.YtpkoapmpknbgoaaGreatPackBL
import Derived.Test.YtpkoapmpknbgoaaGreatPackBJ
import Derived.Test.YtpkoapmpknbgoaaGreatPackBC
import Derived.Test.YtpkoapmpknbgoaaGreatPackBB
import Derived.Lib.Walk
import Derived.Lib.SliceRun
import Derived.Lib.SlicesCompact
import Derived.Deep.LoopGhost
import Derived.Deep.Draws
import Derived.Great.BuildSlice
import Derived.Lib.OwnBridge
import Derived.Test.YtpkoapmpknbgoaaGreatPackBF
import Derived.Maps.AppendAt
import Derived.Deep.RegionLaw
import Derived.Deep.AppendLies
import Derived.Test.YtpkoapmpknbgoaaGreatPackBD
import Derived.Test.YtpkoapmpknbgoaaGreatProg
import Derived.Deep.CutRange
import Derived.BigRegion
import Derived.Maps.OwnSet
import Derived.WideKeyEntry
import Derived.ChangeKeysEq
import Derived.Deep.RegionLawGrows
set_option maxRecDepth 1000000
set_option maxHeartbeats 16000000
namespace Go.Proofs.YtpkoapmpknbgoaaGreat.Po
section
open Go.RowKit
def RgsOK(ls:List (List Pt)):Prop:=(0<ls.length/\ls.length<=2)/\∀l∈ls,(3<=l.length/\l.length<=12)/\∀p∈l,Wd1 p.1/\Wd1 p.2
theorem RgsOK.all{ls:List (List Pt)}(h:RgsOK ls):∀l∈ls,3<=l.length/\l.length<=12/\AllIn l:=fun l hl=>by
 have:=h.2 l hl;exact⟨this.1.1,this.1.2,fun p hp=>by have:=this.2 p hp;unfold Wd1 at this;exact⟨this.1.1,this.1.2,this.2.1,this.2.2⟩⟩
theorem RgsOK.check{ls:List (List Pt)}(h:RgsOK ls):checkF ls=0:=check_ok (c:=12) h.1.1 (by have:=h.1.2;omega) (by have:=h.1.2;omega) h.all
def Bd(s:Bx)(x0 y0 x1 y1:Int):Prop:=x0<=s.a/\y0<=s.b/\s.c<=x1/\s.d<=y1/\s.a<=s.c/\s.b<=s.d
theorem bxR_bd{l:List Pt}{x0 y0 x1 y1:Int}(hl:∀p∈l,(x0<=p.1/\p.1<=x1)/\y0<=p.2/\p.2<=y1){s:Bx}(h:Bd s x0 y0 x1 y1):∀j,j<=l.length->Bd (bxR l s j) x0 y0 x1 y1
 |0,_=>h
 |j+1,hj=>by
  have ih:=bxR_bd hl h j (by omega);have hp:=hl _ (px_mem (l:=l) (j:=j) (by omega));rw[bxR_succ];generalize bxR l s j=t at *;unfold Bd bstep at *;dsimp only at *;omega
theorem box_within{ls:List (List Pt)}(h:RgsOK ls){x0 y0 x1 y1:Int}(hl:∀l∈ls,∀p∈l,(x0<=p.1/\p.1<=x1)/\y0<=p.2/\p.2<=y1):Bd (boxF ls) x0 y0 x1 y1:=by
 unfold boxF;rw[if_pos h.check];have hm:∀k,k<ls.length->rg ls k∈ls:=fun k hk=>by unfold rg;simp[List.getD_eq_getElem?_getD,hk]
 have h0:Bd (bx0 ls) x0 y0 x1 y1:=by
  have hm0:=hm 0 h.1.1;have:=hl _ hm0 _ (px_mem (l:=rg ls 0) (j:=0) (by have:=(h.2 _ hm0).1.1;omega));unfold Bd bx0;dsimp only at *;omega
 have:∀k,k<=ls.length->Bd (bxTo ls k) x0 y0 x1 y1:=by
  intro k
  induction k with
  |zero=>intro _;exact h0
  |succ k ih=>
   intro hk;rw[bxTo_succ];exact bxR_bd (hl _ (hm k (by omega))) (ih (by omega)) _ lr
 exact this _ lr
end
end Go.Proofs.YtpkoapmpknbgoaaGreat.Po
namespace Go.Proofs.YtpkoapmpknbgoaaGreat
section
open Go.RowKit Go.Lib Wd Cv
theorem blo_bd{ls:List (List (Int×Int))}{x0 y0 x1 y1:Int}(h:Po.Bd (Po.boxF ls) x0 y0 x1 y1):x0<=(blo ls).1/\y0<=(blo ls).2/\(bhi ls).1<=x1/\(bhi ls).2<=y1/\(blo ls).1<=(bhi ls).1/\(blo ls).2<=(bhi ls).2:=h
theorem world_bd{ls:List (List (Int×Int))}(h:Po.RgsOK ls):Po.Bd (Po.boxF ls) 0 0 1073741823 1073741823:=Po.box_within h fun l hl p hp=>by
 have:=(h.2 l hl).2 p hp;unfold Po.Wd1 at this;omega
theorem ch_rings{R:Nat}(hR:R<=12){ls:List (List (Int×Int))}(h:Po.RgsOK ls):chE (blo ls) (bhi ls) R=0:=by
 obtain⟨h1,h2,h3,h4,h5,h6⟩:=blo_bd (world_bd h);exact ch_in hR ((worldB_iff _ _).2 (by omega)) ((worldB_iff _ _).2 (by omega)) h5 h6
theorem fill_t{R:Nat}(hR:R<=12){ls:List (List (Int×Int))}(hk:Po.RgsOK ls)(hw:(bhi ls).1-(blo ls).1<=28*sizeN (12-R))(hh:(bhi ls).2-(blo ls).2<=28*sizeN (12-R)){ao:Option Addr}{n c B:Nat}{W:World}(hB:B<=W.heap.size)(h:RgAt W B ao n ls):
  Calls Tryz.prog 8 #[.slice ao n c,.int .i64 R] W fun e w'=>∃L lo lc ln,IsFil R ls L/\e=.returned (.tuple #[.slice lo ln lc,.int .i64 0])/\LAt w' lo ln lc L/\Below W.heap.size W w':=by
 refine(fill_few hB h hk.check (ch_rings hR hk) hw hh).mono ?_;rintro e w' ⟨L,ao,c,n,hL,rfl,hn,ho,hb⟩;exact⟨L,ao,c,n,hL,rfl,LAt.of_own hn ho,hb⟩
theorem wide_ok{ls:List (List (Int×Int))}(hk:Po.RgsOK ls){x0 y0 x1 y1 d:Int}(h:∀l∈ls,∀p∈l,(x0<=p.1/\p.1<=x1)/\y0<=p.2/\p.2<=y1)(hx:x1-x0<=d)(hy:y1-y0<=d):(bhi ls).1-(blo ls).1<=d/\(bhi ls).2-(blo ls).2<=d:=by
 obtain⟨h1,h2,h3,h4,h5,h6⟩:=blo_bd (Po.box_within hk h);omega
theorem isFil_box{R:Nat}{ls:List (List (Int×Int))}{A:List Int}(hA:IsBox R (blo ls) (bhi ls) A):IsFil R ls ((A.filter (cenB R (blo ls) (bhi ls))).filter (fillB ls R)):=by
 refine⟨filter_up (filter_up hA.1 _) _,fun x=>?_,Nat.le_trans (List.length_filter_le _ _) (Nat.le_trans (List.length_filter_le _ _) hA.2.2)⟩;rw[List.mem_filter,List.mem_filter,hA.2.1];unfold TouchW FilW fillB cenB;constructor
 ·rintro⟨⟨⟨z,h1,h2,rfl⟩,h3⟩,h4⟩
  rw[Int.toNat_natCast,(word_cell h1).2.2]at h3 h4;exact⟨z,h1,h3,h4,rfl⟩
 ·rintro⟨z,h1,h2,h3,rfl⟩
  exact⟨⟨⟨z,h1,cen_touch (Nat.sub_le _ _) h2,rfl⟩,by rw[Int.toNat_natCast,(word_cell h1).2.2];exact h2⟩,by rw[Int.toNat_natCast,(word_cell h1).2.2];exact h3⟩
def WantP(w:World)(R:Nat)(ls:List (List (Int×Int)))(e:Ending)(w':World):Prop:=
 (e=.returned (.tuple #[.slice none 0 0,.bool false])∨∃L ao c n,IsFil R ls L/\e=.returned (.tuple #[.slice ao n c,.bool true])/\n=L.length/\WordsAt w' w'.heap.size ao L)/\Below w.heap.size w w'
theorem want_any{R:Nat}(hR:R<=12){ro:Option Addr}{rn rc:Nat}{ls:List (List (Int×Int))}(hk:Po.RgsOK ls){w:World}(hrg:RgAt w w.heap.size ro rn ls):
  Calls Tryz.prog 23 #[.slice ro rn rc,.int .i64 R] w (WantP w R ls):=by
 have hch:=ch_rings hR hk;have hpb:=Po.rbox_any ro rc ls w w.heap.size lr hrg.rings (by rw[hrg.len];exact hrg.few) hrg.tot;rw[hrg.len]at hpb;have HPB:=Hd hpb;have HBX:=Hd (fun W=>rbox_any (blo ls) (bhi ls) hch 300 (by decide) (by decide) W);have HCE:Hid (∀ L,IsBox R (blo ls) (bhi ls) L->∀ao n c W,n=L.length->WordsAt W W.heap.size ao L->Calls Tryz.prog 51 #[.slice ao n c,vE (blo ls),vE (bhi ls)] W (RcP W (L.filter (cenB R (blo ls) (bhi ls))))):=fun L hL ao n c W hn hw=>by
  refine rcens_any R hR (blo ls) (bhi ls) ao n c L W hn (by have:=hL.2.2;omega) hw fun x hx=>?_
  obtain⟨z,h1,_,h3⟩:=(hL.2.1 x).1 hx;exact⟨z,h1,h3⟩
 have HFI:Hid (∀ L,IsBox R (blo ls) (bhi ls) L->∀ao n c W,Below w.heap.size w W->n=(L.filter (cenB R (blo ls) (bhi ls))).length->WordsAt W W.heap.size ao (L.filter (cenB R (blo ls) (bhi ls)))->Calls Tryz.prog 50 #[.slice ro rn rc,.slice ao n c] W (RcP W ((L.filter (cenB R (blo ls) (bhi ls))).filter (fillB ls R)))):=fun L hL ao n c W hb hn hw=>by
  refine rfill_any R hR ao n c _ W hb.size (hrg.below hb lr) hn (by have:=hL.2.2;have:=List.length_filter_le (cenB R (blo ls) (bhi ls)) L;omega) hw fun x hx=>?_
  obtain⟨z,h1,_,h3⟩:=(hL.2.1 x).1 (List.mem_filter.1 hx).1;exact⟨z,h1,h3⟩
 have HIS:Hid (∀ L,IsBox R (blo ls) (bhi ls) L->IsFil R ls ((L.filter (cenB R (blo ls) (bhi ls))).filter (fillB ls R))):=fun L hL=>isFil_box hL
 have HBE:Hid (Po.boxV (Po.boxF ls)=.tuple #[vE (blo ls),vE (bhi ls)]):=rfl;rw[HBE.out]at HPB;generalize blo ls=lo at *;generalize bhi ls=hi at *;generalize cenB R lo hi=p at *;generalize fillB ls R=p2 at *;obtain⟨lx,ly⟩:=lo;obtain⟨ux,uy⟩:=hi;simp only[vE]at *;clear hch hpb hrg hk HBE
 go_enter Tryz.func23,Tryz.ntmps23
 go_wp2_with fail
 refine HPB.out.mono ?_;rintro e w1 ⟨rfl,hb1⟩;obtain⟨w2,hw2⟩:∃W,(w1.alloc (.cells #[.int .i64 lx,.int .i64 ly] 26)).alloc (.cells #[.int .i64 ux,.int .i64 uy] 26)=W:=⟨_,rfl⟩;have hb2:Below w1.heap.size w1 w2:=by rw[<- hw2];exact(br.alloc lr _).alloc (by simp) _
 have x0:w2.heap[w1.heap.size]? =some (.cells #[.int .i64 lx,.int .i64 ly] 26 (0,0)):=by
  rw[<- hw2,Below.heap_alloc _ _ _ (by simp)];exact heap_new _ _ _ rfl
 have x1:w2.heap[w1.heap.size+1]? =some (.cells #[.int .i64 ux,.int .i64 uy] 26 (0,0)):=by rw[<- hw2];exact heap_new _ _ _ (by simp)
 have HS0:=Hd (stay_of x0);have HS1:=Hd (stay_of x1);have HB2:=Hd (hb1.trans (hb2.mono hb1.size));have HW2:=Hd hw2;clear hb1 hb2 x0 x1 hw2 HPB
 go_upto_region 2 with(fail)
 first|rw[HW2.out]|skip
 generalize w1.heap.size=g at *;clear HW2;obtain⟨l0,l1,l2⟩:=cel2 (HS0.out w2 br);obtain⟨u0,u1,u2⟩:=cel2 (HS1.out w2 br)
 go_wp2_with fail
 refine(HBX.out w2).mono ?_;rintro e w3 ⟨⟨rfl⟩|⟨L,ao,c,n,hL,-,rfl,hn,hws⟩,hb3⟩
 ·have HB3:=Hd (HB2.out.trans (hb3.mono HB2.out.size))
  clear hb3 l0 l1 l2 u0 u1 u2;go_wp2;go_ret2;exact⟨.inl rfl,HB3.out⟩
 ·have HCL:=Hd (HCE.out L hL ao n c w3 hn hws)
  have HFL:=Hd (HFI.out L hL);have HFI2:=Hd (HIS.out L hL);obtain⟨m0,m1,m2⟩:=cel2 (HS0.out w3 hb3);obtain⟨v0,v1,v2⟩:=cel2 (HS1.out w3 hb3);have HB3:=Hd (HB2.out.trans (hb3.mono HB2.out.size));clear hb3 l0 l1 l2 u0 u1 u2 HCE HFI HIS hL hn hws HBX
  go_wp2_with fail
  refine HCL.out.mono ?_;rintro e w4 ⟨ao4,m4,c4,rfl,hm4,hw4,hb4⟩;have HB4:=Hd (HB3.out.trans (hb4.mono HB3.out.size));have HF4:=Hd (HFL.out ao4 m4 c4 w4 HB4.out hm4 hw4);clear hb4 HFL hm4 hw4 m0 m1 m2 v0 v1 v2 HCL
  go_wp2_with fail
  refine HF4.out.mono ?_;rintro e w5 ⟨ao5,m5,c5,rfl,hm5,hw5,hb5⟩;have HB5:=Hd (HB4.out.trans (hb5.mono HB4.out.size));have HM5:=Hd hm5;have HW5:=Hd hw5;clear hb5 hm5 hw5 HF4;go_wp2;go_ret2;exact⟨.inr ⟨_,ao5,c5,m5,HFI2.out,rfl,HM5.out,HW5.out⟩,HB5.out⟩
end
section
open Go.RowKit Go.Lib Go.Sort
theorem uclone_any(b off c:Nat)(l:List Int)(w:World)(hl:l.length<=1000000000)(hc:∀i,i<l.length->w.cell? ⟨b,off+i,none⟩=some (.int .u64 (l.getD i 0))):
  Calls Tryz.prog 125 #[.slice (some ⟨b,off,none⟩) l.length c] w fun e w'=>∃v',e=.returned v'/\w'.ownsRow w.heap.size 35 1 v' l.length (uV l)/\Below w.heap.size w w':=by
 obtain⟨i0,hi,hz0,hz1,hz2⟩:=info_parts info_u;have q22:∀(w:World) (a:Option Addr) (n c n' c':Nat),(binOp .eql 22 (.slice a n c) (.slice none n' c')).run Tryz.prog w=.ok (.bool a.isNone) w:=fun w a n c n' c'=>Lib.run_eql_slice_nil w _ _ a n c n' c' Tryz.underlying22
 have A:Aside (∀ j u,(uV l)[j]? =some u->w.cell? ⟨b,off+j,none⟩=some u):=fun j u hj=>by
  have hjl:j<l.length:=by have:=(List.getElem?_eq_some_iff.1 hj).1;rwa[uV_len]at this
  rw[uV_get l j hjl]at hj;cases hj;exact hc j hjl
 clear hc
 go_enter Tryz.func125,Tryz.ntmps125
 go_wp2_with(at_builtin;refine wpList_append_own _ rfl _ _ 22 rfl w.heap.size 35 i0 (.int .u64 0) 1 8 Tryz.underlying22 hi hz0 hz1 hz2 rfl (by decide) _ _ _ rfl (World.ownsRow_made w #[] 0 lr (Nat.zero_le _) (by simp)) ⟨b,off,none⟩ l.length c (uV l) rfl ?qc1 ?qc2 ?qc3 ?qc4 ?qc5 ?qc6 ?_)
 case qc1=>rw[uV_len,Nat.mul_one]
 case qc2=>
  intro j u hj;rw[Addr.add_lit];exact Lib.cell?_alloc_some _ (A.out j u hj)
 case qc3=>exact uV_cell l
 case qc4=>rw[Nat.zero_add];unfold maxLen;omega
 case qc5=>rw[Nat.zero_add];omega
 case qc6=>simp
 intro v' w1 hown hgrow hnil;go_wp2;go_ret;exact⟨v',rfl,by simpa using hown,((Below.refl _ w).alloc lr _).grown hgrow (by simp) (by intro k hk;simp[Value.ownBlock]at hk;omega)⟩
theorem store_world_u{w wr:World}{n blk off:Nat}{dk:Array Int}{i:Nat}(hi:i<dk.size)(hwr:wr=putRow encU (Sort.ahead w n) blk off dk)(x:Int):
  (wr.setCell ⟨blk,off+i,none⟩ (encU x)).drew=putRow encU (Sort.ahead w (n+1)) blk off (dk.setIfInBounds i x):=by
 subst hwr;rw[putRow_set encU _ blk off dk i x hi, <-ahead_drew]
 rfl
theorem ucompact_any(blk off cap:Nat)(d:Array Int)(w:World)(hH:Holds encU w blk off d)(hsz:d.size<=9223372036854775807)(hcap:d.size<=cap):
  Calls Tryz.prog 127 #[.slice (some ⟨blk,off,none⟩) d.size cap] w fun e w'=>e=.returned (.slice (some ⟨blk,off,none⟩) (compactUpTo d d.size).length cap)/\∃q,w'=putRow encU (Sort.ahead w q) blk off (compactUpTo d d.size++List.replicate (d.size-(compactUpTo d d.size).length) 0).toArray:=by
 have v23:∀w,(zeroValue 35).run Tryz.prog w=.ok (.int .u64 0) w:=fun _=>by kernel_rfl
 have same:∀q,(∀ j,j<d.size->keeps d j=true)->(compactUpTo d d.size).length=d.size/\w.drewN q=putRow encU (Sort.ahead w q) blk off (compactUpTo d d.size++List.replicate (d.size-(compactUpTo d d.size).length) 0).toArray:=by
  intro q hall;have e:compactUpTo d d.size=d.toList:=by rw[compactUpTo_all d _ hall,range_map_get]
  rw[e];refine⟨by simp,?_⟩;simp only[Array.length_toList,Nat.sub_self,List.replicate_zero,List.append_nil,Array.toArray_toList];exact(putRow_self encU (Sort.ahead w q) blk off d (holds_ahead encU w q blk off d hH)).symm
 have HS:Aside (∀ q,(∀ j,j<d.size->keeps d j=true)->(compactUpTo d d.size).length=d.size/\w.drewN q=putRow encU (Sort.ahead w q) blk off (compactUpTo d d.size++List.replicate (d.size-(compactUpTo d d.size).length) 0).toArray):=same;clear same;by_cases h2:d.size<2
 ·have HH:Aside (Holds encU w blk off d):=hH
  clear hH
  go_enter Tryz.func127,Tryz.ntmps127
  go_wp2;go_ret;obtain⟨e1,e2⟩:=HS.out 0 (fun j hj=>keeps_lt_one d j (by omega));exact⟨by rw[e1];rfl,0,e2⟩
 ·go_enter Tryz.func127,Tryz.ntmps127
  go_wp2
  go_loopg [3] d.size (fun g s3 wr=>∃k q:Nat,1<=k/\k<=d.size/\d.size-k<=g/\s3=.int .i64 k/\wr=w.drewN q/\∀j,j<k->keeps d j=true)
  case atStart=>exact⟨1,0,lr,by omega,by omega,rfl,rfl,keeps_lt_one d⟩
  case round=>
   obtain⟨k,q,hk1,hk,hg,rfl,rfl,hall⟩:=hrel;by_cases hlt:k<d.size
   ·obtain⟨c1,f1⟩:=hH k hlt
    obtain⟨c0,f0⟩:=hH (k-1) (by omega);have A:Aside (∀ j,j<k->keeps d j=true):=hall;have HH:Aside (Holds encU w blk off d):=hH;clear hall hH;generalize hx:d[k]! =x at c1;generalize hy:d[k-1]! =y at c0;have B:Aside (d[k]! =x/\d[k-1]! =y):=⟨hx,hy⟩;clear hx hy;by_cases hdup:x=y
    ·subst hdup
     go_wp2_with fail
     go_region
     go_wp2;clear c0 c1 f0 f1
     go_loopg [3,5] d.size (fun g s3 s5 wr=>∃(kk k2 q2:Nat) (dk:Array Int),s3=.int .i64 kk/\s5=.int .i64 k2/\1<=k2/\k+k2<=d.size/\d.size-(k+k2)<=g/\wr=putRow encU (Sort.ahead w q2) blk off dk/\CompInv d (k+k2) kk dk)
     case atStart=>exact⟨k,1,q+1,d,rfl,rfl,lr,by omega,by omega,(putRow_self encU (Sort.ahead w (q+1)) blk off d (holds_ahead encU w (q+1) blk off d HH.out)).symm,CompInv.start A.out (keeps_neg (by omega) (by rw[B.out.1,B.out.2]))⟩
     case round=>
      obtain⟨kk,k2,q2,dk,rfl,rfl,h1,hle,hg2,hwr,hI⟩:=hrel;have hkk:=hI.lt;have hds:=hI.size;have hHk:Holds encU wr blk off dk:=by rw[hwr];exact holds_putRow encU _ blk off d dk (holds_ahead encU w q2 blk off d HH.out) hds
      have W2:Aside (wr=putRow encU (Sort.ahead w q2) blk off dk):=hwr;have I2:Aside (CompInv d (k+k2) kk dk):=hI;clear hwr;by_cases hlt2:k+k2<d.size
      ·obtain⟨cm,_⟩:=hHk (k+k2) (by omega)
       obtain⟨cp,_⟩:=hHk (k+k2-1) (by omega);obtain⟨ck,fk⟩:=hHk kk (by omega);rw[hI.high (k+k2) (by omega),show off+(k+k2)=off+k+k2 by omega]at cm;rw[hI.high (k+k2-1) (by omega),show off+(k+k2-1)=off+k+(k2-1) by omega]at cp;clear hHk hI;generalize hu:d[k+k2]! =u at cm;generalize hv:d[k+k2-1]! =v at cp;generalize dk[kk]! =old at ck;have C:Aside (d[k+k2]! =u/\d[k+k2-1]! =v):=⟨hu,hv⟩;clear hu hv;by_cases huv:u=v
       ·subst huv
        go_wp2_with fail
        go_region
        go_wp2
        go_roundg (d.size-(k+(k2+1)))
        case measure=>omega
        case rel=>exact⟨kk,k2+1,q2+1,dk,rfl,by go_num,by omega,by omega,lr,by rw[W2.out];rfl,I2.out.skip (keeps_neg (by omega) (by rw[C.out.1,C.out.2]))⟩
       ·go_wp2_with fail
        go_region
        go_wp2
        go_roundg (d.size-(k+(k2+1)))
        case measure=>omega
        case rel=>exact⟨kk+1,k2+1,q2+1,dk.setIfInBounds kk u,by go_num,by go_num,by omega,by omega,lr,store_world_u (by omega) W2.out u,by have:=I2.out.keep hlt2 (keeps_pos (by rw[C.out.1,C.out.2];exact huv));rwa[C.out.1]at this⟩
      ·have hend:k+k2=d.size:=by omega
       have hcl:∀ty,(Builtin.clear_ #[22] ty #[.slice (some ⟨blk,off+kk,none⟩) (d.size-kk) (cap-kk)]).run Tryz.prog wr=.ok (.tuple #[]) (wr.setCells blk (off+kk) (List.replicate (d.size-kk) (encU 0))):=
        fun ty=>Lib.run_clear_slice wr _ _ ty _ Tryz.underlying22 v23 rfl rfl blk (off+kk) _ _ (by omega) (fun j hj=>by rw[show off+kk+j=off+(kk+j) by omega,(hHk (kk+j) (by omega)).1];rfl) (fun j hj=>by rw[show off+kk+j=off+(kk+j) by omega];exact(hHk (kk+j) (by omega)).2)
       clear hHk hI;go_wp2;go_ret;have hI:=I2.out;rw[hend]at hI;refine⟨by rw[hI.len];rfl,q2,?_⟩;rw[hI.len, <-hI.done 0, <-putRow_setCells encU _ blk off _ dk kk (by simp;omega), <-W2.out,List.map_replicate]
    ·go_wp2_with fail
     go_region
     go_wp2
     go_roundg (d.size-(k+1))
     case measure=>omega
     case rel=>
      refine⟨k+1,q+1,by omega,by omega,lr,by go_num,rfl,fun j hj=>?_⟩;by_cases e:j=k
      ·subst e
       exact keeps_pos (by rw[B.out.1,B.out.2];exact hdup)
      ·exact A.out j (by omega)
   ·have:k=d.size:=by omega
    subst this;have HH:Aside (Holds encU w blk off d):=hH;clear hH;go_wp2;go_ret;obtain⟨e1,e2⟩:=HS.out q hall;exact⟨by rw[e1];rfl,q,e2⟩
theorem unan_any(x:Int)(w:World):Calls Tryz.prog 77 #[.int .u64 x] w fun e w'=>e=.returned (.bool false)/\w=w':=by
 go_enter Tryz.func77,Tryz.ntmps77
 go_wp2;go_ret;exact⟨by simp,rfl⟩
def Found(l:List Int)(x:Int)(w:World)(e:Ending)(w':World):Prop:=∃p:Int,e=.returned (.tuple #[.int .i64 p,.bool (hasF l x)])/\w=w'
theorem bsch_any(ao:Option Addr)(c:Nat)(l:List Int)(x:Int)(w:World)(B:Nat)(h:WordsAt w B ao l)(hn:l.length<=1000000000)(hr:Rising l):
  Calls Tryz.prog 44 #[.slice ao l.length c,.int .u64 x] w (Found l x w):=by
 obtain⟨n,hnn⟩:∃n,l.length=n:=⟨_,rfl⟩;have HN:=Hd hnn;have HW:=Hd h;have HR:=Hd hr;rw[hnn]at hn ⊢;clear hnn h hr
 go_enter Tryz.func44,Tryz.ntmps44
 go_wp2
 go_loop [7,8] (fun i j=>∃lo hi:Nat,lo<=hi/\hi<=n/\i=.int .i64 lo/\j=.int .i64 hi/\Hid ((∀ k,k<lo->l.getD k 0<x)/\∀k,hi<=k->k<n->x<=l.getD k 0)) (fun i j=>(intOf j).toNat-(intOf i).toNat)
 case atStart=>exact⟨0,n,Nat.zero_le _,lr,rfl,rfl,fun k hk=>by omega,fun k h1 h2=>by omega⟩
 case round=>
  obtain⟨lo,hi,h1,h2,rfl,rfl,HA⟩:=hrel;by_cases hlt:lo<hi
  ·obtain⟨b,off,rfl,hb,hc⟩:=HW.out (by rw[HN.out];omega)
   obtain⟨m,hm⟩:∃m,(lo+hi)/2=m:=⟨_,rfl⟩;have hm1:lo<=m:=by omega
   have hm2:m<hi:=by omega
   have hmI:((lo:Int)+(hi:Int))/2=(m:Int):=by omega
   have c0:=hc m (by rw[HN.out];omega);have HL1:Hid (l.getD m 0<x->∀k,k<m+1->l.getD k 0<x):=fun e k hk=>by
    have:=HR.out k m (by omega) (by rw[HN.out];omega);omega
   have HL2:Hid (¬ l.getD m 0<x->∀k,m<=k->k<n->x<=l.getD k 0):=fun e k h3 h4=>by
    have:=HR.out m k h3 (by rw[HN.out];exact h4);omega
   generalize l.getD m 0=y at c0 HL1 HL2;clear hc hm;have HC:=Hd (u64_cmp_Less_int y x);by_cases hyx:y<x
   ·have hL:=HL1.out hyx
    have HLL:=Hd hL;have hq:Sort.ltInt y x=true:=by simp[Sort.ltInt,hyx]
    rw[hq]at HC;clear hL HL1 HL2 hq
    go_wp2_with(go_at_call 76;refine(HC.out _).mono ?_;rintro e w' ⟨rfl,rfl⟩)
    go_round
    case rel=>exact⟨m+1,hi,by omega,h2,by go_num,rfl,HLL.out,HA.out.2⟩
    case measure=>simp[intOf];omega
   ·have hL:=HL2.out hyx
    have HLL:=Hd hL;have hq:Sort.ltInt y x=false:=by simp[Sort.ltInt];omega
    rw[hq]at HC;clear hL HL1 HL2 hq
    go_wp2_with(go_at_call 76;refine(HC.out _).mono ?_;rintro e w' ⟨rfl,rfl⟩)
    go_round
    case rel=>exact⟨lo,m,by omega,by omega,rfl,by go_num,HA.out.1,HLL.out⟩
    case measure=>simp[intOf];omega
  ·obtain rfl:lo=hi:=by omega
   by_cases hln:lo<n
   ·obtain⟨b,off,rfl,hb,hc⟩:=HW.out (by rw[HN.out];omega)
    have c0:=hc lo (by rw[HN.out];exact hln);have HY:Hid (l.getD lo 0=x->hasF l x=true):=fun e=>hasF_yes (by rw[HN.out];exact hln) e
    have HNO:Hid (l.getD lo 0≠x->hasF l x=false):=fun e=>hasF_no fun j hj=>by
     rw[HN.out]at hj;by_cases hjl:j<lo
     ·have:=HA.out.1 j hjl;omega
     ·have h3:=HA.out.2 lo lr hln
      have h4:=HR.out lo j (by omega) (by rw[HN.out];exact hj);omega
    generalize l.getD lo 0=y at c0 HY HNO;clear hc;have HNA:=Hd unan_any;have q0:decide ((lo:Int)<(n:Int))=true:=by simp;omega
    by_cases he:y=x
    ·have hq:(y==x)=true:=by simpa using he
     have HF:Hid (hasF l x=true):=HY.out he;clear he HY HNO;go_wp2;go_ret2;exact⟨(lo:Int),by(first|(rw[HF.out];done)|(rw[HF.out];rfl)),rfl⟩
    ·have hq:(y==x)=false:=by simpa using he
     have HF:Hid (hasF l x=false):=HNO.out he;clear he HY HNO
     go_wp2_with(go_at_call 77;refine(HNA.out _ _).mono ?_;rintro e w' ⟨rfl,rfl⟩)
     go_ret2;exact⟨(lo:Int),by(first|(rw[HF.out];done)|(rw[HF.out];rfl)),rfl⟩
   ·obtain rfl:lo=n:=by omega
    have HF:Hid (hasF l x=false):=hasF_no fun j hj=>by
     rw[HN.out]at hj;have:=HA.out.1 j hj;omega
    have q0:decide ((lo:Int)<(lo:Int))=false:=by simp
    go_wp2;go_ret2;exact⟨(lo:Int),by(first|(rw[HF.out];done)|(rw[HF.out];rfl)),rfl⟩
theorem bdindex_any(cb:Array Value)(p:Int->Bool)(ao:Option Addr)(n c:Nat)(l:List Int)(w:World)(blk:Nat)(hn:l.length=n)(hbig:n<=1000000)
  (hw:WordsAt w w.heap.size ao l) (ha:AskU 47 cb p w blk l):
  Calls Tryz.prog 58 #[.slice ao n c,.func (.func 47) #[] cb] w fun e w'=>e=.returned (.int .i64 (idxN p l))/\Below w.heap.size w w':=by
 have HW:=Hd hw;have HA:=Hd ha;have HN:=Hd hn;have HY:Hid (∀ k,k<l.length->(∀ j,j<k->p (l.getD j 0)=false)->p (l.getD k 0)=true->idxN p l=k):=fun k hk h1 h2=>by
  unfold idxN;rw[first_at hk h1 h2,if_pos hk]
 have HZ:Hid ((∀ j,j<l.length->p (l.getD j 0)=false)->idxN p l= -1):=fun h=>by
  unfold idxN;rw[(first_none h).1,if_neg (Nat.lt_irrefl _)]
 generalize idxN p l=res at *;clear hw ha hn
 go_enter Tryz.func58,Tryz.ntmps58
 go_upto_region 2 with(fail)
 go_loopg [5,8] n (fun q _ s8 wr=>∃k:Nat,k<=n/\n-k<=q/\s8=.int .i64 k/\Hid (Below w.heap.size w wr/\∀j,j<k->p (l.getD j 0)=false))
 case atStart=>exact⟨0,by omega,by omega,by go_num,br,fun j hj=>by omega⟩
 case round=>
  obtain⟨k,hk,hq,rfl,HR⟩:=hrel;by_cases hlt:k<n
  ·obtain⟨b,off,rfl,hb,hc⟩:=(HW.out.below HR.out.1 lr) (by have:=HN.out;omega)
   have c0:=hc k (by have:=HN.out;omega);have hki:(k:Int)<(n:Int):=by omega
   have hcall:=HA.out wr (l.getD k 0) (Turn.of_below HR.out.1) (by rw[List.getD_eq_getElem?_getD,List.getElem?_eq_getElem (by have:=HN.out;omega)];exact List.getElem_mem _);obtain⟨x,hx⟩:∃x,l.getD k 0=x:=⟨_,rfl⟩;have HX:=Hd hx;rw[hx]at c0 hcall;clear hc hx hb;cases hp:p x with
   |true=>
    rw[hp]at hcall
    go_wp2_with(go_at_call 47;refine hcall.mono ?_;rintro e w2 ⟨rfl,hb2⟩)
    go_ret;exact⟨by rw[HY.out k (by have:=HN.out;omega) HR.out.2 (by rw[HX.out];exact hp)];rfl,HR.out.1.trans (hb2.mono HR.out.1.size)⟩
   |false=>
    rw[hp]at hcall
    go_wp2_with(go_at_call 47;refine hcall.mono ?_;rintro e w2 ⟨rfl,hb2⟩)
    go_roundg (n-(k+1))
    case measure=>omega
    case rel=>
     refine⟨k+1,by omega,lr,by go_num,HR.out.1.trans (hb2.mono HR.out.1.size),fun j hj=>?_⟩;by_cases e:j=k
     ·subst e;rw[HX.out];exact hp
     ·exact HR.out.2 j (by omega)
  ·obtain rfl:k=n:=by omega
   have hki:¬(k:Int)<(k:Int):=by omega
   go_wp2;go_ret;exact⟨by rw[HZ.out fun j hj=>HR.out.2 j (by have:=HN.out;omega)];rfl,HR.out.1⟩
theorem bdcontains_any(cb:Array Value)(p:Int->Bool)(ao:Option Addr)(n c:Nat)(l:List Int)(w:World)(blk:Nat)(hn:l.length=n)(hbig:n<=1000000)
  (hw:WordsAt w w.heap.size ao l) (ha:AskU 47 cb p w blk l):
  Calls Tryz.prog 46 #[.slice ao n c,.func (.func 47) #[] cb] w fun e w'=>e=.returned (.bool (l.any p))/\Below w.heap.size w w':=by
 have HI:=Hd (bdindex_any cb p ao n c l w blk hn hbig hw ha);have HS:Hid (decide (0<=idxN p l)=l.any p):=by
  show _=_;by_cases h:∀j,j<l.length->p (l.getD j 0)=false
  ·have e1:idxN p l= -1:=by unfold idxN;rw[(first_none h).1,if_neg (Nat.lt_irrefl _)]
   rw[e1];symm;rw[show decide ((0:Int)<= -1)=false by decide,Bool.eq_false_iff,ne_eq,List.any_eq_true];rintro⟨x,hx,hp⟩;obtain⟨j,hj,rfl⟩:=List.getElem_of_mem hx;have:=h j hj;rw[List.getD_eq_getElem?_getD,List.getElem?_eq_getElem hj,Option.getD_some,hp]at this;cases this
  ·have hlt:firstF p l<l.length:=by
    rcases Nat.lt_or_ge (firstF p l) l.length with h1|h1
    ·exact h1
    ·exact absurd (fun j hj=>by
      have h2:=List.not_of_lt_findIdx (p:=p) (xs:=l) (i:=j) (by unfold firstF at h1;omega);rw[List.getD_eq_getElem?_getD,List.getElem?_eq_getElem hj];simpa using h2) h
   unfold idxN;rw[if_pos hlt];symm;rw[decide_eq_true (by omega),List.any_eq_true];exact⟨l[firstF p l],List.getElem_mem _,List.findIdx_getElem (w:=hlt)⟩
 generalize idxN p l=r at *;generalize l.any p=b at *;clear hw ha
 go_enter Tryz.func46,Tryz.ntmps46
 go_wp2_with fail
 refine HI.out.mono ?_;rintro e w1 ⟨rfl,hb1⟩;have HB1:=Hd hb1;clear hb1;go_wp2;go_ret;exact⟨ret_bool HS.out,HB1.out⟩
theorem bdq_any{lo:Option Addr}{ln lc lb:Nat}{L:List Int}(x:Int){w:World}(hc:w.cell? ⟨lb,0,none⟩=some (.slice lo ln lc))(h:LAt w lo ln lc L)(hr:Rising L)(hn:ln<=1000000):
  Calls Tryz.prog 43 #[.int .u64 x,.pointer (some ⟨lb,0,none⟩)] w fun e w'=>e=.returned (.bool (hasF L x))/\w=w':=by
 have hs:=bsch_any lo lc L x w w.heap.size h.2.1 (by have:=h.1;omega) hr;rw[<- h.1]at hs;have HS:=Hd hs;have hl:=World.block_lt_of_cell? w _ hc;dsimp only at hl;clear hs h
 go_enter Tryz.func43,Tryz.ntmps43
 go_wp2_with fail
 refine HS.out.mono ?_;rintro e w1 ⟨p,rfl,rfl⟩;go_wp2;go_ret;exact⟨rfl,rfl⟩
theorem bdask_any{lo:Option Addr}{ln lc lb hb:Nat}{L:List Int}(x:Int){w:World}(hc:w.cell? ⟨lb,0,none⟩=some (.slice lo ln lc))(hh:w.cell? ⟨hb,0,none⟩=some (.func (.func 43) #[] #[.pointer (some ⟨lb,0,none⟩)]))(h:LAt w lo ln lc L)(hr:Rising L)(hn:ln<=1000000):
  Calls Tryz.prog 47 (#[.int .u64 x]++#[.pointer (some ⟨hb,0,none⟩)]) w fun e w'=>e=.returned (.bool (!hasF L x))/\Below w.heap.size w w':=by
 have HQ:=Hd (bdq_any x hc h hr hn);have hl:=World.block_lt_of_cell? w _ hh;dsimp only at hl;clear hc h;generalize hasF L x=b at *;show Calls Tryz.prog 47 #[.int .u64 x,.pointer (some ⟨hb,0,none⟩)] w _
 go_enter Tryz.func47,Tryz.ntmps47
 go_wp2_with fail
 refine HQ.out.mono ?_;rintro e w1 ⟨rfl,rfl⟩;go_wp2;go_ret;exact⟨rfl,br⟩
end
section
open Go.RowKit Go.Lib Wd Cv
end
section
open Go.RowKit Go.Lib Go.Sort
theorem uclip_any(ao:Option Addr)(n c:Nat)(w:World)(h:n<=c):Calls Tryz.prog 126 #[.slice ao n c] w fun e w'=>e=.returned (.slice ao n n)/\w=w':=by
 go_enter Tryz.func126,Tryz.ntmps126
 go_wp2;go_ret;exact⟨rfl,rfl⟩
theorem ucompact_none(ao:Option Addr)(c:Nat)(w:World):Calls Tryz.prog 127 #[.slice ao 0 c] w fun e w'=>e=.returned (.slice ao 0 c)/\w=w':=by
 go_enter Tryz.func127,Tryz.ntmps127
 go_wp2;go_ret;exact⟨rfl,rfl⟩
end
section
open Go.RowKit Go.Lib Wd
theorem two_new(w:World)(r:Int)(z:E2):
  Hid (Tri ((w.alloc (.cells #[.int .i64 r,.int .i64 z.1,.int .i64 z.2] 39)).alloc (.cells #[.int .i64 0,.int .i64 0,.int .i64 0] 39)) w.heap.size r z)/\Hid (Tri ((w.alloc (.cells #[.int .i64 r,.int .i64 z.1,.int .i64 z.2] 39)).alloc (.cells #[.int .i64 0,.int .i64 0,.int .i64 0] 39)) (w.heap.size+1) 0 (0,0))/\Hid (Below w.heap.size w ((w.alloc (.cells #[.int .i64 r,.int .i64 z.1,.int .i64 z.2] 39)).alloc (.cells #[.int .i64 0,.int .i64 0,.int .i64 0] 39))):=by
 refine⟨?_,heap_new _ _ _ (by simp),(br.alloc lr _).alloc (by simp) _⟩;show _=_;rw[Below.heap_alloc _ _ _ (by simp)];exact heap_new _ _ _ rfl
theorem below3{B:Nat}{w w1:World}(h:Below B w w1){g:Nat}(hg:B<=g)(a b c:Value):Below B w (((w1.setCell ⟨g,0,none⟩ a).setCell ⟨g,1,none⟩ b).setCell ⟨g,2,none⟩ c):=
 ((h.setCell (p:=⟨g,0,none⟩) hg _).setCell (p:=⟨g,1,none⟩) hg _).setCell (p:=⟨g,2,none⟩) hg _
theorem step_in(r:Int)(z:E2)(hz:Sm 1073741824 z)(hr:0<=r)(hr2:r<=12)(w:World):Calls Tryz.prog 166 #[vC r z] w fun e w'=>e=.returned (vC (r-1) (upE z))/\Below w.heap.size w w':=by
 have HS:=Hd (split_in z (hz.mono (by decide)));obtain⟨T0,G0,B0⟩:=two_new w r z;generalize upE z=p at *;generalize leftE (digE z)=l at *;simp only[vC,vE]at *;clear hz
 go_enter Tryz.func166,Tryz.ntmps166
 go_upto_region 1 with(fail)
 generalize(w.alloc (.cells #[.int .i64 r,.int .i64 z.1,.int .i64 z.2] 39)).alloc (.cells #[.int .i64 0,.int .i64 0,.int .i64 0] 39)=w0 at *;obtain⟨t0,t1,t2,t3,t4,t5,t6⟩:=T0.out.cells
 go_wp2_with fail
 refine(HS.out _).mono ?_;rintro e w1 ⟨rfl,hb1⟩;have hal:Below w1.heap.size w1 ((w1.alloc (.cells #[.int .i64 p.1,.int .i64 p.2] 37)).alloc (.cells #[.int .i64 l.1,.int .i64 l.2] 37)):=(br.alloc lr _).alloc (by simp) _;have P0:Two ((w1.alloc (.cells #[.int .i64 p.1,.int .i64 p.2] 37)).alloc (.cells #[.int .i64 l.1,.int .i64 l.2] 37)) w1.heap.size (.int .i64 p.1) (.int .i64 p.2):=Two.alloc (Two.of_row (t:=37) (f:=_) (heap_new _ _ _ rfl)) (by simp) _;have hb2:=hb1.trans (hal.mono hb1.size);have B1:=Hd (B0.out.trans (hb2.mono B0.out.size));obtain⟨p0,p1⟩:=P0;have T1:=Hd (T0.out.later hb2);have G1:=Hd (G0.out.later hb2);clear hal hb1 hb2 t0 t1 t2 t3 t4 t5 t6 T0 G0 B0
 go_upto_region 2 with(fail)
 generalize(w1.alloc (.cells #[.int .i64 p.1,.int .i64 p.2] 37)).alloc (.cells #[.int .i64 l.1,.int .i64 l.2] 37)=w2 at *;obtain⟨t0,t1,t2,t3,t4,t5,t6⟩:=T1.out.cells;obtain⟨g0,g1,g2,g3,g4,g5,g6⟩:=G1.out.cells;have q:IntKind.i64.wrap (r-1)=r-1:=wrap_in (by omega) (by omega);go_wp2;exact bodyPost_ret (v:=.agg #[.int .i64 (r-1),.int .i64 p.1,.int .i64 p.2]) (by simp[results,Tryz.results166,go_sem, *]) rfl ⟨rfl,below3 B1.out (by omega) _ _ _⟩
def cpE(r:Int)(z:E2):Int:=if okB r z=true then(if r=0 then 3 else 0)else 2
theorem cpar_any(r:Int)(z:E2)(w:World):Calls Tryz.prog 128 #[vC r z] w fun e w'=>e=.returned (.tuple #[vC (if cpE r z=0 then r-1 else 0) (if cpE r z=0 then upE z else(0,0)),.int .i64 (cpE r z)])/\Below w.heap.size w w':=by
 have HOK:=Hd (ok_any r z);obtain⟨T0,G0,B0⟩:=two_new w r z;by_cases h:okB r z=true
 ·obtain⟨r0,r12,hsm⟩:=ok_parts h
  rw[h]at HOK;by_cases hr:r=0
  ·have hE:cpE r z=3:=by unfold cpE;rw[if_pos h,if_pos hr]
   rw[hE,if_neg (by decide),if_neg (by decide)];subst hr;clear hE h hsm;simp only[vC]at*
   go_enter Tryz.func128,Tryz.ntmps128
   go_upto_region 1 with(fail)
   generalize(w.alloc (.cells #[.int .i64 0,.int .i64 z.1,.int .i64 z.2] 39)).alloc (.cells #[.int .i64 0,.int .i64 0,.int .i64 0] 39)=w0 at *;obtain⟨t0,t1,t2,t3,t4,t5,t6⟩:=T0.out.cells
   go_wp2_with fail
   refine(HOK.out _).mono ?_;rintro e w1 ⟨rfl,hb1⟩;have B1:=Hd (B0.out.trans (hb1.mono B0.out.size));have T1:=Hd (T0.out.later hb1);have G1:=Hd (G0.out.later hb1);clear hb1 t0 t1 t2 t3 t4 t5 t6 T0 G0 B0;obtain⟨t0,t1,t2,t3,t4,t5,t6⟩:=T1.out.cells;obtain⟨g0,g1,g2,g3,g4,g5,g6⟩:=G1.out.cells;go_wp2;exact bodyPost_ret (v:=.tuple #[.agg #[.int .i64 0,.int .i64 0,.int .i64 0],.int .i64 3]) (by simp[results,Tryz.results128,go_sem, *]) rfl ⟨rfl,below3 B1.out (by omega) _ _ _⟩
  ·have hE:cpE r z=0:=by unfold cpE;rw[if_pos h,if_neg hr]
   rw[hE,if_pos rfl,if_pos rfl];have HST:=Hd (step_in r z hsm r0 r12);have q1:(r==0)=false:=by simp[hr]
   generalize upE z=p at *;clear hE h hsm hr;simp only[vC]at*
   go_enter Tryz.func128,Tryz.ntmps128
   go_upto_region 1 with(fail)
   generalize(w.alloc (.cells #[.int .i64 r,.int .i64 z.1,.int .i64 z.2] 39)).alloc (.cells #[.int .i64 0,.int .i64 0,.int .i64 0] 39)=w0 at *;obtain⟨t0,t1,t2,t3,t4,t5,t6⟩:=T0.out.cells
   go_wp2_with fail
   refine(HOK.out _).mono ?_;rintro e w1 ⟨rfl,hb1⟩;have B1:=Hd (B0.out.trans (hb1.mono B0.out.size));have T1:=Hd (T0.out.later hb1);have G1:=Hd (G0.out.later hb1);clear hb1 t0 t1 t2 t3 t4 t5 t6 T0 G0 B0;obtain⟨t0,t1,t2,t3,t4,t5,t6⟩:=T1.out.cells
   go_wp2_with fail
   refine(HST.out _).mono ?_;rintro e w2 ⟨rfl,hb2⟩;have B2:=Hd (B1.out.trans (hb2.mono B1.out.size));obtain⟨g0,g1,g2,g3,g4,g5,g6⟩:=(G1.out.later hb2).cells;clear hb2 t0 t1 t2 t3 t4 t5 t6 T1 G1 B1;go_wp2;exact bodyPost_ret (v:=.tuple #[.agg #[.int .i64 (r-1),.int .i64 p.1,.int .i64 p.2],.int .i64 0]) (by simp[results,Tryz.results128,go_sem, *]) rfl ⟨rfl,below3 B2.out (by omega) _ _ _⟩
 ·have hE:cpE r z=2:=by unfold cpE;rw[if_neg h]
  rw[hE,if_neg (by decide),if_neg (by decide)];rw[Bool.eq_false_iff.2 h]at HOK;clear hE h;simp only[vC]at*
  go_enter Tryz.func128,Tryz.ntmps128
  go_upto_region 1 with(fail)
  generalize(w.alloc (.cells #[.int .i64 r,.int .i64 z.1,.int .i64 z.2] 39)).alloc (.cells #[.int .i64 0,.int .i64 0,.int .i64 0] 39)=w0 at *;obtain⟨t0,t1,t2,t3,t4,t5,t6⟩:=T0.out.cells
  go_wp2_with fail
  refine(HOK.out _).mono ?_;rintro e w1 ⟨rfl,hb1⟩;have B1:=Hd (B0.out.trans (hb1.mono B0.out.size));have G1:=Hd (G0.out.later hb1);clear hb1 t0 t1 t2 t3 t4 t5 t6 T0 G0 B0;obtain⟨g0,g1,g2,g3,g4,g5,g6⟩:=G1.out.cells;go_wp2;exact bodyPost_ret (v:=.tuple #[.agg #[.int .i64 0,.int .i64 0,.int .i64 0],.int .i64 2]) (by simp[results,Tryz.results128,go_sem, *]) rfl ⟨rfl,below3 B1.out (by omega) _ _ _⟩
theorem par_cases(w0:Nat):(cvE w0=5/\parE w0=5/\parW w0=0)∨(cvE w0=0/\cpE (cvR w0) (cvZ w0)=3/\parE w0=3/\parW w0=0)∨(cvE w0=0/\cpE (cvR w0) (cvZ w0)=0/\parE w0=0/\ofW (cvR w0-1) (upE (cvZ w0))=parW w0/\ofE (cvR w0-1) (upE (cvZ w0))=0):=by
 unfold cvE cvR cvZ parE parW cpE;by_cases h:isW w0=true
 ·right
  have ho:=(cell_word h).1;have hr:=((isW_iff w0).1 h).2.1;rw[if_pos h,if_pos h,if_pos h,if_pos h,if_pos ho];by_cases h0:rW w0=0
  ·left
   rw[if_pos (by omega),if_pos h0,if_neg (by omega)];exact⟨rfl,rfl,rfl,rfl⟩
  ·right
   rw[if_neg (by omega),if_neg h0,if_pos ⟨h,h0⟩];refine⟨rfl,rfl,rfl,rfl,?_⟩;obtain⟨k,hk⟩:∃k,rW w0=k+1:=⟨rW w0-1,by omega⟩;rw[hk]at ho ⊢;rw[show ((k+1:Nat):Int)-1=(k:Int) by omega];exact(ofW_ok (up_ok ho)).2.1
 ·left
  rw[if_neg h,if_neg h,if_neg (fun h2=>h h2.1)];exact⟨rfl,rfl,rfl⟩
theorem ipar_any(w0:Nat)(hw:w0<18446744073709551616)(w:World):Calls Tryz.prog 85 #[.int .u64 w0] w fun e w'=>e=.returned (.tuple #[.int .u64 (parW w0:Nat),.int .i64 (parE w0)])/\Below w.heap.size w w':=by
 have HC:=Hd (cell_any w0 hw);have HP:=Hd (cpar_any (cvR w0) (cvZ w0));have HO:=Hd (of_any (cvR w0-1) (upE (cvZ w0)));rcases par_cases w0 with⟨e1,e2,e3⟩|⟨e1,e2,e3,e4⟩|⟨e1,e2,e3,e4,e5⟩
 ·rw[e2,e3]
  rw[e1]at HC;generalize cvR w0=r at *;generalize cvZ w0=z at *;clear e1 e2 e3 HP HO;simp only[vC]at*
  go_enter Tryz.func85,Tryz.ntmps85
  go_wp2_with fail
  refine(HC.out _).mono ?_;rintro e w1 ⟨rfl,hb1⟩;have B1:Hid (Below w.heap.size w (w1.alloc (.cells #[.int .i64 r,.int .i64 z.1,.int .i64 z.2] 39))):=hb1.alloc hb1.size _;clear hb1;go_wp2;go_ret2;exact⟨rfl,B1.out⟩
 ·rw[e3,e4]
  rw[e1]at HC;rw[e2,if_neg (by decide),if_neg (by decide)]at HP;generalize cvR w0=r at *;generalize cvZ w0=z at *;clear e1 e2 e3 e4 HO;simp only[vC]at*
  go_enter Tryz.func85,Tryz.ntmps85
  go_wp2_with fail
  refine(HC.out _).mono ?_;rintro e w1 ⟨rfl,hb1⟩;have B1:Hid (Below w.heap.size w (w1.alloc (.cells #[.int .i64 r,.int .i64 z.1,.int .i64 z.2] 39))):=hb1.alloc hb1.size _;have T1:Hid (Tri (w1.alloc (.cells #[.int .i64 r,.int .i64 z.1,.int .i64 z.2] 39)) w1.heap.size r z):=heap_new _ _ _ rfl;clear hb1
  go_upto_region 2 with(fail)
  generalize w1.alloc (.cells #[.int .i64 r,.int .i64 z.1,.int .i64 z.2] 39)=w2 at *;obtain⟨t0,t1,t2,t3,t4,t5,t6⟩:=T1.out.cells
  go_wp2_with fail
  refine(HP.out _).mono ?_;rintro e w3 ⟨rfl,hb3⟩;have B3:Hid (Below w.heap.size w (w3.alloc (.cells #[.int .i64 0,.int .i64 0,.int .i64 0] 39))):=(B1.out.trans (hb3.mono B1.out.size)).alloc (Nat.le_trans B1.out.size hb3.size) _;clear hb3 t0 t1 t2 t3 t4 t5 t6;go_wp2;go_ret2;exact⟨rfl,B3.out⟩
 ·rw[e3]
  rw[e1]at HC;rw[e2,if_pos rfl,if_pos rfl]at HP;rw[e4,e5]at HO;generalize parW w0=v at *;generalize cvR w0=r at *;generalize cvZ w0=z at *;generalize upE z=p at *;clear e1 e2 e3 e4 e5;simp only[vC]at*
  go_enter Tryz.func85,Tryz.ntmps85
  go_wp2_with fail
  refine(HC.out _).mono ?_;rintro e w1 ⟨rfl,hb1⟩;have B1:Hid (Below w.heap.size w (w1.alloc (.cells #[.int .i64 r,.int .i64 z.1,.int .i64 z.2] 39))):=hb1.alloc hb1.size _;have T1:Hid (Tri (w1.alloc (.cells #[.int .i64 r,.int .i64 z.1,.int .i64 z.2] 39)) w1.heap.size r z):=heap_new _ _ _ rfl;clear hb1
  go_upto_region 2 with(fail)
  generalize w1.alloc (.cells #[.int .i64 r,.int .i64 z.1,.int .i64 z.2] 39)=w2 at *;obtain⟨t0,t1,t2,t3,t4,t5,t6⟩:=T1.out.cells
  go_wp2_with fail
  refine(HP.out _).mono ?_;rintro e w3 ⟨rfl,hb3⟩;have B3:Hid (Below w.heap.size w (w3.alloc (.cells #[.int .i64 (r-1),.int .i64 p.1,.int .i64 p.2] 39))):=(B1.out.trans (hb3.mono B1.out.size)).alloc (Nat.le_trans B1.out.size hb3.size) _;have T3:Hid (Tri (w3.alloc (.cells #[.int .i64 (r-1),.int .i64 p.1,.int .i64 p.2] 39)) w3.heap.size (r-1) p):=heap_new _ _ _ rfl;clear hb3 t0 t1 t2 t3 t4 t5 t6 T1 B1
  go_upto_region 5 with(fail)
  generalize w3.alloc (.cells #[.int .i64 (r-1),.int .i64 p.1,.int .i64 p.2] 39)=w4 at *;obtain⟨t0,t1,t2,t3,t4,t5,t6⟩:=T3.out.cells
  go_wp2_with fail
  refine(HO.out _).mono ?_;rintro e w5 ⟨rfl,hb5⟩;have B5:=Hd (B3.out.trans (hb5.mono B3.out.size));clear hb5;go_wp2;go_ret2;exact⟨rfl,B5.out⟩
theorem ires_any(w0:Nat)(hw:w0<18446744073709551616)(w:World):Calls Tryz.prog 124 #[.int .u64 w0] w fun e w'=>e=.returned (.int .i64 (resW w0))/\Below w.heap.size w w':=by
 have HC:=Hd (cell_any w0 hw);have HR:(cvE w0=0/\resW w0=cvR w0)∨(cvE w0=5/\resW w0= -1):=by
  unfold cvE resW cvR;by_cases h:isW w0=true
  ·exact .inl ⟨by rw[if_pos h],by rw[if_pos h,if_pos h]⟩
  ·exact .inr ⟨by rw[if_neg h],by rw[if_neg h]⟩
 rcases HR with⟨e1,e2⟩|⟨e1,e2⟩
 all_goals
  rw[e2];rw[e1]at HC;generalize cvR w0=r at *;generalize cvZ w0=z at *;clear e1 e2;simp only[vC]at*
  go_enter Tryz.func124,Tryz.ntmps124
  go_wp2_with fail
  refine(HC.out _).mono ?_;rintro e w1 ⟨rfl,hb1⟩;have B1:Hid (Below w.heap.size w (w1.alloc (.cells #[.int .i64 r,.int .i64 z.1,.int .i64 z.2] 39))):=hb1.alloc hb1.size _;have T1:Hid (Tri (w1.alloc (.cells #[.int .i64 r,.int .i64 z.1,.int .i64 z.2] 39)) w1.heap.size r z):=heap_new _ _ _ rfl;clear hb1
  go_upto_region 2 with(fail)
  generalize w1.alloc (.cells #[.int .i64 r,.int .i64 z.1,.int .i64 z.2] 39)=w2 at *;obtain⟨t0,t1,t2,t3,t4,t5,t6⟩:=T1.out.cells;go_wp2;go_ret;exact⟨rfl,B1.out⟩
theorem hd_sevens{f:Nat->Nat}{r:Nat}(h:∀k,r<k->f k=7)(j:Nat):hd f (r+j)+1=8 ^ j*(hd f r+1):=by
 induction j with
 |zero=>simp
 |succ j ih=>
  show hd f (r+j)*8+f (r+j+1)+1=_;rw[h _ (by omega),Nat.pow_succ,Nat.mul_comm (8 ^ j) 8,Nat.mul_assoc, <-ih];omega
theorem hd_one{f g:Nat->Nat}{m:Nat}(h:∀k,k≠m+1->f k=g k)(j:Nat):hd f (m+1+j)+g (m+1)*8 ^ j=hd g (m+1+j)+f (m+1)*8 ^ j:=by
 induction j with
 |zero=>
  show hd f m*8+f (m+1)+g (m+1)*8 ^ 0=hd g m*8+g (m+1)+f (m+1)*8 ^ 0;have:hd f m=hd g m:=hd_congr fun k _ hk=>h k (by omega)
  rw[this];omega
 |succ j ih=>
  show hd f (m+1+j)*8+f (m+1+j+1)+g (m+1)*8 ^ (j+1)=hd g (m+1+j)*8+g (m+1+j+1)+f (m+1)*8 ^ (j+1);rw[h (m+1+j+1) (by omega),Nat.pow_succ, <-Nat.mul_assoc, <-Nat.mul_assoc];omega
theorem word_kid{r:Nat}{z:E2}(hr:r+1<=12){d:Nat}(hd':d<7):wordN (r+1) (downE z d)+(7-d)*8 ^ (11-r)=wordN r z+72057594037927936:=by
 have hu:∀k,upN (k+1) (downE z d)=upN k z:=fun k=>by
  show upN k (upE (downE z d))=_;rw[upE_down z hd']
 have h1:=hd_one (f:=dgt (r+1) (downE z d)) (g:=dgt r z) (m:=r) (fun k hk=>by
  unfold dgt;by_cases hkr:k<=r
  ·rw[if_pos (by omega),if_pos hkr,show r+1-k=r-k+1 by omega,hu]
  ·rw[if_neg (by omega),if_neg hkr]) (11-r)
 have e1:dgt (r+1) (downE z d) (r+1)=d:=by
  unfold dgt;rw[if_pos lr,Nat.sub_self];exact digE_down z hd'
 have e2:dgt r z (r+1)=7:=by
  unfold dgt;rw[if_neg (by omega)]
 rw[e1,e2,show r+1+(11-r)=12 by omega]at h1;unfold wordN topN;rw[hu r];have e3:(7-d)*8 ^ (11-r)+d*8 ^ (11-r)=7*8 ^ (11-r):=by rw[<- Nat.add_mul,show 7-d+d=7 by omega]
 omega
theorem word_mul{r:Nat}(hr:r<=12)(z:E2):∃A,wordN r z+1=8 ^ (12-r)*A:=by
 have h1:=hd_sevens (f:=dgt r z) (r:=r) (fun k hk=>by unfold dgt;rw[if_neg (by omega)]) (12-r);rw[show r+(12-r)=12 by omega]at h1;refine⟨8 ^ r*(16777216+r*1048576+((upN r z).1+512).toNat*1024+((upN r z).2+512).toNat)+(hd (dgt r z) r+1),?_⟩;unfold wordN topN;rw[Nat.mul_add, <-h1, <-Nat.mul_assoc, <-Nat.pow_add,show 12-r+r=12 by omega,show(8:Nat) ^ 12=68719476736 by decide];omega
def kidsW(r:Nat)(W:Int):List Int:=(List.range 7).map fun d=>W+72057594037927936-((7-d:Nat):Int)*((8 ^ (11-r):Nat):Int)
def Sized(r:Nat)(l:List Int):Prop:=∀W∈l,∃z,okB r z=true/\W=(wordN r z:Int)
theorem kidsW_get{r:Nat}{z:E2}(hr:r+1<=12){d:Nat}(hd:d<7):(kidsW r (wordN r z)).getD d 0=(wordN (r+1) (downE z d):Int):=by
 have h:=word_kid (z:=z) hr hd;unfold kidsW;rw[List.getD_eq_getElem?_getD,List.getElem?_map,List.getElem?_range hd];show(wordN r z:Int)+72057594037927936-((7-d:Nat):Int)*((8 ^ (11-r):Nat):Int)=_;rw[<- Int.natCast_mul];omega
theorem kidsW_mem{r:Nat}{z:E2}(hr:r+1<=12)(v:Int):v∈kidsW r (wordN r z)↔∃d,d<7/\v=(wordN (r+1) (downE z d):Int):=by
 unfold kidsW;rw[List.mem_map];constructor
 ·rintro⟨d,hd,rfl⟩
  have hd:=List.mem_range.1 hd;have h:=word_kid (z:=z) hr hd;refine⟨d,hd,?_⟩;rw[<- Int.natCast_mul];omega
 ·rintro⟨d,hd,rfl⟩
  have h:=word_kid (z:=z) hr hd;refine⟨d,List.mem_range.2 hd,?_⟩;rw[<- Int.natCast_mul];omega
theorem kids_apart{r:Nat}(hr:r+1<=12){y z:E2}(h:wordN r y<wordN r z){d e:Nat}(hd:d<7)(he:e<7):wordN (r+1) (downE y d)<wordN (r+1) (downE z e):=by
 obtain⟨A,hA⟩:=word_mul (show r<=12 by omega) y;obtain⟨B,hB⟩:=word_mul (show r<=12 by omega) z;have h1:=word_kid (z:=y) hr hd;have h2:=word_kid (z:=z) hr he;have e8:(8:Nat) ^ (12-r)=8 ^ (11-r)*8:=by rw[<- Nat.pow_succ,show(11-r).succ=12-r by omega]
 have hu:0<(8:Nat) ^ (11-r):=Nat.pow_pos (by decide);rw[e8]at hA hB;generalize(8:Nat) ^ (11-r)=u at *;have hAB:A<B:=by
  rcases Nat.lt_or_ge A B with h'|h'
  ·exact h'
  ·have:=Nat.mul_le_mul_left (u*8) h';omega
 have h3:=Nat.mul_le_mul_left (u*8) (show A+1<=B from hAB);rw[Nat.mul_add,Nat.mul_one]at h3;have h4:(7-d)*u<=7*u:=Nat.mul_le_mul_right u (by omega);have h5:(7-e)*u<=7*u:=Nat.mul_le_mul_right u (by omega);omega
theorem kids_up{r:Nat}(_hr:r+1<=12)(z:E2):Up (kidsW r (wordN r z)):=by
 unfold kidsW;refine List.pairwise_map.2 ((List.pairwise_lt_range (n:=7)).imp_of_mem fun {a b} ha hb hab=>?_);have ha:=List.mem_range.1 ha;have hb:=List.mem_range.1 hb;have hu:0<(8:Nat) ^ (11-r):=Nat.pow_pos (by decide);have:(7-b)*8 ^ (11-r)+8 ^ (11-r)<=(7-a)*8 ^ (11-r):=by
  rw[<- Nat.succ_mul];exact Nat.mul_le_mul_right _ (by omega)
 rw[<- Int.natCast_mul, <-Int.natCast_mul];omega
theorem par_kid{r:Nat}(hr:r+1<=12){z:E2}(hz:okB r z=true){d:Nat}(hd:d<7):parE (wordN (r+1) (downE z d))=0/\parW (wordN (r+1) (downE z d))=wordN r z:=by
 have hk:=kid_ok hz hr hd;obtain⟨a1,a2,a3⟩:=word_cell hk;refine⟨by unfold parE;rw[if_pos a1,if_neg (by omega)],?_⟩;unfold parW;rw[if_pos ⟨a1,by omega⟩,a2,a3,upE_down z hd,show((r+1:Nat):Int)-1=(r:Int) by omega,(ofW_ok hz).1]
def In64(l:List Int):Prop:=∀v∈l,0<=v/\v<18446744073709551616
theorem drop_w(l:List Int){k:Nat}(h:k<l.length):l.drop k=l.getD k 0::l.drop (k+1):=by
 rw[List.drop_eq_getElem_cons h,List.getD_eq_getElem?_getD,List.getElem?_eq_getElem h]
 rfl
theorem chk_step(r:Int)(l:List Int){k:Nat}(h:k<l.length):chkF r (l.drop k)=if isW (l.getD k 0).toNat=true then(if(rW (l.getD k 0).toNat:Int)=r then chkF r (l.drop (k+1))else 8)else 5:=by
 rw[drop_w l h]
 rfl
theorem check_any_q(ao:Option Addr)(c:Nat)(l:List Int)(r:Int)(w:World)(B:Nat)(h:WordsAt w B ao l)(hB:B<=w.heap.size)(hn:l.length<=1000000000)(h64:In64 l):
  Calls Tryz.prog 123 #[.slice ao l.length c,.int .i64 r] w fun e w'=>e=.returned (.int .i64 (chkF r l))/\Below w.heap.size w w':=by
 obtain⟨n,hnn⟩:∃n,l.length=n:=⟨_,rfl⟩;have HN:=Hd hnn;have HW:=Hd h;have H64:Hid (∀ k,k<n->0<=l.getD k 0/\l.getD k 0<18446744073709551616):=fun k hk=>h64 _ (getD_mem (by rw[hnn];exact hk))
 have HST:Hid (∀ k,k<n->chkF r (l.drop k)=if isW (l.getD k 0).toNat=true then(if(rW (l.getD k 0).toNat:Int)=r then chkF r (l.drop (k+1))else 8)else 5):=fun k hk=>chk_step r l (by rw[hnn];exact hk)
 have HEN:Hid (chkF r (l.drop n)=0):=by show _=_;rw[<- hnn,List.drop_length];rfl
 have HS0:Hid (chkF r l=chkF r (l.drop 0)):=rfl;rw[hnn]at hn ⊢;generalize chkF r l=E at *;clear hnn h h64
 go_enter Tryz.func123,Tryz.ntmps123
 go_wp2
 go_loopw [9] (fun i wr=>∃k:Nat,k<=n/\i=.int .i64 k/\Hid (E=chkF r (l.drop k))/\Hid (Below w.heap.size w wr/\True)) (fun i _=>n-(intOf i).toNat)
 case atStart=>exact⟨0,by omega,rfl,HS0.out,br,trivial⟩
 case round=>
  obtain⟨k,hk,rfl,HE,hbi,-⟩:=hrel;have HBI:=Hd hbi;clear hbi;by_cases hlt:k<n
  ·obtain⟨g,off,rfl,hg,hc⟩:=(HW.out.below HBI.out hB) (by rw[HN.out];omega)
   have c0:=hc k (by rw[HN.out];exact hlt);obtain⟨v1,v2⟩:=H64.out k hlt;have hs:=HST.out k hlt;generalize l.getD k 0=v at *;obtain⟨u,rfl⟩:∃u:Nat,v=u:=⟨v.toNat,by omega⟩;rw[Int.toNat_natCast]at hs;have HR:=Hd (ires_any u (by omega));have hgw:g<wr.heap.size:=by have:=HBI.out.size;omega
   clear hc;by_cases hW:isW u=true
   ·have e1:resW u=(rW u:Int):=by unfold resW;rw[if_pos hW]
    rw[e1]at HR;rw[if_pos hW]at hs;by_cases hr:(rW u:Int)=r
    ·rw[if_pos hr]at hs
     rw[hr]at HR;have q1:(r== -1)=false:=by simp;omega
     have HE2:Hid (E=chkF r (l.drop (k+1))):=by show _=_;rw[HE.out,hs]
     clear hs e1 hW hr HE
     go_wp2_with fail
     refine(HR.out _).mono ?_;rintro e w2 ⟨rfl,hb2⟩;have HB2:=Hd (HBI.out.trans (hb2.mono HBI.out.size));clear hb2;go_wp2
     go_roundw
     case rel=>exact⟨k+1,by omega,by go_num,HE2.out,HB2.out,trivial⟩
     case measure=>simp[intOf];omega
    ·rw[if_neg hr]at hs
     obtain⟨q,hq⟩:∃q,(rW u:Int)=q:=⟨_,rfl⟩;rw[hq]at HR hr;have q1:(q== -1)=false:=by simp;omega
     have q2:(q==r)=false:=by simp[hr]
     have HE2:Hid (E=8):=by show _=_;rw[HE.out,hs]
     clear hs e1 hW hr HE hq
     go_wp2_with fail
     refine(HR.out _).mono ?_;rintro e w2 ⟨rfl,hb2⟩;have HB2:=Hd (HBI.out.trans (hb2.mono HBI.out.size));clear hb2;go_wp2;go_ret;exact⟨by rw[HE2.out];rfl,HB2.out⟩
   ·have e1:resW u= -1:=by unfold resW;rw[if_neg hW]
    rw[e1]at HR;rw[if_neg hW]at hs;have HE2:Hid (E=5):=by show _=_;rw[HE.out,hs]
    clear hs e1 hW HE
    go_wp2_with fail
    refine(HR.out _).mono ?_;rintro e w2 ⟨rfl,hb2⟩;have HB2:=Hd (HBI.out.trans (hb2.mono HBI.out.size));clear hb2;go_wp2;go_ret;exact⟨by rw[HE2.out];rfl,HB2.out⟩
  ·obtain hkn:n<=k:=by omega
   have HE2:Hid (E=0):=by show _=_;rw[HE.out,show k=n by omega,HEN.out]
   clear HE;go_wp2;go_ret;exact⟨by rw[HE2.out];rfl,HBI.out⟩
def parI(v:Int):Int:=(parW v.toNat:Int)
def kidsIn(A:List Int)(p:Int):Bool:=(kidsW (rW p.toNat) p).all fun v=>A.contains v
def fullB(A:List Int)(v:Int):Bool:=decide (parE v.toNat=0)&&kidsIn A (parI v)
def nextL(A:List Int):List Int:=setF ((A.filter fun v=>fullB A v).map parI)
def doneL(A:List Int):List Int:=A.filter fun v=> !fullB A v
def packN:Nat->List Int->List Int
 |0,A=>A
 |n+1,A=>doneL A++packN n (nextL A)
def packF(r:Nat)(l:List Int):List Int:=setF (packN r (setF l))
theorem sized_sub{r:Nat}{l m:List Int}(h:Sized r l)(hm:∀v∈m,v∈l):Sized r m:=fun v hv=>h v (hm v hv)
theorem sized_set{r:Nat}{l:List Int}(h:Sized r l):Sized r (setF l):=sized_sub h fun v hv=>(setF_mem l v).1 hv
theorem word_parts{r:Nat}{v:Int}(h:∃z,okB (r+1:Nat) z=true/\v=(wordN (r+1) z:Int)):
  parE v.toNat=0/\∃p,okB r p=true/\parI v=(wordN r p:Int)/\v∈kidsW r (wordN r p):=by
 obtain⟨z,hz,rfl⟩:=h;obtain⟨hr,-⟩:=okB_parts hz;have hp:=up_ok hz;have e:=par_kid hr hp (digE_lt z);rw[down_up z]at e;refine⟨by rw[Int.toNat_natCast];exact e.1,upE z,hp,by unfold parI;rw[Int.toNat_natCast,e.2],?_⟩;rw[kidsW_mem hr];exact⟨digE z,digE_lt z,by rw[down_up z]⟩
theorem rW_word{r:Nat}{z:E2}(h:okB r z=true):rW (wordN r z)=r:=(word_cell h).2.1
theorem par_of{r:Nat}{p:E2}(hr:r+1<=12)(hp:okB r p=true){v:Int}(hv:v∈kidsW r (wordN r p)):parE v.toNat=0/\parI v=(wordN r p:Int):=by
 obtain⟨d,hd,rfl⟩:=(kidsW_mem hr v).1 hv;have e:=par_kid hr hp hd;unfold parI;rw[Int.toNat_natCast];exact⟨e.1,by rw[e.2]⟩
theorem full_iff{r:Nat}{p:E2}(hr:r+1<=12)(hp:okB r p=true){A:List Int}{v:Int}(hv:v∈kidsW r (wordN r p)):fullB A v=true↔∀u∈kidsW r (wordN r p),u∈A:=by
 obtain⟨e1,e2⟩:=par_of hr hp hv;unfold fullB kidsIn;rw[e2,Int.toNat_natCast,rW_word hp,decide_eq_true e1,Bool.true_and,List.all_eq_true];exact⟨fun h u hu=>List.contains_iff_mem.1 (h u hu),fun h u hu=>List.contains_iff_mem.2 (h u hu)⟩
theorem next_sized{r:Nat}{A:List Int}(h:Sized (r+1) A):Sized r (nextL A):=fun q hq=>by
 obtain⟨v,hv,rfl⟩:=List.mem_map.1 ((setF_mem _ _).1 hq);obtain⟨-,p,hp,e,-⟩:=word_parts (h v (List.mem_filter.1 hv).1);exact⟨p,hp,e⟩
theorem next_mem{r:Nat}(hr:r+1<=12){A:List Int}(h:Sized (r+1) A)(q:Int):q∈nextL A↔∃p,okB r p=true/\q=(wordN r p:Int)/\∀u∈kidsW r (wordN r p),u∈A:=by
 unfold nextL;rw[setF_mem,List.mem_map];constructor
 ·rintro⟨v,hv,rfl⟩
  obtain⟨h1,h2⟩:=List.mem_filter.1 hv;obtain⟨-,p,hp,e,hk⟩:=word_parts (h v h1);exact⟨p,hp,e,(full_iff hr hp hk).1 h2⟩
 ·rintro⟨p,hp,rfl,hA⟩
  have hk:(wordN (r+1) (downE p 0):Int)∈kidsW r (wordN r p):=(kidsW_mem hr _).2 ⟨0,by omega,rfl⟩;exact⟨_,List.mem_filter.2 ⟨hA _ hk,(full_iff hr hp hk).2 hA⟩,(par_of hr hp hk).2⟩
structure Mc where
 out:List Int
 grp:List Int
 ups:List Int
def broB(a b:Int):Bool:=decide (parE a.toNat=0)&&decide (parE b.toNat=0)&&decide (parI a=parI b)
def mFlush(s:Mc)(w:Int):Mc:=if s.grp≠[]/\broB (s.grp.getD 0 0) w=false then⟨s.out++s.grp,[],s.ups⟩else s
def mStep(s:Mc)(w:Int):Mc:=
 if(mFlush s w).grp.length+1=7 then⟨(mFlush s w).out,[],(mFlush s w).ups++[parI w]⟩else⟨(mFlush s w).out,(mFlush s w).grp++[w],(mFlush s w).ups⟩
theorem m_block{r:Nat}{p:E2}(hr:r+1<=12)(hp:okB r p=true):∀(B:List Int) (s:Mc),B≠[]->B.length<=7->(∀ v∈B,v∈kidsW r (wordN r p))->(s.grp=[]∨∀v∈B,broB (s.grp.getD 0 0) v=false)->
  B.foldl mStep s=if B.length=7 then⟨s.out++s.grp,[],s.ups++[(wordN r p:Int)]⟩else⟨s.out++s.grp,B,s.ups⟩:=by
 intro B
 induction B using snoc_ind with
 |h0=>intro s h;exact absurd rfl h
 |h1 B w ih=>
  intro s _ hlen hk hs;rw[List.length_append]at hlen;simp only[List.length_cons,List.length_nil]at hlen;obtain⟨w1,w2⟩:=par_of hr hp (hk w (by simp));rw[List.foldl_append];show mStep (B.foldl mStep s) w=_;by_cases hB:B=[]
  ·subst hB
   have e:mFlush s w=⟨s.out++s.grp,[],s.ups⟩:=by
    unfold mFlush;rcases hs with h|h
    ·rw[if_neg (by rw[h];simp),h,List.append_nil]
     obtain⟨a,b,c⟩:=s;simp only at h;subst h
     rfl
    ·by_cases h0:s.grp=[]
     ·rw[if_neg (by rw[h0];simp),h0,List.append_nil]
      obtain⟨a,b,c⟩:=s;simp only at h0;subst h0
      rfl
     ·rw[if_pos ⟨h0,h w (by simp)⟩]
   show mStep s w=_;unfold mStep;rw[e];simp
  ·have ihs:=ih s hB (by omega) (fun v hv=>hk v (by simp[hv])) (hs.imp id fun h v hv=>h v (by simp[hv]))
   rw[ihs,if_neg (by omega)];have hb0:B.getD 0 0∈B:=getD_mem (List.length_pos_iff.2 hB);obtain⟨b1,b2⟩:=par_of hr hp (hk _ (List.mem_append_left _ hb0));have hbro:broB (B.getD 0 0) w=true:=by
    unfold broB;rw[decide_eq_true b1,decide_eq_true w1,b2,w2,decide_eq_true rfl]
    rfl
   have e:mFlush ⟨s.out++s.grp,B,s.ups⟩ w=⟨s.out++s.grp,B,s.ups⟩:=by
    unfold mFlush;rw[if_neg (by rw[hbro];simp)]
   unfold mStep;rw[e];simp only[List.length_append,List.length_cons,List.length_nil];by_cases h7:B.length+1=7
   ·rw[if_pos h7,if_pos (by omega),w2]
   ·rw[if_neg h7,if_neg (by omega)]
def Dn(l:List Int):Prop:=l.Pairwise (· > ·)
theorem Dn.rev{l:List Int}(h:Dn l):Up l.reverse:=List.pairwise_reverse.2 h
theorem Up.rev{l:List Int}(h:Up l):Dn l.reverse:=List.pairwise_reverse.2 h
theorem Up.nodup{l:List Int}(h:Up l):l.Nodup:=List.nodup_iff_pairwise_ne.2 (h.imp fun h=>by omega)
theorem kidsW_len(r:Nat)(W:Int):(kidsW r W).length=7:=by unfold kidsW;simp
theorem kids_full{r:Nat}(hr:r+1<=12){p:E2}{B:List Int}(hB:Dn B)(hk:∀v∈B,v∈kidsW r (wordN r p)):B.length<=7/\(B.length=7↔∀u∈kidsW r (wordN r p),u∈B):=by
 have e:B.reverse=(kidsW r (wordN r p)).filter fun v=>B.contains v:=by
  refine hB.rev.ext (filter_up (kids_up hr p) _) fun x=>?_
  rw[List.mem_reverse,List.mem_filter,List.contains_iff_mem];exact⟨fun h=>⟨hk x h,h⟩,fun h=>h.2⟩
 have hl:B.length=((kidsW r (wordN r p)).filter fun v=>B.contains v).length:=by rw[<- e,List.length_reverse]
 have h7:=kidsW_len r (wordN r p);refine⟨by rw[hl, <-h7];exact List.length_filter_le _ _,?_⟩;rw[hl, <-h7,List.length_filter_eq_length_iff];exact⟨fun h u hu=>List.contains_iff_mem.1 (h u hu),fun h u hu=>List.contains_iff_mem.2 (h u hu)⟩
theorem par_mono{r:Nat}{u v:Int}(hu:∃z,okB (r+1:Nat) z=true/\u=(wordN (r+1) z:Int))(hv:∃z,okB (r+1:Nat) z=true/\v=(wordN (r+1) z:Int))(h:u<v):parI u<=parI v:=by
 have hr:r+1<=12:=by obtain⟨z,hz,-⟩:=hu;exact(okB_parts hz).1
 obtain⟨-,p,hp,e1,k1⟩:=word_parts hu;obtain⟨-,q,hq,e2,k2⟩:=word_parts hv;obtain⟨d,hd,rfl⟩:=(kidsW_mem hr u).1 k1;obtain⟨c,hc,rfl⟩:=(kidsW_mem hr v).1 k2;rw[e1,e2];rcases Nat.lt_or_ge (wordN r q) (wordN r p)with h3|h3
 ·have:=kids_apart hr h3 hc hd
  omega
 ·omega
theorem bro_apart{a v:Int}(h:parI a≠parI v):broB a v=false:=by
 unfold broB;rw[decide_eq_false h,Bool.and_false]
theorem par_sized{r:Nat}{v:Int}(h:∃z,okB (r+1:Nat) z=true/\v=(wordN (r+1) z:Int)):∃p,okB r p=true/\parI v=(wordN r p:Int):=by
 obtain⟨-,p,hp,e,-⟩:=word_parts h;exact⟨p,hp,e⟩
theorem sized_unlike{r s:Nat}{v:Int}(h:∃z,okB r z=true/\v=(wordN r z:Int))(h2:∃z,okB s z=true/\v=(wordN s z:Int)):r=s:=by
 obtain⟨y,hy,rfl⟩:=h;obtain⟨z,hz,e⟩:=h2;exact(word_inj hy hz (by omega)).1
theorem bro_below{r:Nat}{a v:Int}(ha:∃z,okB (r+1:Nat) z=true/\a=(wordN (r+1) z:Int))(hv:∃z,okB r z=true/\v=(wordN r z:Int)):broB a v=false:=by
 obtain⟨p,hp,e⟩:=par_sized ha;cases r with
 |zero=>
  obtain⟨z,hz,rfl⟩:=hv;obtain⟨a1,a2,-⟩:=word_cell hz;unfold broB parE;rw[Int.toNat_natCast,if_pos a1,if_pos a2];simp
 |succ s=>
  obtain⟨q,hq,e2⟩:=par_sized hv;refine bro_apart fun h=>?_
  rw[e,e2]at h;have:=(word_inj hp hq (by omega)).1;omega
theorem split_bro{r:Nat}{w:Int}{A:List Int}(hA:Dn (w::A))(hs:Sized (r+1) (w::A)):
  ∃B A',w::A=(w::B)++A'/\(∀ v∈w::B,parI v=parI w)/\∀v∈A',parI v<parI w:=by
 refine⟨A.takeWhile fun v=>decide (parI v=parI w),A.dropWhile fun v=>decide (parI v=parI w),by rw[List.cons_append,List.takeWhile_append_dropWhile],fun v hv=>?_,fun v hv=>?_⟩
 ·rcases List.mem_cons.1 hv with rfl|hv
  ·rfl
  ·exact of_decide_eq_true (List.all_eq_true.1 (List.all_takeWhile (l:=A) (p:=fun v=>decide (parI v=parI w))) v hv)
 ·have hsuf:(A.dropWhile fun v=>decide (parI v=parI w)).Sublist A:=List.dropWhile_sublist _
  obtain⟨hw,hA2⟩:=List.pairwise_cons.1 hA;have hd:Dn (A.dropWhile fun v=>decide (parI v=parI w)):=hA2.sublist hsuf;have hmem:∀u∈A.dropWhile (fun v=>decide (parI v=parI w)),u∈A:=fun u hu=>hsuf.subset hu
  cases hc:A.dropWhile fun v=>decide (parI v=parI w)with
  |nil=>rw[hc]at hv;cases hv
  |cons x X=>
   have hx:parI x≠parI w:=fun e=>by
    have h1:=List.head_dropWhile_not (fun v=>decide (parI v=parI w)) (l:=A) (by rw[hc];simp);simp only[hc,List.head_cons,decide_eq_false_iff_not]at h1;exact h1 e
   have hxA:x∈A:=hmem x (by rw[hc];simp);have hxw:parI x<parI w:=by
    have h1:=par_mono (hs x (by simp[hxA])) (hs w (by simp)) (hw x hxA);omega
   rw[hc]at hv hd;rcases List.mem_cons.1 hv with rfl|hv
   ·exact hxw
   ·have hvA:v∈A:=hmem v (by rw[hc];simp[hv])
    have h1:=par_mono (hs v (by simp[hvA])) (hs x (by simp[hxA])) ((List.pairwise_cons.1 hd).1 v hv);omega
theorem next_nil:nextL []=[]:=by
 have:∀x,x∈nextL []->False:=fun x hx=>by
  obtain⟨v,hv,-⟩:=List.mem_map.1 ((setF_mem _ _).1 hx);cases(List.mem_filter.1 hv).1
 exact List.eq_nil_iff_forall_not_mem.2 fun x hx=>this x hx
theorem m_level{r:Nat}(hr:r+1<=12):∀(n:Nat) (A:List Int),A.length=n->∀s:Mc,Dn A->Sized (r+1) A->(s.grp=[]∨∀v∈A,broB (s.grp.getD 0 0) v=false)->
  ∃U,(A.foldl mStep s).ups=s.ups++U/\Dn U/\(∀ q,q∈U↔q∈nextL A)/\(((A.foldl mStep s).out++(A.foldl mStep s).grp).Perm (s.out++s.grp++doneL A))/\(A≠[]->Sized (r+1) (A.foldl mStep s).grp):=by
 intro n
 induction n using Nat.strongRecOn with
 |_ n ih=>
  intro A hn s hA hs hg;cases A with
  |nil=>exact⟨[],by simp,List.Pairwise.nil,fun q=>by rw[next_nil],by rw[show doneL []=[]from rfl];simp,fun h=>absurd rfl h⟩
  |cons w A0=>
   obtain⟨B0,A',hAB,hB,hA'⟩:=split_bro hA hs;obtain⟨-,p,hp,ep,hkw⟩:=word_parts (hs w (by simp));rw[hAB]at hA hs hg hn ⊢;generalize hBB:w::B0=B at *;have hBne:B≠[]:=by rw[<- hBB];simp
   have hB0:B.getD 0 0=w:=by rw[<- hBB];rfl
   obtain⟨hdB,hdA,-⟩:=List.pairwise_append.1 hA;have hsB:∀v∈B,v∈kidsW r (wordN r p):=fun v hv=>by
    obtain⟨-,q,hq,eq,hk⟩:=word_parts (hs v (List.mem_append_left _ hv));have:wordN r q=wordN r p:=by have:=hB v hv;omega
    rw[<- this];exact hk
   have hsA:Sized (r+1) A':=fun v hv=>hs v (List.mem_append_right _ hv)
   obtain⟨h7,hfull⟩:=kids_full hr hdB hsB;have hblk:=m_block hr hp B s hBne h7 hsB (hg.imp id fun h v hv=>h v (List.mem_append_left _ hv));have hlen:A'.length<n:=by rw[<- hn,List.length_append];have:=List.length_pos_iff.2 hBne;omega
   have hkid:∀v∈A',∀q,okB r q=true->v∈kidsW r (wordN r q)->∀u∈kidsW r (wordN r q),u∈B++A'->u∈A':=fun v hv q hq hvq u hu hm=>by
    rcases List.mem_append.1 hm with h|h
    ·exfalso
     have e1:=(par_of hr hq hvq).2;have e2:=(par_of hr hq hu).2;have e3:=hB u h;have e4:=hA' v hv;omega
    ·exact h
   have hmB:(∀ u∈kidsW r (wordN r p),u∈B++A')↔B.length=7:=by
    rw[hfull];refine⟨fun h u hu=>?_,fun h u hu=>List.mem_append_left _ (h u hu)⟩;rcases List.mem_append.1 (h u hu)with h1|h1
    ·exact h1
    ·exfalso
     have e1:=(par_of hr hp hu).2;have e2:=hA' u h1;omega
   have hdA':A'.filter (fun v=> !fullB (B++A') v)=doneL A':=by
    unfold doneL;refine List.filter_congr fun v hv=>?_
    obtain⟨-,q,hq,eq,hk⟩:=word_parts (hsA v hv);have h1:=full_iff hr hq (A:=B++A') hk;have h2:=full_iff hr hq (A:=A') hk;have:fullB (B++A') v=fullB A' v:=by
     rw[Bool.eq_iff_iff,h1,h2];exact⟨fun h u hu=>hkid v hv q hq hk u hu (h u hu),fun h u hu=>List.mem_append_right _ (h u hu)⟩
    rw[this]
   have hdBd:B.filter (fun v=> !fullB (B++A') v)=if B.length=7 then []else B:=by
    split
    ·next h=>
     refine List.filter_eq_nil_iff.2 fun v hv=>?_
     rw[(full_iff hr hp (hsB v hv)).2 (hmB.2 h)];simp
    ·next h=>
     refine List.filter_eq_self.2 fun v hv=>?_
     have:fullB (B++A') v≠true:=fun h2=>h (hmB.1 ((full_iff hr hp (hsB v hv)).1 h2))
     simpa using this
   have hdone:doneL (B++A')=(if B.length=7 then []else B)++doneL A':=by
    rw[<- hdA', <-hdBd];unfold doneL;rw[List.filter_append]
   have hnext:∀q,q∈nextL (B++A')↔(q=(wordN r p:Int)/\B.length=7)∨q∈nextL A':=fun q=>by
    rw[next_mem hr hs,next_mem hr hsA];constructor
    ·rintro⟨z,hz,rfl,h⟩
     by_cases e:wordN r z=wordN r p
     ·left
      refine⟨by rw[e],hmB.1 (by rw[<- e];exact h)⟩
     ·right
      refine⟨z,hz,rfl,fun u hu=>?_⟩;rcases List.mem_append.1 (h u hu)with h1|h1
      ·exfalso
       have e1:=(par_of hr hz hu).2;have e2:=hB u h1;omega
      ·exact h1
    ·rintro(⟨rfl,h⟩|⟨z,hz,rfl,h⟩)
     ·exact⟨p,hp,rfl,hmB.2 h⟩
     ·exact⟨z,hz,rfl,fun u hu=>List.mem_append_right _ (h u hu)⟩
   have hlow:∀q∈nextL A',q<(wordN r p:Int):=fun q hq=>by
    obtain⟨v,hv,rfl⟩:=List.mem_map.1 ((setF_mem _ _).1 hq);have:=hA' v (List.mem_filter.1 hv).1;omega
   rw[List.foldl_append,hblk];by_cases hl:B.length=7
   ·rw[if_pos hl]at hdone ⊢
    obtain⟨U,u1,u2,u3,u4,u5⟩:=ih _ hlen A' rfl ⟨s.out++s.grp,[],s.ups++[(wordN r p:Int)]⟩ hdA hsA (.inl rfl);refine⟨(wordN r p:Int)::U,by rw[u1];simp,List.pairwise_cons.2 ⟨fun q hq=>hlow q ((u3 q).1 hq),u2⟩,fun q=>by rw[List.mem_cons,hnext,u3];simp[hl],by rw[hdone];simpa using u4,fun _=>?_⟩;by_cases hA0:A'=[]
    ·subst hA0;intro v hv;cases hv
    ·exact u5 hA0
   ·rw[if_neg hl]at hdone ⊢
    obtain⟨U,u1,u2,u3,u4,u5⟩:=ih _ hlen A' rfl ⟨s.out++s.grp,B,s.ups⟩ hdA hsA (.inr fun v hv=>by
     show broB (B.getD 0 0) v=false;rw[hB0];exact bro_apart (by have:=hA' v hv;omega))
    refine⟨U,u1,u2,fun q=>by rw[hnext,u3];simp[hl],by rw[hdone];simpa[List.append_assoc]using u4,fun _=>?_⟩;by_cases hA0:A'=[]
    ·subst hA0;exact fun v hv=>hs v (List.mem_append_left _ hv)
    ·exact u5 hA0
theorem m_base:∀(A:List Int) (s:Mc),Sized 0 A->(s.grp=[]∨∀v∈A,broB (s.grp.getD 0 0) v=false)->s.grp.length<7->
  (A.foldl mStep s).ups=s.ups/\(A.foldl mStep s).out++(A.foldl mStep s).grp=s.out++s.grp++A
 |[],s,_,_,_=>⟨rfl,by simp⟩
 |w::A,s,hs,hg,hl=>by
  have e0:∀v:Int,broB w v=false:=fun v=>by
   obtain⟨z,hz,rfl⟩:=hs w (by simp);obtain⟨a1,a2,-⟩:=word_cell hz;unfold broB parE;rw[Int.toNat_natCast,if_pos a1,if_pos a2];simp
  have e:mStep s w=⟨s.out++s.grp,[w],s.ups⟩:=by
   have e1:mFlush s w=⟨s.out++s.grp,[],s.ups⟩:=by
    unfold mFlush;by_cases h0:s.grp=[]
    ·rw[if_neg (by simp[h0])]
     obtain⟨o,g,u⟩:=s;simp only at h0;subst h0;simp
    ·rw[if_pos ⟨h0,(hg.resolve_left h0) w (by simp)⟩]
   unfold mStep;rw[e1];simp
  rw[List.foldl_cons,e];obtain⟨h1,h2⟩:=m_base A ⟨s.out++s.grp,[w],s.ups⟩ (fun v hv=>hs v (by simp[hv])) (.inr fun v _=>e0 v) (by simp);exact⟨h1,by rw[h2];simp⟩
theorem m_len1{s:Mc}(h:s.grp.length<7)(w:Int):(mStep s w).grp.length<7:=by
 have h1:(mFlush s w).grp.length<7:=by
  unfold mFlush
  split
  ·simp
  ·exact h
 unfold mStep
 split
 ·simp
 ·simp only[List.length_append,List.length_cons,List.length_nil];omega
theorem m_len:∀(A:List Int) {s:Mc},s.grp.length<7->(A.foldl mStep s).grp.length<7
 |[],_,h=>h
 |w::A,_,h=>m_len A (m_len1 h w)
def resM:Nat->List Int->Mc->List Int
 |0,A,s=>(A.foldl mStep s).out++(A.foldl mStep s).grp
 |r+1,A,s=>resM r (A.foldl mStep s).ups ⟨(A.foldl mStep s).out,(A.foldl mStep s).grp,[]⟩
theorem full_congr{A B:List Int}(h:∀x,x∈A↔x∈B)(v:Int):fullB A v=fullB B v:=by
 unfold fullB kidsIn;congr 1;rw[Bool.eq_iff_iff,List.all_eq_true,List.all_eq_true];exact⟨fun k u hu=>List.contains_iff_mem.2 ((h u).1 (List.contains_iff_mem.1 (k u hu))),fun k u hu=>List.contains_iff_mem.2 ((h u).2 (List.contains_iff_mem.1 (k u hu)))⟩
theorem done_rev(X:List Int):(doneL X.reverse).Perm (doneL X):=by
 unfold doneL;rw[List.filter_congr (fun v _=>by rw[full_congr (B:=X) (fun x=>List.mem_reverse)]:∀v∈X.reverse,(!fullB X.reverse v)= !fullB X v),List.filter_reverse];exact List.reverse_perm _
theorem getD0_mem{l:List Int}(h:l≠[]):l.getD 0 0∈l:=getD_mem (List.length_pos_iff.2 h)
theorem resM_perm:∀(r:Nat) (X:List Int) (s:Mc),r<=12->Up X->Sized r X->s.ups=[]->(s.grp=[]∨∀v∈X,broB (s.grp.getD 0 0) v=false)->s.grp.length<7->(resM r X.reverse s).Perm (s.out++s.grp++packN r X)
 |0,X,s,_,_,hs,_,hg,hl=>by
  have h:=(m_base X.reverse s (fun v hv=>hs v (by simpa using hv)) (hg.imp id fun h v hv=>h v (by simpa using hv)) hl).2;show(_++_:List Int).Perm _;rw[h];exact List.Perm.append_left _ (List.reverse_perm X)
 |r+1,X,s,hr,hX,hs,hu,hg,hl=>by
  have hsr:Sized (r+1) X.reverse:=fun v hv=>hs v (by simpa using hv)
  obtain⟨U,u1,u2,u3,u4,u5⟩:=m_level hr _ X.reverse rfl s hX.rev hsr (hg.imp id fun h v hv=>h v (by simpa using hv));have hUe:U=(nextL X).reverse:=by
   have e:U.reverse=nextL X:=u2.rev.ext (setF_up _) fun x=>by
    rw[List.mem_reverse,u3,next_mem hr hsr,next_mem hr hs];simp only[List.mem_reverse]
   rw[<- e,List.reverse_reverse]
  have hlen:=m_len X.reverse hl;have hgr:(X.reverse.foldl mStep s).grp=[]∨∀v∈nextL X,broB ((X.reverse.foldl mStep s).grp.getD 0 0) v=false:=by
   by_cases h0:(X.reverse.foldl mStep s).grp=[]
   ·exact .inl h0
   ·right
    intro v hv;have hX0:X.reverse≠[]:=fun e=>by
     have:X=[]:=by simpa using e
     rw[this,next_nil]at hv;cases hv
    exact bro_below (u5 hX0 _ (getD0_mem h0)) (next_sized hs v hv)
  have ih:=resM_perm r (nextL X) ⟨(X.reverse.foldl mStep s).out,(X.reverse.foldl mStep s).grp,[]⟩ (by omega) (setF_up _) (next_sized hs) rfl hgr hlen;show(resM r (X.reverse.foldl mStep s).ups ⟨(X.reverse.foldl mStep s).out,(X.reverse.foldl mStep s).grp,[]⟩).Perm _;rw[u1,hu,List.nil_append,hUe];refine ih.trans ?_;show((X.reverse.foldl mStep s).out++(X.reverse.foldl mStep s).grp++packN r (nextL X)).Perm (s.out++s.grp++(doneL X++packN r (nextL X)));rw[<- List.append_assoc (s.out++s.grp)];exact(u4.trans (List.Perm.append_left _ (done_rev X))).append_right _
theorem packN_sized:∀(r:Nat) (X:List Int),Sized r X->∀v∈packN r X,∃k:Nat,k<=r/\∃z,okB k z=true/\v=(wordN k z:Int)
 |0,X,hs,v,hv=>⟨0,by omega,hs v hv⟩
 |r+1,X,hs,v,hv=>by
  rcases List.mem_append.1 hv with h|h
  ·exact⟨r+1,by omega,hs v (List.mem_filter.1 h).1⟩
  ·obtain⟨k,hk,h2⟩:=packN_sized r _ (next_sized hs) v h
   exact⟨k,by omega,h2⟩
theorem packN_nodup:∀(r:Nat) (X:List Int),Sized r X->X.Nodup->(packN r X).Nodup
 |0,_,_,h=>h
 |r+1,X,hs,h=>by
  refine List.nodup_append.2 ⟨h.filter _,packN_nodup r _ (next_sized hs) (Up.nodup (setF_up _)),fun a ha b hb e=>?_⟩;subst e;obtain⟨k,hk,h2⟩:=packN_sized r _ (next_sized hs) a hb;have:=sized_unlike (hs a (List.mem_filter.1 ha).1) h2;omega
theorem srt_perm{l m:List Int}(h:l.Perm m)(hn:m.Nodup):srt l=setF m:=by
 have hp:(srt l).Perm m:=(List.mergeSort_perm _ _).trans h;have hnd:(srt l).Nodup:=hp.nodup_iff.2 hn;have hup:Up (srt l):=(List.Pairwise.and (srt_sorted l) (List.nodup_iff_pairwise_ne.1 hnd)).imp fun h=>by omega
 exact hup.ext (setF_up m) fun x=>by rw[setF_mem];exact hp.mem_iff
theorem pack_end{r:Nat}(hr:r<=12){l:List Int}(hs:Sized r l){R:List Int}(h:resM r (setF l).reverse ⟨[],[],[]⟩=R):srt R=packF r l:=by
 have hss:=sized_set hs;have hp:=resM_perm r (setF l) ⟨[],[],[]⟩ hr (setF_up l) hss rfl (.inl rfl) (by simp);rw[h]at hp;exact srt_perm hp (packN_nodup r _ hss (Up.nodup (setF_up l)))
def Run(R0:List Int)(o g M:List Int):Prop:=
 ∃(r:Nat) (s0:Mc) (P A u:List Int),r<=12/\s0.ups=[]/\Sized r (P++A)/\Dn (P++A)/\(s0.grp=[]∨Sized (r+1) s0.grp)/\s0.grp.length<7/\P.foldl mStep s0=⟨o,g,u⟩/\M.Perm (A++u)/\resM r (P++A) s0=R0
theorem run_start{r:Nat}(hr:r<=12){l M:List Int}(hs:Sized r l)(hM:M.Perm (setF l).reverse):Run (resM r (setF l).reverse ⟨[],[],[]⟩) [] [] M:=
 ⟨r,⟨[],[],[]⟩,[],(setF l).reverse,[],hr,rfl,fun v hv=>sized_set hs v (by simpa using hv),(setF_up l).rev,.inl rfl,by simp,rfl,by simpa using hM,rfl⟩
theorem s0_free{r:Nat}{g:List Int}{X:List Int}(hs:Sized r X)(h:g=[]∨Sized (r+1) g):g=[]∨∀v∈X,broB (g.getD 0 0) v=false:=by
 by_cases h0:g=[]
 ·exact .inl h0
 ·exact .inr fun v hv=>bro_below ((h.resolve_left h0) _ (getD0_mem h0)) (hs v hv)
theorem run_ups{r:Nat}{s0:Mc}{P o g u:List Int}(hr:r<=12)(h0:s0.ups=[])(hs:Sized r P)(hd:Dn P)(hg:s0.grp=[]∨Sized (r+1) s0.grp)(hl:s0.grp.length<7)(he:P.foldl mStep s0=⟨o,g,u⟩):
  (r=0/\u=[])∨∃q,r=q+1/\Sized q u/\Dn u/\(P≠[]->Sized r g):=by
 cases r with
 |zero=>
  left;have:=(m_base P s0 hs (s0_free hs hg) hl).1;rw[he,h0]at this;exact⟨rfl,this⟩
 |succ q=>
  right;obtain⟨U,u1,u2,u3,u4,u5⟩:=m_level hr _ P rfl s0 hd hs (s0_free hs hg);rw[he,h0]at u1;have e:u=U:=by simpa using u1
  rw[he]at u5;subst e;exact⟨q,rfl,fun v hv=>next_sized hs v ((u3 v).1 hv),u2,u5⟩
theorem size_less{q:Nat}{v w:Int}(hv:∃z,okB q z=true/\v=(wordN q z:Int))(hw:∃z,okB (q+1:Nat) z=true/\w=(wordN (q+1) z:Int)):v<w:=by
 obtain⟨y,hy,rfl⟩:=hv;obtain⟨z,hz,rfl⟩:=hw;have h1:=(word_cell hy).2.1;have h2:=(word_cell hz).2.1;have l1:=wordN_lt hy;have l2:=wordN_lt hz;unfold rW at h1 h2;omega
theorem flush_ups(o g u:List Int)(w:Int):mFlush ⟨o,g,u⟩ w=⟨(mFlush ⟨o,g,[]⟩ w).out,(mFlush ⟨o,g,[]⟩ w).grp,u⟩:=by
 unfold mFlush
 split <;> rfl
theorem run_step{R0 o g M M':List Int}{w:Int}(h:Run R0 o g M)(hM:M.Perm (w::M'))(hw:∀x∈M,x<=w):
  (∃ k:Nat,k<=12/\∃z,okB k z=true/\w=(wordN k z:Int))/\g.length<7/\
  ((mFlush ⟨o,g,[]⟩ w).grp.length+1=7->Run R0 (mFlush ⟨o,g,[]⟩ w).out [] (parI w::M'))/\
  ((mFlush ⟨o,g,[]⟩ w).grp.length+1≠7->Run R0 (mFlush ⟨o,g,[]⟩ w).out ((mFlush ⟨o,g,[]⟩ w).grp++[w]) M'):=by
 have key:∀(r:Nat) (s0:Mc) (P A u:List Int),r<=12->s0.ups=[]->Sized r (P++w::A)->Dn (P++w::A)->(s0.grp=[]∨Sized (r+1) s0.grp)->s0.grp.length<7->P.foldl mStep s0=⟨o,g,u⟩->M'.Perm (A++u)->resM r (P++w::A) s0=R0->
   (∃ k:Nat,k<=12/\∃z,okB k z=true/\w=(wordN k z:Int))/\g.length<7/\
   ((mFlush ⟨o,g,[]⟩ w).grp.length+1=7->Run R0 (mFlush ⟨o,g,[]⟩ w).out [] (parI w::M'))/\
   ((mFlush ⟨o,g,[]⟩ w).grp.length+1≠7->Run R0 (mFlush ⟨o,g,[]⟩ w).out ((mFlush ⟨o,g,[]⟩ w).grp++[w]) M'):=by
  intro r s0 P A u hr h0 hs hd hg hl he hp hR;have hgl:g.length<7:=by have:=m_len P hl;rwa[he]at this
  have e2:(P++[w]).foldl mStep s0=mStep ⟨o,g,u⟩ w:=by rw[List.foldl_append,he];rfl
  have e3:P++w::A=(P++[w])++A:=by simp
  refine⟨⟨r,hr,hs w (by simp)⟩,hgl,fun h7=>?_,fun h7=>?_⟩
  ·rw[e3]at hs hd hR
   refine⟨r,s0,P++[w],A,u++[parI w],hr,h0,hs,hd,hg,hl,?_,?_,hR⟩
   ·rw[e2];unfold mStep;rw[flush_ups,if_pos h7]
   ·refine(List.Perm.cons _ hp).trans ?_
    rw[<- List.append_assoc];exact List.perm_append_comm (l₁:=[parI w])
  ·rw[e3]at hs hd hR
   refine⟨r,s0,P++[w],A,u,hr,h0,hs,hd,hg,hl,?_,hp,hR⟩;rw[e2];unfold mStep;rw[flush_ups,if_neg h7]
 obtain⟨r,s0,P,A,u,hr,h0,hs,hd,hg,hl,he,hp,hR⟩:=h;have hsP:Sized r P:=fun v hv=>hs v (List.mem_append_left _ hv)
 have hdP:Dn P:=(List.pairwise_append.1 hd).1;have hup:=run_ups hr h0 hsP hdP hg hl he;have hwM:w∈A++u:=hp.subset (hM.symm.subset (by simp));cases A with
 |cons x A=>
  have hxw:x=w:=by
   have h1:x<=w:=hw x (hp.symm.subset (by simp));rcases List.mem_append.1 hwM with h2|h2
   ·rcases List.mem_cons.1 h2 with e|h2
    ·exact e.symm
    ·have:=(List.pairwise_cons.1 (List.pairwise_append.1 hd).2.1).1 w h2;omega
   ·exfalso
    rcases hup with⟨-,e⟩|⟨q,rfl,h3,-⟩
    ·rw[e]at h2;cases h2
    ·have:=size_less (h3 w h2) (hs x (by simp));omega
  subst hxw;refine key r s0 P A u hr h0 hs hd hg hl he ?_ hR;exact(hM.symm.trans hp).cons_inv
 |nil=>
  rw[List.nil_append]at hp hwM;rw[List.append_nil]at hR;rcases hup with⟨-,e⟩|⟨q,rfl,h3,h4,h5⟩
  ·rw[e]at hwM;cases hwM
  ·cases u with
   |nil=>cases hwM
   |cons x u=>
    have hxw:x=w:=by
     have h1:x<=w:=hw x (hp.symm.subset (by simp));rcases List.mem_cons.1 hwM with e|h2
     ·exact e.symm
     ·have:=(List.pairwise_cons.1 h4).1 w h2;omega
    subst hxw;have hgl:g.length<7:=by have:=m_len P hl;rwa[he]at this
    have hPne:P≠[]:=fun e=>by
     rw[e]at he;have e2:s0=⟨o,g,x::u⟩:=he;rw[e2]at h0;cases h0
    refine key q ⟨o,g,[]⟩ [] u [] (by omega) rfl h3 h4 (.inr (h5 hPne)) hgl rfl ?_ ?_
    ·rw[List.append_nil];exact(hM.symm.trans hp).cons_inv
    ·rw[<- hR]
     show _=resM q (P.foldl mStep s0).ups _;rw[he]
     rfl
theorem run_end{R0 o g:List Int}(h:Run R0 o g []):R0=o++g:=by
 obtain⟨r,s0,P,A,u,hr,h0,hs,hd,hg,hl,he,hp,hR⟩:=h;have h2:A++u=[]:=List.Perm.eq_nil hp.symm;obtain⟨rfl,rfl⟩:=List.append_eq_nil_iff.1 h2;rw[List.append_nil]at hR;rw[<- hR];have fin:∀q (o g:List Int),resM q [] ⟨o,g,[]⟩=o++g:=fun q=>by
  induction q with
  |zero=>intro o g;rfl
  |succ q ih=>intro o g;exact ih o g
 cases r with
 |zero=>show(P.foldl mStep s0).out++_=_;rw[he]
 |succ q=>
  show resM q (P.foldl mStep s0).ups ⟨(P.foldl mStep s0).out,(P.foldl mStep s0).grp,[]⟩=_;rw[he];exact fin q o g
theorem iok_any(w0:Nat)(hw:w0<18446744073709551616)(w:World):Calls Tryz.prog 122 #[.int .u64 w0] w fun e w'=>e=.returned (.bool (isW w0))/\Below w.heap.size w w':=by
 have HC:=Hd (cell_any w0 hw);have HR:(cvE w0=0/\isW w0=true)∨(cvE w0=5/\isW w0=false):=by
  unfold cvE;by_cases h:isW w0=true
  ·exact .inl ⟨by rw[if_pos h],h⟩
  ·exact .inr ⟨by rw[if_neg h],by simpa using h⟩
 rcases HR with⟨e1,e2⟩|⟨e1,e2⟩
 all_goals
  rw[e2];rw[e1]at HC;generalize cvR w0=r at *;generalize cvZ w0=z at *;clear e1 e2;simp only[vC]at*
  go_enter Tryz.func122,Tryz.ntmps122
  go_wp2_with fail
  refine(HC.out _).mono ?_;rintro e w1 ⟨rfl,hb1⟩;have B1:Hid (Below w.heap.size w (w1.alloc (.cells #[.int .i64 r,.int .i64 z.1,.int .i64 z.2] 39))):=hb1.alloc hb1.size _;clear hb1;go_wp2;go_ret;exact⟨rfl,B1.out⟩
theorem bro_any(a b:Nat)(ha:a<18446744073709551616)(hb:b<18446744073709551616)(w:World):Calls Tryz.prog 84 #[.int .u64 a,.int .u64 b] w fun e w'=>e=.returned (.bool (broB a b))/\Below w.heap.size w w':=by
 have HA:=Hd (ipar_any a ha);have HB:=Hd (ipar_any b hb);have key:∃(ea eb:Int) (p q:Nat),parE a=ea/\parE b=eb/\parW a=p/\parW b=q:=⟨_,_,_,_,rfl,rfl,rfl,rfl⟩;obtain⟨ea,eb,p,q,h1,h2,h3,h4⟩:=key;have hres:broB a b=(decide (ea=0)&&decide (eb=0)&&decide ((p:Int)=(q:Int))):=by
  unfold broB parI;rw[Int.toNat_natCast,Int.toNat_natCast,h1,h2,h3,h4]
 rw[h1,h3]at HA;rw[h2,h4]at HB;rw[hres];clear hres h1 h2 h3 h4;by_cases qa:ea=0
 ·subst qa
  by_cases qb:eb=0
  ·subst qb
   obtain⟨o,ho⟩:∃o,decide ((p:Int)=(q:Int))=o:=⟨_,rfl⟩;have ho2:((p:Int)==(q:Int))=o:=by rw[<- ho];rfl
   have ho3:decide (p=q)=o:=by rw[<- ho];exact decide_eq_decide.2 (by omega)
   have HO:Hid ((decide ((0:Int)=0)&&decide ((0:Int)=0)&&decide ((p:Int)=(q:Int)))=o):=by show _=_;rw[ho];simp
   rw[HO.out];cases o
   all_goals
    clear ho ho3
    go_enter Tryz.func84,Tryz.ntmps84
    go_wp2_with fail
    refine(HA.out _).mono ?_;rintro e w1 ⟨rfl,hb1⟩;have B1:=Hd hb1;clear hb1
    go_wp2_with fail
    refine(HB.out _).mono ?_;rintro e w2 ⟨rfl,hb2⟩;have B2:=Hd (B1.out.trans (hb2.mono B1.out.size));clear hb2;go_wp2;go_ret;exact⟨rfl,B2.out⟩
  ·have q1:(eb==0)=false:=by simp[qb]
   have HO:Hid ((decide ((0:Int)=0)&&decide (eb=0)&&decide ((p:Int)=(q:Int)))=false):=by show _=_;simp[qb]
   rw[HO.out];clear qb
   go_enter Tryz.func84,Tryz.ntmps84
   go_wp2_with fail
   refine(HA.out _).mono ?_;rintro e w1 ⟨rfl,hb1⟩;have B1:=Hd hb1;clear hb1
   go_wp2_with fail
   refine(HB.out _).mono ?_;rintro e w2 ⟨rfl,hb2⟩;have B2:=Hd (B1.out.trans (hb2.mono B1.out.size));clear hb2;go_wp2;go_ret;exact⟨rfl,B2.out⟩
 ·have q1:(ea==0)=false:=by simp[qa]
  have HO:Hid ((decide (ea=0)&&decide (eb=0)&&decide ((p:Int)=(q:Int)))=false):=by show _=_;simp[qa]
  rw[HO.out];clear qa
  go_enter Tryz.func84,Tryz.ntmps84
  go_wp2_with fail
  refine(HA.out _).mono ?_;rintro e w1 ⟨rfl,hb1⟩;have B1:=Hd hb1;clear hb1
  go_wp2_with fail
  refine(HB.out _).mono ?_;rintro e w2 ⟨rfl,hb2⟩;have B2:=Hd (B1.out.trans (hb2.mono B1.out.size));clear hb2;go_wp2;go_ret;exact⟨rfl,B2.out⟩
def allW(l:List Int):Bool:=l.all fun v=>isW v.toNat
def alkE(l:List Int):Int:=if allW l=true then chkF (resW (l.getD 0 0).toNat) l else 5
theorem alike_any(ao:Option Addr)(c:Nat)(l:List Int)(w:World)(B:Nat)(h:WordsAt w B ao l)(hB:B<=w.heap.size)(hn:l.length<=1000000000)(h0:0<l.length)(h64:In64 l):
  Calls Tryz.prog 79 #[.slice ao l.length c] w fun e w'=>e=.returned (.int .i64 (alkE l))/\Below w.heap.size w w':=by
 have HCK:=Hd (fun wr hb=>check_any_q ao c l (resW (l.getD 0 0).toNat) wr B (h.below (C:=w.heap.size) hb hB) (Nat.le_trans hB (Below.size hb)) hn h64);have HIR:=Hd (ires_any (l.getD 0 0).toNat (by have:=h64 _ (getD_mem h0);omega));have HV0:Hid ((((l.getD 0 0).toNat:Nat):Int)=l.getD 0 0):=by show _=_;have:=h64 _ (getD_mem h0);omega
 obtain⟨n,hnn⟩:∃n,l.length=n:=⟨_,rfl⟩;have HN:=Hd hnn;have HW:=Hd h;have H64:Hid (∀ k,k<n->0<=l.getD k 0/\l.getD k 0<18446744073709551616):=fun k hk=>h64 _ (getD_mem (by rw[hnn];exact hk))
 have HT:Hid (∀ k,k<n->isW (l.getD k 0).toNat=false->alkE l=5):=fun k hk hw=>by
  unfold alkE;rw[if_neg];unfold allW;rw[List.all_eq_true];intro hall;rw[hall _ (getD_mem (by rw[hnn];exact hk))]at hw;cases hw
 have HE:Hid ((∀ k,k<n->isW (l.getD k 0).toNat=true)->alkE l=chkF (resW (l.getD 0 0).toNat) l):=fun hall=>by
  unfold alkE;rw[if_pos];unfold allW;rw[List.all_eq_true];intro v hv;obtain⟨k,hk,rfl⟩:=List.getElem_of_mem hv;have:=hall k (by omega)
  rwa[List.getD_eq_getElem?_getD,List.getElem?_eq_getElem hk,Option.getD_some]at this
 rw[hnn]at hn h0 HCK ⊢;generalize alkE l=E at *;clear hnn h h64
 go_enter Tryz.func79,Tryz.ntmps79
 go_wp2
 go_loopw [7] (fun i wr=>∃k:Nat,k<=n/\i=.int .i64 k/\Hid (∀ j,j<k->isW (l.getD j 0).toNat=true)/\Hid (Below w.heap.size w wr/\True)) (fun i _=>n-(intOf i).toNat)
 case atStart=>exact⟨0,by omega,rfl,fun j hj=>by omega,br,trivial⟩
 case round=>
  obtain⟨k,hk,rfl,HA,hbi,-⟩:=hrel;have HBI:=Hd hbi;clear hbi;have hsz:=HBI.out.size;by_cases hlt:k<n
  ·obtain⟨g,off,rfl,hg,hc⟩:=(HW.out.below HBI.out hB) (by rw[HN.out];omega)
   have c0:=hc k (by rw[HN.out];exact hlt);obtain⟨v1,v2⟩:=H64.out k hlt;have ht:=HT.out k hlt;have hA2:isW (l.getD k 0).toNat=true->∀j,j<k+1->isW (l.getD j 0).toNat=true:=fun hk2 j hj=>by
    by_cases e:j=k
    ·rw[e];exact hk2
    ·exact HA.out j (by omega)
   generalize l.getD k 0=v at *;obtain⟨u,rfl⟩:∃u:Nat,v=u:=⟨v.toNat,by omega⟩;rw[Int.toNat_natCast]at ht hA2;have HR:=Hd (iok_any u (by omega));have hgw:g<wr.heap.size:=by omega
   clear hc;obtain⟨o,ho⟩:∃o,isW u=o:=⟨_,rfl⟩;rw[ho]at HR ht hA2;clear ho;have HA2:=Hd hA2;have HTT:=Hd ht;clear hA2 ht;cases o with
   |true=>
    have HA3:=Hd (HA2.out rfl);clear HA2 HTT
    go_wp2_with fail
    refine(HR.out _).mono ?_;rintro e w2 ⟨rfl,hb2⟩;have HB2:=Hd (HBI.out.trans (hb2.mono HBI.out.size));clear hb2;go_wp2
    go_roundw
    case rel=>exact⟨k+1,by omega,by go_num,HA3.out,HB2.out,trivial⟩
    case measure=>simp[intOf];omega
   |false=>
    have HE5:=Hd (HTT.out rfl);clear HA2 HTT
    go_wp2_with fail
    refine(HR.out _).mono ?_;rintro e w2 ⟨rfl,hb2⟩;have HB2:=Hd (HBI.out.trans (hb2.mono HBI.out.size));clear hb2;go_wp2;go_ret;exact⟨by rw[HE5.out];rfl,HB2.out⟩
  ·obtain⟨g,off,rfl,hg,hc⟩:=(HW.out.below HBI.out hB) (by rw[HN.out];omega)
   have c0:=hc 0 (by rw[HN.out];exact h0);rw[<- HV0.out,Nat.add_zero]at c0;have HEE:=Hd (HE.out fun j hj=>HA.out j (by omega));have hgw:g<wr.heap.size:=by omega
   generalize(l.getD 0 0).toNat=u at *;obtain⟨R,hR⟩:∃R,resW u=R:=⟨_,rfl⟩;rw[hR]at HIR HCK HEE;obtain⟨X,hX⟩:∃X,chkF R l=X:=⟨_,rfl⟩;rw[hX]at HCK HEE;have HC2:=Hd (HCK.out);clear hc hX hR HCK
   go_wp2_with fail
   refine(HIR.out _).mono ?_;rintro e w2 ⟨rfl,hb2⟩;have HB2:=Hd (HBI.out.trans (hb2.mono HBI.out.size));clear hb2 HBI
   go_wp2_with fail
   refine(HC2.out _ HB2.out).mono ?_;rintro e w3 ⟨rfl,hb3⟩;have HB3:=Hd (HB2.out.trans (hb3.mono HB2.out.size));clear hb3;go_wp2;go_ret;exact⟨by rw[HEE.out];rfl,HB3.out⟩
theorem upN_ok:∀(k:Nat) {r:Nat} {z:E2},okB (r+k:Nat) z=true->okB r (upN k z)=true
 |0,r,z,h=>h
 |k+1,r,z,h=>by
  rw[upN_up];exact up_ok (upN_ok k (r:=r+1) (by rw[show r+1+k=r+(k+1) by omega];exact h))
end
section
open Go.RowKit Go.Lib
open Go.Maps (Keyed)
open Go.ChangeMaps (setBlock heap_setBlock_same heap_setBlock_other)
open Go.WideElems (findIdx_arr findIdx_born)
end
section
open Go.RowKit Go.Lib Wd
def sumS(r:Nat):List Int->Nat
 |[]=>0
 |v::l=>7 ^ (r-rW v.toNat)+sumS r l
def szE(l:List Int)(r:Int):Int:=
 if allW l=false then 5 else if l.any (fun v=>decide (r<(rW v.toNat:Int)))=true then 8 else if r<0∨12<r then 1 else if 1099511627776<sumS r.toNat l then 7 else 0
def szN(l:List Int)(r:Int):Int:=if szE l r=0 then(sumS r.toNat l:Int)else 0
end
section
open Go.RowKit Go.Lib Go.Sort
end
section
open Go.RowKit Go.Lib
def gw(L:List Int)(i:Nat):Int:=L.getD i 0
def RowU(w:World)(g c:Nat)(L:List Int):Prop:=
 g<w.heap.size/\(∀ i,i<L.length->w.cell? ⟨g,i,none⟩=some (.int .u64 (gw L i)))/\∀j,j<c->(w.cell? ⟨g,j,none⟩).isSome=true/\w.frozen? ⟨g,j,none⟩=false
def RowAt(w:World)(r:Nat)(vo:Option Addr)(c:Nat)(L:List Int):Prop:=
 w.cell? ⟨r,0,none⟩=some (.slice vo L.length c)/\(∀ j,w.frozen? ⟨r,j,none⟩=false)/\L.length<=c/\(vo=none->c=0)/\(0<c->∃g,vo=some ⟨g,0,none⟩/\g≠r/\RowU w g c L)/\In64 L/\L.length<=1000000
theorem RowAt.lt{w:World}{r c:Nat}{vo:Option Addr}{L:List Int}(h:RowAt w r vo c L):r<w.heap.size:=World.block_lt_of_cell? w _ h.1
theorem RowAt.cells{w:World}{r c:Nat}{vo:Option Addr}{L:List Int}(h:RowAt w r vo c L)(h0:0<L.length):
  ∃g,vo=some ⟨g,0,none⟩/\g<w.heap.size/\g≠r/\(∀ i,i<L.length->w.cell? ⟨g,i,none⟩=some (.int .u64 (gw L i)))/\∀i,i<L.length->w.frozen? ⟨g,i,none⟩=false:=by
 obtain⟨g,e,hgr,hg,h1,h2⟩:=h.2.2.2.2.1 (by have:=h.2.2.1;omega);exact⟨g,e,hg,hgr,h1,fun i hi=>(h2 i (by have:=h.2.2.1;omega)).2⟩
def lessW(a b:Int):Bool:=decide (b<a)
theorem plen_any(vo:Option Addr)(n c:Nat)(w:World):Calls Tryz.prog 83 #[.slice vo n c] w fun e w'=>e=.returned (.int .i64 n)/\w=w':=by
 go_enter Tryz.func83,Tryz.ntmps83
 go_wp2;go_ret;exact⟨rfl,rfl⟩
theorem pless_any{w:World}{g c n i k:Nat}{a b:Int}(hi:i<n)(hk:k<n)(ha:w.cell? ⟨g,i,none⟩=some (.int .u64 a))(hb:w.cell? ⟨g,k,none⟩=some (.int .u64 b)):
  Calls Tryz.prog 206 #[.slice (some ⟨g,0,none⟩) n c,.int .i64 i,.int .i64 k] w fun e w'=>e=.returned (.bool (lessW a b))/\Below w.heap.size w w':=by
 have HL:Hid (lessW a b=decide (b<a)):=rfl
 go_enter Tryz.func206,Tryz.ntmps206
 go_wp2_with(first|(with_reducible refine wp_region_lex (by kernel_rfl) (by kernel_rfl) ?_)|(with_reducible refine OnlyG.intro (by kernel_rfl) ?_))
 go_ret;exact⟨by rw[HL.out];rfl,(Below.refl _ w).drew⟩
def swapL(L:List Int)(i k:Nat):List Int:=(L.set i (gw L k)).set k (gw L i)
theorem cell_put{w:World}{g i k:Nat}{u v:Value}(h:w.cell? ⟨g,k,none⟩=some v):(w.setCell ⟨g,i,none⟩ u).cell? ⟨g,k,none⟩=some (if k=i then u else v):=by
 by_cases e:k=i
 ·subst e;rw[if_pos rfl];exact World.cell?_setCell_same _ _ _ h
 ·rw[if_neg e,World.cell?_setCell_other _ _ _ _ (fun h2=>e (by cases h2;rfl))];exact h
theorem pswap_any{w:World}{g c n i k:Nat}{a b:Int}(hi:i<n)(hk:k<n)(ha:w.cell? ⟨g,i,none⟩=some (.int .u64 a))(hb:w.cell? ⟨g,k,none⟩=some (.int .u64 b))(fa:w.frozen? ⟨g,i,none⟩=false)(fb:w.frozen? ⟨g,k,none⟩=false):
  Calls Tryz.prog 207 #[.slice (some ⟨g,0,none⟩) n c,.int .i64 i,.int .i64 k] w fun e w'=>e=.returned (.tuple #[])/\w'=((w.setCell ⟨g,i,none⟩ (.int .u64 b)).setCell ⟨g,k,none⟩ (.int .u64 a)).drew:=by
 obtain⟨x,hx⟩:∃x,(w.setCell ⟨g,i,none⟩ (.int .u64 b)).cell? ⟨g,k,none⟩=some x:=⟨_,cell_put hb⟩
 go_enter Tryz.func207,Tryz.ntmps207
 go_wp2_with fail
 go_region
 all_goals
  go_end0
  exact⟨rfl,rfl⟩
theorem wrap_chk{P:Program}{w:World}(xt:TypeId)(a:Addr)(s1 s2:ByteArray):(Builtin.ssaWrapNilChk_ #[xt] xt #[.pointer (some a),.string s1,.string s2]).run P w=.ok (.pointer (some a)) w:=rfl
theorem method_deref{P:Program}{w:World}{fuel t row f:Nat}{name:String}{v:Value}{e:TypeId}{a:Addr}(hh:((P.info? t).bind fun i=>(i.methods.find? (·.name==name)).map fun m=>(m.path.size,m.func))=some (0,some (f,false)))
  (hu:P.underlying t=some (.pointer row)) (hr:P.underlying row=some (.slice e)) (hc:w.cell? a=some v):(method (fuel+1) t (.pointer (some a)) name).run P w=.ok (f,v) w:=by
 obtain⟨i,hi,hh⟩:=Option.bind_eq_some_iff.1 hh;obtain⟨m,hm,hh⟩:=Option.map_eq_some_iff.1 hh;have hp:m.path=#[]:=Array.eq_empty_of_size_eq_zero (congrArg Prod.fst hh);have hf:m.func=some (f,false):=congrArg Prod.snd hh;unfold method;simp only[Sem.run_bind,run_typeInfo w hi,Result.andThen_ok,hm,hp,hf,follow,List.toList_toArray,Sem.run_pure,receiverAt,run_underlying hu,Place.get,strVal,Array.isEmpty_empty,if_true,wrap_chk];simp[go_sem,asAddr,loadVar,isAgg,run_underlying hr,hc]
theorem meth_len{w:World}{r n c:Nat}{vo:Option Addr}(h:w.cell? ⟨r,0,none⟩=some (.slice vo n c)):(method 340 126 (.pointer (some ⟨r,0,none⟩)) "Len").run Tryz.prog w=.ok (83,.slice vo n c) w:=
 method_deref (by kernel_rfl) Tryz.underlying126 Tryz.underlying123 h
theorem meth_less{w:World}{r n c:Nat}{vo:Option Addr}(h:w.cell? ⟨r,0,none⟩=some (.slice vo n c)):(method 340 126 (.pointer (some ⟨r,0,none⟩)) "Less").run Tryz.prog w=.ok (206,.slice vo n c) w:=
 method_deref (by kernel_rfl) Tryz.underlying126 Tryz.underlying123 h
theorem meth_swap{w:World}{r n c:Nat}{vo:Option Addr}(h:w.cell? ⟨r,0,none⟩=some (.slice vo n c)):(method 340 126 (.pointer (some ⟨r,0,none⟩)) "Swap").run Tryz.prog w=.ok (207,.slice vo n c) w:=
 method_deref (by kernel_rfl) Tryz.underlying126 Tryz.underlying123 h
def Foot(r:Nat)(vo:Option Addr):Nat->Prop:=fun k=>k=r∨∃o s,vo=some ⟨k,o,s⟩
theorem RowU.kept{S:Nat->Prop}{w w':World}{g c:Nat}{L:List Int}(h:RowU w g c L)(ht:Turn S w w')(hS:¬S g):RowU w' g c L:=
 have e:w'.heap[g]? =w.heap[g]? :=ht.2.2.2.2 g h.1 hS
 ⟨Nat.lt_of_lt_of_le h.1 ht.2.2.2.1,fun i hi=>(World.cell?_of_block (a:=⟨g,i,none⟩) e).trans (h.2.1 i hi),fun j hj=>⟨by rw[World.cell?_of_block (a:=⟨g,j,none⟩) e];exact(h.2.2 j hj).1,(World.frozen?_of_block (a:=⟨g,j,none⟩) e).trans (h.2.2 j hj).2⟩⟩
theorem RowAt.kept{S:Nat->Prop}{w w':World}{r c:Nat}{vo:Option Addr}{L:List Int}(h:RowAt w r vo c L)(ht:Turn S w w')(hS:∀k,Foot r vo k->¬S k):RowAt w' r vo c L:=by
 have hr:=h.lt;obtain⟨h0,h2,h3,h4,h5,h6⟩:=h;have e:w'.heap[r]? =w.heap[r]? :=ht.2.2.2.2 r hr (hS r (.inl rfl));refine⟨(World.cell?_of_block e).trans h0,fun j=>(World.frozen?_of_block (a:=⟨r,j,none⟩) e).trans (h2 j),h3,h4,fun hc=>?_,h6⟩;obtain⟨g,e1,e2,e3⟩:=h5 hc;exact⟨g,e1,e2,e3.kept ht (hS g (.inr ⟨0,none,e1⟩))⟩
theorem RowAt.below{w w':World}{r c:Nat}{vo:Option Addr}{L:List Int}(h:RowAt w r vo c L)(hb:Below w.heap.size w w'):RowAt w' r vo c L:=h.kept (S:=fun _=>False) (Turn.of_below hb) fun _ _ h=>h
theorem gw_set{L:List Int}{i:Nat}(hi:i<L.length)(p:Int)(j:Nat):gw (L.set i p) j=if j=i then p else gw L j:=by
 unfold gw;rw[List.getD_eq_getElem?_getD,List.getElem?_set,List.getD_eq_getElem?_getD];by_cases e:i=j
 ·subst e;simp[hi]
 ·rw[if_neg e,if_neg (fun h=>e h.symm)]
theorem swapL_length(L:List Int)(i k:Nat):(swapL L i k).length=L.length:=by simp[swapL]
theorem gw_swap{L:List Int}{i k:Nat}(hi:i<L.length)(hk:k<L.length)(j:Nat):gw (swapL L i k) j=if j=k then gw L i else if j=i then gw L k else gw L j:=by
 unfold swapL;rw[gw_set (by simpa using hk),gw_set hi]
theorem gw_mem{L:List Int}{i:Nat}(hi:i<L.length):gw L i∈L:=by
 unfold gw;rw[List.getD_eq_getElem?_getD,List.getElem?_eq_getElem hi,Option.getD_some];exact List.getElem_mem hi
theorem mem_gw{L:List Int}{p:Int}(h:p∈L):∃i,i<L.length/\gw L i=p:=by
 obtain⟨i,hi,rfl⟩:=List.getElem_of_mem h;exact⟨i,hi,by unfold gw;rw[List.getD_eq_getElem?_getD,List.getElem?_eq_getElem hi,Option.getD_some]⟩
theorem swap_mem{L:List Int}{i k:Nat}(hi:i<L.length)(hk:k<L.length){v:Int}(h:v∈swapL L i k):v∈L:=by
 obtain⟨j,hj,rfl⟩:=mem_gw h;rw[swapL_length]at hj;rw[gw_swap hi hk]
 split
 ·exact gw_mem hi
 ·split
  ·exact gw_mem hk
  ·exact gw_mem hj
theorem RowAt.head{w:World}{r c n:Nat}{vo:Option Addr}{L:List Int}(h:RowAt w r vo c L)(hn:L.length=n):w.cell? ⟨r,0,none⟩=some (.slice vo n c):=by rw[<- hn];exact h.1
theorem rless_any{w:World}{r c n:Nat}{vo:Option Addr}{L:List Int}(h:RowAt w r vo c L)(hn:L.length=n){i k:Nat}(hi:i<n)(hk:k<n):
  Calls Tryz.prog 206 #[.slice vo n c,.int .i64 i,.int .i64 k] w fun e w'=>e=.returned (.bool (lessW (gw L i) (gw L k)))/\Below w.heap.size w w':=by
 subst hn;obtain⟨g,rfl,hg,hgr,hc,hf⟩:=h.cells (by omega);exact pless_any hi hk (hc i hi) (hc k hk)
theorem rswap_any{w:World}{r c n:Nat}{vo:Option Addr}{L:List Int}(h:RowAt w r vo c L)(hn:L.length=n){i k:Nat}(hi:i<n)(hk:k<n):
  Calls Tryz.prog 207 #[.slice vo n c,.int .i64 i,.int .i64 k] w fun e w'=>e=.returned (.tuple #[])/\RowAt w' r vo c (swapL L i k)/\Turn (Foot r vo) w w':=by
 subst hn;obtain⟨g,rfl,hg,hgr,hc,hf⟩:=h.cells (by omega);refine(pswap_any hi hk (hc i hi) (hc k hk) (hf i hi) (hf k hk)).mono ?_;rintro e w' ⟨rfl,rfl⟩;obtain⟨h0,h2,h3,h4,h5,h6,h7⟩:=h;have hT:Turn (Foot r (some ⟨g,0,none⟩)) w ((w.setCell ⟨g,i,none⟩ (.int .u64 (gw L k))).setCell ⟨g,k,none⟩ (.int .u64 (gw L i))).drew:=(((Turn.refl _ w).setCell (.inr ⟨0,none,rfl⟩) _).setCell (.inr ⟨0,none,rfl⟩) _).drew;have er:∀p:Addr,p.block≠g->(((w.setCell ⟨g,i,none⟩ (.int .u64 (gw L k))).setCell ⟨g,k,none⟩ (.int .u64 (gw L i))).drew).heap[p.block]? =w.heap[p.block]? :=fun p hp=>
  (Below.heap_setCell _ _ _ _ hp).trans (Below.heap_setCell _ _ _ _ hp)
 refine⟨rfl,⟨?_,fun j=>(World.frozen?_of_block (a:=⟨r,j,none⟩) (er ⟨r,j,none⟩ (fun e=>hgr e.symm))).trans (h2 j),by rw[swapL_length];exact h3,h4,fun hc0=>⟨g,rfl,hgr,Nat.lt_of_lt_of_le hg hT.2.2.2.1,fun j hj=>?_,fun j hj=>?_⟩,fun v hv=>h6 v (swap_mem hi hk hv),by rw[swapL_length];exact h7⟩,hT⟩
 ·rw[swapL_length];exact(World.cell?_of_block (a:=⟨r,0,none⟩) (er ⟨r,0,none⟩ (fun e=>hgr e.symm))).trans h0
 ·rw[swapL_length]at hj
  show((w.setCell ⟨g,i,none⟩ (.int .u64 (gw L k))).setCell ⟨g,k,none⟩ (.int .u64 (gw L i))).cell? ⟨g,j,none⟩=_;rw[cell_put (cell_put (hc j hj)),gw_swap hi hk]
  split
  ·rfl
  ·split <;> rfl
 ·obtain⟨g',e1,-,h8⟩:=h5 hc0
  cases e1;obtain⟨s1,s2⟩:=h8.2.2 j hj;obtain⟨x,hx⟩:=Option.isSome_iff_exists.1 s1;refine⟨?_,?_⟩
  ·show(((w.setCell ⟨g,i,none⟩ (.int .u64 (gw L k))).setCell ⟨g,k,none⟩ (.int .u64 (gw L i))).cell? ⟨g,j,none⟩).isSome=true
   rw[cell_put (cell_put hx)];rfl
  ·show((w.setCell ⟨g,i,none⟩ (.int .u64 (gw L k))).setCell ⟨g,k,none⟩ (.int .u64 (gw L i))).frozen? ⟨g,j,none⟩=false
   rw[World.frozen?_setCell,World.frozen?_setCell];exact s2
theorem rowU_own{w:World}{B g n cap:Nat}{L:List Int}(hn:L.length=n)(h:w.ownsRow B 35 1 (.slice (some ⟨g,0,none⟩) n cap) n (uV L)):RowU w g cap L/\n<=cap:=by
 obtain⟨cur,hh,hb,h1,h2,h3,h4⟩:=own_block h;refine⟨⟨(Array.getElem?_eq_some_iff.1 hh).1,fun i hi=>?_,fun j hj=>⟨?_,by simp[World.frozen?,hh]⟩⟩,h1⟩
 ·rw[h.cellAt i (by omega)];exact uV_get L i hi
 ·rw[cell_of_row w g j cur _ _ hh]
  simp[show j<cur.size by omega]
def Grows(w:World)(r:Nat)(vo vo':Option Addr):Prop:=∀g o s,vo'=some ⟨g,o,s⟩->g<w.heap.size->Foot r vo g
def Pushed1(w:World)(r:Nat)(vo:Option Addr)(L:List Int)(x:Int)(w':World):Prop:=(∃ vo' c',RowAt w' r vo' c' (L++[x])/\Grows w r vo vo')/\Turn (Foot r vo) w w'
theorem push_end{w w3:World}{r c g cap:Nat}{vo:Option Addr}{L:List Int}{x:Int}{z:Value}(h:RowAt w r vo c L)(hx:0<=x/\x<18446744073709551616)(hlen:L.length<1000000)(hT:Turn (Foot r vo) w w3)(hc:w3.cell? ⟨r,0,none⟩=some z)
  (hf:∀j,w3.frozen? ⟨r,j,none⟩=false) (hU:RowU w3 g cap (L++[x])) (hgr:g≠r) (hcap:L.length+1<=cap) (hG:g<w.heap.size->Foot r vo g):Pushed1 w r vo L x (w3.setCell ⟨r,0,none⟩ (.slice (some ⟨g,0,none⟩) (L.length+1) cap)):=by
 have hl:(L++[x]).length=L.length+1:=by simp
 refine⟨⟨some ⟨g,0,none⟩,cap,⟨?_,fun j=>by rw[World.frozen?_setCell];exact hf j,by omega,fun e=>(by cases e),fun _=>⟨g,rfl,hgr,hU.kept (S:=fun k=>k=r) (Turn.setCell (S:=fun k=>k=r) (a:=⟨r,0,none⟩) (Turn.refl _ _) rfl _) hgr⟩,fun v hv=>?_,by omega⟩,fun g' o s e hlt=>?_⟩,hT.setCell (.inl rfl) _⟩
 ·rw[hl];exact World.cell?_setCell_same _ _ _ hc
 ·rcases List.mem_append.1 hv with h1|h1
  ·exact h.2.2.2.2.2.1 v h1
  ·rw[List.mem_singleton.1 h1];exact hx
 ·cases e;exact hG hlt
theorem setCells_one(w:World)(g o:Nat)(v:Value):w.setCells g o [v]=w.setCell ⟨g,o,none⟩ v:=rfl
theorem rpush_any{w:World}{r c:Nat}{vo:Option Addr}{L:List Int}(h:RowAt w r vo c L)(x:Int)(hx:0<=x/\x<18446744073709551616)(hlen:L.length<1000000):
  Calls Tryz.prog 209 #[.pointer (some ⟨r,0,none⟩),.iface 35 (.int .u64 x)] w fun e w'=>e=.returned (.tuple #[])/\Pushed1 w r vo L x w':=by
 obtain⟨i0,hi,hz0,hz1,hz2⟩:=info_parts info_u;have hta:∀(x:Int) (w:World),(Instr.typeAssert (.iface 35 (.int .u64 x)) 20 35 true).run Tryz.prog w=.ok (.tuple #[.int .u64 x,.bool true]) w:=fun _ _=>by kernel_rfl
 have hr:=h.lt;have c0:=h.1;have f0:=h.2.1 0;have HR:=Hd h;have hal:Below w.heap.size w (w.alloc (.cells #[.int .u64 x] 35)):=br.alloc lr _;have hT0:Turn (Foot r vo) w (w.alloc (.cells #[.int .u64 x] 35)):=Turn.of_below hal;have hsz:(w.alloc (.cells #[.int .u64 x] 35)).heap.size=w.heap.size+1:=World.size_alloc _ _;have era:(w.alloc (.cells #[.int .u64 x] 35)).heap[r]? =w.heap[r]? :=hal.block r hr;have HG:Hid (∀ v' w3,w3.ownsRow (w.alloc (.cells #[.int .u64 x] 35)).heap.size 35 1 v' (L.length+1) (uV L++[.int .u64 x])->(w.alloc (.cells #[.int .u64 x] 35)).grownBy w3 none->
   w3.cell? ⟨r,0,none⟩=some (.slice vo L.length c)/\w3.frozen? ⟨r,0,none⟩=false/\r<w3.heap.size/\Pushed1 w r vo L x (w3.setCell ⟨r,0,none⟩ v')):=fun v' w3 hown hgrow=>by
  obtain⟨ao,cap,rfl,h1,h2⟩:=own_form hown;obtain⟨g,rfl,h3,-,-⟩:=h2 (by omega);rw[<- uV_snoc]at hown;obtain⟨hU,hcap⟩:=rowU_own (by simp) hown;have er3:w3.heap[r]? =w.heap[r]? :=by rw[hgrow.block r (by omega) (by simp)];exact era
  have c3:w3.cell? ⟨r,0,none⟩=some (.slice vo L.length c):=(World.cell?_of_block (a:=⟨r,0,none⟩) er3).trans HR.out.1;have f3:∀j,w3.frozen? ⟨r,j,none⟩=false:=fun j=>(World.frozen?_of_block (a:=⟨r,j,none⟩) er3).trans (HR.out.2.1 j)
  exact⟨c3,f3 0,World.block_lt_of_cell? _ _ c3,push_end HR.out hx hlen (hT0.trans (T:=fun _=>False) (Turn.of_below (below_grown0 hgrow)) fun _ _ h=>h.elim) c3 f3 hU (by omega) hcap fun hlt=>by omega⟩
 by_cases hc0:c=0
 ·subst hc0
  obtain rfl:L=[]:=List.eq_nil_of_length_eq_zero (by have:=h.2.2.1;omega);simp only[List.length_nil]at *;clear h hal hT0 hsz era
  go_enter Tryz.func209,Tryz.ntmps209
  go_wp2_with(at_builtin;refine wpList_append_grows _ rfl (.tmp 15) (.tmp 17) 123 rfl 35 i0 (.int .u64 0) 1 8 Tryz.underlying123 hi hz0 hz1 hz2 rfl (by decide) vo 0 0 [] rfl (fun _=>⟨rfl,rfl⟩) rfl (fun _ _ j u h=>by simp at h) ⟨w.heap.size,0,none⟩ 1 1 [.int .u64 x] rfl rfl (cells_new _ _ _ _ rfl) (by simp[Value.oneCell']) (by decide) (by unfold maxLen;omega) (by omega) ?_;intro v' w3 hown hgrow;obtain⟨c3,f3,r3,hP⟩:=HG.out v' w3 hown hgrow;have HP:=Hd hP;obtain⟨vo3,vc3,rfl,-⟩:=own_form hown;clear hP hown hgrow)
  go_end0
  exact⟨rfl,HP.out⟩
 ·obtain⟨g,rfl,hgr,hU⟩:=h.2.2.2.2.1 (by omega)
  obtain⟨n,hn⟩:∃n,L.length=n:=⟨_,rfl⟩;have hnc:n<=c:=by have:=h.2.2.1;omega
  have HU:=Hd hU;have hgs:=hU.1;have ega:(w.alloc (.cells #[.int .u64 x] 35)).heap[g]? =w.heap[g]? :=hal.block g hU.1;have HO:Hid (∀ j u,(uV L)[j]? =some u->(w.alloc (.cells #[.int .u64 x] 35)).cell? ⟨g,0+j,none⟩=some u):=fun j u hj=>by
   have hjl:j<L.length:=by have:=(List.getElem?_eq_some_iff.1 hj).1;rwa[uV_len]at this
   rw[Nat.zero_add,World.cell?_of_block (a:=⟨g,j,none⟩) ega,HU.out.2.1 j hjl, <-hj,uV_get L j hjl];rfl
  have HS:Hid (n+1<=c->∀j,j<[Value.int .u64 x].length->((w.alloc (.cells #[.int .u64 x] 35)).cell? ⟨g,0+n*1+j,none⟩).isSome=true/\(w.alloc (.cells #[.int .u64 x] 35)).frozen? ⟨g,0+n*1+j,none⟩=false):=fun hroom j hj=>by
   have hj0:j=0:=by simpa using hj
   subst hj0;rw[World.cell?_of_block (a:=⟨g,_,none⟩) ega,World.frozen?_of_block (a:=⟨g,_,none⟩) ega];exact HU.out.2.2 _ (by omega)
  have HM:Hid (n+1<=c->∀w3,w3=(w.alloc (.cells #[.int .u64 x] 35)).setCells g (0+n*1) [.int .u64 x]->
    w3.cell? ⟨r,0,none⟩=some (.slice (some ⟨g,0,none⟩) n c)/\w3.frozen? ⟨r,0,none⟩=false/\r<w3.heap.size/\Pushed1 w r (some ⟨g,0,none⟩) L x (w3.setCell ⟨r,0,none⟩ (.slice (some ⟨g,0,none⟩) (n+1) c))):=fun hroom w3 hw3=>by
   rw[setCells_one,Nat.zero_add,Nat.mul_one]at hw3;subst hw3;have er3:((w.alloc (.cells #[.int .u64 x] 35)).setCell ⟨g,n,none⟩ (.int .u64 x)).heap[r]? =w.heap[r]? :=(Below.heap_setCell _ _ _ _ (fun e=>hgr e.symm)).trans era;have c3:=(World.cell?_of_block (a:=⟨r,0,none⟩) er3).trans HR.out.1;have f3:∀j,((w.alloc (.cells #[.int .u64 x] 35)).setCell ⟨g,n,none⟩ (.int .u64 x)).frozen? ⟨r,j,none⟩=false:=fun j=>(World.frozen?_of_block (a:=⟨r,j,none⟩) er3).trans (HR.out.2.1 j)
   have hT3:Turn (Foot r (some ⟨g,0,none⟩)) w ((w.alloc (.cells #[.int .u64 x] 35)).setCell ⟨g,n,none⟩ (.int .u64 x)):=hT0.setCell (.inr ⟨0,none,rfl⟩) _;have hU3:RowU ((w.alloc (.cells #[.int .u64 x] 35)).setCell ⟨g,n,none⟩ (.int .u64 x)) g c (L++[x]):=by
    refine⟨Nat.lt_of_lt_of_le hgs hT3.2.2.2.1,fun i hi=>?_,fun j hj=>?_⟩
    ·rw[List.length_append]at hi
     simp only[List.length_cons,List.length_nil]at hi;by_cases e:i=n
     ·subst e
      obtain⟨y,hy⟩:=Option.isSome_iff_exists.1 (HU.out.2.2 i (by omega)).1;rw[cell_put ((World.cell?_of_block (a:=⟨g,i,none⟩) ega).trans hy),if_pos rfl];unfold gw;rw[List.getD_eq_getElem?_getD,List.getElem?_append_right (by omega),hn,Nat.sub_self];rfl
     ·rw[cell_put ((World.cell?_of_block (a:=⟨g,i,none⟩) ega).trans (HU.out.2.1 i (by omega))),if_neg e]
      unfold gw;rw[List.getD_eq_getElem?_getD,List.getD_eq_getElem?_getD,List.getElem?_append_left (by omega)]
    ·obtain⟨s1,s2⟩:=HU.out.2.2 j hj
     obtain⟨y,hy⟩:=Option.isSome_iff_exists.1 s1;rw[cell_put ((World.cell?_of_block (a:=⟨g,j,none⟩) ega).trans hy),World.frozen?_setCell,World.frozen?_of_block (a:=⟨g,j,none⟩) ega];exact⟨rfl,s2⟩
   rw[hn]at c3;refine⟨c3,f3 0,World.block_lt_of_cell? _ _ c3,?_⟩;have:=push_end HR.out hx hlen hT3 c3 f3 hU3 hgr (by omega) fun _=>.inr ⟨0,none,rfl⟩
   rw[hn]at this;exact this
  have HN:=Hd hn;rw[hn]at HG c0 hlen;have hul:(uV L).length=n*1:=by rw[uV_len,hn,Nat.mul_one]
  have HUL:=Hd hul;clear h hal hT0 hsz era ega hU hn hul;by_cases hroom:n+1<=c
  ·have hnr:¬c<n+1:=by omega
   go_enter Tryz.func209,Tryz.ntmps209
   go_wp2_with(at_builtin;refine wpList_append_arg _ rfl (.tmp 15) (.tmp 17) 123 rfl 35 i0 (.int .u64 0) 1 8 Tryz.underlying123 hi hz0 hz1 hz2 rfl (by decide) g 0 n c (uV L) rfl HUL.out HO.out ⟨w.heap.size,0,none⟩ 1 1 [.int .u64 x] rfl rfl (cells_new _ _ _ _ rfl) (by simp[Value.oneCell']) HS.out (by unfold maxLen;omega) (by omega) ?_ (fun hgg=>absurd hgg hnr);intro hrr;obtain⟨w3,hw3⟩:∃w3,w3=(w.alloc (.cells #[.int .u64 x] 35)).setCells g (0+n*1) [.int .u64 x]:=⟨_,rfl⟩;obtain⟨c3,f3,r3,hP⟩:=HM.out hroom w3 hw3;have HP:=Hd hP;rw[<- hw3];clear hP hw3)
   go_end0
   exact⟨rfl,HP.out⟩
  ·go_enter Tryz.func209,Tryz.ntmps209
   go_wp2_with(at_builtin;refine wpList_append_arg _ rfl (.tmp 15) (.tmp 17) 123 rfl 35 i0 (.int .u64 0) 1 8 Tryz.underlying123 hi hz0 hz1 hz2 rfl (by decide) g 0 n c (uV L) rfl HUL.out HO.out ⟨w.heap.size,0,none⟩ 1 1 [.int .u64 x] rfl rfl (cells_new _ _ _ _ rfl) (by simp[Value.oneCell']) HS.out (by unfold maxLen;omega) (by omega) (fun hgg=>absurd hgg hroom) ?_;intro hrr v' w3 hown hgrow;obtain⟨c3,f3,r3,hP⟩:=HG.out v' w3 hown hgrow;have HP:=Hd hP;obtain⟨vo3,vc3,rfl,-⟩:=own_form hown;clear hP hown hgrow)
   go_end0
   exact⟨rfl,HP.out⟩
theorem rpop_any{w:World}{r c:Nat}{vo:Option Addr}{L:List Int}{x:Int}(h:RowAt w r vo c (L++[x])):
  Calls Tryz.prog 208 #[.pointer (some ⟨r,0,none⟩)] w fun e w'=>e=.returned (.iface 35 (.int .u64 x))/\RowAt w' r vo c L/\Turn (Foot r vo) w w':=by
 have hl:(L++[x]).length=L.length+1:=by simp
 have hr:=h.lt;have c0:=h.1;have f0:=h.2.1 0;have hcap:=h.2.2.1;have hlen:=h.2.2.2.2.2.2;rw[hl]at c0 hcap hlen;obtain⟨g,rfl,hgr,hU⟩:=h.2.2.2.2.1 (by omega);have cx:=hU.2.1 L.length (by omega);have hgx:gw (L++[x]) L.length=x:=by
  unfold gw;rw[List.getD_eq_getElem?_getD,List.getElem?_append_right lr];simp
 rw[hgx]at cx;have hgs:=hU.1;have HF:Hid (RowAt (w.setCell ⟨r,0,none⟩ (.slice (some ⟨g,0,none⟩) L.length c)) r (some ⟨g,0,none⟩) c L/\Turn (Foot r (some ⟨g,0,none⟩)) w (w.setCell ⟨r,0,none⟩ (.slice (some ⟨g,0,none⟩) L.length c))):=by
  refine⟨⟨World.cell?_setCell_same _ _ _ c0,fun j=>by rw[World.frozen?_setCell];exact h.2.1 j,by omega,fun e=>(by cases e),fun _=>⟨g,rfl,hgr,?_⟩,fun v hv=>h.2.2.2.2.2.1 v (List.mem_append_left _ hv),by omega⟩,(Turn.refl _ _).setCell (.inl rfl) _⟩;have hk:=hU.kept (S:=fun k=>k=r) (Turn.setCell (S:=fun k=>k=r) (a:=⟨r,0,none⟩) (Turn.refl _ _) rfl (.slice (some ⟨g,0,none⟩) L.length c)) hgr;refine⟨hk.1,fun i hi=>?_,hk.2.2⟩;rw[hk.2.1 i (by omega)];unfold gw;rw[List.getD_eq_getElem?_getD,List.getElem?_append_left hi,List.getD_eq_getElem?_getD]
 have hw1:IntKind.i64.wrap ((L.length:Int)+1-1)=(L.length:Int):=by rw[Int.add_sub_cancel];exact IntWalk.i64_in _ (by omega)
 obtain⟨n,hn⟩:∃n,L.length=n:=⟨_,rfl⟩;rw[hn]at c0 hcap hlen cx HF hw1;clear h hU hl hgx hn
 go_enter Tryz.func208,Tryz.ntmps208
 go_wp2;go_ret;exact⟨rfl,HF.out⟩
def ifc(r:Nat):Value:=.iface 126 (.pointer (some ⟨r,0,none⟩))
def upF(L:List Int)(j:Nat):List Int:=
 if j=0 then L else if lessW (gw L j) (gw L ((j-1)/2))then upF (swapL L ((j-1)/2) j) ((j-1)/2)else L
termination_by j
decreasing_by omega
theorem upF_zero(L:List Int):upF L 0=L:=by rw[upF,if_pos rfl]
theorem upF_step{L:List Int}{j i:Nat}(hj:0<j)(hi:(j-1)/2=i)(h:lessW (gw L j) (gw L i)=true):upF L j=upF (swapL L i j) i:=by
 rw[upF,if_neg (by omega),hi,h,if_pos rfl]
theorem upF_stop{L:List Int}{j i:Nat}(hi:(j-1)/2=i)(h:lessW (gw L j) (gw L i)=false):upF L j=L:=by
 rw[upF]
 split
 ·rfl
 ·rw[hi,h];rfl
theorem up_any{w:World}{r c:Nat}{vo:Option Addr}{L:List Int}(h:RowAt w r vo c L){j0:Nat}(hj0:j0<L.length):
  Calls Tryz.prog 129 #[ifc r,.int .i64 j0] w fun e w'=>e=.returned (.tuple #[])/\RowAt w' r vo c (upF L j0)/\Turn (Foot r vo) w w':=by
 have hlen:=h.2.2.2.2.2.2;have HR:=Hd h;obtain⟨n,hn⟩:∃n,L.length=n:=⟨_,rfl⟩;have HN:=Hd hn;rw[hn]at hj0 hlen;clear h hn;unfold ifc
 go_enter Tryz.func129,Tryz.ntmps129
 go_wp2
 go_loopw [1] (fun jv wr=>∃(j:Nat) (M:List Int),j<n/\jv=.int .i64 j/\Hid (M.length=n/\upF M j=upF L j0/\RowAt wr r vo c M/\Turn (Foot r vo) w wr)) (fun jv _=>(intOf jv).toNat)
 case atStart=>exact⟨j0,L,hj0,rfl,HN.out,rfl,HR.out,Turn.refl _ _⟩
 case round=>
  obtain⟨j,M,hj,rfl,HM⟩:=hrel;by_cases hz:j=0
  ·subst hz
   have HT:Hid (RowAt wr r vo c (upF L j0)/\Turn (Foot r vo) w wr):=⟨by rw[<- HM.out.2.1,upF_zero];exact HM.out.2.2.1,HM.out.2.2.2⟩;clear HM
   go_wp2_with fail
   go_end0
   exact⟨rfl,HT.out⟩
  ·obtain⟨i,hi⟩:∃i,(j-1)/2=i:=⟨_,rfl⟩
   have hij:i<j:=by omega
   have hiI:((j:Int)-1).tdiv 2=(i:Int):=by rw[Int.tdiv_eq_ediv_of_nonneg (by omega)];omega
   have HL:=Hd (rless_any HM.out.2.2.1 HM.out.1 (i:=j) (k:=i) (by omega) (by omega));have mth1:=meth_less (HM.out.2.2.1.head HM.out.1);obtain⟨o,ho⟩:∃o,lessW (gw M j) (gw M i)=o:=⟨_,rfl⟩;rw[ho]at HL;have HO:=Hd ho;have HI:=Hd hi;have qij:((i:Int)==(j:Int))=false:=by simp;omega
   clear ho hi
   go_wp2_with fail
   refine HL.out.mono ?_;rintro e w1 ⟨rfl,hb⟩;have HR1:Hid (RowAt w1 r vo c M/\Turn (Foot r vo) w w1):=⟨HM.out.2.2.1.below hb,HM.out.2.2.2.trans (T:=fun _=>False) (Turn.of_below hb) fun _ _ h=>h.elim⟩;clear hb;cases o with
   |false=>
    have HT:Hid (RowAt w1 r vo c (upF L j0)/\Turn (Foot r vo) w w1):=⟨by rw[<- HM.out.2.1,upF_stop HI.out HO.out];exact HR1.out.1,HR1.out.2⟩;clear HM HR1
    go_wp2_with fail
    go_end0
    exact⟨rfl,HT.out⟩
   |true=>
    have HS:=Hd (rswap_any HR1.out.1 HM.out.1 (i:=i) (k:=j) (by omega) (by omega));have mth2:=meth_swap (HR1.out.1.head HM.out.1)
    go_wp2_with fail
    refine HS.out.mono ?_;rintro e w2 ⟨rfl,hr2,ht2⟩;have HN2:Hid ((swapL M i j).length=n/\upF (swapL M i j) i=upF L j0/\RowAt w2 r vo c (swapL M i j)/\Turn (Foot r vo) w w2):=
     ⟨by rw[swapL_length];exact HM.out.1,by rw[<- HM.out.2.1,upF_step (by omega) HI.out HO.out],hr2,HR1.out.2.trans ht2 fun _ _ h=>h⟩
    clear hr2 ht2 HS HM HR1;go_wp2
    go_roundw
    case rel=>exact⟨i,swapL M i j,by omega,rfl,HN2.out⟩
    case measure=>simp[intOf];omega
def childF(L:List Int)(i n:Nat):Nat:=if 2*i+2<n/\lessW (gw L (2*i+2)) (gw L (2*i+1))=true then 2*i+2 else 2*i+1
theorem childF_gt(L:List Int)(i n:Nat):i<childF L i n:=by unfold childF;split <;> omega
theorem childF_lt{L:List Int}{i n:Nat}(h:2*i+1<n):childF L i n<n:=by
 unfold childF
 split
 ·rename_i h2;exact h2.1
 ·exact h
def downF(L:List Int)(i n:Nat):List Int×Nat:=
 if n<=2*i+1 then(L,i)else if lessW (gw L (childF L i n)) (gw L i)then downF (swapL L i (childF L i n)) (childF L i n) n else(L,i)
termination_by n-i
decreasing_by have:=childF_gt L i n;omega
theorem downF_end{L:List Int}{i n:Nat}(h:n<=2*i+1):downF L i n=(L,i):=by rw[downF,if_pos h]
theorem downF_step{L:List Int}{i n j:Nat}(h:¬n<=2*i+1)(hj:childF L i n=j)(hl:lessW (gw L j) (gw L i)=true):downF L i n=downF (swapL L i j) j n:=by
 rw[downF,if_neg h,hj,hl,if_pos rfl]
theorem downF_stop{L:List Int}{i n j:Nat}(hj:childF L i n=j)(hl:lessW (gw L j) (gw L i)=false):downF L i n=(L,i):=by
 rw[downF]
 split
 ·rfl
 ·rw[hj,hl];rfl
theorem down_any{w:World}{r c:Nat}{vo:Option Addr}{L:List Int}(h:RowAt w r vo c L){i0 n:Nat}(hi0:i0<L.length)(hn:n<=L.length):
  Calls Tryz.prog 103 #[ifc r,.int .i64 i0,.int .i64 n] w fun e w'=>e=.returned (.bool (decide (i0<(downF L i0 n).2)))/\RowAt w' r vo c (downF L i0 n).1/\Turn (Foot r vo) w w':=by
 have hlen:=h.2.2.2.2.2.2;have HR:=Hd h;obtain⟨N,hN⟩:∃n,L.length=n:=⟨_,rfl⟩;have HN:=Hd hN;rw[hN]at hi0 hlen hn;obtain⟨D,hD⟩:∃D,downF L i0 n=D:=⟨_,rfl⟩;rw[hD];have HD:=Hd hD;clear h hN hD;unfold ifc
 go_enter Tryz.func103,Tryz.ntmps103
 go_wp2
 go_loopw [7] (fun iv wr=>∃(i:Nat) (M:List Int),i<N/\iv=.int .i64 i/\Hid (M.length=N/\downF M i n=D/\RowAt wr r vo c M/\Turn (Foot r vo) w wr)) (fun iv _=>N-(intOf iv).toNat)
 case atStart=>exact⟨i0,L,hi0,rfl,HN.out,HD.out,HR.out,Turn.refl _ _⟩
 case round=>
  obtain⟨i,M,hi,rfl,HM⟩:=hrel;obtain⟨j1,hj1,hj1n⟩:∃j1:Nat,2*(i:Int)+1=(j1:Int)/\2*i+1=j1:=⟨2*i+1,by omega,rfl⟩;by_cases hz:n<=j1
  ·have HT:Hid (D.2=i/\RowAt wr r vo c D.1/\Turn (Foot r vo) w wr):=by
    have e:D=(M,i):=by rw[<- HM.out.2.1,downF_end (by omega)]
    exact⟨by rw[e],by rw[e];exact HM.out.2.2.1,HM.out.2.2.2⟩
   have q1:decide (n<=j1)=true:=by simpa using hz
   clear HM
   go_wp2_with fail
   go_ret;exact⟨by rw[HT.out.1];rfl,HT.out.2⟩
  ·have q1:decide (n<=j1)=false:=by simpa using hz
   have q2:decide ((j1:Int)<0)=false:=by simp
   obtain⟨j2,hj2,hj2n⟩:∃j2:Nat,(j1:Int)+1=(j2:Int)/\j1+1=j2:=⟨j1+1,by omega,rfl⟩;have HJ1:=Hd hj1n;have HJ2:=Hd hj2n;have hij1:i<j1:=by omega
   have hj12:j1<j2:=by omega
   have hj1N:j1<N:=by omega
   have key:(decide (j2<n)=false/\Hid (childF M i n=j1))∨(j2<n/\decide (j2<n)=true/\∃o:Bool,Hid (childF M i n=if o then j2 else j1)/\Hid (∀ wx,RowAt wx r vo c M->Calls Tryz.prog 206 #[.slice vo N c,.int .i64 j2,.int .i64 j1] wx fun e w'=>e=.returned (.bool o)/\Below wx.heap.size wx w')):=by
    by_cases e:j2<n
    ·refine .inr ⟨e,by simpa using e,lessW (gw M j2) (gw M j1),?_,fun wx hx=>rless_any hx HM.out.1 (by omega) (by omega)⟩
     show _=_;unfold childF;rw[show 2*i+2=j2 by omega,hj1n];by_cases e2:lessW (gw M j2) (gw M j1)=true
     ·rw[if_pos ⟨e,e2⟩,if_pos e2]
     ·rw[if_neg (fun h=>e2 h.2),if_neg e2]
    ·refine .inl ⟨by simpa using e,?_⟩
     show _=_;unfold childF;rw[if_neg (by omega),hj1n]
   clear hj1n hj2n;rcases key with⟨q3,HC⟩|⟨hj2N,q3,o,HC,HLL⟩
   ·
    have HL:=Hd (rless_any HM.out.2.2.1 HM.out.1 (i:=j1) (k:=i) (by omega) (by omega));have mth3:=meth_less (HM.out.2.2.1.head HM.out.1);obtain⟨p,hp⟩:∃o,lessW (gw M j1) (gw M i)=o:=⟨_,rfl⟩;rw[hp]at HL;have HP:=Hd hp;clear hp
    go_wp2_with fail
    refine HL.out.mono ?_;rintro e w1 ⟨rfl,hb⟩;have HR1:Hid (RowAt w1 r vo c M/\Turn (Foot r vo) w w1):=⟨HM.out.2.2.1.below hb,HM.out.2.2.2.trans (T:=fun _=>False) (Turn.of_below hb) fun _ _ h=>h.elim⟩;clear hb;cases p with
    |false=>
     have HT:Hid (D.2=i/\RowAt w1 r vo c D.1/\Turn (Foot r vo) w w1):=by
      have e:D=(M,i):=by rw[<- HM.out.2.1,downF_stop HC.out HP.out]
      exact⟨by rw[e],by rw[e];exact HR1.out.1,HR1.out.2⟩
     clear HM HR1
     go_wp2_with fail
     go_ret;exact⟨by rw[HT.out.1];rfl,HT.out.2⟩
    |true=>
     have HS:=Hd (rswap_any HR1.out.1 HM.out.1 (i:=i) (k:=j1) (by omega) (by omega));have mth4:=meth_swap (HR1.out.1.head HM.out.1)
     go_wp2_with fail
     refine HS.out.mono ?_;rintro e w2 ⟨rfl,hr2,ht2⟩;have HN2:Hid ((swapL M i j1).length=N/\downF (swapL M i j1) j1 n=D/\RowAt w2 r vo c (swapL M i j1)/\Turn (Foot r vo) w w2):=
      ⟨by rw[swapL_length];exact HM.out.1,by rw[<- HM.out.2.1,downF_step (by rw[HJ1.out];exact hz) HC.out HP.out],hr2,HR1.out.2.trans ht2 fun _ _ h=>h⟩
     clear hr2 ht2 HS HM HR1 hj1 hj2;go_wp2
     go_roundw
     case rel=>exact⟨j1,swapL M i j1,hj1N,rfl,HN2.out⟩
     case measure=>simp[intOf];omega
   ·cases o
    all_goals
     simp only[Bool.false_eq_true,if_true,if_false]at HC;have mth5:=meth_less (HM.out.2.2.1.head HM.out.1)
     go_wp2_with fail
     refine(HLL.out _ HM.out.2.2.1).mono ?_;rintro e w0 ⟨rfl,hb⟩;have HR0:Hid (RowAt w0 r vo c M/\Turn (Foot r vo) w w0):=⟨HM.out.2.2.1.below hb,HM.out.2.2.2.trans (T:=fun _=>False) (Turn.of_below hb) fun _ _ h=>h.elim⟩;clear hb HLL
    ·have HL:=Hd (rless_any HR0.out.1 HM.out.1 (i:=j1) (k:=i) (by omega) (by omega))
     have mth6:=meth_less (HR0.out.1.head HM.out.1);obtain⟨p,hp⟩:∃o,lessW (gw M j1) (gw M i)=o:=⟨_,rfl⟩;rw[hp]at HL;have HP:=Hd hp;clear hp
     go_wp2_with fail
     refine HL.out.mono ?_;rintro e w1 ⟨rfl,hb⟩;have HR1:Hid (RowAt w1 r vo c M/\Turn (Foot r vo) w w1):=⟨HR0.out.1.below hb,HR0.out.2.trans (T:=fun _=>False) (Turn.of_below hb) fun _ _ h=>h.elim⟩;clear hb;cases p with
     |false=>
      have HT:Hid (D.2=i/\RowAt w1 r vo c D.1/\Turn (Foot r vo) w w1):=by
       have e:D=(M,i):=by rw[<- HM.out.2.1,downF_stop HC.out HP.out]
       exact⟨by rw[e],by rw[e];exact HR1.out.1,HR1.out.2⟩
      clear HM HR1
      go_wp2_with fail
      go_ret;exact⟨by rw[HT.out.1];rfl,HT.out.2⟩
     |true=>
      have HS:=Hd (rswap_any HR1.out.1 HM.out.1 (i:=i) (k:=j1) (by omega) (by omega));have mth7:=meth_swap (HR1.out.1.head HM.out.1)
      go_wp2_with fail
      refine HS.out.mono ?_;rintro e w2 ⟨rfl,hr2,ht2⟩;have HN2:Hid ((swapL M i j1).length=N/\downF (swapL M i j1) j1 n=D/\RowAt w2 r vo c (swapL M i j1)/\Turn (Foot r vo) w w2):=
       ⟨by rw[swapL_length];exact HM.out.1,by rw[<- HM.out.2.1,downF_step (by rw[HJ1.out];exact hz) HC.out HP.out],hr2,HR1.out.2.trans ht2 fun _ _ h=>h⟩
      clear hr2 ht2 HS HM HR1 HR0 hj1 hj2;go_wp2
      go_roundw
      case rel=>exact⟨j1,swapL M i j1,hj1N,rfl,HN2.out⟩
      case measure=>simp[intOf];omega
    ·have HL:=Hd (rless_any HR0.out.1 HM.out.1 (i:=j2) (k:=i) (by omega) (by omega))
     have mth8:=meth_less (HR0.out.1.head HM.out.1);obtain⟨p,hp⟩:∃o,lessW (gw M j2) (gw M i)=o:=⟨_,rfl⟩;rw[hp]at HL;have HP:=Hd hp;clear hp
     go_wp2_with fail
     refine HL.out.mono ?_;rintro e w1 ⟨rfl,hb⟩;have HR1:Hid (RowAt w1 r vo c M/\Turn (Foot r vo) w w1):=⟨HR0.out.1.below hb,HR0.out.2.trans (T:=fun _=>False) (Turn.of_below hb) fun _ _ h=>h.elim⟩;clear hb;cases p with
     |false=>
      have HT:Hid (D.2=i/\RowAt w1 r vo c D.1/\Turn (Foot r vo) w w1):=by
       have e:D=(M,i):=by rw[<- HM.out.2.1,downF_stop HC.out HP.out]
       exact⟨by rw[e],by rw[e];exact HR1.out.1,HR1.out.2⟩
      clear HM HR1
      go_wp2_with fail
      go_ret;exact⟨by rw[HT.out.1];rfl,HT.out.2⟩
     |true=>
      have HS:=Hd (rswap_any HR1.out.1 HM.out.1 (i:=i) (k:=j2) (by omega) (by omega));have mth9:=meth_swap (HR1.out.1.head HM.out.1);have hj2N2:j2<N:=by omega
      go_wp2_with fail
      refine HS.out.mono ?_;rintro e w2 ⟨rfl,hr2,ht2⟩;have HN2:Hid ((swapL M i j2).length=N/\downF (swapL M i j2) j2 n=D/\RowAt w2 r vo c (swapL M i j2)/\Turn (Foot r vo) w w2):=
       ⟨by rw[swapL_length];exact HM.out.1,by rw[<- HM.out.2.1,downF_step (by rw[HJ1.out];exact hz) HC.out HP.out],hr2,HR1.out.2.trans ht2 fun _ _ h=>h⟩
      clear hr2 ht2 HS HM HR1 HR0 hj1 hj2;go_wp2
      go_roundw
      case rel=>exact⟨j2,swapL M i j2,hj2N2,rfl,HN2.out⟩
      case measure=>simp[intOf];omega
end
end Go.Proofs.YtpkoapmpknbgoaaGreat
