/- Joined: PoF, FiA, CvG, CvH, NfJ, LbA, FlE, NfE, NfL, NcM, NcQ, LwA, RcA, BmA, RpA, PoP, RpB, RpC, RpD, RpE, FtA, NcPn, CvI: contracts and plain laws, each with its own heading below. -/
import Derived.Test.YtpkoapmpknbgoaaGreatPackBI
import Derived.Lib.MinMax
import Derived.BigRegion
import Derived.Deep.CutRange
import Derived.Test.YtpkoapmpknbgoaaGreatPackBC
import Derived.Test.YtpkoapmpknbgoaaGreatPackBH
import Derived.Test.YtpkoapmpknbgoaaGreatPackBF
import Derived.Test.YtpkoapmpknbgoaaGreatPackBE
import Derived.Deep.RegionWith
set_option maxRecDepth 100000
set_option maxHeartbeats 16000000
namespace Go.Proofs.YtpkoapmpknbgoaaGreat.Po
section
open Go.RowKit
structure Bx where
 a:Int
 b:Int
 c:Int
 d:Int
def bstep(s:Bx)(x y:Int):Bx:=⟨min s.a x,min s.b y,max s.c x,max s.d y⟩
def bxR(l:List Pt)(s:Bx)(j:Nat):Bx:=(List.range j).foldl (fun s i=>bstep s (px l i) (py l i)) s
def bx0(ls:List (List Pt)):Bx:=⟨px (rg ls 0) 0,py (rg ls 0) 0,px (rg ls 0) 0,py (rg ls 0) 0⟩
def bxTo(ls:List (List Pt))(k:Nat):Bx:=(List.range k).foldl (fun s i=>bxR (rg ls i) s (rg ls i).length) (bx0 ls)
def boxF(ls:List (List Pt)):Bx:=if checkF ls=0 then bxTo ls ls.length else⟨0,0,0,0⟩
theorem bxR_succ(l:List Pt)(s:Bx)(j:Nat):bxR l s (j+1)=bstep (bxR l s j) (px l j) (py l j):=by unfold bxR;rw[List.range_succ];simp
theorem bxTo_succ(ls:List (List Pt))(k:Nat):bxTo ls (k+1)=bxR (rg ls k) (bxTo ls k) (rg ls k).length:=by unfold bxTo;rw[List.range_succ];simp
def boxV(s:Bx):Value:=.tuple #[.agg #[.int .i64 s.a,.int .i64 s.b],.agg #[.int .i64 s.c,.int .i64 s.d]]
theorem check_zero{ls:List (List Pt)}(h:checkF ls=0):0<ls.length/\∀k,k<ls.length->3<=(rg ls k).length:=by
 unfold checkF at h
 split at h
 ·omega
 ·split at h
  ·omega
  ·rename_i h2
   unfold shTo at h2;simp only[Bool.or_eq_true,decide_eq_true_eq,not_or]at h2;refine⟨by omega,fun k hk=>?_⟩;have h3:=h2.2;simp only[List.any_eq_true,decide_eq_true_eq,not_exists,not_and]at h3;have:=h3 (rg ls k) (by simp[rg,hk]);omega
structure BoxAt (w:World) (g:Nat) (s:Bx):Prop where
 c0:w.cell? ⟨g,0,none⟩=some (.int .i64 s.a)
 c1:w.cell? ⟨g,1,none⟩=some (.int .i64 s.b)
 d0:w.cell? ⟨g+1,0,none⟩=some (.int .i64 s.c)
 d1:w.cell? ⟨g+1,1,none⟩=some (.int .i64 s.d)
 f0:w.frozen? ⟨g,0,none⟩=false
 f1:w.frozen? ⟨g,1,none⟩=false
 f2:w.frozen? ⟨g+1,0,none⟩=false
 f3:w.frozen? ⟨g+1,1,none⟩=false
 sz:g+1<w.heap.size
theorem BoxAt.below{w w':World}{g:Nat}{s:Bx}(h:BoxAt w g s)(hb:Below w.heap.size w w'):BoxAt w' g s:=by
 have hs:=h.sz;have hz:=hb.size;exact⟨(hb.cell (p:=⟨g,0,none⟩) (by show g<_;omega)).trans h.c0,(hb.cell (p:=⟨g,1,none⟩) (by show g<_;omega)).trans h.c1,(hb.cell (p:=⟨g+1,0,none⟩) hs).trans h.d0,(hb.cell (p:=⟨g+1,1,none⟩) hs).trans h.d1,
  (hb.frozen (p:=⟨g,0,none⟩) (by show g<_;omega)).trans h.f0,(hb.frozen (p:=⟨g,1,none⟩) (by show g<_;omega)).trans h.f1,(hb.frozen (p:=⟨g+1,0,none⟩) hs).trans h.f2,(hb.frozen (p:=⟨g+1,1,none⟩) hs).trans h.f3,by omega⟩
theorem BoxAt.drew{w:World}{g:Nat}{s:Bx}(h:BoxAt w g s):BoxAt w.drew g s:=⟨h.c0,h.c1,h.d0,h.d1,h.f0,h.f1,h.f2,h.f3,h.sz⟩
theorem BoxAt.new(w:World)(t:TypeId)(a b c d:Int):BoxAt ((w.alloc (.cells #[.int .i64 a,.int .i64 b] t)).alloc (.cells #[.int .i64 c,.int .i64 d] t)) w.heap.size ⟨a,b,c,d⟩:=by
 have h1:((w.alloc (.cells #[.int .i64 a,.int .i64 b] t)).alloc (.cells #[.int .i64 c,.int .i64 d] t)).heap[w.heap.size]? =some (.cells #[.int .i64 a,.int .i64 b] t):=by
  rw[Below.heap_alloc _ _ _ (by simp)];exact heap_new _ _ _ rfl
 have h2:((w.alloc (.cells #[.int .i64 a,.int .i64 b] t)).alloc (.cells #[.int .i64 c,.int .i64 d] t)).heap[w.heap.size+1]? =some (.cells #[.int .i64 c,.int .i64 d] t):=heap_new _ _ _ (by simp);refine⟨?_,?_,?_,?_,?_,?_,?_,?_,by simp⟩
 ·rw[cell_of_row _ _ _ _ _ _ h1];rfl
 ·rw[cell_of_row _ _ _ _ _ _ h1];rfl
 ·rw[cell_of_row _ _ _ _ _ _ h2];rfl
 ·rw[cell_of_row _ _ _ _ _ _ h2];rfl
 ·exact frozen_of_row _ _ _ _ _ h1
 ·exact frozen_of_row _ _ _ _ _ h1
 ·exact frozen_of_row _ _ _ _ _ h2
 ·exact frozen_of_row _ _ _ _ _ h2
theorem BoxAt.put{w:World}{g:Nat}{s:Bx}(h:BoxAt w g s)(x y:Int)(s':Bx)(k:Nat)
  (hk:(k=0/\s'=⟨x,s.b,y,s.d⟩)∨(k=1/\s'=⟨s.a,x,s.c,y⟩)):BoxAt ((w.setCell ⟨g,k,none⟩ (.int .i64 x)).setCell ⟨g+1,k,none⟩ (.int .i64 y)) g s':=by
 have hs:=h.sz;have e1:∀(w:World) (i j:Nat) (v:Value),i≠j->(w.setCell ⟨g,i,none⟩ v).cell? ⟨g,j,none⟩=w.cell? ⟨g,j,none⟩:=fun w i j v hij=>World.cell?_setCell_other _ _ _ _ (fun h=>hij (congrArg Addr.off h))
 have e2:∀(w:World) (i j:Nat) (v:Value),i≠j->(w.setCell ⟨g+1,i,none⟩ v).cell? ⟨g+1,j,none⟩=w.cell? ⟨g+1,j,none⟩:=fun w i j v hij=>World.cell?_setCell_other _ _ _ _ (fun h=>hij (congrArg Addr.off h))
 have e3:∀(w:World) (i j:Nat) (v:Value),(w.setCell ⟨g,i,none⟩ v).cell? ⟨g+1,j,none⟩=w.cell? ⟨g+1,j,none⟩:=fun w i j v=>World.cell?_setCell_other _ _ _ _ (by simp)
 have e4:∀(w:World) (i j:Nat) (v:Value),(w.setCell ⟨g+1,i,none⟩ v).cell? ⟨g,j,none⟩=w.cell? ⟨g,j,none⟩:=fun w i j v=>World.cell?_setCell_other _ _ _ _ (by simp)
 rcases hk with⟨rfl,rfl⟩|⟨rfl,rfl⟩
 ·refine⟨?_,?_,?_,?_,?_,?_,?_,?_,?_⟩
  ·rw[e4];exact World.cell?_setCell_same _ _ _ h.c0
  ·rw[e4,e1 _ _ _ _ (by decide)];exact h.c1
  ·exact World.cell?_setCell_same _ _ _ ((e3 _ _ _ _).trans h.d0)
  ·rw[e2 _ _ _ _ (by decide),e3];exact h.d1
  ·rw[World.frozen?_setCell,World.frozen?_setCell];exact h.f0
  ·rw[World.frozen?_setCell,World.frozen?_setCell];exact h.f1
  ·rw[World.frozen?_setCell,World.frozen?_setCell];exact h.f2
  ·rw[World.frozen?_setCell,World.frozen?_setCell];exact h.f3
  ·simpa using hs
 ·refine⟨?_,?_,?_,?_,?_,?_,?_,?_,?_⟩
  ·rw[e4,e1 _ _ _ _ (by decide)];exact h.c0
  ·rw[e4];exact World.cell?_setCell_same _ _ _ h.c1
  ·rw[e2 _ _ _ _ (by decide),e3];exact h.d0
  ·exact World.cell?_setCell_same _ _ _ ((e3 _ _ _ _).trans h.d1)
  ·rw[World.frozen?_setCell,World.frozen?_setCell];exact h.f0
  ·rw[World.frozen?_setCell,World.frozen?_setCell];exact h.f1
  ·rw[World.frozen?_setCell,World.frozen?_setCell];exact h.f2
  ·rw[World.frozen?_setCell,World.frozen?_setCell];exact h.f3
  ·simpa using hs
theorem BoxAt.put4{w:World}{g:Nat}{s:Bx}(h:BoxAt w g s)(a b c d:Int):
  BoxAt ((((w.setCell ⟨g,0,none⟩ (.int .i64 a)).setCell ⟨g,1,none⟩ (.int .i64 b)).setCell ⟨g+1,0,none⟩ (.int .i64 c)).setCell ⟨g+1,1,none⟩ (.int .i64 d)) g ⟨a,b,c,d⟩:=by
 have hs:=h.sz;have e1:∀(w:World) (i j:Nat) (v:Value),i≠j->(w.setCell ⟨g,i,none⟩ v).cell? ⟨g,j,none⟩=w.cell? ⟨g,j,none⟩:=fun w i j v hij=>World.cell?_setCell_other _ _ _ _ (fun h=>hij (congrArg Addr.off h))
 have e2:∀(w:World) (i j:Nat) (v:Value),i≠j->(w.setCell ⟨g+1,i,none⟩ v).cell? ⟨g+1,j,none⟩=w.cell? ⟨g+1,j,none⟩:=fun w i j v hij=>World.cell?_setCell_other _ _ _ _ (fun h=>hij (congrArg Addr.off h))
 have e3:∀(w:World) (i j:Nat) (v:Value),(w.setCell ⟨g,i,none⟩ v).cell? ⟨g+1,j,none⟩=w.cell? ⟨g+1,j,none⟩:=fun w i j v=>World.cell?_setCell_other _ _ _ _ (by simp)
 have e4:∀(w:World) (i j:Nat) (v:Value),(w.setCell ⟨g+1,i,none⟩ v).cell? ⟨g,j,none⟩=w.cell? ⟨g,j,none⟩:=fun w i j v=>World.cell?_setCell_other _ _ _ _ (by simp)
 refine⟨?_,?_,?_,?_,?_,?_,?_,?_,?_⟩
 ·rw[e4,e4,e1 _ _ _ _ (by decide)];exact World.cell?_setCell_same _ _ _ h.c0
 ·rw[e4,e4];exact World.cell?_setCell_same _ _ _ ((e1 _ _ _ _ (by decide)).trans h.c1)
 ·rw[e2 _ _ _ _ (by decide)];exact World.cell?_setCell_same _ _ _ (((e3 _ _ _ _).trans (e3 _ _ _ _)).trans h.d0)
 ·exact World.cell?_setCell_same _ _ _ (((e2 _ _ _ _ (by decide)).trans ((e3 _ _ _ _).trans (e3 _ _ _ _))).trans h.d1)
 ·simp only[World.frozen?_setCell];exact h.f0
 ·simp only[World.frozen?_setCell];exact h.f1
 ·simp only[World.frozen?_setCell];exact h.f2
 ·simp only[World.frozen?_setCell];exact h.f3
 ·simpa using hs
theorem below_put{B g k:Nat}{a w:World}(h:Below B a w)(hB:B<=g)(x y:Value):Below B a ((w.setCell ⟨g,k,none⟩ x).setCell ⟨g+1,k,none⟩ y):=
 (h.setCell (p:=⟨g,k,none⟩) hB x).setCell (p:=⟨g+1,k,none⟩) (by show B<=g+1;omega) y
theorem below_put4{B g:Nat}{a w:World}(h:Below B a w)(hB:B<=g)(x y z t:Value):Below B a ((((w.setCell ⟨g,0,none⟩ x).setCell ⟨g,1,none⟩ y).setCell ⟨g+1,0,none⟩ z).setCell ⟨g+1,1,none⟩ t):=
 (((h.setCell (p:=⟨g,0,none⟩) hB x).setCell (p:=⟨g,1,none⟩) hB y).setCell (p:=⟨g+1,0,none⟩) (by show B<=g+1;omega) z).setCell (p:=⟨g+1,1,none⟩) (by show B<=g+1;omega) t
theorem box_no(ao:Option Addr)(c:Nat)(ls:List (List Pt))(w:World)(B:Nat)(hB:B<=w.heap.size)(h:RingsAt w B ao ls)(hn:ls.length<=1000000000)(ht:totTo ls ls.length<=1000000000)(hz:checkF ls≠0):
  Calls Tryz.prog 28 #[.slice ao ls.length c] w fun e w'=>e=.returned (boxV (boxF ls))/\Below w.heap.size w w':=by
 have HC:=Hd (fun w1 (hb:Below w.heap.size w w1)=>check_any ao c ls w1 B (by have:=hb.size;omega) (h.below hb hB) hn ht);obtain⟨n,hnn⟩:∃n,ls.length=n:=⟨_,rfl⟩;rw[hnn]at hn HC ⊢;have HN:Hid (ls.length=n):=hnn;clear hnn ht;have HF:Hid (boxF ls=⟨0,0,0,0⟩):=by show _=_;unfold boxF;rw[if_neg hz]
 have hzb:(checkF ls != 0)=true:=by simpa using hz
 go_enter Tryz.func28,Tryz.ntmps28
 go_wp2_with fail
 have HB:Hid (BoxAt _ _ _):=BoxAt.new w 26 0 0 0 0;have HBl:Hid (Below w.heap.size w ((w.alloc (.cells #[.int .i64 0,.int .i64 0] 26)).alloc (.cells #[.int .i64 0,.int .i64 0] 26))):=(br.alloc lr _).alloc (by simp) _;refine(HC.out _ HBl.out).mono ?_;rintro e w1 ⟨rfl,hb1⟩;have hbx:=HB.out.below hb1;have hbw:Below w.heap.size w w1:=HBl.out.trans (hb1.mono (by simp;omega));obtain⟨c0,c1,d0,d1,f0,f1,f2,f3,sz⟩:=hbx;have HX:Hid (BoxAt w1 w.heap.size ⟨0,0,0,0⟩):=HB.out.below hb1;clear HB HBl hb1 HC
 go_upto_region 2 with(fail)
 go_region
 go_wp2;have HY:=(HX.out.put4 0 0 0 0).drew;refine bodyPost_ret (v:=boxV ⟨0,0,0,0⟩) (by have c0:=HY.c0;have c1:=HY.c1;have d0:=HY.d0;have d1:=HY.d1;simp[results,Tryz.results28,go_sem,boxV, *]) rfl ⟨by rw[HF.out],(below_put4 hbw lr _ _ _ _).drew⟩
def bpart(s:Bx)(x y:Int):Nat->Bx
 |0=>s
 |1=>⟨min s.a x,s.b,max s.c x,s.d⟩
 |_=>bstep s x y
theorem box_yes(ao:Option Addr)(c:Nat)(ls:List (List Pt))(w:World)(B:Nat)(hB:B<=w.heap.size)(h:RingsAt w B ao ls)(hn:ls.length<=1000000000)(ht:totTo ls ls.length<=1000000000)(hz:checkF ls=0):
  Calls Tryz.prog 28 #[.slice ao ls.length c] w fun e w'=>e=.returned (boxV (boxF ls))/\Below w.heap.size w w':=by
 have HC:=Hd (fun w1 (hb:Below w.heap.size w w1)=>check_any ao c ls w1 B (by have:=hb.size;omega) (h.below hb hB) hn ht);obtain⟨hl0,hl3⟩:=check_zero hz;have HTT:Hid (∀ k,k<ls.length->(rg ls k).length<=1000000000):=fun k hk=>by
  have h1:=totTo_succ ls k hk;have h2:=totTo_le ls (k+1) (by omega);omega
 have HL3:=Hd hl3;have HR:=Hd h;obtain⟨n,hnn⟩:∃n,ls.length=n:=⟨_,rfl⟩;rw[hnn]at hn HC hl0 HTT HL3 ⊢;have HN:Hid (ls.length=n):=hnn;clear hnn ht hl3 h;have HF:Hid (boxF ls=bxTo ls n):=by show _=_;unfold boxF;rw[if_pos hz,HN.out]
 have hzb:(checkF ls != 0)=false:=by simpa using hz
 go_enter Tryz.func28,Tryz.ntmps28
 go_wp2_with fail
 have HB:Hid (BoxAt _ _ _):=BoxAt.new w 26 0 0 0 0;have HBl:Hid (Below w.heap.size w ((w.alloc (.cells #[.int .i64 0,.int .i64 0] 26)).alloc (.cells #[.int .i64 0,.int .i64 0] 26))):=(br.alloc lr _).alloc (by simp) _;refine(HC.out _ HBl.out).mono ?_;rintro e w1 ⟨rfl,hb1⟩;have hbx:=HB.out.below hb1;have hbw:Below w.heap.size w w1:=HBl.out.trans (hb1.mono (by simp;omega));obtain⟨c0,c1,d0,d1,f0,f1,f2,f3,sz⟩:=hbx;have HX:Hid (BoxAt w1 w.heap.size ⟨0,0,0,0⟩):=HB.out.below hb1;clear HB HBl hb1 HC;obtain⟨b,off,rfl,hb,hc⟩:=(HR.out.below hbw hB) (by rw[HN.out];omega);obtain⟨ri,ci,r0,hri⟩:=hc 0 (by rw[HN.out];omega);obtain⟨rb,ro,rfl,hrb,hrc⟩:=hri (by have:=HL3.out 0 (by omega);omega);obtain⟨p0,p1⟩:=hrc 0 (by have:=HL3.out 0 (by omega);omega);have hlen:3<=(rg ls 0).length:=HL3.out 0 (by omega);clear hc hrc;generalize(rg ls 0).length=m0 at r0 hlen;simp only[Nat.add_zero,Nat.zero_mul]at p0 p1 r0;have hbw0:b<w.heap.size:=by omega
 have hrbw0:rb<w.heap.size:=by omega
 go_upto_region 3 with(fail)
 go_region
 go_wp2
 go_loopw [27] (fun i wr=>∃k:Nat,k<=n/\i=.int .i64 k/\Hid (BoxAt wr w.heap.size (bxTo ls k))/\Below w.heap.size w wr) (fun i _=>n-(intOf i).toNat)
 case atStart=>exact⟨0,Nat.zero_le _,rfl,(HX.out.put4 _ _ _ _).drew,(below_put4 hbw lr _ _ _ _).drew⟩
 case round=>
  obtain⟨k,hk,rfl,HY,hnx⟩:=hrel;clear c0 c1 d0 d1 f0 f1 f2 f3 sz HX p0 p1 r0 hri hbw hrb;have hsz:=hnx.size;by_cases hlt:k<n
  ·obtain⟨b',off',e',hb',hc⟩:=(HR.out.below hnx hB) (by rw[HN.out];omega)
   cases e';obtain⟨ri,ci,r0,hri⟩:=hc k (by rw[HN.out];omega);clear hc;have hm3:=HL3.out k hlt;have hmb:=HTT.out k hlt;have HS:=Hd (bxTo_succ ls k);have HRI:=Hd hri;clear hri;obtain⟨l,hl⟩:∃l,rg ls k=l:=⟨_,rfl⟩;rw[hl]at HRI hm3 hmb HS r0;clear hl;obtain⟨m,hm⟩:∃m,l.length=m:=⟨_,rfl⟩;rw[hm]at r0 hm3 hmb HS;have HM:Hid (l.length=m):=hm;clear hm;obtain⟨rb,ro,rfl,hrb,_⟩:=HRI.out (by rw[HM.out];omega);have HRB:Hid (∀ wx,Below w.heap.size wr wx->∀j,j<m->wx.cell? ⟨rb,ro+j*2,none⟩=some (.int .i64 (px l j))/\wx.cell? ⟨rb,ro+j*2+1,none⟩=some (.int .i64 (py l j))):=fun wx hbx j hj=>by
    obtain⟨rb',ro',e',_,hc⟩:=(HRI.out.below hbx hB) (by rw[HM.out];omega);cases e';exact hc j (by rw[HM.out];exact hj)
   obtain⟨wo,hwo⟩:∃wo:World,wo=wr:=⟨_,rfl⟩;subst hwo;go_wp2
   go_loopw [33] (fun i wi=>∃j:Nat,j<=m/\i=.int .i64 j/\Hid (BoxAt wi w.heap.size (bxR l (bxTo ls k) j))/\Below w.heap.size wo wi) (fun i _=>m-(intOf i).toNat)
   case atStart=>exact⟨0,Nat.zero_le _,rfl,HY,br⟩
   case round=>
    obtain⟨j,hj,rfl,HZ,hni⟩:=hrel;have hsi:=hni.size;by_cases hjl:j<m
    ·obtain⟨p0,p1⟩:=HRB.out _ hni j hjl
     have HSJ:=Hd (bxR_succ l (bxTo ls k) j);generalize px l j=x at p0 HSJ;generalize py l j=y at p1 HSJ;generalize bxR l (bxTo ls k) j=s at HZ HSJ;have hrbi:rb<wr.heap.size:=by omega
     obtain⟨wj,hwj⟩:∃wj:World,wj=wr:=⟨_,rfl⟩;subst hwj;go_wp2
     go_loopw [38] (fun i wt=>∃t:Nat,t<=2/\i=.int .i64 t/\Hid (BoxAt wt w.heap.size (bpart s x y t))/\Below w.heap.size wj wt) (fun i _=>2-(intOf i).toNat)
     case atStart=>exact⟨0,Nat.zero_le _,rfl,HZ.out.below (br.alloc lr _),br.alloc (by omega) _⟩
     case round=>
      obtain⟨t,ht,rfl,HT,hnt⟩:=hrel;have hst:=hnt.size;have i0:∀w,(Instr.index 26 (.agg #[.int .i64 x,.int .i64 y]) (.int .i64 0)).run Tryz.prog w=.ok (.int .i64 x) w:=fun _=>by kernel_rfl
      have i1:∀w,(Instr.index 26 (.agg #[.int .i64 x,.int .i64 y]) (.int .i64 1)).run Tryz.prog w=.ok (.int .i64 y) w:=fun _=>by kernel_rfl
      rcases(show t=0∨t=1∨t=2 by omega)with rfl|rfl|rfl
      ·obtain⟨c0,c1,d0,d1,f0,f1,f2,f3,sz⟩:=HT.out
       simp only[bpart]at c0 c1 d0 d1
       go_upto_region 13 with(fail)
       go_region
       go_wp2;refine⟨⟨1,by omega,rfl,?_,(below_put hnt lr _ _).drew⟩,by simp[intOf]⟩
       (try rw[iminD,imaxD])
       exact(HT.out.put (k:=0) _ _ _ (.inl ⟨rfl,rfl⟩)).drew
      ·obtain⟨c0,c1,d0,d1,f0,f1,f2,f3,sz⟩:=HT.out
       simp only[bpart]at c0 c1 d0 d1
       go_upto_region 13 with(fail)
       go_region
       go_wp2;refine⟨⟨2,by omega,rfl,?_,(below_put hnt lr _ _).drew⟩,by simp[intOf]⟩
       (try rw[iminD,imaxD])
       exact(HT.out.put (k:=1) _ _ _ (.inr ⟨rfl,rfl⟩)).drew
      ·go_wp2
       go_roundw
       case rel=>exact⟨j+1,by omega,by go_num,by rw[HSJ.out];exact HT,hni.trans hnt⟩
       case measure=>simp[intOf];omega
    ·obtain rfl:j=m:=by omega
     go_wp2
     go_roundw
     case rel=>exact⟨k+1,by omega,by go_num,by rw[HS.out];exact HZ,hnx.trans hni⟩
     case measure=>simp[intOf];omega
  ·obtain rfl:k=n:=by omega
   obtain⟨c0,c1,d0,d1,f0,f1,f2,f3,sz⟩:=HY.out;have HP:=(HY.out.put4 (bxTo ls k).a (bxTo ls k).b (bxTo ls k).c (bxTo ls k).d).drew;have HP':=Hd HP;clear HP;have HFF:=HF;generalize bxTo ls k=s at*
   go_upto_region 17 with(fail)
   go_region
   go_wp2;refine bodyPost_ret (v:=boxV s) (by have c0:=HP'.out.c0;have c1:=HP'.out.c1;have d0:=HP'.out.d0;have d1:=HP'.out.d1;simp[results,Tryz.results28,go_sem,boxV, *]) rfl ⟨by rw[HF.out],(below_put4 hnx lr _ _ _ _).drew⟩
theorem box_any(ao:Option Addr)(c:Nat)(ls:List (List Pt))(w:World)(B:Nat)(hB:B<=w.heap.size)(h:RingsAt w B ao ls)(hn:ls.length<=1000000000)(ht:totTo ls ls.length<=1000000000):
  Calls Tryz.prog 28 #[.slice ao ls.length c] w fun e w'=>e=.returned (boxV (boxF ls))/\Below w.heap.size w w':=by
 by_cases hz:checkF ls=0
 ·exact box_yes ao c ls w B hB h hn ht hz
 ·exact box_no ao c ls w B hB h hn ht hz
end
end Go.Proofs.YtpkoapmpknbgoaaGreat.Po
namespace Go.Proofs.YtpkoapmpknbgoaaGreat
section
open Go.RowKit Go.Lib Wd Cv
structure RgAt (w:World) (B:Nat) (ao:Option Addr) (n:Nat) (ls:List (List (Int×Int))):Prop where
 rings:Po.RingsAt w B ao ls
 len:ls.length=n
 few:n<=1000000000
 tot:Po.totTo ls ls.length<=1000000000
theorem RgAt.below{w w':World}{B n:Nat}{ao:Option Addr}{ls:List (List (Int×Int))}(h:RgAt w B ao n ls){C:Nat}(hb:Below C w w')(hC:B<=C):RgAt w' B ao n ls:=⟨h.rings.below hb hC,h.len,h.few,h.tot⟩
def fillB(ls:List (List (Int×Int)))(r:Nat)(x:Int):Bool:=Po.insideF ls (atE (12-r) (zW x.toNat)).1 (atE (12-r) (zW x.toNat)).2
theorem has_in{ao:Option Addr}{n c B r:Nat}{ls:List (List (Int×Int))}{z:E2}(hz:okB r z=true){w:World}(hB:B<=w.heap.size)(h:RgAt w B ao n ls):
  Calls Tryz.prog 29 #[.slice ao n c,.int .u64 (wordN r z:Nat)] w fun e w'=>e=.returned (.bool (fillB ls r (wordN r z:Nat)))/\Below w.heap.size w w':=by
 obtain⟨v1,v2,v3⟩:=word_cell hz;have hr:=(okB_parts hz).1;have hlt:=(wordN_lt hz).1;have HC:=Hd (cell_any (wordN r z) (by omega));have e1:cvR (wordN r z)=r:=by unfold cvR;rw[if_pos v1,v2]
 have e2:cvZ (wordN r z)=z:=by unfold cvZ;rw[if_pos v1,v3]
 rw[e1,e2]at HC;have hsm:Sm 1073741824 z:=by
  have:=(shapeB_iff r z).1 ((okB_iff r z).1 hz).1;unfold Sm;omega
 have HCE:=Hd (fun w=>centre_in z hsm r hr w);have HF:Hid (fillB ls r (wordN r z:Nat)=Po.insideF ls (atE (12-r) z).1 (atE (12-r) z).2):=by
  show _=_;unfold fillB;rw[Int.toNat_natCast,v3]
 have HIN:Hid (∀ W,Below w.heap.size w W->∀x y,Calls Tryz.prog 57 #[.slice ao n c,.int .i64 x,.int .i64 y] W fun e w'=>e=.returned (.bool (Po.insideF ls x y))/\Below W.heap.size W w'):=fun W hW x y=>by
  have h1:=h.below hW hB;have:=Po.inside_any ao c ls x y W B (Nat.le_trans hB hW.size) h1.rings (by rw[h1.len];exact h1.few) h1.tot
  rwa[h1.len]at this
 generalize fillB ls r (wordN r z:Nat)=res at *;generalize wordN r z=wd at *;generalize atE (12-r) z=p at *;obtain⟨x,y⟩:=p;simp only at HF;obtain⟨q,hq⟩:∃q,Po.insideF ls x y=q:=⟨_,rfl⟩;have HI2:Hid (∀ W,Below w.heap.size w W->Calls Tryz.prog 57 #[.slice ao n c,.int .i64 x,.int .i64 y] W fun e w'=>e=.returned (.bool res)/\Below W.heap.size W w'):=fun W hW=>by rw[HF.out];exact HIN.out W hW x y
 clear HF HIN v1 v2 v3 e1 e2 hlt hz hsm hr h hB hq
 go_enter Tryz.func29,Tryz.ntmps29
 go_wp2_with fail
 refine(HC.out _).mono ?_;rintro e w1 ⟨rfl,hb1⟩;have HB1:=Hd hb1;clear hb1 HC;simp only[vC,vE]at*
 go_upto_region 2 with(fail)
 have K1:Below w.heap.size w (w1.alloc (.cells #[.int .i64 r,.int .i64 z.1,.int .i64 z.2] 39)):=HB1.out.alloc HB1.out.size _;have x1:(w1.alloc (.cells #[.int .i64 r,.int .i64 z.1,.int .i64 z.2] 39)).heap[w1.heap.size]? =some (.cells #[.int .i64 r,.int .i64 z.1,.int .i64 z.2] 39 (0,0)):=heap_new _ _ _ rfl;generalize w1.alloc (.cells #[.int .i64 r,.int .i64 z.1,.int .i64 z.2] 39)=w2 at *;generalize w1.heap.size=d at *;have d0:w2.cell? ⟨d,0,none⟩=some (.int .i64 r):=cell_of_row _ _ 0 _ _ _ x1;have d1:w2.cell? ⟨d,1,none⟩=some (.int .i64 z.1):=cell_of_row _ _ 1 _ _ _ x1;have d2:w2.cell? ⟨d,2,none⟩=some (.int .i64 z.2):=cell_of_row _ _ 2 _ _ _ x1;have hd:=(Array.getElem?_eq_some_iff.1 x1).1;have HB2:=Hd K1;clear K1 x1 HB1
 go_wp2_with fail
 refine(HCE.out _).mono ?_;rintro e w3 ⟨rfl,hb3⟩;have HB3:=Hd (HB2.out.trans (hb3.mono HB2.out.size));clear hb3 d0 d1 d2 hd HCE HB2
 go_wp2_with fail
 refine(HI2.out _ HB3.out).mono ?_;rintro e w4 ⟨rfl,hb4⟩;have HB4:=Hd (HB3.out.trans (hb4.mono HB3.out.size));clear hb4;go_wp2;go_ret;exact⟨rfl,HB4.out⟩
theorem filask_any{ao:Option Addr}{n c B r hb:Nat}{ls:List (List (Int×Int))}{z:E2}(hz:okB r z=true){w:World}(hB:B<=w.heap.size)(h:RgAt w B ao n ls)(hc:w.cell? ⟨hb,0,none⟩=some (.func (.func 29) #[.slice ao n c] #[])):
  Calls Tryz.prog 31 (#[.int .u64 (wordN r z:Nat)]++#[.pointer (some ⟨hb,0,none⟩)]) w fun e w'=>e=.returned (.bool (!fillB ls r (wordN r z:Nat)))/\Below w.heap.size w w':=by
 have HH:=Hd (has_in (c:=c) hz hB h);have hl:=World.block_lt_of_cell? w _ hc;dsimp only at hl;generalize fillB ls r (wordN r z:Nat)=res at *;generalize wordN r z=wd at *;clear hz h hB;show Calls Tryz.prog 31 #[.int .u64 wd,.pointer (some ⟨hb,0,none⟩)] w _
 go_enter Tryz.func31,Tryz.ntmps31
 go_wp2_with fail
 refine HH.out.mono ?_;rintro e w1 ⟨rfl,hb1⟩;have HB1:=Hd hb1;clear hb1;go_wp2;go_ret;exact⟨rfl,HB1.out⟩
end
end Go.Proofs.YtpkoapmpknbgoaaGreat
namespace Go.Proofs.YtpkoapmpknbgoaaGreat.Wd
section
open Go.Proofs.YtpkoapmpknbgoaaGreat.Cv
def ddN:Nat->Int
 |0=>90|1=>234|2=>624|3=>1665|4=>4290|5=>11622|6=>30735|7=>79335|8=>215982|9=>566100|10=>1484505|11=>4004988|_=>10403595
theorem dd_of{m:Nat}(hm:m<=12):(-ddN m<=(d0E m).1/\(d0E m).1<=ddN m/\ -ddN m<=(d0E m).2/\(d0E m).2<=ddN m)/\(-ddN m<=(d1E m).1/\(d1E m).1<=ddN m/\ -ddN m<=(d1E m).2/\(d1E m).2<=ddN m)/\
  (-ddN m<=(d1E m).1-(d0E m).1/\(d1E m).1-(d0E m).1<=ddN m/\ -ddN m<=(d1E m).2-(d0E m).2/\(d1E m).2-(d0E m).2<=ddN m):=by
 rcases upto12 hm with rfl|rfl|rfl|rfl|rfl|rfl|rfl|rfl|rfl|rfl|rfl|rfl|rfl <;> decide
theorem vert_at{m:Nat}(hm:m<=12)(z:E2){k:Nat}(hk:k<6):((cenE m z).1-ddN m<=(hexC m z k).1/\(hexC m z k).1<=(cenE m z).1+ddN m)/\(cenE m z).2-ddN m<=(hexC m z k).2/\(hexC m z k).2<=(cenE m z).2+ddN m:=by
 obtain⟨h0,h1,h2,h3,h4,h5⟩:=hexC_eq m z;obtain⟨e0,e1,e2⟩:=dd_of hm;rcases(show k=0∨k=1∨k=2∨k=3∨k=4∨k=5 by omega)with rfl|rfl|rfl|rfl|rfl|rfl <;> simp only[h0,h1,h2,h3,h4,h5,addE,subE] <;> omega
theorem touch_near{m:Nat}(hm:m<=12){z lo hi:E2}(h:TouchP (hexC m z) lo hi):(lo.1-ddN m<=(cenE m z).1/\(cenE m z).1<=hi.1+ddN m)/\lo.2-ddN m<=(cenE m z).2/\(cenE m z).2<=hi.2+ddN m:=by
 obtain⟨⟨⟨a,a1,a2⟩,b,b1,b2⟩,⟨⟨c,c1,c2⟩,d,d1,d2⟩,-⟩:=h;have ha:=vert_at hm z a1;have hb:=vert_at hm z b1;have hc:=vert_at hm z c1;have hd:=vert_at hm z d1;omega
theorem cen_parts(m:Nat)(z:E2):(cenE m z).1=3*(52*(mulE (bE m) z).1+26*(mulE (bE m) z).2)/\(cenE m z).2=3*(45*(mulE (bE m) z).2):=by
 unfold cenE midE spotE mulE;generalize bE m=b;simp only;constructor <;> grind
theorem err_cen{m:Nat}{z:E2}{x y T:Int}(h1: -T<=(cenE m z).1-3*x)(h2:(cenE m z).1-3*x<=T)(h3: -T<=(cenE m z).2-3*y)(h4:(cenE m z).2-3*y<=T){H:Int}(hH:71*T<=3*H):Hex H (errE m z (ptE x y)):=by
 obtain⟨c1,c2⟩:=cen_parts m z;rw[c1]at h1 h2;rw[c2]at h3 h4;unfold Hex errE ptE;generalize mulE (bE m) z=q at *;simp only;omega
theorem near_may{r:Nat}(hr:r<=12){z:E2}{x y:Int}(hx:0<=x/\x<1073741824)(hy:0<=y/\y<1073741824)
  (h1: -(ddN (12-r)+3)<=(cenE (12-r) z).1-3*x/\(cenE (12-r) z).1-3*x<=ddN (12-r)+3) (h2: -(ddN (12-r)+3)<=(cenE (12-r) z).2-3*y/\(cenE (12-r) z).2-3*y<=ddN (12-r)+3):okB r z=true:=by
 refine ok_of_base hr ?_;have h0:Hex (tN (12-r) 0) (errE (12-r) z (ptE x y)):=err_cen h1.1 h1.2 h2.1 h2.2 (by
  rcases upto12 hr with rfl|rfl|rfl|rfl|rfl|rfl|rfl|rfl|rfl|rfl|rfl|rfl|rfl <;> decide)
 have h3:=err_ups (m:=12-r) h0 (k:=r) (by omega);rw[show 12-r+r=12 by omega]at h3;refine base_in hx hy (h3.mono ?_);rcases upto12 hr with rfl|rfl|rfl|rfl|rfl|rfl|rfl|rfl|rfl|rfl|rfl|rfl|rfl <;> decide
theorem clamp_ex{c l u D:Int}(hlu:l<=u)(h1:3*l-D<=c)(h2:c<=3*u+D)(hD:0<=D):∃x,l<=x/\x<=u/\ -(D+3)<=c-3*x/\c-3*x<=D+3:=by
 by_cases a:c<3*l
 ·exact⟨l,by omega⟩
 ·by_cases b:3*u<c
  ·exact⟨u,by omega⟩
  ·exact⟨c/3,by omega⟩
theorem dd_pos(m:Nat):0<=ddN m:=by unfold ddN;split <;> decide
theorem touch_ok{r:Nat}(hr:r<=12){z lo hi:E2}(hlo:worldB lo.1 lo.2=true)(hhi:worldB hi.1 hi.2=true)(hx:lo.1<=hi.1)(hy:lo.2<=hi.2)(h:TouchP (hexC (12-r) z) (triE lo) (triE hi)):okB r z=true:=by
 obtain⟨h1,h2⟩:=touch_near (by omega) h;rw[worldB_iff]at hlo hhi;simp only[triE]at h1 h2;obtain⟨x,x1,x2,x3⟩:=clamp_ex hx h1.1 h1.2 (dd_pos _);obtain⟨y,y1,y2,y3⟩:=clamp_ex hy h2.1 h2.2 (dd_pos _);exact near_may hr (x:=x) (y:=y) (by omega) (by omega) x3 y3
theorem nodup_below:∀(n:Nat) (l:List Nat),l.Nodup->(∀ x∈l,x<n)->l.length<=n
 |0,l,_,h=>by
  cases l with
  |nil=>simp
  |cons a l=>exact absurd (h a (by simp)) (by omega)
 |n+1,l,hn,h=>by
  by_cases hm:n∈l
  ·have h1:=List.length_erase_of_mem hm
   have h2:=nodup_below n (l.erase n) (hn.erase n) fun x hx=>by
    have hx':=(List.Nodup.mem_erase_iff hn).1 hx;have:=h x hx'.2;omega
   omega
  ·have:=nodup_below n l hn fun x hx=>by
    have:=h x hx;have:x≠n:=fun e=>hm (e ▸ hx)
    omega
   omega
theorem nodup_map{α β:Type}{f:α->β}:∀{l:List α},l.Nodup->(∀ a∈l,∀b∈l,f a=f b->a=b)->(l.map f).Nodup
 |[],_,_=>List.nodup_nil
 |a::l,hn,h=>by
  rw[List.nodup_cons]at hn;rw[List.map_cons,List.nodup_cons];refine⟨fun hm=>?_,nodup_map hn.2 fun x hx y hy=>h x (by simp[hx]) y (by simp[hy])⟩;obtain⟨b,hb,e⟩:=List.mem_map.1 hm;exact hn.1 (h a (by simp) b (by simp[hb]) e.symm ▸ hb)
theorem within_count{D:List E2}(hn:D.Nodup)(K:Nat)(z0:E2)(h:∀z∈D,-(K:Int)<=z.1-z0.1/\z.1-z0.1<=K/\ -(K:Int)<=z.2-z0.2/\z.2-z0.2<=K):D.length<=(2*K+1)*(2*K+1):=by
 have h1:=nodup_map (f:=fun z:E2=>(z.1-z0.1+K).toNat*(2*K+1)+(z.2-z0.2+K).toNat) hn (by
  intro a ha b hb e;have pa:=h a ha;have pb:=h b hb;obtain⟨x,hx⟩:∃x,(a.1-z0.1+K).toNat=x:=⟨_,rfl⟩;obtain⟨y,hy⟩:∃y,(b.1-z0.1+K).toNat=y:=⟨_,rfl⟩;obtain⟨u,hu⟩:∃u,(a.2-z0.2+K).toNat=u:=⟨_,rfl⟩;obtain⟨v,hv⟩:∃v,(b.2-z0.2+K).toNat=v:=⟨_,rfl⟩;rw[hx,hy,hu,hv]at e;have hu2:u<2*K+1:=by omega
  have hv2:v<2*K+1:=by omega
  have e1:u=v:=by
   have:=congrArg (· %(2*K+1)) e;simpa[Nat.add_mod,Nat.mul_mod_left,Nat.mod_eq_of_lt hu2,Nat.mod_eq_of_lt hv2,Nat.mul_add_mod_self_right,Nat.mul_add_mod_self_left]using this
  have e2:x=y:=by
   subst e1;exact Nat.eq_of_mul_eq_mul_right (by omega) (Nat.add_right_cancel e)
  ext <;> omega)
 have h2:=nodup_below ((2*K+1)*(2*K+1)) _ h1 (by
  intro x hx;obtain⟨z,hz,rfl⟩:=List.mem_map.1 hx;have p:=h z hz;have a:(z.1-z0.1+K).toNat<=2*K:=by omega
  have b:(z.2-z0.2+K).toNat<2*K+1:=by omega
  have:=Nat.mul_le_mul_right (2*K+1) a;have e:(2*K+1)*(2*K+1)=2*K*(2*K+1)+(2*K+1):=by rw[Nat.add_mul,Nat.one_mul]
  omega)
 rwa[List.length_map]at h2
def sizeN:Nat->Int
 |0=>52
 |k+1=>sizeN k*8/3
theorem size_tab:sizeN 0=52/\sizeN 1=138/\sizeN 2=368/\sizeN 3=981/\sizeN 4=2616/\sizeN 5=6976/\sizeN 6=18602/\sizeN 7=49605/\sizeN 8=132280/\sizeN 9=352746/\sizeN 10=940656/\sizeN 11=2508416/\sizeN 12=6689109:=by decide
theorem touch_within{m:Nat}(hm:m<=12){z z0 lo hi:E2}(h:TouchP (hexC m z) lo hi)(h0:TouchP (hexC m z0) lo hi)(hw:hi.1-lo.1<=84*sizeN m)(hh:hi.2-lo.2<=84*sizeN m):
  -52<=z.1-z0.1/\z.1-z0.1<=52/\ -52<=z.2-z0.2/\z.2-z0.2<=52:=by
 obtain⟨q0,q1,q2,q3,q4,q5,q6,q7,q8,q9,q10,q11,q12⟩:=bE_tab;obtain⟨s0,s1,s2,s3,s4,s5,s6,s7,s8,s9,s10,s11,s12⟩:=size_tab;obtain⟨a1,a2⟩:=touch_near hm h;obtain⟨b1,b2⟩:=touch_near hm h0;obtain⟨c1,c2⟩:=cen_parts m z;obtain⟨d1,d2⟩:=cen_parts m z0;rw[c1]at a1;rw[c2]at a2;rw[d1]at b1;rw[d2]at b2;clear c1 c2 d1 d2 h h0;obtain⟨z1,z2⟩:=z;obtain⟨y1,y2⟩:=z0;obtain⟨lx,ly⟩:=lo;obtain⟨hx,hy⟩:=hi;simp only at *;have key:∀u v:Int,u=z1-y1->v=z2-y2-> -52<=u/\u<=52/\ -52<=v/\v<=52:=by
  intro u v hu hv;obtain rfl:z1=y1+u:=by omega
  obtain rfl:z2=y2+v:=by omega
  rcases upto12 hm with rfl|rfl|rfl|rfl|rfl|rfl|rfl|rfl|rfl|rfl|rfl|rfl|rfl <;>
   (simp only[mulE,q0,q1,q2,q3,q4,q5,q6,q7,q8,q9,q10,q11,q12,s0,s1,s2,s3,s4,s5,s6,s7,s8,s9,s10,s11,s12,ddN]at a1 a2 b1 b2 hw hh) <;> (clear q0 q1 q2 q3 q4 q5 q6 q7 q8 q9 q10 q11 q12 s0 s1 s2 s3 s4 s5 s6 s7 s8 s9 s10 s11 s12 hu hv) <;> omega
 have:=key _ _ rfl rfl;omega
theorem touch_few{m:Nat}(hm:m<=12){D:List E2}{lo hi:E2}(hn:D.Nodup)(h:∀z∈D,TouchP (hexC m z) lo hi)(hw:hi.1-lo.1<=84*sizeN m)(hh:hi.2-lo.2<=84*sizeN m):D.length<=11025:=by
 cases D with
 |nil=>simp
 |cons z0 D=>exact within_count hn 52 z0 fun z hz=>touch_within hm (h z hz) (h z0 (by simp)) hw hh
end
end Go.Proofs.YtpkoapmpknbgoaaGreat.Wd
namespace Go.Proofs.YtpkoapmpknbgoaaGreat
section
open Go.RowKit Go.Lib Wd Cv
def TouchW(R:Nat)(lo hi:E2)(x:Int):Prop:=∃z,okB R z=true/\TouchP (hexC (12-R) z) (triE lo) (triE hi)/\x=(wordN R z:Nat)
def CenW(R:Nat)(lo hi:E2)(x:Int):Prop:=∃z,okB R z=true/\inB lo hi (atE (12-R) z)=true/\x=(wordN R z:Nat)
def IsBox(R:Nat)(lo hi:E2)(L:List Int):Prop:=Up L/\(∀ x,x∈L↔TouchW R lo hi x)/\L.length<=20000
def IsCen(R:Nat)(lo hi:E2)(L:List Int):Prop:=Up L/\(∀ x,x∈L↔CenW R lo hi x)/\L.length<=20000
theorem up_of_srt{l:List Int}(h:l.Nodup):Up (srt l):=by
 have hp:(srt l).Perm l:=List.mergeSort_perm l _;have hn:(srt l).Nodup:=hp.nodup_iff.2 h;have hs:=srt_sorted l;rw[List.nodup_iff_pairwise_ne]at hn;exact(hs.and hn).imp fun⟨h1,h2⟩=>by omega
theorem wsL_nodup(R:Nat){D:List E2}(h:D.Nodup):(wsL R D).Nodup:=by
 unfold wsL;refine nodup_map (h.filter _) fun a ha b hb e=>?_
 have oa:okB R a=true:=by simpa using(List.mem_filter.1 ha).2
 have ob:okB R b=true:=by simpa using(List.mem_filter.1 hb).2
 have e2:wordN R a=wordN R b:=by omega
 exact(word_inj oa ob e2).2
theorem wsL_mem{R:Nat}{D:List E2}{x:Int}:x∈wsL R D↔∃z,z∈D/\okB R z=true/\x=(wordN R z:Nat):=by
 unfold wsL;rw[List.mem_map];constructor
 ·rintro⟨z,hz,rfl⟩
  obtain⟨h1,h2⟩:=List.mem_filter.1 hz;exact⟨z,h1,by simpa using h2,rfl⟩
 ·rintro⟨z,h1,h2,rfl⟩
  exact⟨z,List.mem_filter.2 ⟨h1,by simpa using h2⟩,rfl⟩
theorem isBox_of{R:Nat}{lo hi:E2}{D:List E2}(h:AllOf (12-R) (triE lo) (triE hi) D)(hl:D.length<=20000):IsBox R lo hi (srt (wsL R D)):=by
 refine⟨up_of_srt (wsL_nodup R h.1),fun x=>?_,by rw[srt_length];exact Nat.le_trans (wsL_le R D) hl⟩;rw[srt_mem,wsL_mem];unfold TouchW;constructor
 ·rintro⟨z,h1,h2,h3⟩;exact⟨z,h2,(h.2 z).1 h1,h3⟩
 ·rintro⟨z,h1,h2,h3⟩;exact⟨z,(h.2 z).2 h2,h1,h3⟩
theorem cen_at(m:Nat)(z:E2):cenE m z=triE (atE m z):=by
 unfold cenE midE atE spotE triE mulE;generalize bE m=b;ext <;> simp only <;> grind
theorem form_self(m:Nat)(z:E2):fA m z (cenE m z).1 (cenE m z).2=0/\fB m z (cenE m z).1 (cenE m z).2=0:=by
 unfold fA fB;simp
theorem inZ_self(m:Nat)(z:E2):InZ m z ((cenE m z).1:Int) ((cenE m z).2:Int):=by
 have hp:=aN_pos m;rw[inZ_int,(form_self m z).1,(form_self m z).2];omega
theorem touch_at{m:Nat}(hm:m<=12){z lo hi:E2}{x y:Int}(h1:lo.1<=x/\x<=hi.1)(h2:lo.2<=y/\y<=hi.2)(h:InZ m z ((3*x:Int):Rat) ((3*y:Int):Rat)):TouchP (hexC m z) (triE lo) (triE hi):=by
 rw[touch_iff hm z (triE lo) (triE hi) (by simp only[triE];omega) (by simp only[triE];omega)];refine⟨((3*x:Int):Rat),((3*y:Int):Rat),?_,?_,?_,?_,h⟩ <;> simp only[triE] <;> rw[Rat.intCast_le_intCast] <;> omega
theorem cen_touch{m:Nat}(hm:m<=12){z lo hi:E2}(h:inB lo hi (atE m z)=true):TouchP (hexC m z) (triE lo) (triE hi):=by
 have h1:=(inB_iff lo hi _).1 h;have h2:=inZ_self m z;rw[cen_at m z]at h2;exact touch_at hm ⟨h1.1,h1.2.1⟩ ⟨h1.2.2.1,h1.2.2.2⟩ h2
theorem isCen_of{R:Nat}{lo hi:E2}{D:List E2}(h:AllOf (12-R) (triE lo) (triE hi) D)(hl:D.length<=20000):IsCen R lo hi ((srt (wsL R D)).filter (cenB R lo hi)):=by
 have hb:=isBox_of h hl;refine⟨filter_up hb.1 _,fun x=>?_,Nat.le_trans (List.length_filter_le _ _) hb.2.2⟩;rw[List.mem_filter,hb.2.1];unfold TouchW CenW cenB;constructor
 ·rintro⟨⟨z,h1,h2,rfl⟩,h3⟩
  rw[Int.toNat_natCast,(word_cell h1).2.2]at h3;exact⟨z,h1,h3,rfl⟩
 ·rintro⟨z,h1,h2,rfl⟩
  exact⟨⟨z,h1,cen_touch (by omega) h2,rfl⟩,by rw[Int.toNat_natCast,(word_cell h1).2.2];exact h2⟩
def ToldB(w:World)(P:List Int->Prop)(e:Ending)(w':World):Prop:=
 ∃L ao c n,P L/\e=.returned (.tuple #[.slice ao n c,.int .i64 0])/\n=L.length/\w'.ownsRow w.heap.size 35 1 (.slice ao n c) n (uV L)/\Below w.heap.size w w'
theorem few_of{R:Nat}(hR:R<=12){lo hi:E2}(hw:hi.1-lo.1<=28*sizeN (12-R))(hh:hi.2-lo.2<=28*sizeN (12-R)){D:List E2}(hn:D.Nodup)(h:∀z∈D,TouchP (hexC (12-R) z) (triE lo) (triE hi)):D.length<=11025:=
 touch_few (by omega) hn h (by simp only[triE];omega) (by simp only[triE];omega)
theorem bxOk_iff(lo hi:E2):bxOk lo hi=true↔(-2147483648<=lo.1/\hi.1<=2147483648/\lo.1<=hi.1)/\ -2147483648<=lo.2/\hi.2<=2147483648/\lo.2<=hi.2:=by
 unfold bxOk axOk axG;simp;omega
theorem ct_iff(R:Nat)(z lo hi:E2):ctB R z lo hi=true↔bxOk lo hi=true/\okB R z=true/\TouchP (hexC (12-R) z) (triE lo) (triE hi):=by
 unfold ctB;rw[Bool.and_eq_true,Bool.and_eq_true,Int.toNat_natCast, <-tt_iff]
 rfl
end
section
open Go.RowKit Go.Lib Wd
theorem point_in(x y:Int)(w:World):Calls Tryz.prog 41 #[.int .i64 x,.int .i64 y] w fun e w'=>e=.returned (.tuple #[.int .i64 (x%1073741824),.int .i64 (y%1073741824)])/\Below w.heap.size w w':=by
 have e1:bits BinOp.and IntKind.i64 x 1073741823=x%1073741824:=i64_and_mask x 30 (by omega) 1073741823 rfl;have e2:bits BinOp.and IntKind.i64 y 1073741823=y%1073741824:=i64_and_mask y 30 (by omega) 1073741823 rfl;generalize x%1073741824=a at *;generalize y%1073741824=b at*
 go_enter Tryz.func41,Tryz.ntmps41
 go_wp2;exact bodyPost_ret (v:=.tuple #[.int .i64 a,.int .i64 b]) (by simp[results,Tryz.results41,go_sem]) rfl ⟨rfl,by first|exact br|exact below_drewN br _⟩
theorem rem13(r:Int):(-13<r.tmod 13/\r.tmod 13<13)/\(r.tmod 13+13).tmod 13=r%13:=by
 have h:(-13<r.tmod 13/\r.tmod 13<13)/\(r.tmod 13+13)%13=r%13:=by
  rcases Int.lt_or_le r 0 with h|h
  ·have e:r.tmod 13= -((-r)%13):=by rw[<- Int.tmod_eq_emod_of_nonneg (show 0<= -r by omega),Int.neg_tmod,Int.neg_neg]
   omega
  ·rw[Int.tmod_eq_emod_of_nonneg h];omega
 refine⟨h.1,?_⟩;rw[Int.tmod_eq_emod_of_nonneg (by omega)];exact h.2
end
section
open Go.RowKit Go.Lib Wd Cv
theorem sizeN_pos{m:Nat}(hm:m<=12):52<=sizeN m/\sizeN m<=6689109:=by
 rcases upto12 hm with rfl|rfl|rfl|rfl|rfl|rfl|rfl|rfl|rfl|rfl|rfl|rfl|rfl <;> decide
end
section
open Go.RowKit Go.Lib Wd
theorem rcell_any(w0:Nat)(hw:w0<18446744073709551616)(w:World):
  Calls Tryz.prog 14 #[.int .u64 w0] w fun e w'=>e=.returned (.tuple #[vC (cvR w0) (cvZ w0),.int .i64 (cvE w0)])/\Below w.heap.size w w':=by
 obtain⟨v1,v2,v3⟩:=head_val w0 hw;obtain⟨R,hR⟩:∃R,rW w0=R:=⟨_,rfl⟩;obtain⟨A,hA⟩:∃A,w0/70368744177664%1024=A:=⟨_,rfl⟩;obtain⟨B,hB⟩:∃A,w0/68719476736%1024=A:=⟨_,rfl⟩;have hA1:A<1024:=by omega
 have hB1:B<1024:=by omega
 have HBW:Hid (bW w0=((A:Int)-512,(B:Int)-512)):=by show _=_;unfold bW;rw[hA,hB]
 have HIS:Hid (isW w0=(decide (w0/1152921504606846976=1)&&decide (R<=12)&&okD (dgW w0) R 12)):=by show _=_;rw[<- hR];rfl
 have hr16:R<16:=by rw[<- hR];exact Nat.mod_lt _ (by decide)
 have HYES:Hid (isW w0=true->cvR w0=(R:Int)/\cvZ w0=dn (dgW w0) ((A:Int)-512,(B:Int)-512) R/\cvE w0=0):=fun h=>by
  unfold cvR cvZ cvE zW;simp only[h,if_pos];rw[hR,HBW.out];exact⟨rfl,rfl,trivial⟩
 have HNO:Hid (isW w0=false->cvR w0=0/\cvZ w0=(0,0)/\cvE w0=5):=fun h=>by
  unfold cvR cvZ cvE;simp only[h,Bool.false_eq_true,if_false];exact⟨trivial,trivial,trivial⟩
 rw[hR]at v1;rw[hA]at v2;rw[hB]at v3;clear hR hA hB;have hbad:isW w0=false->Hid (∀ w',Below w.heap.size w w'->((Ending.returned (.tuple #[.agg #[.int .i64 0,.int .i64 0,.int .i64 0],.int .i64 5]):Ending)=.returned (.tuple #[vC (cvR w0) (cvZ w0),.int .i64 (cvE w0)])/\Below w.heap.size w w')):=fun h w' hb=>by
  obtain⟨e1,e2,e3⟩:=HNO.out h;exact⟨by rw[e1,e2,e3],hb⟩
 have hdig0:∀k:Nat,k<12->bits .and .u64 ((w0:Int)/2 ^ (36-3*(k+1))) 7=((dgW w0 (k+1):Nat):Int):=fun k hk=>by
  have e:((w0:Int)/2 ^ (36-3*(k+1)))=((w0/8 ^ (12-(k+1)):Nat):Int):=by
   rw[show 36-3*(k+1)=3*(12-(k+1)) by omega,show(8:Nat) ^ (12-(k+1))=2 ^ (3*(12-(k+1))) by rw[Nat.pow_mul]];simp
  have:=Nat.div_le_self w0 (8 ^ (12-(k+1)));rw[e,show(7:Int)=((7:Nat):Int) by rfl,bits_and_u64_nat _ _ (by omega) (by decide),nat_mask3]
  rfl
 have HDO:=Hd hdig0;clear hdig0;by_cases h0:w0/1152921504606846976=1
 ·have q1:((w0:Int)/1152921504606846976 != 1)=false:=by simp;omega
  by_cases h12:R<=12
  ·have q2:decide (12<(R:Int))=false:=decide_eq_false (by omega)
   go_enter Tryz.func14,Tryz.ntmps14
   go_wp2;have T0:Hid (Tri ((w.alloc (.cells #[.int .i64 0,.int .i64 0,.int .i64 0] 39)).alloc (.cells #[.int .i64 ((A:Int)-512),.int .i64 ((B:Int)-512)] 37)) w.heap.size 0 (0,0)):=by
    show _=_;rw[Below.heap_alloc _ _ _ (by simp)];exact heap_new _ _ _ rfl
   have C0:Hid (Two2 ((w.alloc (.cells #[.int .i64 0,.int .i64 0,.int .i64 0] 39)).alloc (.cells #[.int .i64 ((A:Int)-512),.int .i64 ((B:Int)-512)] 37)) (w.heap.size+1) (.int .i64 ((A:Int)-512)) (.int .i64 ((B:Int)-512))):=Two2.of_row (t:=37) (heap_new _ _ _ (by simp));have HB0:Hid (Below w.heap.size w ((w.alloc (.cells #[.int .i64 0,.int .i64 0,.int .i64 0] 39)).alloc (.cells #[.int .i64 ((A:Int)-512),.int .i64 ((B:Int)-512)] 37))):=(br.alloc lr _).alloc (by simp) _;have k2:((w.alloc (.cells #[.int .i64 0,.int .i64 0,.int .i64 0] 39)).alloc (.cells #[.int .i64 ((A:Int)-512),.int .i64 ((B:Int)-512)] 37)).heap.size=w.heap.size+2:=by simp
   generalize(w.alloc (.cells #[.int .i64 0,.int .i64 0,.int .i64 0] 39)).alloc (.cells #[.int .i64 ((A:Int)-512),.int .i64 ((B:Int)-512)] 37)=w2 at *;have HBB:Hid (baseB ((A:Int)-512,(B:Int)-512)=true):=by show _=_;rw[baseB_iff];simp only;omega
   have HOK:Hid (isW w0=okD (dgW w0) R 12):=by show _=_;rw[HIS.out,decide_eq_true h0,decide_eq_true h12];rfl
   have HD8:=Hd (dgW_lt w0);have C0:Hid (Two2 w2 (w.heap.size+1) (.int .i64 (((A:Int)-512,(B:Int)-512):E2).1) (.int .i64 (((A:Int)-512,(B:Int)-512):E2).2)):=C0.out;generalize(((A:Int)-512,(B:Int)-512):E2)=b at *;clear v1 v2 v3 hA1 hB1 HBW HIS q1 q2 h0;obtain⟨D,hD⟩:∃D,dgW w0=D:=⟨_,rfl⟩;rw[hD]at HYES HOK HD8;simp only[hD]at HDO;clear hD
   go_loopw [6] (fun i wr=>∃k:Nat,k<=12/\i=.int .i64 (k+1:Nat)/\okD D R k=true/\Hid (Two2 wr (w.heap.size+1) (.int .i64 (dn D b (min k R)).1) (.int .i64 (dn D b (min k R)).2)/\Turn (fun q=>q=w.heap.size+1) w2 wr)) (fun i _=>13-(intOf i).toNat)
   case atStart=>exact⟨0,by omega,rfl,rfl,by rw[Nat.zero_min];exact C0.out,Turn.refl _ _⟩
   case round=>
    obtain⟨k,hk,rfl,hok,HI⟩:=hrel;have hTri:=HI.out.1;have hturn:=HI.out.2;have hsz:=hturn.2.2.2.1;have HT:=Hd (T0.out.turn hturn (by omega));have HBR:Hid (Below w.heap.size w wr):=HB0.out.trans (hturn.below (by omega) fun q hq e=>by omega);have HTU:=Hd hturn;have HTR:=Hd hTri;clear hTri hturn HI;by_cases hk12:k<12
    ·have hd8:=HD8.out (k+1)
     have hdv:=HDO.out k hk12;have HST:Hid (okD D R (k+1)=(okD D R k&&((D (k+1)==7)==decide (R<k+1)))):=rfl;have HDN:Hid (dn D b (k+1)=downE (dn D b k) (D (k+1))):=rfl;have q1:decide (((k+1:Nat):Int)<=12)=true:=decide_eq_true (by omega);have q1':decide ((k:Int)+1<=12)=true:=decide_eq_true (by omega);have qs:decide (36-3*((k:Int)+1)<0)=false:=decide_eq_false (by omega);obtain⟨d,hd⟩:∃d,D (k+1)=d:=⟨_,rfl⟩;rw[hd]at hd8 hdv HST HDN;clear hd;by_cases hd7:d=7
     ·by_cases hkr:R<k+1
      ·have q2:decide ((R:Int)<((k+1:Nat):Int))=true:=decide_eq_true (by omega)
       have q2':decide ((R:Int)<(k:Int)+1)=true:=decide_eq_true (by omega);have HN:okD D R (k+1)=true:=by rw[HST.out,hok,hd7,decide_eq_true hkr];rfl
       have HM:Hid (Two2 wr (w.heap.size+1) (.int .i64 (dn D b (min (k+1) R)).1) (.int .i64 (dn D b (min (k+1) R)).2)):=by
        have:=HTR.out;rw[show min k R=min (k+1) R by omega]at this;exact this
       subst hd7;go_wp2
       go_roundw
       case rel=>exact⟨k+1,by omega,by go_num,HN,HM.out,HTU.out⟩
       case measure=>simp[intOf];omega
      ·have q2:decide ((R:Int)<((k+1:Nat):Int))=false:=decide_eq_false (by omega)
       have q2':decide ((R:Int)<(k:Int)+1)=false:=decide_eq_false (by omega);have HF:=hbad (by rw[HOK.out];exact okD_stop (k:=k+1) (by rw[HST.out,hok,hd7,decide_eq_false hkr];rfl) (by omega));subst hd7;obtain⟨t0,t1,t2,t3,t4,t5,t6⟩:=HT.out.cells;go_wp2;exact bodyPost_ret (v:=.tuple #[.agg #[.int .i64 0,.int .i64 0,.int .i64 0],.int .i64 5]) (by simp[results,Tryz.results14,go_sem, *]) rfl (HF.out _ (((HBR.out.setCell (p:=⟨w.heap.size,0,none⟩) lr _).setCell (p:=⟨w.heap.size,1,none⟩) lr _).setCell (p:=⟨w.heap.size,2,none⟩) lr _))
     ·have q3:((d:Int)==7)=false:=by simp;omega
      have q4:((d:Int) != 7)=true:=by simp;omega
      by_cases hkr:R<k+1
      ·have q2:decide ((R:Int)<((k+1:Nat):Int))=true:=decide_eq_true (by omega)
       have q2':decide ((R:Int)<(k:Int)+1)=true:=decide_eq_true (by omega);have HF:=hbad (by rw[HOK.out];exact okD_stop (k:=k+1) (by rw[HST.out,hok,decide_eq_true hkr,beq_eq_false_iff_ne.2 hd7];rfl) (by omega));obtain⟨t0,t1,t2,t3,t4,t5,t6⟩:=HT.out.cells;go_wp2;exact bodyPost_ret (v:=.tuple #[.agg #[.int .i64 0,.int .i64 0,.int .i64 0],.int .i64 5]) (by simp[results,Tryz.results14,go_sem, *]) rfl (HF.out _ (((HBR.out.setCell (p:=⟨w.heap.size,0,none⟩) lr _).setCell (p:=⟨w.heap.size,1,none⟩) lr _).setCell (p:=⟨w.heap.size,2,none⟩) lr _))
      ·have q2:decide ((R:Int)<((k+1:Nat):Int))=false:=decide_eq_false (by omega)
       have q2':decide ((R:Int)<(k:Int)+1)=false:=decide_eq_false (by omega);have HN:okD D R (k+1)=true:=by rw[HST.out,hok,decide_eq_false hkr,beq_eq_false_iff_ne.2 hd7];rfl
       have hmk:min k R=k:=by omega
       have hmk2:min (k+1) R=k+1:=by omega
       rw[hmk]at HTR;have hdig:∀j,0<j->j<=k->D j<7:=fun j h1 h2=>by
        have h3:=(okD_iff D R k).1 hok j h1 h2;have:=HD8.out j;omega
       have hhx:=(dn_hex HBB.out hdig (Nat.le_refl k)).mono (hexH_le hk);have HMU:=Hd (rmul_in (dn D b k) (2,1) (hhx.sm.mono (by decide)) (by unfold Sm;simp) (by unfold Hex at hhx;unfold Sm mulE;simp only;omega));have hmb:Sm 8589934592 (mulE (dn D b k) (2,1)):=by unfold Hex at hhx;unfold Sm mulE;simp only;omega
       obtain⟨x,hx⟩:∃x,dn D b k=x:=⟨_,rfl⟩;rw[hx]at HMU HTR HDN hmb;have HDE:Hid (dn D b (k+1)=addE (mulE x (2,1)) (leftE d)):=HDN.out;generalize mulE x (2,1)=m at *;simp only[vE]at HMU;obtain⟨⟨c0,c1⟩,c2,c3⟩:=HTR.out;unfold Sm at hmb;obtain⟨hm1,hm2,hm3,hm4⟩:=hmb;clear hhx hdig hx hmk HDN HST hbad HNO HBB HD8
       go_wp2_with fail
       refine(HMU.out _).mono ?_;rintro e w5 ⟨rfl,hb5⟩;have hz5:=hb5.size;have h5:=HTR.out.later (by omega) hb5;have HP:=Hd (h5.put (.int .i64 m.1) (.int .i64 m.2));have HTU2:Hid (Turn (fun q=>q=w.heap.size+1) w2 ((w5.setCell ⟨w.heap.size+1,0,none⟩ (.int .i64 m.1)).setCell ⟨w.heap.size+1,1,none⟩ (.int .i64 m.2))):=(HTU.out.trans (Turn.of_below hb5) fun _ _ h=>h).trans HP.out.2 fun _ _ h=>h
       have hz6:=HP.out.2.2.2.2.1;obtain⟨⟨e0,e1⟩,e2,e3⟩:=h5;clear hb5 c0 c1 c2 c3 HTR HT HTU HMU HBR
       go_upto_region 15 with(fail)
       generalize((w5.setCell ⟨w.heap.size+1,0,none⟩ (.int .i64 m.1)).setCell ⟨w.heap.size+1,1,none⟩ (.int .i64 m.2))=w6 at *;obtain⟨⟨g0,g1⟩,g2,g3⟩:=HP.out.1;clear e0 e1 e2 e3;cases d with
       |zero=>
        have HDZ:Hid (dn D b (k+1)=m):=by show _=_;rw[HDE.out];show(m.1+0,m.2+0)=m;simp
        have HFI:Hid (Two2 w6 (w.heap.size+1) (.int .i64 (dn D b (min (k+1) R)).1) (.int .i64 (dn D b (min (k+1) R)).2)/\Turn (fun q=>q=w.heap.size+1) w2 w6):=⟨by rw[hmk2,HDZ.out];exact HP.out.1,HTU2.out⟩;go_wp2
        go_roundw
        case rel=>exact⟨k+1,by omega,by go_num,HN,HFI.out⟩
        case measure=>simp[intOf];omega
       |succ d=>
        have HDZ:Hid (dn D b (k+1)=addE m (leftE (d+1))):=HDE.out;have HUN:=Hd (runit_in d (by omega));have hul:=left_sm (d+1);have hle:leftE (d+1)=unitE d:=rfl;rw[hle]at HDZ hul;simp only[vE]at HUN;generalize unitE d=u at *;unfold Sm at hul;obtain⟨hu1,hu2,hu3,hu4⟩:=hul;have hws:w.heap.size+1<w6.heap.size:=by omega
        clear hle
        go_wp2_with fail
        refine(HUN.out _).mono ?_;rintro e w7 ⟨rfl,hb7⟩;have hz7:=hb7.size;have hal:Below w7.heap.size w7 (w7.alloc (.cells #[.int .i64 u.1,.int .i64 u.2] 37)):=br.alloc lr _;have k7:=World.size_alloc w7 (.cells #[.int .i64 u.1,.int .i64 u.2] 37);have h8:=(HP.out.1.later hws hb7).later (by omega) hal;have hU8:Two (w7.alloc (.cells #[.int .i64 u.1,.int .i64 u.2] 37)) w7.heap.size (.int .i64 u.1) (.int .i64 u.2):=Two.of_row (t:=37) (f:=_) (heap_new _ _ _ rfl);have HT8:Hid (Turn (fun q=>q=w.heap.size+1) w2 (w7.alloc (.cells #[.int .i64 u.1,.int .i64 u.2] 37))):=(HTU2.out.trans (Turn.of_below hb7) fun _ _ h=>h).trans (Turn.of_below hal) fun _ _ h=>h
        clear hal hb7 g0 g1 g2 g3
        go_upto_region 17 with(fail)
        generalize w7.alloc (.cells #[.int .i64 u.1,.int .i64 u.2] 37)=w8 at *;have hp:=h8.put (.int .i64 (m.1+u.1)) (.int .i64 (m.2+u.2));have HFI:Hid (Two2 ((w8.setCell ⟨w.heap.size+1,0,none⟩ (.int .i64 (m.1+u.1))).setCell ⟨w.heap.size+1,1,none⟩ (.int .i64 (m.2+u.2))) (w.heap.size+1) (.int .i64 (dn D b (min (k+1) R)).1) (.int .i64 (dn D b (min (k+1) R)).2)/\Turn (fun q=>q=w.heap.size+1) w2 ((w8.setCell ⟨w.heap.size+1,0,none⟩ (.int .i64 (m.1+u.1))).setCell ⟨w.heap.size+1,1,none⟩ (.int .i64 (m.2+u.2)))):=⟨by rw[hmk2,HDZ.out];exact hp.1,HT8.out.trans hp.2 fun _ _ h=>h⟩;obtain⟨⟨g0,g1⟩,g2,g3⟩:=h8;obtain⟨i0,i1⟩:=hU8;have hl7:w7.heap.size<w8.heap.size:=by omega
        have hl8:w.heap.size+1<w8.heap.size:=by omega
        clear hp k7;go_wp2
        go_roundw
        case rel=>exact⟨k+1,by omega,by go_num,HN,HFI.out⟩
        case measure=>simp[intOf];omega
    ·obtain rfl:k=12:=by omega
     rw[Nat.min_eq_right h12]at HTR;obtain⟨y1,y2,y3⟩:=HYES.out (by rw[HOK.out];exact hok);have HY:Hid (vC (cvR w0) (cvZ w0)=vC R (dn D b R)/\cvE w0=0):=⟨by rw[y1,y2],y3⟩;obtain⟨⟨c0,c1⟩,c2,c3⟩:=HTR.out;obtain⟨t0,t1,t2,t3,t4,t5,t6⟩:=HT.out.cells;generalize dn D b R=x at *;clear y1 y2 y3 HTR HT HYES;go_wp2;exact bodyPost_ret (v:=.tuple #[.agg #[.int .i64 R,.int .i64 x.1,.int .i64 x.2],.int .i64 0]) (by simp[results,Tryz.results14,go_sem, *]) rfl ⟨by rw[HY.out.1,HY.out.2],(((HBR.out.setCell (p:=⟨w.heap.size,0,none⟩) lr _).setCell (p:=⟨w.heap.size,1,none⟩) lr _).setCell (p:=⟨w.heap.size,2,none⟩) lr _)⟩
  ·have HF:=hbad (by rw[HIS.out,decide_eq_false h12];simp)
   have q2:decide (12<(R:Int))=true:=decide_eq_true (by omega);clear h0
   go_enter Tryz.func14,Tryz.ntmps14
   go_wp2;exact bodyPost_ret (v:=.tuple #[.agg #[.int .i64 0,.int .i64 0,.int .i64 0],.int .i64 5]) (by simp[results,Tryz.results14,go_sem]) rfl (HF.out _ (br.alloc lr _))
 ·have HF:=hbad (by rw[HIS.out,decide_eq_false h0];rfl)
  have q1:((w0:Int)/1152921504606846976 != 1)=true:=by simp;omega
  clear h0
  go_enter Tryz.func14,Tryz.ntmps14
  go_wp2;exact bodyPost_ret (v:=.tuple #[.agg #[.int .i64 0,.int .i64 0,.int .i64 0],.int .i64 5]) (by simp[results,Tryz.results14,go_sem]) rfl (HF.out _ (br.alloc lr _))
abbrev Cl:=Int×E2
def cV(l:List Cl):List Value:=l.flatMap fun c=>[.int .i64 c.1,.int .i64 c.2.1,.int .i64 c.2.2]
def cg(l:List Cl)(k:Nat):Cl:=l.getD k (0,(0,0))
theorem cV_append(a b:List Cl):cV (a++b)=cV a++cV b:=by simp[cV]
theorem cV_get:∀(l:List Cl) (k:Nat),k<l.length->(cV l)[k*3]? =some (.int .i64 (cg l k).1)/\(cV l)[k*3+1]? =some (.int .i64 (cg l k).2.1)/\(cV l)[k*3+2]? =some (.int .i64 (cg l k).2.2)
 |[],k,h=>by simp at h
 |p::l,0,_=>by simp[cV,cg]
 |p::l,k+1,h=>by
  have ih:=cV_get l k (by simpa using h);have e:cV (p::l)=[.int .i64 p.1,.int .i64 p.2.1,.int .i64 p.2.2]++cV l:=rfl;have g:cg (p::l) (k+1)=cg l k:=rfl;rw[e,g,List.getElem?_append_right (by simp;omega),List.getElem?_append_right (by simp;omega),List.getElem?_append_right (by simp;omega)];simp only[List.length_cons,List.length_nil];rw[show (k+1)*3-(0+1+1+1)=k*3 by omega,show(k+1)*3+1-(0+1+1+1)=k*3+1 by omega,show(k+1)*3+2-(0+1+1+1)=k*3+2 by omega];exact ih
def CAt(w:World)(ao:Option Addr)(l:List Cl):Prop:=
 0<l.length->∃b off,ao=some ⟨b,off,none⟩/\b<w.heap.size/\∀k,k<l.length->
  w.cell? ⟨b,off+k*3,none⟩=some (.int .i64 (cg l k).1)/\w.cell? ⟨b,off+k*3+1,none⟩=some (.int .i64 (cg l k).2.1)/\w.cell? ⟨b,off+k*3+2,none⟩=some (.int .i64 (cg l k).2.2)
theorem CAt.below{w w':World}{ao:Option Addr}{l:List Cl}(h:CAt w ao l)(hb:Below w.heap.size w w'):CAt w' ao l:=fun h0=>by
 obtain⟨b,off,e,hlt,hc⟩:=h h0;refine⟨b,off,e,Nat.lt_of_lt_of_le hlt hb.size,fun k hk=>?_⟩;rw[hb.cell (p:=⟨b,_,none⟩) hlt,hb.cell (p:=⟨b,_,none⟩) hlt,hb.cell (p:=⟨b,_,none⟩) hlt];exact hc k hk
theorem cAt_own{w:World}{base n c:Nat}{ao:Option Addr}{l:List Cl}(hn:n=l.length)(h:w.ownsRow base 39 3 (.slice ao n c) n (cV l)):CAt w ao l:=fun h0=>by
 subst hn;obtain⟨ao',c',e,_,hh⟩:=own_form h;cases e;obtain⟨g,rfl,_,hlt,hc⟩:=hh h0;exact⟨g,0,rfl,hlt,fun i hi=>by
  have:=cV_get l i hi;rw[Nat.zero_add];exact⟨hc _ _ this.1,hc _ _ this.2.1,hc _ _ this.2.2⟩⟩
def ToldC(w:World)(L:List Cl)(E:Int)(e:Ending)(w':World):Prop:=∃ao c,e=.returned (.tuple #[.slice ao L.length c,.int .i64 E])/\CAt w' ao L/\Below w.heap.size w w'
def ToldN(w:World)(L:List Cl)(E:Int)(e:Ending)(w':World):Prop:=∃ao c,e=.returned (.tuple #[.slice ao L.length c,.int .i64 E])/\CAt w' ao L/\Below w.heap.size w w'/\∀b o s,ao=some ⟨b,o,s⟩->w.heap.size<=b/\b<w'.heap.size
theorem ToldN.nil{w w':World}{E:Int}(h:Below w.heap.size w w'):ToldN w [] E (.returned (.tuple #[.slice none 0 0,.int .i64 E])) w':=⟨Option.none,0,rfl,fun h=>by simp at h,h,fun _ _ _ h=>by cases h⟩
def kidsL(r:Int)(z:E2):List Cl:=(List.range 7).map fun d=>(r+1,downE z d)
def kdE(r:Int)(z:E2):Int:=if okB r z=true then(if r=12 then 1 else 0)else 2
def kdL(r:Int)(z:E2):List Cl:=if kdE r z=0 then kidsL r z else []
theorem kidsL_take(r:Int)(z:E2){k:Nat}(h:k<7):(kidsL r z).take (k+1)=(kidsL r z).take k++[(r+1,downE z k)]:=by
 rw[List.take_add_one];congr 1;unfold kidsL;rw[List.getElem?_map,List.getElem?_range h]
 rfl
theorem kidsL_get(r:Int)(z:E2){k:Nat}(h:k<7):cg (kidsL r z) k=(r+1,downE z k):=by
 unfold cg kidsL;rw[List.getD_eq_getElem?_getD,List.getElem?_map,List.getElem?_range h]
 rfl
theorem info_c:(Tryz.prog.info? 39).map (fun i=>(i.zero,i.size,i.bytes))=some (some (.agg #[.int .i64 0,.int .i64 0,.int .i64 0]),3,24):=by kernel_rfl
theorem ok_parts{r:Int}{z:E2}(h:okB r z=true):0<=r/\r<=12/\Sm 1073741824 z:=by
 have h1:=(shapeB_iff _ _).1 ((okB_iff _ _).1 h).1;exact⟨h1.1,h1.2.1,h1.2.2.1,h1.2.2.2.1,h1.2.2.2.2.1,h1.2.2.2.2.2⟩
theorem rkids_new(r:Int)(z:E2)(w:World):Calls Tryz.prog 92 #[vC r z] w (ToldN w (kdL r z) (kdE r z)):=by
 obtain⟨i1,hj,hy0,hy1,hy2⟩:=info_parts info_c;have HOK:=Hd (rok_any r z);have HAL:Hid (Below w.heap.size w (w.alloc (.cells #[.int .i64 r,.int .i64 z.1,.int .i64 z.2] 39))):=br.alloc lr _;have HTR:Hid (Tri (w.alloc (.cells #[.int .i64 r,.int .i64 z.1,.int .i64 z.2] 39)) w.heap.size r z):=heap_new _ _ _ rfl;have kA:(w.alloc (.cells #[.int .i64 r,.int .i64 z.1,.int .i64 z.2] 39)).heap.size=w.heap.size+1:=by simp
 by_cases h:okB r z=true
 ·obtain⟨r0,r12,hsm⟩:=ok_parts h
  rw[h]at HOK;by_cases hr:r=12
  ·subst hr
   have hE:kdE 12 z=1:=by unfold kdE;rw[if_pos h,if_pos rfl]
   have hL:kdL 12 z=[]:=by unfold kdL;rw[hE];rfl
   rw[hE,hL];clear hE hL h hsm r0 r12;simp only[vC]at*
   go_enter Tryz.func92,Tryz.ntmps92
   go_wp2_with fail
   refine(HOK.out _).mono ?_;rintro e w1 ⟨rfl,hb1⟩;obtain⟨c0,c1,c2,c3,c4,c5,c6⟩:=(HTR.out.later hb1).cells;have HB:=Hd (HAL.out.trans (hb1.mono (by omega)));clear hb1;go_wp2;go_ret2;exact ToldN.nil HB.out
  ·have hE:kdE r z=0:=by unfold kdE;rw[if_pos h,if_neg hr]
   have hL:kdL r z=kidsL r z:=by unfold kdL;rw[if_pos hE]
   have q1:(r==12)=false:=by simp[hr]
   have hm:Sm 4294967296 (mulE z (2,1)):=by unfold Sm mulE at *;simp only;omega
   have HMU:=Hd (rmul_in z (2,1) (hsm.mono (by decide)) (by unfold Sm;simp) (hm.mono (by decide)));have HDN:Hid (∀ k,downE z (k+1)=((mulE z (2,1)).1+(unitE k).1,(mulE z (2,1)).2+(unitE k).2)):=fun k=>rfl
   have HD0:Hid (downE z 0=mulE z (2,1)):=by
    show addE (mulE z (2,1)) (0,0)=_;unfold addE;simp
   rw[hE,hL];have HTK:=Hd (fun k (h:k<7)=>kidsL_take r z h);have HLN:Hid ((kidsL r z).length=7):=by show _=_;unfold kidsL;simp
   have HT1:Hid ((kidsL r z).take 1=[(r+1,downE z 0)]):=rfl;generalize kidsL r z=L at *;generalize mulE z (2,1)=m at *;unfold Sm at hm;obtain⟨m1,m2,m3,m4⟩:=hm;clear hE hL h hsm hr;simp only[vC,vE]at*
   go_enter Tryz.func92,Tryz.ntmps92
   go_wp2_with fail
   refine(HOK.out _).mono ?_;rintro e w1 ⟨rfl,hb1⟩;have HTR1:=Hd (HTR.out.later hb1);obtain⟨c0,c1,c2,c3,c4,c5,c6⟩:=HTR1.out.cells;have HB1:=Hd (HAL.out.trans (hb1.mono (by omega)));have hz1:=hb1.size;clear hb1 HTR HAL
   go_wp2_with fail
   refine(HMU.out _).mono ?_;rintro e w2 ⟨rfl,hb2⟩;have HTR2:=Hd (HTR1.out.later hb2);have HB2:=Hd (HB1.out.trans (hb2.mono (by omega)));have hz2:=hb2.size;clear hb2 HTR1 HB1 c0 c1 c2 c3 c4 c5 c6;have hal:Below w2.heap.size w2 (w2.alloc (.cells #[.int .i64 m.1,.int .i64 m.2] 37)):=br.alloc lr _;have M0:Hid (Two (w2.alloc (.cells #[.int .i64 m.1,.int .i64 m.2] 37)) w2.heap.size (.int .i64 m.1) (.int .i64 m.2)):=Two.of_row (t:=37) (f:=_) (heap_new _ _ _ rfl);have HTR3:=Hd (HTR2.out.later hal);have HB3:=Hd (HB2.out.trans (hal.mono (by omega)));have hz3:w2.heap.size<(w2.alloc (.cells #[.int .i64 m.1,.int .i64 m.2] 37)).heap.size:=by simp
   clear hal HTR2 HB2
   go_upto_region 6 with(fail)
   generalize w2.alloc (.cells #[.int .i64 m.1,.int .i64 m.2] 37)=w3 at *;obtain⟨c0,c1,c2,c3,c4,c5,c6⟩:=HTR3.out.cells;obtain⟨d0,d1⟩:=M0.out;have q3:IntKind.i64.wrap (r+1)=r+1:=wrap_in (by omega) (by omega)
   go_upto_region 7 with(fail)
   have HO0:Hid ((w3.alloc (.cells #[.int .i64 (r+1),.int .i64 m.1,.int .i64 m.2] 39)).ownsRow w3.heap.size 39 3 (.slice (some ⟨w3.heap.size,0,none⟩) 1 1) 1 (cV (L.take 1))):=by rw[HT1.out,HD0.out];exact World.ownsRow_lit (size:=3) (e:=39) w3 #[.int .i64 (r+1),.int .i64 m.1,.int .i64 m.2] 1 lr (by decide) rfl
   have HB4:Hid (Below w3.heap.size w3 (w3.alloc (.cells #[.int .i64 (r+1),.int .i64 m.1,.int .i64 m.2] 39))):=br.alloc lr _;generalize w3.alloc (.cells #[.int .i64 (r+1),.int .i64 m.1,.int .i64 m.2] 39)=w4 at *;clear c0 c1 c2 c3 c4 c5 d0 d1;have hb4:=HB4.out.size;go_wp2
   go_loopw [6,7] (fun sl i wr=>∃(k:Nat) (ao:Option Addr) (c:Nat),k<=6/\i=.int .i64 k/\sl=.slice ao (k+1) c/\Hid (wr.ownsRow w3.heap.size 39 3 (.slice ao (k+1) c) (k+1) (cV (L.take (k+1)))/\Below w3.heap.size w3 wr)) (fun _ i _=>6-(intOf i).toNat)
   case atStart=>exact⟨0,_,_,by omega,rfl,rfl,HO0.out,HB4.out⟩
   case round=>
    obtain⟨k,ao,c,hk,rfl,rfl,HI⟩:=hrel;by_cases hlt:k<6
    ·have q2:decide ((k:Int)<6)=true:=decide_eq_true (by omega)
     have HUN:=Hd (runit_in k hlt);have hu:=left_sm (k+1);rw[show leftE (k+1)=unitE k from rfl]at hu;unfold Sm at hu;obtain⟨u1,u2,u3,u4⟩:=hu;have HTK2:=Hd (HTK.out (k+1) (by omega));rw[HDN.out k]at HTK2;simp only[vE]at HUN;generalize unitE k=u at *;have hsr:=HI.out.2.size;have HTX:=Hd (HTR3.out.later HI.out.2);have HMX:=Hd (M0.out.later (by omega) HI.out.2);have HOW:=Hd HI.out.1;have HBW:=Hd (HB3.out.trans (HI.out.2.mono (by omega)));have HBX:=Hd HI.out.2;clear HI
     go_wp2_with fail
     refine(HUN.out _).mono ?_;rintro e w5 ⟨rfl,hb5⟩;have hz5:=hb5.size;have HTY:=Hd (HTX.out.later hb5);have HMY:=Hd (HMX.out.later (by omega) hb5);have HOY:=Hd (own_later HOW.out hb5);have HBY:=Hd (HBX.out.trans (hb5.mono (by omega)));clear hb5 HTX HMX HOW HBX HBW;have hal:Below w5.heap.size w5 (w5.alloc (.cells #[.int .i64 u.1,.int .i64 u.2] 37)):=br.alloc lr _;have U0:Hid (Two (w5.alloc (.cells #[.int .i64 u.1,.int .i64 u.2] 37)) w5.heap.size (.int .i64 u.1) (.int .i64 u.2)):=Two.of_row (t:=37) (f:=_) (heap_new _ _ _ rfl);have HTZ:=Hd (HTY.out.later hal);have HMZ:=Hd (HMY.out.later (by omega) hal);have HOZ:=Hd (own_later HOY.out hal);have HBZ:=Hd (HBY.out.trans (hal.mono (by omega)));have hz6:w5.heap.size<(w5.alloc (.cells #[.int .i64 u.1,.int .i64 u.2] 37)).heap.size:=by simp
     clear hal HTY HMY HOY HBY
     go_upto_region 11 with(fail)
     generalize w5.alloc (.cells #[.int .i64 u.1,.int .i64 u.2] 37)=w6 at *;obtain⟨c0,c1,c2,c3,c4,c5,c6⟩:=HTZ.out.cells;obtain⟨d0,d1⟩:=HMZ.out;obtain⟨e0,e1⟩:=U0.out;clear HTZ HMZ U0 c1 c2 c3 c4 c5;have hown:=HOZ.out;clear HOZ
     go_wp2_with(at_builtin;refine wpList_append_own _ rfl (.tmp 36) (.tmp 52) 134 rfl w3.heap.size 39 i1 (.agg #[.int .i64 0,.int .i64 0,.int .i64 0]) 3 24 Tryz.underlying134 hj hy0 hy1 hy2 rfl (by decide) _ _ _ rfl (hown.alloc _) ⟨w6.heap.size,0,none⟩ 1 1 [.int .i64 (r+1),.int .i64 (m.1+u.1),.int .i64 (m.2+u.2)] rfl rfl (cells_new _ _ _ _ rfl) (by simp[Value.oneCell']) (by unfold maxLen;omega) (by omega) (by simp;omega) ?_;intro v' w7 hown1 hgrow _)
     have HB7:Hid (Below w3.heap.size w3 w7):=below_append (HBZ.out.alloc (by omega) (.cells #[.int .i64 (r+1),.int .i64 (m.1+u.1),.int .i64 (m.2+u.2)] 39)) (hown.alloc (.cells #[.int .i64 (r+1),.int .i64 (m.1+u.1),.int .i64 (m.2+u.2)] 39)) (by simp;omega) hgrow;obtain⟨ao',c',rfl,_⟩:=own_form hown1;have HO7:Hid (w7.ownsRow w3.heap.size 39 3 (.slice ao' (k+1+1) c') (k+1+1) (cV (L.take (k+1+1)))):=by rw[HTK2.out,cV_append];exact hown1
     clear hown1 hgrow hown;go_wp2
     go_roundw
     case rel=>exact⟨k+1,ao',c',by omega,by go_num,rfl,HO7.out,HB7.out⟩
     case measure=>simp[intOf];omega
    ·obtain rfl:k=6:=by omega
     have HF:Hid (ToldN w L 0 (.returned (.tuple #[.slice ao 7 c,.int .i64 0])) wr):=by
      have h1:=HI.out.1;rw[show L.take (6+1)=L from List.take_of_length_le (by rw[HLN.out];exact lr)]at h1;exact⟨ao,c,by rw[HLN.out],cAt_own (by rw[HLN.out]) h1,HB3.out.trans (HI.out.2.mono (by omega)),fun b o s e=>⟨by have:=(own_lt h1 b o s e).1;omega,(own_lt h1 b o s e).2⟩⟩
     clear HI;go_wp2;go_ret2;exact HF.out
 ·have hE:kdE r z=2:=by unfold kdE;rw[if_neg h]
  have hL:kdL r z=[]:=by unfold kdL;rw[hE];rfl
  rw[hE,hL];rw[Bool.eq_false_iff.2 h]at HOK;clear hE hL h;simp only[vC]at*
  go_enter Tryz.func92,Tryz.ntmps92
  go_wp2_with fail
  refine(HOK.out _).mono ?_;rintro e w1 ⟨rfl,hb1⟩;have HB:=Hd (HAL.out.trans (hb1.mono (by omega)));clear hb1;go_wp2;go_ret2;exact ToldN.nil HB.out
theorem rkids_any(r:Int)(z:E2)(w:World):Calls Tryz.prog 92 #[vC r z] w (ToldC w (kdL r z) (kdE r z)):=
 (rkids_new r z w).mono fun _ _ ⟨ao,c,h1,h2,h3,_⟩=>⟨ao,c,h1,h2,h3⟩
theorem ofW_ok{r:Nat}{z:E2}(h:okB r z=true):ofW r z=wordN r z/\ofE r z=0/\ofW r z<18446744073709551616:=by
 unfold ofW ofE;rw[if_pos h,if_pos h];have:=wordN_lt h;exact⟨rfl,rfl,by show wordN r z<_;omega⟩
theorem kid_ok{r:Nat}{z:E2}(h:okB r z=true)(hr:r+1<=12){d:Nat}(hd:d<7):okB (r+1:Nat) (downE z d)=true:=by
 refine ok_of_base hr ?_;have e:upN (r+1) (downE z d)=upN r z:=by
  show upN r (upE (downE z d))=_;rw[upE_down z hd]
 rw[e];exact(okB_parts h).2
theorem kd_ok{r:Nat}{z:E2}(h:okB r z=true)(hr:r+1<=12):kdE r z=0/\kdL r z=kidsL r z:=by
 have hE:kdE r z=0:=by unfold kdE;rw[if_pos h,if_neg (by omega)]
 exact⟨hE,by unfold kdL;rw[if_pos hE]⟩
theorem take_w(V:List Int){k:Nat}(h:k<V.length):V.take (k+1)=V.take k++[V.getD k 0]:=by
 rw[List.take_add_one,List.getElem?_eq_getElem h,List.getD_eq_getElem?_getD,List.getElem?_eq_getElem h]
 rfl
end
section
open Go.RowKit Go.Lib Wd Cv
theorem cel3{wx:World}{b:Nat}{t:TypeId}{u v s:Int}(h:wx.heap[b]? =some (.cells #[.int .i64 u,.int .i64 v,.int .i64 s] t (0,0))):wx.cell? ⟨b,0,none⟩=some (.int .i64 u)/\wx.cell? ⟨b,1,none⟩=some (.int .i64 v)/\wx.cell? ⟨b,2,none⟩=some (.int .i64 s)/\b<wx.heap.size:=⟨cell_of_row _ _ 0 _ _ _ h,cell_of_row _ _ 1 _ _ _ h,cell_of_row _ _ 2 _ _ _ h,(Array.getElem?_eq_some_iff.1 h).1⟩
theorem cel2{wx:World}{b:Nat}{t:TypeId}{u v:Int}(h:wx.heap[b]? =some (.cells #[.int .i64 u,.int .i64 v] t (0,0))):wx.cell? ⟨b,0,none⟩=some (.int .i64 u)/\wx.cell? ⟨b,1,none⟩=some (.int .i64 v)/\b<wx.heap.size:=⟨cell_of_row _ _ 0 _ _ _ h,cell_of_row _ _ 1 _ _ _ h,(Array.getElem?_eq_some_iff.1 h).1⟩
def Stay(w:World)(b:Nat)(o:Obj):Prop:=∀wx,Below w.heap.size w wx->wx.heap[b]? =some o
theorem stay_of{w:World}{b:Nat}{o:Obj}(h:w.heap[b]? =some o):Stay w b o:=fun _ hx=>(hx.block b (Array.getElem?_eq_some_iff.1 h).1).trans h
theorem res_of(r:Int):∃(s:Int) (R:Nat),r.tmod 13=s/\ -13<s/\s<13/\(s+13).tmod 13=(R:Int)/\R<=12/\r%13=(R:Int):=by
 obtain⟨⟨h1,h2⟩,h3⟩:=rem13 r;exact⟨_,(r%13).toNat,rfl,h1,h2,by rw[h3];omega,by omega,by omega⟩
theorem take_get{L:List Int}{k:Nat}(h:k<L.length):L.take (k+1)=L.take k++[L.getD k 0]:=by
 rw[List.take_add_one,List.getElem?_eq_getElem h,List.getD_eq_getElem?_getD,List.getElem?_eq_getElem h];rfl
theorem filt_yes{p:Int->Bool}{L:List Int}{k:Nat}(h:k<L.length)(hp:p (L.getD k 0)=true):(L.take (k+1)).filter p=(L.take k).filter p++[L.getD k 0]:=by
 rw[take_get h,List.filter_append,List.filter_cons_of_pos (by exact hp),List.filter_nil]
theorem filt_no{p:Int->Bool}{L:List Int}{k:Nat}(h:k<L.length)(hp:p (L.getD k 0)=false):(L.take (k+1)).filter p=(L.take k).filter p:=by
 rw[take_get h,List.filter_append,List.filter_cons_of_neg (by rw[hp];simp),List.filter_nil,List.append_nil]
def RcP(w:World)(M:List Int)(e:Ending)(w':World):Prop:=∃ao' m c',e=.returned (.slice ao' m c')/\m=M.length/\WordsAt w' w'.heap.size ao' M/\Below w.heap.size w w'
theorem rcens_any(R:Nat)(hR:R<=12)(lo hi:E2)(ao:Option Addr)(n c:Nat)(L:List Int)(w:World)(hn:n=L.length)(hb:n<=1000000)(hw:WordsAt w w.heap.size ao L)(hok:∀x∈L,∃z,okB R z=true/\x=(wordN R z:Nat)):
  Calls Tryz.prog 51 #[.slice ao n c,vE lo,vE hi] w (RcP w (L.filter (cenB R lo hi))):=by
 obtain⟨i0,hi0,hz0,hz1,hz2⟩:=info_parts info_u;have HK:Hid (∀ k,k<n->∃(W:Nat) (z:E2) (x y:Int),L.getD k 0=W/\(∀ w,Calls Tryz.prog 14 #[.int .u64 W] w fun e w'=>e=.returned (.tuple #[vC R z,.int .i64 0])/\Below w.heap.size w w')/\
   (∀ w,Calls Tryz.prog 15 #[vE z,.int .i64 R] w fun e w'=>e=.returned (.tuple #[.int .i64 x,.int .i64 y,.bool true])/\Below w.heap.size w w')/\cenB R lo hi (L.getD k 0)=inB lo hi (x,y)):=fun k hk=>by
  obtain⟨z,hz,e⟩:=hok _ (getD_mem (l:=L) (j:=k) (by omega));obtain⟨v1,v2,v3⟩:=word_cell hz;have hlt:=(wordN_lt hz).1;have hsm:Sm 1073741824 z:=by
   have:=(shapeB_iff R z).1 ((okB_iff R z).1 hz).1;unfold Sm;omega
  refine⟨wordN R z,z,(atE (12-R) z).1,(atE (12-R) z).2,e,fun w=>?_,fun w=>rcentre_in z hsm R hR w,?_⟩
  ·have:=rcell_any (wordN R z) (by omega) w
   unfold cvR cvZ cvE at this;rw[if_pos v1,if_pos v1,if_pos v1,v2,v3]at this;exact this
  ·rw[e]
   unfold cenB;rw[Int.toNat_natCast,v3]
 have HN:=Hd hn;have HYES:=Hd (fun k (h:k<L.length)=>filt_yes (p:=cenB R lo hi) (L:=L) h);have HNO:=Hd (fun k (h:k<L.length)=>filt_no (p:=cenB R lo hi) (L:=L) h);have HEND:Hid ((L.take n).filter (cenB R lo hi)=L.filter (cenB R lo hi)):=by
  show _=_;rw[List.take_of_length_le (by omega)]
 generalize cenB R lo hi=p at *;obtain⟨lx,ly⟩:=lo;obtain⟨ux,uy⟩:=hi;obtain⟨w1,hw1⟩:∃W,(w.alloc (.cells #[.int .i64 lx,.int .i64 ly] 26)).alloc (.cells #[.int .i64 ux,.int .i64 uy] 26)=W:=⟨_,rfl⟩;have hb1:Below w.heap.size w w1:=by rw[<- hw1];exact(br.alloc lr _).alloc (by simp) _
 have x0:w1.heap[w.heap.size]? =some (.cells #[.int .i64 lx,.int .i64 ly] 26 (0,0)):=by
  rw[<- hw1,Below.heap_alloc _ _ _ (by simp)];exact heap_new _ _ _ rfl
 have x1:w1.heap[w.heap.size+1]? =some (.cells #[.int .i64 ux,.int .i64 uy] 26 (0,0)):=by rw[<- hw1];exact heap_new _ _ _ (by simp)
 have HP0:=Hd (stay_of x0);have HP1:=Hd (stay_of x1);have HB1:=Hd hb1;have HW:=Hd ((hw.below hb1 lr).wider hb1.size);have HW1:=Hd hw1;clear hw1 hb1 x0 x1 hw hok hn;simp only[vE,vC]at*
 go_enter Tryz.func51,Tryz.ntmps51
 go_upto_region 1 with(fail)
 rw[HW1.out];clear HW1
 go_upto_region 3 with(fail)
 go_loopg [7,8] n (fun q s7 s8 wr=>∃(k m:Nat) (bo:Option Addr) (d:Nat),s7=.slice bo m d/\s8=.int .i64 k/\k<=n/\m<=k/\n-k<=q/\Hid (m=((L.take k).filter p).length/\wr.ownsRow w1.heap.size 35 1 (.slice bo m d) m (uV ((L.take k).filter p))/\Below w1.heap.size w1 wr))
 case atStart=>exact⟨0,0,_,_,rfl,by go_num,by omega,by omega,by omega,rfl,World.ownsRow_nil _ _ _ _,br⟩
 case round=>
  obtain⟨k,m,bo,d,rfl,rfl,hk,hm,hq,HR⟩:=hrel;by_cases hlt:k<n
  ·obtain⟨W,z,x,y,hWk,hcl,hce,hpk⟩:=HK.out k hlt
   obtain⟨b,off,rfl,hb2,hcs⟩:=(HW.out.below HR.out.2.2 lr) (by have:=HN.out;omega);have c0:=hcs k (by have:=HN.out;omega);rw[hWk]at c0;have hcx:∀wx,Below wr.heap.size wr wx->wx.cell? ⟨b,off+k,none⟩=some (.int .u64 W):=fun wx hx=>(hx.cell (p:=⟨b,off+k,none⟩) (Nat.lt_of_lt_of_le hb2 HR.out.2.2.size)).trans c0
   have HCX:=Hd hcx;have HC1:=Hd hcl;have HC2:=Hd hce;have HPK:=Hd hpk;have HWK:=Hd hWk;have hki:(k:Int)<(n:Int):=by omega
   clear hcs hcl hce hpk hWk hcx
   go_upto_region 5 with(fail)
   go_wp2_with fail
   refine(HC1.out _).mono ?_;rintro e w5 ⟨rfl,hb5⟩;have K5:Below wr.heap.size wr (w5.alloc (.cells #[.int .i64 R,.int .i64 z.1,.int .i64 z.2] 39)):=hb5.alloc hb5.size _;have x5:(w5.alloc (.cells #[.int .i64 R,.int .i64 z.1,.int .i64 z.2] 39)).heap[w5.heap.size]? =some (.cells #[.int .i64 R,.int .i64 z.1,.int .i64 z.2] 39 (0,0)):=heap_new _ _ _ rfl;clear hb5 c0 HC1
   go_upto_region 6 with(fail)
   generalize w5.alloc (.cells #[.int .i64 R,.int .i64 z.1,.int .i64 z.2] 39)=w6 at *;generalize w5.heap.size=dd at *;obtain⟨k1,k2,k3,k4⟩:=cel3 x5;have HB6:=Hd K5;clear K5 x5
   go_wp2_with fail
   refine(HC2.out _).mono ?_;rintro e w7 ⟨rfl,hb7⟩;have HB7:=Hd (HB6.out.trans (hb7.mono HB6.out.size));clear hb7 HC2 HB6 k1 k2 k3 k4;obtain⟨l0,l1,l2⟩:=cel2 (HP0.out w7 (HR.out.2.2.trans (HB7.out.mono HR.out.2.2.size)));obtain⟨u0,u1,u2⟩:=cel2 (HP1.out w7 (HR.out.2.2.trans (HB7.out.mono HR.out.2.2.size)));have hkL:k<L.length:=by have:=HN.out;omega
   have hNo:p (L.getD k 0)=false->(m=((L.take (k+1)).filter p).length/\w7.ownsRow w1.heap.size 35 1 (.slice bo m d) m (uV ((L.take (k+1)).filter p))/\Below w1.heap.size w1 w7):=fun h=>by
    rw[HNO.out k hkL h];exact⟨HR.out.1,own_later HR.out.2.1 HB7.out,HR.out.2.2.trans (HB7.out.mono HR.out.2.2.size)⟩
   have HNo:=Hd hNo;clear hNo hkL
   go_upto_region 7 with(fail)
   by_cases c1:x<lx
   ·have hv:Hid (p (L.getD k 0)=false):=by show _=_;rw[HPK.out];unfold inB;simp;omega
    clear HK HEND HYES HPK;go_wp2
    go_roundg (n-(k+1))
    case measure=>omega
    case rel=>exact⟨k+1,m,bo,d,rfl,by go_num,by omega,by omega,lr,HNo.out hv.out⟩
   ·by_cases c2:ux<x
    ·have hv:Hid (p (L.getD k 0)=false):=by show _=_;rw[HPK.out];unfold inB;simp;omega
     clear HK HEND HYES HPK;go_wp2
     go_roundg (n-(k+1))
     case measure=>omega
     case rel=>exact⟨k+1,m,bo,d,rfl,by go_num,by omega,by omega,lr,HNo.out hv.out⟩
    ·by_cases c3:y<ly
     ·have hv:Hid (p (L.getD k 0)=false):=by show _=_;rw[HPK.out];unfold inB;simp;omega
      clear HK HEND HYES HPK;go_wp2
      go_roundg (n-(k+1))
      case measure=>omega
      case rel=>exact⟨k+1,m,bo,d,rfl,by go_num,by omega,by omega,lr,HNo.out hv.out⟩
     ·by_cases c4:uy<y
      ·have hv:Hid (p (L.getD k 0)=false):=by show _=_;rw[HPK.out];unfold inB;simp;omega
       clear HK HEND HYES HPK;go_wp2
       go_roundg (n-(k+1))
       case measure=>omega
       case rel=>exact⟨k+1,m,bo,d,rfl,by go_num,by omega,by omega,lr,HNo.out hv.out⟩
      ·have g1:lx<=x:=by omega
       have g2:x<=ux:=by omega
       have g3:ly<=y:=by omega
       have g4:y<=uy:=by omega
       have hv:Hid (p (L.getD k 0)=true):=by show _=_;rw[HPK.out];unfold inB;simp;omega
       have hown:=own_later HR.out.2.1 HB7.out;have hsz:w1.heap.size<=w7.heap.size:=Nat.le_trans HR.out.2.2.size HB7.out.size;have c7:=HCX.out w7 HB7.out;have HFY:Hid ((L.take (k+1)).filter p=(L.take k).filter p++[(W:Int)]):=by show _=_;rw[HYES.out k (by have:=HN.out;omega) hv.out,HWK.out]
       have HB1R:=Hd (HR.out.2.2.trans (HB7.out.mono HR.out.2.2.size));have HML:=Hd HR.out.1;clear HK HEND HYES HPK HR HNo
       go_wp2_with(at_builtin;refine wpList_append_own _ rfl (.tmp 59) (.tmp 64) 22 rfl w1.heap.size 35 i0 (.int .u64 0) 1 8 Tryz.underlying22 hi0 hz0 hz1 hz2 rfl (by decide) _ _ _ rfl (hown.alloc _) ⟨w7.heap.size,0,none⟩ 1 1 [.int .u64 W] rfl rfl (cells_new _ _ _ _ rfl) (by simp[Value.oneCell']) (by unfold maxLen;omega) (by omega) (by simp;omega) ?_;intro v' w9 hown1 hgrow hnil)
       have HB9:Hid (Below w1.heap.size w1 w9):=below_append (HB1R.out.alloc (by omega) (.cells #[.int .u64 W] 35)) (hown.alloc (.cells #[.int .u64 W] 35)) (by simp;omega) hgrow;obtain⟨ao',c',rfl,_⟩:=own_form hown1;have ho9:w9.ownsRow w1.heap.size 35 1 (.slice ao' (m+1) c') (m+1) (uV ((L.take (k+1)).filter p)):=by rw[HFY.out];simpa[uV]using hown1
       have HO9:=Hd ho9;have HM9:Hid (m+1=((L.take (k+1)).filter p).length):=by show _=_;rw[HFY.out,List.length_append, <-HML.out];rfl
       clear hown1 hgrow hown ho9;go_wp2
       go_roundg (n-(k+1))
       case measure=>omega
       case rel=>exact⟨k+1,m+1,ao',c',rfl,by go_num,by omega,by omega,lr,HM9.out,HO9.out,HB9.out⟩
  ·obtain rfl:k=n:=by omega
   have hki:¬(k:Int)<(k:Int):=by omega
   have HF:=Hd HR.out;rw[HEND.out]at HF;have HBR:=Hd (HB1.out.trans (HF.out.2.2.mono HB1.out.size));clear HR HK HEND;go_wp2;go_ret;exact⟨bo,m,d,rfl,HF.out.1,words_own HF.out.1 HF.out.2.1,HBR.out⟩
end
section
open Go.RowKit Go.Lib Wd
theorem rworld_any(x y:Int)(w:World):Calls Tryz.prog 42 #[.int .i64 x,.int .i64 y] w fun e w'=>e=.returned (.bool (worldB x y))/\w'=w:=by
 have HF:Hid (worldB x y=(decide (0<=x)&&decide (x<1073741824)&&(decide (0<=y)&&decide (y<1073741824)))):=rfl;obtain⟨b,hb⟩:∃b,worldB x y=b:=⟨_,rfl⟩;rw[hb]at HF ⊢;clear hb;obtain⟨b0,h0⟩:∃b,decide (0<=x)=b:=⟨_,rfl⟩;obtain⟨b1,h1⟩:∃b,decide (x<1073741824)=b:=⟨_,rfl⟩;obtain⟨b2,h2⟩:∃b,decide (0<=y)=b:=⟨_,rfl⟩;obtain⟨b3,h3⟩:∃b,decide (y<1073741824)=b:=⟨_,rfl⟩;rw[h0,h1,h2,h3]at HF;cases b0 <;> cases b1 <;> cases b2 <;> cases b3
 all_goals
  go_enter Tryz.func42,Tryz.ntmps42
  go_wp2;go_ret;exact⟨ret_bool (by rw[HF.out];rfl),rfl⟩
theorem bmay_any(lo hi:E2)(r:Int)(w:World):Calls Tryz.prog 20 #[vE lo,vE hi,.int .i64 r] w fun e w'=>e=.returned (.int .i64 (chE lo hi r))/\Below w.heap.size w w':=by
 obtain⟨l1,l2⟩:=lo;obtain⟨h1,h2⟩:=hi;have HX:Hid (chE (l1,l2) (h1,h2) r=if r<0∨12<r then 1 else if worldB l1 l2=true/\worldB h1 h2=true then(if h1<l1∨h2<l2 then 1 else 0)else 4):=rfl;generalize chE (l1,l2) (h1,h2) r=X at *;have HPL:=Hd (fun w=>rworld_any l1 l2 w);have HPH:=Hd (fun w=>rworld_any h1 h2 w);generalize worldB l1 l2=p at *;generalize worldB h1 h2=q at *;obtain⟨w1,hw1⟩:∃W,(w.alloc (.cells #[.int .i64 l1,.int .i64 l2] 26)).alloc (.cells #[.int .i64 h1,.int .i64 h2] 26)=W:=⟨_,rfl⟩;have hb1:Below w.heap.size w w1:=by rw[<- hw1];exact(br.alloc lr _).alloc (by simp) _
 have hx:w1.heap[w.heap.size]? =some (.cells #[.int .i64 l1,.int .i64 l2] 26 (0,0)):=by
  rw[<- hw1,Below.heap_alloc _ _ _ (by simp)];exact heap_new _ _ _ rfl
 have hy:w1.heap[w.heap.size+1]? =some (.cells #[.int .i64 h1,.int .i64 h2] 26 (0,0)):=by rw[<- hw1];exact heap_new _ _ _ (by simp)
 have a0:w1.cell? ⟨w.heap.size,0,none⟩=some (.int .i64 l1):=cell_of_row w1 _ 0 _ _ _ hx;have a1:w1.cell? ⟨w.heap.size,1,none⟩=some (.int .i64 l2):=cell_of_row w1 _ 1 _ _ _ hx;have b0:w1.cell? ⟨w.heap.size+1,0,none⟩=some (.int .i64 h1):=cell_of_row w1 _ 0 _ _ _ hy;have b1:w1.cell? ⟨w.heap.size+1,1,none⟩=some (.int .i64 h2):=cell_of_row w1 _ 1 _ _ _ hy;have s0:=(Array.getElem?_eq_some_iff.1 hx).1;have s1:=(Array.getElem?_eq_some_iff.1 hy).1;have HW1:=Hd hw1;have HB1:=Hd hb1;clear hw1 hb1 hx hy;simp only[vE];by_cases c1:r<0
 ·have HXX:Hid (X=1):=by show _=_;rw[HX.out,if_pos (.inl c1)]
  clear HX
  go_enter Tryz.func20,Tryz.ntmps20
  go_upto_region 1 with(fail)
  rw[HW1.out];go_wp2;go_ret;exact⟨by rw[HXX.out];rfl,HB1.out⟩
 by_cases c2:12<r
 ·have HXX:Hid (X=1):=by show _=_;rw[HX.out,if_pos (.inr c2)]
  clear HX
  go_enter Tryz.func20,Tryz.ntmps20
  go_upto_region 1 with(fail)
  rw[HW1.out];go_wp2;go_ret;exact⟨by rw[HXX.out];rfl,HB1.out⟩
 rw[if_neg (by omega)]at HX;cases p with
 |false=>
  have HXX:Hid (X=4):=by show _=_;rw[HX.out,if_neg (by simp)]
  clear HX
  go_enter Tryz.func20,Tryz.ntmps20
  go_upto_region 1 with(fail)
  rw[HW1.out]
  go_wp2_with fail
  refine(HPL.out _).mono ?_;rintro e w2 ⟨rfl,rfl⟩;go_wp2;go_ret;exact⟨by rw[HXX.out];rfl,HB1.out⟩
 |true=>
  cases q with
  |false=>
   have HXX:Hid (X=4):=by show _=_;rw[HX.out,if_neg (by simp)]
   clear HX
   go_enter Tryz.func20,Tryz.ntmps20
   go_upto_region 1 with(fail)
   rw[HW1.out]
   go_wp2_with fail
   refine(HPL.out _).mono ?_;rintro e w2 ⟨rfl,rfl⟩
   go_wp2_with fail
   refine(HPH.out _).mono ?_;rintro e w2 ⟨rfl,rfl⟩;go_wp2;go_ret;exact⟨by rw[HXX.out];rfl,HB1.out⟩
  |true=>
   rw[if_pos ⟨rfl,rfl⟩]at HX;by_cases c3:h1<l1
   ·have HXX:Hid (X=1):=by show _=_;rw[HX.out,if_pos (.inl c3)]
    clear HX
    go_enter Tryz.func20,Tryz.ntmps20
    go_upto_region 1 with(fail)
    rw[HW1.out]
    go_wp2_with fail
    refine(HPL.out _).mono ?_;rintro e w2 ⟨rfl,rfl⟩
    go_wp2_with fail
    refine(HPH.out _).mono ?_;rintro e w2 ⟨rfl,rfl⟩;go_wp2;go_ret;exact⟨by rw[HXX.out];rfl,HB1.out⟩
   by_cases c4:h2<l2
   ·have HXX:Hid (X=1):=by show _=_;rw[HX.out,if_pos (.inr c4)]
    clear HX
    go_enter Tryz.func20,Tryz.ntmps20
    go_upto_region 1 with(fail)
    rw[HW1.out]
    go_wp2_with fail
    refine(HPL.out _).mono ?_;rintro e w2 ⟨rfl,rfl⟩
    go_wp2_with fail
    refine(HPH.out _).mono ?_;rintro e w2 ⟨rfl,rfl⟩;go_wp2;go_ret;exact⟨by rw[HXX.out];rfl,HB1.out⟩
   have HXX:Hid (X=0):=by show _=_;rw[HX.out,if_neg (by omega)]
   clear HX
   go_enter Tryz.func20,Tryz.ntmps20
   go_upto_region 1 with(fail)
   rw[HW1.out]
   go_wp2_with fail
   refine(HPL.out _).mono ?_;rintro e w2 ⟨rfl,rfl⟩
   go_wp2_with fail
   refine(HPH.out _).mono ?_;rintro e w2 ⟨rfl,rfl⟩;go_wp2;go_ret;exact⟨by rw[HXX.out];rfl,HB1.out⟩
end
end Go.Proofs.YtpkoapmpknbgoaaGreat
namespace Go.Proofs.YtpkoapmpknbgoaaGreat.Po
section
open Go.RowKit
def farF(x y:Int):Bool:=decide (x< -2147483648)||decide (2147483648<x)||decide (y< -2147483648)||decide (2147483648<y)
theorem far_any(x y:Int)(w:World):Calls Tryz.prog 134 #[.int .i64 x,.int .i64 y] w fun e w'=>e=.returned (.bool (farF x y))/\w=w':=by
 have h:=Go.Proofs.YtpkoapmpknbgoaaGreat.far_any x y w;rw[show farB x y=farF x y by unfold farB farF;simp only[Bool.or_assoc]]at h;refine h.mono ?_;rintro e w' ⟨rfl,rfl⟩;exact⟨rfl,rfl⟩
def worldF(x y:Int):Bool:=decide (0<=x)&&decide (x<1073741824)&&decide (0<=y)&&decide (y<1073741824)
theorem world_any(x y:Int)(w:World):Calls Tryz.prog 42 #[.int .i64 x,.int .i64 y] w fun e w'=>e=.returned (.bool (worldF x y))/\w'=w:=by
 have h:=rworld_any x y w
 rwa[show worldB x y=worldF x y by unfold worldB worldF;simp only[Bool.and_assoc]]at h
theorem mul_abs_le{u v U V:Int}(h1: -U<=u)(h2:u<=U)(h3: -V<=v)(h4:v<=V): -(U*V)<=u*v/\u*v<=U*V:=by
 have hu:u.natAbs<=U.natAbs:=by omega
 have hv:v.natAbs<=V.natAbs:=by omega
 have h:=Nat.mul_le_mul hu hv;rw[<- Int.natAbs_mul, <-Int.natAbs_mul]at h;have hp:0<=U*V:=Int.mul_nonneg (by omega) (by omega);omega
def det(a b c d x y:Int):Int:=(c-a)*(y-b)-(x-a)*(d-b)
def InWorld(p:Pt):Prop:=0<=p.1/\p.1<1073741824/\0<=p.2/\p.2<1073741824
theorem side_plain{a b c d x y:Int}(h1:0<=a/\a<1073741824)(h2:0<=b/\b<1073741824)(h3:0<=c/\c<1073741824)(h4:0<=d/\d<1073741824)
  (hx: -2147483648<=x/\x<=2147483648) (hy: -2147483648<=y/\y<=2147483648):
  side a b c d x y=if 0<det a b c d x y then 1 else if det a b c d x y<0 then -1 else 0:=by
 have e1:=mul_abs_le (u:=c-a) (v:=y-b) (U:=1073741824) (V:=3221225472) (by omega) (by omega) (by omega) (by omega);have e2:=mul_abs_le (u:=x-a) (v:=d-b) (U:=3221225472) (V:=1073741824) (by omega) (by omega) (by omega) (by omega);unfold side det;rw[IntWalk.wrap64_in (c-a) (by omega),IntWalk.wrap64_in (y-b) (by omega),IntWalk.wrap64_in (x-a) (by omega),IntWalk.wrap64_in (d-b) (by omega),
  IntWalk.wrap64_in ((c-a)*(y-b)) (by omega),IntWalk.wrap64_in ((x-a)*(d-b)) (by omega)]
 generalize(c-a)*(y-b)=m;generalize(x-a)*(d-b)=n;by_cases h1:n<m
 ·rw[if_pos h1,if_pos (by omega)]
 ·by_cases h2:m<n
  ·rw[if_neg h1,if_pos h2,if_neg (by omega),if_pos (by omega)]
  ·rw[if_neg h1,if_neg h2,if_neg (by omega),if_neg (by omega)]
theorem px_mem{l:List Pt}{j:Nat}(h:j<l.length):(px l j,py l j)∈l:=by
 unfold px py;simp only[List.getD_eq_getElem?_getD,List.getElem?_eq_getElem h,Option.getD_some];exact List.getElem_mem h
def AllIn(l:List Pt):Prop:=∀p∈l,InWorld p
theorem AllIn.at{l:List Pt}(h:AllIn l){j:Nat}(hj:j<l.length):(0<=px l j/\px l j<1073741824)/\(0<=py l j/\py l j<1073741824):=by
 have:=h _ (px_mem hj);exact⟨⟨this.1,this.2.1⟩,this.2.2⟩
theorem totTo_bound(c:Nat):∀(ls:List (List Pt)) (k:Nat),(∀ l∈ls,l.length<=c)->totTo ls k<=ls.length*c
 |[],k,_=>by simp[totTo]
 |l::ls,0,_=>by simp[totTo]
 |l::ls,k+1,h=>by
  have ih:=totTo_bound c ls k fun x hx=>h x (by simp[hx])
  have h1:=h l (by simp);have e:totTo (l::ls) (k+1)=l.length+totTo ls k:=by unfold totTo;simp
  rw[e,List.length_cons,Nat.add_mul];omega
theorem check_ok{ls:List (List Pt)}{c:Nat}(h0:0<ls.length)(h1:ls.length<=20)(hc:ls.length*c<=500)(hl:∀l∈ls,3<=l.length/\l.length<=c/\AllIn l):checkF ls=0:=by
 have hb:=totTo_bound c ls ls.length fun l h=>(hl l h).2.1
 have hs:shTo ls ls.length=false:=by
  unfold shTo;simp only[List.take_length,Bool.or_eq_false_iff,decide_eq_false_iff_not,List.any_eq_false,decide_eq_true_eq];exact⟨by omega,fun l h=>by have:=(hl l h).1;omega⟩
 have ho:outTo ls ls.length=false:=by
  unfold outTo;simp only[List.take_length,List.any_eq_false];intro l h1 h2;rw[List.any_eq_true]at h2;obtain⟨p,hp,h3⟩:=h2;have:=(hl l h1).2.2 p hp;unfold InWorld at this;unfold outP at h3;simp only[Bool.or_eq_true,decide_eq_true_eq]at h3;omega
 unfold checkF;rw[if_neg (by omega),hs,ho]
 rfl
def capTo(ls:List (List Pt))(k:Nat):Nat:=((ls.take k).map fun l=>min l.length 1000).sum
theorem capTo_succ(ls:List (List Pt))(k:Nat)(h:k<ls.length):capTo ls (k+1)=capTo ls k+min (rg ls k).length 1000:=by
 unfold capTo rg;rw[take_succ' ls k [] h];simp
theorem cap_tot(ls:List (List Pt)):∀k,k<=ls.length->(500<capTo ls k↔500<totTo ls k)
 |0,_=>Iff.rfl
 |k+1,h=>by
  have ih:=cap_tot ls k (by omega);have e:capTo ls k<=totTo ls k/\(totTo ls k<=500->capTo ls k=totTo ls k):=by
   clear ih
   induction k with
   |zero=>exact⟨lr,fun _=>rfl⟩
   |succ k ih2=>
    obtain⟨i1,i2⟩:=ih2 (by omega);rw[capTo_succ ls k (by omega),totTo_succ ls k (by omega)];refine⟨by omega,fun h=>?_⟩;have:=i2 (by omega);omega
  rw[capTo_succ ls k (by omega),totTo_succ ls k (by omega)];by_cases h5:totTo ls k<=500
  ·have:=e.2 h5;omega
  ·have:500<capTo ls k:=ih.2 (by omega)
   omega
theorem outP_world(x y:Int):outP (x,y)= !worldF x y:=by
 unfold outP worldF;rw[Bool.eq_iff_iff];simp
theorem rcheck_big(ao:Option Addr)(c:Nat)(ls:List (List Pt))(w:World)(B:Nat)(hB:B<=w.heap.size)(h:RingsAt w B ao ls)(hn:ls.length<=1000000000)(ht:totTo ls ls.length<=1000000000000000):
  Calls Tryz.prog 18 #[.slice ao ls.length c] w fun e w'=>e=.returned (.int .i64 (checkF ls))/\Below w.heap.size w w':=by
 obtain⟨n,hnn⟩:∃n,ls.length=n:=⟨_,rfl⟩;have HT:=Hd ht;have HR:=Hd h;rw[hnn]at hn ⊢;have HN:Hid (ls.length=n):=hnn;clear hnn ht h;have HQ:Hid (∀ wr,Below w.heap.size w wr->∀k,k<n->∃b off ri ci,ao=some ⟨b,off,none⟩/\b<wr.heap.size/\wr.cell? ⟨b,off+k,none⟩=some (.slice ri (rg ls k).length ci)/\RingAt wr B ri (rg ls k)/\(rg ls k).length<=1000000000000000):=fun wr hb k hk=>by
  obtain⟨b,off,e,hlt,hc⟩:=(HR.out.below hb hB) (by rw[HN.out];omega);obtain⟨ri,ci,h1,h2⟩:=hc k (by rw[HN.out];exact hk);have h3:=totTo_succ ls k (by rw[HN.out];exact hk);have h4:=totTo_le ls (k+1) (by rw[HN.out];exact hk);have h5:=HT.out;have h6:=hb.size;exact⟨b,off,ri,ci,e,by omega,h1,h2,by omega⟩
 go_enter Tryz.func18,Tryz.ntmps18
 go_wp2
 go_loopw [3,4] (fun v i wr=>∃k t:Nat,k<=n/\k<=30/\i=.int .i64 k/\v=.int .i64 t/\t<=1000*k/\Hid (t=capTo ls k)/\Below w.heap.size w wr) (fun _ i _=>30-(intOf i).toNat)
 case atStart=>exact⟨0,0,Nat.zero_le _,by omega,rfl,rfl,by omega,rfl,br⟩
 case round=>
  obtain⟨k,t,hk,hk3,rfl,rfl,htk,HC,hnx⟩:=hrel;by_cases hgo:k<n/\k<30
  ·obtain⟨hlt,hl3⟩:=hgo
   obtain⟨b,off,ri,ci,rfl,hb,c0,_,hm⟩:=HQ.out _ hnx k hlt;have HS:=Hd (capTo_succ ls k (by rw[HN.out];exact hlt));generalize(rg ls k).length=m at c0 hm HS;have q1:decide ((k:Int)<(n:Int))=true:=by simp;omega
   have q2:decide ((k:Int)<30)=true:=by simp;omega
   by_cases hm1:m<=1000
   ·go_wp2
    go_roundw
    case rel=>exact⟨k+1,t+m,by omega,by omega,by go_num,by go_num,by omega,(by rw[HS.out, <-HC.out];omega:t+m=capTo ls (k+1)),hnx⟩
    case measure=>simp[intOf];omega
   ·go_wp2
    go_roundw
    case rel=>exact⟨k+1,t+1000,by omega,by omega,by go_num,by go_num,by omega,(by rw[HS.out, <-HC.out];omega:t+1000=capTo ls (k+1)),hnx⟩
    case measure=>simp[intOf];omega
  ·have hk20:n<=20->k=n:=fun h=>by omega
   by_cases h20:20<n
   ·have HF:Hid (checkF ls=7):=by show _=_;unfold checkF;rw[if_pos (.inl (by rw[HN.out];exact h20))]
    by_cases hkn:k<n
    ·have q1:decide ((k:Int)<(n:Int))=true:=by simp;omega
     have q2:decide ((k:Int)<30)=false:=by simp;omega
     clear hgo hk20;go_wp2;go_ret;exact⟨ret_int HF.out.symm,hnx⟩
    ·have q1:decide ((k:Int)<(n:Int))=false:=by simp;omega
     clear hgo hk20;go_wp2;go_ret;exact⟨ret_int HF.out.symm,hnx⟩
   ·obtain rfl:k=n:=hk20 (by omega)
    have q1:decide ((k:Int)<(k:Int))=false:=by simp
    have HCT:Hid (500<t↔500<totTo ls ls.length):=by
     show _↔_;rw[HC.out,HN.out];exact cap_tot ls k (by rw[HN.out];exact lr)
    by_cases h500:500<t
    ·have HF:Hid (checkF ls=7):=by show _=_;unfold checkF;rw[if_pos (.inr (HCT.out.1 h500))]
     clear hgo hk20;go_wp2;go_ret;exact⟨ret_int HF.out.symm,hnx⟩
    ·have HF0:Hid (checkF ls=if shTo ls k=true then 1 else if outTo ls k=true then 4 else 0):=by
      show _=_;unfold checkF;rw[if_neg (by rw[HN.out];intro h;rcases h with h|h;exact h20 h;rw[<- HN.out]at h;exact h500 (HCT.out.2 h)),HN.out]
     by_cases hk0:k=0
     ·have q3:((k:Int)==0)=true:=by simp[hk0]
      have HF:Hid (checkF ls=1):=by
       show _=_;rw[HF0.out,if_pos];unfold shTo;rw[HN.out];simp[hk0]
      clear hgo hk20 hk0;go_wp2;go_ret;exact⟨ret_int HF.out.symm,hnx⟩
     ·have q3:((k:Int)==0)=false:=by simp;omega
      have HS0:Hid (shTo ls 0=false):=by show _=_;unfold shTo;rw[HN.out];simp[hk0]
      clear hgo hk20 HCT HC;obtain⟨n,hkn⟩:∃n,n=k:=⟨_,rfl⟩;subst hkn;have HB1:=Hd hnx;go_wp2
      go_loopw [5] (fun i wr=>∃k:Nat,k<=n/\i=.int .i64 k/\Hid (shTo ls k=false)/\Below w.heap.size w wr) (fun i _=>n-(intOf i).toNat)
      case atStart=>exact⟨0,Nat.zero_le _,rfl,HS0,HB1.out⟩
      case round=>
       obtain⟨k,hk',rfl,HS,hnx⟩:=hrel;by_cases hlt:k<n
       ·obtain⟨b,off,ri,ci,rfl,hb,c0,_,hm⟩:=HQ.out _ hnx k hlt
        have HSS:=Hd (shTo_succ ls k (by rw[HN.out];exact hlt));generalize(rg ls k).length=m at c0 hm HSS;by_cases hm3:m<3
        ·have HF:Hid (checkF ls=1):=by
          show _=_;rw[HF0.out,if_pos];have e1:shTo ls (k+1)=true:=by rw[HSS.out];simp[hm3]
          unfold shTo at e1 ⊢;simp only[Bool.or_eq_true]at e1 ⊢;rcases e1 with e1|e1
          ·exact .inl e1
          ·right
           rw[List.any_eq_true]at e1 ⊢;obtain⟨x,hx,e2⟩:=e1;exact⟨x,List.mem_of_mem_take (by rw[List.take_take,Nat.min_eq_left (show k+1<=n by omega)];exact hx:x∈(ls.take n).take (k+1)),e2⟩
         go_wp2;go_ret;exact⟨ret_int HF.out.symm,hnx⟩
        ·go_wp2
         go_roundw
         case rel=>exact⟨k+1,by omega,by go_num,(by rw[HSS.out,HS.out];simp;omega:shTo ls (k+1)=false),hnx⟩
         case measure=>simp[intOf];omega
       ·obtain rfl:k=n:=by omega
        have HF1:Hid (checkF ls=if outTo ls k=true then 4 else 0):=by show _=_;rw[HF0.out,HS.out];rfl
        have HB2:=Hd hnx;clear HF0 HS HS0 HB1 hlt hk';obtain⟨n,hkn⟩:∃n,n=k:=⟨_,rfl⟩;subst hkn;go_wp2
        go_loopw [6] (fun i wr=>∃k:Nat,k<=n/\i=.int .i64 k/\Hid (outTo ls k=false)/\Below w.heap.size w wr) (fun i _=>n-(intOf i).toNat)
        case atStart=>exact⟨0,Nat.zero_le _,rfl,rfl,HB2.out⟩
        case round=>
         obtain⟨k,hk',rfl,HO,hnx⟩:=hrel;by_cases hlt:k<n
         ·obtain⟨b,off,ri,ci,rfl,hb,c0,hri,hm⟩:=HQ.out _ hnx k hlt
          have HOS:=Hd (outTo_succ ls k (by rw[HN.out];exact hlt));have HBB:Hid (∀ wx,Below wr.heap.size wr wx->wx.cell? ⟨b,off+k,none⟩=some (.slice ri (rg ls k).length ci)/\RingAt wx B ri (rg ls k)/\b<wx.heap.size):=fun wx hbx=>by
           have:=hbx.size;exact⟨(hbx.cell (p:=⟨b,off+k,none⟩) hb).trans c0,hri.below hbx (by have:=hnx.size;omega),by omega⟩
          have HOUT4:Hid (∀ j,j<(rg ls k).length->outP (px (rg ls k) j,py (rg ls k) j)=true->outTo ls n=true):=fun j hj ho=>by
           unfold outTo;rw[List.any_eq_true];refine⟨rg ls k,?_,?_⟩
           ·rw[List.take_of_length_le (by rw[HN.out];exact lr)]
            unfold rg;simp[List.getD_eq_getElem?_getD,show k<ls.length by rw[HN.out];exact hlt]
           ·rw[List.any_eq_true]
            exact⟨_,px_mem hj,ho⟩
          generalize rg ls k=l at HBB hm HOS c0 hri HOUT4;obtain⟨m,hm'⟩:∃m,l.length=m:=⟨_,rfl⟩;rw[hm']at HBB hm HOS c0 HOUT4;have HM:Hid (l.length=m):=hm';clear hm' hri;obtain⟨wo,hwo⟩:∃wo:World,wo=wr:=⟨_,rfl⟩;subst hwo;go_wp2
          go_loopw [7] (fun i wr=>∃j:Nat,j<=m/\i=.int .i64 j/\Hid (outs l j=false)/\Below wo.heap.size wo wr) (fun i _=>m-(intOf i).toNat)
          case atStart=>exact⟨0,Nat.zero_le _,rfl,rfl,br⟩
          case round=>
           obtain⟨j,hj,rfl,HL,hni⟩:=hrel;obtain⟨r0,hri,hbw⟩:=HBB.out _ hni;have HB3:Hid (Below w.heap.size w wr):=hnx.trans (hni.mono hnx.size);by_cases hjm:j<m
           ·obtain⟨rb,ro,rfl,hrb,hrc⟩:=hri (by rw[HM.out];omega)
            obtain⟨d0,d1⟩:=hrc j (by rw[HM.out];exact hjm);have HSJ:=Hd (outs_succ l j (by rw[HM.out];exact hjm));have HO4:=Hd (HOUT4.out j hjm);generalize px l j=x at d0 HSJ HO4;generalize py l j=y at d1 HSJ HO4;have hrbw:rb<wr.heap.size:=by have:=HB3.out.size;omega
            clear hrc c0;have HW:=Hd (world_any x y);obtain⟨o,ho⟩:∃o,worldF x y=o:=⟨_,rfl⟩;rw[ho]at HW;have hop:Hid (outP (x,y)= !o):=by show _=_;rw[outP_world,ho]
            clear ho;cases o
            ·have HF:Hid (checkF ls=4):=by show _=_;rw[HF1.out,if_pos (HO4.out (by rw[hop.out];rfl))]
             go_wp2
             go_quiet ((go_at_call 42;exact Calls.quiet_of_same (HW.out _)))
             go_wp2;go_ret;exact⟨ret_int HF.out.symm,below_drewN HB3.out _⟩
            ·go_wp2
             go_quiet ((go_at_call 42;exact Calls.quiet_of_same (HW.out _)))
             go_wp2
             go_roundw
             case rel=>exact⟨j+1,by omega,by go_num,(by rw[HSJ.out,HL.out,hop.out];rfl:outs l (j+1)=false),below_drewN hni _⟩
             case measure=>simp[intOf];omega
           ·obtain rfl:j=m:=by omega
            clear hri c0;go_wp2
            go_roundw
            case rel=>exact⟨k+1,by omega,by go_num,(by rw[HOS.out,HO.out,HL.out];rfl:outTo ls (k+1)=false),HB3.out⟩
            case measure=>simp[intOf];omega
         ·obtain rfl:k=n:=by omega
          have HF:Hid (checkF ls=0):=by show _=_;rw[HF1.out,HO.out];rfl
          go_wp2;go_ret;exact⟨ret_int HF.out.symm,hnx⟩
theorem rcheck_any(ao:Option Addr)(c:Nat)(ls:List (List Pt))(w:World)(B:Nat)(hB:B<=w.heap.size)(h:RingsAt w B ao ls)(hn:ls.length<=1000000000)(ht:totTo ls ls.length<=1000000000):
 Calls Tryz.prog 18 #[.slice ao ls.length c] w fun e w'=>e=.returned (.int .i64 (checkF ls))/\Below w.heap.size w w':=rcheck_big ao c ls w B hB h hn (Nat.le_trans ht (by decide))
theorem pq_cells(w:World)(p q r s:Value)(t:TypeId):
  ((((w.alloc (.cells #[p,q] t)).alloc (.cells #[r,s] t)).drew).cell? ⟨w.heap.size,0,none⟩=some p/\(((w.alloc (.cells #[p,q] t)).alloc (.cells #[r,s] t)).drew).cell? ⟨w.heap.size,1,none⟩=some q)/\
  ((((w.alloc (.cells #[p,q] t)).alloc (.cells #[r,s] t)).drew).cell? ⟨w.heap.size+1,0,none⟩=some r/\(((w.alloc (.cells #[p,q] t)).alloc (.cells #[r,s] t)).drew).cell? ⟨w.heap.size+1,1,none⟩=some s)/\
  w.heap.size<(((w.alloc (.cells #[p,q] t)).alloc (.cells #[r,s] t)).drew).heap.size/\w.heap.size+1<(((w.alloc (.cells #[p,q] t)).alloc (.cells #[r,s] t)).drew).heap.size/\
  Below w.heap.size w (((w.alloc (.cells #[p,q] t)).alloc (.cells #[r,s] t)).drew):=by
 have h1:(((w.alloc (.cells #[p,q] t)).alloc (.cells #[r,s] t)).drew).heap[w.heap.size]? =some (.cells #[p,q] t):=by
  show(World.alloc (World.alloc w _) _).heap[_]? =_;rw[Below.heap_alloc _ _ _ (by simp)];exact heap_new _ _ _ rfl
 have h2:(((w.alloc (.cells #[p,q] t)).alloc (.cells #[r,s] t)).drew).heap[w.heap.size+1]? =some (.cells #[r,s] t):=by
  show(World.alloc (World.alloc w _) _).heap[_]? =_;exact heap_new _ _ _ (by simp)
 rw[cell_of_row _ _ _ _ _ _ h1,cell_of_row _ _ _ _ _ _ h1,cell_of_row _ _ _ _ _ _ h2,cell_of_row _ _ _ _ _ _ h2];exact⟨⟨rfl,rfl⟩,⟨rfl,rfl⟩,by show _<(World.alloc (World.alloc w _) _).heap.size;simp;omega,by show _<(World.alloc (World.alloc w _) _).heap.size;simp,((br.alloc lr _).alloc (by simp) _).drew⟩
theorem check_in{ls:List (List Pt)}(h:checkF ls=0):∀l∈ls,AllIn l:=by
 unfold checkF at h
 split at h
 ·omega
 ·split at h
  ·omega
  ·split at h
   ·omega
   ·rename_i h3
    intro l hl p hp;simp only[Bool.not_eq_true]at h3;unfold outTo at h3;rw[List.take_length,List.any_eq_false]at h3;have h4:=h3 l hl;simp only[Bool.not_eq_true]at h4;rw[List.any_eq_false]at h4;have h5:=h4 p hp;unfold outP at h5;unfold InWorld;simp at h5;omega
theorem cross_side{a b c d x y:Int}(h1:0<=a/\a<1073741824)(h2:0<=b/\b<1073741824)(h3:0<=c/\c<1073741824)(h4:0<=d/\d<1073741824)
  (hx: -2147483648<=x/\x<=2147483648) (hy: -2147483648<=y/\y<=2147483648):crossF a b c d x y=side a b c d x y:=by
 rw[side_plain h1 h2 h3 h4 hx hy];unfold crossF det;rw[IntWalk.wrap64_in (c-a) (by omega),IntWalk.wrap64_in (y-b) (by omega),IntWalk.wrap64_in (x-a) (by omega),IntWalk.wrap64_in (d-b) (by omega),Int.mul_comm (d-b) (x-a)];generalize(c-a)*(y-b)=m;generalize(x-a)*(d-b)=n;by_cases h1:m<n
 ·rw[if_pos h1,if_neg (by omega),if_pos (by omega)]
 ·rw[if_neg h1]
  by_cases h2:n<m
  ·rw[if_pos h2,if_pos (by omega)]
  ·rw[if_neg h2,if_neg (by omega),if_neg (by omega)]
theorem far_near(ls:List (List Pt))(x y:Int):nearF ls x y=(!farF x y&&checkF ls==0):=by
 unfold nearF farF;rw[Bool.eq_iff_iff];simp
def PQ(w:World)(g1 g2:Nat)(a b c d:Int):Prop:=
 (w.cell? ⟨g1,0,none⟩=some (.int .i64 a)/\w.cell? ⟨g1,1,none⟩=some (.int .i64 b))/\(w.cell? ⟨g2,0,none⟩=some (.int .i64 c)/\w.cell? ⟨g2,1,none⟩=some (.int .i64 d))/\g1<w.heap.size/\g2<w.heap.size
theorem PQ.below{w w':World}{g1 g2:Nat}{a b c d:Int}(h:PQ w g1 g2 a b c d)(hb:Below w.heap.size w w'):PQ w' g1 g2 a b c d:=by
 obtain⟨⟨h1,h2⟩,⟨h3,h4⟩,h5,h6⟩:=h;have:=hb.size;exact⟨⟨(hb.cell (p:=⟨g1,0,none⟩) h5).trans h1,(hb.cell (p:=⟨g1,1,none⟩) h5).trans h2⟩,⟨(hb.cell (p:=⟨g2,0,none⟩) h6).trans h3,(hb.cell (p:=⟨g2,1,none⟩) h6).trans h4⟩,by omega,by omega⟩
theorem ron_any(ao:Option Addr)(c:Nat)(ls:List (List Pt))(x y:Int)(w:World)(B:Nat)(hB:B<=w.heap.size)(h:RingsAt w B ao ls)(hn:ls.length<=1000000000)(ht:totTo ls ls.length<=1000000000):
  Calls Tryz.prog 137 #[.slice ao ls.length c,.int .i64 x,.int .i64 y] w fun e w'=>e=.returned (.bool (onF ls x y))/\Below w.heap.size w w':=by
 have HC:=Hd (rcheck_any ao c ls w B hB h hn ht);have HFN:=Hd (far_near ls x y);obtain⟨n,hnn⟩:∃n,ls.length=n:=⟨_,rfl⟩;have HT:=Hd ht;have HR:=Hd h;rw[hnn]at hn HC ⊢;have HN:Hid (ls.length=n):=hnn;clear hnn ht h;by_cases hz:checkF ls=0
 ·have HIN:=Hd (check_in hz)
  have HZ:=Hd hz;rw[hz]at HC;clear hz;have HFAR:=Hd (far_any x y);cases hf:farF x y
  ·rw[hf]at HFAR
   have HNEAR:Hid (nearF ls x y=true):=by show _=_;rw[HFN.out,hf,HZ.out];rfl
   have hxy:(-2147483648<=x/\x<=2147483648)/\(-2147483648<=y/\y<=2147483648):=by
    unfold farF at hf;simp at hf;omega
   have HXY:=Hd hxy;clear hf hxy
   go_enter Tryz.func137,Tryz.ntmps137
   go_wp2_with fail
   refine HC.out.mono ?_;rintro e w0 ⟨rfl,hb0⟩;have HQ:Hid (∀ wr,Below w.heap.size w wr->∀k,k<n->∃b off ri ci,ao=some ⟨b,off,none⟩/\b<wr.heap.size/\wr.cell? ⟨b,off+k,none⟩=some (.slice ri (rg ls k).length ci)/\RingAt wr B ri (rg ls k)/\(rg ls k).length<=1000000000):=fun wr hb k hk=>by
    obtain⟨b,off,e,hlt,hc⟩:=(HR.out.below hb hB) (by rw[HN.out];omega);obtain⟨ri,ci,h1,h2⟩:=hc k (by rw[HN.out];exact hk);have h3:=totTo_succ ls k (by rw[HN.out];exact hk);have h4:=totTo_le ls (k+1) (by rw[HN.out];exact hk);have h5:=HT.out;have h6:=hb.size;exact⟨b,off,ri,ci,e,by omega,h1,h2,by omega⟩
   go_wp2_with(first|(go_at_call 134;refine(HFAR.out _).mono ?_;rintro e w' ⟨rfl,rfl⟩))
   go_loopw [7] (fun i wr=>∃k:Nat,k<=n/\i=.int .i64 k/\Hid (onTo ls x y k=false)/\Below w.heap.size w wr) (fun i _=>n-(intOf i).toNat)
   case atStart=>exact⟨0,Nat.zero_le _,rfl,rfl,hb0⟩
   case round=>
    obtain⟨k,hk',rfl,HO,hnx⟩:=hrel;by_cases hlt:k<n
    ·obtain⟨b,off,ri,ci,rfl,hb,c0,hri,hm⟩:=HQ.out _ hnx k hlt
     have hkl:k<ls.length:=by rw[HN.out];exact hlt
     have HOS:=Hd (onTo_succ ls x y k hkl);have HALL:=Hd (HIN.out (rg ls k) (by unfold rg;simp[List.getD_eq_getElem?_getD,hkl]));have HYES:Hid (onR (rg ls k) x y (rg ls k).length=true->onF ls x y=true):=fun h=>by
      unfold onF;rw[HNEAR.out,onTo_true hkl h];rfl
     have HRI:Hid (∀ wx,Below wr.heap.size wr wx->RingAt wx B ri (rg ls k)):=fun wx hbx=>hri.below hbx (by have:=hnx.size;omega)
     generalize rg ls k=l at hm HOS c0 hri HALL HYES HRI;obtain⟨m,hm'⟩:∃m,l.length=m:=⟨_,rfl⟩;rw[hm']at hm HOS c0 HYES;have HM:Hid (l.length=m):=hm';clear hm' hri hkl;obtain⟨wo,hwo⟩:∃wo:World,wo=wr:=⟨_,rfl⟩;subst hwo;go_wp2
     go_loopw [9] (fun i wr=>∃j:Nat,j<=m/\i=.int .i64 j/\Hid (onR l x y j=false)/\Below wo.heap.size wo wr) (fun i _=>m-(intOf i).toNat)
     case atStart=>exact⟨0,Nat.zero_le _,rfl,rfl,br⟩
     case round=>
      obtain⟨j,hj,rfl,HL,hni⟩:=hrel;have HB3:Hid (Below w.heap.size w wr):=hnx.trans (hni.mono hnx.size);by_cases hjm:j<m
      ·obtain⟨rb,ro,rfl,hrb,hrc⟩:=(HRI.out _ hni) (by rw[HM.out];omega)
       obtain⟨t,ht,htn⟩:∃t,(j+1)%m=t/\t<m:=⟨_,rfl,Nat.mod_lt _ (by omega)⟩;have htI:((j:Int)+1)%(m:Int)=(t:Int):=by have:=congrArg (fun x:Nat=>(x:Int)) ht;simpa using this
       obtain⟨p0,p1⟩:=hrc j (by rw[HM.out];exact hjm);obtain⟨d0,d1⟩:=hrc t (by rw[HM.out];exact htn);obtain⟨u1,u2⟩:=HALL.out.at (j:=j) (by rw[HM.out];exact hjm);obtain⟨u3,u4⟩:=HALL.out.at (j:=t) (by rw[HM.out];exact htn);have HSJ:=Hd (onR_succ l x y j);have HEL:Hid (onEl l x y j=(btw (px l j) (px l t) x&&btw (py l j) (py l t) y&&crossF (px l j) (py l j) (px l t) (py l t) x y==0)):=by
        show _=_;unfold onEl onE;rw[HM.out,ht,cross_side u1 u2 u3 u4 HXY.out.1 HXY.out.2]
       have HTRUE:Hid (onEl l x y j=true->onF ls x y=true):=fun h=>HYES.out (onR_true hjm h)
       have hx1:=u1.2;generalize onEl l x y j=oe at HSJ HEL HTRUE;generalize px l j=e1 at *;generalize py l j=e2 at *;generalize px l t=f1 at *;generalize py l t=f2 at *;have hrbw:rb<wr.heap.size:=by have:=HB3.out.size;omega
       have HCR:=Hd (cross_any e1 e2 f1 f2 x y);generalize crossF e1 e2 f1 f2 x y=z at HEL HCR;clear hrc c0 ht u1 u2 u3 u4 hx1 HRI
       go_upto_region 10 with(fail)
       go_cut [10,11]from 36 to 47 (fun v5 v6 wx=>∃g1 g2:Nat,v5=.pointer (some ⟨g1,0,none⟩)/\v6=.pointer (some ⟨g2,0,none⟩)/\Hid (PQ wx g1 g2 e1 e2 f1 f2)/\Below wr.heap.size wr wx)
       case first=>
        go_region
        ·go_wp2
         go_meet
         obtain⟨k1,k2,k3,k4,k5⟩:=pq_cells wr (.int .i64 e1) (.int .i64 e2) (.int .i64 f1) (.int .i64 f2) 26;exact⟨_,_,rfl,rfl,⟨k1,k2,k3,k4⟩,k5⟩
        ·go_wp2
         go_meet
         obtain⟨k1,k2,k3,k4,k5⟩:=pq_cells wr (.int .i64 f1) (.int .i64 f2) (.int .i64 e1) (.int .i64 e2) 26;exact⟨_,_,rfl,rfl,⟨k2,k1,k4,k3⟩,k5⟩
       case rest=>
        obtain⟨g1,g2,rfl,rfl,HPQ,hbc⟩:=hcut;clear p0 p1 d0 d1;have hnc:Below wo.heap.size wo wc:=hni.trans (hbc.mono hni.size);obtain⟨⟨k1,k2⟩,⟨k3,k4⟩,k5,k6⟩:=HPQ.out
        go_upto_region 11 with(fail)
        obtain⟨wd,hwd⟩:∃wo:World,wo=wc:=⟨_,rfl⟩;subst hwd
        go_cut [89]from 48 to 89 (fun v wx=>v=.bool oe/\Below wd.heap.size wd wx)
        case first=>
         clear HTRUE HSJ
         go_wp2_with(first|(go_at_call 136;refine(HCR.out _).mono ?_;rintro e w' ⟨rfl,hb'⟩;obtain⟨⟨k1,k2⟩,⟨k3,k4⟩,k5,k6⟩:=HPQ.out.below hb'))
         all_goals
          go_meet
          refine⟨?_,hb'⟩;rw[Value.bool.injEq,HEL.out,Bool.eq_iff_iff];unfold btw
          first
           |(simp;omega)
           |(simp[*];omega)
           |(simp[*];done)
        case rest=>
         obtain⟨rfl,hbd⟩:=hcut;have hnd:Below wo.heap.size wo wc:=hnc.trans (hbd.mono hnc.size);have HND:Hid (Below w.heap.size w wc):=hnx.trans (hnd.mono hnx.size);cases oe
         ·go_wp2
          go_roundw
          case rel=>exact⟨j+1,by omega,by go_num,(by rw[HSJ.out,HL.out];rfl:onR l x y (j+1)=false),hnd⟩
          case measure=>simp[intOf];omega
         ·go_wp2
          go_ret;exact⟨ret_bool (HTRUE.out (by first|rfl|trivial)).symm,HND.out⟩
      ·obtain rfl:j=m:=by omega
       clear HRI HALL HYES;go_wp2
       go_roundw
       case rel=>exact⟨k+1,by omega,by go_num,(by rw[HOS.out,HO.out,HL.out];rfl:onTo ls x y (k+1)=false),HB3.out⟩
       case measure=>simp[intOf];omega
    ·obtain rfl:k=n:=by omega
     have HF:Hid (onF ls x y=false):=by show _=_;unfold onF;rw[HN.out,HO.out];simp
     go_wp2;go_ret;exact⟨ret_bool HF.out.symm,hnx⟩
  ·rw[hf]at HFAR
   have HF:Hid (onF ls x y=false):=by show _=_;unfold onF;rw[HFN.out,hf];rfl
   clear hf
   go_enter Tryz.func137,Tryz.ntmps137
   go_wp2_with fail
   refine HC.out.mono ?_;rintro e w0 ⟨rfl,hb0⟩
   go_wp2_with(first|(go_at_call 134;refine(HFAR.out _).mono ?_;rintro e w' ⟨rfl,rfl⟩))
   go_ret;exact⟨ret_bool HF.out.symm,hb0⟩
 ·have HF:Hid (onF ls x y=false):=by
   show _=_;unfold onF;rw[HFN.out];have:(checkF ls==0)=false:=by simpa using hz
   rw[this];simp
  have hzb:(checkF ls != 0)=true:=by simpa using hz
  go_enter Tryz.func137,Tryz.ntmps137
  go_wp2_with fail
  refine HC.out.mono ?_;rintro e w0 ⟨rfl,hb0⟩;go_wp2;go_ret;exact⟨ret_bool HF.out.symm,hb0⟩
theorem rinside_any(ao:Option Addr)(c:Nat)(ls:List (List Pt))(x y:Int)(w:World)(B:Nat)(hB:B<=w.heap.size)(h:RingsAt w B ao ls)(hn:ls.length<=1000000000)(ht:totTo ls ls.length<=1000000000):
  Calls Tryz.prog 90 #[.slice ao ls.length c,.int .i64 x,.int .i64 y] w fun e w'=>e=.returned (.bool (insideF ls x y))/\Below w.heap.size w w':=by
 have HC:=Hd (rcheck_any ao c ls w B hB h hn ht);have HFN:=Hd (far_near ls x y);have HON:=Hd (fun w1 (hb:Below w.heap.size w w1)=>ron_any ao c ls x y w1 B (by have:=hb.size;omega) (h.below hb hB) hn ht);obtain⟨n,hnn⟩:∃n,ls.length=n:=⟨_,rfl⟩;have HT:=Hd ht;have HR:=Hd h;rw[hnn]at hn HC HON ⊢;have HN:Hid (ls.length=n):=hnn;clear hnn ht h;by_cases hz:checkF ls=0
 ·have HIN:=Hd (check_in hz)
  have HZ:=Hd hz;rw[hz]at HC;clear hz;have HFAR:=Hd (far_any x y);cases hf:farF x y
  ·rw[hf]at HFAR
   have HNEAR:Hid (nearF ls x y=true):=by show _=_;rw[HFN.out,hf,HZ.out];rfl
   have hxy:(-2147483648<=x/\x<=2147483648)/\(-2147483648<=y/\y<=2147483648):=by
    unfold farF at hf;simp at hf;omega
   have HXY:=Hd hxy;clear hf hxy
   go_enter Tryz.func90,Tryz.ntmps90
   go_wp2_with fail
   refine HC.out.mono ?_;rintro e w0 ⟨rfl,hb0⟩;have HQ:Hid (∀ wr,Below w.heap.size w wr->∀k,k<n->∃b off ri ci,ao=some ⟨b,off,none⟩/\b<wr.heap.size/\wr.cell? ⟨b,off+k,none⟩=some (.slice ri (rg ls k).length ci)/\RingAt wr B ri (rg ls k)/\(rg ls k).length<=1000000000):=fun wr hb k hk=>by
    obtain⟨b,off,e,hlt,hc⟩:=(HR.out.below hb hB) (by rw[HN.out];omega);obtain⟨ri,ci,h1,h2⟩:=hc k (by rw[HN.out];exact hk);have h3:=totTo_succ ls k (by rw[HN.out];exact hk);have h4:=totTo_le ls (k+1) (by rw[HN.out];exact hk);have h5:=HT.out;have h6:=hb.size;exact⟨b,off,ri,ci,e,by omega,h1,h2,by omega⟩
   obtain⟨o,ho⟩:∃o,onF ls x y=o:=⟨_,rfl⟩;rw[ho]at HON;obtain rfl|rfl:o=true∨o=false:=by cases o <;> simp
   ·have HF:Hid (insideF ls x y=true):=by
     show _=_;unfold onF at ho;unfold insideF;simp only[Bool.and_eq_true]at ho;rw[ho.1,ho.2];rfl
    clear ho
    go_wp2_with(first|(go_at_call 134;refine(HFAR.out _).mono ?_;rintro e w' ⟨rfl,rfl⟩)|(go_at_call 137;refine(HON.out _ hb0).mono ?_;rintro e w1 ⟨rfl,hb1⟩))
    go_ret;exact⟨ret_bool HF.out.symm,below_later hb0 hb0.size hb1⟩
   have HINS:Hid (insideF ls x y=crTo ls x y n):=by
    show _=_;unfold onF at ho;unfold insideF;rw[HNEAR.out]at ho ⊢;rw[Bool.true_and]at ho;rw[ho,HN.out];rfl
   clear ho
   go_wp2_with(first|(go_at_call 134;refine(HFAR.out _).mono ?_;rintro e w' ⟨rfl,rfl⟩)|(go_at_call 137;refine(HON.out _ hb0).mono ?_;rintro e w1 ⟨rfl,hb1⟩))
   have HB1:=Hd (below_later hb0 hb0.size hb1);clear hb0 hb1
   go_loopw [7,8] (fun v i wr=>∃(k:Nat) (o:Bool),k<=n/\i=.int .i64 k/\v=.bool o/\Hid (crTo ls x y k=o)/\Below w.heap.size w wr) (fun _ i _=>n-(intOf i).toNat)
   case atStart=>exact⟨0,false,Nat.zero_le _,rfl,rfl,rfl,HB1.out⟩
   case round=>
    obtain⟨k,o,hk',rfl,rfl,HO,hnx⟩:=hrel;by_cases hlt:k<n
    ·obtain⟨b,off,ri,ci,rfl,hb,c0,hri,hm⟩:=HQ.out _ hnx k hlt
     have hkl:k<ls.length:=by rw[HN.out];exact hlt
     have HOS:=Hd (crTo_succ ls x y k hkl);have HALL:=Hd (HIN.out (rg ls k) (by unfold rg;simp[List.getD_eq_getElem?_getD,hkl]));have HRI:Hid (∀ wx,Below wr.heap.size wr wx->RingAt wx B ri (rg ls k)):=fun wx hbx=>hri.below hbx (by have:=hnx.size;omega)
     generalize rg ls k=l at hm HOS c0 hri HALL HRI;obtain⟨m,hm'⟩:∃m,l.length=m:=⟨_,rfl⟩;rw[hm']at hm HOS c0;have HM:Hid (l.length=m):=hm';clear hm' hri hkl;obtain⟨wo,hwo⟩:∃wo:World,wo=wr:=⟨_,rfl⟩;subst hwo;go_wp2
     go_loopw [7,10] (fun v i wr=>∃(j:Nat) (q:Bool),j<=m/\i=.int .i64 j/\v=.bool q/\Hid (q=(o != crR l x y j))/\Below wo.heap.size wo wr) (fun _ i _=>m-(intOf i).toNat)
     case atStart=>exact⟨0,o,Nat.zero_le _,rfl,rfl,(by cases o <;> rfl:o=(o != crR l x y 0)),br⟩
     case round=>
      obtain⟨j,q,hj,rfl,rfl,HL,hni⟩:=hrel;have HB3:Hid (Below w.heap.size w wr):=hnx.trans (hni.mono hnx.size);by_cases hjm:j<m
      ·obtain⟨rb,ro,rfl,hrb,hrc⟩:=(HRI.out _ hni) (by rw[HM.out];omega)
       obtain⟨t,ht,htn⟩:∃t,(j+1)%m=t/\t<m:=⟨_,rfl,Nat.mod_lt _ (by omega)⟩;have htI:((j:Int)+1)%(m:Int)=(t:Int):=by have:=congrArg (fun x:Nat=>(x:Int)) ht;simpa using this
       obtain⟨p0,p1⟩:=hrc j (by rw[HM.out];exact hjm);obtain⟨d0,d1⟩:=hrc t (by rw[HM.out];exact htn);obtain⟨u1,u2⟩:=HALL.out.at (j:=j) (by rw[HM.out];exact hjm);obtain⟨u3,u4⟩:=HALL.out.at (j:=t) (by rw[HM.out];exact htn);have HEL:Hid (crEl l x y j=if py l j<=y/\y<py l t then decide (0<crossF (px l j) (py l j) (px l t) (py l t) x y)else if py l t<=y/\y<py l j then decide (crossF (px l j) (py l j) (px l t) (py l t) x y<0)else false):=by
        show _=_;unfold crEl crE;rw[HM.out,ht,cross_side u1 u2 u3 u4 HXY.out.1 HXY.out.2]
       have HNX:Hid (∀ b,crEl l x y j=b->(q != b)=(o != crR l x y (j+1))):=fun b hb=>by
        rw[crR_succ,hb,HL.out];cases o <;> cases crR l x y j <;> cases b <;> rfl
       generalize crEl l x y j=oe at HEL HNX;generalize px l j=e1 at *;generalize py l j=e2 at *;generalize px l t=f1 at *;generalize py l t=f2 at *;have hrbw:rb<wr.heap.size:=by have:=HB3.out.size;omega
       have HCR:=Hd (cross_any e1 e2 f1 f2 x y);generalize crossF e1 e2 f1 f2 x y=z at HEL HCR;clear hrc c0 ht u1 u2 u3 u4 HRI
       go_upto_region 13 with(fail)
       go_cut [11,12]from 41 to 52 (fun v5 v6 wx=>∃g1 g2:Nat,v5=.pointer (some ⟨g1,0,none⟩)/\v6=.pointer (some ⟨g2,0,none⟩)/\Hid (PQ wx g1 g2 e1 e2 f1 f2)/\Below wr.heap.size wr wx)
       case first=>
        go_region
        ·go_wp2
         go_meet
         obtain⟨k1,k2,k3,k4,k5⟩:=pq_cells wr (.int .i64 e1) (.int .i64 e2) (.int .i64 f1) (.int .i64 f2) 26;exact⟨_,_,rfl,rfl,⟨k1,k2,k3,k4⟩,k5⟩
        ·go_wp2
         go_meet
         obtain⟨k1,k2,k3,k4,k5⟩:=pq_cells wr (.int .i64 f1) (.int .i64 f2) (.int .i64 e1) (.int .i64 e2) 26;exact⟨_,_,rfl,rfl,⟨k2,k1,k4,k3⟩,k5⟩
       case rest=>
        obtain⟨g1,g2,rfl,rfl,HPQ,hbc⟩:=hcut;clear p0 p1 d0 d1;have hnc:Below wo.heap.size wo wc:=hni.trans (hbc.mono hni.size);have hnsz:=hnc.size;obtain⟨⟨k1,k2⟩,⟨k3,k4⟩,k5,k6⟩:=HPQ.out;have HCASE:(decide (e2<=y)=true/\decide (f2<=y)=true/\oe=false)∨(decide (e2<=y)=false/\decide (f2<=y)=false/\oe=false)∨(decide (e2<=y)=true/\decide (f2<=y)=false/\0<z/\oe=true)∨(decide (e2<=y)=true/\decide (f2<=y)=false/\¬0<z/\oe=false)∨
          (decide (e2<=y)=false/\decide (f2<=y)=true/\z<0/\oe=true)∨(decide (e2<=y)=false/\decide (f2<=y)=true/\¬z<0/\oe=false):=by
         rw[HEL.out];by_cases a1:e2<=y <;> by_cases a2:f2<=y
         ·exact .inl ⟨by simpa using a1,by simpa using a2,by rw[if_neg (by omega),if_neg (by omega)]⟩
         ·by_cases a3:0<z
          ·exact .inr (.inr (.inl ⟨by simpa using a1,by simpa using a2,a3,by rw[if_pos (by omega)];simpa using a3⟩))
          ·exact .inr (.inr (.inr (.inl ⟨by simpa using a1,by simpa using a2,a3,by rw[if_pos (by omega)];simpa using a3⟩)))
         ·by_cases a3:z<0
          ·exact .inr (.inr (.inr (.inr (.inl ⟨by simpa using a1,by simpa using a2,a3,by rw[if_neg (by omega),if_pos (by omega)];simpa using a3⟩))))
          ·exact .inr (.inr (.inr (.inr (.inr ⟨by simpa using a1,by simpa using a2,a3,by rw[if_neg (by omega),if_pos (by omega)];simpa using a3⟩))))
         ·exact .inr (.inl ⟨by simpa using a1,by simpa using a2,by rw[if_neg (by omega),if_neg (by omega)]⟩)
        clear HEL;rcases HCASE with⟨a1,a2,a4⟩|⟨a1,a2,a4⟩|⟨a1,a2,a3,a4⟩|⟨a1,a2,a3,a4⟩|⟨a1,a2,a3,a4⟩|⟨a1,a2,a3,a4⟩
        ·have HX:=Hd (HNX.out _ a4)
         clear a4 HNX HCR;go_wp2
         go_roundw
         case rel=>exact⟨j+1,_,by omega,by go_num,rfl,(by rw[<- HX.out];cases q <;> rfl:q=(o != crR l x y (j+1))),hnc⟩
         case measure=>simp[intOf];omega
        ·have HX:=Hd (HNX.out _ a4)
         clear a4 HNX HCR;go_wp2
         go_roundw
         case rel=>exact⟨j+1,_,by omega,by go_num,rfl,(by rw[<- HX.out];cases q <;> rfl:q=(o != crR l x y (j+1))),hnc⟩
         case measure=>simp[intOf];omega
        all_goals
         have HX:=Hd (HNX.out _ a4);clear a4 HNX;have a5:decide (y<e2)= !decide (e2<=y):=by rw[Bool.eq_iff_iff];simp
         rw[a1]at a5;simp only[Bool.not_true,Bool.not_false]at a5
         go_wp2_with(first|(go_at_call 136;refine(HCR.out _).mono ?_;rintro e w' ⟨rfl,hb'⟩;obtain⟨⟨k1,k2⟩,⟨k3,k4⟩,k5,k6⟩:=HPQ.out.below hb'))
         go_roundw
         case rel=>exact⟨j+1,_,by omega,by go_num,rfl,(by rw[<- HX.out];cases q <;> rfl:_=(o != crR l x y (j+1))),hnc.trans (hb'.mono hnsz)⟩
         case measure=>simp[intOf];omega
      ·obtain rfl:j=m:=by omega
       clear HRI HALL;go_wp2
       go_roundw
       case rel=>exact⟨k+1,_,by omega,by go_num,rfl,(by rw[HOS.out,HO.out,HL.out]:crTo ls x y (k+1)=q),HB3.out⟩
       case measure=>simp[intOf];omega
    ·obtain rfl:k=n:=by omega
     have HF:Hid (insideF ls x y=o):=by show _=_;rw[HINS.out,HO.out]
     go_wp2;go_ret;exact⟨ret_bool HF.out.symm,hnx⟩
  ·rw[hf]at HFAR
   have HF:Hid (insideF ls x y=false):=by show _=_;unfold insideF;rw[HFN.out,hf];rfl
   clear hf
   go_enter Tryz.func90,Tryz.ntmps90
   go_wp2_with fail
   refine HC.out.mono ?_;rintro e w0 ⟨rfl,hb0⟩
   go_wp2_with(first|(go_at_call 134;refine(HFAR.out _).mono ?_;rintro e w' ⟨rfl,rfl⟩))
   go_ret;exact⟨ret_bool HF.out.symm,hb0⟩
 ·have HF:Hid (insideF ls x y=false):=by
   show _=_;unfold insideF;rw[HFN.out];have:(checkF ls==0)=false:=by simpa using hz
   rw[this];simp
  have hzb:(checkF ls != 0)=true:=by simpa using hz
  go_enter Tryz.func90,Tryz.ntmps90
  go_wp2_with fail
  refine HC.out.mono ?_;rintro e w0 ⟨rfl,hb0⟩;go_wp2;go_ret;exact⟨ret_bool HF.out.symm,hb0⟩
end
end Go.Proofs.YtpkoapmpknbgoaaGreat.Po
namespace Go.Proofs.YtpkoapmpknbgoaaGreat
section
open Go.RowKit Go.Lib Wd Cv
theorem rfill_any(R:Nat)(hR:R<=12){ro:Option Addr}{rn rc B:Nat}{ls:List (List (Int×Int))}(ao:Option Addr)(n c:Nat)(L:List Int)(w:World)(hB:B<=w.heap.size)(hrg:RgAt w B ro rn ls)(hn:n=L.length)(hb:n<=1000000)(hw:WordsAt w w.heap.size ao L)(hok:∀x∈L,∃z,okB R z=true/\x=(wordN R z:Nat)):
  Calls Tryz.prog 50 #[.slice ro rn rc,.slice ao n c] w (RcP w (L.filter (fillB ls R))):=by
 obtain⟨i0,hi0,hz0,hz1,hz2⟩:=info_parts info_u;have HK:Hid (∀ k,k<n->∃(W:Nat) (z:E2) (x y:Int),L.getD k 0=W/\(∀ w,Calls Tryz.prog 14 #[.int .u64 W] w fun e w'=>e=.returned (.tuple #[vC R z,.int .i64 0])/\Below w.heap.size w w')/\
   (∀ w,Calls Tryz.prog 15 #[vE z,.int .i64 R] w fun e w'=>e=.returned (.tuple #[.int .i64 x,.int .i64 y,.bool true])/\Below w.heap.size w w')/\
   ∀V,Below w.heap.size w V->Calls Tryz.prog 90 #[.slice ro rn rc,.int .i64 x,.int .i64 y] V fun e w'=>e=.returned (.bool (fillB ls R (L.getD k 0)))/\Below V.heap.size V w'):=fun k hk=>by
  obtain⟨z,hz,e⟩:=hok _ (getD_mem (l:=L) (j:=k) (by omega));obtain⟨v1,v2,v3⟩:=word_cell hz;have hlt:=(wordN_lt hz).1;have hsm:Sm 1073741824 z:=by
   have:=(shapeB_iff R z).1 ((okB_iff R z).1 hz).1;unfold Sm;omega
  refine⟨wordN R z,z,(atE (12-R) z).1,(atE (12-R) z).2,e,fun w=>?_,fun w=>rcentre_in z hsm R hR w,fun V hV=>?_⟩
  ·have:=rcell_any (wordN R z) (by omega) w
   unfold cvR cvZ cvE at this;rw[if_pos v1,if_pos v1,if_pos v1,v2,v3]at this;exact this
  ·have h1:=hrg.below hV hB
   have:=Po.rinside_any ro rc ls (atE (12-R) z).1 (atE (12-R) z).2 V B (Nat.le_trans hB hV.size) h1.rings (by rw[h1.len];exact h1.few) h1.tot;rw[h1.len]at this;rw[e];unfold fillB;rw[Int.toNat_natCast,v3];exact this
 have HN:=Hd hn;have HYES:=Hd (fun k (h:k<L.length)=>filt_yes (p:=fillB ls R) (L:=L) h);have HNO:=Hd (fun k (h:k<L.length)=>filt_no (p:=fillB ls R) (L:=L) h);have HEND:Hid ((L.take n).filter (fillB ls R)=L.filter (fillB ls R)):=by
  show _=_;rw[List.take_of_length_le (by omega)]
 generalize fillB ls R=p at *;have HW:=Hd hw;clear hw hok hn hrg;simp only[vE,vC]at*
 go_enter Tryz.func50,Tryz.ntmps50
 go_upto_region 3 with(fail)
 go_loopg [5,6] n (fun q s5 s6 wr=>∃(k m:Nat) (bo:Option Addr) (d:Nat),s5=.slice bo m d/\s6=.int .i64 k/\k<=n/\m<=k/\n-k<=q/\Hid (m=((L.take k).filter p).length/\wr.ownsRow w.heap.size 35 1 (.slice bo m d) m (uV ((L.take k).filter p))/\Below w.heap.size w wr))
 case atStart=>exact⟨0,0,_,_,rfl,by go_num,by omega,by omega,by omega,rfl,World.ownsRow_nil _ _ _ _,br⟩
 case round=>
  obtain⟨k,m,bo,d,rfl,rfl,hk,hm,hq,HR⟩:=hrel;by_cases hlt:k<n
  ·obtain⟨W,z,x,y,hWk,hcl,hce,hin⟩:=HK.out k hlt
   obtain⟨b,off,rfl,hb2,hcs⟩:=(HW.out.below HR.out.2.2 lr) (by have:=HN.out;omega);have c0:=hcs k (by have:=HN.out;omega);have HWK:=Hd hWk;obtain⟨pk,hpk⟩:∃b,p (L.getD k 0)=b:=⟨_,rfl⟩;rw[hpk]at hin;have HPK:=Hd hpk;rw[hWk]at c0;have hcx:∀wx,Below wr.heap.size wr wx->wx.cell? ⟨b,off+k,none⟩=some (.int .u64 W):=fun wx hx=>(hx.cell (p:=⟨b,off+k,none⟩) (Nat.lt_of_lt_of_le hb2 HR.out.2.2.size)).trans c0
   have HCX:=Hd hcx;have HC1:=Hd hcl;have HC2:=Hd hce;have HIN:Hid (∀ V,Below wr.heap.size wr V->Calls Tryz.prog 90 #[.slice ro rn rc,.int .i64 x,.int .i64 y] V fun e w'=>e=.returned (.bool pk)/\Below V.heap.size V w'):=fun V hV=>hin V (HR.out.2.2.trans (hV.mono HR.out.2.2.size))
   have hki:(k:Int)<(n:Int):=by omega
   clear hcs hcl hce hpk hWk hcx hin
   go_upto_region 5 with(fail)
   go_wp2_with fail
   refine(HC1.out _).mono ?_;rintro e w5 ⟨rfl,hb5⟩;have K5:Below wr.heap.size wr (w5.alloc (.cells #[.int .i64 R,.int .i64 z.1,.int .i64 z.2] 39)):=hb5.alloc hb5.size _;have x5:(w5.alloc (.cells #[.int .i64 R,.int .i64 z.1,.int .i64 z.2] 39)).heap[w5.heap.size]? =some (.cells #[.int .i64 R,.int .i64 z.1,.int .i64 z.2] 39 (0,0)):=heap_new _ _ _ rfl;clear hb5 c0 HC1
   go_upto_region 6 with(fail)
   generalize w5.alloc (.cells #[.int .i64 R,.int .i64 z.1,.int .i64 z.2] 39)=w6 at *;generalize w5.heap.size=dd at *;obtain⟨k1,k2,k3,k4⟩:=cel3 x5;have HB6:=Hd K5;clear K5 x5
   go_wp2_with fail
   refine(HC2.out _).mono ?_;rintro e w7 ⟨rfl,hb7⟩;have HB7:=Hd (HB6.out.trans (hb7.mono HB6.out.size));clear hb7 HC2 HB6 k1 k2 k3 k4;have hkL:k<L.length:=by have:=HN.out;omega
   go_upto_region 7 with(fail)
   go_wp2_with fail
   refine(HIN.out _ HB7.out).mono ?_;rintro e w8 ⟨rfl,hb8⟩;have HB8:=Hd (HB7.out.trans (hb8.mono HB7.out.size));clear hb8 HIN HB7;have hown:=own_later HR.out.2.1 HB8.out;have hsz:w.heap.size<=w8.heap.size:=Nat.le_trans HR.out.2.2.size HB8.out.size;have HB1R:=Hd (HR.out.2.2.trans (HB8.out.mono HR.out.2.2.size));cases pk with
   |false=>
    have HE:Hid ((L.take (k+1)).filter p=(L.take k).filter p):=HNO.out k hkL HPK.out;have HO:=Hd hown;have HM:=Hd HR.out.1;clear HK HEND HYES HPK HNO hown hsz hkL HR;go_wp2
    go_roundg (n-(k+1))
    case measure=>omega
    case rel=>exact⟨k+1,m,bo,d,rfl,by go_num,by omega,by omega,lr,by show _/\_;rw[HE.out];exact⟨HM.out,HO.out,HB1R.out⟩⟩
   |true=>
    have c7:=HCX.out w8 HB8.out;have HFY:Hid ((L.take (k+1)).filter p=(L.take k).filter p++[(W:Int)]):=by show _=_;rw[HYES.out k hkL HPK.out,HWK.out]
    have HML:=Hd HR.out.1;clear HK HEND HYES HPK HR HNO hkL
    go_wp2_with(at_builtin;refine wpList_append_own _ rfl (.tmp 39) (.tmp 44) 22 rfl w.heap.size 35 i0 (.int .u64 0) 1 8 Tryz.underlying22 hi0 hz0 hz1 hz2 rfl (by decide) _ _ _ rfl (hown.alloc _) ⟨w8.heap.size,0,none⟩ 1 1 [.int .u64 W] rfl rfl (cells_new _ _ _ _ rfl) (by simp[Value.oneCell']) (by unfold maxLen;omega) (by omega) (by simp;omega) ?_;intro v' w9 hown1 hgrow hnil)
    have HB9:Hid (Below w.heap.size w w9):=below_append (HB1R.out.alloc (by omega) (.cells #[.int .u64 W] 35)) (hown.alloc (.cells #[.int .u64 W] 35)) (by simp;omega) hgrow;obtain⟨ao',c',rfl,_⟩:=own_form hown1;have ho9:w9.ownsRow w.heap.size 35 1 (.slice ao' (m+1) c') (m+1) (uV ((L.take (k+1)).filter p)):=by rw[HFY.out];simpa[uV]using hown1
    have HO9:=Hd ho9;have HM9:Hid (m+1=((L.take (k+1)).filter p).length):=by show _=_;rw[HFY.out,List.length_append, <-HML.out];rfl
    clear hown1 hgrow hown ho9;go_wp2
    go_roundg (n-(k+1))
    case measure=>omega
    case rel=>exact⟨k+1,m+1,ao',c',rfl,by go_num,by omega,by omega,lr,HM9.out,HO9.out,HB9.out⟩
  ·obtain rfl:k=n:=by omega
   have hki:¬(k:Int)<(k:Int):=by omega
   have HF:=Hd HR.out;rw[HEND.out]at HF;clear HR HK HEND;go_wp2;go_ret;exact⟨bo,m,d,rfl,HF.out.1,words_own HF.out.1 HF.out.2.1,HF.out.2.2⟩
end
section
open Go.RowKit Go.Lib Wd
def parW(w:Nat):Nat:=if isW w=true/\rW w≠0 then ofW ((rW w:Int)-1) (upE (zW w))else 0
def parE(w:Nat):Int:=if isW w=true then(if rW w=0 then 3 else 0)else 5
def resW(w:Nat):Int:=if isW w=true then(rW w:Int)else -1
def chkF(r:Int):List Int->Int
 |[]=>0
 |w::l=>if isW w.toNat=true then(if(rW w.toNat:Int)=r then chkF r l else 8)else 5
theorem snoc_ind{α:Type}{P:List α->Prop}(h0:P [])(h1:∀l a,P l->P (l++[a])):∀l,P l:=by
 intro l;have:∀r:List α,P r.reverse:=by
  intro r
  induction r with
  |nil=>exact h0
  |cons a r ih=>rw[List.reverse_cons];exact h1 _ _ ih
 have:=this l.reverse
 rwa[List.reverse_reverse]at this
theorem up_ok{r:Nat}{z:E2}(h:okB (r+1:Nat) z=true):okB r (upE z)=true:=by
 obtain⟨h1,h2⟩:=okB_parts h;refine ok_of_base (by omega) ?_;exact h2
theorem parW_lt(w:Nat):parW w<18446744073709551616:=by
 unfold parW
 split
 ·next h=>
  unfold ofW
  split
  ·next h2=>
   obtain⟨k,hk,hk2⟩:=okB_nat h2;rw[hk]at h2;have:=(wordN_lt h2).1;rw[hk,Int.toNat_natCast];omega
  ·omega
 ·omega
end
section
open Go.RowKit Go.Lib Wd Cv
end
end Go.Proofs.YtpkoapmpknbgoaaGreat
