/- The walk of the law FillTells. -/
import Derived.Test.YtpkoapmpknbgoaaGreatPackBM
import Derived.Test.YtpkoapmpknbgoaaGreatPackBN
import Derived.Test.YtpkoapmpknbgoaaGreatPackBO
import Derived.Test.YtpkoapmpknbgoaaGreatPackBK
import Derived.Test.YtpkoapmpknbgoaaGreatPackBJ
import Derived.Lib.MinMax
set_option maxRecDepth 100000
set_option maxHeartbeats 16000000
namespace Go.Proofs.YtpkoapmpknbgoaaGreat.fillTells
section
open Go.RowKit Go.Lib Wd Cv
theorem bord_take{L:List Int}{k:Nat}(h:k<L.length):(L.take (k+1)).filter (bordB L)=(L.take k).filter (bordB L)++if bordB L (L.getD k 0)then [L.getD k 0]else []:=by
 cases hb:bordB L (L.getD k 0)with
 |true=>rw[filt_yes h hb];rfl
 |false=>rw[filt_no h hb];simp
theorem bord_all{L:List Int}{R:Nat}(hs:Sized R L){x:Int}(hx:x∈L):bordB L x= !(decide ((nbL x).length=6)&&(nbL x).all (hasF L)):=by
 have h6:=nb_len hs hx;unfold bordB;have e1:(nbL x).any (fun n=> !hasF L n)= !(nbL x).all (hasF L):=by rw[List.not_all_eq_any_not]
 rw[e1,Bool.not_and];congr 1;by_cases h:(nbL x).length=6
 ·rw[decide_eq_true h,decide_eq_false (by omega)];rfl
 ·rw[decide_eq_false h,decide_eq_true (by omega)];rfl
theorem ints_wider{w:World}{B C n:Nat}{ao:Option Addr}{z:Nat->Int}{κ:IntKind}(h:IntsAtK κ w B ao n z)(hC:B<=C):IntsAtK κ w C ao n z:=fun h0=>by
 obtain⟨b,off,e,hb,hc⟩:=h h0;exact⟨b,off,e,Nat.lt_of_lt_of_le hb hC,hc⟩
theorem walk{w:World}(a0:Option Addr)(n0 c0:Nat)(ls0:List (List (Int×Int)))(l0:ls0.length=n0)(g0:Po.RingsAt w w.heap.size a0 ls0)(o0:∀l∈ls0,l.length<=10000000000000)
  (a1:Int) (_w1:(Lit.int .i64 a1).wf=true) (a2:Int) (_w2:(Lit.int .i64 a2).wf=true) (a3:Int) (_w3:(Lit.int .i64 a3).wf=true)
  (a4:Option Addr) (n4 c4:Nat) (z4:Nat->Int) (h4:IntsAtK .i64 w w.heap.size a4 n4 z4) (_b4:∀i,i<n4->(Lit.int .i64 (z4 i)).wf=true) (s4:n4*8<=140737488351232) (a5:Int) (_w5:(Lit.int .i64 a5).wf=true):
  Calls Tryz.prog 6 #[.slice a0 n0 c0,.int .i64 a1,.int .i64 a2,.int .i64 a3,.slice a4 n4 c4,.int .i64 a5] w fun e w'=>e=.returned (.bool true)/\Below w.heap.size w w':=by
 have HAW:=Hd awake11_any;by_cases hbig:25<n0∨40<n4
 ·obtain⟨q,hq⟩:∃q,decide ((25:Int)<(n0:Int))=q:=⟨_,rfl⟩
  have hq2:q=false->decide ((40:Int)<(n4:Int))=true:=fun e=>by
   subst e;have:=of_decide_eq_false hq;exact decide_eq_true (by omega)
  clear hbig g0 o0 h4 _b4 l0
  go_enter Tryz.func6,Tryz.ntmps6
  cases q
  ·have q2:=hq2 rfl
   clear hq2
   go_wp2_with fail
   refine(HAW.out _).mono ?_;rintro e w2 ⟨rfl,hb2⟩;have HB2:=Hd hb2;clear hb2;go_wp2;go_ret;exact⟨rfl,HB2.out⟩
  ·clear hq2
   go_wp2_with fail
   refine(HAW.out _).mono ?_;rintro e w2 ⟨rfl,hb2⟩;have HB2:=Hd hb2;clear hb2;go_wp2;go_ret;exact⟨rfl,HB2.out⟩
 have q1:decide ((25:Int)<(n0:Int))=false:=decide_eq_false (by omega);have q2:decide ((40:Int)<(n4:Int))=false:=decide_eq_false (by omega);have htot:=Po.tot_big (by omega) o0;have hck:=Po.rcheck_big a0 c0 ls0 w w.heap.size lr g0 (by omega) htot;rw[l0]at hck;have HCK:=Hd hck;obtain⟨ce,hce⟩:∃ce,Po.checkF ls0=ce:=⟨_,rfl⟩;have HRC:Hid (ce≠0->BadAll w a0 n0 c0 a1 ce):=fun h=>by rw[<- hce];rw[<- hce]at h;exact raw_check a1 g0 l0 (by omega) htot h
 have HRA:Hid (ce=0->RgAt w w.heap.size a0 n0 ls0):=fun h=>raw_at g0 l0 (by omega) (hce.trans h)
 have HRB:Hid (ce=0->chE (blo ls0) (bhi ls0) a1≠0->BadAll w a0 n0 c0 a1 (chE (blo ls0) (bhi ls0) a1)):=fun h h2=>raw_box a1 (raw_at g0 l0 (by omega) (hce.trans h)) (hce.trans h) h2
 have HPX:Hid (ce=0->∀W,Below w.heap.size w W->Calls Tryz.prog 19 #[.slice a0 n0 c0] W fun e w'=>e=.returned (.tuple #[vE (blo ls0),vE (bhi ls0)])/\Below W.heap.size W w'):=fun h W hW=>by
  have h1:=(raw_at g0 l0 (by omega) (hce.trans h)).below hW lr;have:=Po.rbox_any a0 c0 ls0 W w.heap.size hW.size h1.rings (by rw[h1.len];exact h1.few) h1.tot;rw[h1.len]at this;exact this
 have HBM:=Hd (fun W=>bmay_any (blo ls0) (bhi ls0) a1 W);rw[hce]at HCK;have HIN:=Hd h4;clear hck hce htot g0 o0 h4 _b4 l0 hbig;generalize blo ls0=lo at *;generalize bhi ls0=hi at *;obtain⟨lx,ly⟩:=lo;obtain⟨ux,uy⟩:=hi;simp only[vE]at HPX HBM
 go_enter Tryz.func6,Tryz.ntmps6
 go_wp2_with fail
 refine HCK.out.mono ?_;rintro e w1 ⟨rfl,hb1⟩;have HB1:=Hd hb1;clear hb1 HCK q1 q2
 go_upto_if 51 with(fail)
 go_cut [13,14,15]from 48 to 104 (fun s13 _ _ wx=>∃er:Int,s13=.int .i64 er/\Hid (er≠0->BadAll w a0 n0 c0 a1 er)/\Hid (Below w.heap.size w wx))
 case first=>
  by_cases hz:ce=0
  ·have qz:(ce==0)=true:=by rw[hz];rfl
   have HP1:=Hd (HPX.out hz w1 HB1.out);have HR1:=Hd (HRB.out hz);clear HPX HRB HRA HRC hz
   go_wp2_with fail
   refine HP1.out.mono ?_;rintro e w2 ⟨rfl,hb2⟩;obtain⟨w3,hw3⟩:∃W,(w2.alloc (.cells #[.int .i64 lx,.int .i64 ly] 26)).alloc (.cells #[.int .i64 ux,.int .i64 uy] 26)=W:=⟨_,rfl⟩;have hb3:Below w2.heap.size w2 w3:=by rw[<- hw3];exact(br.alloc lr _).alloc (by simp) _
   have x0:w3.heap[w2.heap.size]? =some (.cells #[.int .i64 lx,.int .i64 ly] 26 (0,0)):=by
    rw[<- hw3,Below.heap_alloc _ _ _ (by simp)];exact heap_new _ _ _ rfl
   have x1:w3.heap[w2.heap.size+1]? =some (.cells #[.int .i64 ux,.int .i64 uy] 26 (0,0)):=by rw[<- hw3];exact heap_new _ _ _ (by simp)
   obtain⟨k0,k1,k2⟩:=cel2 x0;obtain⟨u0,u1,u2⟩:=cel2 x1;have HB3:=Hd (HB1.out.trans ((hb2.trans (hb3.mono hb2.size)).mono HB1.out.size));have HW3:=Hd hw3;clear hb2 hb3 x0 x1 hw3 HP1
   go_upto_region 6 with(fail)
   first|rw[HW3.out]|skip
   generalize w2.heap.size=g at *;clear HW3
   go_wp2_with fail
   refine(HBM.out w3).mono ?_;rintro e w4 ⟨rfl,hb4⟩;have HB4:=Hd (HB3.out.trans (hb4.mono HB3.out.size));clear hb4 k0 k1 k2 u0 u1 u2;go_wp2
   go_meet
   exact⟨_,rfl,HR1.out,HB4.out⟩
  ·have qz:(ce==0)=false:=beq_eq_false_iff_ne.2 hz
   clear HPX HRB HRA hz;go_wp2
   go_meet
   exact⟨ce,rfl,HRC.out,HB1.out⟩
 case rest=>
  obtain⟨er,rfl,HER,HBC⟩:=hcut;clear HPX HRB HRA HRC HBM HB1
  as_aux_lemma=>
   go_upto_if 62 with(fail)
   go_cut [16,17,18,19,20,21]from 48 to 104 (fun _ _ _ _ _ _ wx=>Hid (Below w.heap.size w wx))
   case first=>
    by_cases hz:er=0
    ·have qz:(er != 0)=false:=by rw[hz];rfl
     clear hz;go_wp2
     go_meet
     exact HBC.out
    ·have qz:(er != 0)=true:=by simpa using hz
     have HBA:=Hd (HER.out hz);have HF:=Hd (HBA.out wc HBC.out).1;clear HER hz
     go_wp2_with fail
     refine HF.out.mono ?_;rintro e w3 ⟨rfl,hb3⟩;have HB3:=Hd (HBC.out.trans (hb3.mono HBC.out.size));have HF2:=Hd (HBA.out w3 HB3.out).2.1;clear hb3 HF
     go_wp2_with fail
     refine HF2.out.mono ?_;rintro e w4 ⟨rfl,hb4⟩;have HB4:=Hd (HB3.out.trans (hb4.mono HB3.out.size));have HF3:=Hd (HBA.out w4 HB4.out).2.2;clear hb4 HF2
     go_wp2_with fail
     refine HF3.out.mono ?_;rintro e w5 ⟨rfl,hb5⟩;have HB5:=Hd (HB4.out.trans (hb5.mono HB4.out.size));clear hb5 HF3 HBA;go_wp2
     go_meet
     exact HB5.out
   case rest=>
    have HBD:Hid (Below w.heap.size w wc):=hcut;clear hcut HER
    as_aux_lemma=>
     obtain⟨S,R,hS,hS1,hS2,hRe,hR,-⟩:=res_of a5;have hrg:=lrings_any a2 a3 a4 n4 c4 z4 R hR wc (ints_wider (HIN.out.below HBD.out lr) HBD.out.size) (by omega);have HRG:=Hd hrg;have hX:0<=a2%1073741824:=by omega
     have hY:0<=a3%1073741824:=by omega
     obtain⟨sz,hsz⟩:∃q,sizeN (12-R)=q:=⟨_,rfl⟩;have hsz0:0<=sz:=by have:=(sizeN_pos (m:=12-R) (by omega)).1;omega
     have HOK:Hid (∀ ls:List (List (Int×Int)),RingsOK (a2%1073741824) (a3%1073741824) (sizeN (12-R)) ls->0<ls.length->Po.RgsOK ls/\∀l∈ls,∀p∈l,(a2%1073741824<=p.1/\p.1<=a2%1073741824+7*sz)/\a3%1073741824<=p.2/\p.2<=a3%1073741824+7*sz):=fun ls h h0=>by rw[hsz]at h;exact rgs_ok hX hY h h0
     have HSZ:=Hd hsz;generalize a2%1073741824=X at *;generalize a3%1073741824=Y at *;clear hrg hX hY hsz HIN
     go_upto_region 14 with(first|rw[hS]|rw[hRe])
     go_wp2_with fail
     refine HRG.out.mono ?_;rintro e w1 ⟨v,ls,rfl,hls,⟨vs,hown,hor⟩,hb1⟩;obtain⟨ro,rc,rfl,hrc,hrh⟩:=own_form hown;have HB1:=Hd (HBD.out.trans (hb1.mono HBD.out.size));have HOK1:=Hd (HOK.out ls hls);obtain⟨nl,hnl⟩:∃nl,ls.length=nl:=⟨_,rfl⟩;have HAT:Hid (Po.RgsOK ls->RgAt w1 w1.heap.size ro nl ls):=fun hk=>by subst hnl;exact rgs_at hown hor rfl hk
     rw[hnl]at HOK1;rw[hnl];clear hown hor hb1 hrc hrh hls hnl HRG HOK HBD;by_cases hgo:nl=0
     ·have g1:((nl:Int)==0)=true:=by rw[hgo];rfl
      go_wp2_with fail
      refine(HAW.out _).mono ?_;rintro e w2 ⟨rfl,hb2⟩;have HB2:=Hd (HB1.out.trans (hb2.mono HB1.out.size));clear hb2;go_wp2;go_ret;exact⟨rfl,HB2.out⟩
     ·have g1:((nl:Int)==0)=false:=by rw[beq_eq_false_iff_ne];omega
      obtain⟨hk,hb⟩:=HOK1.out (by omega);have HAT1:=Hd (HAT.out hk);have HFI:Hid (∀ W,Below w1.heap.size w1 W->Calls Tryz.prog 8 #[.slice ro nl rc,.int .i64 R] W (GoodF W R ls id)):=fun W hW=>rgs_good hR hk hb HSZ.out hsz0 HAT1.out hW
      have HBO:Hid (∀ W,Below w1.heap.size w1 W->Calls Tryz.prog 21 #[.slice ro nl rc,.int .i64 R] W (GoodF W R ls bordL)):=fun W hW=>border_good (HFI.out W hW)
      have HPK:Hid (∀ W,Below w1.heap.size w1 W->Calls Tryz.prog 22 #[.slice ro nl rc,.int .i64 R] W (GoodF W R ls cmpL)):=fun W hW=>packed_good (HFI.out W hW)
      have HWT:=Hd (want_any (rc:=rc) hR hk HAT1.out);clear hgo hk hb HOK1 HAT HAT1 HSZ hsz0
      go_wp2_with fail
      refine HWT.out.mono ?_;rintro e w2 ⟨⟨rfl⟩|⟨L,lo,lc,ln,hL,rfl,hln,hlw⟩,hb2⟩
      ·have HB2:=Hd (HB1.out.trans (hb2.mono HB1.out.size))
       clear hb2 HWT HFI HBO HPK
       go_wp2_with fail
       refine(HAW.out _).mono ?_;rintro e w3 ⟨rfl,hb3⟩;have HB3:=Hd (HB2.out.trans (hb3.mono HB2.out.size));clear hb3;go_wp2;go_ret;exact⟨rfl,HB3.out⟩
      ·have HY2:Hid (Below w1.heap.size w1 w2):=hb2
       have HL:=Hd hL;have HWL:=Hd hlw;have HLN:=Hd hln;have hln2:ln<=20000:=by rw[hln];exact hL.2.2
       have HSD:=Hd (fil_sized hL);clear hb2 hL hlw hln HWT;have HWV:Hid (∀ V,Below w2.heap.size w2 V->WordsAt V V.heap.size lo L):=fun V hV=>(HWL.out.below hV lr).wider hV.size
       have HUP:Hid (Up L):=HL.out.1;have HEND:Hid ((L.take ln).filter (bordB L)=bordL L):=by
        show _=_;rw[List.take_of_length_le (by rw[HLN.out];exact lr)]
        rfl
       obtain⟨i0,hi0,hz0,hz1,hz2⟩:=info_parts info_u;clear HWL
       as_aux_lemma=>
        go_upto_region 22 with(fail)
        go_loopg [25,26] ln (fun q s25 s26 wy=>∃(k m:Nat) (bo:Option Addr) (d:Nat),k<=ln/\ln-k<=q/\m<=k/\s25=.slice bo m d/\s26=.int .i64 k/\Hid (m=((L.take k).filter (bordB L)).length/\wy.ownsRow w2.heap.size 35 1 (.slice bo m d) m (uV ((L.take k).filter (bordB L)))/\Below w2.heap.size w2 wy))
        case atStart=>exact⟨0,0,_,_,by omega,by omega,by omega,rfl,by go_num,rfl,World.ownsRow_nil _ _ _ _,br⟩
        case round=>
         obtain⟨k,m,bo,d,hk,hq,hm,rfl,rfl,HR⟩:=hrel;by_cases hlt:k<ln
         ·have hkl:k<L.length:=by rw[<- HLN.out];exact hlt
          have hkm:L.getD k 0∈L:=by rw[List.getD_eq_getElem?_getD,List.getElem?_eq_getElem hkl];exact List.getElem_mem hkl
          obtain⟨gb,off,rfl,hgb,hcc⟩:=HWV.out wr HR.out.2.2 (by omega);have c0:=hcc k hkl;have hbq:=bord_all HSD.out hkm;have h6:=nb_len HSD.out hkm;have hst:=bord_take hkl;obtain⟨z,hz,hx⟩:=HSD.out _ hkm;have hw64:=(wordN_lt hz).1;rw[hx]at c0 hbq hst h6;unfold nbL at hbq h6;rw[Int.toNat_natCast]at hbq h6;obtain⟨bq,hbq2⟩:∃b,bordB L ((wordN R z:Nat):Int)=b:=⟨_,rfl⟩;rw[hbq2]at hbq hst;have HST:=Hd hst;generalize wordN R z=wd at *;have HN:=Hd (rnei_own wd (by omega) wr);have hki:(k:Int)<(ln:Int):=by omega
          have HQ:=Hd hbq;clear hkl hkm hcc hz hx hw64 hbq hbq2 hst;generalize rgsL wd 1 1 1=nb at *;generalize rgsE wd 1 1=ne at*
          go_wp2_with fail
          refine HN.out.mono ?_;rintro e w7 ⟨no,nc,rfl,hno,hb7⟩;have HB7:=Hd (HR.out.2.2.trans (hb7.mono HR.out.2.2.size));have HO7:=Hd (own_later HR.out.2.1 hb7);have HNB:=Hd (LAt.of_own rfl hno);have HC1:=Hd ((hb7.cell (p:=⟨gb,off+k,none⟩) hgb).trans c0);have hgb7:gb<w7.heap.size:=Nat.lt_of_lt_of_le hgb hb7.size;have HM7:=Hd HR.out.1;obtain⟨nn,hnn⟩:∃nn,nb.length=nn:=⟨_,rfl⟩;rw[hnn]at HNB HQ h6;rw[hnn];have HNN:=Hd hnn;obtain⟨b0,hb0⟩:∃b,((nn:Int)==6)=b:=⟨_,rfl⟩;have HB0:Hid (decide (nn=6)=b0):=by
           show _=_;rw[<- hb0,Bool.eq_iff_iff,decide_eq_true_iff,beq_iff_eq];omega
          rw[HB0.out]at HQ;clear hno hb7 c0 hgb HN hnn HR
          as_aux_lemma=>
           go_upto_region 27 with(fail)
           go_loopg [29,30] nn (fun q2 s29 s30 wz=>∃(j:Nat) (b:Bool),j<=nn/\nn-j<=q2/\s29=.bool b/\s30=.int .i64 j/\wz=w7/\Hid (b=(b0&&(nb.take j).all (hasF L))))
           case atStart=>exact⟨0,b0,Nat.zero_le _,by omega,rfl,rfl,rfl,by show _=_;simp⟩
           case round=>
            obtain⟨j,b,hj,hq2,rfl,rfl,hwe,HC⟩:=hrel;rw[hwe];clear hwe;by_cases hltj:j<nn
            ·obtain⟨g2,off2,rfl,hg2,hcc2⟩:=HNB.out.2.1 (by rw[<- HNB.out.1];omega)
             have hjl:j<nb.length:=by rw[HNN.out];exact hltj
             have d0:=hcc2 j hjl;have HT:Hid ((nb.take (j+1)).all (hasF L)=((nb.take j).all (hasF L)&&hasF L (nb.getD j 0))):=by
              show _=_;rw[List.take_succ_eq_append_getElem hjl,List.all_append,List.getD_eq_getElem?_getD,List.getElem?_eq_getElem hjl];simp
             have HAS:=Hd (fun c=>rhas_n (c:=c) (nb.getD j 0) HLN.out (by omega) (HWV.out w7 HB7.out) HUP.out.rising);generalize nb.getD j 0=y at *;have hji:(j:Int)<(nn:Int):=by omega
             clear hcc2 hjl;cases b with
             |true=>
              obtain⟨hs,hhs⟩:∃b,hasF L y=b:=⟨_,rfl⟩;rw[hhs]at HAS HT;have HT2:Hid (hs=(b0&&(nb.take (j+1)).all (hasF L))):=by
               show _=_;rw[HT.out, <-Bool.and_assoc, <-HC.out,Bool.true_and]
              clear hhs HT HC
              go_wp2_with fail
              refine(HAS.out _).mono ?_;rintro e w8 ⟨rfl,rfl⟩;go_wp2
              go_roundg (nn-(j+1))
              case measure=>omega
              case rel=>exact⟨j+1,hs,by omega,lr,rfl,by go_num,rfl,HT2.out⟩
             |false=>
              have HT2:Hid (false=(b0&&(nb.take (j+1)).all (hasF L))):=by
               show _=_;rw[HT.out, <-Bool.and_assoc, <-HC.out,Bool.false_and]
              clear HT HC HAS;go_wp2
              go_roundg (nn-(j+1))
              case measure=>omega
              case rel=>exact⟨j+1,false,by omega,lr,rfl,by go_num,rfl,HT2.out⟩
            ·have hjn:nn=j:=by omega
             subst hjn;have hji:¬(nn:Int)<(nn:Int):=by omega
             have HBV:Hid (bq= !b):=by
              show _=_;rw[HQ.out,HC.out,List.take_of_length_le (by rw[HNN.out];exact lr)]
             clear HC HQ;cases b with
             |true=>
              have HFY:Hid ((L.take (k+1)).filter (bordB L)=(L.take k).filter (bordB L)):=by
               show _=_;rw[HST.out,HBV.out];simp
              clear HST HBV hb0;go_wp2
              go_roundg (ln-(k+1))
              case measure=>omega
              case rel=>exact⟨k+1,m,bo,d,by omega,lr,by omega,rfl,by go_num,by show _/\_;rw[HFY.out];exact⟨HM7.out,HO7.out,HB7.out⟩⟩
             |false=>
              have HFY:Hid ((L.take (k+1)).filter (bordB L)=(L.take k).filter (bordB L)++[(wd:Int)]):=by
               show _=_;rw[HST.out,HBV.out];simp
              have hown:=HO7.out;have c7:=HC1.out;have hsz:=HB7.out.size;clear HST HBV hb0
              go_wp2_with(at_builtin;refine wpList_append_own _ rfl (.tmp 161) (.tmp 166) 22 rfl w2.heap.size 35 i0 (.int .u64 0) 1 8 Tryz.underlying22 hi0 hz0 hz1 hz2 rfl (by decide) _ _ _ rfl (hown.alloc _) ⟨w7.heap.size,0,none⟩ 1 1 [.int .u64 wd] rfl rfl (cells_new _ _ _ _ rfl) (by simp[Value.oneCell']) (by unfold maxLen;omega) (by omega) (by simp;omega) ?_;intro v' w9 hown1 hgrow hnil)
              have HB9:Hid (Below w2.heap.size w2 w9):=below_append (HB7.out.alloc (by omega) (.cells #[.int .u64 wd] 35)) (hown.alloc (.cells #[.int .u64 wd] 35)) (by simp;omega) hgrow;obtain⟨ao',c',rfl,_⟩:=own_form hown1;have ho9:w9.ownsRow w2.heap.size 35 1 (.slice ao' (m+1) c') (m+1) (uV ((L.take (k+1)).filter (bordB L))):=by rw[HFY.out];simpa[uV]using hown1
              have HO9:=Hd ho9;have HM9:Hid (m+1=((L.take (k+1)).filter (bordB L)).length):=by show _=_;rw[HFY.out,List.length_append, <-HM7.out];rfl
              clear hown1 hgrow hown ho9;go_wp2
              go_roundg (ln-(k+1))
              case measure=>omega
              case rel=>exact⟨k+1,m+1,ao',c',by omega,lr,by omega,by go_num,by go_num,HM9.out,HO9.out,HB9.out⟩
         ·have hkn:ln=k:=by omega
          subst hkn;have hki:¬(ln:Int)<(ln:Int):=by omega
          have HBR:=Hd HR.out.2.2;have HBL:Hid (LAt wr bo m d (bordL L)):=by
           have h:=LAt.of_own HR.out.1 HR.out.2.1;rw[HEND.out]at h;exact h
          have hcm:=rcompact_any lo lc L wr wr.heap.size (HWV.out wr HBR.out) lr (by rw[<- HLN.out];omega) (sized_64 HSD.out);rw[<- HLN.out]at hcm;have HCM:=Hd hcm;clear hcm HR HEND
          as_aux_lemma=>
           go_wp2_with fail
           refine HCM.out.mono ?_;rintro e w3 ⟨po,pc,rfl,hpo,hb3⟩;have HK3:=Hd (LAt.of_own rfl hpo);have HBL3:=Hd (HBL.out.later hb3);have HB3:=Hd (HBR.out.trans (hb3.mono HBR.out.size));have HY3:=Hd (HY2.out.trans (HB3.out.mono HY2.out.size));obtain⟨pn,hpn⟩:∃q,(cmpL L).length=q:=⟨_,rfl⟩;rw[hpn]at HK3;rw[hpn];clear hpo hb3 hpn HCM HBL HBR
           go_wp2_with fail
           refine(HFI.out w3 HY3.out).mono ?_;rintro e w4 ⟨M,fo,fc,fn,hM,rfl,kM,hb4⟩;obtain rfl:=isFil_eq HL.out hM;have HF4:Hid (LAt w4 fo fn fc M):=kM;have HK4:=Hd (HK3.out.later hb4);have HBL4:=Hd (HBL3.out.later hb4);have HB4:=Hd (HB3.out.trans (hb4.mono HB3.out.size));have HY4:=Hd (HY3.out.trans (hb4.mono HY3.out.size));clear kM hM hb4 HFI HK3 HBL3 HB3 HY3
           go_wp2_with fail
           refine(HBO.out w4 HY4.out).mono ?_;rintro e w5 ⟨N,go,gc,gn,hN,rfl,kN,hb5⟩;obtain rfl:=isFil_eq HL.out hN;have HG5:=Hd kN;have HF5:=Hd (HF4.out.later hb5);have HK5:=Hd (HK4.out.later hb5);have HBL5:=Hd (HBL4.out.later hb5);have HB5:=Hd (HB4.out.trans (hb5.mono HB4.out.size));have HY5:=Hd (HY4.out.trans (hb5.mono HY4.out.size));clear kN hN hb5 HBO HF4 HK4 HBL4 HB4 HY4
           go_wp2_with fail
           refine(HPK.out w5 HY5.out).mono ?_;rintro e w6 ⟨O,ho,hc,hn,hO,rfl,kO,hb6⟩;obtain rfl:=isFil_eq HL.out hO;have HH6:=Hd kO;have HG6:=Hd (HG5.out.later hb6);have HF6:=Hd (HF5.out.later hb6);have HK6:=Hd (HK5.out.later hb6);have HBL6:=Hd (HBL5.out.later hb6);have HB6:=Hd (HB5.out.trans (hb6.mono HB5.out.size));have HW6:=Hd (HWV.out w6 HB6.out);have hml:(cmpL O).length<=20000:=by
            have:=(fil_pack hR HL.out).2.2.2.1;exact this
           have hbl:(bordL O).length<=20000:=Nat.le_trans (List.length_filter_le _ _) (by rw[<- HLN.out];exact hln2);have HZ6:=Hd (HB1.out.trans ((HY5.out.trans (hb6.mono HY5.out.size)).mono HB1.out.size));clear kO hO hb6 HPK HG5 HF5 HK5 HBL5 HB5 HY5 HY2;have hs1:=same_n (c:=fc) (d:=lc) HF6.out.1 HLN.out (by rw[HF6.out.1, <-HLN.out];omega) HF6.out.2.1 HW6.out;rw[decide_eq_true rfl]at hs1;have HS1:=Hd hs1;clear hs1
           as_aux_lemma=>
            go_wp2_with fail
            refine HS1.out.mono ?_;rintro e w8 ⟨rfl,hb8⟩;have hg8:=HG6.out.later hb8;have hl8:=HBL6.out.later hb8;have hs2:=same_n (c:=gc) (d:=d) hg8.1 hl8.1 (by rw[hg8.1];omega) hg8.2.1 hl8.2.1;rw[decide_eq_true rfl]at hs2;have HS2:=Hd hs2;have HH8:=Hd (HH6.out.later hb8);have HK8:=Hd (HK6.out.later hb8);have HZ8:=Hd (HZ6.out.trans (hb8.mono HZ6.out.size));clear hb8 hg8 hl8 hs2 HS1 HG6 HBL6 HH6 HK6 HF6 HZ6
            go_wp2_with fail
            refine HS2.out.mono ?_;rintro e w9 ⟨rfl,hb9⟩;have hh9:=HH8.out.later hb9;have hk9:=HK8.out.later hb9;have hs3:=same_n (c:=hc) (d:=pc) hh9.1 hk9.1 (by rw[hh9.1];omega) hh9.2.1 hk9.2.1;rw[decide_eq_true rfl]at hs3;have HS3:=Hd hs3;have HZ9:=Hd (HZ8.out.trans (hb9.mono HZ8.out.size));clear hb9 hh9 hk9 hs3 HS2 HH8 HK8 HZ8
            go_wp2_with fail
            refine HS3.out.mono ?_;rintro e w10 ⟨rfl,hb10⟩;have HZ10:=Hd (HZ9.out.trans (hb10.mono HZ9.out.size));clear hb10 HS3 HZ9
            go_wp2_with fail
            refine(HAW.out _).mono ?_;rintro e w11 ⟨rfl,hb11⟩;have HZ11:=Hd (HZ10.out.trans (hb11.mono HZ10.out.size));clear hb11 HZ10;go_wp2;go_ret;exact⟨rfl,HZ11.out⟩
end
end Go.Proofs.YtpkoapmpknbgoaaGreat.fillTells
