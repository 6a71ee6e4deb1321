/- Joined: NwBq, NwDq, PkEr, PlFr, NwGr: contracts and plain laws, each with its own heading below. -/
import Derived.Test.YtpkoapmpknbgoaaGreatPackBN
import Derived.Test.YtpkoapmpknbgoaaGreatPackBC
import Derived.Test.YtpkoapmpknbgoaaGreatPackBK
import Derived.OwnWalk
set_option maxRecDepth 100000
set_option maxHeartbeats 16000000
namespace Go.Proofs.YtpkoapmpknbgoaaGreat
section
open Go.RowKit Go.Lib Wd
theorem rkw_in{k:Nat}{z:E2}(hz:okB k z=true)(hk:k+1<=12)(w:World):Calls Tryz.prog 55 #[.int .u64 (wordN k z:Nat)] w fun e w'=>∃ao c,e=.returned (.slice ao 7 c)/\w'.ownsRow w.heap.size 35 1 (.slice ao 7 c) 7 (uV (dsN 1 k z))/\Below w.heap.size w w':=by
 obtain⟨i0,hi,hz0,hz1,hz2⟩:=info_parts info_u;obtain⟨b1,b2,b3⟩:=word_cell hz;have lW:=(wordN_lt hz).1;have HRC:Hid (∀ w,Calls Tryz.prog 14 #[.int .u64 (wordN k z:Nat)] w fun e w'=>e=.returned (.tuple #[.agg #[.int .i64 k,.int .i64 z.1,.int .i64 z.2],.int .i64 0])/\Below w.heap.size w w'):=fun w=>by
  have h:=rcell_any (wordN k z) (by omega) w;unfold cvR cvZ cvE at h;rw[if_pos b1,if_pos b1,if_pos b1,b2,b3]at h;exact h
 have hkk:=rkids_any (k:Int) z;rw[(kd_ok hz hk).1,(kd_ok hz hk).2]at hkk;obtain⟨K,hK⟩:∃K,dsN 1 k z=K:=⟨_,rfl⟩;have hKl:K.length=7:=by rw[<- hK];exact ds_len _ _ _
 have HWD:Hid (∀ i,i<7->∀w,Calls Tryz.prog 88 #[vC (cg (kidsL k z) i).1 (cg (kidsL k z) i).2] w fun e w'=>e=.returned (.tuple #[.int .u64 (K.getD i 0),.int .i64 0])/\Below w.heap.size w w'):=fun i hi w=>by
  rw[kidsL_get _ _ hi];have h:=word_any (((k+1:Nat)):Int) (downE z i) w;have ho:=kid_ok hz hk hi;rw[(ofW_ok (r:=k+1) ho).1,(ofW_ok (r:=k+1) ho).2.1]at h;rw[<- hK, <-kids_ds hk,kidsW_get hk hi];exact h
 have HTK:Hid (∀ i,i<7->K.take (i+1)=K.take i++[K.getD i 0]):=fun i hi=>take_w K (by omega)
 have HTE:Hid (K.take 7=K):=List.take_of_length_le (by omega);have HCL:Hid ((kidsL k z).length=7):=rfl;have HK:=Hd hkk;simp only[vC]at HWD HK;generalize hcl:kidsL (((k:Nat)):Int) z=C at *;generalize wordN k z=W at *;rw[hK];clear hkk hK hKl hcl b1 b2 b3 lW
 go_enter Tryz.func55,Tryz.ntmps55
 go_wp2_with fail
 refine(HRC.out _).mono ?_;rintro e w0 ⟨rfl,hb0⟩;have B0:Hid (Below w.heap.size w (w0.alloc (.cells #[.int .i64 k,.int .i64 z.1,.int .i64 z.2] 39))):=hb0.alloc hb0.size _;have T0:Hid (Tri (w0.alloc (.cells #[.int .i64 k,.int .i64 z.1,.int .i64 z.2] 39)) w0.heap.size k z):=heap_new _ _ _ rfl;clear hb0
 go_upto_region 2 with(fail)
 generalize w0.alloc (.cells #[.int .i64 k,.int .i64 z.1,.int .i64 z.2] 39)=wc at *;obtain⟨t0,t1,t2,t3,t4,t5,t6⟩:=T0.out.cells
 go_wp2_with fail
 refine(HK.out _).mono ?_;rintro e w1 ⟨co,cc,rfl,hca,hb1⟩;rw[HCL.out];have HCA:=Hd hca;have HB1:=Hd (B0.out.trans (hb1.mono B0.out.size));clear hca hb1 HK B0 T0 t0 t1 t2 t3 t4 t5 t6;go_wp2
 go_loopw [7,8] (fun sl i wr=>∃(j:Nat) (lo:Option Addr) (lc:Nat),j<=7/\i=.int .i64 j/\sl=.slice lo j lc/\Hid (wr.ownsRow w1.heap.size 35 1 (.slice lo j lc) j (uV (K.take j))/\Below w1.heap.size w1 wr)) (fun _ i _=>7-(intOf i).toNat)
 case atStart=>exact⟨0,none,0,by omega,rfl,rfl,World.ownsRow_nil _ _ _ _,br⟩
 case round=>
  obtain⟨j,lo,lc,hj,rfl,rfl,HI⟩:=hrel;by_cases hlt:j<7
  ·obtain⟨g,off,rfl,hg,hc⟩:=(HCA.out.below HI.out.2) (by rw[HCL.out];omega)
   obtain⟨c0,c1,c2⟩:=hc j (by rw[HCL.out];exact hlt);have hwd:=HWD.out j hlt;have htk:=HTK.out j hlt;generalize cg C j=y at *;generalize K.getD j 0=x at *;have HWK:=Hd hwd;have HTK2:=Hd htk;clear hc hwd htk
   go_wp2_with fail
   refine(HWK.out _).mono ?_;rintro e w2 ⟨rfl,hb2⟩;have hs1:=HI.out.2.size;have HB2:=Hd (HI.out.2.trans (hb2.mono hs1));have hown:=own_later HI.out.1 hb2;have HBA:=Hd (HB2.out.alloc HB2.out.size (.cells #[.int .u64 x] 35));have hbs:w1.heap.size<=(w2.alloc (.cells #[.int .u64 x] 35)).heap.size:=HBA.out.size;clear hb2 HI c0 c1 c2 HWK
   go_wp2_with(at_builtin;refine wpList_append_own_at _ rfl (.tmp 39) (.tmp 41) 22 rfl w1.heap.size 35 i0 (.int .u64 0) 1 8 Tryz.underlying22 hi hz0 hz1 hz2 rfl (by decide) _ j (uV (K.take j)) rfl (hown.alloc _) ⟨w2.heap.size,0,none⟩ 1 1 [.int .u64 x] rfl rfl (cells_new _ _ _ _ rfl) (by simp[Value.oneCell']) (by unfold maxLen;omega) (by omega) hbs ?_;intro v3 w3 hown1 hgrow _ _)
   obtain⟨lo',lc',rfl,-⟩:=own_form hown1;have HO3:Hid (w3.ownsRow w1.heap.size 35 1 (.slice lo' (j+1) lc') (j+1) (uV (K.take (j+1)))):=by rw[HTK2.out,uV_snoc];exact hown1
   have HB3:=Hd (below_append HBA.out (hown.alloc (.cells #[.int .u64 x] 35)) hbs hgrow);clear hown hown1 hgrow hbs HBA HB2
   go_roundw
   case rel=>exact⟨j+1,lo',lc',by omega,by go_num,rfl,HO3.out,HB3.out⟩
   case measure=>simp[intOf];omega
  ·obtain rfl:j=7:=by omega
   have ho:=HI.out.1;rw[HTE.out]at ho;have hbb:=HB1.out.trans (HI.out.2.mono HB1.out.size);have HF:Hid (∃ ao c,Ending.returned (.slice lo 7 lc)=.returned (.slice ao 7 c)/\wr.ownsRow w.heap.size 35 1 (.slice ao 7 c) 7 (uV K)/\Below w.heap.size w wr):=⟨lo,lc,rfl,own_base ho HB1.out.size,hbb⟩;clear ho hbb HI HB1;go_wp2;go_ret;exact HF.out
def upA(A B:List Int):List Int:=(B.filter fun v=>fullB A v).map parI
def doA(A B:List Int):List Int:=B.filter fun v=> !fullB A v
theorem up_snoc(A:List Int){B:List Int}{k:Nat}(h:k<B.length):upA A (B.take (k+1))=if fullB A (B.getD k 0)=true then upA A (B.take k)++[parI (B.getD k 0)]else upA A (B.take k):=by
 unfold upA;rw[take_w B h,List.filter_append,List.map_append,List.filter_cons];by_cases hf:fullB A (B.getD k 0)=true
 ·rw[if_pos hf,if_pos hf];rfl
 ·rw[if_neg hf,if_neg hf];simp
theorem do_snoc(A:List Int){B:List Int}{k:Nat}(h:k<B.length):doA A (B.take (k+1))=if fullB A (B.getD k 0)=true then doA A (B.take k)else doA A (B.take k)++[B.getD k 0]:=by
 unfold doA;rw[take_w B h,List.filter_append,List.filter_cons];by_cases hf:fullB A (B.getD k 0)=true
 ·rw[if_pos hf,hf,if_neg (by decide)];simp
 ·rw[if_neg hf,Bool.eq_false_iff.2 hf,if_pos (by decide)];rfl
theorem level_next(A:List Int):setF (upA A A)=nextL A:=rfl
theorem level_done(A:List Int)(r:Nat):doA A A++packN r (nextL A)=packN (r+1) A:=rfl
theorem full_kids{r:Nat}{A:List Int}{v:Int}(hv:∃z,okB (r+1:Nat) z=true/\v=(wordN (r+1) z:Int)):
  ∃p,okB r p=true/\parI v=(wordN r p:Int)/\parE v.toNat=0/\fullB A v=(dsN 1 r p).all fun u=>A.contains u:=by
 have hr:r+1<=12:=by obtain⟨z,hz,-⟩:=hv;exact(okB_parts hz).1
 obtain⟨e,p,hp,e2,hk⟩:=word_parts hv;refine⟨p,hp,e2,e,?_⟩;rw[Bool.eq_iff_iff,full_iff hr hp hk,List.all_eq_true,kids_ds hr];simp only[List.contains_iff_mem]
theorem cmp_many{l:List Int}(h:20000<l.length):cmpE l=7/\cmpL l=[]:=by
 have e:cmpE l=7:=by unfold cmpE;rw[if_pos h]
 exact⟨e,by unfold cmpL;rw[e];rfl⟩
theorem cmp_word{l:List Int}(hl:l.length<=20000){k:Nat}(hk:k<l.length)(h:isW (l.getD k 0).toNat=false):cmpE l=5/\cmpL l=[]:=by
 have hne:l≠[]:=fun e=>by rw[e]at hk;cases hk
 have e:cmpE l=5:=by
  unfold cmpE;rw[if_neg (by omega),if_neg hne];unfold alkE;rw[if_neg];intro ha;rw[List.all_eq_true.1 ha _ (getD_mem hk)]at h;cases h
 exact⟨e,by unfold cmpL;rw[e];rfl⟩
theorem chk_bad{r:Int}:∀{l:List Int},allW l=true->∀{k:Nat},k<l.length->(rW (l.getD k 0).toNat:Int)≠r->chkF r l=8
 |x::l,ha,k,hk,hne=>by
  obtain⟨h1,h2⟩:isW x.toNat=true/\allW l=true:=by unfold allW at ha;rw[List.all_cons,Bool.and_eq_true]at ha;exact ha
  unfold chkF;rw[if_pos h1];by_cases e:(rW x.toNat:Int)=r
  ·rw[if_pos e]
   cases k with
   |zero=>exact absurd e hne
   |succ k=>exact chk_bad h2 (k:=k) (by simpa using hk) hne
  ·rw[if_neg e]
theorem cmp_res{l:List Int}(hl:l.length<=20000)(ha:allW l=true){k:Nat}(hk:k<l.length)(h:rW (l.getD k 0).toNat≠rW (l.getD 0 0).toNat):cmpE l=8/\cmpL l=[]:=by
 have hne:l≠[]:=fun e=>by rw[e]at hk;cases hk
 have hw0:isW (l.getD 0 0).toNat=true:=List.all_eq_true.1 ha _ (getD_mem (by omega));have e:cmpE l=8:=by
  unfold cmpE;rw[if_neg (by omega),if_neg hne];unfold alkE;rw[if_pos ha,show resW (l.getD 0 0).toNat=(rW (l.getD 0 0).toNat:Int) by unfold resW;rw[if_pos hw0]];exact chk_bad ha hk (by omega)
 exact⟨e,by unfold cmpL;rw[e];rfl⟩
theorem sized_of{l:List Int}(h64:In64 l)(ha:allW l=true)(hr:∀k,k<l.length->rW (l.getD k 0).toNat=rW (l.getD 0 0).toNat):Sized (rW (l.getD 0 0).toNat) l:=fun v hv=>by
 have hw:=List.all_eq_true.1 ha v hv;obtain⟨k,hk,rfl⟩:=List.getElem_of_mem hv;have e:=hr k hk;rw[List.getD_eq_getElem?_getD,List.getElem?_eq_getElem hk,Option.getD_some]at e;obtain⟨d1,d2⟩:=cell_word hw;have:=h64 _ hv;rw[<- e];exact⟨_,d1,by omega⟩
theorem top_word{u:Nat}(h:isW u=true):u/72057594037927936=16+rW u:=by
 have h1:=((isW_iff u).1 h).1;unfold rW;omega
theorem own_aside{w w':World}{base n size:Nat}{e:TypeId}{v u:Value}{xs:List Value}(h:w.ownsRow base e size u n xs)(hg:w.grownBy w' v.ownBlock)(ha:Apart v u):w'.ownsRow base e size u n xs:=
 own_turn' h (turn_grown hg) fun k hk hs=>ha k hs.symm hk
theorem all_snoc(A:List Int){K:List Int}{j:Nat}(h:j<K.length):((K.take (j+1)).all fun u=>A.contains u)=(((K.take j).all fun u=>A.contains u)&&A.contains (K.getD j 0)):=by
 rw[take_w K h,List.all_append,List.all_cons,List.all_nil,Bool.and_true]
theorem rcompact_any(ao:Option Addr)(c:Nat)(l:List Int)(w:World)(B:Nat)(h:WordsAt w B ao l)(hB:B<=w.heap.size)(hn:l.length<=1000000)(h64:In64 l):
  Calls Tryz.prog 25 #[.slice ao l.length c] w (ToldP w (cmpL l) (cmpE l)):=by
 obtain⟨i0,hi,hz0,hz1,hz2⟩:=info_parts info_u;obtain⟨n,hnn⟩:∃n,l.length=n:=⟨_,rfl⟩;have HN:=Hd hnn;have HW:=Hd h;have HNIL:Hid (∀ (err:Int) w',Below w.heap.size w w'->cmpE l=err/\cmpL l=[]->ToldP w (cmpL l) (cmpE l) (.returned (.tuple #[.slice none 0 0,.int .i64 err])) w'):=fun err w' hb he=>by
  rw[he.1,he.2];exact⟨none,0,rfl,World.ownsRow_nil _ _ _ _,hb⟩
 rw[hnn];by_cases hbig:20000<n
 ·have q1:decide (20000<(n:Int))=true:=decide_eq_true (by omega)
  have q1n:decide (20000<n)=true:=decide_eq_true hbig;have HF:=Hd (HNIL.out 7 w br (cmp_many (by omega)))
  go_enter Tryz.func25,Tryz.ntmps25
  go_wp2;go_ret2;exact HF.out
 ·have q1:decide (20000<(n:Int))=false:=decide_eq_false (by omega)
  have q1n:decide (20000<n)=false:=decide_eq_false hbig;have HV:Hid (∀ k,k<n->∃u:Nat,l.getD k 0=u/\u<18446744073709551616):=fun k hk=>by
   have:=h64 _ (getD_mem (j:=k) (l:=l) (by omega));exact⟨(l.getD k 0).toNat,by omega,by omega⟩
  have HISW:Hid (∀ u:Nat,u<18446744073709551616->∀w,_):=isw_any;have HX1:Hid (∀ k,k<n->isW (l.getD k 0).toNat=false->cmpE l=5/\cmpL l=[]):=fun k hk hw=>cmp_word (by omega) (by omega) hw
  have HX2:Hid ((∀ k,k<n->isW (l.getD k 0).toNat=true)->allW l=true):=fun hh=>sz_all (by rw[HN.out];exact hh)
  have HX3:Hid (allW l=true->∀k,k<n->rW (l.getD k 0).toNat≠rW (l.getD 0 0).toNat->cmpE l=8/\cmpL l=[]):=fun ha k hk hne=>cmp_res (by omega) ha (by omega) hne
  have HX4:Hid (allW l=true->(∀ k,k<n->rW (l.getD k 0).toNat=rW (l.getD 0 0).toNat)->Sized (rW (l.getD 0 0).toNat) l):=fun ha hh=>sized_of h64 ha (by rw[HN.out];exact hh)
  clear h h64 hnn hn
  go_enter Tryz.func25,Tryz.ntmps25
  go_wp2
  go_loopw [4] (fun i wr=>∃(k:Nat),k<=n/\i=.int .i64 k/\Hid (∀ j,j<k->isW (l.getD j 0).toNat=true)/\Hid (Below w.heap.size w wr)) (fun i _=>n-(intOf i).toNat)
  case atStart=>exact⟨0,by omega,rfl,fun j hj=>by omega,br⟩
  case round=>
   obtain⟨k,hk,rfl,HA,HI⟩:=hrel;have hsz:=HI.out.size;by_cases hlt:k<n
   ·obtain⟨g,off,rfl,hg,hc⟩:=(HW.out.below HI.out hB) (by rw[HN.out];omega)
    have c0:=hc k (by rw[HN.out];exact hlt);obtain⟨u,hu,hu2⟩:=HV.out k hlt;have hx1:=HX1.out k hlt;have ha2:isW (l.getD k 0).toNat=true->∀j,j<k+1->isW (l.getD j 0).toNat=true:=fun hk2 j hj=>by
     by_cases e:j=k
     ·rw[e];exact hk2
     ·exact HA.out j (by omega)
    rw[hu,Int.toNat_natCast]at hx1 ha2;rw[hu]at c0;have HIW:=Hd (HISW.out u hu2);have hgw:g<wr.heap.size:=by omega
    have q2:decide ((k:Int)<(n:Int))=true:=decide_eq_true (by omega);cases hiw:isW u with
    |false=>
     have HE:=Hd (hx1 hiw);rw[hiw]at HIW;clear hc hx1 ha2 hiw hu
     go_wp2_with fail
     refine(HIW.out _).mono ?_;rintro e w2 ⟨rfl,hb2⟩;have HF:=Hd (HNIL.out 5 w2 (HI.out.trans (hb2.mono hsz)) HE.out);clear hb2;go_wp2;go_ret2;exact HF.out
    |true=>
     have HA2:=Hd (ha2 hiw);rw[hiw]at HIW;clear hc hx1 ha2 hiw hu
     go_wp2_with fail
     refine(HIW.out _).mono ?_;rintro e w2 ⟨rfl,hb2⟩;have HB2:=Hd (HI.out.trans (hb2.mono hsz));clear hb2 c0;go_wp2
     go_roundw
     case rel=>exact⟨k+1,by omega,by go_num,HA2.out,HB2.out⟩
     case measure=>simp[intOf];omega
   ·obtain rfl:k=n:=by omega
    have HAL:=Hd (HX2.out HA.out);have HALL:=HA;have q2:decide ((k:Int)<(k:Int))=false:=decide_eq_false (by omega);obtain⟨w0,rfl⟩:∃w0,w0=wr:=⟨_,rfl⟩;clear HX1 HX2 HISW HA;have HTOP:Hid (∀ j,j<k->∃u:Nat,l.getD j 0=u/\((u:Int)/72057594037927936=((16+rW (l.getD j 0).toNat:Nat):Int))):=fun j hj=>by
     obtain⟨u,hu,-⟩:=HV.out j hj;have h1:=HALL.out j hj;rw[hu,Int.toNat_natCast]at h1;refine⟨u,hu,?_⟩;rw[hu,Int.toNat_natCast, <-top_word h1];omega
    go_wp2
    go_loopw [5] (fun i wr=>∃(j:Nat),1<=j/\j<=k+1/\i=.int .i64 j/\Hid (∀ m,m<j->m<k->rW (l.getD m 0).toNat=rW (l.getD 0 0).toNat)/\Hid (Below w.heap.size w wr)) (fun i _=>k+1-(intOf i).toNat)
    case atStart=>exact⟨1,by omega,by omega,rfl,fun m h1 _=>by rw[show m=0 by omega],HI.out⟩
    case round=>
     obtain⟨j,hj1,hj2,rfl,HA,HI⟩:=hrel;have hsz:=HI.out.size;by_cases hlt:j<k
     ·obtain⟨g,off,rfl,hg,hc⟩:=(HW.out.below HI.out hB) (by rw[HN.out];omega)
      have c0:=hc j (by rw[HN.out];exact hlt);have c1:=hc 0 (by rw[HN.out];omega);rw[Nat.add_zero]at c1;obtain⟨u,hu,ht⟩:=HTOP.out j hlt;obtain⟨u0,hu0,ht0⟩:=HTOP.out 0 (by omega);have hx3:=HX3.out HAL.out j hlt;have ha2:rW (l.getD j 0).toNat=rW (l.getD 0 0).toNat->∀m,m<j+1->m<k->rW (l.getD m 0).toNat=rW (l.getD 0 0).toNat:=fun hk2 m hm hm2=>by
       by_cases e:m=j
       ·rw[e];exact hk2
       ·exact HA.out m (by omega) hm2
      rw[hu]at c0;rw[hu0]at c1;generalize rW (l.getD j 0).toNat=T at *;generalize rW (l.getD 0 0).toNat=T0 at *;have hgw:g<wr.heap.size:=by omega
      have q3:decide ((j:Int)<(k:Int))=true:=decide_eq_true (by omega);have hk0:(0:Int)<(k:Int):=by omega
      have hjk:(j:Int)<(k:Int):=by omega
      by_cases hT:T=T0
      ·have HA2:=Hd (ha2 hT)
       have p1:(((16+T:Nat):Int) != ((16+T0:Nat):Int))=false:=by simp[hT]
       obtain⟨X,hX⟩:∃X,((16+T:Nat):Int)=X:=⟨_,rfl⟩;obtain⟨Y,hY⟩:∃Y,((16+T0:Nat):Int)=Y:=⟨_,rfl⟩;rw[hX,hY]at p1;rw[hX]at ht;rw[hY]at ht0;clear hc hx3 ha2 hu hu0 hX hY hT
       go_wp2_with(first|(with_reducible refine wp_region_lex (by kernel_rfl) (by kernel_rfl) ?_)|(with_reducible refine OnlyG.intro (by kernel_rfl) ?_))
       go_roundw
       case rel=>exact⟨j+1,by omega,by omega,by go_num,HA2.out,HI.out.trans (br.drew)⟩
       case measure=>simp[intOf];omega
      ·have HF:=Hd (HNIL.out 8 wr.drew (HI.out.trans (br.drew)) (hx3 hT))
       have p1:(((16+T:Nat):Int) != ((16+T0:Nat):Int))=true:=by simp;omega
       obtain⟨X,hX⟩:∃X,((16+T:Nat):Int)=X:=⟨_,rfl⟩;obtain⟨Y,hY⟩:∃Y,((16+T0:Nat):Int)=Y:=⟨_,rfl⟩;rw[hX,hY]at p1;rw[hX]at ht;rw[hY]at ht0;clear hc hx3 ha2 hu hu0 hX hY hT
       go_wp2_with(first|(with_reducible refine wp_region_lex (by kernel_rfl) (by kernel_rfl) ?_)|(with_reducible refine OnlyG.intro (by kernel_rfl) ?_))
       go_ret2;exact HF.out
     ·have HR:=Hd (HX4.out HAL.out (fun m hm=>HA.out m (by omega) hm))
      have q3:decide ((j:Int)<(k:Int))=false:=decide_eq_false (by omega);obtain⟨w1,rfl⟩:∃w1,w1=wr:=⟨_,rfl⟩;clear HX3 HX4 HA HTOP;obtain⟨r,hr⟩:∃r,rW (l.getD 0 0).toNat=r:=⟨_,rfl⟩;have hS:=HR.out;rw[hr]at hS;obtain⟨e1,e2⟩:=cmp_pack hS (by rw[HN.out];omega);have HE:=Hd (And.intro e1 e2);have hsl:=setF_length l;rw[HN.out]at hsl;have hset:=rset_own ao c l w1 (HW.out.below HI.out hB |>.wider (Nat.le_trans hB HI.out.size)) (by rw[HN.out];omega);rw[HN.out]at hset;obtain⟨na0,hna0⟩:∃x,(setF l).length=x:=⟨_,rfl⟩;rw[hna0]at hsl;have HSET:=Hd hset;have HSS:=Hd (sized_set hS);have HN0:=Hd hna0;have hs1:=HI.out.size;have HB1:=HI;clear hset hr hS e1 e2 HR hna0
      go_wp2_with fail
      refine HSET.out.mono ?_;rintro e w2 ⟨xo,xc,rfl,hx2,hb2⟩;rw[HN0.out];rw[HN0.out]at hx2;have HX2:=Hd (own_base hx2 hs1);have HB2:=Hd (HB1.out.trans (hb2.mono hs1));clear hx2 hb2 HB1 HSET HI;have HFIN:Hid (∀ so sc w',w'.ownsRow w.heap.size 35 1 (.slice so (packF r l).length sc) (packF r l).length (uV (packF r l))->Below w.heap.size w w'->ToldP w (cmpL l) (cmpE l) (.returned (.tuple #[.slice so (packF r l).length sc,.int .i64 0])) w'):=fun so sc w' ho hb=>by
       rw[HE.out.1,HE.out.2];exact⟨so,sc,rfl,ho,hb⟩
      obtain⟨P,hP⟩:∃P,packF r l=P:=⟨_,rfl⟩;have HP0:Hid (setF ([]++packN r (setF l))=P):=by show _=_;rw[List.nil_append, <-hP];rfl
      rw[hP]at HFIN;have hr12:r<=12∨setF l=[]:=by
       by_cases e:setF l=[]
       ·exact .inr e
       ·exact .inl (sized_le HSS.out e)
      have HUP:Hid (Up (setF l)):=setF_up l;generalize setF l=A0 at *;clear hP HE;go_wp2
      go_loopg [6,7] 16 (fun N xv dv wr=>∃(q:Nat) (A D:List Int) (na nd:Nat) (xo dd:Option Addr) (xc dc:Nat),q<=N/\na+nd<=20000/\xv=.slice xo na xc/\dv=.slice dd nd dc/\Hid (A.length=na/\D.length=nd/\Sized q A/\Up A/\setF (D++packN q A)=P)/\Hid (wr.ownsRow w.heap.size 35 1 (.slice xo na xc) na (uV A))/\Hid (wr.ownsRow w.heap.size 35 1 (.slice dd nd dc) nd (uV D))/\Hid (Apart (.slice xo na xc) (.slice dd nd dc))/\Hid (Below w.heap.size w wr))
      case atStart=>
       have hap:Apart (.slice xo na0 xc) (.slice none 0 0):=fun k h1 h2=>by cases h2
       rcases hr12 with h|h
       ·exact⟨r,A0,[],na0,0,xo,none,xc,0,by omega,by omega,rfl,rfl,⟨HN0.out,rfl,HSS.out,HUP.out,HP0.out⟩,HX2.out,World.ownsRow_nil _ _ _ _,hap,HB2.out⟩
       ·have h0:=HP0.out
        rw[h,packN_nil]at h0;exact⟨0,A0,[],na0,0,xo,none,xc,0,by omega,by omega,rfl,rfl,⟨HN0.out,rfl,(fun v hv=>(by rw[h]at hv;cases hv)),HUP.out,by rw[h,packN_nil];exact h0⟩,HX2.out,World.ownsRow_nil _ _ _ _,hap,HB2.out⟩
      case round=>
       obtain⟨q,A,D,na,nd,xo,dd,xc,dc,hqN,hlen,rfl,rfl,HAD,HXO,HDO,HAP,HI⟩:=hrel;have hsz:=HI.out.size;by_cases hna:na=0
       ·have hA0:A=[]:=List.eq_nil_of_length_eq_zero (by rw[HAD.out.1];exact hna)
        have heq:setF (D++A)=P:=by
         have h9:=HAD.out.2.2.2.2;rw[hA0,packN_nil]at h9;rw[hA0];exact h9
        subst hna;clear hA0;have hw:=words_own HAD.out.1.symm HXO.out;obtain⟨v3,w3,hr3,ho3,hg3⟩:=append_words (w:=wr) HDO.out hw HAD.out.1 (own_none HXO.out) hsz (by omega);obtain⟨yo,yc,rfl,-⟩:=own_form ho3;have HR3:=Hd hr3;have hb3:=below_append HI.out HDO.out hsz hg3;have hset:=rset_own yo yc (D++A) w3 (words_own (by rw[List.length_append,HAD.out.1,HAD.out.2.1]) ho3) (by rw[List.length_append,HAD.out.1,HAD.out.2.1];omega);rw[List.length_append,HAD.out.1,HAD.out.2.1]at hset;rw[heq]at hset;have HSET:=Hd hset;have HB3:=Hd hb3;clear hw hr3 ho3 hg3 hb3 hset
        go_wp2_with(at_builtin;refine wpList_append_want _ (by kernel_rfl) (.tmp 102) (.tmp 103) 22 22 rfl _ _ rfl rfl _ _ HR3.out ?_)
        refine HSET.out.mono ?_;rintro e w4 ⟨so,sc,rfl,ho4,hb4⟩;have HFF:=Hd (HFIN.out so sc w4 (own_base ho4 HB3.out.size) (HB3.out.trans (hb4.mono HB3.out.size)));clear ho4 hb4;go_wp2;go_ret2;exact HFF.out
       ·have q5:decide (0<(na:Int))=true:=decide_eq_true (by omega)
        have q5n:decide (0<na)=true:=decide_eq_true (by omega);obtain⟨b0,o0,hxo,hb0,hc0⟩:=words_own HAD.out.1.symm HXO.out (by rw[HAD.out.1];omega);have c0:=hc0 0 (by rw[HAD.out.1];omega);rw[Nat.add_zero]at c0;obtain⟨y0,hy0,ev0⟩:=HAD.out.2.2.1 _ (getD_mem (l:=A) (j:=0) (by rw[HAD.out.1];omega));rw[ev0]at c0;have hv0:=(head_val (wordN q y0) (by have:=(wordN_lt hy0).1;omega)).1;rw[(word_cell hy0).2.1]at hv0;generalize wordN q y0=u0 at *;have hna0:(0:Int)<(na:Int):=by omega
        clear hc0 ev0;subst hxo;by_cases hq:q=0
        ·have heq:setF (D++A)=P:=by
          have h9:=HAD.out.2.2.2.2;rw[hq]at h9;exact h9
         subst hq;have hw:=words_own HAD.out.1.symm HXO.out;obtain⟨v3,w3,hr3,ho3,hg3⟩:=append_words (w:=wr) HDO.out hw HAD.out.1 (own_none HXO.out) hsz (by omega);obtain⟨yo,yc,rfl,-⟩:=own_form ho3;have HR3:=Hd hr3;have hb3:=below_append HI.out HDO.out hsz hg3;have hset:=rset_own yo yc (D++A) w3 (words_own (by rw[List.length_append,HAD.out.1,HAD.out.2.1]) ho3) (by rw[List.length_append,HAD.out.1,HAD.out.2.1];omega);rw[List.length_append,HAD.out.1,HAD.out.2.1]at hset;rw[heq]at hset;have HSET:=Hd hset;have HB3:=Hd hb3;clear hw hr3 ho3 hg3 hb3 hset
         go_wp2_with(at_builtin;refine wpList_append_want _ (by kernel_rfl) (.tmp 102) (.tmp 103) 22 22 rfl _ _ rfl rfl _ _ HR3.out ?_)
         refine HSET.out.mono ?_;rintro e w4 ⟨so,sc,rfl,ho4,hb4⟩;have HFF:=Hd (HFIN.out so sc w4 (own_base ho4 HB3.out.size) (HB3.out.trans (hb4.mono HB3.out.size)));clear ho4 hb4;go_wp2;go_ret2;exact HFF.out
        ·obtain⟨q',rfl⟩:∃q',q=q'+1:=⟨q-1,by omega⟩
         have q7:decide (0<((q'+1:Nat):Int))=true:=decide_eq_true (by omega);have q7n:decide (0<q'+1)=true:=decide_eq_true (by omega);have hq12:q'+1<=12:=(okB_parts hy0).1;have HEL:Hid (∀ i,i<na->∃(U:Nat) (p:E2),A.getD i 0=U/\U<18446744073709551616/\parE U=0/\parW U=wordN q' p/\okB q' p=true/\parI (U:Int)=(wordN q' p:Int)/\fullB A (U:Int)=(dsN 1 q' p).all fun u=>A.contains u):=fun i hi=>by
          have hm:=getD_mem (l:=A) (j:=i) (by rw[HAD.out.1];omega);obtain⟨p,hp,e1,e2,e3⟩:=full_kids (A:=A) (HAD.out.2.2.1 _ hm);obtain⟨y,hy,e⟩:=HAD.out.2.2.1 _ hm;rw[e]at e1 e2 e3;rw[Int.toNat_natCast]at e2;refine⟨wordN (q'+1) y,p,e,by have:=(wordN_lt hy).1;omega,e2,?_,hp,e1,e3⟩;unfold parI at e1;rw[Int.toNat_natCast]at e1;omega
         have HUS:Hid (∀ i,i<na->upA A (A.take (i+1))=if fullB A (A.getD i 0)=true then upA A (A.take i)++[parI (A.getD i 0)]else upA A (A.take i)):=fun i hi=>up_snoc A (by rw[HAD.out.1];omega)
         have HDS:Hid (∀ i,i<na->doA A (A.take (i+1))=if fullB A (A.getD i 0)=true then doA A (A.take i)else doA A (A.take i)++[A.getD i 0]):=fun i hi=>do_snoc A (by rw[HAD.out.1];omega)
         have HTE:Hid (A.take na=A):=List.take_of_length_le (by rw[HAD.out.1];exact lr);have HHAS:Hid (∀ (xo:Option Addr) (xc:Nat) (x:Int) (w:World),WordsAt w w.heap.size xo A->Calls Tryz.prog 13 #[.slice xo na xc,.int .u64 x] w fun e w'=>e=.returned (.bool (A.contains x))/\w=w'):=fun xo xc x w h=>by
          have:=rhas_any xo xc A x w _ h (by rw[HAD.out.1];omega) HAD.out.2.2.2.1.rising;rw[HAD.out.1,show hasF A x=A.contains x by rw[Bool.eq_iff_iff,hasF_iff,List.contains_iff_mem]]at this;exact this
         clear hna hq hy0;obtain⟨wx,rfl⟩:∃wx,wx=wr:=⟨_,rfl⟩;go_wp2;clear c0 hb0 hv0
         go_loopw [7,8,9] (fun dv uv iv wz=>∃(i nd2 nu:Nat) (dd2 uo:Option Addr) (dc2 uc:Nat),i<=na/\nd2+nu=nd+i/\dv=.slice dd2 nd2 dc2/\uv=.slice uo nu uc/\iv=.int .i64 i/\Hid ((D++doA A (A.take i)).length=nd2/\(upA A (A.take i)).length=nu)/\Hid (wz.ownsRow w.heap.size 35 1 (.slice (some ⟨b0,o0,none⟩) na xc) na (uV A))/\Hid (wz.ownsRow w.heap.size 35 1 (.slice dd2 nd2 dc2) nd2 (uV (D++doA A (A.take i))))/\Hid (wz.ownsRow w.heap.size 35 1 (.slice uo nu uc) nu (uV (upA A (A.take i))))/\Hid (Apart (.slice (some ⟨b0,o0,none⟩) na xc) (.slice dd2 nd2 dc2)/\Apart (.slice uo nu uc) (.slice dd2 nd2 dc2)/\Apart (.slice uo nu uc) (.slice (some ⟨b0,o0,none⟩) na xc))/\Hid (Below w.heap.size w wz)) (fun _ _ i _=>na-(intOf i).toNat)
         case atStart=>
          refine⟨0,nd,0,dd,none,dc,0,by omega,by omega,rfl,rfl,rfl,⟨?_,rfl⟩,HXO.out,?_,World.ownsRow_nil _ _ _ _,⟨HAP.out,(fun k h1 _=>by cases h1),(fun k h1 _=>by cases h1)⟩,HI.out⟩
          ·show(D++[]).length=nd
           rw[List.append_nil];exact HAD.out.2.1
          ·show World.ownsRow _ _ _ _ _ _ (uV (D++[]))
           rw[List.append_nil];exact HDO.out
         case round=>
          obtain⟨i,nd2,nu,dd2,uo,dc2,uc,hin,hsum,rfl,rfl,rfl,HLN,HNO,HDN,HUN,HAPS,HJ⟩:=hrel;have HSUM:=Hd hsum;have hnu2:nu<=20000:=by omega
          have hnd2:nd2<=20000:=by omega
          clear hsum;obtain⟨wz,rfl⟩:∃wz,wz=wr:=⟨_,rfl⟩;have hsj:=HJ.out.size;by_cases hlt:i<na
          ·have p1:decide ((i:Int)<(na:Int))=true:=decide_eq_true (by omega)
           obtain⟨U,pz,hU,hU64,hE,hPW,hpz,hPI,hFU⟩:=HEL.out i hlt;obtain⟨b1,o1,e1,hb1,hc1⟩:=words_own HAD.out.1.symm HNO.out (by rw[HAD.out.1];omega);cases e1;have c1:=hc1 i (by rw[HAD.out.1];exact hlt);rw[hU]at c1;have hus:=HUS.out i hlt;have hds:=HDS.out i hlt;rw[hU,hPI]at hus;rw[hU]at hds;have HWU:=wup_any U hU64;rw[hPW,hE]at HWU;have HWU:=Hd HWU;have HKC:=Hd (rkw_in hpz hq12);have HUS2:=Hd hus;have HDS2:=Hd hds;have HFU2:=Hd hFU;obtain⟨K,hK⟩:∃K,dsN 1 q' pz=K:=⟨_,rfl⟩;have hKl:K.length=7:=by rw[<- hK];exact ds_len _ _ _
           rw[hK]at HKC HFU2;have HKL:=Hd hKl;have HUV:=Hd hU;generalize wordN q' pz=V at *;clear hc1 hU hE hPW hpz hPI hFU hus hds hK hKl hU64
           go_wp2_with fail
           refine(HWU.out _).mono ?_;rintro e w8 ⟨rfl,hb8⟩;have HN8:=Hd (own_later HNO.out hb8);have HD8:=Hd (own_later HDN.out hb8);have HU8:=Hd (own_later HUN.out hb8);have HJ8:=Hd (HJ.out.trans (hb8.mono hsj));clear hb8 HNO HDN HUN HJ c1 HWU
           go_wp2_with fail
           refine(HKC.out _).mono ?_;rintro e w9 ⟨ko,kc,rfl,hko,hb9⟩;have HN9:=Hd (own_later HN8.out hb9);have HD9:=Hd (own_later HD8.out hb9);have HU9:=Hd (own_later HU8.out hb9);have HJ9:=Hd (HJ8.out.trans (hb9.mono HJ8.out.size));have HK9:=Hd (words_own HKL.out.symm hko);clear hb9 hko HN8 HD8 HU8 HJ8 HKC;go_wp2
           go_loopw [13,14] (fun bv jv wy=>∃(j:Nat) (bb:Bool),j<=7/\jv=.int .i64 j/\bv=.bool bb/\Hid (bb=((K.take j).all fun u=>A.contains u))/\Hid (w9=wy)) (fun _ j _=>7-(intOf j).toNat)
           case atStart=>exact⟨0,true,by omega,rfl,rfl,rfl,rfl⟩
           case round=>
            obtain⟨j,bb,hj,rfl,rfl,HB,HWY⟩:=hrel;obtain rfl:=HWY.out;clear HWY;by_cases hlt2:j<7
            ·have p2:decide ((j:Int)<7)=true:=decide_eq_true (by omega)
             obtain⟨g2,off2,hko,hg2,hc2⟩:=HK9.out (by rw[HKL.out];omega);have c2:=hc2 j (by rw[HKL.out];exact hlt2);have hal:=all_snoc A (K:=K) (j:=j) (by rw[HKL.out];exact hlt2);obtain⟨x,hx⟩:∃x,K.getD j 0=x:=⟨_,rfl⟩;rw[hx]at c2 hal;subst hko;have HRH:=Hd (HHAS.out _ xc x w9 (words_own HAD.out.1.symm HN9.out));generalize A.contains x=cx at *;have HAL:=Hd hal;clear hc2 hx hal;cases bb with
             |false=>
              have HAL2:Hid (false=((K.take (j+1)).all fun u=>A.contains u)):=by show _=_;rw[HAL.out, <-HB.out];rfl
              clear c2;go_wp2
              go_roundw
              case rel=>exact⟨j+1,false,by omega,by go_num,rfl,HAL2.out,trivial⟩
              case measure=>simp[intOf];omega
             |true=>
              have HAL2:Hid (cx=((K.take (j+1)).all fun u=>A.contains u)):=by show _=_;rw[HAL.out, <-HB.out];rfl
              go_wp2_with fail
              refine HRH.out.mono ?_;rintro e wq ⟨rfl,rfl⟩;clear c2 HRH;go_wp2
              go_roundw
              case rel=>exact⟨j+1,cx,by omega,by go_num,rfl,HAL2.out,trivial⟩
              case measure=>simp[intOf];omega
            ·obtain rfl:j=7:=by omega
             have p2:decide (((7:Nat):Int)<7)=false:=by decide
             have hfull:fullB A (U:Int)=bb:=by rw[HFU2.out,HB.out,List.take_of_length_le (by rw[HKL.out];exact lr)]
             have hln:=HLN.out;have hus2:=HUS2.out;have hds2:=HDS2.out;rw[hfull]at hus2 hds2;obtain⟨ap1,ap2,ap3⟩:=HAPS.out;have HN10:=HN9.out;have HD10:=HD9.out;have HU10:=HU9.out;clear HB HFU2 hfull HUS2 HDS2 HK9 HKL HHAS HN9 HD9 HU9;cases bb with
             |true=>
              rw[if_pos rfl]at hus2 hds2;have hja:=HJ9.out.alloc HJ9.out.size (.cells #[.int .u64 V] 35);have hbs:w.heap.size<=(w9.alloc (.cells #[.int .u64 V] 35)).heap.size:=hja.size;have hna:=HN10.alloc (.cells #[.int .u64 V] 35);have hda:=HD10.alloc (.cells #[.int .u64 V] 35);have hua:=HU10.alloc (.cells #[.int .u64 V] 35);have HJA:=Hd hja;have HNA:=Hd hna;have HDA:=Hd hda;have HUSB:=Hd hus2;have HDSB:=Hd hds2;have HLB:=Hd hln;have AP1:=Hd ap1;have AP2:=Hd ap2;have AP3:=Hd ap3;clear hus2 hds2 hln HN10 HD10 HU10 HAPS hja hna hda ap1 ap2 ap3 HLN
              go_wp2_with(at_builtin;refine wpList_append_own_at _ rfl (.tmp 89) (.tmp 91) 22 rfl w.heap.size 35 i0 (.int .u64 0) 1 8 Tryz.underlying22 hi hz0 hz1 hz2 rfl (by decide) _ nu (uV (upA A (A.take i))) rfl hua ⟨w9.heap.size,0,none⟩ 1 1 [.int .u64 V] rfl rfl (cells_new _ _ _ _ rfl) (by simp[Value.oneCell']) (by unfold maxLen;omega) (by omega) hbs ?_;intro v3 w3 hown1 hgrow _ hblk)
              obtain⟨vo3,vc3,rfl,-⟩:=own_form hown1;have HN3:=Hd (own_aside HNA.out hgrow AP3.out);have HD3:Hid (w3.ownsRow w.heap.size 35 1 (.slice dd2 nd2 dc2) nd2 (uV (D++doA A (A.take (i+1))))):=by rw[HDSB.out];exact own_aside HDA.out hgrow AP2.out
              have HU3:Hid (w3.ownsRow w.heap.size 35 1 (.slice vo3 (nu+1) vc3) (nu+1) (uV (upA A (A.take (i+1))))):=by rw[HUSB.out,uV_snoc];exact hown1
              have HAP3:Hid (Apart (.slice (some ⟨b0,o0,none⟩) na xc) (.slice dd2 nd2 dc2)/\Apart (.slice vo3 (nu+1) vc3) (.slice dd2 nd2 dc2)/\Apart (.slice vo3 (nu+1) vc3) (.slice (some ⟨b0,o0,none⟩) na xc)):=⟨AP1.out,AP2.out.step hblk HDA.out.lt_size,AP3.out.step hblk HNA.out.lt_size⟩;have HL3:Hid ((D++doA A (A.take (i+1))).length=nd2/\(upA A (A.take (i+1))).length=nu+1):=⟨by rw[HDSB.out];exact HLB.out.1,by rw[HUSB.out,List.length_append,HLB.out.2];rfl⟩;have HJ3:=Hd (below_append HJA.out hua hbs hgrow);clear hown1 hgrow hblk hua hbs HJA HNA HDA HUSB HDSB HLB AP1 AP2 AP3
              go_roundw
              case rel=>exact⟨i+1,nd2,nu+1,dd2,vo3,dc2,vc3,by omega,by have:=HSUM.out;omega,rfl,rfl,by go_num,HL3.out,HN3.out,HD3.out,HU3.out,HAP3.out,HJ3.out⟩
              case measure=>simp[intOf];omega
             |false=>
              rw[if_neg (by decide)]at hus2 hds2;obtain⟨b1,o1,e1,hb1,hc1⟩:=words_own HAD.out.1.symm HN10 (by rw[HAD.out.1];omega);cases e1;have c1:=hc1 i (by rw[HAD.out.1];exact hlt);rw[HUV.out]at c1;have hja:=HJ9.out.alloc HJ9.out.size (.cells #[.int .u64 U] 35);have hbs:w.heap.size<=(w9.alloc (.cells #[.int .u64 U] 35)).heap.size:=hja.size;have hna:=HN10.alloc (.cells #[.int .u64 U] 35);have hda:=HD10.alloc (.cells #[.int .u64 U] 35);have hua:=HU10.alloc (.cells #[.int .u64 U] 35);have HJA:=Hd hja;have HNA:=Hd hna;have HUA:=Hd hua;have HUSB:=Hd hus2;have HDSB:=Hd hds2;have HLB:=Hd hln;have AP1:=Hd ap1;have AP2:=Hd ap2;have AP3:=Hd ap3;clear hus2 hds2 hln HN10 HD10 HU10 HAPS hja hna hua ap1 ap2 ap3 HLN hc1
              go_wp2_with(at_builtin;refine wpList_append_own_at _ rfl (.tmp 93) (.tmp 98) 22 rfl w.heap.size 35 i0 (.int .u64 0) 1 8 Tryz.underlying22 hi hz0 hz1 hz2 rfl (by decide) _ nd2 (uV (D++doA A (A.take i))) rfl hda ⟨w9.heap.size,0,none⟩ 1 1 [.int .u64 U] rfl rfl (cells_new _ _ _ _ rfl) (by simp[Value.oneCell']) (by unfold maxLen;omega) (by omega) hbs ?_;intro v3 w3 hown1 hgrow _ hblk)
              obtain⟨vo3,vc3,rfl,-⟩:=own_form hown1;have HN3:=Hd (own_aside HNA.out hgrow AP1.out.symm);have HU3:Hid (w3.ownsRow w.heap.size 35 1 (.slice uo nu uc) nu (uV (upA A (A.take (i+1))))):=by rw[HUSB.out];exact own_aside HUA.out hgrow AP2.out.symm
              have HD3:Hid (w3.ownsRow w.heap.size 35 1 (.slice vo3 (nd2+1) vc3) (nd2+1) (uV (D++doA A (A.take (i+1))))):=by rw[HDSB.out, <-List.append_assoc,uV_snoc];exact hown1
              have HAP3:Hid (Apart (.slice (some ⟨b0,o0,none⟩) na xc) (.slice vo3 (nd2+1) vc3)/\Apart (.slice uo nu uc) (.slice vo3 (nd2+1) vc3)/\Apart (.slice uo nu uc) (.slice (some ⟨b0,o0,none⟩) na xc)):=⟨(AP1.out.symm.step hblk HNA.out.lt_size).symm,(AP2.out.symm.step hblk HUA.out.lt_size).symm,AP3.out⟩;have HL3:Hid ((D++doA A (A.take (i+1))).length=nd2+1/\(upA A (A.take (i+1))).length=nu):=⟨by rw[HDSB.out, <-List.append_assoc,List.length_append,HLB.out.1];rfl,by rw[HUSB.out];exact HLB.out.2⟩;have HJ3:=Hd (below_append HJA.out hda hbs hgrow);clear hown1 hgrow hblk hda hbs HJA HNA HUA HUSB HDSB HLB AP1 AP2 AP3 c1
              go_roundw
              case rel=>exact⟨i+1,nd2+1,nu,vo3,uo,vc3,uc,by omega,by have:=HSUM.out;omega,rfl,rfl,by go_num,HL3.out,HN3.out,HD3.out,HU3.out,HAP3.out,HJ3.out⟩
              case measure=>simp[intOf];omega
          ·obtain rfl:i=na:=by omega
           have p1:decide ((i:Int)<(i:Int))=false:=decide_eq_false (by omega);have hl:=HLN.out;have hd:=HDN.out;have hu:=HUN.out;rw[HTE.out]at hl hd hu;obtain⟨ap1,ap2,ap3⟩:=HAPS.out;have hset:=rset_own uo uc (upA A A) wz (words_own hl.2.symm hu) (by rw[hl.2];omega);rw[hl.2,level_next]at hset;obtain⟨nn,hnn⟩:∃nn,(nextL A).length=nn:=⟨_,rfl⟩;have hle:nn<=nu:=by rw[<- hnn, <-level_next, <-hl.2];exact setF_length _
           have hpk:setF ((D++doA A A)++packN q' (nextL A))=P:=by
            rw[List.append_assoc,level_done];exact HAD.out.2.2.2.2
           have HSET:=Hd hset;have HNN:=Hd hnn;have HREL:Hid ((nextL A).length=nn/\(D++doA A A).length=nd2/\Sized q' (nextL A)/\Up (nextL A)/\setF ((D++doA A A)++packN q' (nextL A))=P):=⟨hnn,hl.1,next_sized HAD.out.2.2.1,setF_up _,hpk⟩;have HDZ:=Hd hd;have hDlt:=hd.lt_size;have HDLT:=Hd hDlt;clear hset hnn hpk hl hd hu ap1 ap2 ap3 HLN HDN HUN HNO HAPS HEL HUS HDS HTE HHAS hDlt
           go_wp2_with fail
           refine HSET.out.mono ?_;rintro e w10 ⟨so,sc,rfl,ho10,hb10⟩;rw[HNN.out]at ho10;rw[HNN.out];have HNW:=Hd (own_base ho10 hsj);have HDW:=Hd (own_later HDZ.out hb10);have HAW:Hid (Apart (.slice so nn sc) (.slice dd2 nd2 dc2)):=fun k h1 h2=>by
            have:=(ho10.lt k h1).1;have:=HDLT.out k h2;omega
           have HJW:=Hd (HJ.out.trans (hb10.mono hsj));clear ho10 hb10 HJ HDZ HDLT HSET HNN;go_wp2
           go_roundg q'
           case measure=>omega
           case rel=>exact⟨q',nextL A,D++doA A A,nn,nd2,so,dd2,sc,dc2,lr,by have:=HSUM.out;omega,rfl,rfl,HREL.out,HNW.out,HDW.out,HAW.out,HJW.out⟩
end
end Go.Proofs.YtpkoapmpknbgoaaGreat
