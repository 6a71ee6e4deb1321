/- Joined: WdH, WdI, NfG, NfC, NfD, NfH, PnP: contracts and plain laws, each with its own heading below. -/
import Derived.Test.YtpkoapmpknbgoaaGreatPackBE
import Derived.Laws.Bits64b
import Derived.Laws.BitsAllLaws
import Derived.Test.YtpkoapmpknbgoaaGreatPackBD
import Derived.Test.YtpkoapmpknbgoaaGreatPackBC
set_option maxRecDepth 100000
set_option maxHeartbeats 8000000
namespace Go.Proofs.YtpkoapmpknbgoaaGreat
section
open Go.RowKit Go.Lib Wd
theorem pow_place{r:Nat}(h1:1<=r)(h2:r<=12):(2:Nat) ^ (33-3*(r-1))=8 ^ (12-r)/\(2:Nat) ^ (3*(13-r))=8 ^ (12-r)*8/\8 ^ (12-r)<=8589934592/\0<8 ^ (12-r):=by
 rcases(show r=1∨r=2∨r=3∨r=4∨r=5∨r=6∨r=7∨r=8∨r=9∨r=10∨r=11∨r=12 by omega)with rfl|rfl|rfl|rfl|rfl|rfl|rfl|rfl|rfl|rfl|rfl|rfl <;> decide
theorem put_val{w0 d r:Nat}(h1:1<=r)(h2:r<=12)(hd:d<8)(hw:w0<9223372036854775808)(hm:w0%(8 ^ (12-r)*8)=0):
  bits .or .u64 (w0:Int) (IntKind.u64.wrap ((d:Int)*2 ^ (33-3*(r-1))))=((w0+d*8 ^ (12-r):Nat):Int):=by
 obtain⟨p1,p2,p3,p4⟩:=pow_place h1 h2;have e:((d:Int)*2 ^ (33-3*(r-1)))=((d*8 ^ (12-r):Nat):Int):=by rw[<- p1];simp
 have hlt:d*8 ^ (12-r)<8 ^ (12-r)*8:=by rw[Nat.mul_comm];exact(Nat.mul_lt_mul_left p4).2 hd
 have hlt2:d*8 ^ (12-r)<18446744073709551616:=by omega
 have e2:IntKind.u64.wrap ((d*8 ^ (12-r):Nat):Int)=((d*8 ^ (12-r):Nat):Int):=by rw[IntKind.wrap_u64];omega
 rw[e,e2,bits_or_u64_nat _ _ (by omega) hlt2,nat_join (3*(13-r)) _ _ (by rw[p2];exact hm) (by rw[p2];exact hlt)]
theorem put_any(g w0 d r:Nat)(h1:1<=r)(h2:r<=12)(hd:d<8)(hw:w0<9223372036854775808)(hm:w0%(8 ^ (12-r)*8)=0)(w:World)(hc:w.cell? ⟨g,0,none⟩=some (.int .u64 w0))(hf:w.frozen? ⟨g,0,none⟩=false):
  Calls Tryz.prog 107 #[.pointer (some ⟨g,0,none⟩),.int .i64 r,.int .u64 d] w fun e w'=>e=.returned (.tuple #[])/\w'=w.setCell ⟨g,0,none⟩ (.int .u64 ((w0+d*8 ^ (12-r):Nat):Int)):=by
 have HV:=Hd (put_val h1 h2 hd hw hm)
 go_enter Tryz.func107,Tryz.ntmps107
 go_wp2;rw[HV.out]
 go_end0
 exact⟨rfl,rfl⟩
theorem digitOf_any(w0 r:Nat)(h1:1<=r)(h2:r<=12)(hw:w0<18446744073709551616)(w:World):
  Calls Tryz.prog 70 #[.int .u64 w0,.int .i64 r] w fun e w'=>e=.returned (.int .u64 (dgW w0 r:Nat))/\w'=w:=by
 have HV:Hid (bits .and .u64 ((w0:Int)/2 ^ (33-3*(r-1))) 7=((dgW w0 r:Nat):Int)):=by
  show _=_;obtain⟨p1,p2,p3,p4⟩:=pow_place h1 h2;have e:((w0:Int)/2 ^ (33-3*(r-1)))=((w0/8 ^ (12-r):Nat):Int):=by rw[<- p1];simp
  have:=Nat.div_le_self w0 (8 ^ (12-r));rw[e,show(7:Int)=((7:Nat):Int) by rfl,bits_and_u64_nat _ _ (by omega) (by decide),nat_mask3]
  rfl
 go_enter Tryz.func70,Tryz.ntmps70
 go_wp2;rw[HV.out];go_ret;exact⟨rfl,rfl⟩
theorem Arr.lit{w:World}{b:Nat}{f:Nat->Int}(h:w.heap[b]? =some (.cells #[.int .i64 (f 0),.int .i64 (f 1),.int .i64 (f 2),.int .i64 (f 3),.int .i64 (f 4),.int .i64 (f 5),.int .i64 (f 6),.int .i64 (f 7),.int .i64 (f 8),.int .i64 (f 9),.int .i64 (f 10),.int .i64 (f 11),.int .i64 (f 12)] 152 (0,0))):Arr w b f:=
 ⟨_,h,rfl,fun k hk=>by
  rcases(show k=0∨k=1∨k=2∨k=3∨k=4∨k=5∨k=6∨k=7∨k=8∨k=9∨k=10∨k=11∨k=12 by omega)with rfl|rfl|rfl|rfl|rfl|rfl|rfl|rfl|rfl|rfl|rfl|rfl|rfl <;> rfl⟩
def ofW(r:Int)(z:E2):Nat:=if okB r z=true then wordN r.toNat z else 0
def ofE(r:Int)(z:E2):Int:=if okB r z=true then 0 else 2
theorem hd_place{f:Nat->Nat}{R:Nat}{b:E2}(hf:∀k,f k<8)(hR:R<=12)(hb:baseB b=true){k:Nat}(hk:k<12):
  (topN R b+hd f k*8 ^ (12-k))<9223372036854775808/\(topN R b+hd f k*8 ^ (12-k))%(8 ^ (12-(k+1))*8)=0/\topN R b+hd f k*8 ^ (12-k)+f (k+1)*8 ^ (12-(k+1))=topN R b+hd f (k+1)*8 ^ (12-(k+1)):=by
 have h1:=hd_lt hf k;have e:(8:Nat) ^ (12-k)=8 ^ (12-(k+1))*8:=by rw[<- Nat.pow_succ,show(12-(k+1)).succ=12-k by omega]
 have e2:(8:Nat) ^ k*8 ^ (12-k)=68719476736:=by rw[<- Nat.pow_add,show k+(12-k)=12 by omega]
 have h2:hd f k*8 ^ (12-k)<68719476736:=by rw[<- e2];exact(Nat.mul_lt_mul_right (Nat.pow_pos (by decide))).2 h1
 obtain⟨_,_,_,h4,h5⟩:=topN_parts hR hb h2;refine⟨by omega,?_,?_⟩
 ·have h6:topN R b%(8 ^ (12-(k+1))*8)=0:=by
   rw[<- e];refine Nat.mod_eq_zero_of_dvd (Nat.dvd_trans ?_ (Nat.dvd_of_mod_eq_zero h5));rw[<- e2];exact Nat.dvd_mul_left _ _
  rw[e,Nat.add_mul_mod_self_right];exact h6
 ·show _=topN R b+(hd f k*8+f (k+1))*8 ^ (12-(k+1))
  rw[e,Nat.add_mul,Nat.mul_assoc (hd f k) 8,Nat.mul_comm 8];omega
theorem top_val{R:Nat}{b:E2}(hR:R<=12)(hb:baseB b=true):bits .or .u64 (bits .or .u64 (bits .or .u64 1152921504606846976 ((R:Int)*72057594037927936)) (IntKind.u64.wrap (IntKind.u64.wrap (wrap64 (b.1+512))*70368744177664))) (IntKind.u64.wrap (IntKind.u64.wrap (wrap64 (b.2+512))*68719476736))=((topN R b:Nat):Int):=by
 obtain⟨h1,h2,h3,h4⟩:=(baseB_iff b).1 hb;obtain⟨A,hA⟩:∃A:Nat,b.1+512=A:=⟨(b.1+512).toNat,by omega⟩;obtain⟨B,hB⟩:∃A:Nat,b.2+512=A:=⟨(b.2+512).toNat,by omega⟩;have wA:IntKind.u64.wrap (wrap64 (b.1+512))=(A:Int):=by rw[hA,show wrap64 (A:Int)=A by unfold wrap64;omega,IntKind.wrap_u64];omega
 have wB:IntKind.u64.wrap (wrap64 (b.2+512))=(B:Int):=by rw[hB,show wrap64 (B:Int)=B by unfold wrap64;omega,IntKind.wrap_u64];omega
 rw[wA,wB];have e1:IntKind.u64.wrap ((A:Int)*70368744177664)=((A*70368744177664:Nat):Int):=by rw[IntKind.wrap_u64];omega
 have e2:IntKind.u64.wrap ((B:Int)*68719476736)=((B*68719476736:Nat):Int):=by rw[IntKind.wrap_u64];omega
 have e3:((R:Int)*72057594037927936)=((R*72057594037927936:Nat):Int):=by omega
 rw[e1,e2,e3,show(1152921504606846976:Int)=((1152921504606846976:Nat):Int) by rfl];rw[bits_or_u64_nat _ _ (by decide) (by omega),nat_join 60 _ _ (by decide) (by omega)];rw[bits_or_u64_nat _ _ (by omega) (by omega),nat_join 56 _ _ (by omega) (by omega)];rw[bits_or_u64_nat _ _ (by omega) (by omega),nat_join 46 _ _ (by omega) (by omega)];unfold topN;omega
def plc(T:Nat)(D:Nat->Nat)(k:Nat):Nat:=T+hd D k*8 ^ (12-k)
theorem of_any(r:Int)(z:E2)(w:World):Calls Tryz.prog 68 #[vC r z] w fun e w'=>e=.returned (.tuple #[.int .u64 (ofW r z:Nat),.int .i64 (ofE r z)])/\Below w.heap.size w w':=by
 have HW:=Hd (way_any r z);unfold Way at HW;have HO:Hid (ofW r z=if okB r z=true then wordN r.toNat z else 0):=rfl;have HE:Hid (ofE r z=if okB r z=true then 0 else 2):=rfl;by_cases hok:okB r z=true
 ·obtain⟨R,rfl,hR⟩:=okB_nat hok
  have HBB:=Hd (okB_parts hok).2;simp only[hok,if_pos]at HO HE HW;rw[HO.out,HE.out];have HSZ:Hid (wordN (R:Int).toNat z=plc (topN R (upN R z)) (dgt R z) 12):=by show _=_;unfold plc;rw[Nat.sub_self,Nat.pow_zero,Nat.mul_one];rfl
  rw[HSZ.out];clear hok HO HE HSZ;simp only[vC]at*
  go_enter Tryz.func68,Tryz.ntmps68
  go_wp2_with fail
  refine(HW.out _).mono ?_;rintro e w1 ⟨b,f,rfl,hbf,hb⟩;obtain⟨rfl,hff⟩:=hbf trivial;have HF:=Hd hff;have hz1:=hb.size;simp at hz1;have hr:=hb.block w.heap.size (by simp);rw[heap_new _ _ _ rfl]at hr;have c0:w1.cell? ⟨w.heap.size,0,none⟩=some (.int .i64 R):=cell_of_row _ _ 0 _ _ _ hr;have hB:Hid (Below w.heap.size w w1):=(br.alloc lr _).trans (hb.mono (by simp));simp only[vE]at *;rw[show (R:Int).toNat=R from rfl]at *;clear hbf hff hb HW
  go_upto_region 2 with(fail)
  have k1:=World.size_alloc w1 (.cells #[.int .i64 (upN R z).1,.int .i64 (upN R z).2] 37);have k2:=World.size_alloc (w1.alloc (.cells #[.int .i64 (upN R z).1,.int .i64 (upN R z).2] 37)) (.cells #[.int .i64 (f 0),.int .i64 (f 1),.int .i64 (f 2),.int .i64 (f 3),.int .i64 (f 4),.int .i64 (f 5),.int .i64 (f 6),.int .i64 (f 7),.int .i64 (f 8),.int .i64 (f 9),.int .i64 (f 10),.int .i64 (f 11),.int .i64 (f 12)] 152);have hal:Below w1.heap.size w1 ((w1.alloc (.cells #[.int .i64 (upN R z).1,.int .i64 (upN R z).2] 37)).alloc (.cells #[.int .i64 (f 0),.int .i64 (f 1),.int .i64 (f 2),.int .i64 (f 3),.int .i64 (f 4),.int .i64 (f 5),.int .i64 (f 6),.int .i64 (f 7),.int .i64 (f 8),.int .i64 (f 9),.int .i64 (f 10),.int .i64 (f 11),.int .i64 (f 12)] 152)):=(br.alloc lr _).alloc (by omega) _;have HBW:Hid (Below w.heap.size w ((w1.alloc (.cells #[.int .i64 (upN R z).1,.int .i64 (upN R z).2] 37)).alloc (.cells #[.int .i64 (f 0),.int .i64 (f 1),.int .i64 (f 2),.int .i64 (f 3),.int .i64 (f 4),.int .i64 (f 5),.int .i64 (f 6),.int .i64 (f 7),.int .i64 (f 8),.int .i64 (f 9),.int .i64 (f 10),.int .i64 (f 11),.int .i64 (f 12)] 152))):=hB.out.trans (hal.mono (by omega));have C0:Hid (((w1.alloc (.cells #[.int .i64 (upN R z).1,.int .i64 (upN R z).2] 37)).alloc (.cells #[.int .i64 (f 0),.int .i64 (f 1),.int .i64 (f 2),.int .i64 (f 3),.int .i64 (f 4),.int .i64 (f 5),.int .i64 (f 6),.int .i64 (f 7),.int .i64 (f 8),.int .i64 (f 9),.int .i64 (f 10),.int .i64 (f 11),.int .i64 (f 12)] 152)).cell? ⟨w.heap.size,0,none⟩=some (.int .i64 R)):=(hal.cell (p:=⟨w.heap.size,0,none⟩) (by show w.heap.size<w1.heap.size;omega)).trans c0;have E0:Hid (Two ((w1.alloc (.cells #[.int .i64 (upN R z).1,.int .i64 (upN R z).2] 37)).alloc (.cells #[.int .i64 (f 0),.int .i64 (f 1),.int .i64 (f 2),.int .i64 (f 3),.int .i64 (f 4),.int .i64 (f 5),.int .i64 (f 6),.int .i64 (f 7),.int .i64 (f 8),.int .i64 (f 9),.int .i64 (f 10),.int .i64 (f 11),.int .i64 (f 12)] 152)) w1.heap.size (.int .i64 (upN R z).1) (.int .i64 (upN R z).2)):=(Two.of_row (t:=37) (f:=_) (heap_new _ _ _ rfl)).alloc (by omega) _;have A0:Hid (Arr ((w1.alloc (.cells #[.int .i64 (upN R z).1,.int .i64 (upN R z).2] 37)).alloc (.cells #[.int .i64 (f 0),.int .i64 (f 1),.int .i64 (f 2),.int .i64 (f 3),.int .i64 (f 4),.int .i64 (f 5),.int .i64 (f 6),.int .i64 (f 7),.int .i64 (f 8),.int .i64 (f 9),.int .i64 (f 10),.int .i64 (f 11),.int .i64 (f 12)] 152)) (w1.heap.size+1) f):=Arr.lit (heap_new _ _ _ (by omega));have hwe:w.heap.size<w1.heap.size:=by omega
  clear hal hB c0 hr hz1;generalize(w1.alloc (.cells #[.int .i64 (upN R z).1,.int .i64 (upN R z).2] 37)).alloc (.cells #[.int .i64 (f 0),.int .i64 (f 1),.int .i64 (f 2),.int .i64 (f 3),.int .i64 (f 4),.int .i64 (f 5),.int .i64 (f 6),.int .i64 (f 7),.int .i64 (f 8),.int .i64 (f 9),.int .i64 (f 10),.int .i64 (f 11),.int .i64 (f 12)] 152)=w2 at *;obtain⟨eb,heb⟩:∃eb,w1.heap.size=eb:=⟨_,rfl⟩;rw[heb]at E0 A0 hwe k1 ⊢;have hw2:w2.heap.size=eb+2:=by omega
  clear heb k1 k2;obtain⟨e0,e1⟩:=E0.out;have c0:=C0.out
  go_upto_region 5 with(fail)
  have TV:=Hd (top_val hR HBB.out);rw[TV.out];have HT0:Hid (plc (topN R (upN R z)) (dgt R z) 0=topN R (upN R z)):=by show _=_;unfold plc;rw[show hd (dgt R z) 0=0 from rfl,Nat.zero_mul,Nat.add_zero]
  have hal:Below w2.heap.size w2 (w2.alloc (.cells #[.int .u64 (topN R (upN R z):Nat)] 157)):=br.alloc lr _;have k1:=World.size_alloc w2 (.cells #[.int .u64 (topN R (upN R z):Nat)] 157);have hr:=heap_new w2 (.cells #[.int .u64 (topN R (upN R z):Nat)] 157) (eb+2) hw2;have X0:Hid (((w2.alloc (.cells #[.int .u64 (topN R (upN R z):Nat)] 157)).cell? ⟨eb+2,0,none⟩=some (.int .u64 ((plc (topN R (upN R z)) (dgt R z) 0:Nat):Int)))/\(w2.alloc (.cells #[.int .u64 (topN R (upN R z):Nat)] 157)).frozen? ⟨eb+2,0,none⟩=false):=⟨by rw[HT0.out];exact cell_of_row _ _ 0 _ _ _ hr,frozen_of_row _ _ _ _ _ hr⟩;have HBW3:=Hd (HBW.out.trans (hal.mono (by omega)));have C1:Hid ((w2.alloc (.cells #[.int .u64 (topN R (upN R z):Nat)] 157)).cell? ⟨w.heap.size,0,none⟩=some (.int .i64 R)):=(hal.cell (p:=⟨w.heap.size,0,none⟩) (by show w.heap.size<w2.heap.size;omega)).trans c0;have A1:=Hd (A0.out.later hal);clear hal hr HT0 A0 C0 c0 e0 e1 E0 HBW TV;generalize w2.alloc (.cells #[.int .u64 (topN R (upN R z):Nat)] 157)=w3 at *;have hw3:w3.heap.size=eb+3:=by omega
  clear k1 hw2;have HPL:=Hd (fun k (hk:k<12)=>hd_place (f:=dgt R z) (dgt_lt R z) hR HBB.out hk);have HDG:Hid (∀ k,0<k->k<=R->f k=(dgt R z k:Int)):=fun k h0 h1=>by rw[HF.out k h0 h1];unfold dgt;rw[if_pos h1]
  have HD7:Hid (∀ k,R<k->dgt R z k=7):=fun k h=>by unfold dgt;rw[if_neg (by omega)]
  have HDL:=Hd (dgt_lt R z);obtain⟨D,hD⟩:∃D,dgt R z=D:=⟨_,rfl⟩;obtain⟨T,hT⟩:∃T,topN R (upN R z)=T:=⟨_,rfl⟩;have HEQ:Hid (plc (topN R (upN R z)) (dgt R z) 12=plc T D 12):=by show _=_;rw[hD,hT]
  rw[hD]at HPL HDG HD7 HDL X0;rw[hT]at HPL X0;clear hD hT;clear HF HBB;go_wp2
  go_loopw [9] (fun i wr=>∃k:Nat,k<=12/\i=.int .i64 (k+1:Nat)/\Hid ((wr.cell? ⟨eb+2,0,none⟩=some (.int .u64 ((plc T D k:Nat):Int))/\wr.frozen? ⟨eb+2,0,none⟩=false)/\Turn (fun q=>q=eb+2) w3 wr)) (fun i _=>13-(intOf i).toNat)
  case atStart=>exact⟨0,by omega,rfl,X0.out,Turn.refl _ _⟩
  case round=>
   obtain⟨k,hk,rfl,HI⟩:=hrel;obtain⟨⟨x0,x1⟩,ht⟩:=HI.out;have hsz:=ht.2.2.2.1;have c0:wr.cell? ⟨w.heap.size,0,none⟩=some (.int .i64 R):=(ht.cell (p:=⟨w.heap.size,0,none⟩) (by show w.heap.size<w3.heap.size;omega) (by show ¬w.heap.size=eb+2;omega)).trans C1.out;have HBR:Hid (Below w.heap.size w wr):=HBW3.out.trans (ht.below (by omega) fun q hq e=>by omega);have HA:=Hd (A1.out.turn ht (by omega));have HT:=Hd ht;clear ht HI;by_cases hk12:k<12
   ·obtain⟨p1,p2,p3⟩:=HPL.out k hk12
    have q1:decide (((k+1:Nat):Int)<=12)=true:=decide_eq_true (by omega);have HPUT:=Hd (fun(d:Nat) (hd8:d<8) (wy:World)=>put_any (eb+2) (plc T D k) d (k+1) (by omega) (by omega) hd8 p1 p2 wy);have HP3:Hid (plc T D k+D (k+1)*8 ^ (12-(k+1))=plc T D (k+1)):=p3;clear p1 p2 p3;by_cases hkr:R<k+1
    ·have q2:decide ((R:Int)<((k+1:Nat):Int))=true:=decide_eq_true (by omega)
     have h7:=HD7.out (k+1) hkr;have HP4:Hid (plc T D k+7*8 ^ (12-(k+1))=plc T D (k+1)):=by show _=_;rw[<- HP3.out,h7]
     clear h7;have HN:Hid (((wr.setCell ⟨eb+2,0,none⟩ (.int .u64 (plc T D (k+1):Nat))).cell? ⟨eb+2,0,none⟩=some (.int .u64 ((plc T D (k+1):Nat):Int))/\(wr.setCell ⟨eb+2,0,none⟩ (.int .u64 (plc T D (k+1):Nat))).frozen? ⟨eb+2,0,none⟩=false)/\Turn (fun q=>q=eb+2) w3 (wr.setCell ⟨eb+2,0,none⟩ (.int .u64 (plc T D (k+1):Nat)))):=⟨⟨World.cell?_setCell_same _ _ _ x0,by simpa using x1⟩,HT.out.setCell rfl _⟩
     go_wp2_with fail
     have hput:=HPUT.out 7 (by decide) wr x0 x1;rw[HP4.out]at hput;refine hput.mono ?_;rintro e w4 ⟨rfl,rfl⟩;go_wp2
     go_roundw
     case rel=>exact⟨k+1,by omega,by go_num,HN.out⟩
     case measure=>simp[intOf];omega
    ·have q2:decide ((R:Int)<((k+1:Nat):Int))=false:=decide_eq_false (by omega)
     have a0:=(HA.out.cell (k:=k+1) (by omega)).1;rw[HDG.out (k+1) (by omega) (by omega)]at a0;have hd8:=HDL.out (k+1);have hal:eb+1<wr.heap.size:=by omega
     have HN:Hid (((wr.setCell ⟨eb+2,0,none⟩ (.int .u64 (plc T D (k+1):Nat))).cell? ⟨eb+2,0,none⟩=some (.int .u64 ((plc T D (k+1):Nat):Int))/\(wr.setCell ⟨eb+2,0,none⟩ (.int .u64 (plc T D (k+1):Nat))).frozen? ⟨eb+2,0,none⟩=false)/\Turn (fun q=>q=eb+2) w3 (wr.setCell ⟨eb+2,0,none⟩ (.int .u64 (plc T D (k+1):Nat)))):=⟨⟨World.cell?_setCell_same _ _ _ x0,by simpa using x1⟩,HT.out.setCell rfl _⟩;generalize D (k+1)=dd at*
     go_wp2_with fail
     have hput:=HPUT.out dd hd8 wr x0 x1;rw[HP3.out]at hput;refine hput.mono ?_;rintro e w4 ⟨rfl,rfl⟩;go_wp2
     go_roundw
     case rel=>exact⟨k+1,by omega,by go_num,HN.out⟩
     case measure=>simp[intOf];omega
   ·obtain rfl:k=12:=by omega
    go_wp2;go_ret2;exact⟨by rw[HEQ.out];rfl,HBR.out⟩
 ·have hok0:okB r z=false:=by simpa using hok
  rw[hok0]at HW;simp only[hok0,Bool.false_eq_true,if_false]at HO HE;rw[HO.out,HE.out];clear hok hok0 HO HE;simp only[vC]at*
  go_enter Tryz.func68,Tryz.ntmps68
  go_wp2_with fail
  refine(HW.out _).mono ?_;rintro e w1 ⟨b,f,rfl,-,hb⟩;have HB:Hid (Below w.heap.size w w1):=(br.alloc lr _).trans (hb.mono (by simp));have hz:=HB.out.size;clear hb HW;go_wp2;go_ret2;exact⟨rfl,(HB.out.alloc hz _).alloc (by simp;omega) _⟩
def cvR(w0:Nat):Int:=if isW w0=true then(rW w0:Int)else 0
def cvZ(w0:Nat):E2:=if isW w0=true then zW w0 else(0,0)
def cvE(w0:Nat):Int:=if isW w0=true then 0 else 5
def Tri(w:World)(b:Nat)(r:Int)(z:E2):Prop:=w.heap[b]? =some (.cells #[.int .i64 r,.int .i64 z.1,.int .i64 z.2] 39 (0,0))
theorem Tri.lt{w:World}{b:Nat}{r:Int}{z:E2}(h:Tri w b r z):b<w.heap.size:=(Array.getElem?_eq_some_iff.1 h).1
theorem Tri.turn{S:Nat->Prop}{w w':World}{b:Nat}{r:Int}{z:E2}(h:Tri w b r z)(ht:Turn S w w')(hs:¬S b):Tri w' b r z:=(ht.2.2.2.2 b h.lt hs).trans h
theorem Tri.later{w w':World}{b:Nat}{r:Int}{z:E2}(h:Tri w b r z)(hb:Below w.heap.size w w'):Tri w' b r z:=(hb.block b h.lt).trans h
theorem Tri.cells{w:World}{b:Nat}{r:Int}{z:E2}(h:Tri w b r z):w.cell? ⟨b,0,none⟩=some (.int .i64 r)/\w.cell? ⟨b,1,none⟩=some (.int .i64 z.1)/\w.cell? ⟨b,2,none⟩=some (.int .i64 z.2)/\w.frozen? ⟨b,0,none⟩=false/\w.frozen? ⟨b,1,none⟩=false/\w.frozen? ⟨b,2,none⟩=false/\b<w.heap.size:=
 ⟨cell_of_row _ _ 0 _ _ _ h,cell_of_row _ _ 1 _ _ _ h,cell_of_row _ _ 2 _ _ _ h,frozen_of_row _ _ _ _ _ h,frozen_of_row _ _ _ _ _ h,frozen_of_row _ _ _ _ _ h,h.lt⟩
theorem Tri.put{w:World}{b:Nat}{r:Int}{z:E2}(h:Tri w b r z)(s:Int)(y:E2):Tri (((w.setCell ⟨b,0,none⟩ (.int .i64 s)).setCell ⟨b,1,none⟩ (.int .i64 y.1)).setCell ⟨b,2,none⟩ (.int .i64 y.2)) b s y/\Turn (fun q=>q=b) w (((w.setCell ⟨b,0,none⟩ (.int .i64 s)).setCell ⟨b,1,none⟩ (.int .i64 y.1)).setCell ⟨b,2,none⟩ (.int .i64 y.2)):=by
 refine⟨?_,(((Turn.refl (fun q=>q=b) w).setCell (a:=⟨b,0,none⟩) rfl _).setCell (a:=⟨b,1,none⟩) rfl _).setCell (a:=⟨b,2,none⟩) rfl _⟩;unfold Tri at h ⊢;rw[Sort.setCell_eq,Sort.setCell_eq,Sort.setCell_eq];simp[Sort.mapBlock,Array.getElem?_modify,h,Sort.onCells]
theorem Wd.Hex.sm{h:Int}{z:E2}(hz:Hex h z):Sm h z:=⟨hz.1,hz.2.1,hz.2.2.1,hz.2.2.2.1⟩
theorem Sm.mono{h h':Int}{z:E2}(hz:Sm h z)(hh:h<=h'):Sm h' z:=by unfold Sm at *;omega
theorem head_val(w0:Nat)(hw:w0<18446744073709551616):
  bits .and .u64 ((w0:Int)/72057594037927936) 15=((rW w0:Nat):Int)/\bits .and .u64 ((w0:Int)/70368744177664) 1023=((w0/70368744177664%1024:Nat):Int)/\bits .and .u64 ((w0:Int)/68719476736) 1023=((w0/68719476736%1024:Nat):Int):=by
 refine⟨?_,?_,?_⟩
 ·rw[show ((w0:Int)/72057594037927936)=((w0/72057594037927936:Nat):Int) by omega,show(15:Int)=((15:Nat):Int) by rfl,bits_and_u64_nat _ _ (by omega) (by decide),nat_mask4];rfl
 ·rw[show ((w0:Int)/70368744177664)=((w0/70368744177664:Nat):Int) by omega,show(1023:Int)=((1023:Nat):Int) by rfl,bits_and_u64_nat _ _ (by omega) (by decide),show w0/70368744177664 &&& 1023=w0/70368744177664%1024 from Nat.and_two_pow_sub_one_eq_mod _ 10]
 ·rw[show ((w0:Int)/68719476736)=((w0/68719476736:Nat):Int) by omega,show(1023:Int)=((1023:Nat):Int) by rfl,bits_and_u64_nat _ _ (by omega) (by decide),show w0/68719476736 &&& 1023=w0/68719476736%1024 from Nat.and_two_pow_sub_one_eq_mod _ 10]
def Calls1(d:Nat)(m:E2):Prop:=∀w:World,Calls Tryz.prog 66 #[vE m,vE (leftE (d+1))] w fun e w'=>e=.returned (.tuple #[vE (addE m (leftE (d+1))),.bool true])/\Below w.heap.size w w'
theorem cell_any(w0:Nat)(hw:w0<18446744073709551616)(w:World):
  Calls Tryz.prog 34 #[.int .u64 w0] w fun e w'=>e=.returned (.tuple #[vC (cvR w0) (cvZ w0),.int .i64 (cvE w0)])/\Below w.heap.size w w':=by
 obtain⟨v1,v2,v3⟩:=head_val w0 hw;obtain⟨R,hR⟩:∃R,rW w0=R:=⟨_,rfl⟩;obtain⟨A,hA⟩:∃A,w0/70368744177664%1024=A:=⟨_,rfl⟩;obtain⟨B,hB⟩:∃A,w0/68719476736%1024=A:=⟨_,rfl⟩;have hA1:A<1024:=by omega
 have hB1:B<1024:=by omega
 have HBW:Hid (bW w0=((A:Int)-512,(B:Int)-512)):=by show _=_;unfold bW;rw[hA,hB]
 have HIS:Hid (isW w0=(decide (w0/1152921504606846976=1)&&decide (R<=12)&&okD (dgW w0) R 12)):=by show _=_;rw[<- hR];rfl
 have hr16:R<16:=by rw[<- hR];exact Nat.mod_lt _ (by decide)
 have HYES:Hid (isW w0=true->cvR w0=(R:Int)/\cvZ w0=dn (dgW w0) ((A:Int)-512,(B:Int)-512) R/\cvE w0=0):=fun h=>by
  unfold cvR cvZ cvE zW;simp only[h,if_pos];rw[hR,HBW.out];exact⟨rfl,rfl,trivial⟩
 have HNO:Hid (isW w0=false->cvR w0=0/\cvZ w0=(0,0)/\cvE w0=5):=fun h=>by
  unfold cvR cvZ cvE;simp only[h,Bool.false_eq_true,if_false];exact⟨trivial,trivial,trivial⟩
 rw[hR]at v1;rw[hA]at v2;rw[hB]at v3;clear hR hA hB;have hbad:isW w0=false->Hid (∀ w',Below w.heap.size w w'->((Ending.returned (.tuple #[.agg #[.int .i64 0,.int .i64 0,.int .i64 0],.int .i64 5]):Ending)=.returned (.tuple #[vC (cvR w0) (cvZ w0),.int .i64 (cvE w0)])/\Below w.heap.size w w')):=fun h w' hb=>by
  obtain⟨e1,e2,e3⟩:=HNO.out h;exact⟨by rw[e1,e2,e3],hb⟩
 by_cases h0:w0/1152921504606846976=1
 ·have q1:((w0:Int)/1152921504606846976 != 1)=false:=by simp;omega
  by_cases h12:R<=12
  ·have q2:decide (12<(R:Int))=false:=decide_eq_false (by omega)
   go_enter Tryz.func34,Tryz.ntmps34
   go_wp2;have T0:Hid (Tri ((w.alloc (.cells #[.int .i64 0,.int .i64 0,.int .i64 0] 39)).alloc (.cells #[.int .i64 0,.int .i64 ((A:Int)-512),.int .i64 ((B:Int)-512)] 39)) w.heap.size 0 (0,0)):=by
    show _=_;rw[Below.heap_alloc _ _ _ (by simp)];exact heap_new _ _ _ rfl
   have C0:Hid (Tri ((w.alloc (.cells #[.int .i64 0,.int .i64 0,.int .i64 0] 39)).alloc (.cells #[.int .i64 0,.int .i64 ((A:Int)-512),.int .i64 ((B:Int)-512)] 39)) (w.heap.size+1) 0 ((A:Int)-512,(B:Int)-512)):=heap_new _ _ _ (by simp);have HB0:Hid (Below w.heap.size w ((w.alloc (.cells #[.int .i64 0,.int .i64 0,.int .i64 0] 39)).alloc (.cells #[.int .i64 0,.int .i64 ((A:Int)-512),.int .i64 ((B:Int)-512)] 39))):=(br.alloc lr _).alloc (by simp) _;have k2:((w.alloc (.cells #[.int .i64 0,.int .i64 0,.int .i64 0] 39)).alloc (.cells #[.int .i64 0,.int .i64 ((A:Int)-512),.int .i64 ((B:Int)-512)] 39)).heap.size=w.heap.size+2:=by simp
   generalize(w.alloc (.cells #[.int .i64 0,.int .i64 0,.int .i64 0] 39)).alloc (.cells #[.int .i64 0,.int .i64 ((A:Int)-512),.int .i64 ((B:Int)-512)] 39)=w2 at *;have HBB:Hid (baseB ((A:Int)-512,(B:Int)-512)=true):=by show _=_;rw[baseB_iff];simp only;omega
   have HOK:Hid (isW w0=okD (dgW w0) R 12):=by show _=_;rw[HIS.out,decide_eq_true h0,decide_eq_true h12];rfl
   have HD8:=Hd (dgW_lt w0);have HDO:=Hd (fun k (h1:1<=k) (h2:k<=12)=>digitOf_any w0 k h1 h2 hw);generalize((A:Int)-512,(B:Int)-512)=b at *;clear v1 v2 v3 hA1 hB1 HBW HIS q1 q2 h0;obtain⟨D,hD⟩:∃D,dgW w0=D:=⟨_,rfl⟩;rw[hD]at HYES HOK HD8;simp only[hD]at HDO;clear hD
   go_loopw [6] (fun i wr=>∃k:Nat,k<=12/\i=.int .i64 (k+1:Nat)/\okD D R k=true/\Hid (Tri wr (w.heap.size+1) ((min k R:Nat):Int) (dn D b (min k R))/\Turn (fun q=>q=w.heap.size+1) w2 wr)) (fun i _=>13-(intOf i).toNat)
   case atStart=>exact⟨0,by omega,rfl,rfl,by rw[Nat.zero_min];exact C0.out,Turn.refl _ _⟩
   case round=>
    obtain⟨k,hk,rfl,hok,HI⟩:=hrel;have hTri:=HI.out.1;have hturn:=HI.out.2;have hsz:=hturn.2.2.2.1;have HT:=Hd (T0.out.turn hturn (by omega));have HBR:Hid (Below w.heap.size w wr):=HB0.out.trans (hturn.below (by omega) fun q hq e=>by omega);have HTU:=Hd hturn;have HTR:=Hd hTri;clear hTri hturn HI;by_cases hk12:k<12
    ·have hd8:=HD8.out (k+1)
     have HDK:=Hd (HDO.out (k+1) (by omega) (by omega));have HST:Hid (okD D R (k+1)=(okD D R k&&((D (k+1)==7)==decide (R<k+1)))):=rfl;have HDN:Hid (dn D b (k+1)=downE (dn D b k) (D (k+1))):=rfl;have q1:decide (((k+1:Nat):Int)<=12)=true:=decide_eq_true (by omega);obtain⟨d,hd⟩:∃d,D (k+1)=d:=⟨_,rfl⟩;rw[hd]at hd8 HDK HST HDN;clear hd;by_cases hd7:d=7
     ·by_cases hkr:R<k+1
      ·have q2:decide ((R:Int)<((k+1:Nat):Int))=true:=decide_eq_true (by omega)
       have q2':decide ((R:Int)<(k:Int)+1)=true:=decide_eq_true (by omega);have HN:okD D R (k+1)=true:=by rw[HST.out,hok,hd7,decide_eq_true hkr];rfl
       have HM:Hid (Tri wr (w.heap.size+1) ((min (k+1) R:Nat):Int) (dn D b (min (k+1) R))):=by
        have:=HTR.out;rw[show min k R=min (k+1) R by omega]at this;exact this
       subst hd7
       go_wp2_with fail
       refine(HDK.out _).mono ?_;rintro e w4 ⟨rfl,rfl⟩;go_wp2
       go_roundw
       case rel=>exact⟨k+1,by omega,by go_num,HN,HM.out,HTU.out⟩
       case measure=>simp[intOf];omega
      ·have q2:decide ((R:Int)<((k+1:Nat):Int))=false:=decide_eq_false (by omega)
       have q2':decide ((R:Int)<(k:Int)+1)=false:=decide_eq_false (by omega);have HF:=hbad (by rw[HOK.out];exact okD_stop (k:=k+1) (by rw[HST.out,hok,hd7,decide_eq_false hkr];rfl) (by omega));subst hd7;obtain⟨t0,t1,t2,t3,t4,t5,t6⟩:=HT.out.cells
       go_wp2_with fail
       refine(HDK.out _).mono ?_;rintro e w4 ⟨rfl,rfl⟩;go_wp2;exact bodyPost_ret (v:=.tuple #[.agg #[.int .i64 0,.int .i64 0,.int .i64 0],.int .i64 5]) (by simp[results,Tryz.results34,go_sem, *]) rfl (HF.out _ (((HBR.out.setCell (p:=⟨w.heap.size,0,none⟩) lr _).setCell (p:=⟨w.heap.size,1,none⟩) lr _).setCell (p:=⟨w.heap.size,2,none⟩) lr _))
     ·have q3:((d:Int)==7)=false:=by simp;omega
      by_cases hkr:R<k+1
      ·have q2:decide ((R:Int)<((k+1:Nat):Int))=true:=decide_eq_true (by omega)
       have q2':decide ((R:Int)<(k:Int)+1)=true:=decide_eq_true (by omega);have HF:=hbad (by rw[HOK.out];exact okD_stop (k:=k+1) (by rw[HST.out,hok,decide_eq_true hkr,beq_eq_false_iff_ne.2 hd7];rfl) (by omega));obtain⟨t0,t1,t2,t3,t4,t5,t6⟩:=HT.out.cells
       go_wp2_with fail
       refine(HDK.out _).mono ?_;rintro e w4 ⟨rfl,rfl⟩;go_wp2;exact bodyPost_ret (v:=.tuple #[.agg #[.int .i64 0,.int .i64 0,.int .i64 0],.int .i64 5]) (by simp[results,Tryz.results34,go_sem, *]) rfl (HF.out _ (((HBR.out.setCell (p:=⟨w.heap.size,0,none⟩) lr _).setCell (p:=⟨w.heap.size,1,none⟩) lr _).setCell (p:=⟨w.heap.size,2,none⟩) lr _))
      ·have q2:decide ((R:Int)<((k+1:Nat):Int))=false:=decide_eq_false (by omega)
       have q2':decide ((R:Int)<(k:Int)+1)=false:=decide_eq_false (by omega);have HN:okD D R (k+1)=true:=by rw[HST.out,hok,decide_eq_false hkr,beq_eq_false_iff_ne.2 hd7];rfl
       have hmk:min k R=k:=by omega
       have hmk2:min (k+1) R=k+1:=by omega
       rw[hmk]at HTR;have hdig:∀j,0<j->j<=k->D j<7:=fun j h1 h2=>by
        have h3:=(okD_iff D R k).1 hok j h1 h2;have:=HD8.out j;omega
       have hhx:=(dn_hex HBB.out hdig (Nat.le_refl k)).mono (hexH_le hk);have HMU:=Hd (mul_e (dn D b k) (2,1) (hhx.sm.mono (by decide)) (by unfold Sm;simp) (by unfold Hex at hhx;unfold Sm mulE;simp only;omega));have HAD:Hid (∀ d',Calls1 d' (mulE (dn D b k) (2,1))):=fun d' w=>add_in _ _ (by unfold Hex at hhx;unfold Sm mulE;simp only;omega) ((left_sm (d'+1)).mono (by decide)) w
       obtain⟨x,hx⟩:∃x,dn D b k=x:=⟨_,rfl⟩;rw[hx]at HMU HAD HTR HDN;have HDE:Hid (dn D b (k+1)=addE (mulE x (2,1)) (leftE d)):=HDN.out;generalize mulE x (2,1)=m at *;simp only[vE]at HMU;obtain⟨c0,c1,c2,c3,c4,c5,c6⟩:=HTR.out.cells;clear hhx hdig hx hmk HDN HST hbad HNO HBB HD8
       go_wp2_with fail
       refine(HDK.out _).mono ?_;rintro e w4 ⟨rfl,rfl⟩
       go_wp2_with fail
       refine(HMU.out _).mono ?_;rintro e w5 ⟨rfl,hb5⟩;have hz5:=hb5.size;have hal:Below w5.heap.size w5 (w5.alloc (.cells #[.int .i64 m.1,.int .i64 m.2] 37)):=br.alloc lr _;have k1:=World.size_alloc w5 (.cells #[.int .i64 m.1,.int .i64 m.2] 37);have M0:Hid (Two2 (w5.alloc (.cells #[.int .i64 m.1,.int .i64 m.2] 37)) w5.heap.size (.int .i64 m.1) (.int .i64 m.2)):=Two2.of_row (t:=37) (heap_new _ _ _ rfl);have HTR2:=Hd ((HTR.out.later hb5).later hal);have HT2:=Hd ((HT.out.later hb5).later hal);have HTU2:Hid (Turn (fun q=>q=w.heap.size+1) w2 (w5.alloc (.cells #[.int .i64 m.1,.int .i64 m.2] 37))):=(HTU.out.trans (Turn.of_below hb5) fun _ _ h=>h).trans (Turn.of_below hal) fun _ _ h=>h
       clear hal hb5 c0 c1 c2 c3 c4 c5 c6 HTR HT HTU HMU HBR
       go_upto_region 13 with(fail)
       generalize w5.alloc (.cells #[.int .i64 m.1,.int .i64 m.2] 37)=w6 at *;cases d with
       |zero=>
        have HDZ:Hid (dn D b (k+1)=m):=by show _=_;rw[HDE.out];show(m.1+0,m.2+0)=m;simp
        obtain⟨⟨m0,m1⟩,m2,m3⟩:=M0.out;have hput:=(HTR2.out).put ((k+1:Nat):Int) m;have HF:Hid (Tri (((w6.setCell ⟨w.heap.size+1,0,none⟩ (.int .i64 ((k+1:Nat):Int))).setCell ⟨w.heap.size+1,1,none⟩ (.int .i64 m.1)).setCell ⟨w.heap.size+1,2,none⟩ (.int .i64 m.2)) (w.heap.size+1) ((min (k+1) R:Nat):Int) (dn D b (min (k+1) R))/\Turn (fun q=>q=w.heap.size+1) w2 (((w6.setCell ⟨w.heap.size+1,0,none⟩ (.int .i64 ((k+1:Nat):Int))).setCell ⟨w.heap.size+1,1,none⟩ (.int .i64 m.1)).setCell ⟨w.heap.size+1,2,none⟩ (.int .i64 m.2))):=⟨by rw[hmk2,HDZ.out];exact hput.1,(HTU2.out).trans hput.2 fun _ _ h=>h⟩;obtain⟨c0,c1,c2,c3,c4,c5,c6⟩:=(HTR2.out).cells;clear hput;clear HAD;go_wp2
        go_roundw
        case rel=>exact⟨k+1,by omega,by go_num,HN,HF.out⟩
        case measure=>simp[intOf];omega
       |succ d=>
        have HDZ:Hid (dn D b (k+1)=addE m (leftE (d+1))):=HDE.out;have HUN:=Hd (unit_in d (by omega));have HAX:=Hd (HAD.out d);unfold Calls1 at HAX;have hle:leftE (d+1)=unitE d:=rfl;rw[hle]at HAX HDZ;have HMC:Hid (∀ wx,Below w6.heap.size w6 wx->Two2 wx w5.heap.size (.int .i64 m.1) (.int .i64 m.2)):=fun wx hx=>M0.out.later (by omega) hx
        simp only[vE]at HUN HAX;generalize unitE d=u at *;obtain⟨y,hy⟩:∃y,addE m u=y:=⟨_,rfl⟩;rw[hy]at HAX HDZ;have q5:IntKind.i64.wrap ((d:Int)+1)=(d:Int)+1:=wrap_in (by omega) (by omega);clear hy hle HAD M0;obtain⟨gb,hgb⟩:∃gb,w5.heap.size=gb:=⟨_,rfl⟩;rw[hgb]at HMC k1 ⊢;have hsz5:w2.heap.size<=gb:=by rw[<- hgb];omega
        clear hgb hz5;have hne1:¬gb=w.heap.size+1:=by omega
        have hne2:¬w.heap.size+1=gb:=by omega
        have HFIN:Hid (∀ w8,Below w6.heap.size w6 w8->(Two2 w8 gb (.int .i64 m.1) (.int .i64 m.2)/\Tri w8 (w.heap.size+1) k x/\gb<w8.heap.size)/\Tri (((((w8.setCell ⟨gb,0,none⟩ (.int .i64 y.1)).setCell ⟨gb,1,none⟩ (.int .i64 y.2)).setCell ⟨w.heap.size+1,0,none⟩ (.int .i64 ((k+1:Nat):Int))).setCell ⟨w.heap.size+1,1,none⟩ (.int .i64 y.1)).setCell ⟨w.heap.size+1,2,none⟩ (.int .i64 y.2)) (w.heap.size+1) ((min (k+1) R:Nat):Int) (dn D b (min (k+1) R))/\Turn (fun q=>q=w.heap.size+1) w2 (((((w8.setCell ⟨gb,0,none⟩ (.int .i64 y.1)).setCell ⟨gb,1,none⟩ (.int .i64 y.2)).setCell ⟨w.heap.size+1,0,none⟩ (.int .i64 ((k+1:Nat):Int))).setCell ⟨w.heap.size+1,1,none⟩ (.int .i64 y.1)).setCell ⟨w.heap.size+1,2,none⟩ (.int .i64 y.2))):=fun w8 hb8=>by
         have h1:=HMC.out w8 hb8;have h2:=HTR2.out.later hb8;have hs8:=hb8.size;have hp1:=h1.put (.int .i64 y.1) (.int .i64 y.2);have hp2:=(h2.turn hp1.2 hne2).put ((k+1:Nat):Int) y;refine⟨⟨h1,h2,by omega⟩,by rw[hmk2,HDZ.out];exact hp2.1,?_⟩;have t1:Turn (fun q=>q=w.heap.size+1) w2 w8:=HTU2.out.trans (Turn.of_below hb8) fun _ _ h=>h
         exact(t1.trans hp1.2 fun q hq e=>by omega).trans hp2.2 fun _ _ h=>h
        have HB6:Hid (Below w6.heap.size w6 w6):=br;obtain⟨⟨⟨⟨a0,a1⟩,a2,a3⟩,b0,b1⟩,-,-⟩:=HFIN.out w6 HB6.out;obtain⟨c0,c1,c2,c3,c4,c5,c6⟩:=b0.cells;clear b0 HMC HTR2 HTU2
        go_upto_region 14 with(fail)
        refine wp_region_part 7 3 #[true,true,true,true,true,true,true,false,false,false] (fun w w'=>Below w.heap.size w w') (fun qi_ qv_ _=>qv_=([.agg #[.int .i64 m.1,.int .i64 m.2],.int .u64 ((d:Int)+1),.int .i64 ((d:Int)+1),.int .i64 (d:Int),.agg #[.int .i64 u.1,.int .i64 u.2],.tuple #[.agg #[.int .i64 y.1,.int .i64 y.2],.bool true],.tuple #[.agg #[.int .i64 y.1,.int .i64 y.2],.bool true]]:List Value).getD qi_ undef) rfl rfl (by kernel_rfl) (by kernel_rfl) (by kernel_rfl) (fun _=>br) (fun _ _ _ h1 h2=>below_later h1 h1.size h2) (fun _ _ _ _ _ _ h=>h) ?_;simp only[List.take_succ_cons,List.take_zero];refine inv_cons (fun wx hg hd=>?_) (fun v0=>?_)
        ·have hx:=hxo w6 hg
         clear hd hg;obtain⟨⟨⟨⟨n0,n1⟩,n2,n3⟩,o0,o1⟩,-,-⟩:=HFIN.out wx hx;clear o0;go_wp2;exact⟨_,rfl,br,rfl⟩
        (try simp only[pq])
        refine inv_cons (fun wx hg hd=>?_) (fun v1=>?_)
        ·have hx:=hxo w6 hg
         clear hd hg;go_wp2;exact⟨_,rfl,br,rfl⟩
        (try simp only[pq])
        refine inv_cons (fun wx hg hd=>?_) (fun v2=>?_)
        ·have hx:=hxo w6 hg
         (try cases gk 1 hd (by decide) rfl rfl)
         clear hd hg;go_wp2;exact⟨_,rfl,br,rfl⟩
        (try simp only[pq])
        refine inv_cons (fun wx hg hd=>?_) (fun v3=>?_)
        ·have hx:=hxo w6 hg
         (try cases gk 2 hd (by decide) rfl rfl)
         clear hd hg;go_wp2;exact⟨_,rfl,br,rfl⟩
        (try simp only[pq])
        refine inv_cons (fun wx hg hd=>?_) (fun v4=>?_)
        ·have hx:=hxo w6 hg
         (try cases gk 3 hd (by decide) rfl rfl)
         clear hd hg
         go_wp2_with fail
         refine(HUN.out _).mono ?_;rintro e w7 ⟨rfl,hb7⟩;go_wp2;exact⟨_,rfl,hb7,rfl⟩
        (try simp only[pq])
        refine inv_cons (fun wx hg hd=>?_) (fun v5=>?_)
        ·have hx:=hxo w6 hg
         (try cases gk 0 hd (by decide) rfl rfl)
         (try cases gk 4 hd (by decide) rfl rfl)
         clear hd hg
         go_wp2_with fail
         refine(HAX.out _).mono ?_;rintro e w7 ⟨rfl,hb7⟩;go_wp2;exact⟨_,rfl,hb7,rfl⟩
        (try simp only[pq])
        refine inv_cons (fun wx hg hd=>?_) (fun v6=>?_)
        ·have hx:=hxo w6 hg
         (try cases gk 5 hd (by decide) rfl rfl)
         clear hd hg;go_wp2;exact⟨_,rfl,br,rfl⟩
        (try simp only[pq])
        refine inv_done (fun wx hg hd=>?_);have hx:=hxo w6 hg
        cases gl hd rfl
        clear hd hg;obtain⟨⟨⟨⟨p0,p1⟩,p2,p3⟩,o2,o3⟩,f1,f2⟩:=HFIN.out wx hx;obtain⟨d0,d1,d2,d3,d4,d5,d6⟩:=o2.cells;have HE1:=Hd (And.intro f1 f2);clear o2 f1 f2 HFIN HAX HUN a0 a1 a2 a3 b1 c0 c1 c2 c3 c4 c5 c6;refine wpAny_take (i:=7) (v:=.agg #[.int .i64 y.1,.int .i64 y.2]) rfl (by kernel_rfl) (by kernel_rfl) (by kernel_rfl) (fun _ _ _ h=>h) (Or.inl ⟨by rfl,?_⟩) ?_
        ·intro w
         go_simp
        (try simp only[Act.put,List.setIfInBounds_toArray,List.set_cons_zero,List.set_cons_succ])
        refine wpAny_take (i:=8) (v:=.bool true) rfl (by kernel_rfl) (by kernel_rfl) (by kernel_rfl) (fun _ _ _ h=>h) (Or.inl ⟨by rfl,?_⟩) ?_
        ·intro w
         go_simp
        (try simp only[Act.put,List.setIfInBounds_toArray,List.set_cons_zero,List.set_cons_succ])
        refine wpAny_ready (rs:=[9]) (by kernel_rfl) (by simp) ?_;refine AllReady.cons rfl (fun K hK=>?_) AllReady.nil
        go_simp
        refine hK _ _ ?_;clear hK K;refine wpAny_done (by kernel_rfl) ?_ _;refine only_done ?_;go_wp2
        go_roundw
        case rel=>exact⟨k+1,by omega,by go_num,HN,HE1.out⟩
        case measure=>simp[intOf];omega
    ·obtain rfl:k=12:=by omega
     rw[Nat.min_eq_right h12]at HTR;obtain⟨y1,y2,y3⟩:=HYES.out (by rw[HOK.out];exact hok);have HY:Hid (vC (cvR w0) (cvZ w0)=vC R (dn D b R)/\cvE w0=0):=⟨by rw[y1,y2],y3⟩;obtain⟨c0,c1,c2,c3,c4,c5,c6⟩:=HTR.out.cells;obtain⟨t0,t1,t2,t3,t4,t5,t6⟩:=HT.out.cells;generalize dn D b R=x at *;clear y1 y2 y3 HTR HT HYES;go_wp2;exact bodyPost_ret (v:=.tuple #[.agg #[.int .i64 R,.int .i64 x.1,.int .i64 x.2],.int .i64 0]) (by simp[results,Tryz.results34,go_sem, *]) rfl ⟨by rw[HY.out.1,HY.out.2],(((HBR.out.setCell (p:=⟨w.heap.size,0,none⟩) lr _).setCell (p:=⟨w.heap.size,1,none⟩) lr _).setCell (p:=⟨w.heap.size,2,none⟩) lr _)⟩
  ·have HF:=hbad (by rw[HIS.out,decide_eq_false h12];simp)
   have q2:decide (12<(R:Int))=true:=decide_eq_true (by omega);clear h0
   go_enter Tryz.func34,Tryz.ntmps34
   go_wp2;exact bodyPost_ret (v:=.tuple #[.agg #[.int .i64 0,.int .i64 0,.int .i64 0],.int .i64 5]) (by simp[results,Tryz.results34,go_sem]) rfl (HF.out _ (br.alloc lr _))
 ·have HF:=hbad (by rw[HIS.out,decide_eq_false h0];rfl)
  have q1:((w0:Int)/1152921504606846976 != 1)=true:=by simp;omega
  clear h0
  go_enter Tryz.func34,Tryz.ntmps34
  go_wp2;exact bodyPost_ret (v:=.tuple #[.agg #[.int .i64 0,.int .i64 0,.int .i64 0],.int .i64 5]) (by simp[results,Tryz.results34,go_sem]) rfl (HF.out _ (br.alloc lr _))
theorem bE_sm{k:Nat}(hk:k<=12):Sm 1048576 (bE k):=by
 obtain⟨q0,q1,q2,q3,q4,q5,q6,q7,q8,q9,q10,q11,q12⟩:=bE_tab;unfold Sm;rcases upto12 hk with rfl|rfl|rfl|rfl|rfl|rfl|rfl|rfl|rfl|rfl|rfl|rfl|rfl <;> decide
theorem pow7_in{k:Nat}(hk:k<=12):1<=(7:Int) ^ k/\(7:Int) ^ k<=13841287201:=by
 rcases upto12 hk with rfl|rfl|rfl|rfl|rfl|rfl|rfl|rfl|rfl|rfl|rfl|rfl|rfl <;> decide
theorem rbeta_in(n:Nat)(hn:n<=12)(w:World):
  Calls Tryz.prog 38 #[.int .i64 n] w fun e w'=>e=.returned (.tuple #[vE (bE n),.bool true])/\Below w.heap.size w w':=by
 have q1:decide ((n:Int)<0)=false:=decide_eq_false (by omega);have q2:decide (20<(n:Int))=false:=decide_eq_false (by omega)
 go_enter Tryz.func38,Tryz.ntmps38
 go_wp2;have T0:Hid (Two2 ((w.alloc (.cells #[.int .i64 0,.int .i64 0] 37)).alloc (.cells #[.int .i64 1,.int .i64 0] 37)) w.heap.size (.int .i64 0) (.int .i64 0)):=Two2.of_row (t:=37) (by rw[Below.heap_alloc _ _ _ (by simp)];exact heap_new _ _ _ rfl);have C0:Hid (Two2 ((w.alloc (.cells #[.int .i64 0,.int .i64 0] 37)).alloc (.cells #[.int .i64 1,.int .i64 0] 37)) (w.heap.size+1) (.int .i64 1) (.int .i64 0)):=Two2.of_row (t:=37) (heap_new _ _ _ (by simp));have HB0:Hid (Below w.heap.size w ((w.alloc (.cells #[.int .i64 0,.int .i64 0] 37)).alloc (.cells #[.int .i64 1,.int .i64 0] 37))):=(br.alloc lr _).alloc (by simp) _;have k2:((w.alloc (.cells #[.int .i64 0,.int .i64 0] 37)).alloc (.cells #[.int .i64 1,.int .i64 0] 37)).heap.size=w.heap.size+2:=by simp
 generalize(w.alloc (.cells #[.int .i64 0,.int .i64 0] 37)).alloc (.cells #[.int .i64 1,.int .i64 0] 37)=w2 at *;clear q1 q2
 go_loopw [5] (fun i wr=>∃k:Nat,k<=n/\i=.int .i64 k/\Hid (Two2 wr (w.heap.size+1) (.int .i64 (bE k).1) (.int .i64 (bE k).2)/\Turn (fun q=>q=w.heap.size+1) w2 wr)) (fun i _=>n-(intOf i).toNat)
 case atStart=>exact⟨0,by omega,rfl,C0.out,Turn.refl _ _⟩
 case round=>
  obtain⟨k,hk,rfl,HI⟩:=hrel;have hTri:=HI.out.1;have hturn:=HI.out.2;have hsz:=hturn.2.2.2.1;have HT:=Hd (T0.out.turn hturn (by omega) (by omega));have HBR:Hid (Below w.heap.size w wr):=HB0.out.trans (hturn.below (by omega) fun q hq e=>by omega);have HTU:=Hd hturn;have HTR:=Hd hTri;clear hTri hturn HI;by_cases hkn:k<n
  ·have q1:decide ((k:Int)<(n:Int))=true:=decide_eq_true (by omega)
   have hb1:=bE_sm (show k<=12 by omega);have HMU:=Hd (rmul_in (bE k) (2,1) (hb1.mono (by decide)) (by unfold Sm;simp) (by unfold Sm at hb1;unfold Sm mulE;simp only;omega));have HDN:Hid (bE (k+1)=mulE (bE k) (2,1)):=rfl;obtain⟨x,hx⟩:∃x,bE k=x:=⟨_,rfl⟩;rw[hx]at HMU HTR HDN;generalize mulE x (2,1)=m at *;simp only[vE]at HMU;obtain⟨⟨c0,c1⟩,c2,c3⟩:=HTR.out;clear hb1 hx
   go_wp2_with fail
   refine(HMU.out _).mono ?_;rintro e w5 ⟨rfl,hb5⟩;have hz5:=hb5.size;have h5:=HTR.out.later (by omega) hb5;have HP:=Hd (h5.put (.int .i64 m.1) (.int .i64 m.2));have HFI:Hid (Two2 ((w5.setCell ⟨w.heap.size+1,0,none⟩ (.int .i64 m.1)).setCell ⟨w.heap.size+1,1,none⟩ (.int .i64 m.2)) (w.heap.size+1) (.int .i64 (bE (k+1)).1) (.int .i64 (bE (k+1)).2)/\Turn (fun q=>q=w.heap.size+1) w2 ((w5.setCell ⟨w.heap.size+1,0,none⟩ (.int .i64 m.1)).setCell ⟨w.heap.size+1,1,none⟩ (.int .i64 m.2))):=⟨by rw[HDN.out];exact HP.out.1,(HTU.out.trans (Turn.of_below hb5) fun _ _ h=>h).trans HP.out.2 fun _ _ h=>h⟩;obtain⟨⟨e0,e1⟩,e2,e3⟩:=h5;clear hb5 c0 c1 c2 c3 HTR HT HTU HMU HBR HP HDN;go_wp2
   go_roundw
   case rel=>exact⟨k+1,by omega,by go_num,HFI.out⟩
   case measure=>simp[intOf];omega
  ·obtain rfl:k=n:=by omega
   have q1:decide ((k:Int)<(k:Int))=false:=decide_eq_false (by omega);obtain⟨x,hx⟩:∃x,bE k=x:=⟨_,rfl⟩;rw[hx]at HTR;obtain⟨⟨c0,c1⟩,c2,c3⟩:=HTR.out;obtain⟨⟨t0,t1⟩,t2,t3⟩:=HT.out;have HX:=Hd hx;clear HTR HT hx;go_wp2;exact bodyPost_ret (v:=.tuple #[.agg #[.int .i64 x.1,.int .i64 x.2],.bool true]) (by simp[results,Tryz.results38,go_sem, *]) rfl ⟨by rw[HX.out],(HBR.out.setCell (p:=⟨w.heap.size,0,none⟩) lr _).setCell (p:=⟨w.heap.size,1,none⟩) lr _⟩
theorem rpow_in(n:Nat)(hn:n<=12)(w:World):
  Calls Tryz.prog 138 #[.int .i64 7,.int .i64 n] w fun e w'=>e=.returned (.tuple #[.int .i64 (7 ^ n),.bool true])/\Below w.heap.size w w':=by
 have q1:decide ((n:Int)<0)=false:=decide_eq_false (by omega)
 go_enter Tryz.func138,Tryz.ntmps138
 go_wp2;clear q1
 go_loopw [6,7] (fun x i wr=>∃k:Nat,k<=n/\i=.int .i64 k/\x=.int .i64 (7 ^ k)/\Below w.heap.size w wr) (fun _ i _=>n-(intOf i).toNat)
 case atStart=>exact⟨0,by omega,rfl,rfl,br⟩
 case round=>
  obtain⟨k,hk,rfl,rfl,hbr⟩:=hrel;have HBR:=Hd hbr;clear hbr;by_cases hkn:k<n
  ·have q1:decide ((k:Int)<(n:Int))=true:=decide_eq_true (by omega)
   obtain⟨hp1,hp2⟩:=pow7_in (show k<=12 by omega);obtain⟨hp3,hp4⟩:=pow7_in (show k+1<=12 by omega);have HDN:Hid ((7:Int) ^ (k+1)=7 ^ k*7):=Int.pow_succ _ _;rw[HDN.out]at hp3 hp4;have HTI:=Hd (times_x (7 ^ k) 7 (by omega) (by omega));have HSM:=Hd (small_x (7 ^ k*7) (by omega));obtain⟨x,hx⟩:∃x,(7:Int) ^ k=x:=⟨_,rfl⟩;rw[hx]at hp1 hp3 hp4 HDN HTI HSM ⊢;obtain⟨y,hy⟩:∃y,x*7=y:=⟨_,rfl⟩;rw[hy]at hp3 hp4 HDN HTI HSM;have q2:(x==0)=false:=by simp;omega
   simp only[vU]at HTI HSM;clear hx hy;obtain⟨b,hb⟩:∃b,(x==1)=b:=⟨_,rfl⟩;cases b
   all_goals
    go_wp2_with fail
    refine(HTI.out _).mono ?_;rintro e w5 ⟨rfl,hb5⟩;have HB5:Hid (Below w.heap.size w w5):=HBR.out.trans (hb5.mono HBR.out.size);clear hb5
    go_wp2_with fail
    refine(HSM.out _).mono ?_;rintro e w6 ⟨rfl,hb6⟩;have HB6:Hid (Below w.heap.size w w6):=HB5.out.trans (hb6.mono HB5.out.size);clear hb6;go_wp2
    go_roundw
    case rel=>exact⟨k+1,by omega,by go_num,by rw[HDN.out],HB6.out⟩
    case measure=>simp[intOf];omega
  ·obtain rfl:k=n:=by omega
   have q1:decide ((k:Int)<(k:Int))=false:=decide_eq_false (by omega);obtain⟨x,hx⟩:∃x,(7:Int) ^ k=x:=⟨_,rfl⟩;have HX:=Hd hx;rw[hx];clear hx;go_wp2;exact bodyPost_ret (v:=.tuple #[.int .i64 x,.bool true]) (by simp[results,Tryz.results138,go_sem, *]) rfl ⟨by rw[HX.out],HBR.out⟩
theorem rseven_in(n:Nat)(hn:n<=12)(w:World):
  Calls Tryz.prog 93 #[.int .i64 n] w fun e w'=>e=.returned (.int .i64 (7 ^ n))/\Below w.heap.size w w':=by
 have HP:=Hd (rpow_in n hn);generalize(7:Int) ^ n=x at*
 go_enter Tryz.func93,Tryz.ntmps93
 go_wp2_with fail
 refine(HP.out _).mono ?_;rintro e w1 ⟨rfl,hb1⟩;go_wp2;exact bodyPost_ret (v:=.int .i64 x) (by simp[results,Tryz.results93,go_sem]) rfl ⟨rfl,hb1⟩
theorem rconj_in(n:Nat)(hn:n<=12)(w:World):
  Calls Tryz.prog 130 #[.int .i64 n] w fun e w'=>e=.returned (vE (conjE (bE n)))/\Below w.heap.size w w':=by
 have HP:=Hd (rbeta_in n hn);have hs:=bE_sm hn;unfold conjE;unfold Sm at hs;simp only[vE]at *;generalize bE n=x at *;obtain⟨hs1,hs2,hs3,hs4⟩:=hs
 go_enter Tryz.func130,Tryz.ntmps130
 go_wp2_with fail
 refine(HP.out _).mono ?_;rintro e w1 ⟨rfl,hb1⟩;have hz:=hb1.size;simp at hz;have H2:Two2 w1 w.heap.size (.int .i64 0) (.int .i64 0):=(Two2.of_row (t:=37) (heap_new _ _ _ rfl)).later (by simp) hb1;have HQ:Hid (Below w.heap.size w w1):=(br.alloc lr _).trans (hb1.mono (by simp));have hT:Two (w1.alloc (.cells #[.int .i64 x.1,.int .i64 x.2] 37)) w1.heap.size (.int .i64 x.1) (.int .i64 x.2):=Two.of_row (t:=37) (f:=_) (heap_new _ _ _ rfl);have H2:=H2.alloc (by omega) (.cells #[.int .i64 x.1,.int .i64 x.2] 37);have HQ:Hid (Below w.heap.size w (w1.alloc (.cells #[.int .i64 x.1,.int .i64 x.2] 37))):=HQ.out.alloc (by omega) _;have hs:w1.heap.size<(w1.alloc (.cells #[.int .i64 x.1,.int .i64 x.2] 37)).heap.size:=by simp
 clear hb1
 go_upto_region 2 with(fail)
 generalize w1.alloc (.cells #[.int .i64 x.1,.int .i64 x.2] 37)=w2 at *;obtain⟨c0,c1⟩:=hT;obtain⟨⟨t0,t1⟩,t2,t3⟩:=H2;go_wp2;exact bodyPost_ret (v:=.agg #[.int .i64 (x.1+x.2),.int .i64 (-x.2)]) (by simp[results,Tryz.results130,go_sem, *]) rfl ⟨rfl,(HQ.out.setCell (p:=⟨w.heap.size,0,none⟩) lr _).setCell (p:=⟨w.heap.size,1,none⟩) lr _⟩
theorem rworld_in(x y:Int)(hx:0<=x/\x<1073741824)(hy:0<=y/\y<1073741824)(w:World):Calls Tryz.prog 42 #[.int .i64 x,.int .i64 y] w fun e w'=>e=.returned (.bool true)/\w'=w:=by
 have q1:decide (0<=x)=true:=decide_eq_true (by omega);have q2:decide (x<1073741824)=true:=decide_eq_true (by omega);have q3:decide (0<=y)=true:=decide_eq_true (by omega);have q4:decide (y<1073741824)=true:=decide_eq_true (by omega);clear hx hy
 go_enter Tryz.func42,Tryz.ntmps42
 go_wp2;go_ret;exact⟨rfl,rfl⟩
theorem parent_in(z:E2)(hz:Sm 1099511627776 z)(w:World):
  Calls Tryz.prog 133 #[vE z] w fun e w'=>e=.returned (.tuple #[vE (upE z),.int .i64 (digE z)])/\Below w.heap.size w w':=by
 have hup:=up_sm (by omega) hz;have M1:=Hd (rmul_in z (3,-1) (by unfold Sm at *;omega) (by unfold Sm;simp) (by unfold Sm mulE at *;simp only;omega));have R1:=Hd (rround_in (mulE z (3,-1)) 7 (by omega) (by omega) (by unfold Sm mulE at *;simp only;omega));rw[round_up]at R1;have M2:=Hd (rmul_in (upE z) (2,1) (by unfold Sm at *;omega) (by unfold Sm;simp) (by unfold Sm mulE at *;simp only;omega));have hleft:=left_of z;have hd7:=digE_lt z;have HU:=Hd (fun k (hk:k<6)=>unit_left hk hd7);have hls:=left_sm (digE z);obtain⟨a,b⟩:=z;simp only[vE]at *;generalize upE (a,b)=p at *;generalize mulE (a,b) (3,-1)=q at *;generalize mulE p (2,1)=m at *;generalize leftE (digE (a,b))=l at *;generalize digE (a,b)=dg at *;obtain⟨p1,p2⟩:=p;obtain⟨q1,q2⟩:=q;obtain⟨m1,m2⟩:=m;obtain⟨l1,l2⟩:=l;have hl1:a-m1=l1:=congrArg Prod.fst hleft;have hl2:b-m2=l2:=congrArg Prod.snd hleft;unfold Sm at hls;simp only at hls;obtain⟨hls1,hls2,hls3,hls4⟩:=hls;clear hup hz hleft;simp only at*
 go_enter Tryz.func133,Tryz.ntmps133
 go_wp2_with fail
 refine(M1.out _).mono ?_;rintro e w1 ⟨rfl,hb1⟩;have hz1:=hb1.size;simp at hz1;have z0:Two w1 w.heap.size (.int .i64 a) (.int .i64 b):=(Two.of_row (t:=37) (f:=_) (by rw[Below.heap_alloc _ _ _ (by simp)];exact heap_new _ _ _ rfl)).later (by simp;omega) hb1;have u0:Two2 w1 (w.heap.size+1) (.int .i64 0) (.int .i64 0):=(Two2.of_row (t:=37) (heap_new _ _ _ (by simp))).later (by simp) hb1;have hB1:Below w.heap.size w w1:=(br.alloc lr _).alloc (by simp) _ |>.trans (hb1.mono (by simp;omega))
 have U1:=Hd (u0.alloc (by omega) (.cells #[.int .i64 q1,.int .i64 q2] 37));have Z1:=Hd (z0.alloc (by omega) (.cells #[.int .i64 q1,.int .i64 q2] 37));have B2:=Hd (hB1.alloc (by omega) (.cells #[.int .i64 q1,.int .i64 q2] 37));have hz2:=World.size_alloc w1 (.cells #[.int .i64 q1,.int .i64 q2] 37);clear u0 z0 hb1 hB1
 go_wp2_with fail
 refine(R1.out _).mono ?_;rintro e w2 ⟨rfl,hb2⟩;have hz3:=hb2.size;have U2:=Hd ((U1.out.later (by omega) hb2).alloc (by omega) (.cells #[.int .i64 p1,.int .i64 p2] 37));have Z2:=Hd ((Z1.out.later (by omega) hb2).alloc (by omega) (.cells #[.int .i64 p1,.int .i64 p2] 37));have B3:=Hd ((B2.out.trans (hb2.mono (by omega))).alloc (by omega) (.cells #[.int .i64 p1,.int .i64 p2] 37));have P2:Hid (Two (w2.alloc (.cells #[.int .i64 p1,.int .i64 p2] 37)) w2.heap.size (.int .i64 p1) (.int .i64 p2)):=Two.of_row (t:=37) (f:=_) (heap_new _ _ _ rfl);have hz4:=World.size_alloc w2 (.cells #[.int .i64 p1,.int .i64 p2] 37);clear U1 Z1 B2 hb2
 go_wp2_with fail
 refine(M2.out _).mono ?_;rintro e w3 ⟨rfl,hb3⟩;have hz5:=hb3.size;have hal:Below w3.heap.size w3 (w3.alloc (.cells #[.int .i64 m1,.int .i64 m2] 37)):=br.alloc lr _;have hz6:=World.size_alloc w3 (.cells #[.int .i64 m1,.int .i64 m2] 37);have U3:=Hd ((U2.out.later (by omega) hb3).later (by omega) hal);have Z3:=Hd ((Z2.out.later (by omega) hb3).later (by omega) hal);have P3:=Hd ((P2.out.later (by omega) hb3).later (by omega) hal);have B4:=Hd ((B3.out.trans (hb3.mono (by omega))).trans (hal.mono (by omega)));obtain⟨qb,hqb⟩:∃qb,w2.heap.size=qb:=⟨_,rfl⟩;have hM:Two (w3.alloc (.cells #[.int .i64 m1,.int .i64 m2] 37)) w3.heap.size (.int .i64 m1) (.int .i64 m2):=Two.of_row (t:=37) (f:=_) (heap_new _ _ _ rfl);clear U2 Z2 P2 B3 hb3 hal
 go_upto_region 4 with(fail)
 generalize w3.alloc (.cells #[.int .i64 m1,.int .i64 m2] 37)=w4 at *;obtain⟨k0,k1⟩:=hM;obtain⟨k2,k3⟩:=Z3.out;have hml:w3.heap.size<w4.heap.size:=by omega
 have hzl:w.heap.size<w4.heap.size:=by omega
 have hal2:Below w4.heap.size w4 (w4.alloc (.cells #[.int .i64 l1,.int .i64 l2] 37)):=br.alloc lr _;have hz7:=World.size_alloc w4 (.cells #[.int .i64 l1,.int .i64 l2] 37);rw[hqb]at P3 hz4;have U4:=Hd (U3.out.later (by omega) hal2);have P4:=Hd (P3.out.later (by omega) hal2);have B5:=Hd (B4.out.trans (hal2.mono (by omega)));have L4:Hid (Two (w4.alloc (.cells #[.int .i64 l1,.int .i64 l2] 37)) w4.heap.size (.int .i64 l1) (.int .i64 l2)):=Two.of_row (t:=37) (f:=_) (heap_new _ _ _ rfl);have hqs:qb<w4.heap.size:=by omega
 have hws:w.heap.size+1<w4.heap.size:=by omega
 clear hal2 U3 P3 B4 Z3 hqb
 go_upto_region 5 with(fail)
 generalize w4.alloc (.cells #[.int .i64 l1,.int .i64 l2] 37)=w5 at *;obtain⟨lb,hlb⟩:∃lb,w4.heap.size=lb:=⟨_,rfl⟩;have hlb2:w3.heap.size+1=lb:=by omega
 rw[hlb]at L4 hz7 hqs hws;rw[hlb2];clear hlb hlb2 k0 k1 k2 k3 hml hzl hz1 hz2 hz3 hz4 hz5 hz6 hl1 hl2 M1 M2 R1;go_wp2
 go_loopw [11] (fun i wr=>∃k:Nat,k<=6/\i=.int .i64 k/\(dg=0∨k<dg)/\Below w5.heap.size w5 wr) (fun i _=>6-(intOf i).toNat)
 case atStart=>exact⟨0,by omega,rfl,by omega,br⟩
 case round=>
  obtain⟨k,hk,rfl,hd0,hbw⟩:=hrel;have hsz:=hbw.size;have HB:=Hd hbw;have HFIN:Hid (∀ wx,Below w5.heap.size w5 wx->Two wx qb (.int .i64 p1) (.int .i64 p2)/\Two2 wx (w.heap.size+1) (.int .i64 0) (.int .i64 0)/\Two wx lb (.int .i64 l1) (.int .i64 l2)/\Below w.heap.size w wx):=fun wx hx=>⟨P4.out.later (by omega) hx,U4.out.later (by omega) hx,L4.out.later (by omega) hx,B5.out.trans (hx.mono (by omega))⟩
  by_cases hk6:k<6
  ·have U:=Hd (runit_in k hk6)
   have HQ:=Hd (HU.out k hk6);simp only[vE]at U;generalize unitE k=u at *;obtain⟨u1,u2⟩:=u;simp only at U HQ;obtain⟨b,hb⟩:∃b,decide (dg=k+1)=b:=⟨_,rfl⟩;rw[hb]at HQ;have HD:Hid (decide (dg=k+1)=b):=hb;have HK:Hid (dg=0∨k<dg):=hd0;have q6:decide ((k:Int)<6)=true:=decide_eq_true (by omega);clear hb hbw hd0 P4 U4 L4 B5
   go_upto_region 8 with(fail)
   refine wp_region_inw ([.inl (.int .i64 (k:Int)),.inl (.agg #[.int .i64 u1,.int .i64 u2]),.inl (.agg #[.int .i64 l1,.int .i64 l2]),.inl (.bool b)]:List Want) [] (by kernel_rfl) (by kernel_rfl) (by kernel_rfl) ?_;refine inw_cons (fun wx hg hd=>?_) (fun v0=>?_)
   ·have hx:=hxo wr hg
    clear hd hg;go_wp2;exact⟨_,rfl,br,rfl⟩
   (try simp only[pq])
   refine inw_cons (fun wx hg hd=>?_) (fun v1=>?_)
   ·have hx:=hxo wr hg
    (try(have ee:v0=(.int .i64 (k:Int):Value):=hd 0 (by simp) (by decide);subst ee))
    clear hd hg
    go_wp2_with fail
    refine(U.out _).mono ?_;rintro e w' ⟨rfl,hb⟩;go_wp2;exact⟨_,rfl,hb,rfl⟩
   (try simp only[pq])
   refine inw_cons (fun wx hg hd=>?_) (fun v2=>?_)
   ·have hx:=hxo wr hg
    clear hd hg;obtain⟨_,_,⟨k1,k2⟩,_⟩:=HFIN.out _ (HB.out.trans (hx.mono hsz));go_wp2;exact⟨_,rfl,br,rfl⟩
   (try simp only[pq])
   refine inw_cons (fun wx hg hd=>?_) (fun v3=>?_)
   ·have hx:=hxo wr hg
    (try(have ee:v1=(.agg #[.int .i64 u1,.int .i64 u2]:Value):=hd 1 (by simp) (by decide);subst ee))
    (try(have ee:v2=(.agg #[.int .i64 l1,.int .i64 l2]:Value):=hd 2 (by simp) (by decide);subst ee))
    clear hd hg;go_wp2
    all_goals(refine⟨_,rfl,br,?_⟩)
    all_goals(show Value.bool _=Value.bool b)
    all_goals(rw[<- HQ.out])
    all_goals(simp[*])
   (try simp only[pq])
   refine inw_done (fun wx hg hd=>?_);have hx:=hxo wr hg
   (have ee:v0=(.int .i64 (k:Int):Value):=hd 0 (by simp) (by kernel_rfl);subst ee)
   (have ee:v1=(.agg #[.int .i64 u1,.int .i64 u2]:Value):=hd 1 (by simp) (by kernel_rfl);subst ee)
   (have ee:v2=(.agg #[.int .i64 l1,.int .i64 l2]:Value):=hd 2 (by simp) (by kernel_rfl);subst ee)
   (have ee:v3=(.bool b:Value):=hd 3 (by simp) (by kernel_rfl);subst ee)
   clear hd hg
   (try go_simp)
   have HX:Hid (Below w5.heap.size w5 wx):=HB.out.trans (hx.mono HB.out.size);obtain⟨⟨t0,t1⟩,⟨⟨s0,s1⟩,s2,s3⟩,-,hbx⟩:=HFIN.out wx HX.out;have HBX:=Hd hbx;have hqx:qb<wx.heap.size:=by have:=HX.out.size;omega
   clear hbx;cases b
   ·have hne:dg≠k+1:=by simpa using HD.out
    clear HFIN;go_wp2
    go_roundw
    case rel=>exact⟨k+1,by omega,by go_num,by have:=HK.out;omega,HX.out⟩
    case measure=>simp[intOf];omega
   ·have hne:dg=k+1:=by simpa using HD.out
    have HV:Hid ((dg:Int)=(k:Int)+1):=by show _=_;omega
    clear hne HK HD HFIN;go_wp2;exact bodyPost_ret (v:=.tuple #[.agg #[.int .i64 p1,.int .i64 p2],.int .i64 ((k:Int)+1)]) (by simp[results,Tryz.results133,go_sem, *]) rfl ⟨by rw[HV.out],(HBX.out.setCell (p:=⟨w.heap.size+1,0,none⟩) (by simp) _).setCell (p:=⟨w.heap.size+1,1,none⟩) (by simp) _⟩
  ·have h0:dg=0:=by omega
   obtain rfl:k=6:=by omega
   subst h0;obtain⟨⟨t0,t1⟩,⟨⟨s0,s1⟩,s2,s3⟩,-,hbx⟩:=HFIN.out wr hbw;have HBX:=Hd hbx;have hqx:qb<wr.heap.size:=by omega
   clear hbx hbw hk6 HFIN;go_wp2;exact bodyPost_ret (v:=.tuple #[.agg #[.int .i64 p1,.int .i64 p2],.int .i64 0]) (by simp[results,Tryz.results133,go_sem, *]) rfl ⟨rfl,(HBX.out.setCell (p:=⟨w.heap.size+1,0,none⟩) (by simp) _).setCell (p:=⟨w.heap.size+1,1,none⟩) (by simp) _⟩
theorem rok_any(r:Int)(z:E2)(w:World):Calls Tryz.prog 132 #[vC r z] w fun e w'=>e=.returned (.bool (okB r z))/\Below w.heap.size w w':=by
 obtain⟨a,b⟩:=z;have HNO:Hid (shapeB r (a,b)=false->okB r (a,b)=false):=fun h=>by unfold okB;rw[h];rfl
 have hsh:shapeB r (a,b)=true↔0<=r/\r<=12/\ -1073741824<=a/\a<=1073741824/\ -1073741824<=b/\b<=1073741824:=shapeB_iff r (a,b);have HB0:Hid (Below w.heap.size w (w.alloc (.cells #[.int .i64 r,.int .i64 a,.int .i64 b] 39))):=br.alloc lr _;simp only[vC];by_cases h0:r<0
 ·have HV:=Hd (HNO.out (by rw[<- Bool.not_eq_true,hsh];omega))
  rw[HV.out];have p0:decide (r<0)=true:=decide_eq_true h0;clear hsh HNO h0
  go_enter Tryz.func132,Tryz.ntmps132
  go_wp2;go_ret;exact⟨rfl,HB0.out⟩
 have p0:decide (r<0)=false:=decide_eq_false h0;by_cases h1:12<r
 ·have HV:=Hd (HNO.out (by rw[<- Bool.not_eq_true,hsh];omega))
  rw[HV.out];have p1:decide (12<r)=true:=decide_eq_true h1;clear hsh HNO h0 h1
  go_enter Tryz.func132,Tryz.ntmps132
  go_wp2;go_ret;exact⟨rfl,HB0.out⟩
 have p1:decide (12<r)=false:=decide_eq_false h1;by_cases h2:a< -1073741824
 ·have HV:=Hd (HNO.out (by rw[<- Bool.not_eq_true,hsh];omega))
  rw[HV.out];have p2:decide (a< -1073741824)=true:=decide_eq_true h2;clear hsh HNO h0 h1 h2
  go_enter Tryz.func132,Tryz.ntmps132
  go_wp2;go_ret;exact⟨rfl,HB0.out⟩
 have p2:decide (a< -1073741824)=false:=decide_eq_false h2;by_cases h3:1073741824<a
 ·have HV:=Hd (HNO.out (by rw[<- Bool.not_eq_true,hsh];omega))
  rw[HV.out];have p3:decide (1073741824<a)=true:=decide_eq_true h3;clear hsh HNO h0 h1 h2 h3
  go_enter Tryz.func132,Tryz.ntmps132
  go_wp2;go_ret;exact⟨rfl,HB0.out⟩
 have p3:decide (1073741824<a)=false:=decide_eq_false h3;by_cases h4:b< -1073741824
 ·have HV:=Hd (HNO.out (by rw[<- Bool.not_eq_true,hsh];omega))
  rw[HV.out];have p4:decide (b< -1073741824)=true:=decide_eq_true h4;clear hsh HNO h0 h1 h2 h3 h4
  go_enter Tryz.func132,Tryz.ntmps132
  go_wp2;go_ret;exact⟨rfl,HB0.out⟩
 have p4:decide (b< -1073741824)=false:=decide_eq_false h4;by_cases h5:1073741824<b
 ·have HV:=Hd (HNO.out (by rw[<- Bool.not_eq_true,hsh];omega))
  rw[HV.out];have p5:decide (1073741824<b)=true:=decide_eq_true h5;clear hsh HNO h0 h1 h2 h3 h4 h5
  go_enter Tryz.func132,Tryz.ntmps132
  go_wp2;go_ret;exact⟨rfl,HB0.out⟩
 have p5:decide (1073741824<b)=false:=decide_eq_false h5;obtain⟨R,rfl⟩:∃R:Nat,r=R:=⟨r.toNat,by omega⟩;have hR:R<=12:=by omega
 have HOK:Hid (okB R (a,b)=baseB (upN R (a,b))):=by show _=_;unfold okB;rw[hsh.2 ⟨by omega,by omega,by omega,by omega,by omega,by omega⟩];rfl
 have HSM:Hid (Sm 1099511627776 (a,b)):=by show Sm _ _;unfold Sm;simp only;omega
 obtain⟨bv,hbv⟩:∃bv,baseB (upN R (a,b))=bv:=⟨_,rfl⟩;rw[HOK.out,hbv];have HBV0:=Hd hbv;clear hbv;clear hsh HNO HOK h0 h1 h2 h3 h4 h5;have hr:=heap_new w (.cells #[.int .i64 R,.int .i64 a,.int .i64 b] 39) _ rfl;have C0:Hid ((w.alloc (.cells #[.int .i64 R,.int .i64 a,.int .i64 b] 39)).cell? ⟨w.heap.size,0,none⟩=some (.int .i64 R)):=cell_of_row _ _ 0 _ _ _ hr;have hal:Below (w.alloc (.cells #[.int .i64 R,.int .i64 a,.int .i64 b] 39)).heap.size (w.alloc (.cells #[.int .i64 R,.int .i64 a,.int .i64 b] 39)) ((w.alloc (.cells #[.int .i64 R,.int .i64 a,.int .i64 b] 39)).alloc (.cells #[.int .i64 a,.int .i64 b] 37)):=br.alloc lr _;have k1:((w.alloc (.cells #[.int .i64 R,.int .i64 a,.int .i64 b] 39)).alloc (.cells #[.int .i64 a,.int .i64 b] 37)).heap.size=w.heap.size+2:=by simp
 have C1:Hid (((w.alloc (.cells #[.int .i64 R,.int .i64 a,.int .i64 b] 39)).alloc (.cells #[.int .i64 a,.int .i64 b] 37)).cell? ⟨w.heap.size,0,none⟩=some (.int .i64 R)):=(hal.cell (p:=⟨w.heap.size,0,none⟩) (by simp)).trans C0.out;have Z1:Hid (Two2 ((w.alloc (.cells #[.int .i64 R,.int .i64 a,.int .i64 b] 39)).alloc (.cells #[.int .i64 a,.int .i64 b] 37)) (w.heap.size+1) (.int .i64 a) (.int .i64 b)):=Two2.of_row (t:=37) (heap_new _ _ _ (by simp));have HB1:Hid (Below w.heap.size w ((w.alloc (.cells #[.int .i64 R,.int .i64 a,.int .i64 b] 39)).alloc (.cells #[.int .i64 a,.int .i64 b] 37))):=HB0.out.trans (hal.mono (by simp));clear hal hr C0 HB0
 go_enter Tryz.func132,Tryz.ntmps132
 go_upto_region 4 with(fail)
 generalize(w.alloc (.cells #[.int .i64 R,.int .i64 a,.int .i64 b] 39)).alloc (.cells #[.int .i64 a,.int .i64 b] 37)=w2 at *;obtain⟨y,hy⟩:∃y:E2,y=(a,b):=⟨_,rfl⟩;rw[<- hy]at HSM;have Z1:Hid (Two2 w2 (w.heap.size+1) (.int .i64 (upN 0 y).1) (.int .i64 (upN 0 y).2)):=by rw[hy];exact Z1.out
 have HBV:Hid (baseB (upN R y)=bv):=by show _=_;rw[hy];exact HBV0.out
 clear hy HBV0;go_wp2
 go_loopw [4] (fun i wr=>∃j:Nat,j<=R/\i=.int .i64 j/\Hid (Two2 wr (w.heap.size+1) (.int .i64 (upN j y).1) (.int .i64 (upN j y).2)/\Turn (fun q=>q=w.heap.size+1) w2 wr)) (fun i _=>R-(intOf i).toNat)
 case atStart=>exact⟨0,by omega,rfl,Z1.out,Turn.refl _ _⟩
 case round=>
  obtain⟨j,hj,rfl,HI⟩:=hrel;have c0:wr.cell? ⟨w.heap.size,0,none⟩=some (.int .i64 R):=(HI.out.2.cell (p:=⟨w.heap.size,0,none⟩) (by show w.heap.size<w2.heap.size;omega) (by show ¬w.heap.size=w.heap.size+1;omega)).trans C1.out;have hsz:=HI.out.2.2.2.2.1;have hwl:w.heap.size<wr.heap.size:=by omega
  have HBR:Hid (Below w.heap.size w wr):=HB1.out.trans (HI.out.2.below (by omega) fun q hq e=>by omega);obtain⟨⟨z0,z1⟩,z2,z3⟩:=HI.out.1;have HT:=Hd HI.out.2;by_cases hjR:j<R
  ·have hpa:=parent_in (upN j y) (upN_sm (by omega) HSM.out j)
   have hup:=upN_up j y;rw[<- hup]at hpa;simp only[vE]at hpa;have HP:=Hd hpa;clear hpa hup;obtain⟨x',hx'⟩:∃x',upN (j+1) y=x':=⟨_,rfl⟩;rw[hx']at HP;have HXE:=Hd hx';clear hx';have HZ:=Hd HI.out.1;clear HI
   go_wp2_with fail
   refine(HP.out _).mono ?_;rintro e w4 ⟨rfl,hb4⟩;have h4:=HZ.out.later (by omega) hb4;have hp:=h4.put (.int .i64 x'.1) (.int .i64 x'.2);have HN:Hid (Two2 ((w4.setCell ⟨w.heap.size+1,0,none⟩ (.int .i64 x'.1)).setCell ⟨w.heap.size+1,1,none⟩ (.int .i64 x'.2)) (w.heap.size+1) (.int .i64 x'.1) (.int .i64 x'.2)/\Turn (fun q=>q=w.heap.size+1) w2 ((w4.setCell ⟨w.heap.size+1,0,none⟩ (.int .i64 x'.1)).setCell ⟨w.heap.size+1,1,none⟩ (.int .i64 x'.2))):=⟨hp.1,(HT.out.trans (Turn.of_below hb4) fun _ _ h=>h).trans hp.2 fun _ _ h=>h⟩;obtain⟨⟨y0,y1⟩,y2,y3⟩:=h4;clear hp hb4 z0 z1 z2 z3 c0;go_wp2
   go_roundw
   case rel=>exact⟨j+1,by omega,by go_num,by rw[HXE.out];exact HN.out⟩
   case measure=>simp[intOf];omega
  ·obtain rfl:j=R:=by omega
   have HBS:Hid (baseB (upN j y)=(decide (-512<=(upN j y).1)&&decide ((upN j y).1<512)&&(decide (-512<=(upN j y).2)&&decide ((upN j y).2<512)))):=rfl;generalize upN j y=x at *;clear HI HT;obtain⟨x1,x2⟩:=x;simp only at *;by_cases g0: -512<=x1
   ·have p0:decide (-512<=x1)=true:=decide_eq_true g0
    by_cases g1:x1<=511
    ·have p1:decide (x1<=511)=true:=decide_eq_true g1
     by_cases g2: -512<=x2
     ·have p2:decide (-512<=x2)=true:=decide_eq_true g2
      have HV:Hid (baseB (x1,x2)=decide (x2<=511)):=by show _=_;rw[HBS.out,p0,p2,decide_eq_true (show x1<512 by omega)];simp;omega
      have HEV:=Hd (HBV.out.symm.trans HV.out);obtain⟨bb,hbb⟩:∃bb,decide (x2<=511)=bb:=⟨_,rfl⟩;rw[hbb]at HEV;clear HV HBS g0 g1 g2;go_wp2;go_ret;exact⟨by rw[HEV.out];rfl,HBR.out⟩
     ·have p2:decide (-512<=x2)=false:=decide_eq_false g2
      have HV:Hid (baseB (x1,x2)=false):=by show _=_;rw[HBS.out,p2];simp
      have HEV:=Hd (HBV.out.symm.trans HV.out);clear HV HBS g0 g1 g2;go_wp2;go_ret;exact⟨by rw[HEV.out];rfl,HBR.out⟩
    ·have p1:decide (x1<=511)=false:=decide_eq_false g1
     have HV:Hid (baseB (x1,x2)=false):=by show _=_;rw[HBS.out,decide_eq_false (show ¬x1<512 by omega)];simp
     have HEV:=Hd (HBV.out.symm.trans HV.out);clear HV HBS g0 g1;go_wp2;go_ret;exact⟨by rw[HEV.out];rfl,HBR.out⟩
   ·have p0:decide (-512<=x1)=false:=decide_eq_false g0
    have HV:Hid (baseB (x1,x2)=false):=by show _=_;rw[HBS.out,p0];simp
    have HEV:=Hd (HBV.out.symm.trans HV.out);clear HV HBS g0;go_wp2;go_ret;exact⟨by rw[HEV.out];rfl,HBR.out⟩
theorem hd_app(f:Nat->Nat)(j m:Nat):hd f (j+m)=hd f j*8 ^ m+hd (fun k=>f (j+k)) m:=by
 induction m with
 |zero=>simp[hd]
 |succ m ih=>
  show hd f (j+m)*8+f (j+m+1)=_+(hd (fun k=>f (j+k)) m*8+f (j+(m+1)));rw[ih,Nat.pow_succ, <-Nat.mul_assoc,Nat.add_mul,Nat.add_assoc,Nat.add_assoc]
theorem or_parts{A d m B:Nat}(hd:d<8)(hB:B<2 ^ (3*m)):(A*8+d)*2 ^ (3*m)+B=A*2 ^ (3*m+3) ||| (d*2 ^ (3*m) ||| B):=by
 have hp:0<2 ^ (3*m):=Nat.pow_pos (by decide);have e1:d*2 ^ (3*m) ||| B=d*2 ^ (3*m)+B:=nat_join (3*m) _ _ (Nat.mul_mod_left _ _) hB
 have h2:d*2 ^ (3*m)+B<2 ^ (3*m+3):=by
  rw[Nat.pow_add];have:d*2 ^ (3*m)<=7*2 ^ (3*m):=Nat.mul_le_mul_right _ (by omega);omega
 rw[e1,nat_join (3*m+3) _ _ (Nat.mul_mod_left _ _) h2,Nat.add_mul,Nat.pow_add, <-Nat.add_assoc,Nat.mul_assoc A 8,Nat.mul_comm 8]
theorem clear_digit{A m B:Nat}(hB:B<2 ^ (3*m))(hA:(A*8+7)*2 ^ (3*m)+B<2 ^ 64):
  ((A*8+7)*2 ^ (3*m)+B) &&& (2 ^ 64-(7*2 ^ (3*m)+1))=A*2 ^ (3*m+3) ||| B:=by
 have hb:7*2 ^ (3*m)<2 ^ 64:=by
  have:7*2 ^ (3*m)<=(A*8+7)*2 ^ (3*m):=Nat.mul_le_mul_right _ (by omega);omega
 have hlt:∀i,64<=i->((A*8+7)*2 ^ (3*m)+B).testBit i=false:=fun i hi=>Nat.testBit_lt_two_pow (Nat.lt_of_lt_of_le hA (Nat.pow_le_pow_right (by decide) hi))
 rw[or_parts (d:=7) (by decide) hB]at hlt ⊢;apply Nat.eq_of_testBit_eq;intro i;have hl:=hlt i;rw[Nat.testBit_and,Nat.testBit_two_pow_sub_succ hb];rw[Nat.testBit_or,Nat.testBit_or,Nat.testBit_mul_two_pow,Nat.testBit_mul_two_pow]at hl ⊢;rw[Nat.testBit_or,Nat.testBit_mul_two_pow];by_cases h1:3*m<=i
 ·have hBi:B.testBit i=false:=Nat.testBit_lt_two_pow (Nat.lt_of_lt_of_le hB (Nat.pow_le_pow_right (by decide) h1))
  rw[hBi]at hl ⊢;by_cases h2:3*m+3<=i
  ·have h7:(7:Nat).testBit (i-3*m)=false:=Nat.testBit_lt_two_pow (Nat.lt_of_lt_of_le (show 7<2 ^ 3 by decide) (Nat.pow_le_pow_right (by decide) (by omega)))
   rw[h7]at hl ⊢;by_cases h64:i<64
   ·simp[h64]
   ·have:=hl (by omega)
    simp[h64]at this ⊢;simpa[h2]using this
  ·have h7:(7:Nat).testBit (i-3*m)=true:=by
    rcases(show i-3*m=0∨i-3*m=1∨i-3*m=2 by omega)with e|e|e <;> rw[e] <;> decide
   rw[h7];simp[h1,h2]
 ·have h2:¬3*m+3<=i:=by omega
  by_cases h64:i<64
  ·simp[h1,h2,h64]
  ·have:=hl (by omega)
   simp[h1,h2,h64]at this ⊢;exact this
def lowD(R:Nat)(z:E2)(j k:Nat):Nat:=if k<=j then 7 else dgt R z k
def lowV(R:Nat)(z:E2)(j:Nat):Nat:=hd (lowD R z j) 12
theorem lowD_lt(R:Nat)(z:E2)(j k:Nat):lowD R z j k<8:=by
 unfold lowD
 split
 ·decide
 ·exact dgt_lt R z k
theorem lowV_lt(R:Nat)(z:E2)(j:Nat):lowV R z j<68719476736:=hd12_lt (lowD_lt R z j)
theorem lowV_first{R:Nat}(z:E2):lowV R z R=68719476735:=by
 unfold lowV;rw[hd_congr (g:=fun _=>7) (fun k _ _=>?_)]
 ·decide
 ·unfold lowD dgt
  split
  ·rfl
  ·rfl
theorem lowV_last(R:Nat)(z:E2):lowV R z 0=hd (dgt R z) 12:=hd_congr fun k h _=>by unfold lowD;rw[if_neg (by omega)]
theorem lowV_step{R:Nat}{z:E2}{j:Nat}(hj:j<12):∃A B:Nat,B<2 ^ (3*(12-(j+1)))/\lowV R z (j+1)=(A*8+7)*2 ^ (3*(12-(j+1)))+B/\lowV R z j=(A*8+dgt R z (j+1))*2 ^ (3*(12-(j+1)))+B:=by
 obtain⟨m,hm⟩:∃m,12-(j+1)=m:=⟨_,rfl⟩;have h12:12=(j+1)+m:=by omega
 have e8:∀m,(8:Nat) ^ m=2 ^ (3*m):=fun m=>by rw[Nat.pow_mul]
 rw[hm];refine⟨hd (lowD R z (j+1)) j,hd (fun k=>lowD R z (j+1) (j+1+k)) m,?_,?_,?_⟩
 ·rw[<- e8];exact hd_lt (fun k=>lowD_lt R z _ _) m
 ·unfold lowV
  rw[h12,hd_app,e8];show(hd (lowD R z (j+1)) j*8+lowD R z (j+1) (j+1))*_+_=_;rw[show lowD R z (j+1) (j+1)=7 by unfold lowD;rw[if_pos lr]]
 ·unfold lowV
  rw[h12,hd_app,e8];show(hd (lowD R z j) j*8+lowD R z j (j+1))*_+_=_;rw[show lowD R z j (j+1)=dgt R z (j+1) by unfold lowD;rw[if_neg (by omega)]];rw[hd_congr (f:=lowD R z j) (g:=lowD R z (j+1)) (n:=j) (fun k h1 h2=>by unfold lowD;rw[if_pos h2,if_pos (by omega)])];rw[hd_congr (f:=fun k=>lowD R z j (j+1+k)) (g:=fun k=>lowD R z (j+1) (j+1+k)) (n:=m) (fun k h1 h2=>by show lowD R z j _=lowD R z (j+1) _;unfold lowD;rw[if_neg (by omega),if_neg (by omega)])]
theorem word_put{A d B j V1 V0:Nat}(hj:j<12)(hd:d<8)(hB:B<2 ^ (3*(12-(j+1))))(h1:V1=(A*8+7)*2 ^ (3*(12-(j+1)))+B)(h0:V0=(A*8+d)*2 ^ (3*(12-(j+1)))+B)(hV:V1<68719476736):
  bits .or .u64 (bits .andNot .u64 (V1:Int) (IntKind.u64.wrap (7*2 ^ (36-3*(j+1))))) (IntKind.u64.wrap ((d:Int)*2 ^ (36-3*(j+1))))=((V0:Nat):Int):=by
 obtain⟨m,hm⟩:∃m,12-(j+1)=m:=⟨_,rfl⟩;rw[show 36-3*(j+1)=3*m by omega];rw[hm]at hB h1 h0;have hp:2 ^ (3*m)<=2 ^ 33:=Nat.pow_le_pow_right (by decide) (by omega);have hp2:(2:Nat) ^ 33=8589934592:=by decide
 have e7:(7*2 ^ (3*m):Int)=((7*2 ^ (3*m):Nat):Int):=by simp
 have ed:((d:Int)*2 ^ (3*m))=((d*2 ^ (3*m):Nat):Int):=by simp
 have hdl:d*2 ^ (3*m)<=7*2 ^ (3*m):=Nat.mul_le_mul_right _ (by omega);have w7:IntKind.u64.wrap ((7*2 ^ (3*m):Nat):Int)=((7*2 ^ (3*m):Nat):Int):=by rw[IntKind.wrap_u64];omega
 have wd:IntKind.u64.wrap ((d*2 ^ (3*m):Nat):Int)=((d*2 ^ (3*m):Nat):Int):=by rw[IntKind.wrap_u64];omega
 have hlt:A*2 ^ (3*m+3) ||| B<18446744073709551616:=by
  refine Nat.lt_of_le_of_lt ?_ (show V1<18446744073709551616 by omega);rw[h1,or_parts (by decide) hB,Nat.or_comm (7*2 ^ (3*m)) B, <-Nat.or_assoc];exact Nat.left_le_or
 rw[e7,ed,w7,wd,u64_andNot_nat _ _ (by omega) (by omega)];rw[show 18446744073709551615-7*2 ^ (3*m)=2 ^ 64-(7*2 ^ (3*m)+1) by rw[show (2:Nat) ^ 64=18446744073709551616 by decide];omega];rw[h1,clear_digit hB (by rw[<- h1,show(2:Nat) ^ 64=18446744073709551616 by decide];omega),bits_or_u64_nat _ _ hlt (by omega)];rw[h0,or_parts hd hB,Nat.or_assoc,Nat.or_comm B]
theorem top_val2{R V:Nat}{b:E2}(hR:R<=12)(hb:baseB b=true)(hV:V<68719476736):bits .or .u64 (bits .or .u64 (bits .or .u64 (bits .or .u64 (V:Int) 1152921504606846976) ((R:Int)*72057594037927936)) (IntKind.u64.wrap (IntKind.u64.wrap (wrap64 (b.1+512))*70368744177664))) (IntKind.u64.wrap (IntKind.u64.wrap (wrap64 (b.2+512))*68719476736))=((topN R b+V:Nat):Int):=by
 obtain⟨h1,h2,h3,h4⟩:=(baseB_iff b).1 hb;obtain⟨A,hA⟩:∃A:Nat,b.1+512=A:=⟨(b.1+512).toNat,by omega⟩;obtain⟨B,hB⟩:∃A:Nat,b.2+512=A:=⟨(b.2+512).toNat,by omega⟩;have wA:IntKind.u64.wrap (wrap64 (b.1+512))=(A:Int):=by rw[hA,show wrap64 (A:Int)=A by unfold wrap64;omega,IntKind.wrap_u64];omega
 have wB:IntKind.u64.wrap (wrap64 (b.2+512))=(B:Int):=by rw[hB,show wrap64 (B:Int)=B by unfold wrap64;omega,IntKind.wrap_u64];omega
 rw[wA,wB];have e1:IntKind.u64.wrap ((A:Int)*70368744177664)=((A*70368744177664:Nat):Int):=by rw[IntKind.wrap_u64];omega
 have e2:IntKind.u64.wrap ((B:Int)*68719476736)=((B*68719476736:Nat):Int):=by rw[IntKind.wrap_u64];omega
 have e3:((R:Int)*72057594037927936)=((R*72057594037927936:Nat):Int):=by omega
 rw[e1,e2,e3,show(1152921504606846976:Int)=((1152921504606846976:Nat):Int) by rfl];rw[bits_or_u64_nat _ _ (by omega) (by decide),Nat.or_comm V,nat_join 60 _ _ (by decide) (by omega)];have j1:1152921504606846976+V ||| R*72057594037927936=1152921504606846976+R*72057594037927936+V:=by
  rw[<- nat_join 60 1152921504606846976 V (by decide) (by omega),Nat.or_assoc,Nat.or_comm V,nat_join 56 (R*72057594037927936) V (by omega) (by omega),nat_join 60 _ _ (by decide) (by omega)];omega
 rw[bits_or_u64_nat _ _ (by omega) (by omega),j1];have j2:1152921504606846976+R*72057594037927936+V ||| A*70368744177664=1152921504606846976+R*72057594037927936+A*70368744177664+V:=by
  rw[<- nat_join 56 (1152921504606846976+R*72057594037927936) V (by omega) (by omega),Nat.or_assoc,Nat.or_comm V,nat_join 46 (A*70368744177664) V (by omega) (by omega),nat_join 56 _ _ (by omega) (by omega)];omega
 rw[bits_or_u64_nat _ _ (by omega) (by omega),j2];have j3:1152921504606846976+R*72057594037927936+A*70368744177664+V ||| B*68719476736=1152921504606846976+R*72057594037927936+A*70368744177664+B*68719476736+V:=by
  rw[<- nat_join 46 (1152921504606846976+R*72057594037927936+A*70368744177664) V (by omega) (by omega),Nat.or_assoc,Nat.or_comm V,nat_join 36 (B*68719476736) V (by omega) (by omega),nat_join 46 _ _ (by omega) (by omega)];omega
 rw[bits_or_u64_nat _ _ (by omega) (by omega),j3];unfold topN;omega
theorem word_any(r:Int)(z:E2)(w:World):Calls Tryz.prog 88 #[vC r z] w fun e w'=>e=.returned (.tuple #[.int .u64 (ofW r z:Nat),.int .i64 (ofE r z)])/\Below w.heap.size w w':=by
 have HW:=Hd (rok_any r z);have HO:Hid (ofW r z=if okB r z=true then wordN r.toNat z else 0):=rfl;have HE:Hid (ofE r z=if okB r z=true then 0 else 2):=rfl;by_cases hok:okB r z=true
 ·obtain⟨R,rfl,hR⟩:=okB_nat hok
  have HBB:=Hd (okB_parts hok).2;have HSM:Hid (Sm 1099511627776 z):=by
   have:=(shapeB_iff _ _).1 ((okB_iff _ _).1 hok).1;show Sm _ _;unfold Sm;omega
  simp only[hok,if_pos]at HO HE HW;rw[HO.out,HE.out];have HSZ:Hid (wordN (R:Int).toNat z=topN R (upN R z)+lowV R z 0):=by show _=_;rw[lowV_last];rfl
  rw[HSZ.out];clear hok HO HE HSZ;obtain⟨res,hres⟩:∃x,topN R (upN R z)+lowV R z 0=x:=⟨_,rfl⟩;rw[hres];have HRES:=Hd hres;clear hres;have HLF:=Hd (lowV_first (R:=R) z);obtain⟨a,b⟩:=z;simp only[vC]at*
  go_enter Tryz.func88,Tryz.ntmps88
  go_wp2_with fail
  refine(HW.out _).mono ?_;rintro e w1 ⟨rfl,hb⟩;have hz1:=hb.size;simp at hz1;have hr:=hb.block w.heap.size (by simp);rw[heap_new _ _ _ rfl]at hr;obtain⟨c0,c1,c2⟩:w1.cell? ⟨w.heap.size,0,none⟩=some (.int .i64 R)/\w1.cell? ⟨w.heap.size,1,none⟩=some (.int .i64 a)/\w1.cell? ⟨w.heap.size,2,none⟩=some (.int .i64 b):=⟨cell_of_row _ _ 0 _ _ _ hr,cell_of_row _ _ 1 _ _ _ hr,cell_of_row _ _ 2 _ _ _ hr⟩;have hal:Below w1.heap.size w1 (w1.alloc (.cells #[.int .i64 a,.int .i64 b] 37)):=br.alloc lr _;have hB:Hid (Below w.heap.size w (w1.alloc (.cells #[.int .i64 a,.int .i64 b] 37))):=((br.alloc lr _).trans (hb.mono (by simp))).trans (hal.mono (by omega));have C0:Hid ((w1.alloc (.cells #[.int .i64 a,.int .i64 b] 37)).cell? ⟨w.heap.size,0,none⟩=some (.int .i64 R)):=(hal.cell (p:=⟨w.heap.size,0,none⟩) (by show w.heap.size<w1.heap.size;omega)).trans c0;have Z0:Hid (Two2 (w1.alloc (.cells #[.int .i64 a,.int .i64 b] 37)) w1.heap.size (.int .i64 a) (.int .i64 b)):=Two2.of_row (t:=37) (heap_new _ _ _ rfl);have hsz:=World.size_alloc w1 (.cells #[.int .i64 a,.int .i64 b] 37);clear hal hb HW
  go_upto_region 4 with(fail)
  generalize w1.alloc (.cells #[.int .i64 a,.int .i64 b] 37)=w2 at *;obtain⟨zb,hzb⟩:∃zb,w1.heap.size=zb:=⟨_,rfl⟩;rw[hzb]at Z0 hsz hz1 ⊢;clear hzb c0 c1 c2 hr;have c0:=C0.out;obtain⟨y,hy⟩:∃y:E2,y=(a,b):=⟨_,rfl⟩;have Z0:Hid (Two2 w2 zb (.int .i64 (upN (R-R) y).1) (.int .i64 (upN (R-R) y).2)):=by rw[Nat.sub_self,hy];exact Z0.out
  rw[<- hy]at HBB HSM HRES HLF;have HL0:Hid ((68719476735:Int)=((lowV R y R:Nat):Int)):=by show _=_;rw[HLF.out];rfl
  clear hy
  go_upto_region 6 with(fail)
  go_loopw [5,6] (fun v i wr=>∃j:Nat,j<=R/\i=.int .i64 j/\v=.int .u64 (lowV R y j:Nat)/\Hid (Two2 wr zb (.int .i64 (upN (R-j) y).1) (.int .i64 (upN (R-j) y).2)/\Turn (fun q=>q=zb) w2 wr)) (fun _ i _=>(intOf i).toNat)
  case atStart=>exact⟨R,by omega,rfl,by rw[HL0.out],Z0.out,Turn.refl _ _⟩
  case round=>
   obtain⟨j',hj,rfl,rfl,HI⟩:=hrel;have hturn:=HI.out.2;have hsz2:=hturn.2.2.2.1;have HBR:Hid (Below w.heap.size w wr):=hB.out.trans (hturn.below (by omega) fun q hq e=>by omega);have HTU:=Hd hturn;have HZ:=Hd HI.out.1;clear hturn HI c0;by_cases hj0:j'=0
   ·subst hj0
    have c0:wr.cell? ⟨w.heap.size,0,none⟩=some (.int .i64 R):=(HTU.out.cell (p:=⟨w.heap.size,0,none⟩) (by show w.heap.size<w2.heap.size;omega) (by show ¬w.heap.size=zb;omega)).trans C0.out;have HTV:=Hd (top_val2 hR HBB.out (lowV_lt R y 0));obtain⟨⟨z0,z1⟩,z2,z3⟩:=HZ.out;rw[Nat.sub_zero]at z0 z1;have hwl:w.heap.size<wr.heap.size:=by omega
    have hzl:zb<wr.heap.size:=by omega
    generalize upN R y=x at *;generalize lowV R y 0=V at *;clear HZ HTU;go_wp2;rw[HTV.out];go_ret2;exact⟨by rw[<- HRES.out];rfl,HBR.out⟩
   ·obtain⟨j,rfl⟩:∃j,j'=j+1:=⟨j'-1,by omega⟩
    have hpa:=parent_in (upN (R-(j+1)) y) (upN_sm (by omega) HSM.out _);have hup:upN (R-j) y=upE (upN (R-(j+1)) y):=by rw[show R-j=(R-(j+1))+1 by omega,upN_up]
    have hdg:dgt R y (j+1)=digE (upN (R-(j+1)) y):=by unfold dgt;rw[if_pos hj]
    rw[<- hup, <-hdg]at hpa;obtain⟨x',hx'⟩:∃x',upN (R-j) y=x':=⟨_,rfl⟩;rw[hx']at hpa;have HXE:=Hd hx';obtain⟨A,B,hB1,hv1,hv2⟩:=lowV_step (R:=R) (z:=y) (j:=j) (by omega);have hdl:=dgt_lt R y (j+1);have hlv:=lowV_lt R y (j+1);simp only[vE]at hpa;have HP:=Hd hpa;have HV1:=Hd hv1;have HV2:=Hd hv2;clear hv1 hv2;generalize dgt R y (j+1)=d at *;obtain⟨V1,hV1⟩:∃V,lowV R y (j+1)=V:=⟨_,rfl⟩;obtain⟨V0,hV0⟩:∃V,lowV R y j=V:=⟨_,rfl⟩;rw[hV1]at HV1 hlv ⊢;rw[hV0]at HV2;have HV0E:=Hd hV0;clear hV1 hV0;clear hpa hup hdg hx';obtain⟨⟨z0,z1⟩,z2,z3⟩:=HZ.out;have q0:decide (0<(j:Int)+1)=true:=decide_eq_true (by omega)
    go_wp2_with fail
    refine(HP.out _).mono ?_;rintro e w3 ⟨rfl,hb3⟩;have qs:decide (36-3*((j:Int)+1)<0)=false:=decide_eq_false (by omega)
    go_upto_region 10 with(fail)
    go_quiet (fail)
    have HPUT:=Hd (word_put (show j<12 by omega) hdl hB1 HV1.out HV2.out hlv);rw[HPUT.out];have hz3:=hb3.size;have hal:Below w3.heap.size w3 (w3.alloc (.cells #[.int .i64 x'.1,.int .i64 x'.2] 37)):=br.alloc lr _;have k3:=World.size_alloc w3 (.cells #[.int .i64 x'.1,.int .i64 x'.2] 37);have hX:Two (w3.alloc (.cells #[.int .i64 x'.1,.int .i64 x'.2] 37)) w3.heap.size (.int .i64 x'.1) (.int .i64 x'.2):=Two.of_row (t:=37) (f:=_) (heap_new _ _ _ rfl);have h4:=(HZ.out.later (by omega) hb3).later (by omega) hal;have HT4:Hid (Turn (fun q=>q=zb) w2 (w3.alloc (.cells #[.int .i64 x'.1,.int .i64 x'.2] 37))):=(HTU.out.trans (Turn.of_below hb3) fun _ _ h=>h).trans (Turn.of_below hal) fun _ _ h=>h
    clear hal hb3 z0 z1 z2 z3 HZ HTU;have hdn:=below_dn (w3.alloc (.cells #[.int .i64 x'.1,.int .i64 x'.2] 37)) nq;have h4:=h4.later (by omega) hdn;have hX:=hX.later (by omega) hdn;have HT4:Hid (Turn (fun q=>q=zb) w2 ((w3.alloc (.cells #[.int .i64 x'.1,.int .i64 x'.2] 37)).drewN nq)):=HT4.out.trans (Turn.of_below hdn) fun _ _ h=>h
    have k4:=hdn.size;clear hdn;generalize(w3.alloc (.cells #[.int .i64 x'.1,.int .i64 x'.2] 37)).drewN nq=w4 at *;have hp:=h4.put (.int .i64 x'.1) (.int .i64 x'.2);have HN:Hid (Two2 ((w4.setCell ⟨zb,0,none⟩ (.int .i64 x'.1)).setCell ⟨zb,1,none⟩ (.int .i64 x'.2)) zb (.int .i64 x'.1) (.int .i64 x'.2)/\Turn (fun q=>q=zb) w2 ((w4.setCell ⟨zb,0,none⟩ (.int .i64 x'.1)).setCell ⟨zb,1,none⟩ (.int .i64 x'.2))):=⟨hp.1,HT4.out.trans hp.2 fun _ _ h=>h⟩;obtain⟨⟨z0,z1⟩,z2,z3⟩:=h4;obtain⟨x0,x1⟩:=hX;have hxl:w3.heap.size<w4.heap.size:=by omega
    have hzl:zb<w4.heap.size:=by omega
    clear hp k3;go_wp2
    go_roundw
    case rel=>exact⟨j,by omega,by go_num,by rw[HV0E.out],by rw[HXE.out];exact HN.out⟩
    case measure=>simp[intOf]
 ·have hok0:okB r z=false:=by simpa using hok
  rw[hok0]at HW;simp only[hok0,Bool.false_eq_true,if_false]at HO HE;rw[HO.out,HE.out];clear hok hok0 HO HE;simp only[vC]at*
  go_enter Tryz.func88,Tryz.ntmps88
  go_wp2_with fail
  refine(HW.out _).mono ?_;rintro e w1 ⟨rfl,hb⟩;have HB:Hid (Below w.heap.size w w1):=(br.alloc lr _).trans (hb.mono (by simp));clear hb HW;go_wp2;go_ret2;exact⟨rfl,HB.out⟩
theorem near_mul_sm{x y:Int}(hx:0<=x/\x<1073741824)(hy:0<=y/\y<1073741824){m:Nat}(hm:m<=12):Sm 1152921504606846976 (mulE (ptE x y) (conjE (bE m))):=by
 obtain⟨q0,q1,q2,q3,q4,q5,q6,q7,q8,q9,q10,q11,q12⟩:=bE_tab;unfold Sm mulE ptE conjE;rcases upto12 hm with rfl|rfl|rfl|rfl|rfl|rfl|rfl|rfl|rfl|rfl|rfl|rfl|rfl <;> simp only[q0,q1,q2,q3,q4,q5,q6,q7,q8,q9,q10,q11,q12] <;> omega
theorem conj_sm{m:Nat}(hm:m<=12):Sm 4194304 (conjE (bE m)):=by
 have:=bE_sm hm;unfold Sm at this;unfold Sm conjE;simp only;omega
theorem rnear_in(x y:Int)(hx:0<=x/\x<1073741824)(hy:0<=y/\y<1073741824)(r:Nat)(hr:r<=12)(w:World):
  Calls Tryz.prog 87 #[.int .i64 x,.int .i64 y,.int .i64 r] w fun e w'=>e=.returned (.tuple #[vE (nearE x y r),.bool true])/\Below w.heap.size w w':=by
 have HWO:=Hd (rworld_in x y hx hy);have q1:decide ((r:Int)<0)=false:=decide_eq_false (by omega);have q2:decide (12<(r:Int))=false:=decide_eq_false (by omega);have hm:(12:Int)-(r:Int)=((12-r:Nat):Int):=by omega
 have hm12:12-r<=12:=by omega
 have HN:Hid (nearE x y r=roundE (mulE (ptE x y) (conjE (bE (12-r)))) (dN (12-r))):=rfl;have hms:=near_mul_sm hx hy hm12;have HCO:=Hd (rconj_in (12-r) hm12);have HMU:=Hd (rmul_in (ptE x y) (conjE (bE (12-r))) (by unfold Sm ptE;simp only;omega) ((conj_sm hm12).mono (by decide)) (hms.mono (by decide)));have HSE:=Hd (rseven_in (12-r) hm12);obtain⟨hp1,hp2⟩:=pow7_in hm12;have HRO:=Hd (rround_in (mulE (ptE x y) (conjE (bE (12-r)))) (dN (12-r)) (by unfold dN;omega) (by unfold dN;omega) hms);rw[<- HN.out]at HRO;have hdn:dN (12-r)=2340*7 ^ (12-r):=rfl;rw[hdn]at HRO;have hpt:ptE x y=(45*x-26*y,52*y):=rfl;clear HN hdn hms;generalize(7:Int) ^ (12-r)=s at *;generalize nearE x y r=z at *;generalize 12-r=m at *;generalize mulE (ptE x y) (conjE (bE m))=u at *;generalize conjE (bE m)=c at *;rw[hpt]at HMU;simp only[vE]at *;clear hpt;obtain⟨hx1,hx2⟩:=hx;obtain⟨hy1,hy2⟩:=hy
 go_enter Tryz.func87,Tryz.ntmps87
 go_wp2_with fail
 refine(HWO.out _).mono ?_;rintro e w0 ⟨rfl,rfl⟩
 go_wp2_with fail
 refine(HCO.out _).mono ?_;rintro e w1 ⟨rfl,hb1⟩;have hz:=hb1.size;simp at hz;have H1:Hid (Two2 w1 w.heap.size (.int .i64 0) (.int .i64 0)):=(Two2.of_row (t:=37) (heap_new _ _ _ rfl)).later (by simp) hb1;have HQ:Hid (Below w.heap.size w w1):=(br.alloc lr _).trans (hb1.mono (by simp));clear hb1
 go_wp2_with fail
 refine(HMU.out _).mono ?_;rintro e w2 ⟨rfl,hb2⟩;have hz2:=hb2.size;have H2:=H1.out.later (by omega) hb2;have HQ2:Hid (Below w.heap.size w w2):=HQ.out.trans (hb2.mono (by omega));have HT:Hid (Two (w2.alloc (.cells #[.int .i64 u.1,.int .i64 u.2] 37)) w2.heap.size (.int .i64 u.1) (.int .i64 u.2)):=Two.of_row (t:=37) (f:=_) (heap_new _ _ _ rfl);have H2:=Hd (H2.alloc (by omega) (.cells #[.int .i64 u.1,.int .i64 u.2] 37));have HQ3:Hid (Below w.heap.size w (w2.alloc (.cells #[.int .i64 u.1,.int .i64 u.2] 37))):=HQ2.out.alloc (by omega) _;have hs:w2.heap.size<(w2.alloc (.cells #[.int .i64 u.1,.int .i64 u.2] 37)).heap.size:=by simp
 clear hb2 HQ HQ2 H1
 go_upto_region 4 with(fail)
 generalize w2.alloc (.cells #[.int .i64 u.1,.int .i64 u.2] 37)=w4 at *;have HC:Hid (∀ wx,Below w4.heap.size w4 wx->Two wx w2.heap.size (.int .i64 u.1) (.int .i64 u.2)/\Two2 wx w.heap.size (.int .i64 0) (.int .i64 0)):=fun wx hx=>⟨HT.out.later (by omega) hx,H2.out.later (by omega) hx⟩
 clear HT H2;refine wp_region_part 6 4 #[true,true,true,true,true,true,false,false,false,false] (fun w w'=>Below w.heap.size w w') (fun qi_ qv_ _=>qv_=([.agg #[.int .i64 u.1,.int .i64 u.2],.int .i64 r,.int .i64 m,.int .i64 s,.int .i64 (2340*s),.tuple #[.agg #[.int .i64 z.1,.int .i64 z.2],.bool true]]:List Value).getD qi_ undef) rfl rfl (by kernel_rfl) (by kernel_rfl) (by kernel_rfl) (fun _=>br) (fun _ _ _ h1 h2=>below_later h1 h1.size h2) (fun _ _ _ _ _ _ h=>h) ?_;simp only[List.take_succ_cons,List.take_zero];refine inv_cons (fun wx hg hd=>?_) (fun v0=>?_)
 ·have hx:=hxo w4 hg
  clear hd hg;obtain⟨⟨k1,k2⟩,_⟩:=HC.out _ hx;go_wp2;exact⟨_,rfl,br,rfl⟩
 (try simp only[pq])
 refine inv_cons (fun wx hg hd=>?_) (fun v1=>?_)
 ·have hx:=hxo w4 hg
  clear hd hg;go_wp2;exact⟨_,rfl,br,rfl⟩
 (try simp only[pq])
 refine inv_cons (fun wx hg hd=>?_) (fun v2=>?_)
 ·have hx:=hxo w4 hg
  (try cases gk 1 hd (by decide) rfl rfl)
  clear hd hg;go_wp2;exact⟨_,rfl,br,rfl⟩
 (try simp only[pq])
 refine inv_cons (fun wx hg hd=>?_) (fun v3=>?_)
 ·have hx:=hxo w4 hg
  (try cases gk 2 hd (by decide) rfl rfl)
  clear hd hg
  go_wp2_with fail
  refine(HSE.out _).mono ?_;rintro e w' ⟨rfl,hb⟩;go_wp2;exact⟨_,rfl,hb,rfl⟩
 (try simp only[pq])
 refine inv_cons (fun wx hg hd=>?_) (fun v4=>?_)
 ·have hx:=hxo w4 hg
  (try cases gk 3 hd (by decide) rfl rfl)
  clear hd hg;go_wp2;exact⟨_,rfl,br,rfl⟩
 (try simp only[pq])
 refine inv_cons (fun wx hg hd=>?_) (fun v5=>?_)
 ·have hx:=hxo w4 hg
  (try cases gk 0 hd (by decide) rfl rfl)
  (try cases gk 4 hd (by decide) rfl rfl)
  clear hd hg
  go_wp2_with fail
  refine(HRO.out _).mono ?_;rintro e w' ⟨rfl,hb⟩;go_wp2;exact⟨_,rfl,hb,rfl⟩
 (try simp only[pq])
 refine inv_done (fun wx hg hd=>?_);have hx:=hxo w4 hg
 cases gl hd rfl
 clear hd hg;have HF:Hid (Below w.heap.size w wx):=HQ3.out.trans (hx.mono HQ3.out.size);obtain⟨-,⟨c0,c1⟩,f0,f1⟩:=HC.out _ hx;have hzx:=hx.size;clear hx HC;refine wpAny_take (i:=6) (v:=.agg #[.int .i64 z.1,.int .i64 z.2]) rfl (by kernel_rfl) (by kernel_rfl) (by kernel_rfl) (fun _ _ _ h=>h) (Or.inl ⟨by rfl,?_⟩) ?_
 ·intro w
  go_simp
 (try simp only[Act.put,List.setIfInBounds_toArray,List.set_cons_zero,List.set_cons_succ])
 refine wpAny_take (i:=7) (v:=.bool true) rfl (by kernel_rfl) (by kernel_rfl) (by kernel_rfl) (fun _ _ _ h=>h) (Or.inl ⟨by rfl,?_⟩) ?_
 ·intro w
  go_simp
 (try simp only[Act.put,List.setIfInBounds_toArray,List.set_cons_zero,List.set_cons_succ])
 refine wpAny_ready (rs:=[8]) (by kernel_rfl) (by simp) ?_;refine AllReady.cons rfl (fun K hK=>?_) AllReady.nil
 go_simp
 refine hK _ _ ?_;clear hK K;refine wpAny_ready (rs:=[9]) (by kernel_rfl) (by simp) ?_;refine AllReady.cons rfl (fun K hK=>?_) AllReady.nil
 go_simp
 refine hK _ _ ?_;clear hK K;refine wpAny_done (by kernel_rfl) ?_ _;refine only_done ?_;go_wp2;exact bodyPost_ret (v:=.tuple #[.agg #[.int .i64 z.1,.int .i64 z.2],.bool true]) (by simp[results,Tryz.results87,go_sem, *]) rfl ⟨rfl,(HF.out.setCell (p:=⟨w.heap.size,0,none⟩) lr _).setCell (p:=⟨w.heap.size,1,none⟩) lr _⟩
theorem nsize_any(a:Int)(h0:0<=a)(h1:a<9223372036854775808)(w:World):Calls Tryz.prog 183 #[.int .i64 a] w fun e w'=>e=.returned (.int .u64 a)/\w=w':=by
 have q1:IntKind.u64.wrap a=a:=by rw[IntKind.wrap_u64];omega
 have q2:¬a<0:=by omega
 go_enter Tryz.func183,Tryz.ntmps183
 go_wp2;go_ret;exact⟨rfl,rfl⟩
theorem nmul_nat(a b:Nat)(ha:a<4611686018427387904)(hb:b<4611686018427387904)(hp:a*b<4611686018427387904)(w:World):
  Calls Tryz.prog 172 #[.int .i64 a,.int .i64 b] w fun e w'=>e=.returned (.tuple #[.int .i64 ((a*b:Nat):Int),.bool true])/\Below w.heap.size w w':=by
 have HA:=Hd (nsize_any a (by omega) (by omega));have HB:=Hd (nsize_any b (by omega) (by omega));have hm:=mul64_any a b (by omega) (by omega);rw[Nat.div_eq_of_lt (by omega),Nat.mod_eq_of_lt (by omega)]at hm;have HM:=Hd hm;generalize a*b=p at *;have q1:¬(a:Int)<0:=by omega
 have q2:¬(b:Int)<0:=by omega
 have q3:IntKind.i64.wrap (p:Int)=p:=wrap_in (by omega) (by omega);have q4:decide ((9223372036854775808:Int)<(p:Int))=false:=decide_eq_false (by omega);have q5:((p:Int)==9223372036854775808)=false:=by rw[beq_eq_false_iff_ne];omega
 have q6:((((0:Nat):Int)) != 0)=false:=by decide
 clear hm
 go_enter Tryz.func172,Tryz.ntmps172
 go_wp2_with fail
 refine(HA.out _).mono ?_;rintro e w1 ⟨rfl,rfl⟩
 go_wp2_with fail
 refine(HB.out _).mono ?_;rintro e w1 ⟨rfl,rfl⟩
 go_wp2_with fail
 refine(HM.out _).mono ?_;rintro e w1 ⟨rfl,rfl⟩;go_wp2;go_ret2;exact⟨rfl,br⟩
theorem seven_le:∀{k:Nat},k<=12->7 ^ k<=13841287201:=fun {k} h=>Nat.le_trans (Nat.pow_le_pow_right (by decide) h) (by decide)
def Cel(w:World)(b:Nat)(t:TypeId)(v:Value):Prop:=w.heap[b]? =some (.cells #[v] t (0,0))
theorem Cel.cell{w:World}{b:Nat}{t:TypeId}{v:Value}(h:Cel w b t v):w.cell? ⟨b,0,none⟩=some v:=cell_of_row _ _ 0 _ _ _ h
theorem Cel.frozen{w:World}{b:Nat}{t:TypeId}{v:Value}(h:Cel w b t v):w.frozen? ⟨b,0,none⟩=false:=frozen_of_row _ _ _ _ _ h
theorem Cel.lt{w:World}{b:Nat}{t:TypeId}{v:Value}(h:Cel w b t v):b<w.heap.size:=(Array.getElem?_eq_some_iff.1 h).1
theorem Cel.later{w w':World}{b:Nat}{t:TypeId}{v:Value}(h:Cel w b t v)(hb:Below w.heap.size w w'):Cel w' b t v:=(hb.block b h.lt).trans h
theorem Cel.put{w:World}{b:Nat}{t:TypeId}{v:Value}(h:Cel w b t v)(u:Value):Cel (w.setCell ⟨b,0,none⟩ u) b t u:=by
 unfold Cel at h ⊢;rw[Sort.setCell_eq];simp[Sort.mapBlock,Array.getElem?_modify,h,Sort.onCells]
theorem Cel.other{w:World}{b:Nat}{t:TypeId}{v:Value}(h:Cel w b t v){g:Nat}(hg:b≠g)(j:Nat)(u:Value):Cel (w.setCell ⟨g,j,none⟩ u) b t v:=(Below.heap_setCell _ _ _ _ hg).trans h
theorem npow1_any{w:World}{b0 b1 b2:Nat}{x y:Int}{t0 t1 t2:TypeId}(h0:Cel w b0 t0 (.int .i64 7))(h1:Cel w b1 t1 (.int .i64 x))(h2:Cel w b2 t2 (.bool true))(h01:b0≠b1)(h02:b0≠b2)(h12:b1≠b2)
  (hm:∀w,Calls Tryz.prog 172 #[.int .i64 x,.int .i64 7] w fun e w'=>e=.returned (.tuple #[.int .i64 y,.bool true])/\Below w.heap.size w w'):
  Calls Tryz.prog 171 #[.pointer (some ⟨b1,0,none⟩),.pointer (some ⟨b0,0,none⟩),.pointer (some ⟨b2,0,none⟩)] w fun e w'=>e=.returned (.tuple #[])/\(Cel w' b0 t0 (.int .i64 7)/\Cel w' b1 t1 (.int .i64 y)/\Cel w' b2 t2 (.bool true))/\Turn (fun k=>k=b1∨k=b2) w w':=by
 have HM:=Hd hm;have c0:=h0.cell;have c1:=h1.cell;have l0:=h0.lt;have l1:=h1.lt;have HH:=Hd (And.intro h0 (And.intro h1 h2));clear h0 h1 h2 hm
 go_enter Tryz.func171,Tryz.ntmps171
 go_wp2_with fail
 refine(HM.out _).mono ?_;rintro e w1 ⟨rfl,hb1⟩;have d0:=HH.out.1.later hb1;have d1:=HH.out.2.1.later hb1;have d2:=HH.out.2.2.later hb1;have k1:=d1.cell;have k2:=(d2.other (g:=b1) (fun e=>h12 e.symm) 0 (.int .i64 y)).cell;have f1:=d1.frozen;have f2:=(d2.other (g:=b1) (fun e=>h12 e.symm) 0 (.int .i64 y)).frozen;have HF:Hid ((Cel ((w1.setCell ⟨b1,0,none⟩ (.int .i64 y)).setCell ⟨b2,0,none⟩ (.bool true)) b0 t0 (.int .i64 7)/\Cel ((w1.setCell ⟨b1,0,none⟩ (.int .i64 y)).setCell ⟨b2,0,none⟩ (.bool true)) b1 t1 (.int .i64 y)/\Cel ((w1.setCell ⟨b1,0,none⟩ (.int .i64 y)).setCell ⟨b2,0,none⟩ (.bool true)) b2 t2 (.bool true))/\Turn (fun k=>k=b1∨k=b2) w ((w1.setCell ⟨b1,0,none⟩ (.int .i64 y)).setCell ⟨b2,0,none⟩ (.bool true))):=by
  refine⟨⟨(d0.other h01 _ _).other h02 _ _,(d1.put _).other h12 _ _,(d2.other (fun e=>h12 e.symm) _ _).put _⟩,?_⟩;exact((Turn.of_below hb1).setCell (a:=⟨b1,0,none⟩) (.inl rfl) _).setCell (a:=⟨b2,0,none⟩) (.inr rfl) _
 have r1:=d1.lt;have r2:=d2.lt;clear hb1 HH d0 d1 d2 c0 c1;go_wp2
 go_end0
 exact⟨rfl,HF.out⟩
theorem npow_seven{k:Nat}(hk:k<=12)(w:World):Calls Tryz.prog 144 #[.int .i64 7,.int .i64 k] w fun e w'=>e=.returned (.tuple #[.int .i64 ((7 ^ k:Nat):Int),.bool true])/\Below w.heap.size w w':=by
 have HS:Hid (∀ j,j<12->∀w,Calls Tryz.prog 172 #[.int .i64 ((7 ^ j:Nat):Int),.int .i64 7] w fun e w'=>e=.returned (.tuple #[.int .i64 ((7 ^ (j+1):Nat):Int),.bool true])/\Below w.heap.size w w'):=fun j hj w=>by
  have h1:=seven_le (k:=j) (by omega);have h2:=seven_le (k:=j+1) (by omega);rw[Nat.pow_succ]at h2 ⊢;exact nmul_nat (7 ^ j) 7 (by omega) (by decide) (by omega) w
 have hmf:∀(fn:Fn) (first cap:Array Value) (w:World),(Instr.makeFunc fn first cap).run Tryz.prog w=.ok (.func fn first cap) w:=fun _ _ _ _=>rfl
 have q1:¬(k:Int)<0:=by omega
 obtain⟨p,hp⟩:∃p:Int,((7 ^ k:Nat):Int)=p:=⟨_,rfl⟩;have HP:=Hd hp;rw[hp];have H0:Hid (Cel (((w.alloc (.cells #[.int .i64 7] 2)).alloc (.cells #[.int .i64 1] 2)).alloc (.cells #[.bool true] 4)) w.heap.size 2 (.int .i64 7)/\Cel (((w.alloc (.cells #[.int .i64 7] 2)).alloc (.cells #[.int .i64 1] 2)).alloc (.cells #[.bool true] 4)) (w.heap.size+1) 2 (.int .i64 1)/\Cel (((w.alloc (.cells #[.int .i64 7] 2)).alloc (.cells #[.int .i64 1] 2)).alloc (.cells #[.bool true] 4)) (w.heap.size+1+1) 4 (.bool true)/\Below w.heap.size w (((w.alloc (.cells #[.int .i64 7] 2)).alloc (.cells #[.int .i64 1] 2)).alloc (.cells #[.bool true] 4))):=by
  have e0:Cel (w.alloc (.cells #[.int .i64 7] 2)) w.heap.size 2 (.int .i64 7):=heap_new _ _ _ rfl;have e1:Cel ((w.alloc (.cells #[.int .i64 7] 2)).alloc (.cells #[.int .i64 1] 2)) (w.heap.size+1) 2 (.int .i64 1):=heap_new _ _ _ (by simp);have e2:Cel (((w.alloc (.cells #[.int .i64 7] 2)).alloc (.cells #[.int .i64 1] 2)).alloc (.cells #[.bool true] 4)) (w.heap.size+1+1) 4 (.bool true):=heap_new _ _ _ (by simp);exact⟨(e0.later (br.alloc lr _)).later (br.alloc lr _),e1.later (br.alloc lr _),e2,(((Below.refl _ w).alloc lr _).alloc (by simp) _).alloc (by simp;omega) _⟩
 clear hp
 go_enter Tryz.func144,Tryz.ntmps144
 go_upto_region 6 with(fail)
 generalize((w.alloc (.cells #[.int .i64 7] 2)).alloc (.cells #[.int .i64 1] 2)).alloc (.cells #[.bool true] 4)=w3 at *;go_wp2
 go_loopw [1] (fun kv wr=>∃(j m:Nat),j+m=k/\kv=.int .i64 m/\Hid (Cel wr w.heap.size 2 (.int .i64 7)/\Cel wr (w.heap.size+1) 2 (.int .i64 ((7 ^ j:Nat):Int))/\Cel wr (w.heap.size+1+1) 4 (.bool true)/\Below w.heap.size w wr)) (fun kv _=>(intOf kv).toNat)
 case atStart=>exact⟨0,k,by omega,rfl,H0.out⟩
 case round=>
  obtain⟨j,m,hjm,rfl,HI⟩:=hrel;have c2:=HI.out.2.2.1.cell;have l2:=HI.out.2.2.1.lt;by_cases hm:0<m
  ·have HC:=Hd (npow1_any HI.out.1 HI.out.2.1 HI.out.2.2.1 (by omega) (by omega) (by omega) (HS.out j (by omega)))
   have HBI:=Hd HI.out.2.2.2;have q2:decide (0<(m:Int))=true:=decide_eq_true (by omega);have q2n:decide (0<m)=true:=decide_eq_true (by omega);have HJ:=Hd hjm;have hm12:m<=12:=by omega
   clear HI hjm
   go_wp2_with fail
   refine HC.out.mono ?_;rintro e w4 ⟨rfl,hc4,ht4⟩;have HI4:Hid (Cel w4 w.heap.size 2 (.int .i64 7)/\Cel w4 (w.heap.size+1) 2 (.int .i64 ((7 ^ (j+1):Nat):Int))/\Cel w4 (w.heap.size+1+1) 4 (.bool true)/\Below w.heap.size w w4):=⟨hc4.1,hc4.2.1,hc4.2.2,HBI.out.trans (ht4.below HBI.out.size fun k hk hs=>by rcases hs with rfl|rfl <;> omega)⟩;clear hc4 ht4 HC c2 l2;go_wp2
   go_roundw
   case rel=>exact⟨j+1,m-1,by have:=HJ.out;omega,by go_num,HI4.out⟩
   case measure=>simp[intOf];omega
  ·obtain rfl:j=k:=by omega
   obtain rfl:m=0:=by omega
   have c1:=HI.out.2.1.cell;rw[HP.out]at c1;have l1:=HI.out.2.1.lt;have HB:=Hd (HI.out.2.2.2.drew);have q2:decide (0<(0:Int))=false:=rfl;clear HI hjm
   go_wp2_with(first|(with_reducible refine wp_region_lex (by kernel_rfl) (by kernel_rfl) ?_)|(with_reducible refine OnlyG.intro (by kernel_rfl) ?_))
   go_ret2;exact⟨rfl,HB.out⟩
end
end Go.Proofs.YtpkoapmpknbgoaaGreat
