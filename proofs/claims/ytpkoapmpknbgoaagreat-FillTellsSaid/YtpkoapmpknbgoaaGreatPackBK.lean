/- Joined: NrA, NrB, NrC, NfI, NfW, NfFn, CvJ, FrA, MrA, WdL, WdJ, WdK, NfK, NfMn, NfPn, NfSn, NfTn, NrO, NsO, NtO: contracts and plain laws, each with its own heading below. -/
import Derived.Test.YtpkoapmpknbgoaaGreatPackBF
import Derived.Test.YtpkoapmpknbgoaaGreatPackBC
import Derived.Maps.AppendAt
import Derived.Test.YtpkoapmpknbgoaaGreatPackBE
import Derived.Test.YtpkoapmpknbgoaaGreatPackBJ
import Derived.Deep.AppendSrc
import Derived.Test.YtpkoapmpknbgoaaGreatPackBD
import Derived.Lib.MinMax
set_option maxRecDepth 100000
set_option maxHeartbeats 8000000
namespace Go.Proofs.YtpkoapmpknbgoaaGreat
section
open Go.RowKit Go.Lib Wd
def tellL(r:Int)(L:List E2):List Int:=(L.filter fun z=>okB r z).map fun z=>(wordN r.toNat z:Int)
theorem tellL_app(r:Int)(L M:List E2):tellL r (L++M)=tellL r L++tellL r M:=by unfold tellL;rw[List.filter_append,List.map_append]
theorem tellL_one(r:Int)(z:E2):tellL r [z]=if okB r z=true then [(ofW r z:Int)]else []:=by
 unfold tellL ofW;by_cases h:okB r z=true <;> simp[h]
def Wkr(w:World)(g:Nat)(r:Int)(z:E2)(v:Value)(l:List Int):Prop:=
 w.heap[g]? =some (.cells #[.int .i64 r,.int .i64 z.1,.int .i64 z.2,v] 173 (0,0))/\w.ownsRow (g+1) 35 1 v l.length (uV l)
theorem Wkr.lt{w:World}{g:Nat}{r:Int}{z:E2}{v:Value}{l:List Int}(h:Wkr w g r z v l):g<w.heap.size:=(Array.getElem?_eq_some_iff.1 h.1).1
theorem Wkr.later{w w':World}{g:Nat}{r:Int}{z:E2}{v:Value}{l:List Int}(h:Wkr w g r z v l)(hb:Below w.heap.size w w'):Wkr w' g r z v l:=⟨(hb.block g h.lt).trans h.1,own_later h.2 hb⟩
theorem Wkr.cells{w:World}{g:Nat}{r:Int}{z:E2}{v:Value}{l:List Int}(h:Wkr w g r z v l):w.cell? ⟨g,0,none⟩=some (.int .i64 r)/\w.cell? ⟨g,1,none⟩=some (.int .i64 z.1)/\w.cell? ⟨g,2,none⟩=some (.int .i64 z.2)/\w.cell? ⟨g,3,none⟩=some v/\w.frozen? ⟨g,1,none⟩=false/\w.frozen? ⟨g,2,none⟩=false/\w.frozen? ⟨g,3,none⟩=false/\g<w.heap.size:=
 ⟨cell_of_row _ _ 0 _ _ _ h.1,cell_of_row _ _ 1 _ _ _ h.1,cell_of_row _ _ 2 _ _ _ h.1,cell_of_row _ _ 3 _ _ _ h.1,by simp[World.frozen?,h.1],by simp[World.frozen?,h.1],by simp[World.frozen?,h.1],h.lt⟩
theorem own_apart{w:World}{g n:Nat}{v:Value}{xs:List Value}(h:w.ownsRow (g+1) 35 1 v n xs):¬v.ownBlock=some g:=fun e=>by have:=(h.lt g e).1;omega
theorem Wkr.move{w:World}{g:Nat}{r:Int}{z:E2}{v:Value}{l:List Int}(h:Wkr w g r z v l)(y:E2):
  Wkr ((w.setCell ⟨g,1,none⟩ (.int .i64 y.1)).setCell ⟨g,2,none⟩ (.int .i64 y.2)) g r y v l/\Turn (fun q=>q=g) w ((w.setCell ⟨g,1,none⟩ (.int .i64 y.1)).setCell ⟨g,2,none⟩ (.int .i64 y.2)):=by
 have ht:Turn (fun q=>q=g) w ((w.setCell ⟨g,1,none⟩ (.int .i64 y.1)).setCell ⟨g,2,none⟩ (.int .i64 y.2)):=((Turn.refl (fun q=>q=g) w).setCell (a:=⟨g,1,none⟩) rfl _).setCell (a:=⟨g,2,none⟩) rfl _;refine⟨⟨?_,?_⟩,ht⟩
 ·rw[Sort.setCell_eq,Sort.setCell_eq]
  simp[Sort.mapBlock,Array.getElem?_modify,h.1,Sort.onCells]
 ·obtain⟨ao,c,rfl,_⟩:=own_form h.2
  exact own_turn h.2 ht fun g' o s e hg=>by subst e;subst hg;exact own_apart h.2 rfl
def Fr(g:Nat)(v v':Value)(w w':World):Prop:=Turn (fun q=>q=g∨v.ownBlock=some q) w w'/\(v'.ownBlock=v.ownBlock∨∃q,w.heap.size<=q/\v'.ownBlock=some q)
theorem Fr.refl(g:Nat)(v:Value)(w:World):Fr g v v w w:=⟨Turn.refl _ _,.inl rfl⟩
theorem Fr.trans{g:Nat}{v v1 v2:Value}{w w1 w2:World}(h:Fr g v v1 w w1)(h2:Fr g v1 v2 w1 w2):Fr g v v2 w w2:=by
 refine⟨h.1.trans h2.1 fun k hk hs=>?_,?_⟩
 ·rcases hs with e|e
  ·exact .inl e
  ·rcases h.2 with e2|⟨q,hq,e2⟩
   ·exact .inr (e2 ▸ e)
   ·rw[e2]at e;cases e;omega
 ·rcases h2.2 with e|⟨q,hq,e⟩
  ·rw[e];exact h.2
  ·exact .inr ⟨q,Nat.le_trans h.1.2.2.2.1 hq,e⟩
theorem Fr.of_turn{g:Nat}{v:Value}{w w':World}(h:Turn (fun q=>q=g) w w'):Fr g v v w w':=⟨h.mono fun _ e=>.inl e,.inl rfl⟩
theorem Fr.of_below{g:Nat}{v:Value}{w w':World}(h:Below w.heap.size w w'):Fr g v v w w':=⟨Turn.of_below h,.inl rfl⟩
def Walked(w:World)(g:Nat)(r:Int)(y:E2)(v:Value)(l:List Int)(e:Ending)(w':World):Prop:=e=.returned (.tuple #[])/\∃v',Wkr w' g r y v' l/\Fr g v v' w w'
theorem tell_any(g:Nat)(r:Int)(z:E2)(v:Value)(l:List Int)(w:World)(h:Wkr w g r z v l)(hl:l.length<=100000000):
  Calls Tryz.prog 163 #[.pointer (some ⟨g,0,none⟩)] w (Walked w g r z v (l++tellL r [z])):=by
 obtain⟨i0,hi,hz0,hz1,hz2⟩:=info_parts info_u;have HOF:=Hd (of_any r z);have HTL:=Hd (tellL_one r z);have HE:Hid (ofE r z=if okB r z=true then 0 else 2):=rfl;obtain⟨W,hW⟩:∃W,ofW r z=W:=⟨_,rfl⟩;rw[hW]at HOF HTL;have HWX:Hid (∀ wx,Below w.heap.size w wx->Wkr wx g r z v l):=fun wx hx=>h.later hx
 clear hW;obtain⟨z1,z2⟩:=z;simp only[vC]at HOF;obtain⟨E,hE⟩:∃E,ofE r (z1,z2)=E:=⟨_,rfl⟩;rw[hE]at HOF HE;have HPOST:Hid (∀ v' w',Wkr w' g r (z1,z2) v' (l++tellL r [(z1,z2)])->Fr g v v' w w'->Walked w g r (z1,z2) v (l++tellL r [(z1,z2)]) (.returned (.tuple #[])) w'):=fun v' w' h1 h2=>⟨rfl,v',h1,h2⟩
 clear hE
 go_enter Tryz.func163,Tryz.ntmps163
 go_upto_region 0 with(fail)
 refine wp_region_inv (fun w w'=>Below w.heap.size w w') (fun qi_ qv_ _=>qv_=([.pointer (some ⟨g,0,none⟩),.pointer (some ⟨g,0,none⟩),.pointer (some ⟨g,0,none⟩),.int .i64 r,.pointer (some ⟨g,0,none⟩),.pointer (some ⟨g,0,none⟩),.pointer (some ⟨g,1,none⟩),.agg #[.int .i64 z1,.int .i64 z2],.agg #[.int .i64 r,.int .i64 z1,.int .i64 z2],.tuple #[.int .u64 W,.int .i64 E],.tuple #[.int .u64 W,.int .i64 E],.int .u64 W,.int .i64 E,.int .u64 W,.int .i64 E]:List Value).getD qi_ undef) (by kernel_rfl) (by kernel_rfl) (fun _=>br) (fun _ _ _ h1 h2=>below_later h1 h1.size h2) (fun _ _ _ _ _ _ h=>h) ?_;refine inv_cons (fun wx hg hd=>?_) (fun v0=>?_)
 ·have hx:=hxo w hg
  clear hd hg;go_wp2;exact⟨_,rfl,br,rfl⟩
 (try simp only[pq])
 refine inv_cons (fun wx hg hd=>?_) (fun v1=>?_)
 ·have hx:=hxo w hg
  (try cases gk 0 hd (by decide) rfl rfl)
  clear hd hg;go_wp2;exact⟨_,rfl,br,rfl⟩
 (try simp only[pq])
 refine inv_cons (fun wx hg hd=>?_) (fun v2=>?_)
 ·have hx:=hxo w hg
  (try cases gk 1 hd (by decide) rfl rfl)
  clear hd hg;go_wp2;exact⟨_,rfl,br,rfl⟩
 (try simp only[pq])
 refine inv_cons (fun wx hg hd=>?_) (fun v3=>?_)
 ·have hx:=hxo w hg
  (try cases gk 2 hd (by decide) rfl rfl)
  clear hd hg;obtain⟨c0,c1,c2,c3,_⟩:=(HWX.out _ hx).cells;go_wp2;exact⟨_,rfl,br,rfl⟩
 (try simp only[pq])
 refine inv_cons (fun wx hg hd=>?_) (fun v4=>?_)
 ·have hx:=hxo w hg
  clear hd hg;go_wp2;exact⟨_,rfl,br,rfl⟩
 (try simp only[pq])
 refine inv_cons (fun wx hg hd=>?_) (fun v5=>?_)
 ·have hx:=hxo w hg
  (try cases gk 4 hd (by decide) rfl rfl)
  clear hd hg;go_wp2;exact⟨_,rfl,br,rfl⟩
 (try simp only[pq])
 refine inv_cons (fun wx hg hd=>?_) (fun v6=>?_)
 ·have hx:=hxo w hg
  (try cases gk 5 hd (by decide) rfl rfl)
  clear hd hg;go_wp2;exact⟨_,rfl,br,rfl⟩
 (try simp only[pq])
 refine inv_cons (fun wx hg hd=>?_) (fun v7=>?_)
 ·have hx:=hxo w hg
  (try cases gk 6 hd (by decide) rfl rfl)
  clear hd hg;obtain⟨c0,c1,c2,c3,_⟩:=(HWX.out _ hx).cells;go_wp2;exact⟨_,rfl,br,rfl⟩
 (try simp only[pq])
 refine inv_cons (fun wx hg hd=>?_) (fun v8=>?_)
 ·have hx:=hxo w hg
  (try cases gk 3 hd (by decide) rfl rfl)
  (try cases gk 7 hd (by decide) rfl rfl)
  clear hd hg;go_wp2;exact⟨_,rfl,br,rfl⟩
 (try simp only[pq])
 refine inv_cons (fun wx hg hd=>?_) (fun v9=>?_)
 ·have hx:=hxo w hg
  (try cases gk 8 hd (by decide) rfl rfl)
  clear hd hg
  go_wp2_with fail
  refine(HOF.out _).mono ?_;rintro e w' ⟨rfl,hb⟩;go_wp2;exact⟨_,rfl,hb,rfl⟩
 (try simp only[pq])
 refine inv_cons (fun wx hg hd=>?_) (fun v10=>?_)
 ·have hx:=hxo w hg
  (try cases gk 9 hd (by decide) rfl rfl)
  clear hd hg;go_wp2;exact⟨_,rfl,br,rfl⟩
 (try simp only[pq])
 refine inv_cons (fun wx hg hd=>?_) (fun v11=>?_)
 ·have hx:=hxo w hg
  (try cases gk 10 hd (by decide) rfl rfl)
  clear hd hg;go_wp2;exact⟨_,rfl,br,rfl⟩
 (try simp only[pq])
 refine inv_cons (fun wx hg hd=>?_) (fun v12=>?_)
 ·have hx:=hxo w hg
  (try cases gk 10 hd (by decide) rfl rfl)
  clear hd hg;go_wp2;exact⟨_,rfl,br,rfl⟩
 (try simp only[pq])
 refine inv_cons (fun wx hg hd=>?_) (fun v13=>?_)
 ·have hx:=hxo w hg
  (try cases gk 11 hd (by decide) rfl rfl)
  clear hd hg;go_wp2;exact⟨_,rfl,br,rfl⟩
 (try simp only[pq])
 refine inv_cons (fun wx hg hd=>?_) (fun v14=>?_)
 ·have hx:=hxo w hg
  (try cases gk 12 hd (by decide) rfl rfl)
  clear hd hg;go_wp2;exact⟨_,rfl,br,rfl⟩
 (try simp only[pq])
 refine inv_done (fun wx hg hd=>?_);have hx:=hxo w hg
 cases gl hd rfl
 clear hd hg
 (try go_simp)
 have hwk:=HWX.out _ hx;have HFR:Hid (Fr g v v w wx):=Fr.of_below hx;by_cases hok:okB r (z1,z2)=true
 ·have hE0:E=0:=by rw[HE.out,if_pos hok]
  have HTL2:Hid (tellL r [(z1,z2)]=[(W:Int)]):=by show _=_;rw[HTL.out,if_pos hok]
  subst hE0;obtain⟨c0,c1,c2,c3,f1,f2,f3,hgl⟩:=hwk.cells;have hown:=hwk.2;have hgl2:g<wx.heap.size+1:=by omega
  have HWK:=Hd hwk.1;clear hwk HWX hx HOF HTL HE hok;have HU:Hid (uV (l++[(W:Int)])=uV l++[.int .u64 W]):=uV_snoc l W;have HGW:Hid (∀ w3,(wx.alloc (.cells #[.int .u64 (W:Int)] 35)).grownBy w3 v.ownBlock->w3.heap[g]? =some (.cells #[.int .i64 r,.int .i64 z1,.int .i64 z2,v] 173 (0,0))/\Turn (fun q=>v.ownBlock=some q) wx w3):=fun w3 hg=>by
   have hal:Below wx.heap.size wx (wx.alloc (.cells #[.int .u64 (W:Int)] 35)):=br.alloc lr _;have hsa:=World.size_alloc wx (.cells #[.int .u64 (W:Int)] 35);refine⟨(hg.block g (by omega) (fun e=>own_apart hown e.symm)).trans ((hal.block g hgl).trans HWK.out),hg.os.trans hal.os,hg.tape.trans hal.tape,hg.output.trans hal.output,Nat.le_trans hal.size hg.size,fun k hk hs=>(hg.block k (by omega) fun e=>hs e.symm).trans (hal.block k hk)⟩
  go_upto_region 2 with(fail)
  go_wp2_with(at_builtin;refine wpList_append_own_at _ rfl (.tmp 23) (.tmp 25) 22 rfl (g+1) 35 i0 (.int .u64 0) 1 8 Tryz.underlying22 hi hz0 hz1 hz2 rfl (by decide) _ _ _ rfl (hown.alloc _) ⟨wx.heap.size,0,none⟩ 1 1 [.int .u64 W] rfl rfl (cell_one_new _ _ _) (by simp[Value.oneCell']) (by unfold maxLen;omega) (by omega) (by simp;omega) ?_;intro v' w3 ho3 hgr _ hat;obtain⟨o3,c3,rfl,hc3,_⟩:=own_form ho3;obtain⟨hr3,ht3⟩:=HGW.out _ hgr;have k1:w3.cell? ⟨g,3,none⟩=some v:=cell_of_row _ _ 3 _ _ _ hr3;have k2:w3.frozen? ⟨g,3,none⟩=false:=frozen_of_row _ _ _ _ _ hr3;have HR3:=Hd hr3;have HT3:=Hd ht3;have HO3:=Hd ho3;have HA3:=Hd hat;clear hr3 ht3 hgr ho3 hat)
  go_end0
  have hts:Turn (fun q=>q=g) w3 (w3.setCell ⟨g,3,none⟩ (.slice o3 (l.length+1) c3)):=(Turn.refl (fun q=>q=g) w3).setCell (a:=⟨g,3,none⟩) rfl _;have hat:(Value.slice o3 (l.length+1) c3).ownBlock=v.ownBlock∨(Value.slice o3 (l.length+1) c3).ownBlock=some (wx.alloc (.cells #[.int .u64 (W:Int)] 35)).heap.size:=HA3.out;have hoo:w3.ownsRow (g+1) 35 1 (.slice o3 (l.length+1) c3) (l.length+1) (uV (l++[(W:Int)])):=by rw[HU.out];exact HO3.out
  refine HPOST.out (.slice o3 (l.length+1) c3) _ ⟨?_,?_⟩ (HFR.out.trans ⟨?_,?_⟩)
  ·have hr:=HR3.out
   rw[Sort.setCell_eq];simp[Sort.mapBlock,Array.getElem?_modify,hr,Sort.onCells]
  ·rw[HTL2.out,List.length_append,List.length_singleton]
   exact own_turn hoo hts fun g' o s e hg=>by subst e;subst hg;exact own_apart hoo rfl
  ·exact((HT3.out).mono (fun _ e=>.inr e)).trans hts fun _ _ e=>.inl e
  ·rcases hat with e|e
   ·exact .inl e
   ·exact .inr ⟨_,by rw[World.size_alloc];omega,e⟩
 ·have hE2:E=2:=by rw[HE.out,if_neg hok]
  have HTL2:Hid (tellL r [(z1,z2)]=[]):=by show _=_;rw[HTL.out,if_neg hok]
  have HF:=Hd (HPOST.out v wx (by rw[HTL2.out,List.append_nil];exact hwk) HFR.out);subst hE2;clear hwk HWX hx HOF HTL HE hok HPOST;go_wp2
  go_end0
  exact HF.out
theorem step_any(g:Nat)(r:Int)(z:E2)(k:Nat)(v:Value)(l:List Int)(w:World)(h:Wkr w g r z v l)(hk:k<6)(hz:Sm 1099511627776 z):
  Calls Tryz.prog 164 #[.pointer (some ⟨g,0,none⟩),.int .i64 k] w (Walked w g r (addE z (unitE k)) v l):=by
 have HUN:=Hd (unit_in k hk);have hus:=left_sm (k+1);have HAD:=Hd (add_in z (unitE k) (hz.mono (by decide)) (hus.mono (by decide)));have HWX:Hid (∀ wx,Below w.heap.size w wx->Wkr wx g r z v l):=fun wx hx=>h.later hx
 obtain⟨y,hy⟩:∃y,addE z (unitE k)=y:=⟨_,rfl⟩;rw[hy]at HAD;have HY:=Hd hy;simp only[vE]at HUN HAD;generalize unitE k=u at *;clear hy hz hus h;obtain⟨z1,z2⟩:=z
 go_enter Tryz.func164,Tryz.ntmps164
 go_upto_region 0 with(fail)
 have HMV:Hid (∀ wx,Below w.heap.size w wx->Walked w g r y v l (.returned (.tuple #[])) ((wx.setCell ⟨g,1,none⟩ (.int .i64 y.1)).setCell ⟨g,2,none⟩ (.int .i64 y.2))):=fun wx hx=>by
  have hm:=(HWX.out wx hx).move y;exact⟨rfl,v,hm.1,(Fr.of_below hx).trans (Fr.of_turn hm.2)⟩
 rw[HY.out];have HB0:Hid (Below w.heap.size w w):=br;obtain⟨c0,c1,c2,c3,f1,f2,f3,hgl⟩:=(HWX.out w HB0.out).cells
 go_region_with (
   first
  |(go_at_call 67;refine(HUN.out _).mono ?_;rintro e w7 ⟨rfl,hb7⟩;have HB7:Hid (Below w.heap.size w w7):=((Below.refl w.heap.size w).drew).trans hb7;clear hb7;obtain⟨d0,d1,d2,d3,d4,d5,d6,d7⟩:=(HWX.out w7 HB7.out).cells)
  |(go_at_call 66;refine(HAD.out _).mono ?_;rintro e w8 ⟨rfl,hb8⟩;have HB8:Hid (Below w.heap.size w w8):=HB7.out.trans (hb8.mono HB7.out.size);clear hb8;obtain⟨e0,e1,e2,e3,e4,e5,e6,e7⟩:=(HWX.out w8 HB8.out).cells))
 all_goals
  go_wp2
  go_end0
  exact HMV.out _ HB8.out
def ptP(c u:E2)(j:Nat):E2:=(c.1+j*u.1,c.2+j*u.2)
def lineP(c u:E2)(k:Nat):List E2:=(List.range k).map fun j=>ptP c u j
def corn(z:E2)(k:Nat):Nat->E2
 |0=>ptP z (unitE 4) k
 |s+1=>ptP (corn z k s) (unitE s) k
def sidesP(z:E2)(k:Nat):Nat->List E2
 |0=>[]
 |s+1=>sidesP z k s++lineP (corn z k s) (unitE s) k
def ringL(z:E2)(k:Nat):List E2:=if k=0 then [z]else sidesP z k 6
theorem ptP_zero(c u:E2):ptP c u 0=c:=by unfold ptP;simp
theorem ptP_succ(c u:E2)(j:Nat):addE (ptP c u j) u=ptP c u (j+1):=by
 unfold ptP addE;simp only[Int.natCast_add,Int.natCast_one,Int.add_mul,Int.one_mul,Int.add_assoc]
theorem lineP_succ(c u:E2)(j:Nat):lineP c u (j+1)=lineP c u j++[ptP c u j]:=by
 unfold lineP;rw[List.range_succ,List.map_append];rfl
theorem ptP_sm{h:Int}{c:E2}(hc:Sm h c)(k:Nat)(j:Nat):Sm (h+j) (ptP c (unitE k) j):=by
 have hu:unitE k=(1,0)∨unitE k=(0,1)∨unitE k=(-1,1)∨unitE k=(-1,0)∨unitE k=(0,-1)∨unitE k=(1,-1):=by
  unfold unitE;split <;> simp
 unfold ptP;unfold Sm at *;rcases hu with e|e|e|e|e|e <;> rw[e] <;> simp only <;> omega
theorem corn_sm{h:Int}{z:E2}(hz:Sm h z)(k s:Nat):Sm (h+(s+1)*k) (corn z k s):=by
 induction s with
 |zero=>exact(ptP_sm hz 4 k).mono (by simp)
 |succ s ih=>
  refine(ptP_sm ih s k).mono ?_;simp only[Int.natCast_add,Int.natCast_one,Int.add_mul,Int.one_mul];omega
theorem lineP_length(c u:E2)(k:Nat):(lineP c u k).length=k:=by unfold lineP;simp
theorem sidesP_length(z:E2)(k s:Nat):(sidesP z k s).length=s*k:=by
 induction s with
 |zero=>simp[sidesP]
 |succ s ih=>show(sidesP z k s++_).length=_;rw[List.length_append,ih,lineP_length,Nat.succ_mul]
theorem tellL_length(r:Int)(L:List E2):(tellL r L).length<=L.length:=by unfold tellL;rw[List.length_map];exact List.length_filter_le _ _
theorem ring_any(g:Nat)(r:Int)(z:E2)(k:Nat)(v:Value)(l:List Int)(w:World)(h:Wkr w g r z v l)(hz:Sm 2147483648 z)(hk:k<=10000)(hl:l.length<=50000000):
  Calls Tryz.prog 121 #[.pointer (some ⟨g,0,none⟩),.int .i64 k] w (Walked w g r z v (l++tellL r (ringL z k))):=by
 obtain⟨c0,c1,c2,c3,f1,f2,f3,hgl⟩:=h.cells;have hal:Below w.heap.size w (w.alloc (.cells #[.int .i64 z.1,.int .i64 z.2] 37)):=br.alloc lr _;have ksz:=World.size_alloc w (.cells #[.int .i64 z.1,.int .i64 z.2] 37);have HW2:=Hd (h.later hal);have HM2:Hid (Two (w.alloc (.cells #[.int .i64 z.1,.int .i64 z.2] 37)) w.heap.size (.int .i64 z.1) (.int .i64 z.2)):=Two.of_row (t:=37) (f:=_) (heap_new _ _ _ rfl);have HF2:Hid (Fr g v v w (w.alloc (.cells #[.int .i64 z.1,.int .i64 z.2] 37))):=Fr.of_below hal;have HVM:Hid (¬ v.ownBlock=some w.heap.size):=fun e=>by have:=(h.2.lt _ e).2;omega
 clear hal h;by_cases hk0:k=0
 ·subst hk0
  have HRL:Hid (ringL z 0=[z]):=rfl;rw[HRL.out];have HT:=Hd (tell_any g r z v l _ HW2.out (by omega))
  go_enter Tryz.func121,Tryz.ntmps121
  go_wp2_with fail
  refine HT.out.mono ?_;rintro e w3 ⟨rfl,v',hw3,hf3⟩;have HP:Hid (Walked w g r z v (l++tellL r [z]) (.returned (.tuple #[])) w3):=⟨rfl,v',hw3,HF2.out.trans hf3⟩;clear hw3 hf3;go_wp2
  go_end0
  exact HP.out
 ·have hkpos:0<k:=by omega
  have qk:((k:Int)==0)=false:=by simp;omega
  have HRL:Hid (ringL z k=sidesP z k 6):=by show _=_;unfold ringL;rw[if_neg hk0]
  rw[HRL.out];have HSM:=Hd hz;clear hz hk0
  go_enter Tryz.func121,Tryz.ntmps121
  go_upto_region 1 with(fail)
  generalize w.alloc (.cells #[.int .i64 z.1,.int .i64 z.2] 37)=w2 at *;obtain⟨m,hm⟩:∃m,w.heap.size=m:=⟨_,rfl⟩;rw[hm]at HM2 HVM hgl ksz ⊢;clear hm c0 c1 c2 c3 f1 f2 f3;go_wp2
  go_loopw [18] (fun i wr=>∃j:Nat,j<=k/\i=.int .i64 j/\Hid (∃ v',Wkr wr g r (ptP z (unitE 4) j) v' l/\Fr g v v' w2 wr)) (fun i _=>k-(intOf i).toNat)
  case atStart=>exact⟨0,by omega,rfl,v,by rw[ptP_zero];exact HW2.out,Fr.refl _ _ _⟩
  case round=>
   obtain⟨j,hj,rfl,HI⟩:=hrel;by_cases hjk:j<k
   ·obtain⟨v',hwk,hfr⟩:=HI.out
    have hs:=step_any g r (ptP z (unitE 4) j) 4 v' l wr hwk (by decide) ((ptP_sm HSM.out 4 j).mono (by omega));rw[ptP_succ]at hs;have HST:Hid (Calls Tryz.prog 164 #[.pointer (some ⟨g,0,none⟩),.int .i64 4] wr (Walked wr g r (ptP z (unitE 4) (j+1)) v' l)):=hs;have HFR:=Hd hfr;clear hwk hfr hs HI
    go_wp2_with fail
    refine HST.out.mono ?_;rintro e w4 ⟨rfl,v'',hw4,hf4⟩;have HN:Hid (∃ v'',Wkr w4 g r (ptP z (unitE 4) (j+1)) v'' l/\Fr g v v'' w2 w4):=⟨v'',hw4,HFR.out.trans hf4⟩;clear hw4 hf4;go_wp2
    go_roundw
    case rel=>exact⟨j+1,by omega,by go_num,HN.out⟩
    case measure=>simp[intOf];omega
   ·obtain rfl:j=k:=by omega
    have HI2:Hid (∃ v',Wkr wr g r (corn z j 0) v' (l++tellL r (sidesP z j 0))/\Fr g v v' w2 wr):=by
     have:=HI.out;rw[show l++tellL r (sidesP z j 0)=l by simp[sidesP,tellL]];exact this
    clear HI hjk hj;go_wp2;have HVN:Hid (¬ v.ownBlock=some m):=HVM.out;clear HW2 HVM
    go_loopw [23] (fun i wr=>∃s:Nat,s<=6/\i=.int .i64 s/\Hid (∃ v',Wkr wr g r (corn z j s) v' (l++tellL r (sidesP z j s))/\Fr g v v' w2 wr)) (fun i _=>6-(intOf i).toNat)
    case atStart=>exact⟨0,by omega,rfl,HI2.out⟩
    case round=>
     obtain⟨s,hs6,rfl,HJ⟩:=hrel;clear HI2;by_cases hs:s<6
     ·have HC0:Hid (∃ v',Wkr wr g r (ptP (corn z j s) (unitE s) 0) v' (l++tellL r (sidesP z j s++lineP (corn z j s) (unitE s) 0))/\Fr g v v' w2 wr):=by
       have:=HJ.out;rw[ptP_zero,show lineP (corn z j s) (unitE s) 0=[]from rfl,List.append_nil];exact this
      have HCM:=Hd (corn_sm HSM.out j s);have HC1:Hid (∀ wr,(∃ v',Wkr wr g r (ptP (corn z j s) (unitE s) j) v' (l++tellL r (sidesP z j s++lineP (corn z j s) (unitE s) j))/\Fr g v v' w2 wr)->∃v',Wkr wr g r (corn z j (s+1)) v' (l++tellL r (sidesP z j (s+1)))/\Fr g v v' w2 wr):=fun wr h=>h
      have HSL:=Hd (sidesP_length z j s);have hsj:s*j<=6*10000:=Nat.mul_le_mul hs6 hk;have hsj2:((s:Int)+1)*(j:Int)<=7*10000:=by
       have h1:(s+1)*j<=7*10000:=Nat.mul_le_mul (by omega) hk;have h2:(((s+1)*j:Nat):Int)<=70000:=by omega
       simpa using h2
      generalize corn z j s=c at *;generalize sidesP z j s=SL at *;obtain⟨wo,hwo⟩:∃wo:World,wo=wr:=⟨_,rfl⟩;rw[<- hwo]at HC0 ⊢;clear HJ hwo;have q6:decide ((s:Int)<6)=true:=decide_eq_true (by omega);go_wp2
      go_loopw [27] (fun i wr=>∃i':Nat,i'<=j/\i=.int .i64 i'/\Hid (∃ v',Wkr wr g r (ptP c (unitE s) i') v' (l++tellL r (SL++lineP c (unitE s) i'))/\Fr g v v' w2 wr)) (fun i _=>j-(intOf i).toNat)
      case atStart=>exact⟨0,by omega,rfl,HC0.out⟩
      case round=>
       obtain⟨i',hi',rfl,HK⟩:=hrel;by_cases hij:i'<j
       ·obtain⟨v',hwk,hfr⟩:=HK.out
        have hlen:(l++tellL r (SL++lineP c (unitE s) i')).length<=100000000:=by
         have h1:=tellL_length r (SL++lineP c (unitE s) i');have h2:=HSL.out;rw[List.length_append,lineP_length]at h1;rw[List.length_append];omega
        have HTE:=Hd (tell_any g r (ptP c (unitE s) i') v' (l++tellL r (SL++lineP c (unitE s) i')) wr hwk hlen);have HAPP:Hid ((l++tellL r (SL++lineP c (unitE s) i'))++tellL r [ptP c (unitE s) i']=l++tellL r (SL++lineP c (unitE s) (i'+1))):=by
         show _=_;rw[lineP_succ, <-List.append_assoc,tellL_app r (SL++_) [_],List.append_assoc]
        rw[HAPP.out]at HTE;have hpm:Sm 1099511627776 (ptP c (unitE s) i'):=(ptP_sm HCM.out s i').mono (by omega);have HSTP:=Hd (fun v4 w4 (h4:Wkr w4 g r (ptP c (unitE s) i') v4 (l++tellL r (SL++lineP c (unitE s) (i'+1))))=>step_any g r (ptP c (unitE s) i') s v4 (l++tellL r (SL++lineP c (unitE s) (i'+1))) w4 h4 hs hpm);simp only[ptP_succ]at HSTP;have HFR:=Hd hfr;clear hwk hfr hlen hpm HK
        go_wp2_with fail
        refine HTE.out.mono ?_;rintro e w4 ⟨rfl,v4,hw4,hf4⟩;have HS4:=Hd (HSTP.out v4 w4 hw4);have HF4:=Hd (HFR.out.trans hf4);clear hw4 hf4
        go_wp2_with fail
        refine HS4.out.mono ?_;rintro e w5 ⟨rfl,v5,hw5,hf5⟩;have HN:Hid (∃ v',Wkr w5 g r (ptP c (unitE s) (i'+1)) v' (l++tellL r (SL++lineP c (unitE s) (i'+1)))/\Fr g v v' w2 w5):=⟨v5,hw5,HF4.out.trans hf5⟩;clear hw5 hf5;go_wp2
        go_roundw
        case rel=>first|exact⟨i'+1,by omega,by go_num,HN.out⟩|((repeat apply Exists.intro);exact⟨⟨i'+1,by omega,by go_num,HN.out⟩,rfl⟩)
        case measure=>simp[intOf];omega
       ·obtain rfl:i'=j:=by omega
        have HN:=Hd (HC1.out wr HK.out);clear HK HC1;go_wp2
        go_roundw
        case rel=>exact⟨s+1,by omega,by go_num,HN.out⟩
        case measure=>simp[intOf];omega
     ·obtain rfl:s=6:=by omega
      obtain⟨v',hwk,hfr⟩:=HJ.out;have hm2:=HM2.out.turn hfr.1 (by omega) (fun e=>e.elim (fun e=>by omega) HVN.out);obtain⟨m0,m1⟩:=hm2;have hmv:=hwk.move z;have HP:Hid (Walked w g r z v (l++tellL r (sidesP z j 6)) (.returned (.tuple #[])) ((wr.setCell ⟨g,1,none⟩ (.int .i64 z.1)).setCell ⟨g,2,none⟩ (.int .i64 z.2))):=⟨rfl,v',hmv.1,(HF2.out.trans hfr).trans (Fr.of_turn hmv.2)⟩;obtain⟨c0,c1,c2,c3,f1,f2,f3,hgr⟩:=hwk.cells;clear hwk hfr hmv HJ;go_wp2
      go_end0
      exact HP.out
end
section
open Go.RowKit Go.Lib Wd Go.Sort
theorem sortw_any(B n c:Nat)(ao:Option Addr)(l:List Int)(w:World)(hn:l.length=n)(hl:n<=1000000000)(hown:w.ownsRow B 35 1 (.slice ao n c) n (uV l)):
  Calls Tryz.prog 69 #[.slice ao n c] w fun e w'=>e=.returned (.tuple #[])/\WordsAt w' w'.heap.size ao (srt l)/\Turn (fun q=>(Value.slice ao n c).ownBlock=some q) w w':=by
 by_cases h0:n=0
 ·subst h0
  obtain rfl:l=[]:=List.eq_nil_of_length_eq_zero hn;refine(u64_Sort_int_nil ao c w).mono ?_;rintro e w2 ⟨rfl,hw⟩;subst hw;exact⟨rfl,fun h=>by simp[srt]at h,Turn.refl _ _⟩
 ·obtain⟨g,rfl,hg0,hg,_,hH⟩:=holds_own (by omega) hown
  have hs:=u64_slices_Sort_int g 0 c l w hH hg (by omega);rw[hn]at hs;refine hs.mono ?_;rintro e w2 ⟨rfl,q,os,hw2⟩;have hH2:Holds encU w2 g 0 (srt l).toArray:=by
   rw[hw2];refine holds_grow _ _ _ _ _ _ (by simpa[putRow,mapBlock,Sort.ahead]using hg) ?_;exact holds_putRow _ _ _ _ l.toArray _ (holds_ahead _ _ _ _ _ _ hH) (by simp)
  have hz:w.heap.size<=w2.heap.size:=by
   rw[hw2];simp[grow,putRow,mapBlock,Sort.ahead]
  have hw:=words_of_holds (by omega) hH2 (srt l).length lr;rw[List.take_length]at hw;refine⟨rfl,hw,?_⟩;rw[hw2]at hz ⊢;refine⟨rfl,rfl,rfl,hz,fun k hk hs=>?_⟩;have hne:g≠k:=fun e=>hs (by rw[e];rfl)
  refine(heap_grow_old _ os (by simpa[putRow,mapBlock,Sort.ahead]using hk)).trans ?_;simp[putRow,mapBlock,Sort.ahead,Array.getElem?_modify,hne]
def allR(z:E2)(f:Nat):Nat->List E2
 |0=>[]
 |n+1=>allR z f n++ringL z (f+n)
def rgsE(w0:Nat)(t m:Int):Int:=if isW w0=true then(if t<0 then 1 else if m<t then 7 else 0)else 5
def rgsL(w0 f:Nat)(t m:Int):List Int:=if rgsE w0 t m=0 then srt (tellL (rW w0) (allR (zW w0) f (t+1-f).toNat))else []
def Told(w:World)(L:List Int)(E:Int)(e:Ending)(w':World):Prop:=∃ao c,e=.returned (.tuple #[.slice ao L.length c,.int .i64 E])/\WordsAt w' w'.heap.size ao L/\Below w.heap.size w w'
theorem Told.nil{w w':World}{E:Int}(h:Below w.heap.size w w'):Told w [] E (.returned (.tuple #[.slice none 0 0,.int .i64 E])) w'  :=⟨Option.none,0,rfl,fun h=>by simp at h,h⟩
theorem allR_length{z:E2}{f:Nat}(n:Nat):(allR z f (n+1)).length=(allR z f n).length+(ringL z (f+n)).length:=by
 show(allR z f n++_).length=_;rw[List.length_append]
theorem allR_mono(z:E2)(f:Nat){i j:Nat}(h:i<=j):(allR z f i).length<=(allR z f j).length:=by
 obtain⟨d,rfl⟩:∃d,j=i+d:=⟨j-i,by omega⟩;clear h
 induction d with
 |zero=>exact lr
 |succ d ih=>rw[<- Nat.add_assoc,allR_length];omega
theorem rings_any(w0:Nat)(hw0:w0<18446744073709551616)(fi:Int)(f:Nat)(t m:Int)(hfi:fi=f∨t<0)(hf:(f:Int)<=t+1∨t<0)(ht:t<9223372036854775808)(ht2:t<=m->t<=9999)(hlen:t<=m->0<=t->(allR (zW w0) f (t+1-f).toNat).length<=1000000)(w:World):
  Calls Tryz.prog 78 #[.int .u64 w0,.int .i64 fi,.int .i64 t,.int .i64 m] w (Told w (rgsL w0 f t m) (rgsE w0 t m)):=by
 have HC:=Hd (cell_any w0 hw0);have HE:Hid (rgsE w0 t m=if isW w0=true then(if t<0 then 1 else if m<t then 7 else 0)else 5):=rfl;have HL:Hid (rgsL w0 f t m=if rgsE w0 t m=0 then srt (tellL (rW w0) (allR (zW w0) f (t+1-f).toNat))else []):=rfl;have HBAD:Hid (∀ E w',rgsE w0 t m=E->E≠0->Below w.heap.size w w'->Told w (rgsL w0 f t m) (rgsE w0 t m) (.returned (.tuple #[.slice none 0 0,.int .i64 E])) w'):=fun E w' h1 h2 hb=>by
  rw[HL.out,h1,if_neg h2];exact Told.nil hb
 by_cases hW:isW w0=true
 ·have hcv:cvE w0=0:=by unfold cvE;rw[if_pos hW]
  rw[hcv]at HC;by_cases ht0:t<0
  ·have HB:=Hd (fun w'=>HBAD.out 1 w' (by rw[HE.out,if_pos hW,if_pos ht0]) (by decide))
   have q1:decide (t<0)=true:=decide_eq_true ht0;simp only[vC]at HC;clear hf ht2 hlen HBAD HL HE hfi
   go_enter Tryz.func78,Tryz.ntmps78
   go_wp2_with fail
   refine(HC.out _).mono ?_;rintro e w1 ⟨rfl,hb⟩;have HB2:=Hd (HB.out _ (hb.alloc hb.size (.cells #[.int .i64 (cvR w0),.int .i64 (cvZ w0).1,.int .i64 (cvZ w0).2] 39)));clear hb;go_wp2;go_ret2;exact HB2.out
  ·have q1:decide (t<0)=false:=decide_eq_false ht0
   by_cases htm:m<t
   ·have HB:=Hd (fun w'=>HBAD.out 7 w' (by rw[HE.out,if_pos hW,if_neg ht0,if_pos htm]) (by decide))
    have q2:decide (m<t)=true:=decide_eq_true htm;simp only[vC]at HC;clear hf ht2 hlen HBAD HL HE hfi
    go_enter Tryz.func78,Tryz.ntmps78
    go_wp2_with fail
    refine(HC.out _).mono ?_;rintro e w1 ⟨rfl,hb⟩;have HB2:=Hd (HB.out _ (hb.alloc hb.size (.cells #[.int .i64 (cvR w0),.int .i64 (cvZ w0).1,.int .i64 (cvZ w0).2] 39)));clear hb;go_wp2;go_ret2;exact HB2.out
   ·have q2:decide (m<t)=false:=decide_eq_false htm
    have hE0:rgsE w0 t m=0:=by rw[HE.out,if_pos hW,if_neg ht0,if_neg htm]
    have HL2:Hid (rgsL w0 f t m=srt (tellL (rW w0) (allR (zW w0) f (t+1-f).toNat))):=by show _=_;rw[HL.out,if_pos hE0]
    rw[hE0,HL2.out];have hcr:cvR w0=(rW w0:Int):=by unfold cvR;rw[if_pos hW]
    have hcz:cvZ w0=zW w0:=by unfold cvZ;rw[if_pos hW]
    rw[hcr,hcz]at HC;have hsm:Sm 2147483648 (zW w0):=by
     have:=(shapeB_iff _ _).1 ((okB_iff _ _).1 (cell_word hW).1).1;unfold Sm;omega
    have hft:(f:Int)<=t+1:=hf.resolve_right ht0;obtain rfl:fi=f:=hfi.resolve_right ht0;have ht9:=ht2 (by omega);have hln:=hlen (by omega) (by omega);clear hf ht2 hlen HBAD HL HE hE0 HL2 hcr hcz hcv hW hfi;generalize zW w0=z at *;generalize rW w0=R at *;simp only[vC]at HC;obtain⟨N,hN⟩:∃N,(t+1-f).toNat=N:=⟨_,rfl⟩;rw[hN]at hln ⊢;have htN:t+1=f+N:=by omega
    clear hN;obtain⟨L0,hL0⟩:∃L,srt (tellL R (allR z f N))=L:=⟨_,rfl⟩;rw[hL0];have HLE:=Hd hL0;clear hL0
    go_enter Tryz.func78,Tryz.ntmps78
    go_wp2_with fail
    refine(HC.out _).mono ?_;rintro e w1 ⟨rfl,hb⟩;have hal:Below w1.heap.size w1 ((w1.alloc (.cells #[.int .i64 R,.int .i64 z.1,.int .i64 z.2] 39)).alloc (.cells #[.int .i64 R,.int .i64 z.1,.int .i64 z.2,.slice none 0 0] 173)):=(br.alloc lr _).alloc (by simp) _;have ksz:((w1.alloc (.cells #[.int .i64 R,.int .i64 z.1,.int .i64 z.2] 39)).alloc (.cells #[.int .i64 R,.int .i64 z.1,.int .i64 z.2,.slice none 0 0] 173)).heap.size=w1.heap.size+2:=by simp
    have HB2:Hid (Below w.heap.size w ((w1.alloc (.cells #[.int .i64 R,.int .i64 z.1,.int .i64 z.2] 39)).alloc (.cells #[.int .i64 R,.int .i64 z.1,.int .i64 z.2,.slice none 0 0] 173))):=hb.trans (hal.mono hb.size);have HK2:Hid (Wkr ((w1.alloc (.cells #[.int .i64 R,.int .i64 z.1,.int .i64 z.2] 39)).alloc (.cells #[.int .i64 R,.int .i64 z.1,.int .i64 z.2,.slice none 0 0] 173)) (w1.heap.size+1) R z (.slice none 0 0) []):=⟨heap_new _ _ _ (by simp),World.ownsRow_nil _ _ _ _⟩;have hwz:=hb.size;clear hal hb HC
    go_upto_region 9 with(fail)
    generalize(w1.alloc (.cells #[.int .i64 R,.int .i64 z.1,.int .i64 z.2] 39)).alloc (.cells #[.int .i64 R,.int .i64 z.1,.int .i64 z.2,.slice none 0 0] 173)=w2 at *;obtain⟨g,hg⟩:∃g,w1.heap.size+1=g:=⟨_,rfl⟩;rw[hg]at HK2 ⊢;have hg2:w2.heap.size=g+1:=by omega
    have hgw:w.heap.size<g:=by omega
    clear hg ksz hwz;go_wp2
    go_loopw [13] (fun i wr=>∃j:Nat,j<=N/\i=.int .i64 ((f:Int)+j)/\Hid (∃ v',Wkr wr g R z v' (tellL R (allR z f j))/\Fr g (.slice none 0 0) v' w2 wr)) (fun i _=>(f+N)-(intOf i).toNat)
    case atStart=>exact⟨0,by omega,by simp,_,HK2.out,Fr.refl _ _ _⟩
    case round=>
     obtain⟨j,hj,rfl,HI⟩:=hrel;by_cases hjN:j<N
     ·obtain⟨v',hwk,hfr⟩:=HI.out
      have hl1:=allR_mono z f (show j<=N by omega);have hl2:=tellL_length R (allR z f j);have hr:=ring_any g R z (f+j) v' (tellL R (allR z f j)) wr hwk hsm (by omega) (by omega);rw[<- tellL_app]at hr;have HR:Hid (Calls Tryz.prog 121 #[.pointer (some ⟨g,0,none⟩),.int .i64 ((f:Int)+j)] wr (Walked wr g R z v' (tellL R (allR z f (j+1))))):=by
       have:=hr;rw[Int.natCast_add]at this;exact this
      have HFR:=Hd hfr;have q4:decide ((f:Int)+j<=t)=true:=decide_eq_true (by omega);clear hwk hfr hr HI hl1 hl2
      go_wp2_with fail
      refine HR.out.mono ?_;rintro e w4 ⟨rfl,v4,hw4,hf4⟩;have HN:Hid (∃ v',Wkr w4 g R z v' (tellL R (allR z f (j+1)))/\Fr g (.slice none 0 0) v' w2 w4):=⟨v4,hw4,HFR.out.trans hf4⟩;clear hw4 hf4;go_wp2
      go_roundw
      case rel=>exact⟨j+1,by omega,by simp;omega,HN.out⟩
      case measure=>simp[intOf];omega
     ·obtain rfl:j=N:=by omega
      obtain⟨v',hwk,hfr⟩:=HI.out;have q4:decide ((f:Int)+j<=t)=false:=decide_eq_false (by omega);have hl2:=tellL_length R (allR z f j);have hap:=own_apart hwk.2;obtain⟨ao,c,rfl,_⟩:=own_form hwk.2;have HS:=Hd (sortw_any (g+1) _ c ao _ wr rfl (by omega) hwk.2);have HSL:Hid (srt (tellL R (allR z f j))=L0):=HLE.out;rw[HSL.out]at HS;have hll:L0.length=(tellL R (allR z f j)).length:=by rw[<- HSL.out];exact srt_length _
      have HBR:Hid (Below w.heap.size w wr):=HB2.out.trans (hfr.1.below (by omega) fun q hq e=>e.elim (fun e=>by omega) (fun e=>by cases e));have hlt:=hwk.2.lt;obtain⟨c0,c1,c2,c3,f1,f2,f3,hgl⟩:=hwk.cells;have HG:=Hd hwk.1;rw[<- hll]at HS c3 hap hlt;have HHL:=Hd hll;clear hwk hfr HI hl2 hll
      go_wp2_with fail
      refine HS.out.mono ?_;rintro e w5 ⟨rfl,hwd,htn⟩;have k3:w5.cell? ⟨g,3,none⟩=some (.slice ao L0.length c):=(htn.cell (p:=⟨g,3,none⟩) hgl hap).trans c3;have HB5:Hid (Below w.heap.size w w5):=HBR.out.trans (htn.below (by have:=HBR.out.size;omega) fun q hq e=>by have:=(hlt q e).1;omega);have HW5:=Hd hwd;clear hwd htn c0 c1 c2 c3;go_wp2;go_ret2;exact⟨ao,c,rfl,HW5.out,HB5.out⟩
 ·have hcv:cvE w0=5:=by unfold cvE;rw[if_neg hW]
  rw[hcv]at HC;have HB:=Hd (fun w'=>HBAD.out 5 w' (by rw[HE.out,if_neg hW]) (by decide));simp only[vC]at HC;clear hf ht2 hlen HBAD HL HE hfi
  go_enter Tryz.func78,Tryz.ntmps78
  go_wp2_with fail
  refine(HC.out _).mono ?_;rintro e w1 ⟨rfl,hb⟩;have HB2:=Hd (HB.out _ (hb.alloc hb.size (.cells #[.int .i64 (cvR w0),.int .i64 (cvZ w0).1,.int .i64 (cvZ w0).2] 39)));clear hb;go_wp2;go_ret2;exact HB2.out
theorem told_pass{w w1:World}{L:List Int}{E:Int}{e:Ending}(h:Told w L E e w1):∃ao c,e=.returned (.tuple #[.slice ao L.length c,.int .i64 E])/\Told w L E (.returned (.tuple #[.slice ao L.length c,.int .i64 E])) w1:=by
 obtain⟨ao,c,rfl,h2⟩:=h;exact⟨ao,c,rfl,ao,c,rfl,h2⟩
theorem sidesP_len6(z:E2)(k:Nat):(ringL z k).length<=6*k+1:=by
 unfold ringL
 split
 ·simp
 ·rw[sidesP_length];omega
theorem allR_bound(z:E2)(f n:Nat):(allR z f n).length<=n*(6*(f+n)+1):=by
 induction n with
 |zero=>simp[allR]
 |succ n ih=>
  rw[allR_length];have h1:=sidesP_len6 z (f+n);have h2:n*(6*(f+n)+1)<=n*(6*(f+(n+1))+1):=Nat.mul_le_mul_left _ (by omega);rw[Nat.succ_mul];omega
theorem nei_any(w0:Nat)(hw0:w0<18446744073709551616)(w:World):Calls Tryz.prog 45 #[.int .u64 w0] w (Told w (rgsL w0 1 1 1) (rgsE w0 1 1)):=by
 have H:=Hd (rings_any w0 hw0 1 1 1 1 (by omega) (by omega) (by omega) (by omega) (fun _ _=>Nat.le_trans (allR_bound _ _ _) (by decide)) w);generalize rgsL w0 1 1 1=L at *;generalize rgsE w0 1 1=E at*
 go_enter Tryz.func45,Tryz.ntmps45
 go_wp2_with fail
 refine H.out.mono ?_;rintro e w1 h;obtain⟨ao,c,rfl,h2⟩:=told_pass h;have HT:=Hd h2;clear h h2;go_wp2;go_ret2;exact HT.out
end
section
open Go.RowKit Go.Lib Wd
theorem lineP_mem(c u y:E2)(k:Nat):y∈lineP c u k↔∃j:Nat,j<k/\y=(c.1+j*u.1,c.2+j*u.2):=by
 unfold lineP;rw[List.mem_map];constructor
 ·rintro⟨j,hj,rfl⟩;exact⟨j,List.mem_range.1 hj,rfl⟩
 ·rintro⟨j,hj,rfl⟩;exact⟨j,List.mem_range.2 hj,rfl⟩
theorem corn_at(z:E2)(k:Nat):corn z k 0=(z.1,z.2-k)/\corn z k 1=(z.1+k,z.2-k)/\corn z k 2=(z.1+k,z.2)/\corn z k 3=(z.1,z.2+k)/\corn z k 4=(z.1-k,z.2+k)/\corn z k 5=(z.1-k,z.2):=by
 simp only[corn,ptP,unitE,Prod.mk.injEq];omega
theorem ring_mem(z y:E2)(k:Nat):y∈ringL z k↔Hex k (subE y z)/\¬Hex ((k:Int)-1) (subE y z):=by
 obtain⟨c0,c1,c2,c3,c4,c5⟩:=corn_at z k;obtain⟨a,b⟩:=y;obtain⟨p,q⟩:=z;unfold ringL
 split
 ·subst k
  unfold Hex subE;simp only[List.mem_singleton,Prod.mk.injEq];omega
 ·simp only[sidesP,List.nil_append,List.mem_append,lineP_mem,c0,c1,c2,c3,c4,c5,unitE,Prod.mk.injEq]
  unfold Hex subE;simp only;constructor
  ·rintro(((((⟨j,h1,h2,h3⟩|⟨j,h1,h2,h3⟩)|⟨j,h1,h2,h3⟩)|⟨j,h1,h2,h3⟩)|⟨j,h1,h2,h3⟩)|⟨j,h1,h2,h3⟩) <;> omega
  ·intro⟨h1,h2⟩
   rcases(show(b-q= -k/\0<=a-p/\a-p<k)∨(a-p=k/\ -k<=b-q/\b-q<0)∨(a-p+(b-q)=k/\0<=b-q/\b-q<k)∨(b-q=k/\ -k<a-p/\a-p<=0)∨(a-p= -k/\0<b-q/\b-q<=k)∨(a-p+(b-q)= -k/\ -k<b-q/\b-q<=0) by omega)with h|h|h|h|h|h
   ·exact .inl (.inl (.inl (.inl (.inl ⟨(a-p).toNat,by omega,by omega,by omega⟩))))
   ·exact .inl (.inl (.inl (.inl (.inr ⟨(b-q+k).toNat,by omega,by omega,by omega⟩))))
   ·exact .inl (.inl (.inl (.inr ⟨(b-q).toNat,by omega,by omega,by omega⟩)))
   ·exact .inl (.inl (.inr ⟨(p-a).toNat,by omega,by omega,by omega⟩))
   ·exact .inl (.inr ⟨(k-(b-q)).toNat,by omega,by omega,by omega⟩)
   ·exact .inr ⟨(q-b).toNat,by omega,by omega,by omega⟩
theorem isw_any(w0:Nat)(hw:w0<18446744073709551616)(w:World):Calls Tryz.prog 53 #[.int .u64 w0] w fun e w'=>e=.returned (.bool (isW w0))/\Below w.heap.size w w':=by
 have HC:=Hd (rcell_any w0 hw);have HE:Hid ((cvE w0==0)=isW w0):=by
  show _=_;unfold cvE;cases isW w0 <;> rfl
 simp only[vC]at HC;generalize cvR w0=r at *;generalize cvZ w0=z at *;generalize cvE w0=e0 at*
 go_enter Tryz.func53,Tryz.ntmps53
 go_wp2_with fail
 refine(HC.out _).mono ?_;rintro e w1 ⟨rfl,hb⟩;have HB:=Hd hb;have hz:=hb.size;clear hb;go_wp2;go_ret;exact⟨by rw[<- HE.out];rfl,HB.out.alloc hz _⟩
theorem rgs_word{r:Nat}{z:E2}(h:okB r z=true)(f n:Nat)(t m:Int)(ht:0<=t)(hm:t<=m)(hn:(t+1-f).toNat=n):rgsE (ofW r z) t m=0/\rgsL (ofW r z) f t m=srt (tellL r (allR z f n)):=by
 obtain⟨h1,h2,h3⟩:=word_cell h;rw[(ofW_ok h).1];have hE:rgsE (wordN r z) t m=0:=by unfold rgsE;rw[if_pos h1,if_neg (by omega),if_neg (by omega)]
 refine⟨hE,?_⟩;unfold rgsL;rw[if_pos hE,h2,h3,hn]
end
section
open Go.RowKit Go.Lib Wd Cv
def wF(R:Nat)(F:List E2):List Int:=F.map fun z=>((wordN R z:Nat):Int)
theorem wF_length(R:Nat)(F:List E2):(wF R F).length=F.length:=by unfold wF;simp
theorem wF_mem{R:Nat}{F:List E2}{x:Int}:x∈wF R F↔∃z,z∈F/\x=(wordN R z:Nat):=by
 unfold wF;rw[List.mem_map];exact⟨fun⟨z,h1,h2⟩=>⟨z,h1,h2.symm⟩,fun⟨z,h1,h2⟩=>⟨z,h1,h2.symm⟩⟩
theorem nb_mem{R:Nat}{z:E2}(hz:okB R z=true):(∀ x∈rgsL (wordN R z) 1 1 1,∃k,k<6/\okB R (addE z (unitE k))=true/\x=(wordN R (addE z (unitE k)):Nat))/\
  (∀ k,k<6->okB R (addE z (unitE k))=true->((wordN R (addE z (unitE k)):Nat):Int)∈rgsL (wordN R z) 1 1 1)/\(rgsL (wordN R z) 1 1 1).length<=6:=by
 have h1:=rgs_word hz 1 1 1 1 (by omega) (by omega) (by omega);rw[(ofW_okF hz).1]at h1;have e:allR z 1 1=ringL z 1:=by show []++ringL z (1+0)=_;rw[List.nil_append]
 rw[h1.2,e];have hm:∀y,y∈ringL z 1↔∃k,k<6/\y=addE z (unitE k):=fun y=>by
  rw[ring_mem];constructor
  ·intro h
   have key:∀k,subE y z=unitE k->y=addE z (unitE k):=fun k e=>by rw[<- e];unfold addE subE;ext <;> simp only <;> omega
   unfold Hex at h;have hs:subE y z=(1,0)∨subE y z=(0,1)∨subE y z=(-1,1)∨subE y z=(-1,0)∨subE y z=(0,-1)∨subE y z=(1,-1):=by
    generalize subE y z=s at *;obtain⟨s1,s2⟩:=s;simp only[Prod.mk.injEq]at h ⊢;omega
   rcases hs with e|e|e|e|e|e
   ·exact⟨0,by omega,key 0 e⟩
   ·exact⟨1,by omega,key 1 e⟩
   ·exact⟨2,by omega,key 2 e⟩
   ·exact⟨3,by omega,key 3 e⟩
   ·exact⟨4,by omega,key 4 e⟩
   ·exact⟨5,by omega,key 5 e⟩
  ·rintro⟨k,hk,rfl⟩
   have e:subE (addE z (unitE k)) z=unitE k:=by unfold addE subE;ext <;> simp only <;> omega
   rw[e];rcases(show k=0∨k=1∨k=2∨k=3∨k=4∨k=5 by omega)with rfl|rfl|rfl|rfl|rfl|rfl <;> simp[Hex,unitE]
 refine⟨fun x hx=>?_,fun k hk ho=>?_,?_⟩
 ·rw[srt_mem]at hx
  unfold tellL at hx;obtain⟨y,hy,rfl⟩:=List.mem_map.1 hx;obtain⟨h2,h3⟩:=List.mem_filter.1 hy;obtain⟨k,hk,rfl⟩:=(hm y).1 h2;exact⟨k,hk,by simpa using h3,by rw[Int.toNat_natCast]⟩
 ·rw[srt_mem]
  unfold tellL;exact List.mem_map.2 ⟨addE z (unitE k),List.mem_filter.2 ⟨(hm _).2 ⟨k,hk,rfl⟩,by simpa using ho⟩,by rw[Int.toNat_natCast]⟩
 ·rw[srt_length]
  unfold tellL;rw[List.length_map];exact Nat.le_trans (List.length_filter_le _ _) (Nat.le_of_eq rfl)
structure RInv (R:Nat) (lo hi z0:E2) (F T:List E2):Prop where
 nf:F.Nodup
 nt:T.Nodup
 m0:z0∈F
 good:∀z∈F,okB R z=true/\TouchP (hexC (12-R) z) (triE lo) (triE hi)
 sub:∀t∈T,t∈F
 shut:∀z∈F,z∉T->∀k,k<6->TouchP (hexC (12-R) (addE z (unitE k))) (triE lo) (triE hi)->addE z (unitE k)∈F
structure RMid (R:Nat) (lo hi z0 t:E2) (F T:List E2) (NL:List Int) (j:Nat):Prop where
 nf:F.Nodup
 nt:T.Nodup
 m0:z0∈F
 good:∀z∈F,okB R z=true/\TouchP (hexC (12-R) z) (triE lo) (triE hi)
 sub:∀t∈T,t∈F
 tf:t∈F
 tt:t∉T
 shut:∀z∈F,z∉T->z≠t->∀k,k<6->TouchP (hexC (12-R) (addE z (unitE k))) (triE lo) (triE hi)->addE z (unitE k)∈F
 seen:∀i,i<j->∀y,okB R y=true->NL.getD i 0=(wordN R y:Nat)->TouchP (hexC (12-R) y) (triE lo) (triE hi)->y∈F
theorem RInv.start{R:Nat}{lo hi z0:E2}(h1:okB R z0=true)(h2:TouchP (hexC (12-R) z0) (triE lo) (triE hi)):RInv R lo hi z0 [z0] [z0] where
 nf:=by simp
 nt:=by simp
 m0:=by simp
 good:=fun z hz=>by rw[List.mem_singleton]at hz;subst hz;exact⟨h1,h2⟩
 sub:=fun t ht=>ht
 shut:=fun z hz hn=>absurd hz hn
theorem RInv.pop{R:Nat}{lo hi z0 t:E2}{F T:List E2}(h:RInv R lo hi z0 F (t::T))(NL:List Int):RMid R lo hi z0 t F T NL 0 where
 nf:=h.nf
 nt:=(List.nodup_cons.1 h.nt).2
 m0:=h.m0
 good:=h.good
 sub:=fun x hx=>h.sub x (by simp[hx])
 tf:=h.sub t (by simp)
 tt:=(List.nodup_cons.1 h.nt).1
 shut:=fun z hz hn hne=>h.shut z hz (by simp[hne,hn])
 seen:=fun i hi=>absurd hi (Nat.not_lt_zero _)
theorem RMid.skip{R:Nat}{lo hi z0 t:E2}{F T:List E2}{NL:List Int}{j:Nat}(h:RMid R lo hi z0 t F T NL j){y:E2}(hy:okB R y=true)(hw:NL.getD j 0=(wordN R y:Nat))
  (hn:y∈F∨¬TouchP (hexC (12-R) y) (triE lo) (triE hi)):RMid R lo hi z0 t F T NL (j+1) where
 nf:=h.nf
 nt:=h.nt
 m0:=h.m0
 good:=h.good
 sub:=h.sub
 tf:=h.tf
 tt:=h.tt
 shut:=h.shut
 seen:=fun i hi x hx hxw hxt=>by
  by_cases e:i=j
  ·subst e
   rw[hw]at hxw;obtain rfl:=(word_inj hy hx (by omega)).2;exact hn.resolve_right fun h=>h hxt
  ·exact h.seen i (by omega) x hx hxw hxt
theorem RMid.add{R:Nat}{lo hi z0 t:E2}{F T:List E2}{NL:List Int}{j:Nat}(h:RMid R lo hi z0 t F T NL j){y:E2}(hy:okB R y=true)(hw:NL.getD j 0=(wordN R y:Nat))
  (hn:y∉F) (ht:TouchP (hexC (12-R) y) (triE lo) (triE hi)):RMid R lo hi z0 t (y::F) (T++[y]) NL (j+1) where
 nf:=List.nodup_cons.2 ⟨hn,h.nf⟩
 nt:=by
  rw[List.nodup_append];exact⟨h.nt,by simp,fun a ha b hb e=>by rw[List.mem_singleton]at hb;subst hb;subst e;exact hn (h.sub _ ha)⟩
 m0:=List.mem_cons_of_mem _ h.m0
 good:=fun z hz=>by
  rcases List.mem_cons.1 hz with rfl|hz
  ·exact⟨hy,ht⟩
  ·exact h.good z hz
 sub:=fun x hx=>by
  rcases List.mem_append.1 hx with hx|hx
  ·exact List.mem_cons_of_mem _ (h.sub x hx)
  ·rw[List.mem_singleton]at hx;subst hx;simp
 tf:=List.mem_cons_of_mem _ h.tf
 tt:=fun hm=>by
  rcases List.mem_append.1 hm with hm|hm
  ·exact h.tt hm
  ·rw[List.mem_singleton]at hm;subst hm;exact hn h.tf
 shut:=fun z hz hzn hne k hk hkt=>by
  rcases List.mem_cons.1 hz with rfl|hz
  ·exact absurd (by simp) hzn
  ·exact List.mem_cons_of_mem _ (h.shut z hz (fun hm=>hzn (by simp[hm])) hne k hk hkt)
 seen:=fun i hi x hx hxw hxt=>by
  by_cases e:i=j
  ·subst e
   rw[hw]at hxw;obtain rfl:=(word_inj hy hx (by omega)).2;simp
  ·exact List.mem_cons_of_mem _ (h.seen i (by omega) x hx hxw hxt)
theorem RMid.done{R:Nat}(hR:R<=12){lo hi z0 t:E2}(hlo:worldB lo.1 lo.2=true)(hhi:worldB hi.1 hi.2=true)(hx:lo.1<=hi.1)(hy:lo.2<=hi.2){F T:List E2}{j:Nat}(h:RMid R lo hi z0 t F T (rgsL (wordN R t) 1 1 1) j)(hj:(rgsL (wordN R t) 1 1 1).length<=j):RInv R lo hi z0 F T where
 nf:=h.nf
 nt:=h.nt
 m0:=h.m0
 good:=h.good
 sub:=h.sub
 shut:=fun z hz hzn k hk hkt=>by
  by_cases e:z=t
  ·subst e
   have ho:=touch_ok hR hlo hhi hx hy hkt;have hm:=(nb_mem (h.good z hz).1).2.1 k hk ho;obtain⟨i,hi,e⟩:=List.mem_iff_getElem.1 hm;exact h.seen i (Nat.lt_of_lt_of_le hi hj) _ ho (by rw[List.getD_eq_getElem?_getD,List.getElem?_eq_getElem hi,Option.getD_some];exact e) hkt
  ·exact h.shut z hz hzn e k hk hkt
theorem RInv.all{R:Nat}(hR:R<=12){lo hi:E2}(hx:lo.1<=hi.1)(hy:lo.2<=hi.2){F:List E2}(h:RInv R lo hi (nearE lo.1 lo.2 R) F []):AllOf (12-R) (triE lo) (triE hi) F:=by
 refine⟨h.nf,fun z=>⟨fun hz=>(h.good z hz).2,fun hz=>?_⟩⟩;exact flood_all (m:=12-R) (by omega) (lo:=triE lo) (hi:=triE hi) (z0:=nearE lo.1 lo.2 R) (by simp only[triE];omega) (by simp only[triE];omega) (inZ_near hR) (fun z=>z∈F) h.m0 (fun z hz _ k hk ht=>h.shut z hz (by simp) k hk ht) z hz
theorem found_len{R:Nat}{F:List E2}(hn:F.Nodup)(hok:∀z∈F,okB R z=true):(setF (wF R F)).length=F.length:=by
 have hw:(wF R F).Nodup:=by
  unfold wF;exact nodup_map hn fun a ha b hb e=>(word_inj (hok a ha) (hok b hb) (by omega)).2
 have h2:setF (wF R F)=srt (wF R F):=(setF_up _).ext (up_of_srt hw) fun x=>by rw[setF_mem,srt_mem]
 rw[h2,srt_length,wF_length]
theorem found_has{R:Nat}{F:List E2}(hok:∀z∈F,okB R z=true){y:E2}(hy:okB R y=true):hasF (setF (wF R F)) (wordN R y:Nat)=true↔y∈F:=by
 rw[hasF_iff,setF_mem,wF_mem];constructor
 ·rintro⟨z,h1,h2⟩
  obtain rfl:=(word_inj hy (hok z h1) (by omega)).2;exact h1
 ·exact fun h=>⟨y,h,rfl⟩
theorem found_put(R:Nat)(F:List E2)(y:E2):setF (((wordN R y:Nat):Int)::setF (wF R F))=setF (wF R (y::F)):=by
 refine(setF_up _).ext (setF_up _) fun x=>?_
 rw[setF_mem,setF_mem,List.mem_cons,setF_mem];unfold wF;rw[List.map_cons,List.mem_cons]
theorem found_box{R:Nat}(hR:R<=12){lo hi:E2}(hx:lo.1<=hi.1)(hy:lo.2<=hi.2){F:List E2}(h:RInv R lo hi (nearE lo.1 lo.2 R) F [])(hl:F.length<=20000):IsBox R lo hi (setF (wF R F)):=by
 have ha:=h.all hR hx hy;have hok:∀z∈F,okB R z=true:=fun z hz=>(h.good z hz).1
 refine⟨setF_up _,fun x=>?_,by rw[found_len h.nf hok];exact hl⟩;rw[setF_mem,wF_mem];unfold TouchW;constructor
 ·rintro⟨z,h1,rfl⟩;exact⟨z,hok z h1,(ha.2 z).1 h1,rfl⟩
 ·rintro⟨z,h1,h2,rfl⟩;exact⟨z,(ha.2 z).2 h2,rfl⟩
end
section
open Go Go.RowKit Go.Lib
def MidU(w:World)(B:Nat)(ao:Option Addr)(n c:Nat)(L:List Int):Prop:=
 L.length=n/\n<=c/\∃g off cur,ao=some ⟨g,off,none⟩/\B<=g/\w.heap[g]? =some (.cells cur 35 (0,0))/\off+c<=cur.size/\∀i,i<n->cur[off+i]? =some (.int .u64 (L.getD i 0))
theorem MidU.turn{S:Nat->Prop}{w w':World}{B n c:Nat}{ao:Option Addr}{L:List Int}(h:MidU w B ao n c L)(ht:Turn S w w')(hs:∀g o s,ao=some ⟨g,o,s⟩->¬S g):MidU w' B ao n c L:=by
 obtain⟨h1,h2,g,off,cur,rfl,h3,h4,h5⟩:=h;exact⟨h1,h2,g,off,cur,rfl,h3,(ht.2.2.2.2 g (Array.getElem?_eq_some_iff.1 h4).1 (hs g off none rfl)).trans h4,h5⟩
theorem MidU.later{w w':World}{B n c:Nat}{ao:Option Addr}{L:List Int}(h:MidU w B ao n c L)(hb:Below w.heap.size w w'):MidU w' B ao n c L:=h.turn (Turn.of_below (S:=fun _=>False) hb) fun _ _ _ _ h=>h
theorem MidU.blk{w:World}{B n c:Nat}{ao:Option Addr}{L:List Int}(h:MidU w B ao n c L):∃g off,ao=some ⟨g,off,none⟩/\B<=g/\g<w.heap.size/\∀i,i<n->w.cell? ⟨g,off+i,none⟩=some (.int .u64 (L.getD i 0)):=by
 obtain⟨h1,h2,g,off,cur,rfl,h3,h4,h5,h6⟩:=h;exact⟨g,off,rfl,h3,(Array.getElem?_eq_some_iff.1 h4).1,fun i hi=>(cell_of_row _ _ _ _ _ _ h4).trans (h6 i hi)⟩
theorem MidU.of_new{w:World}{B g:Nat}{x:Int}(hB:B<=g)(h:w.heap[g]? =some (.cells #[.int .u64 x] 35 (0,0))):MidU w B (some ⟨g,0,none⟩) 1 1 [x]:=
 ⟨rfl,lr,g,0,_,rfl,hB,h,by simp,fun i hi=>by
  have h0:i=0:=by omega
  subst h0
  rfl⟩
theorem MidU.tail{w:World}{B g off n c:Nat}{x:Int}{L:List Int}(h:MidU w B (some ⟨g,off,none⟩) (n+1) (c+1) (x::L)):MidU w B (some ⟨g,off+1,none⟩) n c L:=by
 obtain⟨h1,h2,g',off',cur,e,h3,h4,h5,h6⟩:=h;cases e;refine⟨by simpa using h1,by omega,g,off+1,cur,rfl,h3,h4,by omega,fun i hi=>?_⟩;have:=h6 (i+1) (by omega);rw[show off+1+i=off+(i+1) by omega,this]
 rfl
theorem MidU.last{w:World}{B g off:Nat}{x:Int}{L:List Int}(h:MidU w B (some ⟨g,off,none⟩) 1 1 (x::L)):MidU w B (some ⟨g,off,none⟩) 0 0 L:=by
 obtain⟨h1,h2,g',off',cur,e,h3,h4,h5,h6⟩:=h;cases e;exact⟨by simpa using h1,lr,g,off,cur,rfl,h3,h4,by omega,fun i hi=>absurd hi (Nat.not_lt_zero _)⟩
theorem MidU.push{w:World}{B n c:Nat}{ao:Option Addr}{L:List Int}(h:MidU w B ao n c L)(hB:B<=w.heap.size)(hn:n<=1000000)(x:Int)(a:Addr)(hx:w.cell? a=some (.int .u64 x))(ty:TypeId):
  ∃ao' c' w',(Builtin.append_ #[22,22] ty #[.slice ao n c,.slice (some a) 1 1]).run Tryz.prog w=.ok (.slice ao' (n+1) c') w'/\MidU w' B ao' (n+1) c' (L++[x])/\Turn (fun k=>∃o s,ao=some ⟨k,o,s⟩) w w'/\(∀ k o s,ao'=some ⟨k,o,s⟩->(∃ o s,ao=some ⟨k,o,s⟩)∨w.heap.size<=k):=by
 obtain⟨i0,hi,hz0,hz1,hz2⟩:=info_parts info_u;obtain⟨h1,h2,g,off,cur,rfl,h3,h4,h5,h6⟩:=h;have hnews:∀j u,([.int .u64 x]:List Value)[j]? =some u->w.cell? (a.add j)=some u:=fun j u hj=>by
  cases j with
  |zero=>simp at hj;subst hj;exact hx
  |succ j=>simp at hj
 have hs:Src Tryz.prog i0.size 22 (.slice (some a) 1 1) 1 [.int .u64 x] w:=Src.ofSlice w Tryz.underlying22 a 1 1 _ (by rw[hz1];rfl) hnews (by simp[Value.oneCell']);have hget:(L++[x]).getD n 0=x:=by rw[List.getD_eq_getElem?_getD,List.getElem?_append_right (by omega),h1];simp
 have hold:∀i,i<n->(L++[x]).getD i 0=L.getD i 0:=fun i hi=>by rw[List.getD_eq_getElem?_getD,List.getElem?_append_left (by omega),List.getD_eq_getElem?_getD]
 by_cases hr:n<c
 ·have hcell:w.cell? ⟨g,off+n,none⟩=cur[off+n]? :=cell_of_row _ _ _ _ _ _ h4
  have hrun:=run_append_room_src (P:=Tryz.prog) w 22 22 ty 35 i0 Tryz.underlying22 hi g off n c (.slice (some a) 1 1) 1 [.int .u64 x] hs (by omega)
   (fun j hj=>by
    obtain rfl:j=0:=by simpa using hj
    rw[hz1,Nat.mul_one,Nat.add_zero,hcell,Array.getElem?_eq_getElem (by omega)];rfl)
   (fun j hj=>by rw[hz1];exact frozen_of_row _ _ _ _ _ h4)
  rw[hz1,Nat.mul_one]at hrun;have hset:w.setCells g (off+n) [.int .u64 x]=w.setCell ⟨g,off+n,none⟩ (.int .u64 x):=rfl;rw[hset]at hrun;have hheap:(w.setCell ⟨g,off+n,none⟩ (.int .u64 x)).heap[g]? =some (.cells (cur.setIfInBounds (off+n) (.int .u64 x)) 35 (0,0)):=by
   rw[Sort.setCell_eq];simp[Sort.mapBlock,Array.getElem?_modify,h4,Sort.onCells]
  refine⟨_,c,_,hrun,⟨by rw[List.length_append,h1];rfl,by omega,g,off,_,rfl,h3,hheap,by simpa using h5,fun i hi=>?_⟩,Turn.setCell (S:=fun k=>∃o s,some (⟨g,off,none⟩:Addr)=some ⟨k,o,s⟩) (a:=⟨g,off+n,none⟩) (Turn.refl _ _) ⟨off,none,rfl⟩ _,fun k o s e=>.inl ⟨o,s,e⟩⟩;by_cases hin:i=n
  ·subst hin
   rw[hget,Array.getElem?_setIfInBounds_self_of_lt (by omega)]
  ·rw[Array.getElem?_setIfInBounds_ne (by omega),h6 i (by omega),hold i (by omega)]
 ·obtain rfl:c=n:=by omega
  have hl:(uV L).length=c*i0.size:=by rw[uV_len,hz1,h1,Nat.mul_one]
  have holds:∀j v,(uV L)[j]? =some v->w.cell? ((⟨g,off,none⟩:Addr).add j)=some v:=fun j v hj=>by
   have hjl:j<L.length:=by have:=(List.getElem?_eq_some_iff.1 hj).1;rwa[uV_len]at this
   rw[Addr.add_lit,cell_of_row _ _ _ _ _ _ h4,h6 j (by omega), <-hj,uV_get L j hjl]
  have hrun:=run_append_grow (P:=Tryz.prog) w 22 ty 35 i0 (.int .u64 0) Tryz.underlying22 hi hz0 ⟨g,off,none⟩ c c (uV L) hl holds a 1 1 [.int .u64 x] (by rw[hz1];rfl) hnews (by omega) (by omega) (growslice_fits (by omega) (by rw[hz2];omega));have hge:=grownCap_ge w (c+1) c 35;refine⟨_,_,_,hrun,⟨by rw[List.length_append,h1];rfl,hge,w.heap.size,0,_,rfl,hB,heap_alloc_new w.drew _,?_,fun i hi=>?_⟩,⟨rfl,rfl,rfl,by simp,fun k hk _=>Below.heap_alloc w.drew _ _ hk⟩,fun k o s e=>by cases e;exact .inr lr⟩
  ·simp only[Array.size_append,List.size_toArray,size_zeroCells,uV_len]
   simp[Value.cells];omega
  ·rw[Nat.zero_add,Array.getElem?_append_left (by simp[uV_len];omega)]
   by_cases hin:i=c
   ·subst hin
    rw[hget,Array.getElem?_append_right (by simp[uV_len];omega)];simp[uV_len,h1]
   ·rw[Array.getElem?_append_left (by simp[uV_len];omega),hold i (by omega)]
    have:=uV_get L i (by omega);simpa using this
theorem wpList_append_mid{ops:Array Oper}{rest:List Oper}{o:Oper}{a:Act}{Q:Exit->Act->World->Prop}{w:World}(hgd:o.guard=none)(s x:Operand)
  (ho:o.op=.call { callee:=.builtin .append,args:=#[s,x],argTypes:=#[22,22] }) {B n c:Nat} {ao:Option Addr} {L:List Int} (h:MidU w B ao n c L) (hB:B<=w.heap.size) (hn:n<=1000000) (y:Int) (ad:Addr) (hy:w.cell? ad=some (.int .u64 y))
  (hs:a.eval s=.slice ao n c) (hx:a.eval x=.slice (some ad) 1 1)
  (hK:∀ao' c' w',MidU w' B ao' (n+1) c' (L++[y])->Turn (fun k=>∃o s,ao=some ⟨k,o,s⟩) w w'->(∀ k o s,ao'=some ⟨k,o,s⟩->(∃ o s,ao=some ⟨k,o,s⟩)∨w.heap.size<=k)->wpList Tryz.prog ops Q rest (a.put o.dst (.slice ao' (n+1) c')) w'):wpList Tryz.prog ops Q (o::rest) a w:=by
 obtain⟨ao',c',w',hr,h1,h2,h3⟩:=h.push hB hn y ad hy o.type;refine wpList_plain hgd fun K hK'=>?_
 unfold Oper.wp;simp[execOp,ho,resolve,invoke,builtin,hs,hx,hr,Result.andThen];exact hK' _ _ (hK _ _ _ h1 h2 h3)
end
end Go.Proofs.YtpkoapmpknbgoaaGreat
namespace Go.Proofs.YtpkoapmpknbgoaaGreat.Wd
section
def stepsN(z:E2):Int:=max (max (z.1.natAbs:Int) (z.2.natAbs:Int)) ((z.1+z.2).natAbs:Int)
theorem steps_hex(z:E2)(k:Int):Hex k z↔stepsN z<=k:=by unfold Hex stepsN;omega
theorem hex_ring(z:E2)(k:Nat):(Hex k z/\¬Hex ((k:Int)-1) z)↔stepsN z=k:=by
 rw[steps_hex,steps_hex];omega
def dsE(a b:Nat):Int:=if isW a=true then(if isW b=true then(if rW a=rW b then 0 else 8)else 5)else 5
def dsN(a b:Nat):Int:=if dsE a b=0 then stepsN (subE (zW a) (zW b))else 0
end
end Go.Proofs.YtpkoapmpknbgoaaGreat.Wd
namespace Go.Proofs.YtpkoapmpknbgoaaGreat
section
open Go.RowKit Go.Lib Wd
theorem cv_sm(a:Nat):Sm 1073741824 (cvZ a):=by
 unfold cvZ;by_cases h:isW a=true
 ·rw[if_pos h]
  have h1:=(okB_iff _ _).1 (cell_word h).1;have h2:=(shapeB_iff _ _).1 h1.1;exact⟨h2.2.2.1,h2.2.2.2.1,h2.2.2.2.2.1,h2.2.2.2.2.2⟩
 ·rw[if_neg h];unfold Sm;simp
@[go_sem high] theorem run_max_three {P : Program} (w : World) (ts : Array TypeId) (t : TypeId) (k k' k'' : IntKind) (x y z : Int) :
  (Builtin.max_ ts t #[.int k x,.int k' y,.int k'' z]).run P w=.ok (.int k (max (max x y) z)) w:=by
 have e:∀x y:Int,(if y>x then y else x)=max x y:=fun x y=>by
  rw[Int.max_def]
  split <;> split <;> omega
 simp[Builtin.max_,Builtin.max2,e]
theorem unit_ne(s:Nat):¬((unitE s).1=0/\(unitE s).2=0):=by
 unfold unitE;split <;> simp
theorem line_nodup(c u:E2)(k:Nat)(hu:¬(u.1=0/\u.2=0)):(lineP c u k).Nodup:=by
 unfold lineP;refine List.pairwise_map.2 ((List.nodup_range (n:=k)).imp fun {a b} hab h=>hab ?_);unfold ptP at h;simp only[Prod.mk.injEq]at h;obtain⟨h1,h2⟩:=h;have e1:(a:Int)*u.1=b*u.1:=by omega
 have e2:(a:Int)*u.2=b*u.2:=by omega
 have:u.1≠0∨u.2≠0:=by omega
 rcases this with h|h
 ·have:=Int.eq_of_mul_eq_mul_right h e1;omega
 ·have:=Int.eq_of_mul_eq_mul_right h e2;omega
theorem ring_nodup(z:E2)(k:Nat):(ringL z k).Nodup:=by
 obtain⟨c0,c1,c2,c3,c4,c5⟩:=corn_at z k;unfold ringL
 split
 ·simp
 ·simp only[sidesP,List.nil_append,List.nodup_append,List.mem_append]
  refine⟨⟨⟨⟨⟨line_nodup _ _ _ (unit_ne _),line_nodup _ _ _ (unit_ne _),?_⟩,line_nodup _ _ _ (unit_ne _),?_⟩,line_nodup _ _ _ (unit_ne _),?_⟩,line_nodup _ _ _ (unit_ne _),?_⟩,line_nodup _ _ _ (unit_ne _),?_⟩
  all_goals
   rintro⟨a,b⟩ ha ⟨p,q⟩ hb he;simp only[Prod.mk.injEq]at he;obtain⟨rfl,rfl⟩:=he;simp only[lineP_mem,c0,c1,c2,c3,c4,c5,unitE,Prod.mk.injEq]at ha hb;obtain⟨j,h1,h2,h3⟩:=hb
  ·obtain⟨i,g1,g2,g3⟩:=ha;omega
  ·rcases ha with⟨i,g1,g2,g3⟩|⟨i,g1,g2,g3⟩ <;> omega
  ·rcases ha with(⟨i,g1,g2,g3⟩|⟨i,g1,g2,g3⟩)|⟨i,g1,g2,g3⟩ <;> omega
  ·rcases ha with((⟨i,g1,g2,g3⟩|⟨i,g1,g2,g3⟩)|⟨i,g1,g2,g3⟩)|⟨i,g1,g2,g3⟩ <;> omega
  ·rcases ha with(((⟨i,g1,g2,g3⟩|⟨i,g1,g2,g3⟩)|⟨i,g1,g2,g3⟩)|⟨i,g1,g2,g3⟩)|⟨i,g1,g2,g3⟩ <;> omega
theorem ring_steps(z y:E2)(k:Nat):y∈ringL z k↔stepsN (subE y z)=k:=by rw[ring_mem,hex_ring]
theorem all_steps(z y:E2)(f n:Nat):y∈allR z f n↔(f:Int)<=stepsN (subE y z)/\stepsN (subE y z)<f+n:=by
 induction n with
 |zero=>unfold allR;simp only[List.not_mem_nil,false_iff];omega
 |succ n ih=>
  show y∈allR z f n++ringL z (f+n)↔_;rw[List.mem_append,ih,ring_steps];omega
theorem all_nodup(z:E2)(f n:Nat):(allR z f n).Nodup:=by
 induction n with
 |zero=>exact List.nodup_nil
 |succ n ih=>
  show(allR z f n++ringL z (f+n)).Nodup;rw[List.nodup_append];refine⟨ih,ring_nodup _ _,fun a ha b hb e=>?_⟩;subst e;rw[all_steps]at ha;rw[ring_steps]at hb;omega
theorem tell_nodup{r:Nat}{L:List E2}(h:L.Nodup):(tellL r L).Nodup:=by
 unfold tellL;rw[List.nodup_iff_pairwise_ne,List.pairwise_map];refine(List.Pairwise.imp_of_mem (l:=L.filter fun z=>okB r z) (R:=(· ≠ ·)) ?_ (h.filter _));intro a b ha hb hab e;have oa:=(List.mem_filter.1 ha).2;have ob:=(List.mem_filter.1 hb).2;have e2:wordN r a=wordN r b:=by rw[Int.toNat_natCast]at e;omega
 exact hab (word_inj oa ob e2).2
theorem srt_up{l:List Int}(h:l.Nodup):Up (srt l):=by
 have hp:(srt l).Perm l:=List.mergeSort_perm l _;have hn:(srt l).Nodup:=hp.nodup_iff.2 h;have hs:=srt_sorted l;rw[List.nodup_iff_pairwise_ne]at hn;exact(hs.and hn).imp fun⟨h1,h2⟩=>by omega
theorem tell_mem{r:Nat}{L:List E2}{v:Int}:v∈tellL r L↔∃y,y∈L/\okB r y=true/\v=(wordN r y:Int):=by
 unfold tellL;rw[List.mem_map];constructor
 ·rintro⟨y,hy,rfl⟩
  obtain⟨h1,h2⟩:=List.mem_filter.1 hy;exact⟨y,h1,h2,by rw[Int.toNat_natCast]⟩
 ·rintro⟨y,h1,h2,rfl⟩
  exact⟨y,List.mem_filter.2 ⟨h1,h2⟩,by rw[Int.toNat_natCast]⟩
def eV(l:List E2):List Value:=l.flatMap fun c=>[.int .i64 c.1,.int .i64 c.2]
def eg(l:List E2)(k:Nat):E2:=l.getD k (0,0)
theorem eV_append(a b:List E2):eV (a++b)=eV a++eV b:=by simp[eV]
theorem eV_one(c:E2):eV [c]=[.int .i64 c.1,.int .i64 c.2]:=rfl
theorem eV_get:∀(l:List E2) (k:Nat),k<l.length->(eV l)[k*2]? =some (.int .i64 (eg l k).1)/\(eV l)[k*2+1]? =some (.int .i64 (eg l k).2)
 |[],k,h=>by simp at h
 |p::l,0,_=>by simp[eV,eg]
 |p::l,k+1,h=>by
  have ih:=eV_get l k (by simpa using h);have e:eV (p::l)=[.int .i64 p.1,.int .i64 p.2]++eV l:=rfl;have g:eg (p::l) (k+1)=eg l k:=rfl;rw[e,g,List.getElem?_append_right (by simp;omega),List.getElem?_append_right (by simp;omega)];simp only[List.length_cons,List.length_nil];rw[show (k+1)*2-(0+1+1)=k*2 by omega,show(k+1)*2+1-(0+1+1)=k*2+1 by omega];exact ih
def EAt(w:World)(ao:Option Addr)(l:List E2):Prop:=
 0<l.length->∃b off,ao=some ⟨b,off,none⟩/\b<w.heap.size/\∀k,k<l.length->
  w.cell? ⟨b,off+k*2,none⟩=some (.int .i64 (eg l k).1)/\w.cell? ⟨b,off+k*2+1,none⟩=some (.int .i64 (eg l k).2)
theorem EAt.below{w w':World}{ao:Option Addr}{l:List E2}(h:EAt w ao l)(hb:Below w.heap.size w w'):EAt w' ao l:=fun h0=>by
 obtain⟨b,off,e,hlt,hc⟩:=h h0;refine⟨b,off,e,Nat.lt_of_lt_of_le hlt hb.size,fun k hk=>?_⟩;rw[hb.cell (p:=⟨b,_,none⟩) hlt,hb.cell (p:=⟨b,_,none⟩) hlt];exact hc k hk
theorem eAt_own{w:World}{base n c:Nat}{ao:Option Addr}{l:List E2}(hn:n=l.length)(h:w.ownsRow base 37 2 (.slice ao n c) n (eV l)):EAt w ao l:=fun h0=>by
 subst hn;obtain⟨ao',c',e,_,hh⟩:=own_form h;cases e;obtain⟨g,rfl,_,hlt,hc⟩:=hh h0;exact⟨g,0,rfl,hlt,fun i hi=>by
  have:=eV_get l i hi;rw[Nat.zero_add];exact⟨hc _ _ this.1,hc _ _ this.2⟩⟩
theorem info_e:(Tryz.prog.info? 37).map (fun i=>(i.zero,i.size,i.bytes))=some (some (.agg #[.int .i64 0,.int .i64 0]),2,16):=by kernel_rfl
theorem take_e(V:List E2){k:Nat}(h:k<V.length):V.take (k+1)=V.take k++[eg V k]:=by
 unfold eg;rw[List.take_add_one,List.getElem?_eq_getElem h,List.getD_eq_getElem?_getD,List.getElem?_eq_getElem h]
 rfl
def besL(r:Int)(z:E2)(L:List E2):List Int:=setF (tellL r (L.map (addE z)))
theorem bes_eq{w0:Nat}{f n:Nat}{L:List E2}(hw:isW w0=true)(hL:∀e,e∈L↔(f:Int)<=stepsN e/\stepsN e<f+n):besL (cvR w0) (cvZ w0) L=srt (tellL (rW w0) (allR (zW w0) f n)):=by
 have hr:cvR w0=(rW w0:Int):=by unfold cvR;rw[if_pos hw]
 have hz:cvZ w0=zW w0:=by unfold cvZ;rw[if_pos hw]
 rw[hr,hz];refine(setF_up _).ext (srt_up (tell_nodup (all_nodup _ _ _))) fun v=>?_
 rw[setF_mem,srt_mem,tell_mem,tell_mem];constructor
 ·rintro⟨y,h1,h2,h3⟩
  obtain⟨e,he,rfl⟩:=List.mem_map.1 h1;refine⟨_,?_,h2,h3⟩;rw[all_steps,show subE (addE (zW w0) e) (zW w0)=e by unfold subE addE;refine Prod.ext ?_ ?_ <;> (simp only;omega)];exact(hL e).1 he
 ·rintro⟨y,h1,h2,h3⟩
  rw[all_steps]at h1;refine⟨y,List.mem_map.2 ⟨subE y (zW w0),(hL _).2 h1,?_⟩,h2,h3⟩;unfold subE addE;refine Prod.ext ?_ ?_ <;> (simp only;omega)
def unitL:List E2:=(List.range 6).map unitE
theorem unitL_mem(e:E2):e∈unitL↔((1:Nat):Int)<=stepsN e/\stepsN e<((1:Nat):Int)+(1:Nat):=by
 obtain⟨a,b⟩:=e;unfold unitL stepsN;simp only[List.mem_map,List.mem_range];constructor
 ·rintro⟨k,hk,h⟩
  rcases(show k=0∨k=1∨k=2∨k=3∨k=4∨k=5 by omega)with rfl|rfl|rfl|rfl|rfl|rfl <;> simp only[unitE,Prod.mk.injEq]at h <;> obtain⟨rfl,rfl⟩:=h <;> decide
 ·intro h
  rcases(show(a=1/\b=0)∨(a=0/\b=1)∨(a= -1/\b=1)∨(a= -1/\b=0)∨(a=0/\b= -1)∨(a=1/\b= -1) by omega)with⟨rfl,rfl⟩|⟨rfl,rfl⟩|⟨rfl,rfl⟩|⟨rfl,rfl⟩|⟨rfl,rfl⟩|⟨rfl,rfl⟩
  ·exact⟨0,by decide,rfl⟩
  ·exact⟨1,by decide,rfl⟩
  ·exact⟨2,by decide,rfl⟩
  ·exact⟨3,by decide,rfl⟩
  ·exact⟨4,by decide,rfl⟩
  ·exact⟨5,by decide,rfl⟩
theorem unitL_take{k:Nat}(h:k<6):unitL.take (k+1)=unitL.take k++[unitE k]:=by
 rw[List.take_add_one];congr 1;unfold unitL;rw[List.getElem?_map,List.getElem?_range h]
 rfl
theorem sm_steps{e:E2}{h:Int}(hs:stepsN e<=h):Sm h e:=((steps_hex _ _).2 hs).sm
theorem isW_cv{w0:Nat}:(isW w0=true/\cvE w0=0)∨(isW w0=false/\cvE w0=5):=by
 unfold cvE;by_cases h:isW w0=true
 ·exact .inl ⟨h,by rw[if_pos h]⟩
 ·exact .inr ⟨Bool.eq_false_iff.2 h,by rw[if_neg h]⟩
end
section
open Go.RowKit Go.Lib Go.Sort
def JoinedO(w:World)(l:List Int)(e:Ending)(w':World):Prop:=
 ∃ao c,e=.returned (.slice ao l.length c)/\w'.ownsRow w.heap.size 35 1 (.slice ao l.length c) l.length (uV l)/\Below w.heap.size w w'
theorem rset_own(ao:Option Addr)(c:Nat)(l:List Int)(w:World)(h:WordsAt w w.heap.size ao l)(hn:l.length<=1000000000):
  Calls Tryz.prog 12 #[.slice ao l.length c] w (JoinedO w (setF l)):=by
 obtain⟨i0,hi,hz0,hz1,hz2⟩:=info_parts info_u;have hsz1:(Tryz.prog.info? 35).map (·.size)=some 1:=by kernel_rfl
 obtain⟨n,hnn⟩:∃n,l.length=n:=⟨_,rfl⟩;have HN:=Hd hnn;have HW:=Hd h;rw[hnn]at hn ⊢;clear hnn h
 go_enter Tryz.func12,Tryz.ntmps12
 go_wp2
 go_loopw [3,4] (fun v i wr=>∃(k m:Nat),k<=n/\m<=k/\i=.int .i64 k/\Hid ((setF (l.take k)).length=m)/\wr.ownsRow w.heap.size 35 1 v m (uV (setF (l.take k)))/\Below w.heap.size w wr) (fun _ i _=>n-(intOf i).toNat)
 case atStart=>exact⟨0,0,Nat.zero_le _,lr,rfl,by show _=_;rw[List.take_zero,setF_nil];rfl,by rw[List.take_zero,setF_nil];exact World.ownsRow_nil _ _ _ _,br⟩
 case round=>
  obtain⟨k,m,hk,hm,rfl,HM0,hown,hnx⟩:=hrel;have hsz:=hnx.size;obtain⟨s,hs⟩:∃s,setF (l.take k)=s:=⟨_,rfl⟩;have HM:Hid (s.length=m):=by show _=_;rw[<- hs];exact HM0.out
  rw[hs]at hown;have HUP:Hid (Rising s):=by show Rising s;rw[<- hs];exact(setF_up _).rising
  have HS:=Hd hs;clear hs HM0;obtain⟨vo,vc,rfl,_,_⟩:=own_form hown;have HWD:=Hd (words_own HM.out.symm hown);have HOWN:=Hd hown;have HNX:=Hd hnx;by_cases hlt:k<n
  ·obtain⟨b,off,rfl,hb,hc⟩:=(HW.out.below hnx lr) (by rw[HN.out];omega)
   have c0:=hc k (by rw[HN.out];exact hlt);obtain⟨x,hx⟩:∃x,l.getD k 0=x:=⟨_,rfl⟩;rw[hx]at c0;have HX:=Hd hx;have hbw:b<wr.heap.size:=by omega
   have KEEP:Hid (∀ X:World,X.heap=wr.heap->X.cell? ⟨b,off+k,none⟩=some (.int .u64 x)/\b<X.heap.size/\WordsAt X X.heap.size vo s/\X.ownsRow w.heap.size 35 1 (.slice vo m vc) m (uV s)):=fun X hX=>by
    refine⟨?_,by rw[hX];exact hbw,?_,own_heap hX HOWN.out⟩
    ·rw[cell_heap hX];exact c0
    ·have:=words_heap hX HWD.out
     rwa[<- hX]at this
   clear hc hx hown hnx c0 hbw HWD hsz;obtain⟨wo,hwo⟩:∃wo:World,wo=wr:=⟨_,rfl⟩;subst hwo;go_wp2
   go_loopw [5,6] (fun i j wr=>∃lo hi:Nat,lo<=hi/\hi<=m/\i=.int .i64 lo/\j=.int .i64 hi/\Hid ((∀ k,k<lo->s.getD k 0<x)/\∀k,hi<=k->k<m->x<=s.getD k 0)/\Hid (wr.heap=wo.heap)/\Below w.heap.size w wr) (fun i j _=>(intOf j).toNat-(intOf i).toNat)
   case atStart=>exact⟨0,m,Nat.zero_le _,lr,rfl,rfl,⟨fun k hk=>by omega,fun k h1 h2=>by omega⟩,rfl,HNX.out⟩
   case round=>
    obtain⟨lo,hi',h1,h2,rfl,rfl,HA,HH,hbx⟩:=hrel;obtain⟨c0,hbw,hwd,hown⟩:=KEEP.out wr HH.out;have HWD:=Hd hwd;have HOWN:=Hd hown;have HBX:=Hd hbx;have hsz:=hbx.size;clear hwd hown hbx;by_cases hlt2:lo<hi'
    ·obtain⟨g1,off1,rfl,hg1,hc1⟩:=HWD.out (by rw[HM.out];omega)
     obtain⟨t,ht⟩:∃t,(lo+hi')/2=t:=⟨_,rfl⟩;have hm1:lo<=t:=by omega
     have hm2:t<hi':=by omega
     have hmI:((lo:Int)+(hi':Int))/2=(t:Int):=by omega
     have c1:=hc1 t (by rw[HM.out];omega);have HL1:Hid (s.getD t 0<x->∀k,k<t+1->s.getD k 0<x):=fun e k hk=>by
      have:=HUP.out k t (by omega) (by rw[HM.out];omega);omega
     have HL2:Hid (¬ s.getD t 0<x->∀k,t<=k->k<m->x<=s.getD k 0):=fun e k h3 h4=>by
      have:=HUP.out t k h3 (by rw[HM.out];exact h4);omega
     generalize s.getD t 0=y at c1 HL1 HL2;clear hc1 ht;by_cases hyx:y<x
     ·have HLL:=Hd (HL1.out hyx)
      clear HL1 HL2
      go_wp2_with(first|(with_reducible refine wp_region_lex (by kernel_rfl) (by kernel_rfl) ?_)|(with_reducible refine OnlyG.intro (by kernel_rfl) ?_))
      go_roundw
      case rel=>exact⟨t+1,hi',by omega,h2,by go_num,rfl,⟨HLL.out,HA.out.2⟩,HH.out,HBX.out.drew⟩
      case measure=>simp[intOf];omega
     ·have HLL:=Hd (HL2.out hyx)
      clear HL1 HL2
      go_wp2_with(first|(with_reducible refine wp_region_lex (by kernel_rfl) (by kernel_rfl) ?_)|(with_reducible refine OnlyG.intro (by kernel_rfl) ?_))
      go_roundw
      case rel=>exact⟨lo,t,by omega,by omega,rfl,by go_num,⟨HA.out.1,HLL.out⟩,HH.out,HBX.out.drew⟩
      case measure=>simp[intOf];omega
    ·obtain rfl:lo=hi':=by omega
     by_cases hin:lo<m/\s.getD lo 0=x
     ·obtain⟨g1,off1,rfl,hg1,hc1⟩:=HWD.out (by rw[HM.out];omega)
      have c1:=hc1 lo (by rw[HM.out];exact hin.1);obtain⟨y,hy⟩:∃y,s.getD lo 0=y:=⟨_,rfl⟩;have q1:(y==x)=true:=by rw[<- hy];simpa using hin.2
      rw[hy]at c1;have HOLD:Hid (setF (l.take (k+1))=s):=by
       show _=_;rw[setF_old (by rw[HN.out];exact hlt) (by rw[HS.out,HX.out, <-hin.2];exact getD_mem (by rw[HM.out];exact hin.1)),HS.out]
      have q0:decide (lo<m)=true:=by simpa using hin.1
      have hlm:=hin.1;clear hc1 hin hy
      go_wp2_with(first|(with_reducible refine wp_region_lex (by kernel_rfl) (by kernel_rfl) ?_)|(with_reducible refine OnlyG.intro (by kernel_rfl) ?_))
      go_roundw
      case rel=>exact⟨k+1,m,by omega,by omega,by go_num,by show _=_;rw[HOLD.out];exact HM.out,by rw[HOLD.out];exact HOWN.out,HBX.out.drew⟩
      case measure=>simp[intOf];omega
     ·have HPUT:Hid (setF (l.take (k+1))=s.take lo++x::s.drop lo):=by
       show _=_;rw[setF_put (by rw[HN.out];exact hlt) HS.out (lo:=lo) (by rw[HX.out];exact HA.out.1) (by
        rw[HX.out];intro j h3 h4;rw[HM.out]at h4;have e1:=HA.out.2 j h3 h4;have e2:=HUP.out lo j h3 (by rw[HM.out];exact h4);have e3:=HA.out.2 lo lr (by omega);by_cases e4:s.getD lo 0=x
        ·exact absurd ⟨by omega,e4⟩ hin
        ·omega),HX.out]
      have key:decide (lo<m)=false∨(lo<m/\decide (lo<m)=true/\∃g1 off1 y,vo=some ⟨g1,off1,none⟩/\g1<wr.heap.size/\wr.cell? ⟨g1,off1+lo,none⟩=some (.int .u64 y)/\(y==x)=false):=by
       by_cases e:lo<m
       ·refine .inr ⟨e,by simpa using e,?_⟩
        obtain⟨g1,off1,rfl,hg1,hc1⟩:=HWD.out (by rw[HM.out];omega);exact⟨g1,off1,_,rfl,hg1,hc1 lo (by rw[HM.out];exact e),by simpa using fun h=>hin ⟨e,h⟩⟩
       ·exact .inl (by simpa using e)
      clear hin hlt2;rcases key with q0|⟨hlm,q0,g1,off1,y,rfl,hg1,c1,q1⟩
      all_goals
       have hown:=HOWN.out
       go_upto_region 13 with(first|(with_reducible refine wp_region_lex (by kernel_rfl) (by kernel_rfl) ?_)|(with_reducible refine OnlyG.intro (by kernel_rfl) ?_)|(at_builtin;refine wpList_append_own _ rfl (.tmp 50) (.tmp 51) 22 rfl w.heap.size 35 i0 (.int .u64 0) 1 8 Tryz.underlying22 hi hz0 hz1 hz2 rfl (by decide) _ _ _ rfl (hown.alloc _) ⟨wr.heap.size,0,none⟩ 1 1 [.int .u64 0] rfl rfl (cells_new _ _ _ _ rfl) (by simp[Value.oneCell']) (by unfold maxLen;omega) (by omega) (by simp;omega) ?_;intro v' w3 hown1 hgrow _))
       have hbel:Below w.heap.size w w3:=below_append (HBX.out.drew.alloc hsz _) (hown.alloc _) (by simp;omega) hgrow;rcases hown1.2 with⟨_,h0⟩|⟨g,cap,⟨cur⟩,rfl,hbg,hheap,hcap,hmax,hcsz,htake⟩
       ·omega
       obtain⟨e,he⟩:∃e,s.drop lo=e:=⟨_,rfl⟩;have hdl:(uV e).length=m-lo:=by rw[uV_len, <-he,List.length_drop,HM.out]
       have hmin:(uV e).length=Nat.min (m+1-lo) (m-lo):=by rw[hdl];show _=min _ _;omega
       have hfit:lo+1+(uV e).length<=cur.length:=by
          rw[hdl];have:cur.length=cap:=by simpa using hcsz
          omega
       have HPOS:Hid (0<(uV e).length->(if cap=lo+1 then some (⟨g,0,none⟩:Addr)else some ⟨g,lo+1,none⟩)=some ⟨g,lo+1,none⟩/\∃ad,some (⟨g,lo,none⟩:Addr)=some ad/\∀j v,(uV e)[j]? =some v->w3.drew.cell? (ad.add j)=some v):=fun h0=>by
        refine⟨by rw[if_neg (by omega)],_,rfl,fun j v hj=>?_⟩;have hj':j<(uV e).length:=(List.getElem?_eq_some_iff.1 hj).1;have hadd:(⟨g,lo,none⟩:Addr).add j=⟨g,lo+j,none⟩:=by unfold Addr.add;split <;> simp_all
        rw[hadd,cell_heap (X:=w3.drew) (w:=w3) rfl,hown1.cellAt (lo+j) (by omega),List.getElem?_append_left (by rw[uV_len,HM.out];omega), <-hj, <-he];simp[uV]
       have HTK:Hid (cur.take (m+1)=uV s++[.int .u64 0]):=by show _=_;rw[<- htake,Nat.mul_one]
       have HCL:Hid (cur.length=cap):=by show _=_;simpa using hcsz
       have HDE:=Hd he;have hheap':w3.drew.heap[g]? =some (.cells cur.toArray 35 (0,0)):=hheap;have hbel':=hbel.drew;have hw1:IntKind.i64.wrap ((lo:Int)+1)=(lo:Int)+1:=IntWalk.i64_in _ (by omega);have hb1:(lo:Int)+1<=(m:Int)+1:=by omega
       have hb2:(lo:Int)<=(m:Int)+1:=by omega
       have hb0:(0:Int)<=(lo:Int)+1:=by omega
       have hne:¬cap=lo:=by omega
       clear htake hcsz hown1 hgrow hown he hdl
       go_region_law (refine step_copy_splice rfl (.tmp 56) (.tmp 59) 22 22 rfl 35 Tryz.underlying22 hsz1 (if cap=lo+1 then some (⟨g,0,none⟩:Addr)else some ⟨g,lo+1,none⟩) (some ⟨g,lo,none⟩) (m-lo) (cap-(lo+1)) (m+1-lo) (cap-lo) (by simp[Act.eval,Act.put]) (by simp[Act.eval,Act.put]) g (lo+1) cur 35 hheap' (uV e) hmin HPOS.out hfit (uV_cell _) w.heap.size w hbel' hbg ?_;intro w4 HG4 hb4)
       have hput:=HG4.out;have c4:w4.cell? ⟨b,off+k,none⟩=some (.int .u64 x):=(hb4.cell (p:=⟨b,off+k,none⟩) hb).trans ((HBX.out.cell (p:=⟨b,off+k,none⟩) hb).symm.trans c0);have hbw4:b<w4.heap.size:=by have:=hb4.size;omega
       have hg4:g<w4.heap.size:=(Array.getElem?_eq_some_iff.1 hput).1;have hsl:lo<(splice cur (lo+1) (uV e)).length:=by rw[length_splice _ _ _ hfit,HCL.out];omega
       have c5:w4.cell? ⟨g,lo,none⟩=some (splice cur (lo+1) (uV e))[lo]:=by
        rw[cell_of_row _ _ _ _ _ _ hput,List.getElem?_toArray,List.getElem?_eq_getElem hsl]
       have hf5:w4.frozen? ⟨g,lo,none⟩=false:=by simp[World.frozen?,hput]
       have HG5:=Hd (hput);generalize(splice cur (lo+1) (uV e))[lo]=y5 at c5;have HB5:Hid (Below w.heap.size w (w4.setCell ⟨g,lo,none⟩ (.int .u64 x))):=hb4.setCell hbg _;have HOWN5:Hid ((w4.setCell ⟨g,lo,none⟩ (.int .u64 x)).ownsRow w.heap.size 35 1 (.slice (some ⟨g,0,none⟩) (m+1) cap) (m+1) (uV (setF (l.take (k+1))))):=by
        have hh:w4.heap[g]? =some (.cells (splice cur (lo+1) (uV (s.drop lo))).toArray 35 (0,0)):=by rw[HDE.out];exact hput
        have:=own_put (x:=x) hbg HM.out h2 hcap hmax HCL.out HTK.out hh;rw[<- HPUT.out]at this;exact this
       have HLEN:Hid ((setF (l.take (k+1))).length=m+1):=by
        show _=_;rw[HPUT.out,List.length_append,List.length_cons,List.length_take,List.length_drop,HM.out];omega
       clear hput hb4 hsl hheap hheap' hbel hbel' hfit hmin
       go_wp2_with(first|(with_reducible refine wp_region_lex (by kernel_rfl) (by kernel_rfl) ?_)|(with_reducible refine OnlyG.intro (by kernel_rfl) ?_))
       go_roundw
       case rel=>exact⟨k+1,m+1,by omega,by omega,by go_num,HLEN.out,HOWN5.out,HB5.out⟩
       case measure=>simp[intOf];omega
  ·obtain rfl:k=n:=by omega
   have HT:Hid (s=setF l):=by show _=_;rw[<- HS.out, <-HN.out,List.take_length]
   have hwd:=words_own HM.out.symm hown;have hJ:Hid (JoinedO w (setF l) (.returned (.slice vo m vc)) wr):=⟨vo,vc,by rw[<- HT.out,HM.out],by rw[<- HT.out,HM.out];exact hown,hnx⟩;clear hwd hown hnx;go_wp2;go_ret;exact hJ.out
end
section
open Go.RowKit Go.Lib Wd
theorem beside_own(r:Int)(z:E2)(ao:Option Addr)(c:Nat)(L:List E2)(w:World)(h:EAt w ao L)(hz:Sm 1073741824 z)(hL:∀y∈L,Sm 1000 y)(hn:L.length<=5000000):
  Calls Tryz.prog 52 #[vC r z,.slice ao L.length c] w (JoinedO w (besL r z L)):=by
 obtain⟨i0,hi,hz0,hz1,hz2⟩:=info_parts info_u;have HE:=Hd h;have HS:=Hd hL;have HT1:=Hd (tellL_app r);have HT2:=Hd (tellL_one r);have HOF:=Hd (word_any r);have HOE:Hid (∀ z,ofE r z=if okB r z=true then 0 else 2):=fun z=>rfl
 have HBL:Hid (besL r z L=setF (tellL r (L.map (addE z)))):=rfl;have HMT:Hid (∀ k,k<L.length->(L.take (k+1)).map (addE z)=(L.take k).map (addE z)++[((z.1+(eg L k).1),(z.2+(eg L k).2))]):=fun k hk=>by rw[take_e L hk,List.map_append];rfl
 have HEM:Hid (∀ k,k<L.length->Sm 1000 (eg L k)):=fun k hk=>hL _ (by unfold eg;rw[List.getD_eq_getElem?_getD,List.getElem?_eq_getElem hk];exact List.getElem_mem hk)
 obtain⟨n,hnn⟩:∃n,L.length=n:=⟨_,rfl⟩;have HN:=Hd hnn;have HTL:Hid (∀ k,n<=k->L.take k=L):=fun k hk=>List.take_of_length_le (by rw[hnn];exact hk)
 rw[hnn]at hn HMT HEM ⊢;unfold Sm at hz;obtain⟨z1,z2,z3,z4⟩:=hz;have HTR:Hid (Tri (w.alloc (.cells #[.int .i64 r,.int .i64 z.1,.int .i64 z.2] 39)) w.heap.size r z):=heap_new _ _ _ rfl;have HAL:Hid (Below w.heap.size w (w.alloc (.cells #[.int .i64 r,.int .i64 z.1,.int .i64 z.2] 39))):=br.alloc lr _;clear hnn h hL;simp only[vC]at*
 go_enter Tryz.func52,Tryz.ntmps52
 go_upto_region 1 with(fail)
 generalize w.alloc (.cells #[.int .i64 r,.int .i64 z.1,.int .i64 z.2] 39)=w2 at *;have HE2:=Hd (HE.out.below HAL.out);have hw2:=HTR.out.lt;go_wp2
 go_loopw [5,6] (fun sl i wr=>∃(k m:Nat) (bo:Option Addr) (d:Nat),k<=n/\i=.int .i64 k/\m<=k/\sl=.slice bo m d/\Hid ((tellL r ((L.take k).map (addE z))).length=m)/\Hid (wr.ownsRow w2.heap.size 35 1 (.slice bo m d) m (uV (tellL r ((L.take k).map (addE z))))/\Below w2.heap.size w2 wr)) (fun _ i _=>n-(intOf i).toNat)
 case atStart=>exact⟨0,0,_,_,by omega,rfl,by omega,rfl,rfl,World.ownsRow_nil _ _ _ _,br⟩
 case round=>
  obtain⟨k,m,bo,d,hk,rfl,hmk,rfl,HLEN,HI⟩:=hrel;by_cases hlt:k<n
  ·obtain⟨g,off,rfl,hg,hc⟩:=(HE2.out.below HI.out.2) (by rw[HN.out];omega)
   obtain⟨c0,c1⟩:=hc k (by rw[HN.out];exact hlt);have hy:=HEM.out k hlt;have HMK:=Hd (HMT.out k hlt);generalize eg L k=y at *;unfold Sm at hy;obtain⟨y1,y2,y3,y4⟩:=hy;have HTX:=Hd (HTR.out.later HI.out.2);have HCX:Hid (∀ wx,Below wr.heap.size wr wx->Tri wx w.heap.size r z/\wx.cell? ⟨g,off+k*2,none⟩=some (.int .i64 y.1)/\wx.cell? ⟨g,off+k*2+1,none⟩=some (.int .i64 y.2)):=fun wx hx=>⟨HTX.out.later hx,(hx.cell (p:=⟨g,_,none⟩) hg).trans c0,(hx.cell (p:=⟨g,_,none⟩) hg).trans c1⟩
   obtain⟨t0,t1,t2,t3,t4,t5,t6⟩:=HTX.out.cells;have HW:=Hd (HOF.out (z.1+y.1,z.2+y.2));have HT2z:=Hd (HT2.out (z.1+y.1,z.2+y.2));have HOEz:=Hd (HOE.out (z.1+y.1,z.2+y.2));clear hc
   go_upto_region 5 with(fail)
   clear c0 c1 t0 t1 t2 t3 t4 t5 HTX;obtain⟨v,hv⟩:∃v,ofW r (z.1+y.1,z.2+y.2)=v:=⟨_,rfl⟩;obtain⟨ev,hev⟩:∃v,ofE r (z.1+y.1,z.2+y.2)=v:=⟨_,rfl⟩;rw[hv]at HW HT2z;rw[hev]at HW HOEz;clear hv hev;simp only at HW;refine wp_region_inv (fun w w'=>Below w.heap.size w w') (fun qi_ qv_ _=>qv_=([.pointer (some ⟨w.heap.size,0,none⟩),.int .i64 r,.pointer (some ⟨w.heap.size,1,none⟩),.pointer (some ⟨w.heap.size,1,none⟩),.int .i64 z.1,.slice (some ⟨g,off,none⟩) n c,.int .i64 k,.pointer (some ⟨g,off+k*2,none⟩),.pointer (some ⟨g,off+k*2,none⟩),.int .i64 y.1,.int .i64 (z.1+y.1),.pointer (some ⟨w.heap.size,1,none⟩),.pointer (some ⟨w.heap.size,2,none⟩),.int .i64 z.2,.slice (some ⟨g,off,none⟩) n c,.int .i64 k,.pointer (some ⟨g,off+k*2,none⟩),.pointer (some ⟨g,off+k*2+1,none⟩),.int .i64 y.2,.int .i64 (z.2+y.2),.agg #[.int .i64 (z.1+y.1),.int .i64 (z.2+y.2)],.agg #[.int .i64 r,.int .i64 (z.1+y.1),.int .i64 (z.2+y.2)],.tuple #[.int .u64 v,.int .i64 ev],.tuple #[.int .u64 v,.int .i64 ev],.int .u64 v,.int .i64 ev,.int .u64 v,.int .i64 ev]:List Value).getD qi_ undef) (by kernel_rfl) (by kernel_rfl) (fun _=>br) (fun _ _ _ h1 h2=>below_later h1 h1.size h2) (fun _ _ _ _ _ _ h=>h) ?_;refine inv_cons (fun wx hg hd=>?_) (fun v0=>?_)
   ·have hx:=hxo wr hg
    clear hd hg;go_wp2;exact⟨_,rfl,br,rfl⟩
   (try simp only[pq])
   refine inv_cons (fun wx hg hd=>?_) (fun v1=>?_)
   ·have hx:=hxo wr hg
    (try cases gk 0 hd (by decide) rfl rfl)
    clear hd hg;obtain⟨k0,k1,k2⟩:=HCX.out _ hx;obtain⟨t0,t1,t2,t3,t4,t5,t6⟩:=k0.cells;clear k0;go_wp2;exact⟨_,rfl,br,rfl⟩
   (try simp only[pq])
   refine inv_cons (fun wx hg hd=>?_) (fun v2=>?_)
   ·have hx:=hxo wr hg
    clear hd hg;go_wp2;exact⟨_,rfl,br,rfl⟩
   (try simp only[pq])
   refine inv_cons (fun wx hg hd=>?_) (fun v3=>?_)
   ·have hx:=hxo wr hg
    (try cases gk 2 hd (by decide) rfl rfl)
    clear hd hg;go_wp2;exact⟨_,rfl,br,rfl⟩
   (try simp only[pq])
   refine inv_cons (fun wx hg hd=>?_) (fun v4=>?_)
   ·have hx:=hxo wr hg
    (try cases gk 3 hd (by decide) rfl rfl)
    clear hd hg;obtain⟨k0,k1,k2⟩:=HCX.out _ hx;obtain⟨t0,t1,t2,t3,t4,t5,t6⟩:=k0.cells;clear k0;go_wp2;exact⟨_,rfl,br,rfl⟩
   (try simp only[pq])
   refine inv_cons (fun wx hg hd=>?_) (fun v5=>?_)
   ·have hx:=hxo wr hg
    clear hd hg;go_wp2;exact⟨_,rfl,br,rfl⟩
   (try simp only[pq])
   refine inv_cons (fun wx hg hd=>?_) (fun v6=>?_)
   ·have hx:=hxo wr hg
    clear hd hg;go_wp2;exact⟨_,rfl,br,rfl⟩
   (try simp only[pq])
   refine inv_cons (fun wx hg hd=>?_) (fun v7=>?_)
   ·have hx:=hxo wr hg
    (try cases gk 5 hd (by decide) rfl rfl)
    (try cases gk 6 hd (by decide) rfl rfl)
    clear hd hg;go_wp2;exact⟨_,rfl,br,rfl⟩
   (try simp only[pq])
   refine inv_cons (fun wx hg hd=>?_) (fun v8=>?_)
   ·have hx:=hxo wr hg
    (try cases gk 7 hd (by decide) rfl rfl)
    clear hd hg;go_wp2;exact⟨_,rfl,br,rfl⟩
   (try simp only[pq])
   refine inv_cons (fun wx hg hd=>?_) (fun v9=>?_)
   ·have hx:=hxo wr hg
    (try cases gk 8 hd (by decide) rfl rfl)
    clear hd hg;obtain⟨k0,k1,k2⟩:=HCX.out _ hx;clear k0;go_wp2;exact⟨_,rfl,br,rfl⟩
   (try simp only[pq])
   refine inv_cons (fun wx hg hd=>?_) (fun v10=>?_)
   ·have hx:=hxo wr hg
    (try cases gk 4 hd (by decide) rfl rfl)
    (try cases gk 9 hd (by decide) rfl rfl)
    clear hd hg;go_wp2;exact⟨_,rfl,br,rfl⟩
   (try simp only[pq])
   refine inv_cons (fun wx hg hd=>?_) (fun v11=>?_)
   ·have hx:=hxo wr hg
    clear hd hg;go_wp2;exact⟨_,rfl,br,rfl⟩
   (try simp only[pq])
   refine inv_cons (fun wx hg hd=>?_) (fun v12=>?_)
   ·have hx:=hxo wr hg
    (try cases gk 11 hd (by decide) rfl rfl)
    clear hd hg;go_wp2;exact⟨_,rfl,br,rfl⟩
   (try simp only[pq])
   refine inv_cons (fun wx hg hd=>?_) (fun v13=>?_)
   ·have hx:=hxo wr hg
    (try cases gk 12 hd (by decide) rfl rfl)
    clear hd hg;obtain⟨k0,k1,k2⟩:=HCX.out _ hx;obtain⟨t0,t1,t2,t3,t4,t5,t6⟩:=k0.cells;clear k0;go_wp2;exact⟨_,rfl,br,rfl⟩
   (try simp only[pq])
   refine inv_cons (fun wx hg hd=>?_) (fun v14=>?_)
   ·have hx:=hxo wr hg
    clear hd hg;go_wp2;exact⟨_,rfl,br,rfl⟩
   (try simp only[pq])
   refine inv_cons (fun wx hg hd=>?_) (fun v15=>?_)
   ·have hx:=hxo wr hg
    clear hd hg;go_wp2;exact⟨_,rfl,br,rfl⟩
   (try simp only[pq])
   refine inv_cons (fun wx hg hd=>?_) (fun v16=>?_)
   ·have hx:=hxo wr hg
    (try cases gk 14 hd (by decide) rfl rfl)
    (try cases gk 15 hd (by decide) rfl rfl)
    clear hd hg;go_wp2;exact⟨_,rfl,br,rfl⟩
   (try simp only[pq])
   refine inv_cons (fun wx hg hd=>?_) (fun v17=>?_)
   ·have hx:=hxo wr hg
    (try cases gk 16 hd (by decide) rfl rfl)
    clear hd hg;go_wp2;exact⟨_,rfl,br,rfl⟩
   (try simp only[pq])
   refine inv_cons (fun wx hg hd=>?_) (fun v18=>?_)
   ·have hx:=hxo wr hg
    (try cases gk 17 hd (by decide) rfl rfl)
    clear hd hg;obtain⟨k0,k1,k2⟩:=HCX.out _ hx;clear k0;go_wp2;exact⟨_,rfl,br,rfl⟩
   (try simp only[pq])
   refine inv_cons (fun wx hg hd=>?_) (fun v19=>?_)
   ·have hx:=hxo wr hg
    (try cases gk 13 hd (by decide) rfl rfl)
    (try cases gk 18 hd (by decide) rfl rfl)
    clear hd hg;go_wp2;exact⟨_,rfl,br,rfl⟩
   (try simp only[pq])
   refine inv_cons (fun wx hg hd=>?_) (fun v20=>?_)
   ·have hx:=hxo wr hg
    (try cases gk 10 hd (by decide) rfl rfl)
    (try cases gk 19 hd (by decide) rfl rfl)
    clear hd hg;go_wp2;exact⟨_,rfl,br,rfl⟩
   (try simp only[pq])
   refine inv_cons (fun wx hg hd=>?_) (fun v21=>?_)
   ·have hx:=hxo wr hg
    (try cases gk 1 hd (by decide) rfl rfl)
    (try cases gk 20 hd (by decide) rfl rfl)
    clear hd hg;go_wp2;exact⟨_,rfl,br,rfl⟩
   (try simp only[pq])
   refine inv_cons (fun wx hg hd=>?_) (fun v22=>?_)
   ·have hx:=hxo wr hg
    (try cases gk 21 hd (by decide) rfl rfl)
    clear hd hg
    go_wp2_with fail
    refine(HW.out _).mono ?_;rintro e w' ⟨rfl,hb⟩;go_wp2;exact⟨_,rfl,hb,rfl⟩
   (try simp only[pq])
   refine inv_cons (fun wx hg hd=>?_) (fun v23=>?_)
   ·have hx:=hxo wr hg
    (try cases gk 22 hd (by decide) rfl rfl)
    clear hd hg;go_wp2;exact⟨_,rfl,br,rfl⟩
   (try simp only[pq])
   refine inv_cons (fun wx hg hd=>?_) (fun v24=>?_)
   ·have hx:=hxo wr hg
    (try cases gk 23 hd (by decide) rfl rfl)
    clear hd hg;go_wp2;exact⟨_,rfl,br,rfl⟩
   (try simp only[pq])
   refine inv_cons (fun wx hg hd=>?_) (fun v25=>?_)
   ·have hx:=hxo wr hg
    (try cases gk 23 hd (by decide) rfl rfl)
    clear hd hg;go_wp2;exact⟨_,rfl,br,rfl⟩
   (try simp only[pq])
   refine inv_cons (fun wx hg hd=>?_) (fun v26=>?_)
   ·have hx:=hxo wr hg
    (try cases gk 24 hd (by decide) rfl rfl)
    clear hd hg;go_wp2;exact⟨_,rfl,br,rfl⟩
   (try simp only[pq])
   refine inv_cons (fun wx hg hd=>?_) (fun v27=>?_)
   ·have hx:=hxo wr hg
    (try cases gk 25 hd (by decide) rfl rfl)
    clear hd hg;go_wp2;exact⟨_,rfl,br,rfl⟩
   (try simp only[pq])
   refine inv_done (fun wx hg hd=>?_);have hx:=hxo wr hg
   cases gl hd rfl
   clear hd hg
   (try go_simp)
   have hown:=own_later HI.out.1 hx;have HB8:=Hd (HI.out.2.trans (hx.mono HI.out.2.size));have hz8:=HB8.out.size;have HTA:=Hd (HT1.out ((L.take k).map (addE z)) [(z.1+y.1,z.2+y.2)]);clear hx HI HCX;by_cases hokz:okB r (z.1+y.1,z.2+y.2)=true
   ·have HNX:Hid (tellL r ((L.take (k+1)).map (addE z))=tellL r ((L.take k).map (addE z))++[(v:Int)]):=by show _=_;rw[HMK.out,HTA.out,HT2z.out,if_pos hokz]
    have h0E:ev=0:=by rw[HOEz.out,if_pos hokz]
    subst h0E
    go_wp2_with(at_builtin;refine wpList_append_own _ rfl (.tmp 43) (.tmp 45) 22 rfl w2.heap.size 35 i0 (.int .u64 0) 1 8 Tryz.underlying22 hi hz0 hz1 hz2 rfl (by decide) _ _ _ rfl (hown.alloc _) ⟨wx.heap.size,0,none⟩ 1 1 [.int .u64 v] rfl rfl (cells_new _ _ _ _ rfl) (by simp[Value.oneCell']) (by unfold maxLen;omega) (by omega) (by simp;omega) ?_;intro v' w9 hown1 hgrow _)
    have HB9:Hid (Below w2.heap.size w2 w9):=below_append (HB8.out.alloc (by omega) (.cells #[.int .u64 v] 35)) (hown.alloc (.cells #[.int .u64 v] 35)) (by simp;omega) hgrow;obtain⟨ao',c',rfl,_⟩:=own_form hown1;have ho9:w9.ownsRow w2.heap.size 35 1 (.slice ao' (m+1) c') (m+1) (uV (tellL r ((L.take (k+1)).map (addE z)))):=by rw[HNX.out];simpa[uV]using hown1
    have HO9:=Hd ho9;have HLN:Hid ((tellL r ((L.take (k+1)).map (addE z))).length=m+1):=by show _=_;rw[HNX.out,List.length_append,HLEN.out];rfl
    clear hown1 hgrow hown ho9;go_wp2
    go_roundw
    case rel=>exact⟨k+1,m+1,ao',c',by omega,by go_num,by omega,rfl,HLN.out,HO9.out,HB9.out⟩
    case measure=>simp[intOf];omega
   ·have HNX:Hid (tellL r ((L.take (k+1)).map (addE z))=tellL r ((L.take k).map (addE z))):=by show _=_;rw[HMK.out,HTA.out,HT2z.out,if_neg hokz,List.append_nil]
    have h0E:ev=2:=by rw[HOEz.out,if_neg hokz]
    subst h0E;have HLN:Hid ((tellL r ((L.take (k+1)).map (addE z))).length=m):=by show _=_;rw[HNX.out,HLEN.out]
    have HO7:=Hd hown;rw[<- HNX.out]at HO7;clear hown;go_wp2
    go_roundw
    case rel=>exact⟨k+1,m,bo,d,by omega,by go_num,by omega,rfl,HLN.out,HO7.out,HB8.out⟩
    case measure=>simp[intOf];omega
  ·have hkn:n<=k:=by omega
   rw[HTL.out k hkn]at HLEN HI;have hwo:=words_own HLEN.out.symm HI.out.1;have HSE:=Hd (rset_own bo d _ wr hwo (by rw[HLEN.out];omega));rw[HLEN.out, <-HBL.out]at HSE;have HB8:=Hd (HAL.out.trans (HI.out.2.mono HAL.out.size));clear hwo HI HLEN
   go_wp2_with fail
   refine HSE.out.mono ?_;rintro e w5 ⟨qo,q,rfl,hq,hb5⟩;have HF:Hid (JoinedO w (besL r z L) (.returned (.slice qo (besL r z L).length q)) w5):=⟨qo,q,rfl,own_base hq HB8.out.size,HB8.out.trans (hb5.mono HB8.out.size)⟩;clear hq hb5;go_wp2;go_ret;exact HF.out
def ToldOwn(w:World)(L:List Int)(E:Int)(e:Ending)(w':World):Prop:=∃ao c,e=.returned (.tuple #[.slice ao L.length c,.int .i64 E])/\w'.ownsRow w.heap.size 35 1 (.slice ao L.length c) L.length (uV L)/\Below w.heap.size w w'
theorem ToldOwn.nil{w w':World}{E:Int}(h:Below w.heap.size w w'):ToldOwn w [] E (.returned (.tuple #[.slice none 0 0,.int .i64 E])) w':=⟨Option.none,0,rfl,World.ownsRow_nil _ _ _ _,h⟩
theorem rnei_own(w0:Nat)(hw0:w0<18446744073709551616)(w:World):Calls Tryz.prog 24 #[.int .u64 w0] w (ToldOwn w (rgsL w0 1 1 1) (rgsE w0 1 1)):=by
 obtain⟨i1,hj,hy0,hy1,hy2⟩:=info_parts info_e;have HCE:=Hd (rcell_any w0 hw0);have hsm:=cv_sm w0;rcases isW_cv (w0:=w0)with⟨hW,hE⟩|⟨hW,hE⟩
 ·rw[hE]at HCE
  have e1:rgsE w0 1 1=0:=by unfold rgsE;rw[if_pos hW,if_neg (by omega),if_neg (by omega)]
  have e2:rgsL w0 1 1 1=besL (cvR w0) (cvZ w0) unitL:=by
   unfold rgsL;rw[if_pos e1];exact(bes_eq hW unitL_mem).symm
  rw[e1,e2];have HBE:=Hd (fun ao c w (h:EAt w ao unitL)=>beside_own (cvR w0) (cvZ w0) ao c unitL w h hsm (fun y hy=>sm_steps (by have:=((unitL_mem y).1 hy).2;omega)) (by decide));have HUT:=Hd (fun k (h:k<6)=>unitL_take h);have HUL:Hid (unitL.length=6):=by show _=_;decide
  generalize besL (cvR w0) (cvZ w0) unitL=B at *;generalize unitL=L at *;generalize cvR w0=R at *;generalize cvZ w0=z at *;clear e1 e2 hE hW hsm;simp only[vC]at*
  go_enter Tryz.func24,Tryz.ntmps24
  go_wp2_with fail
  refine(HCE.out _).mono ?_;rintro e w2 ⟨rfl,hb2⟩;have HB:Hid (Below w.heap.size w (w2.alloc (.cells #[.int .i64 R,.int .i64 z.1,.int .i64 z.2] 39))):=hb2.alloc hb2.size _;have HC:Hid (Tri (w2.alloc (.cells #[.int .i64 R,.int .i64 z.1,.int .i64 z.2] 39)) w2.heap.size R z):=heap_new _ _ _ rfl;clear hb2
  go_upto_region 4 with(fail)
  generalize w2.alloc (.cells #[.int .i64 R,.int .i64 z.1,.int .i64 z.2] 39)=w3 at *;have hwl:=HC.out.lt;go_wp2
  go_loopw [6,7] (fun sl i wr=>∃(k:Nat) (ao:Option Addr) (c:Nat),k<=6/\i=.int .i64 k/\sl=.slice ao k c/\Hid (wr.ownsRow w3.heap.size 37 2 (.slice ao k c) k (eV (L.take k))/\Below w3.heap.size w3 wr)) (fun _ i _=>6-(intOf i).toNat)
  case atStart=>exact⟨0,_,_,by omega,rfl,rfl,World.ownsRow_nil _ _ _ _,br⟩
  case round=>
   obtain⟨k,ao,c,hk,rfl,rfl,HI⟩:=hrel;by_cases hlt:k<6
   ·have HUN:=Hd (runit_in k hlt)
    have HTK:=Hd (HUT.out k hlt);simp only[vE]at HUN;generalize unitE k=u at*
    go_wp2_with fail
    refine(HUN.out _).mono ?_;rintro e w5 ⟨rfl,hb5⟩;have hown:=own_later HI.out.1 hb5;have HB5:=Hd (HI.out.2.trans (hb5.mono HI.out.2.size));have hz5:=HB5.out.size;clear HI hb5
    go_wp2_with(at_builtin;refine wpList_append_own _ rfl (.tmp 20) (.tmp 23) 86 rfl w3.heap.size 37 i1 (.agg #[.int .i64 0,.int .i64 0]) 2 16 Tryz.underlying86 hj hy0 hy1 hy2 rfl (by decide) _ _ _ rfl (hown.alloc _) ⟨w5.heap.size,0,none⟩ 1 1 [.int .i64 u.1,.int .i64 u.2] rfl rfl (cells_new _ _ _ _ rfl) (by simp[Value.oneCell']) (by unfold maxLen;omega) (by omega) (by simp;omega) ?_;intro v' w9 hown1 hgrow _)
    have HB9:Hid (Below w3.heap.size w3 w9):=below_append (HB5.out.alloc (by omega) (.cells #[.int .i64 u.1,.int .i64 u.2] 37)) (hown.alloc (.cells #[.int .i64 u.1,.int .i64 u.2] 37)) (by simp;omega) hgrow;obtain⟨ao',c',rfl,_⟩:=own_form hown1;have ho9:w9.ownsRow w3.heap.size 37 2 (.slice ao' (k+1) c') (k+1) (eV (L.take (k+1))):=by rw[HTK.out,eV_append,eV_one];exact hown1
    have HO9:=Hd ho9;clear hown1 hgrow hown ho9;go_wp2
    go_roundw
    case rel=>exact⟨k+1,ao',c',by omega,by go_num,rfl,HO9.out,HB9.out⟩
    case measure=>simp[intOf];omega
   ·have hk6:6<=k:=by omega
    have hown:=HI.out.1;rw[show L.take k=L from List.take_of_length_le (by rw[HUL.out];exact hk6)]at hown;have HSE:=Hd (HBE.out ao c wr (eAt_own (by rw[HUL.out];omega) hown));rw[show L.length=k by rw[HUL.out];omega]at HSE;have HBX:=Hd (HB.out.trans (HI.out.2.mono HB.out.size));obtain⟨t0,t1,t2,t3,t4,t5,t6⟩:=(HC.out.later HI.out.2).cells;clear hown HI
    go_wp2_with fail
    refine HSE.out.mono ?_;rintro e w5 ⟨qo,q,rfl,hq,hb5⟩;have HF:Hid (ToldOwn w B 0 (.returned (.tuple #[.slice qo B.length q,.int .i64 0])) w5):=⟨qo,q,rfl,own_base hq HBX.out.size,HBX.out.trans (hb5.mono HBX.out.size)⟩;clear hq hb5;go_wp2;go_ret2;exact HF.out
 ·have e1:rgsE w0 1 1=5:=by unfold rgsE;rw[if_neg (by rw[hW];decide)]
  have e2:rgsL w0 1 1 1=[]:=by unfold rgsL;rw[e1];rfl
  rw[e1,e2];rw[hE]at HCE;generalize cvR w0=R at *;generalize cvZ w0=z at *;clear e1 e2 hE hW hsm;simp only[vC]at*
  go_enter Tryz.func24,Tryz.ntmps24
  go_wp2_with fail
  refine(HCE.out _).mono ?_;rintro e w2 ⟨rfl,hb2⟩;have HB:Hid (Below w.heap.size w (w2.alloc (.cells #[.int .i64 R,.int .i64 z.1,.int .i64 z.2] 39))):=hb2.alloc hb2.size _;clear hb2;go_wp2;go_ret2;exact ToldOwn.nil HB.out
end
end Go.Proofs.YtpkoapmpknbgoaaGreat
