/- Joined: FhC, FhM, CvD, CvE, CvF, FhL, FlA, FlB, FlC, WdX, RfX, Lex9: contracts and plain laws, each with its own heading below. -/
import Derived.Test.YtpkoapmpknbgoaaGreatPackBG
import Derived.DeepKeys4
import Derived.Maps.OwnSet
import Derived.WideKeyEntry
import Derived.Lib.MinMax
import Derived.Test.YtpkoapmpknbgoaaGreatPackBC
import Derived.Test.YtpkoapmpknbgoaaGreatPackBD
import Derived.Test.YtpkoapmpknbgoaaGreatPackBE
set_option maxRecDepth 100000
set_option maxHeartbeats 8000000
namespace Go.Proofs.YtpkoapmpknbgoaaGreat
section
open Go.RowKit Go.Lib
theorem info_eE:(Tryz.prog.info? 37).map (fun i=>(i.zero,i.size,i.bytes))=some (some (.agg #[.int .i64 0,.int .i64 0]),2,16):=by kernel_rfl
theorem Turn.grown{S:Nat->Prop}{w w1 w2:World}(h:Turn S w w1){row:Option Nat}(hg:w1.grownBy w2 row)(hr:∀k,row=some k->k<w.heap.size->S k):Turn S w w2:=
 ⟨hg.os.trans h.1,hg.tape.trans h.2.1,hg.output.trans h.2.2.1,Nat.le_trans h.2.2.2.1 hg.size,fun k hk hs=>(hg.block k (Nat.lt_of_lt_of_le hk h.2.2.2.1) (fun e=>hs (hr k e.symm hk))).trans (h.2.2.2.2 k hk hs)⟩
theorem Turn.alloc{S:Nat->Prop}{w w1:World}(h:Turn S w w1)(o:Obj):Turn S w (w1.alloc o):=
 h.trans (T:=S) (Turn.of_below (br.alloc lr _)) fun _ _ h=>h
theorem ownE_ne{w:World}{B r ro c:Nat}{vo:Option Addr}{L:List E2}(h:RowE w B r ro vo c L)(n:Nat):some r≠Value.ownBlock (.slice vo n c):=fun e=>by
 cases vo with
 |none=>cases e
 |some a=>
  obtain⟨g,o,s⟩:=a;simp only[Value.ownBlock,Option.some.injEq]at e;exact h.2.2.2.1 g o s rfl e.symm
theorem ownE_foot{r n c:Nat}{vo:Option Addr}{k:Nat}(h:Value.ownBlock (.slice vo n c)=some k):FootE r vo k:=by
 cases vo with
 |none=>cases h
 |some a=>
  obtain⟨g,o,s⟩:=a;simp only[Value.ownBlock,Option.some.injEq]at h;exact .inr ⟨o,s,by rw[h]⟩
def GrowsE(w:World)(r:Nat)(vo vo':Option Addr):Prop:=∀g o s,vo'=some ⟨g,o,s⟩->g<w.heap.size->FootE r vo g
def PushedE(w:World)(B r ro:Nat)(vo:Option Addr)(M:List E2)(w':World):Prop:=(∃ vo' c',RowE w' B r ro vo' c' M/\GrowsE w r vo vo')/\TE r ro vo w w'
theorem pushE_fin{w w1 w3:World}{B r ro c g cap:Nat}{vo:Option Addr}{L:List E2}(h:RowE w B r ro vo c L){x:E2}(hlen:L.length<1000000)(hb:Below w.heap.size w w1){o:Obj}
  (hown:w3.ownsRow B 37 2 (.slice (some ⟨g,0,none⟩) (L.length+1) cap) (L.length+1) (prV L++[.int .i64 x.1,.int .i64 x.2]))
  (hg:(w1.drew.alloc o).grownBy w3 (Value.ownBlock (.slice vo L.length c))) (hat:Value.ownBlock (.slice vo L.length c)=some g∨g=(w1.drew.alloc o).heap.size):
  PushedE w B r ro vo (L++[x]) (w3.setCell ⟨r,ro,none⟩ (.slice (some ⟨g,0,none⟩) (L.length+1) cap)):=by
 have hr:=h.lt;have hsz:=hb.size;have hal:(w1.drew.alloc o).heap.size=w1.heap.size+1:=World.size_alloc w1 o;have er3:w3.heap[r]? =w.heap[r]? :=by
  rw[hg.block r (by omega) (ownE_ne h _)];exact(Below.heap_alloc _ _ _ (Nat.lt_of_lt_of_le hr hsz)).trans (hb.block r hr)
 have hgr:g≠r:=fun e=>by
  subst e;rcases hat with e1|e1
  ·exact ownE_ne h _ e1.symm
  ·omega
 have hl:(L++[x]).length=L.length+1:=by simp
 have c3:∀j,w3.cell? ⟨r,j,none⟩=w.cell? ⟨r,j,none⟩:=fun j=>World.cell?_of_block (w:=w) (a:=⟨r,j,none⟩) er3
 have f3:∀j,w3.frozen? ⟨r,j,none⟩=w.frozen? ⟨r,j,none⟩:=fun j=>World.frozen?_of_block (w:=w) (a:=⟨r,j,none⟩) er3
 refine⟨⟨some ⟨g,0,none⟩,cap,⟨?_,?_,?_,fun g' o' s' e=>by cases e;exact hgr,by omega⟩,fun g' o' s' e hlt=>?_⟩,?_,fun j hj=>?_,fun j=>?_⟩
 ·rw[hl];exact World.cell?_setCell_same _ _ _ ((c3 ro).trans h.1)
 ·rw[World.frozen?_setCell];exact(f3 ro).trans h.2.1
 ·rw[hl,prV_snoc]
  exact ownsRow_setCell_other hown (by simpa[Value.ownBlock]using hgr) _
 ·cases e
  rcases hat with e1|e1
  ·exact ownE_foot e1
  ·omega
 ·exact((((Turn.of_below hb).drew).alloc o).grown hg (fun k hk _=>ownE_foot hk)).setCell (.inl rfl) _
 ·rw[World.cell?_setCell_other _ _ _ _ (by intro he;simp at he)];exact c3 j
 ·rw[World.frozen?_setCell];exact f3 j
theorem rpushE_any{w:World}{B r ro c:Nat}{vo:Option Addr}{L:List E2}(h:RowE w B r ro vo c L)(hB:B<=w.heap.size)(x:E2)(hlen:L.length<1000000):
  Calls Tryz.prog 205 #[.pointer (some ⟨r,ro,none⟩),.iface 37 (.agg #[.int .i64 x.1,.int .i64 x.2])] w fun e w'=>e=.returned (.tuple #[])/\PushedE w B r ro vo (L++[x]) w':=by
 obtain⟨i0,hi,hz0,hz1,hz2⟩:=info_parts info_eE;have hta:∀(a b:Int) (w:World),(Instr.typeAssert (.iface 37 (.agg #[.int .i64 a,.int .i64 b])) 20 37 true).run Tryz.prog w=.ok (.tuple #[.agg #[.int .i64 a,.int .i64 b],.bool true]) w:=fun _ _ _=>by kernel_rfl
 have hr:=h.lt;obtain⟨w1,hw1⟩:∃W,w.alloc (.cells #[.int .i64 x.1,.int .i64 x.2] 37)=W:=⟨_,rfl⟩;have hb:Below w.heap.size w w1:=by rw[<- hw1];exact br.alloc lr _
 have hsz:w1.heap.size=w.heap.size+1:=by rw[<- hw1];exact World.size_alloc _ _
 have hx0:w1.heap[w.heap.size]? =some (.cells #[.int .i64 x.1,.int .i64 x.2] 37 (0,0)):=by rw[<- hw1];exact heap_new _ _ _ rfl
 have d1:w1.cell? ⟨w.heap.size,0,none⟩=some (.int .i64 x.1):=cell_of_row w1 _ 0 _ _ _ hx0;have d2:w1.cell? ⟨w.heap.size,1,none⟩=some (.int .i64 x.2):=cell_of_row w1 _ 1 _ _ _ hx0;have h1:=h.below hb;have d0:=h1.1;have hO1:w1.drew.ownsRow B 37 2 (.slice vo L.length c) L.length (prV L):=own_drew h1.2.2.1;have hr1:r<w1.heap.size:=by omega
 have hx1:w.heap.size<w1.heap.size:=by omega
 have D0:Hid ((w1.drew.alloc (.cells #[.int .i64 x.1,.int .i64 x.2] 37)).cell? ⟨r,ro,none⟩=some (.slice vo L.length c)):=
  (World.cell?_of_block (w:=w1.drew) (a:=⟨r,ro,none⟩) (Below.heap_alloc _ _ _ (show r<w1.drew.heap.size from hr1))).trans d0
 have F0:Hid ((w1.drew.alloc (.cells #[.int .i64 x.1,.int .i64 x.2] 37)).frozen? ⟨r,ro,none⟩=false):=
  (World.frozen?_of_block (w:=w1.drew) (a:=⟨r,ro,none⟩) (Below.heap_alloc _ _ _ (show r<w1.drew.heap.size from hr1))).trans h1.2.1
 have NR:=Hd (ownE_ne h L.length);have SZ:Hid (r<(w1.drew.alloc (.cells #[.int .i64 x.1,.int .i64 x.2] 37)).heap.size):=by show _<_;rw[World.size_alloc];exact Nat.lt_succ_of_lt hr1
 have HB1:Hid (B<=(w1.drew.alloc (.cells #[.int .i64 x.1,.int .i64 x.2] 37)).heap.size):=by show _<=_;rw[World.size_alloc];have e:w1.drew.heap.size=w1.heap.size:=rfl;omega
 have HALL:=Hd (And.intro h hb);have HW1:=Hd hw1;clear h1 hx0 hb hw1 h
 go_enter Tryz.func205,Tryz.ntmps205
 go_upto_region 2 with(fail)
 rw[HW1.out]
 go_region_law (refine step_append_lies _ rfl (.tmp 15) (.tmp 17) 103 rfl B 37 i0 (.agg #[.int .i64 0,.int .i64 0]) 2 16 Tryz.underlying103 hi hz0 hz1 hz2 rfl (by decide) (.slice vo L.length c) L.length (prV L) (by simp[Act.eval]) (hO1.alloc _) ⟨w1.heap.size,0,none⟩ 1 1 [.int .i64 x.1,.int .i64 x.2] (by simp[Act.eval]) rfl (cells_new _ _ _ _ rfl) (by simp[Value.oneCell']) (by decide) (by unfold maxLen;omega) (by omega) HB1.out _ rfl ?_;intro g cap w3 hown3 hgrow hat hlt;have c3:=(hgrow.cell_far ⟨r,ro,none⟩ SZ.out NR.out).trans D0.out;have f3:=(hgrow.frozen_far ⟨r,ro,none⟩ SZ.out NR.out).trans F0.out)
 all_goals
  go_end0
  exact⟨rfl,pushE_fin HALL.out.1 hlen HALL.out.2 hown3 hgrow hat⟩
theorem rpopE_any{w:World}{B r ro c:Nat}{vo:Option Addr}{L:List E2}{x:E2}(h:RowE w B r ro vo c (L++[x])):
  Calls Tryz.prog 204 #[.pointer (some ⟨r,ro,none⟩)] w fun e w'=>e=.returned (.iface 37 (.agg #[.int .i64 x.1,.int .i64 x.2]))/\RowE w' B r ro vo c L/\TE r ro vo w w':=by
 have hl:(L++[x]).length=L.length+1:=by simp
 have hr:=h.lt;have hlen:=h.len;have c0:=h.1;have f0:=h.2.1;rw[hl]at c0 hlen;obtain⟨g,rfl,hg,hgr,hf,hc⟩:=h.cells (by omega);obtain⟨x0,x1⟩:=hc L.length (by omega);have hgx:prG (L++[x]) L.length=x:=by
  unfold prG;rw[List.getD_eq_getElem?_getD,List.getElem?_append_right lr];simp
 rw[hgx]at x0 x1;have hcap:L.length+1<=c:=by
  rcases h.2.2.1.2 with⟨h2,_⟩|⟨g',cap,cur,hv,_,_,hn,_⟩
  ·cases h2
  ·cases hv;omega
 have hw1:IntKind.i64.wrap ((L.length:Int)+1-1)=(L.length:Int):=by rw[Int.add_sub_cancel];exact IntWalk.i64_in _ (by omega)
 have HF:Hid (RowE ((w.setCell ⟨r,ro,none⟩ (.slice (some ⟨g,0,none⟩) L.length c)).alloc (.cells #[.int .i64 x.1,.int .i64 x.2] 37)) B r ro (some ⟨g,0,none⟩) c L/\TE r ro (some ⟨g,0,none⟩) w ((w.setCell ⟨r,ro,none⟩ (.slice (some ⟨g,0,none⟩) L.length c)).alloc (.cells #[.int .i64 x.1,.int .i64 x.2] 37))):=by
  have hb:Below (w.setCell ⟨r,ro,none⟩ (.slice (some ⟨g,0,none⟩) L.length c)).heap.size (w.setCell ⟨r,ro,none⟩ (.slice (some ⟨g,0,none⟩) L.length c)) ((w.setCell ⟨r,ro,none⟩ (.slice (some ⟨g,0,none⟩) L.length c)).alloc (.cells #[.int .i64 x.1,.int .i64 x.2] 37)):=br.alloc lr _;have h1:RowE (w.setCell ⟨r,ro,none⟩ (.slice (some ⟨g,0,none⟩) L.length c)) B r ro (some ⟨g,0,none⟩) c L:=by
   refine⟨World.cell?_setCell_same _ _ _ h.1,by rw[World.frozen?_setCell];exact h.2.1,?_,h.2.2.2.1,by omega⟩;have ho:=own_take (m:=L.length) h.2.2.1 (by rw[hl];omega);rw[prV_append,List.take_append_of_le_length (by rw[prV_length];exact lr),List.take_of_length_le (by rw[prV_length];exact lr)]at ho;exact ownsRow_setCell_other ho (by simpa[Value.ownBlock]using hgr) _
  have h2:TE r ro (some ⟨g,0,none⟩) w (w.setCell ⟨r,ro,none⟩ (.slice (some ⟨g,0,none⟩) L.length c)):=
   ⟨(Turn.refl _ _).setCell (.inl rfl) _,fun j hj=>World.cell?_setCell_other _ _ _ _ (by intro he;simp at he),fun j=>World.frozen?_setCell _ _ _ _⟩
  exact⟨h1.below hb,h2.below h1.lt hb⟩
 obtain⟨n,hn⟩:∃n,L.length=n:=⟨_,rfl⟩;rw[hn]at c0 hcap hlen x0 x1 HF hw1;clear h hl hgx hn hf hc
 go_enter Tryz.func204,Tryz.ntmps204
 go_wp2;go_ret;exact⟨rfl,HF.out⟩
theorem footE_trans{w:World}{r:Nat}{vo vo':Option Addr}(h:GrowsE w r vo vo'):∀k,k<w.heap.size->FootE r vo' k->FootE r vo k:=fun k hk hf=>by
 rcases hf with h1|⟨o,s,h1⟩
 ·exact .inl h1
 ·exact h k o s h1 hk
def HPushed(w:World)(B r ro:Nat)(vo:Option Addr)(L:List E2)(x:E2)(w':World):Prop:=∃M:List E2,M.Perm (x::L)/\PushedE w B r ro vo M w'
theorem hpushE_any{w:World}{B r ro c:Nat}{vo:Option Addr}{L:List E2}(h:RowE w B r ro vo c L)(hB:B<=w.heap.size)(x:E2)(hlen:L.length<1000000):
  Calls Tryz.prog 86 #[ifcE r ro,.iface 37 (.agg #[.int .i64 x.1,.int .i64 x.2])] w fun e w'=>e=.returned (.tuple #[])/\HPushed w B r ro vo L x w':=by
 have HP:=Hd (rpushE_any h hB x hlen);clear h hB;obtain⟨n,hn⟩:∃n,L.length=n:=⟨_,rfl⟩;have HN:=Hd hn;rw[hn]at hlen;clear hn;unfold ifcE
 go_enter Tryz.func86,Tryz.ntmps86
 go_wp2_with fail
 refine HP.out.mono ?_;rintro e w1 ⟨rfl,⟨vo',c',hr1,hg1⟩,ht1⟩;have HR1:=Hd hr1;have HG1:=Hd hg1;have HT1:=Hd ht1;have HLL:Hid ((L++[x]).length=n+1):=by show _=_;rw[List.length_append,HN.out];rfl
 have mth:=methE_len (hr1.head HLL.out);have HLN:=Hd (flen_any vo' (n+1) c' w1);have q1:IntKind.i64.wrap (((n+1:Nat):Int)-1)=n:=by rw[show ((n+1:Nat):Int)-1=n by omega];exact wrap_in (by omega) (by omega)
 clear hr1 hg1 ht1
 go_wp2_with fail
 refine HLN.out.mono ?_;rintro e w2 ⟨rfl,rfl⟩;have HU:=Hd (upE_any HR1.out (j0:=n) (by rw[HLL.out];omega));unfold ifcE at HU;have HF:Hid (∀ w3,RowE w3 B r ro vo' c' (upFE (L++[x]) n)->TE r ro vo' w1 w3->HPushed w B r ro vo L x w3):=fun w3 hr3 ht3=>
  ⟨_,(up_permE n (L++[x]) (by rw[HLL.out];omega)).trans List.perm_append_comm,⟨vo',c',hr3,HG1.out⟩,HT1.out.trans ht3 fun k hk hf=>footE_trans HG1.out k hk hf⟩
 go_wp2_with fail
 refine HU.out.mono ?_;rintro e w3 ⟨rfl,hr3,ht3⟩;have HFF:=Hd (HF.out w3 hr3 ht3);clear hr3 ht3 HF;go_wp2
 go_end0
 exact⟨rfl,HFF.out⟩
theorem split_lastE{L:List E2}{m:Nat}(h:L.length=m+1):L=L.take m++[prG L m]:=by
 have e:prG L m=L[m]'(by omega):=by unfold prG;rw[List.getD_eq_getElem?_getD,List.getElem?_eq_getElem (by omega),Option.getD_some]
 rw[e, <-List.take_succ_eq_append_getElem (by omega), <-h,List.take_length]
def HPopped(w:World)(B r ro:Nat)(vo:Option Addr)(c:Nat)(L:List E2)(x:E2)(w':World):Prop:=∃L':List E2,(x::L').Perm L/\RowE w' B r ro vo c L'/\TE r ro vo w w'
theorem hpopE_any{w:World}{B r ro c m:Nat}{vo:Option Addr}{L:List E2}(h:RowE w B r ro vo c L)(hL:L.length=m+1):
  Calls Tryz.prog 65 #[ifcE r ro] w fun e w'=>e=.returned (.iface 37 (.agg #[.int .i64 (prG L 0).1,.int .i64 (prG L 0).2]))/\HPopped w B r ro vo c L (prG L 0) w':=by
 have mth1:=methE_len (h.head hL);have mth2:=methE_swap (h.head hL);have HLN:=Hd (flen_any vo (m+1) c w);have HS:=Hd (rswapE_any h hL (i:=0) (k:=m) (by omega) (by omega));have HH:=Hd h;have hm:m<1000000:=by have:=h.len;omega
 have HL:=Hd hL;have q1:IntKind.i64.wrap (((m+1:Nat):Int)-1)=m:=by rw[show ((m+1:Nat):Int)-1=m by omega];exact wrap_in (by omega) (by omega)
 obtain⟨x,hx⟩:∃x,prG L 0=x:=⟨_,rfl⟩;rw[hx];have HX:=Hd hx;clear h hL hx;unfold ifcE
 go_enter Tryz.func65,Tryz.ntmps65
 go_wp2_with fail
 refine HLN.out.mono ?_;rintro e w1 ⟨rfl,rfl⟩
 go_wp2_with fail
 refine HS.out.mono ?_;rintro e w2 ⟨rfl,hr2,ht2⟩;have HT2:=Hd ht2;have HD:=Hd (downE_any hr2 (i0:=0) (n:=m) (by rw[swapE_length,HL.out];omega) (by rw[swapE_length,HL.out];omega));unfold ifcE at HD;clear hr2 ht2 mth1 mth2
 go_wp2_with fail
 refine HD.out.mono ?_;rintro e w3 ⟨rfl,hr3,ht3⟩;have hdp:=down_permE m 0 (swapE L 0 m) (by omega) (n:=m) (by rw[swapE_length,HL.out];omega);have hdl:(downFE (swapE L 0 m) 0 m).1.length=m+1:=by rw[hdp.1.length_eq,swapE_length,HL.out]
 have hdx:prG (downFE (swapE L 0 m) 0 m).1 m=x:=by
  rw[hdp.2 m lr,prG_swap (by rw[HL.out];omega) (by rw[HL.out];omega),if_pos rfl,HX.out]
 have hpm:(downFE (swapE L 0 m) 0 m).1.Perm L:=hdp.1.trans (set_permE (by rw[HL.out];omega) (by rw[HL.out];omega));have hr4:=hr3;rw[split_lastE hdl,hdx]at hr4;have HP:=Hd (rpopE_any hr4);have HT3:=Hd (HT2.out.trans ht3 fun _ _ h=>h);have HF:Hid (∀ w4,RowE w4 B r ro vo c ((downFE (swapE L 0 m) 0 m).1.take m)->TE r ro vo w3 w4->HPopped w B r ro vo c L x w4):=fun w4 h4 t4=>by
  refine⟨_,?_,h4,HT3.out.trans t4 fun _ _ h=>h⟩;have e:=split_lastE hdl;rw[hdx]at e;have h2:(x::(downFE (swapE L 0 m) 0 m).1.take m).Perm ((downFE (swapE L 0 m) 0 m).1.take m++[x]):=List.perm_append_comm (l₁:=[x]);rw[<- e]at h2;exact h2.trans hpm
 clear hr3 ht3 hdp hdl hdx hpm hr4 HD HT2
 go_wp2_with fail
 refine HP.out.mono ?_;rintro e w4 ⟨rfl,hr5,ht5⟩;have HFF:=Hd (HF.out w4 hr5 ht5);clear hr5 ht5 HF;go_wp2;go_ret;exact⟨rfl,HFF.out⟩
end
section
open Go.RowKit Go.Lib
open Go.Maps (Keyed)
open Go.ChangeMaps (setBlock heap_setBlock_same heap_setBlock_other)
open Go.WideElems (findIdx_arr findIdx_born modify_last)
theorem laidE:laidOutB Tryz.prog=true:=by kernel_rfl
theorem keyed_e:Keyed Tryz.prog 37:=Keyed.of_law (deep_law_laid laidE (m:=2) (by omega) (of_decide_eq_true (by kernel_rfl)) (by kernel_rfl) (by kernel_rfl))
def keyL(z:E2):Lit:=.string (keyBytes [.int .i64 z.1,.int .i64 z.2])
def WfE(z:E2):Prop:=(Lit.int .i64 z.1).wf=true/\(Lit.int .i64 z.2).wf=true
theorem wfE_sm{K:Int}{z:E2}(h:Sm K z)(hK:K<=9223372036854775807):WfE z:=by
 obtain⟨h1,h2,h3,h4⟩:=h;exact⟨wf_i64 (by omega) (by omega),wf_i64 (by omega) (by omega)⟩
theorem key_e{z:E2}(h:WfE z):keyOf Tryz.prog 37 (vE z)=some (keyL z):=by
 have hkt:Tryz.prog.keyType 37=true:=by kernel_rfl
 obtain⟨m,hm⟩:∃m,Tryz.prog.types.size=m+1:=⟨_,show Tryz.prog.types.size=(340-101)+1 by kernel_rfl⟩;have hsz:Tryz.prog.cellsOf 37=2:=by kernel_rfl
 have hsz2:Tryz.prog.cellsOf 2=1:=by kernel_rfl
 obtain⟨h1,h2⟩:=h;unfold keyOf keyL vE;simp only[Tryz.underlying37];rw[if_pos (by simp[hkt,Value.formed,Tryz.underlying37,hsz]),hm];unfold Program.keyLits;simp[Tryz.underlying37,Value.cells,hsz,Program.keyLits,hsz2,h1,h2]
theorem key_inj{a b:E2}(ha:WfE a)(hb:WfE b)(h:keyL a=keyL b):a=b:=by
 have e:=keyed_e.inj (key_e ha) (by rw[h];exact key_e hb);unfold vE at e;simp only[Value.agg.injEq,Array.mk.injEq,List.cons.injEq,Value.int.injEq,true_and,and_true]at e;exact Prod.ext e.1 e.2
theorem key_lit(z:E2):WideAt.IsKeyLit (keyL z):=trivial
theorem zeroE(w:World):(zeroValue 3).run Tryz.prog w=.ok (.int .i64 0) w:=by kernel_rfl
theorem elemE{v:Int}(h:(Lit.int .i64 v).wf=true):plainElem (H:=Unit) Tryz.prog 3 (.int .i64 v)=some (.lit (.int .i64 v),[]):=plainElem_int Tryz.underlying3 h
def updE(f:E2->Option Int)(z:E2)(v:Option Int):E2->Option Int:=fun x=>if x=z then v else f x
def MapE(w:World)(b:Nat)(f:E2->Option Int)(m:Nat):Prop:=
 ∃D:DataW Unit,w.ownsMap Tryz.prog 37 (plainElem Tryz.prog 3) b m D/\Maps.size D=m/\
  ∀z,WfE z->Maps.has D (keyL z)=(f z).isSome/\D.atKey (keyL z) (.lit (.int .i64 0))=.lit (.int .i64 ((f z).getD 0))
theorem MapE.heap{w w':World}{b m:Nat}{f:E2->Option Int}(h:MapE w b f m)(hb:w'.heap[b]? =w.heap[b]?):MapE w' b f m:=by
 obtain⟨D,⟨es,clock,h1,h2⟩,h3⟩:=h;exact⟨D,⟨es,clock,by rw[hb];exact h1,h2⟩,h3⟩
theorem MapE.lt{w:World}{b m:Nat}{f:E2->Option Int}(h:MapE w b f m):b<w.heap.size:=by
 obtain⟨D,h1,_⟩:=h;exact h1.lt
theorem MapE.notCells{w:World}{b m:Nat}{f:E2->Option Int}(h:MapE w b f m){cs:Array Value}{t:TypeId}{fr:Nat×Nat}:w.heap[b]? ≠some (.cells cs t fr):=fun e=>by
 obtain⟨D,⟨es,clock,h1,_⟩,_⟩:=h;rw[h1]at e;cases e
theorem mapE_new(w:World):MapE (w.alloc (.map #[] 0)) w.heap.size (fun _=>none) 0:=
 ⟨.map [],World.ownsMap_made w _ _ _,rfl,fun _ _=>⟨rfl,rfl⟩⟩
theorem tightE{w:World}{b n:Nat}{D:DataW Unit}(h:w.ownsMap Tryz.prog 37 (plainElem Tryz.prog 3) b n D):w.ownsMap Tryz.prog 37 (plainElem Tryz.prog 3) b (Maps.size D) D:=by
 obtain⟨es,clock,h1,F,h2,rfl⟩:=h;refine⟨es,clock,h1,F,?_,rfl⟩;rw[Maps.size_eq,length_sorted,List.length_map];simp
theorem MapE.get{w:World}{b m:Nat}{f:E2->Option Int}(h:MapE w b f m){z:E2}(hz:WfE z):
  (Instr.lookup 102 (.map (some b)) (vE z) false).run Tryz.prog w=.ok (.int .i64 ((f z).getD 0)) w:=by
 obtain⟨D,h1,_,h3⟩:=h;obtain⟨c,hr,hat,-⟩:=h1.lookup_int keyed_e Tryz.underlying102 Tryz.underlying3 (zeroE w) (key_e hz);have h4:=(h3 z hz).2;rw[hat]at h4;simp only[DataW.lit.injEq,Lit.int.injEq,true_and]at h4;rw[hr,h4]
theorem mapE_put{w:World}{b m n:Nat}{f:E2->Option Int}{D:DataW Unit}(ht:Maps.Tidy D)(hs:Maps.size D=m)(h3:∀z,WfE z->Maps.has D (keyL z)=(f z).isSome/\D.atKey (keyL z) (.lit (.int .i64 0))=.lit (.int .i64 ((f z).getD 0)))
  {z:E2} {v:Int} (hz:WfE z) (h:w.ownsMap Tryz.prog 37 (plainElem Tryz.prog 3) b n (D.put (keyL z) (.lit (.int .i64 v)))):
  MapE w b (updE f z (some v)) (if(f z).isSome then m else m+1):=by
 have hk:=key_lit z;refine⟨D.put (keyL z) (.lit (.int .i64 v)),?_,?_,fun y hy=>?_⟩
 ·have e:Maps.size (D.put (keyL z) (.lit (.int .i64 v)))=if(f z).isSome then m else m+1:=by
   rw[Maps.size_put (k:=keyL z) ht,(h3 z hz).1,hs]
  rw[<- e];exact tightE h
 ·rw[Maps.size_put (k:=keyL z) ht,(h3 z hz).1,hs]
 ·unfold updE
  by_cases e:y=z
  ·subst e
   rw[if_pos rfl,Maps.has_put_same ht.isMap hk,Maps.atKey_put_same ht.isMap hk];exact⟨rfl,rfl⟩
  ·have hne:keyL y≠keyL z:=fun h=>e (key_inj hy hz h)
   rw[if_neg e,Maps.has_put_other hne,Maps.atKey_put_other hne];exact h3 y hy
theorem MapE.put{w:World}{b m:Nat}{f:E2->Option Int}(h:MapE w b f m)(hm:m<maxLen){z:E2}{v:Int}(hz:WfE z)(hv:(Lit.int .i64 v).wf=true):
  ∃w',(Instr.mapUpdate 102 (.map (some b)) (vE z) (.int .i64 v)).run Tryz.prog w=.ok () w'/\MapE w' b (updE f z (some v)) (if(f z).isSome then m else m+1)/\w.mapTurned w' b:=by
 obtain⟨D,h1,h2,h3⟩:=h;obtain⟨w',hr,ho,ht⟩:=h1.store keyed_e Tryz.underlying102 hm (key_e hz) (elemE hv);exact⟨w',hr,mapE_put (h1.tidy keyed_e) h2 h3 hz ho,ht⟩
theorem modify_sameE{α:Type}(es:Array α)(j:Nat)(e0:α)(g:α->α)(h:es[j]? =some e0)(hg:g e0=e0):es.modify j g=es:=by
 apply Array.ext_getElem?;intro i;rw[Array.getElem?_modify];by_cases e:j=i
 ·subst e;simp[h,hg]
 ·simp[e]
theorem setBlock_self{w:World}{b:Nat}{es:Array MapEntry}{k:Nat}(hb:w.heap[b]? =some (.map es k)):setBlock w b (.map es k)=w:=by
 have e:w.heap.setIfInBounds b (.map es k)=w.heap:=by
  apply Array.ext_getElem?;intro i;by_cases hi:i=b
  ·subst hi
   exact(heap_setBlock_same hb _).trans hb.symm
  ·exact heap_setBlock_other hb _ hi
 unfold setBlock;rw[e]
theorem setBlock_twice(w:World)(b:Nat)(o p:Obj):setBlock (setBlock w b o) b p=setBlock w b p:=by
 have e:(w.heap.setIfInBounds b o).setIfInBounds b p=w.heap.setIfInBounds b p:=by
  apply Array.ext_getElem?;intro i;simp[Array.getElem?_setIfInBounds]
 unfold setBlock;simp only[e]
theorem MapE.entry{w:World}{b m:Nat}{f:E2->Option Int}(h:MapE w b f m)(hm:m<maxLen){z:E2}(hz:WfE z):
  ∃v0 st w1,(Instr.mapEntry 102 (.map (some b)) (vE z)).run Tryz.prog w=.ok (.tuple #[v0,.int .i64 st]) w1/\w.mapTurned w1 b/\
   (Instr.lookup 102 (.map (some b)) (vE z) false).run Tryz.prog w1=.ok (.int .i64 ((f z).getD 0)) w1/\
   ∀v,(Lit.int .i64 v).wf=true->∃w2,(Instr.entryStore 102 (.map (some b)) (.int .i64 st) (.int .i64 v)).run Tryz.prog w1=.ok () w2/\MapE w2 b (updE f z (some v)) (if(f z).isSome then m else m+1)/\w.mapTurned w2 b:=by
 have h0:=h;obtain⟨D,h1,h2,h3⟩:=h;have htd:=h1.tidy keyed_e;obtain⟨es,clock,hb,F,hs,hD⟩:=h1;have h1':w.ownsMap Tryz.prog 37 (plainElem Tryz.prog 3) b m D:=⟨es,clock,hb,F,hs,hD⟩;rcases keyed_e.find w (key_e hz) es.toList F.keys with⟨g1,g2⟩|⟨j,e0,g1,g2,g3⟩
 ·
  have hput:∀v,(Instr.mapUpdate 102 (.map (some b)) (vE z) (.int .i64 v)).run Tryz.prog w=.ok () (setBlock w b (.map (es.push ⟨vE z,.int .i64 v,clock⟩) (clock+1))):=fun v=>by
   simp[Instr.mapUpdate,run_underlying Tryz.underlying102,MapKept.run_getObj_map hb,keyed_e.check w false (key_e hz),g1,MapKept.run_setObj_map _ hb,Result.andThen,setBlock]
  have hall:∀v,(Lit.int .i64 v).wf=true->MapE (setBlock w b (.map (es.push ⟨vE z,.int .i64 v,clock⟩) (clock+1))) b (updE f z (some v)) (if(f z).isSome then m else m+1)/\w.mapTurned (setBlock w b (.map (es.push ⟨vE z,.int .i64 v,clock⟩) (clock+1))) b:=fun v hv=>by
   obtain⟨w',hr,h5,h6⟩:=h0.put hm hz hv;rw[hput v]at hr;cases hr;exact⟨h5,h6⟩
  have hf:(f z).getD 0=0:=by
   rcases Maps.fit_look true keyed_e Tryz.underlying102 (zeroE w) hb F (key_e hz)with⟨_,_,hat⟩|⟨e0,y,he,hk,_⟩
   ·rw[<- hD]at hat
    have:=hat (.lit (.int .i64 0));rw[(h3 z hz).2]at this;simpa using this
   ·exact absurd hk (g2 e0 he)
  obtain⟨z1,z2⟩:=hall 0 (by decide);refine⟨.int .i64 0,clock,_,?_,z2,?_,fun v hv=>⟨_,?_,(hall v hv).1,(hall v hv).2⟩⟩
  ·simp[Instr.mapEntry,run_underlying Tryz.underlying102,MapKept.run_getObj_map hb,keyed_e.check w false (key_e hz),g1,MapKept.run_setObj_map _ hb,Result.andThen,setBlock,goInt]
  ·rw[z1.get hz,hf];unfold updE;rw[if_pos rfl];rfl
  ·have hb1:(setBlock w b (.map (es.push ⟨vE z,.int .i64 0,clock⟩) (clock+1))).heap[b]? =some (.map (es.push ⟨vE z,.int .i64 0,clock⟩) (clock+1)):=heap_setBlock_same hb _
   have hidx:(es.push ⟨vE z,.int .i64 0,clock⟩).findIdx? (fun e=>((e.born:Nat):Int)==((clock:Nat):Int))=some es.size:=by
    rw[findIdx_arr];obtain⟨s1,s2,_⟩:=F.stamped;exact findIdx_born (l:=(es.push ⟨vE z,.int .i64 0,clock⟩).toList) (j:=es.size) (e0:=⟨vE z,.int .i64 0,clock⟩) (by
     simp only[Array.toList_push,List.map_append,List.map_cons,List.map_nil];refine List.nodup_append.2 ⟨s2,by simp,fun a ha c hc e1=>?_⟩;simp only[List.mem_singleton]at hc;obtain⟨x,hx,rfl⟩:=List.mem_map.1 ha;have:=s1 x hx;omega) (by simp)
   have hmod:(es.push ⟨vE z,.int .i64 0,clock⟩).modify es.size (fun e=>{ e with val:=.int .i64 v })=es.push ⟨vE z,.int .i64 v,clock⟩:=by
    apply Array.ext';rw[Array.toList_modify,Array.toList_push,Array.toList_push, <-Array.length_toList,modify_last]
   have e:=setBlock_twice w b (.map (es.push ⟨vE z,.int .i64 0,clock⟩) (clock+1)) (.map (es.push ⟨vE z,.int .i64 v,clock⟩) (clock+1));rw[<- e];simp[Instr.entryStore,MapKept.run_getObj_map hb1,asInt,asIntOf,hidx,hmod,MapKept.run_setObj_map _ hb1,Result.andThen]
   rfl
 ·have hj:es[j]? =some e0:=by simpa using g2
  have hsame:es.modify j (fun e=>{ e with key:=vE z })=es:=modify_sameE es j e0 _ hj (by rw[<- g3]);have hidx:es.findIdx? (fun e=>((e.born:Nat):Int)==((e0.born:Nat):Int))=some j:=by
   rw[findIdx_arr];exact findIdx_born F.stamped.2.1 g2
  have hset:setBlock w b (.map es clock)=w:=setBlock_self hb;refine⟨e0.val,(e0.born:Int),w,?_,⟨es,clock,es,clock,hb,hset.symm⟩,h0.get hz,fun v hv=>?_⟩
  ·have:(Instr.mapEntry 102 (.map (some b)) (vE z)).run Tryz.prog w=.ok (.tuple #[e0.val,.int .i64 (e0.born:Int)]) (setBlock w b (.map es clock)):=by
    simp[Instr.mapEntry,run_underlying Tryz.underlying102,MapKept.run_getObj_map hb,keyed_e.check w false (key_e hz),g1,hj,g3,keyed_e.stays w (key_e hz),hsame,MapKept.run_setObj_map _ hb,Result.andThen,setBlock,goInt]
   rw[hset]at this;exact this
  ·obtain⟨w',hr4,ho,ht⟩:=h1'.store keyed_e Tryz.underlying102 hm (key_e hz) (elemE hv)
   have hmod:es.modify j (fun e'=>{ e' with key:=vE z,val:=.int .i64 v })=es.modify j (fun e'=>{ e' with val:=.int .i64 v }):=by
    apply Array.ext_getElem?;intro i;rw[Array.getElem?_modify,Array.getElem?_modify];by_cases e:j=i
    ·subst e;simp[hj, <-g3]
    ·simp[e]
   have hu:(Instr.mapUpdate 102 (.map (some b)) (vE z) (.int .i64 v)).run Tryz.prog w=.ok () (setBlock w b (.map (es.modify j (fun e'=>{ e' with val:=.int .i64 v })) clock)):=by
    simp[Instr.mapUpdate,run_underlying Tryz.underlying102,MapKept.run_getObj_map hb,keyed_e.check w false (key_e hz),g1,hj,g3,keyed_e.stays w (key_e hz),hmod,MapKept.run_setObj_map _ hb,Result.andThen,setBlock]
   rw[hu]at hr4;cases hr4;refine⟨setBlock w b (.map (es.modify j (fun e'=>{ e' with val:=.int .i64 v })) clock),?_,mapE_put htd h2 h3 hz ho,ht⟩;simp[Instr.entryStore,MapKept.run_getObj_map hb,asInt,asIntOf,hidx,MapKept.run_setObj_map _ hb,Result.andThen,setBlock]
end
section
open Go.RowKit Go.Lib Wd
def touchB(v:Nat->E2)(lo hi:E2):Bool:=
 (((List.range 6).any fun k=>decide (lo.1<=(v k).1))&&((List.range 6).any fun k=>decide ((v k).1<=hi.1)))&&
 ((((List.range 6).any fun k=>decide (lo.2<=(v k).2))&&((List.range 6).any fun k=>decide ((v k).2<=hi.2)))&&
 (List.range 6).all fun k=>(boxC lo hi).any fun c=>decide (0<=crossE (v k) (v ((k+1)%6)) c))
theorem touchB_iff(v:Nat->E2)(lo hi:E2):touchB v lo hi=true↔TouchP v lo hi:=by
 unfold touchB TouchP;simp only[Bool.and_eq_true,List.any_eq_true,List.all_eq_true,List.mem_range,decide_eq_true_eq]
abbrev vB(lo hi:E2):Value:=.agg #[.int .i64 lo.1,.int .i64 lo.2,.int .i64 hi.1,.int .i64 hi.2]
def CBoxAt(w:World)(b:Nat)(lo hi:E2):Prop:=(w.cell? ⟨b,0,none⟩=some (.int .i64 lo.1)/\w.cell? ⟨b,1,none⟩=some (.int .i64 lo.2))/\w.cell? ⟨b,2,none⟩=some (.int .i64 hi.1)/\w.cell? ⟨b,3,none⟩=some (.int .i64 hi.2)
theorem CBoxAt.later{w w':World}{b:Nat}{lo hi:E2}(h:CBoxAt w b lo hi)(hb:b<w.heap.size)(h1:Below w.heap.size w w'):CBoxAt w' b lo hi:=
 ⟨⟨(h1.cell (p:=⟨b,0,none⟩) hb).trans h.1.1,(h1.cell (p:=⟨b,1,none⟩) hb).trans h.1.2⟩,(h1.cell (p:=⟨b,2,none⟩) hb).trans h.2.1,(h1.cell (p:=⟨b,3,none⟩) hb).trans h.2.2⟩
theorem CBoxAt.of_row{w:World}{b:Nat}{lo hi:E2}{t:TypeId}{f}(h:w.heap[b]? =some (.cells #[.int .i64 lo.1,.int .i64 lo.2,.int .i64 hi.1,.int .i64 hi.2] t f)):CBoxAt w b lo hi:=
 ⟨⟨cell_of_row _ _ 0 _ _ _ h,cell_of_row _ _ 1 _ _ _ h⟩,cell_of_row _ _ 2 _ _ _ h,cell_of_row _ _ 3 _ _ _ h⟩
theorem corners_any(lo hi:E2)(w:World):
  Calls Tryz.prog 141 #[vB lo hi] w fun e w'=>∃b,e=.returned (.slice (some ⟨b,0,none⟩) 4 4)/\PrAt w' (some ⟨b,0,none⟩) (boxC lo hi)/\Below w.heap.size w w':=by
 obtain⟨l1,l2⟩:=lo;obtain⟨h1,h2⟩:=hi;simp only[vB];have T0:Hid (CBoxAt (w.alloc (.cells #[.int .i64 l1,.int .i64 l2,.int .i64 h1,.int .i64 h2] 97)) w.heap.size (l1,l2) (h1,h2)):=CBoxAt.of_row (t:=97) (f:=_) (heap_new _ _ _ rfl);have B0:Hid (Below w.heap.size w (w.alloc (.cells #[.int .i64 l1,.int .i64 l2,.int .i64 h1,.int .i64 h2] 97))):=br.alloc lr _
 go_enter Tryz.func141,Tryz.ntmps141
 go_upto_region 1 with(fail)
 have s0:w.heap.size<(w.alloc (.cells #[.int .i64 l1,.int .i64 l2,.int .i64 h1,.int .i64 h2] 97)).heap.size:=by simp
 generalize w.alloc (.cells #[.int .i64 l1,.int .i64 l2,.int .i64 h1,.int .i64 h2] 97)=w1 at *;obtain⟨⟨t0,t1⟩,t2,t3⟩:=T0.out;have HN:=Hd (prAt_new w1 (boxC (l1,l2) (h1,h2)) 26);rw[show (prV (boxC (l1,l2) (h1,h2))).toArray=#[.int .i64 l1,.int .i64 l2,.int .i64 h1,.int .i64 l2,.int .i64 h1,.int .i64 h2,.int .i64 l1,.int .i64 h2]from rfl]at HN;have HB:=Hd (B0.out.alloc B0.out.size (.cells #[.int .i64 l1,.int .i64 l2,.int .i64 h1,.int .i64 l2,.int .i64 h1,.int .i64 h2,.int .i64 l1,.int .i64 h2] 26));clear T0 B0;go_wp2;go_ret;exact⟨_,rfl,HN.out,HB.out⟩
theorem mul_bd{a b A B:Int}(ha: -A<=a/\a<=A)(hb: -B<=b/\b<=B): -(A*B)<=a*b/\a*b<=A*B:=by
 have h1:(a*b).natAbs<=A.toNat*B.toNat:=by rw[Int.natAbs_mul];exact Nat.mul_le_mul (by omega) (by omega)
 have h2:((A.toNat*B.toNat:Nat):Int)=A*B:=by rw[Int.natCast_mul,Int.toNat_of_nonneg (by omega),Int.toNat_of_nonneg (by omega)]
 omega
theorem boxC_sm{lo hi:E2}{h:Int}(h1:Sm h lo)(h2:Sm h hi){k:Nat}(hk:k<4):Sm h (prG (boxC lo hi) k):=by
 unfold Sm at *;rcases(show k=0∨k=1∨k=2∨k=3 by omega)with rfl|rfl|rfl|rfl
 ·exact h1
 ·exact⟨h2.1,h2.2.1,h1.2.2.1,h1.2.2.2⟩
 ·exact h2
 ·exact⟨h1.1,h1.2.1,h2.2.2.1,h2.2.2.2⟩
theorem any_four(lo hi:E2)(f:E2->Bool):(boxC lo hi).any f=true↔∃k,k<4/\f (prG (boxC lo hi) k)=true:=by
 rw[List.any_eq_true];constructor
 ·rintro⟨c,hc,h⟩
  obtain⟨i,hi,rfl⟩:=List.getElem_of_mem hc;refine⟨i,by simpa[boxC]using hi,?_⟩;unfold prG;rw[List.getD_eq_getElem?_getD,List.getElem?_eq_getElem hi];exact h
 ·rintro⟨k,hk,h⟩
  refine⟨prG (boxC lo hi) k,?_,h⟩;unfold prG;rw[List.getD_eq_getElem?_getD,List.getElem?_eq_getElem (by simpa[boxC]using hk)];exact List.getElem_mem _
theorem outside_any(lo hi p q:E2)(hlo:Sm 10000000000 lo)(hhi:Sm 10000000000 hi)(hp:Sm 100000000000 p)(hq:Sm 16777216 (subE q p))(w:World):
  Calls Tryz.prog 100 #[vB lo hi,vE p,vE q] w fun e w'=>e=.returned (.bool (!(boxC lo hi).any fun c=>decide (0<=crossE p q c)))/\Below w.heap.size w w':=by
 have HCO:=Hd (corners_any lo hi);have HK:Hid (∀ k,k<4->Sm 10000000000 (prG (boxC lo hi) k)):=fun k hk=>boxC_sm hlo hhi hk
 have HYES:Hid (∀ k,k<4->0<=crossE p q (prG (boxC lo hi) k)->(!(boxC lo hi).any fun c=>decide (0<=crossE p q c))=false):=fun k hk h=>by
  rw[Bool.not_eq_false',any_four];exact⟨k,hk,decide_eq_true h⟩
 have HNO:Hid ((∀ k,k<4->crossE p q (prG (boxC lo hi) k)<0)->(!(boxC lo hi).any fun c=>decide (0<=crossE p q c))=true):=fun h=>by
  rw[Bool.not_eq_true',Bool.eq_false_iff];intro hh;obtain⟨k,hk,h2⟩:=(any_four _ _ _).1 hh;have:=h k hk;have:=of_decide_eq_true h2;omega
 obtain⟨X,hX⟩:∃X,(!(boxC lo hi).any fun c=>decide (0<=crossE p q c))=X:=⟨_,rfl⟩;rw[hX]at HYES HNO ⊢;obtain⟨p1,p2⟩:=p;obtain⟨q1,q2⟩:=q;obtain⟨l1,l2⟩:=lo;obtain⟨h1,h2⟩:=hi;have hcl:(boxC (l1,l2) (h1,h2)).length=4:=rfl;have HCL:=Hd hcl;generalize boxC (l1,l2) (h1,h2)=C at *;simp only[vB,vE]at *;unfold Sm subE at *;simp only at hp hq;clear hX hlo hhi hcl;have T0:Hid (CBoxAt (((w.alloc (.cells #[.int .i64 l1,.int .i64 l2,.int .i64 h1,.int .i64 h2] 97)).alloc (.cells #[.int .i64 p1,.int .i64 p2] 26)).alloc (.cells #[.int .i64 q1,.int .i64 q2] 26)) w.heap.size (l1,l2) (h1,h2)):=(CBoxAt.of_row (t:=97) (f:=_) (heap_new _ _ _ rfl)).later (by simp) ((br.alloc lr _).alloc (by simp) _);have P0:Hid (Two (((w.alloc (.cells #[.int .i64 l1,.int .i64 l2,.int .i64 h1,.int .i64 h2] 97)).alloc (.cells #[.int .i64 p1,.int .i64 p2] 26)).alloc (.cells #[.int .i64 q1,.int .i64 q2] 26)) (w.heap.size+1) (.int .i64 p1) (.int .i64 p2)):=(Two.of_row (t:=26) (f:=_) (heap_new _ _ _ (by simp))).later (by simp) (br.alloc lr _);have Q0:Hid (Two (((w.alloc (.cells #[.int .i64 l1,.int .i64 l2,.int .i64 h1,.int .i64 h2] 97)).alloc (.cells #[.int .i64 p1,.int .i64 p2] 26)).alloc (.cells #[.int .i64 q1,.int .i64 q2] 26)) (w.heap.size+1+1) (.int .i64 q1) (.int .i64 q2)):=Two.of_row (t:=26) (f:=_) (heap_new _ _ _ (by simp));have B0:Hid (Below w.heap.size w (((w.alloc (.cells #[.int .i64 l1,.int .i64 l2,.int .i64 h1,.int .i64 h2] 97)).alloc (.cells #[.int .i64 p1,.int .i64 p2] 26)).alloc (.cells #[.int .i64 q1,.int .i64 q2] 26))):=(((Below.refl w.heap.size w).alloc lr _).alloc (by simp) _).alloc (by simp;omega) _;have s0:w.heap.size+3<=(((w.alloc (.cells #[.int .i64 l1,.int .i64 l2,.int .i64 h1,.int .i64 h2] 97)).alloc (.cells #[.int .i64 p1,.int .i64 p2] 26)).alloc (.cells #[.int .i64 q1,.int .i64 q2] 26)).heap.size:=by simp
 go_enter Tryz.func100,Tryz.ntmps100
 go_upto_region 1 with(fail)
 generalize((w.alloc (.cells #[.int .i64 l1,.int .i64 l2,.int .i64 h1,.int .i64 h2] 97)).alloc (.cells #[.int .i64 p1,.int .i64 p2] 26)).alloc (.cells #[.int .i64 q1,.int .i64 q2] 26)=w1 at *;obtain⟨⟨t0,t1⟩,t2,t3⟩:=T0.out
 go_wp2_with fail
 refine(HCO.out _).mono ?_;rintro e w3 ⟨g,rfl,hc,hb⟩;have HC:=Hd hc;have P3:=Hd (P0.out.later (by omega) hb);have Q3:=Hd (Q0.out.later (by omega) hb);have B3:=Hd (B0.out.trans (hb.mono B0.out.size));have hs3:w.heap.size+3<=w3.heap.size:=by have:=hb.size;omega
 clear hc hb P0 Q0 T0 B0 t0 t1 t2 t3;go_wp2
 go_loopw [12] (fun iv wr=>∃(k:Nat),k<=4/\iv=.int .i64 k/\Hid ((∀ j,j<k->crossE (p1,p2) (q1,q2) (prG C j)<0)/\Below w3.heap.size w3 wr)) (fun i _=>4-(intOf i).toNat)
 case atStart=>exact⟨0,by omega,rfl,fun j hj=>by omega,br⟩
 case round=>
  obtain⟨k,hk,rfl,HI⟩:=hrel;obtain⟨wo,rfl⟩:∃wo,wo=wr:=⟨_,rfl⟩;by_cases hlt:k<4
  ·have r1:decide ((k:Int)<4)=true:=decide_eq_true (by omega)
   obtain⟨g',off,e,hg,hcc⟩:=(HC.out.below HI.out.2) (by rw[HCL.out];omega);cases e;obtain⟨c0,c1⟩:=hcc k (by rw[HCL.out];exact hlt);rw[Nat.zero_add]at c0 c1;have hks:=HK.out k hlt;have HY:=Hd (HYES.out k hlt);have HA:Hid (crossE (p1,p2) (q1,q2) (prG C k)<0->∀j,j<k+1->crossE (p1,p2) (q1,q2) (prG C j)<0):=fun h j hj=>by
    by_cases e:j=k
    ·rw[e];exact h
    ·exact HI.out.1 j (by omega)
   generalize prG C k=c at *;obtain⟨cx,cy⟩:=c;simp only at c0 c1 hks;unfold crossE at HY HA;simp only at HY HA;have m1:=mul_bd (a:=q1-p1) (b:=cy-p2) (A:=16777216) (B:=110000000000) (by omega) (by omega);have m2:=mul_bd (a:=q2-p2) (b:=cx-p1) (A:=16777216) (B:=110000000000) (by omega) (by omega);obtain⟨⟨m1a,m1b⟩,m2a,m2b⟩:=And.intro m1 m2;simp only[Int.reduceMul]at m1a m1b m2a m2b;have KA:=(Below.refl wo.heap.size wo).alloc lr (.cells #[.int .i64 cx,.int .i64 cy] 26);have HB2:=Hd (HI.out.2.trans (KA.mono HI.out.2.size));have PA:=Hd (P3.out.later (by omega) HB2.out);have QA:=Hd (Q3.out.later (by omega) HB2.out);have CA:Hid (Two (wo.alloc (.cells #[.int .i64 cx,.int .i64 cy] 26)) wo.heap.size (.int .i64 cx) (.int .i64 cy)):=Two.of_row (t:=26) (f:=_) (heap_new _ _ _ rfl);have hsa:wo.heap.size<(wo.alloc (.cells #[.int .i64 cx,.int .i64 cy] 26)).heap.size/\w3.heap.size<=wo.heap.size:=⟨by simp,HI.out.2.size⟩;clear hcc HI m1 m2 KA
   go_upto_region 4 with(fail)
   generalize wo.alloc (.cells #[.int .i64 cx,.int .i64 cy] 26)=wa at *;obtain⟨p0,p1'⟩:=PA.out;obtain⟨q0,q1'⟩:=QA.out;obtain⟨a0,a1⟩:=CA.out;obtain⟨hp1,hp2,hp3,hp4⟩:=hp;obtain⟨hq1,hq2,hq3,hq4⟩:=hq;obtain⟨hk1,hk2,hk3,hk4⟩:=hks;clear c0 c1 hg PA QA CA;by_cases h0:0<=(q1-p1)*(cy-p2)-(q2-p2)*(cx-p1)
   ·have r2:decide (0<=(q1-p1)*(cy-p2)-(q2-p2)*(cx-p1))=true:=decide_eq_true h0
    have HX:=Hd (HY.out h0);have HF:=Hd (B3.out.trans (HB2.out.mono B3.out.size));clear HY HA;go_wp2;go_ret;rw[HX.out];exact⟨rfl,HF.out⟩
   ·have r2:decide (0<=(q1-p1)*(cy-p2)-(q2-p2)*(cx-p1))=false:=decide_eq_false h0
    have HA2:=Hd (HA.out (by omega));clear HY HA;go_wp2
    go_roundw
    case rel=>exact⟨k+1,by omega,by go_num,HA2.out,HB2.out⟩
    case measure=>simp[intOf];omega
  ·obtain rfl:k=4:=by omega
   have HX:=Hd (HNO.out HI.out.1);have HF:=Hd (B3.out.trans (HI.out.2.mono B3.out.size));clear HI;go_wp2;go_ret;rw[HX.out];exact⟨rfl,HF.out⟩
def axG(p:E2)(i:Nat):Int:=if i=0 then p.1 else p.2
def besB(l:List E2)(lo hi:E2):Bool:=
 !(((l.any fun p=>decide (lo.1<=p.1))&&(l.any fun p=>decide (p.1<=hi.1)))&&((l.any fun p=>decide (lo.2<=p.2))&&(l.any fun p=>decide (p.2<=hi.2))))
theorem any_pr(l:List E2)(f:E2->Bool):l.any f=true↔∃k,k<l.length/\f (prG l k)=true:=by
 rw[List.any_eq_true];constructor
 ·rintro⟨c,hc,h⟩
  obtain⟨i,hi,rfl⟩:=List.getElem_of_mem hc;refine⟨i,hi,?_⟩;unfold prG;rw[List.getD_eq_getElem?_getD,List.getElem?_eq_getElem hi];exact h
 ·rintro⟨k,hk,h⟩
  refine⟨prG l k,?_,h⟩;unfold prG;rw[List.getD_eq_getElem?_getD,List.getElem?_eq_getElem hk];exact List.getElem_mem _
theorem besB_no(l:List E2)(lo hi:E2)(h:∀i,i<2->(∃ k,k<l.length/\axG lo i<=axG (prG l k) i)/\∃k,k<l.length/\axG (prG l k) i<=axG hi i):besB l lo hi=false:=by
 unfold besB;rw[Bool.not_eq_false',Bool.and_eq_true,Bool.and_eq_true,Bool.and_eq_true,any_pr,any_pr,any_pr,any_pr];simp only[decide_eq_true_eq];exact⟨h 0 (by decide),h 1 (by decide)⟩
theorem besB_yes(l:List E2)(lo hi:E2){i:Nat}(hi2:i<2)(h:(∀ k,k<l.length->axG (prG l k) i<axG lo i)∨(∀ k,k<l.length->axG hi i<axG (prG l k) i)):besB l lo hi=true:=by
 rw[<- Bool.not_eq_false];intro hf;unfold besB at hf;rw[Bool.not_eq_false',Bool.and_eq_true,Bool.and_eq_true,Bool.and_eq_true,any_pr,any_pr,any_pr,any_pr]at hf;simp only[decide_eq_true_eq]at hf;rcases(show i=0∨i=1 by omega)with rfl|rfl
 ·rcases h with h|h
  ·obtain⟨k,hk,h2⟩:=hf.1.1;have:=h k hk;simp only[axG]at this;simp at this;omega
  ·obtain⟨k,hk,h2⟩:=hf.1.2;have:=h k hk;simp only[axG]at this;simp at this;omega
 ·rcases h with h|h
  ·obtain⟨k,hk,h2⟩:=hf.2.1;have:=h k hk;simp only[axG]at this;simp at this;omega
  ·obtain⟨k,hk,h2⟩:=hf.2.2;have:=h k hk;simp only[axG]at this;simp at this;omega
theorem beside_any(ao:Option Addr)(c:Nat)(l:List E2)(lo hi:E2)(w:World)(h:PrAt w ao l)(hl:l.length=6):
  Calls Tryz.prog 99 #[vB lo hi,.slice ao 6 c] w fun e w'=>e=.returned (.bool (besB l lo hi))/\Below w.heap.size w w':=by
 have HYES:Hid (∀ i,i<2->((∀ k,k<6->axG (prG l k) i<axG lo i)∨(∀ k,k<6->axG hi i<axG (prG l k) i))->besB l lo hi=true):=fun i hi2 hh=>besB_yes l lo hi hi2 (by rw[hl];exact hh)
 have HNO:Hid ((∀ i,i<2->(∃ k,k<6/\axG lo i<=axG (prG l k) i)/\∃k,k<6/\axG (prG l k) i<=axG hi i)->besB l lo hi=false):=fun hh=>besB_no l lo hi (by rw[hl];exact hh)
 generalize besB l lo hi=X at *;have HR:=Hd h;have HL:=Hd hl;clear h hl;have HB0:Hid (Below w.heap.size w (w.alloc (.cells #[.int .i64 lo.1,.int .i64 lo.2,.int .i64 hi.1,.int .i64 hi.2] 97))):=br.alloc lr _;have HT0:Hid (CBoxAt (w.alloc (.cells #[.int .i64 lo.1,.int .i64 lo.2,.int .i64 hi.1,.int .i64 hi.2] 97)) w.heap.size lo hi):=CBoxAt.of_row (t:=97) (f:=_) (heap_new _ _ _ rfl);have s0:w.heap.size<(w.alloc (.cells #[.int .i64 lo.1,.int .i64 lo.2,.int .i64 hi.1,.int .i64 hi.2] 97)).heap.size:=by simp
 simp only[vB]
 go_enter Tryz.func99,Tryz.ntmps99
 go_upto_region 1 with(fail)
 generalize w.alloc (.cells #[.int .i64 lo.1,.int .i64 lo.2,.int .i64 hi.1,.int .i64 hi.2] 97)=w1 at *;go_wp2
 go_loopw [10] (fun iv wr=>∃(i:Nat),i<=2/\iv=.int .i64 i/\Hid ((∀ j,j<i->(∃ k,k<6/\axG lo j<=axG (prG l k) j)/\∃k,k<6/\axG (prG l k) j<=axG hi j)/\Below w1.heap.size w1 wr)) (fun i _=>2-(intOf i).toNat)
 case atStart=>exact⟨0,by omega,rfl,fun j hj=>by omega,br⟩
 case round=>
  obtain⟨i,hi2,rfl,HI⟩:=hrel;obtain⟨wo,rfl⟩:∃wo,wo=wr:=⟨_,rfl⟩;have hso:=HI.out.2.size;by_cases hlt:i<2
  ·obtain⟨b,off,rfl,hb,hc⟩:=HR.out (by rw[HL.out];omega)
   have HCC:Hid (∀ wx,Below w1.heap.size w1 wx->∀k,k<6->wx.cell? ⟨b,off+k*2,none⟩=some (.int .i64 (prG l k).1)/\wx.cell? ⟨b,off+k*2+1,none⟩=some (.int .i64 (prG l k).2)):=fun wx hx k hk=>by
    have hB:=HB0.out.trans (hx.mono HB0.out.size);obtain⟨k0,k1⟩:=hc k (by rw[HL.out];exact hk);exact⟨(hB.cell (p:=⟨b,_,none⟩) hb).trans k0,(hB.cell (p:=⟨b,_,none⟩) hb).trans k1⟩
   obtain⟨c0,c1⟩:=HCC.out wo HI.out.2 0 (by omega);have hbo:b<wo.heap.size:=by omega
   clear hc;rw[Nat.zero_mul,Nat.add_zero]at c0 c1;have BD:Hid (Below w1.heap.size w1 wo.drew):=HI.out.2.drew;have HP:=Hd HI.out.1;clear HI;rcases(show i=0∨i=1 by omega)with rfl|rfl
   ·have c9:wo.cell? ⟨b,off,none⟩=some (.int .i64 (axG (prG l 0) 0)):=by exact c0
    clear c0 c1
    go_upto_region 4 with(fail)
    go_wp2_with(first|(with_reducible refine wp_region_lex (by kernel_rfl) (by kernel_rfl) ?_)|(with_reducible refine OnlyG.intro (by kernel_rfl) ?_))
    have A0:Hid (∃ j,j<6/\axG (prG l 0) 0=axG (prG l j) 0):=⟨0,by omega,rfl⟩;generalize axG (prG l 0) 0=z0 at *;clear c9;generalize wo.drew=wd at *;have hbd:b<wd.heap.size:=by have:=BD.out.size;omega
    go_loopw [6,7,25] (fun av zv kv wy=>∃(k:Nat) (a z:Int),k<=6/\av=.int .i64 a/\zv=.int .i64 z/\kv=.int .i64 k/\Hid ((∃ j,j<6/\a=axG (prG l j) 0)/\(∀ j,j<k->a<=axG (prG l j) 0)/\(∃ j,j<6/\z=axG (prG l j) 0)/\(∀ j,j<k->axG (prG l j) 0<=z))/\Hid (Below w1.heap.size w1 wy)) (fun _ _ k _=>6-(intOf k).toNat)
    case atStart=>exact⟨0,z0,z0,by omega,rfl,rfl,rfl,⟨A0.out,fun j hj=>by omega,A0.out,fun j hj=>by omega⟩,BD.out⟩
    case round=>
     obtain⟨k,a,z,hk,rfl,rfl,rfl,HA,HJ⟩:=hrel;obtain⟨wy,rfl⟩:∃wy,wy=wr:=⟨_,rfl⟩;have hsy:=HJ.out.size;by_cases hlt2:k<6
     ·have p1:decide ((k:Int)<6)=true:=decide_eq_true (by omega)
      obtain⟨d0,d1⟩:=HCC.out wy HJ.out k hlt2;have hby:b<wy.heap.size:=by have:=HB0.out.size;omega
      have HA2:Hid ((∃ j,j<6/\min a (axG (prG l k) 0)=axG (prG l j) 0)/\(∀ j,j<k+1->min a (axG (prG l k) 0)<=axG (prG l j) 0)/\(∃ j,j<6/\max z (axG (prG l k) 0)=axG (prG l j) 0)/\(∀ j,j<k+1->axG (prG l j) 0<=max z (axG (prG l k) 0))):=by
       obtain⟨⟨j1,h1,e1⟩,h2,⟨j3,h3,e3⟩,h4⟩:=HA.out;refine⟨?_,fun j hj=>?_,?_,fun j hj=>?_⟩
       ·by_cases hc:a<=axG (prG l k) 0
        ·exact⟨j1,h1,by omega⟩
        ·exact⟨k,hlt2,by omega⟩
       ·by_cases e:j=k
        ·rw[e];omega
        ·have:=h2 j (by omega);omega
       ·by_cases hc:axG (prG l k) 0<=z
        ·exact⟨j3,h3,by omega⟩
        ·exact⟨k,hlt2,by omega⟩
       ·by_cases e:j=k
        ·rw[e];omega
        ·have:=h4 j (by omega);omega
      have hax:axG (prG l k) 0=(prG l k).1:=rfl;rw[hax]at HA2;generalize prG l k=y at *;obtain⟨y1,y2⟩:=y;simp only at d0 d1 HA2;have KA:=(Below.refl wy.heap.size wy).alloc lr (.cells #[.int .i64 y1,.int .i64 y2] 26);have HJ2:=Hd (HJ.out.trans (KA.mono hsy));have CA:Hid (Two (wy.alloc (.cells #[.int .i64 y1,.int .i64 y2] 26)) wy.heap.size (.int .i64 y1) (.int .i64 y2)):=Two.of_row (t:=26) (f:=_) (heap_new _ _ _ rfl);have hsa:wy.heap.size<(wy.alloc (.cells #[.int .i64 y1,.int .i64 y2] 26)).heap.size:=by simp
      clear KA HA hax
      go_upto_region 8 with(fail)
      generalize wy.alloc (.cells #[.int .i64 y1,.int .i64 y2] 26)=wa at *;obtain⟨a0,a1⟩:=CA.out;have HJ3:Hid (Below w1.heap.size w1 wa.drew):=HJ2.out.drew;clear d0 d1
      go_region
      go_wp2
      (try rw[imin_c,imax_c])
      go_roundw
      case rel=>exact⟨k+1,_,_,by omega,rfl,rfl,by go_num,HA2.out,HJ3.out⟩
      case measure=>simp[intOf];omega
     ·obtain rfl:k=6:=by omega
      have p1:decide (((6:Nat):Int)<6)=false:=by decide
      obtain⟨⟨t0,t1⟩,t2,t3⟩:=HT0.out.later s0 HJ.out;have HF:=Hd (HB0.out.trans (HJ.out.mono HB0.out.size));obtain⟨h1,h2,h3,h4⟩:=HA.out;have e0:axG lo 0=lo.1:=rfl;have e1:axG hi 0=hi.1:=rfl;by_cases hc1:z<lo.1
      ·have p2:decide (z<lo.1)=true:=decide_eq_true hc1
       have HX:=Hd (HYES.out 0 (by decide) (.inl fun j hj=>by have:=h4 j hj;rw[e0];omega));clear h1 h2 h3 h4 HA HYES HNO HP;go_wp2;go_ret;rw[HX.out];exact⟨rfl,HF.out⟩
      ·have p2:decide (z<lo.1)=false:=decide_eq_false hc1
       by_cases hc2:hi.1<a
       ·have p3:decide (hi.1<a)=true:=decide_eq_true hc2
        have HX:=Hd (HYES.out 0 (by decide) (.inr fun j hj=>by have:=h2 j hj;rw[e1];omega));clear h1 h2 h3 h4 HA HYES HNO HP;go_wp2;go_ret;rw[HX.out];exact⟨rfl,HF.out⟩
       ·have p3:decide (hi.1<a)=false:=decide_eq_false hc2
        have HP2:Hid (∀ j,j<0+1->(∃ k,k<6/\axG lo j<=axG (prG l k) j)/\∃k,k<6/\axG (prG l k) j<=axG hi j):=fun j hj=>by
         by_cases e:j=0
         ·subst e
          obtain⟨j1,g1,f1⟩:=h1;obtain⟨j3,g3,f3⟩:=h3;exact⟨⟨j3,g3,by rw[<- f3,e0];omega⟩,j1,g1,by rw[<- f1,e1];omega⟩
         ·exact HP.out j (by omega)
        have HJE:=HJ;clear h1 h2 h3 h4 HA HP e0 e1;go_wp2
        go_roundw
        case rel=>exact⟨0+1,by omega,by go_num,HP2.out,HJE.out⟩
        case measure=>simp[intOf]
   ·have c9:wo.cell? ⟨b,off+1,none⟩=some (.int .i64 (axG (prG l 0) 1)):=by exact c1
    clear c0 c1
    go_upto_region 4 with(fail)
    go_wp2_with(first|(with_reducible refine wp_region_lex (by kernel_rfl) (by kernel_rfl) ?_)|(with_reducible refine OnlyG.intro (by kernel_rfl) ?_))
    have A0:Hid (∃ j,j<6/\axG (prG l 0) 1=axG (prG l j) 1):=⟨0,by omega,rfl⟩;generalize axG (prG l 0) 1=z0 at *;clear c9;generalize wo.drew=wd at *;have hbd:b<wd.heap.size:=by have:=BD.out.size;omega
    go_loopw [6,7,25] (fun av zv kv wy=>∃(k:Nat) (a z:Int),k<=6/\av=.int .i64 a/\zv=.int .i64 z/\kv=.int .i64 k/\Hid ((∃ j,j<6/\a=axG (prG l j) 1)/\(∀ j,j<k->a<=axG (prG l j) 1)/\(∃ j,j<6/\z=axG (prG l j) 1)/\(∀ j,j<k->axG (prG l j) 1<=z))/\Hid (Below w1.heap.size w1 wy)) (fun _ _ k _=>6-(intOf k).toNat)
    case atStart=>exact⟨0,z0,z0,by omega,rfl,rfl,rfl,⟨A0.out,fun j hj=>by omega,A0.out,fun j hj=>by omega⟩,BD.out⟩
    case round=>
     obtain⟨k,a,z,hk,rfl,rfl,rfl,HA,HJ⟩:=hrel;obtain⟨wy,rfl⟩:∃wy,wy=wr:=⟨_,rfl⟩;have hsy:=HJ.out.size;by_cases hlt2:k<6
     ·have p1:decide ((k:Int)<6)=true:=decide_eq_true (by omega)
      obtain⟨d0,d1⟩:=HCC.out wy HJ.out k hlt2;have hby:b<wy.heap.size:=by have:=HB0.out.size;omega
      have HA2:Hid ((∃ j,j<6/\min a (axG (prG l k) 1)=axG (prG l j) 1)/\(∀ j,j<k+1->min a (axG (prG l k) 1)<=axG (prG l j) 1)/\(∃ j,j<6/\max z (axG (prG l k) 1)=axG (prG l j) 1)/\(∀ j,j<k+1->axG (prG l j) 1<=max z (axG (prG l k) 1))):=by
       obtain⟨⟨j1,h1,e1⟩,h2,⟨j3,h3,e3⟩,h4⟩:=HA.out;refine⟨?_,fun j hj=>?_,?_,fun j hj=>?_⟩
       ·by_cases hc:a<=axG (prG l k) 1
        ·exact⟨j1,h1,by omega⟩
        ·exact⟨k,hlt2,by omega⟩
       ·by_cases e:j=k
        ·rw[e];omega
        ·have:=h2 j (by omega);omega
       ·by_cases hc:axG (prG l k) 1<=z
        ·exact⟨j3,h3,by omega⟩
        ·exact⟨k,hlt2,by omega⟩
       ·by_cases e:j=k
        ·rw[e];omega
        ·have:=h4 j (by omega);omega
      have hax:axG (prG l k) 1=(prG l k).2:=rfl;rw[hax]at HA2;generalize prG l k=y at *;obtain⟨y1,y2⟩:=y;simp only at d0 d1 HA2;have KA:=(Below.refl wy.heap.size wy).alloc lr (.cells #[.int .i64 y1,.int .i64 y2] 26);have HJ2:=Hd (HJ.out.trans (KA.mono hsy));have CA:Hid (Two (wy.alloc (.cells #[.int .i64 y1,.int .i64 y2] 26)) wy.heap.size (.int .i64 y1) (.int .i64 y2)):=Two.of_row (t:=26) (f:=_) (heap_new _ _ _ rfl);have hsa:wy.heap.size<(wy.alloc (.cells #[.int .i64 y1,.int .i64 y2] 26)).heap.size:=by simp
      clear KA HA hax
      go_upto_region 8 with(fail)
      generalize wy.alloc (.cells #[.int .i64 y1,.int .i64 y2] 26)=wa at *;obtain⟨a0,a1⟩:=CA.out;have HJ3:Hid (Below w1.heap.size w1 wa.drew):=HJ2.out.drew;clear d0 d1
      go_region
      go_wp2
      (try rw[imin_c,imax_c])
      go_roundw
      case rel=>exact⟨k+1,_,_,by omega,rfl,rfl,by go_num,HA2.out,HJ3.out⟩
      case measure=>simp[intOf];omega
     ·obtain rfl:k=6:=by omega
      have p1:decide (((6:Nat):Int)<6)=false:=by decide
      obtain⟨⟨t0,t1⟩,t2,t3⟩:=HT0.out.later s0 HJ.out;have HF:=Hd (HB0.out.trans (HJ.out.mono HB0.out.size));obtain⟨h1,h2,h3,h4⟩:=HA.out;have e0:axG lo 1=lo.2:=rfl;have e1:axG hi 1=hi.2:=rfl;by_cases hc1:z<lo.2
      ·have p2:decide (z<lo.2)=true:=decide_eq_true hc1
       have HX:=Hd (HYES.out 1 (by decide) (.inl fun j hj=>by have:=h4 j hj;rw[e0];omega));clear h1 h2 h3 h4 HA HYES HNO HP;go_wp2;go_ret;rw[HX.out];exact⟨rfl,HF.out⟩
      ·have p2:decide (z<lo.2)=false:=decide_eq_false hc1
       by_cases hc2:hi.2<a
       ·have p3:decide (hi.2<a)=true:=decide_eq_true hc2
        have HX:=Hd (HYES.out 1 (by decide) (.inr fun j hj=>by have:=h2 j hj;rw[e1];omega));clear h1 h2 h3 h4 HA HYES HNO HP;go_wp2;go_ret;rw[HX.out];exact⟨rfl,HF.out⟩
       ·have p3:decide (hi.2<a)=false:=decide_eq_false hc2
        have HP2:Hid (∀ j,j<1+1->(∃ k,k<6/\axG lo j<=axG (prG l k) j)/\∃k,k<6/\axG (prG l k) j<=axG hi j):=fun j hj=>by
         by_cases e:j=1
         ·subst e
          obtain⟨j1,g1,f1⟩:=h1;obtain⟨j3,g3,f3⟩:=h3;exact⟨⟨j3,g3,by rw[<- f3,e0];omega⟩,j1,g1,by rw[<- f1,e1];omega⟩
         ·exact HP.out j (by omega)
        have HJE:=HJ;clear h1 h2 h3 h4 HA HP e0 e1;go_wp2
        go_roundw
        case rel=>exact⟨1+1,by omega,by go_num,HP2.out,HJE.out⟩
        case measure=>simp[intOf]
  ·obtain rfl:i=2:=by omega
   have p1:decide (((2:Nat):Int)<2)=false:=by decide
   have HX:=Hd (HNO.out HI.out.1);have HF:=Hd (HB0.out.trans (HI.out.2.mono HB0.out.size));clear HI HYES HNO;go_wp2;go_ret;rw[HX.out];exact⟨rfl,HF.out⟩
def outF(l:List E2)(lo hi:E2)(k:Nat):Bool:= !(boxC lo hi).any fun c=>decide (0<=crossE (prG l k) (prG l ((k+1)%6)) c)
theorem range_any(l:List E2)(hl:l.length=6)(f:E2->Bool):((List.range 6).any fun k=>f (prG l k))=l.any f:=by
 rw[Bool.eq_iff_iff,any_pr,List.any_eq_true,hl];simp only[List.mem_range]
theorem touch_parts(l:List E2)(hl:l.length=6)(lo hi:E2):touchB (prG l) lo hi=(!besB l lo hi&&(List.range 6).all fun k=> !outF l lo hi k):=by
 unfold touchB besB outF;rw[range_any l hl fun p=>decide (lo.1<=p.1),range_any l hl fun p=>decide (p.1<=hi.1),range_any l hl fun p=>decide (lo.2<=p.2),range_any l hl fun p=>decide (p.2<=hi.2)];simp only[Bool.not_not,Bool.and_assoc]
def RingSm(l:List E2):Prop:=∀k,k<6->Sm 100000000000 (prG l k)/\Sm 16777216 (subE (prG l ((k+1)%6)) (prG l k))
theorem touches_any(ao:Option Addr)(c:Nat)(l:List E2)(lo hi:E2)(w:World)(h:PrAt w ao l)(hl:l.length=6)(hs:RingSm l)(hlo:Sm 10000000000 lo)(hhi:Sm 10000000000 hi):
  Calls Tryz.prog 61 #[vB lo hi,.slice ao 6 c] w fun e w'=>e=.returned (.bool (touchB (prG l) lo hi))/\Below w.heap.size w w':=by
 have HBE:=Hd (fun w h=>beside_any ao c l lo hi w h hl);have HOU:Hid (∀ k,k<6->∀w,Calls Tryz.prog 100 #[vB lo hi,vE (prG l k),vE (prG l ((k+1)%6))] w fun e w'=>e=.returned (.bool (outF l lo hi k))/\Below w.heap.size w w'):=fun k hk w=>outside_any lo hi _ _ hlo hhi (hs k hk).1 (hs k hk).2 w
 have HTP:=Hd (touch_parts l hl lo hi);have HYES:Hid (∀ k,k<6->outF l lo hi k=true->((List.range 6).all fun k=> !outF l lo hi k)=false):=fun k hk e=>by
  rw[List.all_eq_false];exact⟨k,List.mem_range.2 hk,by rw[e];decide⟩
 have HNO:Hid ((∀ k,k<6->outF l lo hi k=false)->((List.range 6).all fun k=> !outF l lo hi k)=true):=fun hh=>by
  rw[List.all_eq_true];intro k hk;rw[hh k (List.mem_range.1 hk)];rfl
 generalize touchB (prG l) lo hi=X at *;generalize((List.range 6).all fun k=> !outF l lo hi k)=A at *;generalize besB l lo hi=bs at *;generalize outF l lo hi=oF at *;have HR:=Hd h;have HL:=Hd hl;clear h hl hs hlo hhi;have HB0:Hid (Below w.heap.size w (w.alloc (.cells #[.int .i64 lo.1,.int .i64 lo.2,.int .i64 hi.1,.int .i64 hi.2] 97))):=br.alloc lr _;have HT0:Hid (CBoxAt (w.alloc (.cells #[.int .i64 lo.1,.int .i64 lo.2,.int .i64 hi.1,.int .i64 hi.2] 97)) w.heap.size lo hi):=CBoxAt.of_row (t:=97) (f:=_) (heap_new _ _ _ rfl);have s0:w.heap.size<(w.alloc (.cells #[.int .i64 lo.1,.int .i64 lo.2,.int .i64 hi.1,.int .i64 hi.2] 97)).heap.size:=by simp
 simp only[vB,vE]at*
 go_enter Tryz.func61,Tryz.ntmps61
 go_upto_region 1 with(fail)
 generalize w.alloc (.cells #[.int .i64 lo.1,.int .i64 lo.2,.int .i64 hi.1,.int .i64 hi.2] 97)=w1 at *;obtain⟨⟨t0,t1⟩,t2,t3⟩:=HT0.out;have HR1:Hid (PrAt w1 ao l):=HR.out.below (HB0.out.mono lr)
 go_wp2_with fail
 refine(HBE.out _ HR1.out).mono ?_;rintro e w2 ⟨rfl,hb2⟩;have HB2:=Hd (HB0.out.trans (hb2.mono HB0.out.size));have HT2:=Hd (HT0.out.later s0 hb2);have HR2:=Hd (HR1.out.below hb2);have s2:w.heap.size<w2.heap.size:=by have:=hb2.size;omega
 clear hb2 HR1 HT0 HB0 HBE t0 t1 t2 t3;cases bs with
 |true=>
  have HX:Hid (X=false):=by show _=_;rw[HTP.out];rfl
  clear HTP HOU HYES HNO;go_wp2;go_ret;rw[HX.out];exact⟨rfl,HB2.out⟩
 |false=>
  have HX:Hid (X=A):=by show _=_;rw[HTP.out];rfl
  clear HTP;go_wp2
  go_loopw [12] (fun iv wr=>∃(k:Nat),k<=6/\iv=.int .i64 k/\Hid ((∀ j,j<k->oF j=false)/\Below w2.heap.size w2 wr)) (fun i _=>6-(intOf i).toNat)
  case atStart=>exact⟨0,by omega,rfl,fun j hj=>by omega,br⟩
  case round=>
   obtain⟨k,hk,rfl,HI⟩:=hrel;obtain⟨wo,rfl⟩:∃wo,wo=wr:=⟨_,rfl⟩;have hso:=HI.out.2.size;by_cases hlt:k<6
   ·have q1:decide ((k:Int)<6)=true:=decide_eq_true (by omega)
    obtain⟨m,hm,hm6,hmk⟩:∃m:Nat,((k:Int)+1).tmod 6=m/\m<6/\(k+1)%6=m:=⟨(k+1)%6,by rw[Int.tmod_eq_emod_of_nonneg (by omega)];omega,by omega,rfl⟩;have HO:=HOU.out k hlt;rw[hmk]at HO;have HO:=Hd HO;have HY:=Hd (HYES.out k hlt);obtain⟨b,off,rfl,hb,hc⟩:=(HR2.out.below HI.out.2) (by rw[HL.out];omega);obtain⟨c0,c1⟩:=hc k (by rw[HL.out];exact hlt);obtain⟨d0,d1⟩:=hc m (by rw[HL.out];exact hm6);have HN:Hid (oF k=false->∀j,j<k+1->oF j=false):=fun h j hj=>by
     by_cases e:j=k
     ·rw[e];exact h
     ·exact HI.out.1 j (by omega)
    generalize prG l k=p at *;generalize prG l m=q at *;obtain⟨p1,p2⟩:=p;simp only at c0 c1 HO;generalize oF k=o at *;have KA:=(Below.refl wo.heap.size wo).alloc lr (.cells #[.int .i64 p1,.int .i64 p2] 26);have HI2:=Hd (HI.out.2.trans (KA.mono hso));have TA:=Hd (HT2.out.later s2 HI2.out);have PA:Hid (Two (wo.alloc (.cells #[.int .i64 p1,.int .i64 p2] 26)) wo.heap.size (.int .i64 p1) (.int .i64 p2)):=Two.of_row (t:=26) (f:=_) (heap_new _ _ _ rfl);have QA:Hid ((wo.alloc (.cells #[.int .i64 p1,.int .i64 p2] 26)).cell? ⟨b,off+m*2,none⟩=some (.int .i64 q.1)/\(wo.alloc (.cells #[.int .i64 p1,.int .i64 p2] 26)).cell? ⟨b,off+m*2+1,none⟩=some (.int .i64 q.2)):=⟨(KA.cell (p:=⟨b,_,none⟩) hb).trans d0,(KA.cell (p:=⟨b,_,none⟩) hb).trans d1⟩;have hsa:wo.heap.size<(wo.alloc (.cells #[.int .i64 p1,.int .i64 p2] 26)).heap.size:=by simp
    clear hc HI KA d0 d1 hmk
    go_upto_region 6 with(fail)
    generalize wo.alloc (.cells #[.int .i64 p1,.int .i64 p2] 26)=wa at *;have HC:Hid (∀ wx,Below wa.heap.size wa wx->CBoxAt wx w.heap.size lo hi/\Two wx wo.heap.size (.int .i64 p1) (.int .i64 p2)/\wx.cell? ⟨b,off+m*2,none⟩=some (.int .i64 q.1)/\wx.cell? ⟨b,off+m*2+1,none⟩=some (.int .i64 q.2)):=fun wx hx=>⟨TA.out.later (by omega) hx,PA.out.later (by omega) hx,(hx.cell (p:=⟨b,_,none⟩) (by show b<_;omega)).trans QA.out.1,(hx.cell (p:=⟨b,_,none⟩) (by show b<_;omega)).trans QA.out.2⟩
    clear TA PA QA c0 c1;refine wp_region_inv (fun w w'=>Below w.heap.size w w') (fun qi_ qv_ _=>qv_=([.agg #[.int .i64 lo.1,.int .i64 lo.2,.int .i64 hi.1,.int .i64 hi.2],.agg #[.int .i64 p1,.int .i64 p2],.slice (some ⟨b,off,none⟩) 6 c,.int .i64 k,.int .i64 ((k:Int)+1),.slice (some ⟨b,off,none⟩) 6 c,.int .i64 6,.int .i64 m,.pointer (some ⟨b,off+m*2,none⟩),.agg #[.int .i64 q.1,.int .i64 q.2],.bool o]:List Value).getD qi_ undef) (by kernel_rfl) (by kernel_rfl) (fun _=>br) (fun _ _ _ h1 h2=>below_later h1 h1.size h2) (fun _ _ _ _ _ _ h=>h) ?_;refine inv_cons (fun wx hg hd=>?_) (fun v0=>?_)
    ·have hx:=hxo wa hg
     clear hd hg;obtain⟨⟨⟨k1,k2⟩,k3,k4⟩,-⟩:=HC.out _ hx;go_wp2;exact⟨_,rfl,br,rfl⟩
    (try simp only[pq])
    refine inv_cons (fun wx hg hd=>?_) (fun v1=>?_)
    ·have hx:=hxo wa hg
     clear hd hg;obtain⟨-,⟨k1,k2⟩,-⟩:=HC.out _ hx;go_wp2;exact⟨_,rfl,br,rfl⟩
    (try simp only[pq])
    refine inv_cons (fun wx hg hd=>?_) (fun v2=>?_)
    ·have hx:=hxo wa hg
     clear hd hg;go_wp2;exact⟨_,rfl,br,rfl⟩
    (try simp only[pq])
    refine inv_cons (fun wx hg hd=>?_) (fun v3=>?_)
    ·have hx:=hxo wa hg
     clear hd hg;go_wp2;exact⟨_,rfl,br,rfl⟩
    (try simp only[pq])
    refine inv_cons (fun wx hg hd=>?_) (fun v4=>?_)
    ·have hx:=hxo wa hg
     (try cases gk 3 hd (by decide) rfl rfl)
     clear hd hg;go_wp2;exact⟨_,rfl,br,rfl⟩
    (try simp only[pq])
    refine inv_cons (fun wx hg hd=>?_) (fun v5=>?_)
    ·have hx:=hxo wa hg
     clear hd hg;go_wp2;exact⟨_,rfl,br,rfl⟩
    (try simp only[pq])
    refine inv_cons (fun wx hg hd=>?_) (fun v6=>?_)
    ·have hx:=hxo wa hg
     (try cases gk 5 hd (by decide) rfl rfl)
     clear hd hg;go_wp2;exact⟨_,rfl,br,rfl⟩
    (try simp only[pq])
    refine inv_cons (fun wx hg hd=>?_) (fun v7=>?_)
    ·have hx:=hxo wa hg
     (try cases gk 4 hd (by decide) rfl rfl)
     (try cases gk 6 hd (by decide) rfl rfl)
     clear hd hg;go_wp2;exact⟨_,rfl,br,rfl⟩
    (try simp only[pq])
    refine inv_cons (fun wx hg hd=>?_) (fun v8=>?_)
    ·have hx:=hxo wa hg
     (try cases gk 2 hd (by decide) rfl rfl)
     (try cases gk 7 hd (by decide) rfl rfl)
     clear hd hg;go_wp2;exact⟨_,rfl,br,rfl⟩
    (try simp only[pq])
    refine inv_cons (fun wx hg hd=>?_) (fun v9=>?_)
    ·have hx:=hxo wa hg
     (try cases gk 8 hd (by decide) rfl rfl)
     clear hd hg;obtain⟨-,-,k1,k2⟩:=HC.out _ hx;go_wp2;exact⟨_,rfl,br,rfl⟩
    (try simp only[pq])
    refine inv_cons (fun wx hg hd=>?_) (fun v10=>?_)
    ·have hx:=hxo wa hg
     (try cases gk 0 hd (by decide) rfl rfl)
     (try cases gk 1 hd (by decide) rfl rfl)
     (try cases gk 9 hd (by decide) rfl rfl)
     clear hd hg
     go_wp2_with fail
     refine(HO.out _).mono ?_;rintro e w' ⟨rfl,hb⟩;go_wp2;exact⟨_,rfl,hb,rfl⟩
    (try simp only[pq])
    refine inv_done (fun wx hg hd=>?_);have hx:=hxo wa hg
    cases gl hd rfl
    clear hd hg
    (try go_simp)
    have HX2:=Hd (HI2.out.trans (hx.mono HI2.out.size));clear hx HC HO;cases o with
    |true=>
     have HXF:Hid (X=false):=by show _=_;rw[HX.out];exact HY.out rfl
     have HF:=Hd (HB2.out.trans (HX2.out.mono HB2.out.size));clear HY HN;go_wp2;go_ret;rw[HXF.out];exact⟨rfl,HF.out⟩
    |false=>
     have HN2:=Hd (HN.out rfl);clear HY HN;go_wp2
     go_roundw
     case rel=>exact⟨k+1,by omega,by go_num,HN2.out,HX2.out⟩
     case measure=>simp[intOf];omega
   ·obtain rfl:k=6:=by omega
    have q1:decide (((6:Nat):Int)<6)=false:=by decide
    have HXF:Hid (X=true):=by show _=_;rw[HX.out];exact HNO.out HI.out.1
    have HF:=Hd (HB2.out.trans (HI.out.2.mono HB2.out.size));clear HI;go_wp2;go_ret;rw[HXF.out];exact⟨rfl,HF.out⟩
def Quad(w:World)(b:Nat)(x y:E2):Prop:=w.heap[b]? =some (.cells #[.int .i64 x.1,.int .i64 x.2,.int .i64 y.1,.int .i64 y.2] 97 (0,0))
theorem Quad.lt{w:World}{b:Nat}{x y:E2}(h:Quad w b x y):b<w.heap.size:=(Array.getElem?_eq_some_iff.1 h).1
theorem Quad.turn{S:Nat->Prop}{w w':World}{b:Nat}{x y:E2}(h:Quad w b x y)(ht:Turn S w w')(hs:¬S b):Quad w' b x y:=(ht.2.2.2.2 b h.lt hs).trans h
theorem Quad.later{w w':World}{b:Nat}{x y:E2}(h:Quad w b x y)(hb:Below w.heap.size w w'):Quad w' b x y:=(hb.block b h.lt).trans h
theorem Quad.cells{w:World}{b:Nat}{x y:E2}(h:Quad w b x y):w.cell? ⟨b,0,none⟩=some (.int .i64 x.1)/\w.cell? ⟨b,1,none⟩=some (.int .i64 x.2)/\w.cell? ⟨b,2,none⟩=some (.int .i64 y.1)/\w.cell? ⟨b,3,none⟩=some (.int .i64 y.2)/\w.frozen? ⟨b,0,none⟩=false/\w.frozen? ⟨b,1,none⟩=false/\w.frozen? ⟨b,2,none⟩=false/\w.frozen? ⟨b,3,none⟩=false/\b<w.heap.size:=
 ⟨cell_of_row _ _ 0 _ _ _ h,cell_of_row _ _ 1 _ _ _ h,cell_of_row _ _ 2 _ _ _ h,cell_of_row _ _ 3 _ _ _ h,frozen_of_row _ _ _ _ _ h,frozen_of_row _ _ _ _ _ h,frozen_of_row _ _ _ _ _ h,frozen_of_row _ _ _ _ _ h,h.lt⟩
theorem Quad.put0{w:World}{b:Nat}{x y:E2}(h:Quad w b x y)(s t:Int):Quad ((w.setCell ⟨b,0,none⟩ (.int .i64 s)).setCell ⟨b,2,none⟩ (.int .i64 t)) b (s,x.2) (t,y.2):=by
 unfold Quad at *;rw[Sort.setCell_eq,Sort.setCell_eq];simp[Sort.mapBlock,Array.getElem?_modify,h,Sort.onCells]
theorem Quad.put1{w:World}{b:Nat}{x y:E2}(h:Quad w b x y)(s t:Int):Quad ((w.setCell ⟨b,1,none⟩ (.int .i64 s)).setCell ⟨b,3,none⟩ (.int .i64 t)) b (x.1,s) (y.1,t):=by
 unfold Quad at *;rw[Sort.setCell_eq,Sort.setCell_eq];simp[Sort.mapBlock,Array.getElem?_modify,h,Sort.onCells]
def axOk(lo hi:E2)(i:Nat):Bool:= !(decide (axG lo i< -2147483648)||decide (2147483648<axG hi i)||decide (axG hi i<axG lo i))
def bxOk(lo hi:E2):Bool:=axOk lo hi 0&&axOk lo hi 1
def triE(p:E2):E2:=(3*p.1,3*p.2)
def InThP(X:Bool)(xl xh:E2)(e:Ending):Prop:=∃x y:E2,e=.returned (.tuple #[vB x y,.bool X])/\(X=true->x=xl/\y=xh)
theorem inth_any(lo hi:E2)(w:World):
  Calls Tryz.prog 60 #[vE lo,vE hi] w fun e w'=>InThP (bxOk lo hi) (triE lo) (triE hi) e/\Below w.heap.size w w':=by
 obtain⟨l1,l2⟩:=lo;obtain⟨h1,h2⟩:=hi;have HX:Hid (bxOk (l1,l2) (h1,h2)=(axOk (l1,l2) (h1,h2) 0&&axOk (l1,l2) (h1,h2) 1)):=rfl;have HA0:Hid (axOk (l1,l2) (h1,h2) 0= !(decide (l1< -2147483648)||decide (2147483648<h1)||decide (h1<l1))):=rfl;have HA1:Hid (axOk (l1,l2) (h1,h2) 1= !(decide (l2< -2147483648)||decide (2147483648<h2)||decide (h2<l2))):=rfl;have HE:Hid (triE (l1,l2)=(3*l1,3*l2)/\triE (h1,h2)=(3*h1,3*h2)):=⟨rfl,rfl⟩;generalize bxOk (l1,l2) (h1,h2)=X at *;generalize axOk (l1,l2) (h1,h2) 0=A at *;generalize axOk (l1,l2) (h1,h2) 1=B at *;generalize triE (l1,l2)=xl at *;generalize triE (h1,h2)=xh at *;simp only[vE];have L0:Hid (Two ((((w.alloc (.cells #[.int .i64 l1,.int .i64 l2] 26)).alloc (.cells #[.int .i64 h1,.int .i64 h2] 26)).alloc (.cells #[.int .i64 0,.int .i64 0,.int .i64 0,.int .i64 0] 97)).alloc (.cells #[.int .i64 0,.int .i64 0,.int .i64 0,.int .i64 0] 97)) w.heap.size (.int .i64 l1) (.int .i64 l2)):=(Two.of_row (t:=26) (f:=_) (heap_new _ _ _ rfl)).later (by simp) (((br.alloc lr _).alloc (by simp) _).alloc (by simp <;> omega) _);have H0:Hid (Two ((((w.alloc (.cells #[.int .i64 l1,.int .i64 l2] 26)).alloc (.cells #[.int .i64 h1,.int .i64 h2] 26)).alloc (.cells #[.int .i64 0,.int .i64 0,.int .i64 0,.int .i64 0] 97)).alloc (.cells #[.int .i64 0,.int .i64 0,.int .i64 0,.int .i64 0] 97)) (w.heap.size+1) (.int .i64 h1) (.int .i64 h2)):=(Two.of_row (t:=26) (f:=_) (heap_new _ _ _ (by simp))).later (by simp) ((br.alloc lr _).alloc (by simp) _);have R0:Hid (Quad ((((w.alloc (.cells #[.int .i64 l1,.int .i64 l2] 26)).alloc (.cells #[.int .i64 h1,.int .i64 h2] 26)).alloc (.cells #[.int .i64 0,.int .i64 0,.int .i64 0,.int .i64 0] 97)).alloc (.cells #[.int .i64 0,.int .i64 0,.int .i64 0,.int .i64 0] 97)) (w.heap.size+1+1) (0,0) (0,0)):=(show Quad (((w.alloc (.cells #[.int .i64 l1,.int .i64 l2] 26)).alloc (.cells #[.int .i64 h1,.int .i64 h2] 26)).alloc (.cells #[.int .i64 0,.int .i64 0,.int .i64 0,.int .i64 0] 97)) (w.heap.size+1+1) (0,0) (0,0)from heap_new _ _ _ (by simp)).later (br.alloc lr _);have Q0:Hid (Quad ((((w.alloc (.cells #[.int .i64 l1,.int .i64 l2] 26)).alloc (.cells #[.int .i64 h1,.int .i64 h2] 26)).alloc (.cells #[.int .i64 0,.int .i64 0,.int .i64 0,.int .i64 0] 97)).alloc (.cells #[.int .i64 0,.int .i64 0,.int .i64 0,.int .i64 0] 97)) (w.heap.size+1+1+1) (0,0) (0,0)):=heap_new _ _ _ (by simp);have B0:Hid (Below w.heap.size w ((((w.alloc (.cells #[.int .i64 l1,.int .i64 l2] 26)).alloc (.cells #[.int .i64 h1,.int .i64 h2] 26)).alloc (.cells #[.int .i64 0,.int .i64 0,.int .i64 0,.int .i64 0] 97)).alloc (.cells #[.int .i64 0,.int .i64 0,.int .i64 0,.int .i64 0] 97))):=((((Below.refl w.heap.size w).alloc lr _).alloc (by simp) _).alloc (by simp <;> omega) _).alloc (by simp <;> omega) _
 have s0:w.heap.size+4<=((((w.alloc (.cells #[.int .i64 l1,.int .i64 l2] 26)).alloc (.cells #[.int .i64 h1,.int .i64 h2] 26)).alloc (.cells #[.int .i64 0,.int .i64 0,.int .i64 0,.int .i64 0] 97)).alloc (.cells #[.int .i64 0,.int .i64 0,.int .i64 0,.int .i64 0] 97)).heap.size:=by simp
 go_enter Tryz.func60,Tryz.ntmps60
 go_upto_region 2 with(fail)
 generalize(((w.alloc (.cells #[.int .i64 l1,.int .i64 l2] 26)).alloc (.cells #[.int .i64 h1,.int .i64 h2] 26)).alloc (.cells #[.int .i64 0,.int .i64 0,.int .i64 0,.int .i64 0] 97)).alloc (.cells #[.int .i64 0,.int .i64 0,.int .i64 0,.int .i64 0] 97)=w1 at *;go_wp2
 go_loopw [8] (fun iv wr=>∃(i:Nat) (x y:E2),i<=2/\iv=.int .i64 i/\Hid (Quad wr (w.heap.size+1+1+1) x y/\Turn (fun k=>k=w.heap.size+1+1+1) w1 wr)/\Hid ((0<i->A=true/\x.1=3*l1/\y.1=3*h1)/\(1<i->B=true/\x.2=3*l2/\y.2=3*h2))) (fun i _=>2-(intOf i).toNat)
 case atStart=>exact⟨0,(0,0),(0,0),by omega,rfl,⟨Q0.out,Turn.refl _ _⟩,fun h=>by omega,fun h=>by omega⟩
 case round=>
  obtain⟨i,x,y,hi2,rfl,HQ,HD⟩:=hrel;obtain⟨wo,rfl⟩:∃wo,wo=wr:=⟨_,rfl⟩;have hso:=HQ.out.2.2.2.2.1;rcases(show i=0∨i=1∨i=2 by omega)with rfl|rfl|rfl
  ·have p1:decide (((0:Nat):Int)<2)=true:=by decide
   obtain⟨c0,c1,c2,c3,f0,f1,f2,f3,lq⟩:=HQ.out.1.cells;obtain⟨a0,a1⟩:=L0.out.turn HQ.out.2 (by omega) (by omega);obtain⟨b0,b1⟩:=H0.out.turn HQ.out.2 (by omega) (by omega);obtain⟨r0,r1,r2,r3,g0,g1,g2,g3,lr⟩:=(R0.out.turn HQ.out.2 (by omega)).cells;have HB:Hid (Below w.heap.size w wo):=B0.out.trans (HQ.out.2.below (by omega) fun k hk e=>by omega);rcases(show l1< -2147483648∨(¬ l1< -2147483648/\2147483648<h1)∨(¬ l1< -2147483648/\¬2147483648<h1/\h1<l1)∨(¬ l1< -2147483648/\¬2147483648<h1/\¬h1<l1) by omega)with e1|⟨e1,e2⟩|⟨e1,e2,e3⟩|⟨e1,e2,e3⟩
   ·have q1:decide (l1< -2147483648)=true:=decide_eq_true e1
    have HAF:Hid (A=false):=by show _=_;rw[HA0.out,q1];rfl
    have HXF:Hid (X=false):=by show _=_;rw[HX.out,HAF.out];simp
    clear HAF
    go_wp2_with(first|(with_reducible refine wp_region_lex (by kernel_rfl) (by kernel_rfl) ?_)|(with_reducible refine OnlyG.intro (by kernel_rfl) ?_))
    exact bodyPost_ret (v:=.tuple #[.agg #[.int .i64 x.1,.int .i64 x.2,.int .i64 y.1,.int .i64 y.2],.bool false]) (by simp[results,Tryz.results60,go_sem, *]) rfl ⟨⟨x,y,by rw[HXF.out],fun h=>by rw[HXF.out]at h;cases h⟩,(((HB.out.drew.setCell (p:=⟨w.heap.size+1+1,0,none⟩) (by simp <;> omega) _).setCell (p:=⟨w.heap.size+1+1,1,none⟩) (by simp <;> omega) _).setCell (p:=⟨w.heap.size+1+1,2,none⟩) (by simp <;> omega) _).setCell (p:=⟨w.heap.size+1+1,3,none⟩) (by simp <;> omega) _⟩
   ·have q1:decide (l1< -2147483648)=false:=decide_eq_false e1
    have q2:decide (2147483648<h1)=true:=decide_eq_true e2;have HAF:Hid (A=false):=by show _=_;rw[HA0.out,q1,q2];rfl
    have HXF:Hid (X=false):=by show _=_;rw[HX.out,HAF.out];simp
    clear HAF
    go_wp2_with(first|(with_reducible refine wp_region_lex (by kernel_rfl) (by kernel_rfl) ?_)|(with_reducible refine OnlyG.intro (by kernel_rfl) ?_))
    exact bodyPost_ret (v:=.tuple #[.agg #[.int .i64 x.1,.int .i64 x.2,.int .i64 y.1,.int .i64 y.2],.bool false]) (by simp[results,Tryz.results60,go_sem, *]) rfl ⟨⟨x,y,by rw[HXF.out],fun h=>by rw[HXF.out]at h;cases h⟩,(((HB.out.drew.setCell (p:=⟨w.heap.size+1+1,0,none⟩) (by simp <;> omega) _).setCell (p:=⟨w.heap.size+1+1,1,none⟩) (by simp <;> omega) _).setCell (p:=⟨w.heap.size+1+1,2,none⟩) (by simp <;> omega) _).setCell (p:=⟨w.heap.size+1+1,3,none⟩) (by simp <;> omega) _⟩
   ·have q1:decide (l1< -2147483648)=false:=decide_eq_false e1
    have q2:decide (2147483648<h1)=false:=decide_eq_false e2;have q3:decide (h1<l1)=true:=decide_eq_true e3;have HAF:Hid (A=false):=by show _=_;rw[HA0.out,q1,q2,q3];rfl
    have HXF:Hid (X=false):=by show _=_;rw[HX.out,HAF.out];simp
    clear HAF
    go_wp2_with(first|(with_reducible refine wp_region_lex (by kernel_rfl) (by kernel_rfl) ?_)|(with_reducible refine OnlyG.intro (by kernel_rfl) ?_))
    exact bodyPost_ret (v:=.tuple #[.agg #[.int .i64 x.1,.int .i64 x.2,.int .i64 y.1,.int .i64 y.2],.bool false]) (by simp[results,Tryz.results60,go_sem, *]) rfl ⟨⟨x,y,by rw[HXF.out],fun h=>by rw[HXF.out]at h;cases h⟩,(((HB.out.drew.setCell (p:=⟨w.heap.size+1+1,0,none⟩) (by simp <;> omega) _).setCell (p:=⟨w.heap.size+1+1,1,none⟩) (by simp <;> omega) _).setCell (p:=⟨w.heap.size+1+1,2,none⟩) (by simp <;> omega) _).setCell (p:=⟨w.heap.size+1+1,3,none⟩) (by simp <;> omega) _⟩
   ·have q1:decide (l1< -2147483648)=false:=decide_eq_false e1
    have q2:decide (2147483648<h1)=false:=decide_eq_false e2;have q3:decide (h1<l1)=false:=decide_eq_false e3;have HAF:Hid (A=true):=by show _=_;rw[HA0.out,q1,q2,q3];rfl
    have HP:=Hd (HQ.out.1.put0 (3*l1) (3*h1));have HT:=Hd ((HQ.out.2.setCell (a:=⟨w.heap.size+1+1+1,0,none⟩) rfl (.int .i64 (3*l1))).setCell (a:=⟨w.heap.size+1+1+1,2,none⟩) rfl (.int .i64 (3*h1)));clear r0 r1 r2 r3 g0 g1 g2 g3 lr HB HQ
    go_upto_region 7 with(first|(with_reducible refine wp_region_lex (by kernel_rfl) (by kernel_rfl) ?_)|(with_reducible refine OnlyG.intro (by kernel_rfl) ?_))
    go_region
    all_goals
     go_wp2
     go_roundw
     case rel=>exact⟨0+1,(3*l1,x.2),(3*h1,y.2),by omega,rfl,⟨HP.out,HT.out.drew.drew⟩,fun _=>⟨HAF.out,rfl,rfl⟩,fun h=>by omega⟩
     case measure=>simp[intOf]
  ·have p1:decide (((1:Nat):Int)<2)=true:=by decide
   obtain⟨c0,c1,c2,c3,f0,f1,f2,f3,lq⟩:=HQ.out.1.cells;obtain⟨a0,a1⟩:=L0.out.turn HQ.out.2 (by omega) (by omega);obtain⟨b0,b1⟩:=H0.out.turn HQ.out.2 (by omega) (by omega);obtain⟨r0,r1,r2,r3,g0,g1,g2,g3,lr⟩:=(R0.out.turn HQ.out.2 (by omega)).cells;have HB:Hid (Below w.heap.size w wo):=B0.out.trans (HQ.out.2.below (by omega) fun k hk e=>by omega);rcases(show l2< -2147483648∨(¬ l2< -2147483648/\2147483648<h2)∨(¬ l2< -2147483648/\¬2147483648<h2/\h2<l2)∨(¬ l2< -2147483648/\¬2147483648<h2/\¬h2<l2) by omega)with e1|⟨e1,e2⟩|⟨e1,e2,e3⟩|⟨e1,e2,e3⟩
   ·have q1:decide (l2< -2147483648)=true:=decide_eq_true e1
    have HAF:Hid (B=false):=by show _=_;rw[HA1.out,q1];rfl
    have HXF:Hid (X=false):=by show _=_;rw[HX.out,HAF.out];simp
    clear HAF
    go_wp2_with(first|(with_reducible refine wp_region_lex (by kernel_rfl) (by kernel_rfl) ?_)|(with_reducible refine OnlyG.intro (by kernel_rfl) ?_))
    exact bodyPost_ret (v:=.tuple #[.agg #[.int .i64 x.1,.int .i64 x.2,.int .i64 y.1,.int .i64 y.2],.bool false]) (by simp[results,Tryz.results60,go_sem, *]) rfl ⟨⟨x,y,by rw[HXF.out],fun h=>by rw[HXF.out]at h;cases h⟩,(((HB.out.drew.setCell (p:=⟨w.heap.size+1+1,0,none⟩) (by simp <;> omega) _).setCell (p:=⟨w.heap.size+1+1,1,none⟩) (by simp <;> omega) _).setCell (p:=⟨w.heap.size+1+1,2,none⟩) (by simp <;> omega) _).setCell (p:=⟨w.heap.size+1+1,3,none⟩) (by simp <;> omega) _⟩
   ·have q1:decide (l2< -2147483648)=false:=decide_eq_false e1
    have q2:decide (2147483648<h2)=true:=decide_eq_true e2;have HAF:Hid (B=false):=by show _=_;rw[HA1.out,q1,q2];rfl
    have HXF:Hid (X=false):=by show _=_;rw[HX.out,HAF.out];simp
    clear HAF
    go_wp2_with(first|(with_reducible refine wp_region_lex (by kernel_rfl) (by kernel_rfl) ?_)|(with_reducible refine OnlyG.intro (by kernel_rfl) ?_))
    exact bodyPost_ret (v:=.tuple #[.agg #[.int .i64 x.1,.int .i64 x.2,.int .i64 y.1,.int .i64 y.2],.bool false]) (by simp[results,Tryz.results60,go_sem, *]) rfl ⟨⟨x,y,by rw[HXF.out],fun h=>by rw[HXF.out]at h;cases h⟩,(((HB.out.drew.setCell (p:=⟨w.heap.size+1+1,0,none⟩) (by simp <;> omega) _).setCell (p:=⟨w.heap.size+1+1,1,none⟩) (by simp <;> omega) _).setCell (p:=⟨w.heap.size+1+1,2,none⟩) (by simp <;> omega) _).setCell (p:=⟨w.heap.size+1+1,3,none⟩) (by simp <;> omega) _⟩
   ·have q1:decide (l2< -2147483648)=false:=decide_eq_false e1
    have q2:decide (2147483648<h2)=false:=decide_eq_false e2;have q3:decide (h2<l2)=true:=decide_eq_true e3;have HAF:Hid (B=false):=by show _=_;rw[HA1.out,q1,q2,q3];rfl
    have HXF:Hid (X=false):=by show _=_;rw[HX.out,HAF.out];simp
    clear HAF
    go_wp2_with(first|(with_reducible refine wp_region_lex (by kernel_rfl) (by kernel_rfl) ?_)|(with_reducible refine OnlyG.intro (by kernel_rfl) ?_))
    exact bodyPost_ret (v:=.tuple #[.agg #[.int .i64 x.1,.int .i64 x.2,.int .i64 y.1,.int .i64 y.2],.bool false]) (by simp[results,Tryz.results60,go_sem, *]) rfl ⟨⟨x,y,by rw[HXF.out],fun h=>by rw[HXF.out]at h;cases h⟩,(((HB.out.drew.setCell (p:=⟨w.heap.size+1+1,0,none⟩) (by simp <;> omega) _).setCell (p:=⟨w.heap.size+1+1,1,none⟩) (by simp <;> omega) _).setCell (p:=⟨w.heap.size+1+1,2,none⟩) (by simp <;> omega) _).setCell (p:=⟨w.heap.size+1+1,3,none⟩) (by simp <;> omega) _⟩
   ·have q1:decide (l2< -2147483648)=false:=decide_eq_false e1
    have q2:decide (2147483648<h2)=false:=decide_eq_false e2;have q3:decide (h2<l2)=false:=decide_eq_false e3;have HAF:Hid (B=true):=by show _=_;rw[HA1.out,q1,q2,q3];rfl
    have HP:=Hd (HQ.out.1.put1 (3*l2) (3*h2));have HT:=Hd ((HQ.out.2.setCell (a:=⟨w.heap.size+1+1+1,1,none⟩) rfl (.int .i64 (3*l2))).setCell (a:=⟨w.heap.size+1+1+1,3,none⟩) rfl (.int .i64 (3*h2)));clear r0 r1 r2 r3 g0 g1 g2 g3 lr HB HQ
    go_upto_region 7 with(first|(with_reducible refine wp_region_lex (by kernel_rfl) (by kernel_rfl) ?_)|(with_reducible refine OnlyG.intro (by kernel_rfl) ?_))
    go_region
    all_goals
     go_wp2
     go_roundw
     case rel=>exact⟨1+1,(x.1,3*l2),(y.1,3*h2),by omega,rfl,⟨HP.out,HT.out.drew.drew⟩,fun _=>HD.out.1 (by decide),fun _=>⟨HAF.out,rfl,rfl⟩⟩
     case measure=>simp[intOf]
  ·have p1:decide (((2:Nat):Int)<2)=false:=by decide
   obtain⟨c0,c1,c2,c3,f0,f1,f2,f3,lq⟩:=HQ.out.1.cells;obtain⟨r0,r1,r2,r3,g0,g1,g2,g3,lr⟩:=(R0.out.turn HQ.out.2 (by omega)).cells;have HB:Hid (Below w.heap.size w wo):=B0.out.trans (HQ.out.2.below (by omega) fun k hk e=>by omega);obtain⟨d1,d2⟩:=HD.out;obtain⟨d1a,d1b,d1c⟩:=d1 (by decide);obtain⟨d2a,d2b,d2c⟩:=d2 (by decide);have HXF:Hid (X=true/\xl=x/\xh=y):=by
    refine⟨by rw[HX.out,d1a,d2a];rfl,?_,?_⟩
    ·rw[HE.out.1, <-d1b, <-d2b]
    ·rw[HE.out.2, <-d1c, <-d2c]
   clear d1 d2 d1a d1b d1c d2a d2b d2c HD HQ;go_wp2;exact bodyPost_ret (v:=.tuple #[.agg #[.int .i64 x.1,.int .i64 x.2,.int .i64 y.1,.int .i64 y.2],.bool true]) (by simp[results,Tryz.results60,go_sem, *]) rfl ⟨⟨x,y,by rw[HXF.out.1],fun _=>⟨HXF.out.2.1.symm,HXF.out.2.2.symm⟩⟩,(((HB.out.setCell (p:=⟨w.heap.size+1+1,0,none⟩) (by simp <;> omega) _).setCell (p:=⟨w.heap.size+1+1,1,none⟩) (by simp <;> omega) _).setCell (p:=⟨w.heap.size+1+1,2,none⟩) (by simp <;> omega) _).setCell (p:=⟨w.heap.size+1+1,3,none⟩) (by simp <;> omega) _⟩
theorem d_sm{m:Nat}(hm:m<=12):Sm 16777216 (d0E m)/\Sm 16777216 (d1E m)/\Sm 16777216 (subE (d1E m) (d0E m)):=by
 unfold Sm;rcases upto12 hm with rfl|rfl|rfl|rfl|rfl|rfl|rfl|rfl|rfl|rfl|rfl|rfl|rfl <;> decide
theorem ring_sm{m:Nat}(hm:m<=12){z:E2}(hc:Sm 90000000000 (cenE m z)):RingSm (hexL m z):=fun k hk=>by
 obtain⟨h0,h1,h2,h3,h4,h5⟩:=hexC_eq m z;obtain⟨e0,e1,e2⟩:=d_sm hm;rw[hexL_get m z hk,hexL_get m z (show(k+1)%6<6 by omega)];generalize d0E m=d at *;generalize d1E m=e at *;generalize cenE m z=o at *;unfold Sm subE at *;simp only at e2;rcases(show k=0∨k=1∨k=2∨k=3∨k=4∨k=5 by omega)with rfl|rfl|rfl|rfl|rfl|rfl
 ·rw[show (0+1)%6=1 from rfl,h0,h1];(try unfold addE);simp only;omega
 ·rw[show (1+1)%6=2 from rfl,h1,h2];(try unfold addE);simp only;omega
 ·rw[show (2+1)%6=3 from rfl,h2,h3];(try unfold addE);simp only;omega
 ·rw[show (3+1)%6=4 from rfl,h3,h4];(try unfold addE);simp only;omega
 ·rw[show (4+1)%6=5 from rfl,h4,h5];(try unfold addE);simp only;omega
 ·rw[show (5+1)%6=0 from rfl,h5,h0];(try unfold addE);simp only;omega
theorem ok_near{r:Nat}{z:E2}(h:okB r z=true):r<=12/\Sm 1073741824 z/\Sm 90000000000 (cenE (12-r) z):=by
 obtain⟨hs,hb⟩:=(okB_iff _ _).1 h;have hs:=(shapeB_iff _ _).1 hs;have hr:r<=12:=by omega
 refine⟨hr,by unfold Sm;omega,?_⟩;have h0:Hex (tN (12-r) 0) (errE (12-r) z (2340*(mulE (bE (12-r)) z).1,2340*(mulE (bE (12-r)) z).2)):=by
  have:(0:Int)<=tN (12-r) 0:=by rcases upto12 hr with rfl|rfl|rfl|rfl|rfl|rfl|rfl|rfl|rfl|rfl|rfl|rfl|rfl <;> decide
  unfold errE Hex;simp only;omega
 have h2:=err_ups h0 (k:=r) (by omega);rw[show 12-r+r=12 by omega]at h2;have ht:tN (12-r) r<=4000000000:=by rcases upto12 hr with rfl|rfl|rfl|rfl|rfl|rfl|rfl|rfl|rfl|rfl|rfl|rfl|rfl <;> decide
 have h3:=h2.mono ht;rw[show ((r:Int)).toNat=r by omega]at hb;generalize upN r z=b at *;obtain⟨_,_,_,_,_,_,_,_,_,_,_,_,q12⟩:=bE_tab;rw[baseB_iff]at hb;obtain⟨b1,b2⟩:=b;have hm:midE (12-r) z=(3*(mulE (bE (12-r)) z).1,3*(mulE (bE (12-r)) z).2):=by
  unfold midE mulE;generalize bE (12-r)=c;ext <;> simp only <;> grind
 unfold cenE spotE;rw[hm];generalize mulE (bE (12-r)) z=u at *;simp only[Hex,errE,mulE,q12]at h3 hb;unfold Sm;simp only;omega
def ctB(r:Int)(z lo hi:E2):Bool:=bxOk lo hi&&(okB r z&&touchB (prG (hexL (12-r.toNat) z)) (triE lo) (triE hi))
theorem tri_sm{lo hi:E2}(h:bxOk lo hi=true):Sm 10000000000 (triE lo)/\Sm 10000000000 (triE hi):=by
 unfold bxOk axOk axG at h;simp at h;unfold Sm triE;simp only;omega
end
section
open Go.RowKit Go.Lib Wd
open Go.ChangeMaps (setBlock heap_setBlock_same heap_setBlock_other)
theorem turned_other{w w':World}{b x:Nat}(h:w.mapTurned w' b)(hx:x≠b):w'.heap[x]? =w.heap[x]? :=by
 obtain⟨es,clock,es',clock',hb,rfl⟩:=h;exact heap_setBlock_other hb _ hx
theorem Turn.mapT{S:Nat->Prop}{w w' w2:World}{b:Nat}(h:Turn S w w')(hb:S b)(ht:w'.mapTurned w2 b):Turn S w w2:=by
 have hg:=ht.grown;exact⟨hg.os.trans h.1,hg.tape.trans h.2.1,hg.output.trans h.2.2.1,Nat.le_trans h.2.2.2.1 hg.size,fun k hk hs=>(hg.block k (Nat.lt_of_lt_of_le hk h.2.2.2.1) (fun e=>hs (by cases e;exact hb))).trans (h.2.2.2.2 k hk hs)⟩
def FloodAt(w:World)(B fb mb:Nat)(r:Nat)(lo hi:E2)(vo:Option Addr)(c:Nat)(L:List E2)(f:E2->Option Int)(m:Nat):Prop:=
 (w.cell? ⟨fb,0,none⟩=some (.int .i64 r)/\w.cell? ⟨fb,1,none⟩=some (.func (.func 61) #[vB lo hi] #[])/\w.cell? ⟨fb,3,none⟩=some (.map (some mb)))/\RowE w B fb 2 vo c L/\MapE w mb f m/\B<=fb/\B<=mb
def FootF(fb mb:Nat)(vo:Option Addr):Nat->Prop:=fun k=>FootE fb vo k∨k=mb
theorem FloodAt.apart{w:World}{B fb mb r c m:Nat}{lo hi:E2}{vo:Option Addr}{L:List E2}{f:E2->Option Int}(h:FloodAt w B fb mb r lo hi vo c L f m):∀k,FootE fb vo k->k≠mb:=fun k hk e=>by
 obtain⟨⟨h0,-,-⟩,hR,hM,-,-⟩:=h;subst e;rcases hk with e|⟨o,s,e⟩
 ·subst e
  obtain⟨D,⟨es,clock,h10,_⟩,_⟩:=hM;simp[World.cell?,h10]at h0
 ·rcases hR.2.2.1.2 with⟨h1,_⟩|⟨g',cap,cur,hv,_,hh,_⟩
  ·simp only[Value.slice.injEq]at h1;rw[h1.1]at e;cases e
  ·cases hv;cases e;exact hM.notCells hh
theorem FloodAt.below{w w':World}{B fb mb r c m:Nat}{lo hi:E2}{vo:Option Addr}{L:List E2}{f:E2->Option Int}(h:FloodAt w B fb mb r lo hi vo c L f m)(hb:Below w.heap.size w w'):FloodAt w' B fb mb r lo hi vo c L f m:=by
 obtain⟨⟨h0,h1,h2⟩,hR,hM,h5⟩:=h;have e:=hb.block fb hR.lt;exact⟨⟨(World.cell?_of_block (a:=⟨fb,0,none⟩) e).trans h0,(World.cell?_of_block (a:=⟨fb,1,none⟩) e).trans h1,(World.cell?_of_block (a:=⟨fb,3,none⟩) e).trans h2⟩,hR.below hb,hM.heap (hb.block mb hM.lt),h5⟩
theorem FloodAt.mapped{w w':World}{B fb mb r c m m':Nat}{lo hi:E2}{vo:Option Addr}{L:List E2}{f f':E2->Option Int}(h:FloodAt w B fb mb r lo hi vo c L f m)(hm:MapE w' mb f' m')(ht:w.mapTurned w' mb):FloodAt w' B fb mb r lo hi vo c L f' m':=by
 have ha:=h.apart;obtain⟨⟨h0,h1,h2⟩,hR,hM,h5⟩:=h;have e:=turned_other ht (ha fb (.inl rfl));have hT:Turn (fun k=>k=mb) w w':=(Turn.refl _ _).mapT rfl ht;exact⟨⟨(World.cell?_of_block (a:=⟨fb,0,none⟩) e).trans h0,(World.cell?_of_block (a:=⟨fb,1,none⟩) e).trans h1,(World.cell?_of_block (a:=⟨fb,3,none⟩) e).trans h2⟩,hR.kept hT ha,hm,h5⟩
theorem FloodAt.rowed{w w':World}{B fb mb r c c' m:Nat}{lo hi:E2}{vo vo':Option Addr}{L L':List E2}{f:E2->Option Int}(h:FloodAt w B fb mb r lo hi vo c L f m)(hr:RowE w' B fb 2 vo' c' L')(ht:TE fb 2 vo w w'):FloodAt w' B fb mb r lo hi vo' c' L' f m:=by
 have ha:=h.apart;obtain⟨⟨h0,h1,h2⟩,hR,hM,h5⟩:=h;exact⟨⟨(ht.2.1 0 (by decide)).trans h0,(ht.2.1 1 (by decide)).trans h1,(ht.2.1 3 (by decide)).trans h2⟩,hr,hM.heap (ht.1.2.2.2.2 mb hM.lt fun hf=>ha mb hf rfl),h5⟩
def Looked(w:World)(B fb mb:Nat)(r:Nat)(lo hi:E2)(vo:Option Addr)(L:List E2)(f:E2->Option Int)(m:Nat)(z:E2)(t:Bool)(w':World):Prop:=
 ∃vo' c' L',FloodAt w' B fb mb r lo hi vo' c' L' (updE f z (some ((f z).getD 0+1))) (if(f z).isSome then m else m+1)/\GrowsE w fb vo vo'/\Turn (FootF fb mb vo) w w'/\
  L'.Perm (if(f z).getD 0=0/\t=true then z::L else L)
theorem look_any{w:World}{B fb mb r c m:Nat}{lo hi:E2}{vo:Option Addr}{L:List E2}{f:E2->Option Int}(h:FloodAt w B fb mb r lo hi vo c L f m)(z:E2)(hz:Sm 1073741824 z)(hr:r<=12)(hs:RingSm (hexL (12-r) z))(hlo:Sm 10000000000 lo)(hhi:Sm 10000000000 hi)
  (hL:L.length<1000000) (hm:m<1000000) (hf:0<=(f z).getD 0/\(f z).getD 0<1000000):
  Calls Tryz.prog 63 #[.pointer (some ⟨fb,0,none⟩),vE z] w fun e w'=>e=.returned (.tuple #[])/\Looked w B fb mb r lo hi vo L f m z (touchB (prG (hexL (12-r) z)) lo hi) w':=by
 have hwz:=wfE_sm hz (by decide);have HHX:=Hd (fun w=>hex_in z hz r hr w);have HTO:Hid (∀ ao c w,PrAt w ao (hexL (12-r) z)->Calls Tryz.prog 61 #[vB lo hi,.slice ao 6 c] w fun e w'=>e=.returned (.bool (touchB (prG (hexL (12-r) z)) lo hi))/\Below w.heap.size w w'):=fun ao c w h=>touches_any ao c _ _ _ w h (hexL_len _ _) hs hlo hhi
 have HLN:=Hd (hexL_len (12-r) z);generalize touchB (prG (hexL (12-r) z)) lo hi=T at *;generalize hexL (12-r) z=H at *;obtain⟨v,hv⟩:∃v,(f z).getD 0=v:=⟨_,rfl⟩;obtain⟨m',hm'⟩:∃n,(if(f z).isSome then m else m+1)=n:=⟨_,rfl⟩;have HF:Hid (∀ w' vo' c' L',FloodAt w' B fb mb r lo hi vo' c' L' (updE f z (some (v+1))) m'->GrowsE w fb vo vo'->Turn (FootF fb mb vo) w w'->L'.Perm (if v=0/\T=true then z::L else L)->Looked w B fb mb r lo hi vo L f m z T w'):=fun w' vo' c' L' h1 h2 h3 h4=>
  ⟨vo',c',L',by rw[hv,hm'];exact h1,h2,h3,by rw[hv];exact h4⟩
 rw[hv]at hf;obtain⟨w1,hw1⟩:∃W,w.alloc (.cells #[.int .i64 z.1,.int .i64 z.2] 37)=W:=⟨_,rfl⟩;have hb1:Below w.heap.size w w1:=by rw[<- hw1];exact br.alloc lr _
 have hsz:w1.heap.size=w.heap.size+1:=by rw[<- hw1];exact World.size_alloc _ _
 have hx0:w1.heap[w.heap.size]? =some (.cells #[.int .i64 z.1,.int .i64 z.2] 37 (0,0)):=by rw[<- hw1];exact heap_new _ _ _ rfl
 have h1:=h.below hb1;have hM1:MapE w1.drew mb f m:=h1.2.2.1;have hmb:=h.2.2.1.lt;obtain⟨v0,st,we,q2,ht1,q3,hst⟩:=hM1.entry (by unfold maxLen;omega) hwz;have q1:=hM1.get hwz;obtain⟨w2,q4,hM2,ht2⟩:=hst (v+1) (wf_i64 (by omega) (by omega));rw[hv]at q1 q3;rw[hm']at hM2;have h2:FloodAt w2 B fb mb r lo hi vo c L (updE f z (some (v+1))) m':=FloodAt.mapped (w:=w1.drew) h1 hM2 ht2;have hT2:Turn (FootF fb mb vo) w w2:=Turn.mapT (w':=w1.drew) ((Turn.of_below hb1).drew) (.inr rfl) ht2;have hx2:w2.heap[w.heap.size]? =some (.cells #[.int .i64 z.1,.int .i64 z.2] 37 (0,0)):=(turned_other ht2 (by omega)).trans hx0;have hg2:(Instr.lookup 102 (.map (some mb)) (vE z) false).run Tryz.prog w2.drew=.ok (.int .i64 (v+1)) w2.drew:=by
  have:=(show MapE w2.drew mb _ m' from hM2).get hwz;rw[this];unfold updE;rw[if_pos rfl];rfl
 have d1:w1.cell? ⟨w.heap.size,0,none⟩=some (.int .i64 z.1):=cell_of_row w1 _ 0 _ _ _ hx0;have d2:w1.cell? ⟨w.heap.size,1,none⟩=some (.int .i64 z.2):=cell_of_row w1 _ 1 _ _ _ hx0;have e1:w2.cell? ⟨w.heap.size,0,none⟩=some (.int .i64 z.1):=cell_of_row w2 _ 0 _ _ _ hx2;have e2:w2.cell? ⟨w.heap.size,1,none⟩=some (.int .i64 z.2):=cell_of_row w2 _ 1 _ _ _ hx2;obtain⟨⟨a0,a1,a3⟩,-⟩:=id h1;obtain⟨⟨b0,b1,b3⟩,-⟩:=id h2;have HW1:=Hd hw1;have H2:=Hd h2;have HT2:=Hd hT2;have HX2:=Hd hx2;have hfb:fb<w1.heap.size:=h1.2.1.lt;have hfb2:fb<w2.heap.size:=h2.2.1.lt;have hbx2:w.heap.size<w2.heap.size:=(Array.getElem?_eq_some_iff.1 hx2).1;clear hT2 hx2 hx0 hst hM1 hM2 h1 h2 ht1 ht2 hwz hw1 hb1 hs h hv hm';simp only[vE,vB]at*
 go_enter Tryz.func63,Tryz.ntmps63
 go_upto_region 1 with(fail)
 rw[HW1.out]
 go_region
 by_cases hv0:v=0
 ·subst hv0
  go_upto_region 3 with(first|(with_reducible refine wp_region_lex (by kernel_rfl) (by kernel_rfl) ?_)|(with_reducible refine OnlyG.intro (by kernel_rfl) ?_))
  go_upto_region 4 with(first|(with_reducible refine wp_region_lex (by kernel_rfl) (by kernel_rfl) ?_)|(with_reducible refine OnlyG.intro (by kernel_rfl) ?_)|(go_at_call 102;refine(HHX.out _).mono ?_;rintro e w4 ⟨ao,ac,rfl,ho4,hb4⟩))
  have HP4:=Hd (prAt_own HLN.out.symm ho4);have K4:=hb4;have F4:=Hd ((show FloodAt w2.drew.drew B fb mb r lo hi vo c L (updE f z (some (0+1))) m' from H2.out).below hb4);have HT4:Hid (Turn (FootF fb mb vo) w w4):=(HT2.out.drew.drew).trans (T:=fun _=>False) (Turn.of_below hb4) fun _ _ h=>h.elim
  have HX4:Hid (w4.heap[w.heap.size]? =some (.cells #[.int .i64 z.1,.int .i64 z.2] 37 (0,0))):=(hb4.block w.heap.size hbx2).trans HX2.out;obtain⟨⟨-,k1,-⟩,-⟩:=id F4.out;have hfb4:fb<w4.heap.size:=F4.out.2.1.lt;have HT5:=Hd (HTO.out ao ac w4 HP4.out);clear ho4 hb4 K4 H2 HT2 HX2 HHX HTO d1 d2 e1 e2 a0 a1 a3 b0 b1 b3 q1 q2 q3 q4 hg2
  go_wp2_with fail
  refine HT5.out.mono ?_;rintro e w5 ⟨rfl,hb5⟩;have F5:=Hd (F4.out.below hb5);have T5:Hid (Turn (FootF fb mb vo) w w5):=HT4.out.trans (T:=fun _=>False) (Turn.of_below hb5) fun _ _ h=>h.elim
  have hx5:w5.heap[w.heap.size]? =some (.cells #[.int .i64 z.1,.int .i64 z.2] 37 (0,0)):=(hb5.block w.heap.size (Array.getElem?_eq_some_iff.1 HX4.out).1).trans HX4.out;clear hb5 HT5 HX4 HT4 F4 k1 HP4;cases T with
  |false=>
   have HE:=Hd (HF.out w5 vo c L F5.out (fun g o s e _=>.inr ⟨o,s,e⟩) T5.out (by rw[if_neg (by simp)]));clear HF hx5 F5 T5
   go_wp2_with fail
   go_end0
   exact⟨rfl,HE.out⟩
  |true=>
   have d1:w5.cell? ⟨w.heap.size,0,none⟩=some (.int .i64 z.1):=cell_of_row w5 _ 0 _ _ _ hx5;have d2:w5.cell? ⟨w.heap.size,1,none⟩=some (.int .i64 z.2):=cell_of_row w5 _ 1 _ _ _ hx5;have hbx5:w.heap.size<w5.heap.size:=(Array.getElem?_eq_some_iff.1 hx5).1;have hfb5:fb<w5.heap.size:=F5.out.2.1.lt;have F6:Hid (FloodAt w5.drew B fb mb r lo hi vo c L (updE f z (some (0+1))) m'):=F5.out;have HPU:=Hd (hpushE_any F6.out.2.1 (show B<=w5.drew.heap.size by have:=F5.out.2.2.2.1;show B<=w5.heap.size;omega) z hL);have HE:Hid (∀ w6,HPushed w5.drew B fb 2 vo L z w6->Looked w B fb mb r lo hi vo L f m z true w6):=fun w6 ⟨M,hM,⟨vo',c',hr6,hg6⟩,ht6⟩=>
    HF.out w6 vo' c' M (F6.out.rowed hr6 ht6) (fun g o s e hlt=>hg6 g o s e (Nat.lt_of_lt_of_le hlt T5.out.2.2.2.1)) (T5.out.drew.trans ht6.1 fun _ _ h=>.inl h) (by rw[if_pos ⟨by first|rfl|trivial,by first|rfl|trivial⟩];exact hM)
   unfold ifcE at HPU;clear HF hx5 F5 F6 T5
   go_upto_region 5 with(fail)
   go_region_with (go_at_call 86;refine HPU.out.mono ?_;rintro e w6 ⟨rfl,h6⟩;have HEE:=Hd (HE.out w6 h6);clear h6)
   all_goals
    go_end0
    exact⟨rfl,HEE.out⟩
 ·have qt:decide (1<v+1)=true:=by simp;omega
  go_wp2_with(first|(with_reducible refine wp_region_lex (by kernel_rfl) (by kernel_rfl) ?_)|(with_reducible refine OnlyG.intro (by kernel_rfl) ?_))
  refine bodyPost_ret (results_none rfl _ _ _) rfl ?_;exact⟨rfl,HF.out _ vo c L (H2.out.below br.drew) (fun g o s e _=>.inr ⟨o,s,e⟩) HT2.out.drew (by rw[if_neg (fun h=>hv0 h.1)])⟩
end
section
open Go.RowKit Go.Lib Wd
def ttB(m:Nat)(lo hi:E2)(z:E2):Bool:=touchB (prG (hexL m z)) lo hi
theorem tt_iff(m:Nat)(lo hi z:E2):ttB m lo hi z=true↔TouchP (hexC m z) lo hi:=by
 unfold ttB;rw[touchB_iff];unfold TouchP;have e:∀k,k<6->prG (hexL m z) k=hexC m z k:=fun k hk=>hexL_get m z hk
 constructor
 ·rintro⟨⟨⟨a,a1,a2⟩,b,b1,b2⟩,⟨⟨c,c1,c2⟩,d,d1,d2⟩,h⟩
  exact⟨⟨⟨a,a1,by rw[<- e a a1];exact a2⟩,b,b1,by rw[<- e b b1];exact b2⟩,⟨⟨c,c1,by rw[<- e c c1];exact c2⟩,d,d1,by rw[<- e d d1];exact d2⟩,fun k hk=>by rw[<- e k hk, <-e _ (show(k+1)%6<6 by omega)];exact h k hk⟩
 ·rintro⟨⟨⟨a,a1,a2⟩,b,b1,b2⟩,⟨⟨c,c1,c2⟩,d,d1,d2⟩,h⟩
  exact⟨⟨⟨a,a1,by rw[e a a1];exact a2⟩,b,b1,by rw[e b b1];exact b2⟩,⟨⟨c,c1,by rw[e c c1];exact c2⟩,d,d1,by rw[e d d1];exact d2⟩,fun k hk=>by rw[e k hk,e _ (show(k+1)%6<6 by omega)];exact h k hk⟩
theorem touch_sm{m:Nat}(hm:m<=12){z lo hi:E2}(h:TouchP (hexC m z) lo hi)(hlo:Sm 3300000000 lo)(hhi:Sm 3300000000 hi):Sm 3400000000 (cenE m z):=by
 obtain⟨⟨⟨a,a1,a2⟩,b,b1,b2⟩,⟨⟨c,c1,c2⟩,d,d1,d2⟩,-⟩:=h;obtain⟨h0,h1,h2,h3,h4,h5⟩:=hexC_eq m z;obtain⟨e0,e1,e2⟩:=d_sm hm;have key:∀k,k<6->∃v:E2,Sm 16777216 v/\hexC m z k=addE (cenE m z) v:=fun k hk=>by
  have neg:∀v:E2,Sm 16777216 v->Sm 16777216 (-v.1,-v.2):=fun v hv=>by unfold Sm at *;simp only;omega
  rcases(show k=0∨k=1∨k=2∨k=3∨k=4∨k=5 by omega)with rfl|rfl|rfl|rfl|rfl|rfl
  ·exact⟨_,e0,h0⟩
  ·exact⟨_,e1,h1⟩
  ·exact⟨_,e2,h2⟩
  ·exact⟨_,neg _ e0,by rw[h3];unfold subE addE;ext <;> simp only <;> omega⟩
  ·exact⟨_,neg _ e1,by rw[h4];unfold subE addE;ext <;> simp only <;> omega⟩
  ·exact⟨_,neg _ e2,by rw[h5];unfold subE addE;ext <;> simp only <;> omega⟩
 obtain⟨va,sa,ea⟩:=key a a1;obtain⟨vb,sb,eb⟩:=key b b1;obtain⟨vc,sc,ec⟩:=key c c1;obtain⟨vd,sd,ed⟩:=key d d1;rw[ea]at a2;rw[eb]at b2;rw[ec]at c2;rw[ed]at d2;unfold Sm addE at *;simp only at *;omega
theorem cen_sm{m:Nat}(hm:m<=12){z:E2}(h:Sm 3400000000 (cenE m z)):Sm 1000000000 z:=by
 obtain⟨q0,q1,q2,q3,q4,q5,q6,q7,q8,q9,q10,q11,q12⟩:=bE_tab;obtain⟨z1,z2⟩:=z;rcases upto12 hm with rfl|rfl|rfl|rfl|rfl|rfl|rfl|rfl|rfl|rfl|rfl|rfl|rfl <;>
  simp only[Sm,cenE,midE,spotE,mulE,q0,q1,q2,q3,q4,q5,q6,q7,q8,q9,q10,q11,q12]at h ⊢ <;> omega
theorem next_sm{m:Nat}(hm:m<=12){z:E2}(h:Sm 3400000000 (cenE m z)){k:Nat}(hk:k<6):Sm 1073741824 (addE z (unitE k))/\RingSm (hexL m (addE z (unitE k))):=by
 have hz:=cen_sm hm h;have hu:Sm 1 (unitE k):=by
  rcases(show k=0∨k=1∨k=2∨k=3∨k=4∨k=5 by omega)with rfl|rfl|rfl|rfl|rfl|rfl <;> simp[Sm,unitE]
 have hc:cenE m (addE z (unitE k))=addE (cenE m z) (spotE (mulE (bE m) (3*(unitE k).1,3*(unitE k).2))):=by
  unfold cenE midE spotE mulE addE;generalize bE m=b;ext <;> simp only <;> grind
 have hs:Sm 100000000 (spotE (mulE (bE m) (3*(unitE k).1,3*(unitE k).2))):=by
  obtain⟨q0,q1,q2,q3,q4,q5,q6,q7,q8,q9,q10,q11,q12⟩:=bE_tab;generalize unitE k=u at hu;obtain⟨u1,u2⟩:=u;rcases upto12 hm with rfl|rfl|rfl|rfl|rfl|rfl|rfl|rfl|rfl|rfl|rfl|rfl|rfl <;>
   simp only[Sm,spotE,mulE,q0,q1,q2,q3,q4,q5,q6,q7,q8,q9,q10,q11,q12]at hu ⊢ <;> omega
 refine⟨by generalize unitE k=u at hu;unfold Sm addE at *;simp only;omega,ring_sm hm ?_⟩;rw[hc];generalize spotE (mulE (bE m) (3*(unitE k).1,3*(unitE k).2))=s at hs;unfold Sm addE at *;simp only;omega
def Flow(T:E2->Bool)(f:E2->Option Int)(D L:List E2)(K mm:Nat):Prop:=
 (D++L).Nodup/\(∀ y,y∈D++L↔T y=true/\0<(f y).getD 0)/\(∀ y,0<=(f y).getD 0/\(f y).getD 0<=K)/\L.length<=K/\mm<=K
theorem seen_upd(f:E2->Option Int)(h:∀y,0<=(f y).getD 0)(n y:E2):0<((updE f n (some ((f n).getD 0+1))) y).getD 0↔y=n∨0<(f y).getD 0:=by
 unfold updE;by_cases e:y=n
 ·subst e;rw[if_pos rfl];have:=h y;simp only[Option.getD_some,true_or,iff_true];omega
 ·rw[if_neg e];simp[e]
theorem flow_look{T:E2->Bool}{f:E2->Option Int}{D L L':List E2}{K mm:Nat}(h:Flow T f D L K mm){n:E2}(hp:L'.Perm (if(f n).getD 0=0/\T n=true then n::L else L)):
  Flow T (updE f n (some ((f n).getD 0+1))) D L' (K+1) (if(f n).isSome then mm else mm+1):=by
 obtain⟨h1,h2,h3,h4,h5⟩:=h;have hs:=seen_upd f (fun y=>(h3 y).1) n;refine⟨?_,fun y=>?_,fun y=>?_,?_,by split <;> omega⟩
 ·by_cases c:(f n).getD 0=0/\T n=true
  ·rw[if_pos c]at hp
   have hn:n∉D++L:=fun hm=>by have:=((h2 n).1 hm).2;omega
   have h6:(D++L').Perm (n::(D++L)):=(hp.append_left D).trans List.perm_middle;exact h6.nodup_iff.2 (List.nodup_cons.2 ⟨hn,h1⟩)
  ·rw[if_neg c]at hp
   exact(hp.append_left D).nodup_iff.2 h1
 ·rw[hs y]
  by_cases c:(f n).getD 0=0/\T n=true
  ·rw[if_pos c]at hp
   have h6:(D++L').Perm (n::(D++L)):=(hp.append_left D).trans List.perm_middle;rw[h6.mem_iff,List.mem_cons,h2 y];constructor
   ·rintro(rfl|⟨a,b⟩)
    ·exact⟨c.2,.inl rfl⟩
    ·exact⟨a,.inr b⟩
   ·rintro⟨a,rfl|b⟩
    ·exact .inl rfl
    ·exact .inr ⟨a,b⟩
  ·rw[if_neg c]at hp
   rw[(hp.append_left D).mem_iff,h2 y];constructor
   ·rintro⟨a,b⟩;exact⟨a,.inr b⟩
   ·rintro⟨a,rfl|b⟩
    ·have:=(h3 y).1
     refine⟨a,?_⟩;rcases(show(f y).getD 0=0∨0<(f y).getD 0 by omega)with e|e
     ·exact absurd ⟨e,a⟩ c
     ·exact e
    ·exact⟨a,b⟩
 ·unfold updE
  have a:=h3 y;have b:=h3 n;by_cases e:y=n
  ·rw[if_pos e];simp only[Option.getD_some];omega
  ·rw[if_neg e];omega
 ·have:=hp.length_eq
  split at this
  ·simp only[List.length_cons]at this;omega
  ·omega
theorem flow_pop{T:E2->Bool}{f:E2->Option Int}{D L L':List E2}{K mm:Nat}(h:Flow T f D L K mm){z:E2}(hp:(z::L').Perm L):Flow T f (D++[z]) L' K mm/\T z=true:=by
 obtain⟨h1,h2,h3,h4,h5⟩:=h;have h6:((D++[z])++L').Perm (D++L):=by rw[List.append_assoc];exact hp.append_left D
 have hl:=hp.length_eq;simp only[List.length_cons]at hl;refine⟨⟨h6.nodup_iff.2 h1,fun y=>by rw[h6.mem_iff];exact h2 y,h3,by omega,h5⟩,?_⟩;exact((h2 z).1 (List.mem_append_right _ (hp.mem_iff.1 List.mem_cons_self))).1
theorem flow_new(T:E2->Bool):Flow T (fun _=>none) [] [] 0 0:=⟨List.nodup_nil,fun y=>by simp,fun y=>by simp,by simp,by simp⟩
def AllOf(m:Nat)(lo hi:E2)(F:List E2):Prop:=F.Nodup/\∀z,z∈F↔TouchP (hexC m z) lo hi
theorem all_of{m:Nat}(hm:m<=12){lo hi z0:E2}(hx:lo.1<=hi.1)(hy:lo.2<=hi.2)(h0:InZ m z0 lo.1 lo.2){f:E2->Option Int}{D:List E2}{K mm:Nat}(h:Flow (ttB m lo hi) f D [] K mm)
  (hs:0<(f z0).getD 0) (hc:∀y∈D,∀k,k<6->0<(f (addE y (unitE k))).getD 0):AllOf m lo hi D:=by
 obtain⟨h1,h2,-⟩:=h;rw[List.append_nil]at h1;simp only[List.append_nil]at h2;have hxr:(lo.1:Rat)<=hi.1:=by exact_mod_cast hx
 have hyr:(lo.2:Rat)<=hi.2:=by exact_mod_cast hy
 have ht0:TouchP (hexC m z0) lo hi:=(touch_iff hm z0 lo hi hx hy).2 ⟨lo.1,lo.2,Rat.le_refl,hxr,Rat.le_refl,hyr,h0⟩;refine⟨h1,fun z=>⟨fun hz=>(tt_iff _ _ _ _).1 ((h2 z).1 hz).1,?_⟩⟩;exact flood_all hm hx hy h0 (fun y=>y∈D) ((h2 z0).2 ⟨(tt_iff _ _ _ _).2 ht0,hs⟩) (fun y hy _ k hk ht=>(h2 _).2 ⟨(tt_iff _ _ _ _).2 ht,hc y hy k hk⟩) z
def chE(lo hi:E2)(r:Int):Int:=if r<0∨12<r then 1 else if worldB lo.1 lo.2=true/\worldB hi.1 hi.2=true then(if hi.1<lo.1∨hi.2<lo.2 then 1 else 0)else 4
theorem check_any(lo hi:E2)(r:Int)(w:World):Calls Tryz.prog 59 #[vE lo,vE hi,.int .i64 r] w fun e w'=>e=.returned (.int .i64 (chE lo hi r))/\Below w.heap.size w w':=by
 obtain⟨l1,l2⟩:=lo;obtain⟨h1,h2⟩:=hi;have HX:Hid (chE (l1,l2) (h1,h2) r=if r<0∨12<r then 1 else if worldB l1 l2=true/\worldB h1 h2=true then(if h1<l1∨h2<l2 then 1 else 0)else 4):=rfl;generalize chE (l1,l2) (h1,h2) r=X at *;have HPL:=Hd (fun w=>pok_any l1 l2 w);have HPH:=Hd (fun w=>pok_any h1 h2 w);generalize worldB l1 l2=p at *;generalize worldB h1 h2=q at *;obtain⟨w1,hw1⟩:∃W,(w.alloc (.cells #[.int .i64 l1,.int .i64 l2] 26)).alloc (.cells #[.int .i64 h1,.int .i64 h2] 26)=W:=⟨_,rfl⟩;have hb1:Below w.heap.size w w1:=by rw[<- hw1];exact(br.alloc lr _).alloc (by simp) _
 have hx:w1.heap[w.heap.size]? =some (.cells #[.int .i64 l1,.int .i64 l2] 26 (0,0)):=by
  rw[<- hw1,Below.heap_alloc _ _ _ (by simp)];exact heap_new _ _ _ rfl
 have hy:w1.heap[w.heap.size+1]? =some (.cells #[.int .i64 h1,.int .i64 h2] 26 (0,0)):=by rw[<- hw1];exact heap_new _ _ _ (by simp)
 have a0:w1.cell? ⟨w.heap.size,0,none⟩=some (.int .i64 l1):=cell_of_row w1 _ 0 _ _ _ hx;have a1:w1.cell? ⟨w.heap.size,1,none⟩=some (.int .i64 l2):=cell_of_row w1 _ 1 _ _ _ hx;have b0:w1.cell? ⟨w.heap.size+1,0,none⟩=some (.int .i64 h1):=cell_of_row w1 _ 0 _ _ _ hy;have b1:w1.cell? ⟨w.heap.size+1,1,none⟩=some (.int .i64 h2):=cell_of_row w1 _ 1 _ _ _ hy;have s0:=(Array.getElem?_eq_some_iff.1 hx).1;have s1:=(Array.getElem?_eq_some_iff.1 hy).1;have HW1:=Hd hw1;have HB1:=Hd hb1;clear hw1 hb1 hx hy;simp only[vE];by_cases c1:r<0
 ·have HXX:Hid (X=1):=by show _=_;rw[HX.out,if_pos (.inl c1)]
  clear HX
  go_enter Tryz.func59,Tryz.ntmps59
  go_upto_region 1 with(fail)
  rw[HW1.out];go_wp2;go_ret;exact⟨by rw[HXX.out];rfl,HB1.out⟩
 by_cases c2:12<r
 ·have HXX:Hid (X=1):=by show _=_;rw[HX.out,if_pos (.inr c2)]
  clear HX
  go_enter Tryz.func59,Tryz.ntmps59
  go_upto_region 1 with(fail)
  rw[HW1.out];go_wp2;go_ret;exact⟨by rw[HXX.out];rfl,HB1.out⟩
 rw[if_neg (by omega)]at HX;cases p with
 |false=>
  have HXX:Hid (X=4):=by show _=_;rw[HX.out,if_neg (by simp)]
  clear HX
  go_enter Tryz.func59,Tryz.ntmps59
  go_upto_region 1 with(fail)
  rw[HW1.out]
  go_wp2_with fail
  refine(HPL.out _).mono ?_;rintro e w2 ⟨rfl,rfl⟩;go_wp2;go_ret;exact⟨by rw[HXX.out];rfl,HB1.out⟩
 |true=>
  cases q with
  |false=>
   have HXX:Hid (X=4):=by show _=_;rw[HX.out,if_neg (by simp)]
   clear HX
   go_enter Tryz.func59,Tryz.ntmps59
   go_upto_region 1 with(fail)
   rw[HW1.out]
   go_wp2_with fail
   refine(HPL.out _).mono ?_;rintro e w2 ⟨rfl,rfl⟩
   go_wp2_with fail
   refine(HPH.out _).mono ?_;rintro e w2 ⟨rfl,rfl⟩;go_wp2;go_ret;exact⟨by rw[HXX.out];rfl,HB1.out⟩
  |true=>
   rw[if_pos ⟨rfl,rfl⟩]at HX;by_cases c3:h1<l1
   ·have HXX:Hid (X=1):=by show _=_;rw[HX.out,if_pos (.inl c3)]
    clear HX
    go_enter Tryz.func59,Tryz.ntmps59
    go_upto_region 1 with(fail)
    rw[HW1.out]
    go_wp2_with fail
    refine(HPL.out _).mono ?_;rintro e w2 ⟨rfl,rfl⟩
    go_wp2_with fail
    refine(HPH.out _).mono ?_;rintro e w2 ⟨rfl,rfl⟩;go_wp2;go_ret;exact⟨by rw[HXX.out];rfl,HB1.out⟩
   by_cases c4:h2<l2
   ·have HXX:Hid (X=1):=by show _=_;rw[HX.out,if_pos (.inr c4)]
    clear HX
    go_enter Tryz.func59,Tryz.ntmps59
    go_upto_region 1 with(fail)
    rw[HW1.out]
    go_wp2_with fail
    refine(HPL.out _).mono ?_;rintro e w2 ⟨rfl,rfl⟩
    go_wp2_with fail
    refine(HPH.out _).mono ?_;rintro e w2 ⟨rfl,rfl⟩;go_wp2;go_ret;exact⟨by rw[HXX.out];rfl,HB1.out⟩
   have HXX:Hid (X=0):=by show _=_;rw[HX.out,if_neg (by omega)]
   clear HX
   go_enter Tryz.func59,Tryz.ntmps59
   go_upto_region 1 with(fail)
   rw[HW1.out]
   go_wp2_with fail
   refine(HPL.out _).mono ?_;rintro e w2 ⟨rfl,rfl⟩
   go_wp2_with fail
   refine(HPH.out _).mono ?_;rintro e w2 ⟨rfl,rfl⟩;go_wp2;go_ret;exact⟨by rw[HXX.out];rfl,HB1.out⟩
theorem FloodAt.kept{S:Nat->Prop}{w w':World}{B fb mb r c m:Nat}{lo hi:E2}{vo:Option Addr}{L:List E2}{f:E2->Option Int}(h:FloodAt w B fb mb r lo hi vo c L f m)(ht:Turn S w w')(hS:∀k,FootF fb mb vo k->¬S k):FloodAt w' B fb mb r lo hi vo c L f m:=by
 obtain⟨⟨h0,h1,h2⟩,hR,hM,h5⟩:=h;have e:=ht.2.2.2.2 fb hR.lt (hS fb (.inl (.inl rfl)));exact⟨⟨(World.cell?_of_block (a:=⟨fb,0,none⟩) e).trans h0,(World.cell?_of_block (a:=⟨fb,1,none⟩) e).trans h1,(World.cell?_of_block (a:=⟨fb,3,none⟩) e).trans h2⟩,hR.kept ht fun k hk=>hS k (.inl hk),hM.heap (ht.2.2.2.2 mb hM.lt (hS mb (.inr rfl))),h5⟩
theorem FloodAt.foot{w:World}{B fb mb r c m:Nat}{lo hi:E2}{vo:Option Addr}{L:List E2}{f:E2->Option Int}(h:FloodAt w B fb mb r lo hi vo c L f m):∀k,FootF fb mb vo k->B<=k/\k<w.heap.size:=fun k hk=>by
 obtain⟨-,hR,hM,h5,h6⟩:=h;rcases hk with(rfl|⟨o,s,e⟩)|rfl
 ·exact⟨h5,hR.lt⟩
 ·exact own_lt hR.2.2.1 k o s e
 ·exact⟨h6,hM.lt⟩
def FlSt(Q:Nat->Prop)(w0 wr:World)(B fb mb r:Nat)(lo hi:E2)(L:List E2)(f:E2->Option Int)(m:Nat):Prop:=
 ∃vo c,FloodAt wr B fb mb r lo hi vo c L f m/\(∀ k,Q k->k<wr.heap.size/\¬FootF fb mb vo k)/\Below B w0 wr
theorem FlSt.later{Q:Nat->Prop}{w0 wr w':World}{B fb mb r m:Nat}{lo hi:E2}{L:List E2}{f:E2->Option Int}(h:FlSt Q w0 wr B fb mb r lo hi L f m)(hb:Below wr.heap.size wr w'):FlSt Q w0 w' B fb mb r lo hi L f m:=by
 obtain⟨vo,c,h1,h2,h3⟩:=h;have hB:B<=wr.heap.size:=by have:=h1.foot fb (.inl (.inl rfl));omega
 exact⟨vo,c,h1.below hb,fun k hk=>⟨Nat.lt_of_lt_of_le (h2 k hk).1 hb.size,(h2 k hk).2⟩,h3.trans (hb.mono hB)⟩
theorem FlSt.beside{Q Q' S:Nat->Prop}{w0 wr w':World}{B fb mb r m:Nat}{lo hi:E2}{L:List E2}{f:E2->Option Int}(h:FlSt Q w0 wr B fb mb r lo hi L f m)(ht:Turn S wr w')(hS:∀k,S k->k<wr.heap.size->Q k)(hB:∀k,S k->B<=k)
  (hQ:∀k,Q' k->k<w'.heap.size/\(Q k∨wr.heap.size<=k)):FlSt Q' w0 w' B fb mb r lo hi L f m:=by
 obtain⟨vo,c,h1,h2,h3⟩:=h;have hBB:B<=wr.heap.size:=by have:=h1.foot fb (.inl (.inl rfl));omega
 refine⟨vo,c,h1.kept ht fun k hk hs=>(h2 k (hS k hs (h1.foot k hk).2)).2 hk,fun k hk=>⟨(hQ k hk).1,fun hf=>?_⟩,h3.trans (ht.below hBB fun k hk hs=>by have:=hB k hs;omega)⟩;rcases(hQ k hk).2 with e|e
 ·exact(h2 k e).2 hf
 ·have:=(h1.foot k hf).2;omega
def Fls(Q:Nat->Prop)(w0 wr:World)(B fb mb r:Nat)(lo hi:E2)(D L:List E2)(f:E2->Option Int)(K:Nat):Prop:=
 ∃mm,FlSt Q w0 wr B fb mb r lo hi L f mm/\Flow (ttB (12-r) lo hi) f D L K mm
def LookS(Q:Nat->Prop)(w0 wr:World)(B fb mb r:Nat)(lo hi:E2)(D:List E2)(f:E2->Option Int)(K:Nat)(z:E2)(w':World):Prop:=
 ∃L',Fls Q w0 w' B fb mb r lo hi D L' (updE f z (some ((f z).getD 0+1))) (K+1)/\wr.heap.size<=w'.heap.size/\∀k,Q k->w'.heap[k]? =wr.heap[k]?
theorem look_st{Q:Nat->Prop}{w0 wr:World}{B fb mb r:Nat}{lo hi:E2}{D L:List E2}{f:E2->Option Int}{K:Nat}(h:Fls Q w0 wr B fb mb r lo hi D L f K)(z:E2)(hz:Sm 1073741824 z)(hs:RingSm (hexL (12-r) z))(hr:r<=12)(hlo:Sm 10000000000 lo)(hhi:Sm 10000000000 hi)(hK:K<999999):
  Calls Tryz.prog 63 #[.pointer (some ⟨fb,0,none⟩),vE z] wr fun e w'=>e=.returned (.tuple #[])/\LookS Q w0 wr B fb mb r lo hi D f K z w':=by
 obtain⟨mm,⟨vo,c,h1,h2,h3⟩,hF⟩:=h;have hBB:B<=wr.heap.size:=by have:=h1.foot fb (.inl (.inl rfl));omega
 obtain⟨f1,f2,f3,f4,f5⟩:=hF;have hv:=f3 z;refine(look_any h1 z hz hr hs hlo hhi (by omega) (by omega) ⟨hv.1,by omega⟩).mono ?_;rintro e w' ⟨rfl,vo',c',L',g1,g2,g3,g4⟩;refine⟨rfl,L',⟨_,⟨vo',c',g1,fun k hk=>⟨Nat.lt_of_lt_of_le (h2 k hk).1 g3.2.2.2.1,fun hf=>?_⟩,h3.trans (g3.below hBB fun k hk hf=>by have:=h1.foot k hf;omega)⟩,flow_look ⟨f1,f2,f3,f4,f5⟩ g4⟩,g3.2.2.2.1,fun k hk=>g3.2.2.2.2 k (h2 k hk).1 (h2 k hk).2⟩;rcases hf with(e|⟨o,s,e⟩)|e
 ·exact(h2 k hk).2 (.inl (.inl e))
 ·exact(h2 k hk).2 (.inl (g2 k o s e (h2 k hk).1))
 ·exact(h2 k hk).2 (.inr e)
def PopS(Q:Nat->Prop)(w0 wr:World)(B fb mb r:Nat)(lo hi:E2)(D:List E2)(f:E2->Option Int)(K:Nat)(z:E2)(w':World):Prop:=
 ∃L',Fls Q w0 w' B fb mb r lo hi (D++[z]) L' f K/\ttB (12-r) lo hi z=true/\wr.heap.size<=w'.heap.size/\∀k,Q k->w'.heap[k]? =wr.heap[k]?
theorem pop_st{Q:Nat->Prop}{w0 wr:World}{B fb mb r n:Nat}{lo hi:E2}{D L:List E2}{f:E2->Option Int}{K:Nat}(h:Fls Q w0 wr B fb mb r lo hi D L f K)(hn:L.length=n+1):
  Calls Tryz.prog 65 #[ifcE fb 2] wr fun e w'=>e=.returned (.iface 37 (.agg #[.int .i64 (prG L 0).1,.int .i64 (prG L 0).2]))/\PopS Q w0 wr B fb mb r lo hi D f K (prG L 0) w':=by
 obtain⟨mm,⟨vo,c,h1,h2,h3⟩,hF⟩:=h;have hBB:B<=wr.heap.size:=by have:=h1.foot fb (.inl (.inl rfl));omega
 refine(hpopE_any h1.2.1 hn).mono ?_;rintro e w' ⟨rfl,L',g1,g2,g3⟩;obtain⟨q1,q2⟩:=flow_pop hF g1;exact⟨rfl,L',⟨mm,⟨vo,c,h1.rowed g2 g3,fun k hk=>⟨Nat.lt_of_lt_of_le (h2 k hk).1 g3.1.2.2.2.1,(h2 k hk).2⟩,h3.trans (g3.1.below hBB fun k hk hf=>by have:=h1.foot k (.inl hf);omega)⟩,q1⟩,q2,g3.1.2.2.2.1,fun k hk=>g3.1.2.2.2.2 k (h2 k hk).1 fun hf=>(h2 k hk).2 (.inl hf)⟩
theorem Fls.row{Q:Nat->Prop}{w0 wr:World}{B fb mb r:Nat}{lo hi:E2}{D L:List E2}{f:E2->Option Int}{K:Nat}(h:Fls Q w0 wr B fb mb r lo hi D L f K):fb<wr.heap.size/\∃vo c,wr.cell? ⟨fb,2,none⟩=some (.slice vo L.length c):=by
 obtain⟨mm,⟨vo,c,h1,h2,h3⟩,hF⟩:=h;exact⟨h1.2.1.lt,vo,c,h1.2.1.1⟩
theorem Fls.later{Q:Nat->Prop}{w0 wr w':World}{B fb mb r:Nat}{lo hi:E2}{D L:List E2}{f:E2->Option Int}{K:Nat}(h:Fls Q w0 wr B fb mb r lo hi D L f K)(hb:Below wr.heap.size wr w'):Fls Q w0 w' B fb mb r lo hi D L f K:=by
 obtain⟨mm,h1,h2⟩:=h;exact⟨mm,h1.later hb,h2⟩
theorem Fls.beside{Q Q' S:Nat->Prop}{w0 wr w':World}{B fb mb r:Nat}{lo hi:E2}{D L:List E2}{f:E2->Option Int}{K:Nat}(h:Fls Q w0 wr B fb mb r lo hi D L f K)(ht:Turn S wr w')(hS:∀k,S k->k<wr.heap.size->Q k)(hB:∀k,S k->B<=k)
  (hQ:∀k,Q' k->k<w'.heap.size/\(Q k∨wr.heap.size<=k)):Fls Q' w0 w' B fb mb r lo hi D L f K:=by
 obtain⟨mm,h1,h2⟩:=h;exact⟨mm,h1.beside ht hS hB hQ,h2⟩
theorem Fls.below{Q:Nat->Prop}{w0 wr:World}{B fb mb r:Nat}{lo hi:E2}{D L:List E2}{f:E2->Option Int}{K:Nat}(h:Fls Q w0 wr B fb mb r lo hi D L f K):Below B w0 wr:=by
 obtain⟨mm,⟨vo,c,h1,h2,h3⟩,hF⟩:=h;exact h3
def InRow(v:Value)(k:Nat):Prop:=v.ownBlock=some k
def Shut(D:List E2)(f:E2->Option Int):Prop:=∀y∈D,∀k,k<6->0<(f (addE y (unitE k))).getD 0
theorem shut_upd{D:List E2}{f:E2->Option Int}(h0:∀y,0<=(f y).getD 0)(n:E2)(h:Shut D f):Shut D (updE f n (some ((f n).getD 0+1))):=fun y hy k hk=>(seen_upd f h0 n _).2 (.inr (h y hy k hk))
theorem Fls.nonneg{Q:Nat->Prop}{w0 wr:World}{B fb mb r:Nat}{lo hi:E2}{D L:List E2}{f:E2->Option Int}{K:Nat}(h:Fls Q w0 wr B fb mb r lo hi D L f K):∀y,0<=(f y).getD 0:=by
 obtain⟨mm,h1,h2⟩:=h;exact fun y=>(h2.2.2.1 y).1
end
section
open Go.RowKit
theorem below_rep{h l:Nat}{A:Int}(hr:Rep h l A)(h1: -170141183460469231731687303715884105728<=A)(h2:A<170141183460469231731687303715884105728)(w:World):
  Calls Tryz.prog 181 #[.agg #[.int .u64 h,.int .u64 l]] w fun e w'=>e=.returned (.bool (decide (A<0)))/\Below w.heap.size w w':=by
 have HE:Hid (((h:Int)/9223372036854775808==1)=decide (A<0)):=by
  show _=_;obtain⟨a1,a2,a3⟩:=hr;rw[Bool.eq_iff_iff];simp;omega
 clear h1 h2 hr
 go_enter Tryz.func181,Tryz.ntmps181
 go_wp2;go_ret;exact⟨ret_bool HE.out,br.alloc lr _⟩
theorem less_rep{ah al bh bl:Nat}{A B:Int}(h1:Rep ah al A)(h2:Rep bh bl B)(k1: -85070591730234615856620279821087277056<=A)(k2:A<=85070591730234615865843651857942052864)(k3: -85070591730234615856620279821087277056<=B)(k4:B<=85070591730234615865843651857942052864)(w:World):
  Calls Tryz.prog 169 #[.agg #[.int .u64 ah,.int .u64 al],.agg #[.int .u64 bh,.int .u64 bl]] w fun e w'=>e=.returned (.bool (decide (A<B)))/\Below w.heap.size w w':=by
 have HE:Hid (decide (A+ -B<0)=decide (A<B)):=by show _=_;rw[decide_eq_decide];omega
 have HB:Hid (∀ h l,Rep h l (A+ -B)->∀w,Calls Tryz.prog 181 #[.agg #[.int .u64 h,.int .u64 l]] w fun e w'=>e=.returned (.bool (decide (A<B)))/\Below w.heap.size w w'):=fun h l hr w=>by
  have:=below_rep hr (by omega) (by omega) w;rw[HE.out]at this;exact this
 have HT:=Hd h2;have HA:=Hd h1;have HC:Hid (∀ W w1:World,Below W.heap.size W w1->W.heap=((w.alloc (.cells #[.int .u64 ah,.int .u64 al] 45)).alloc (.cells #[.int .u64 bh,.int .u64 bl] 45)).heap->
   w1.cell? ⟨w.heap.size,0,none⟩=some (.int .u64 ah)/\w1.cell? ⟨w.heap.size,1,none⟩=some (.int .u64 al)):=fun W w1 hb hW=>by
  have hz:w.heap.size<W.heap.size:=by rw[hW];simp;omega
  have hg:W.heap[w.heap.size]? =some (.cells #[.int .u64 ah,.int .u64 al] 45):=by rw[hW,Below.heap_alloc _ _ _ (by simp)];exact heap_new _ _ _ rfl
  rw[hb.cell (p:=⟨w.heap.size,0,none⟩) hz,hb.cell (p:=⟨w.heap.size,1,none⟩) hz,cell_of_row _ _ _ _ _ _ hg,cell_of_row _ _ _ _ _ _ hg];exact⟨rfl,rfl⟩
 clear k1 k2 k3 k4 HE h1 h2
 go_enter Tryz.func169,Tryz.ntmps169
 go_wp2_with fail
 have hw0:Hid (Below w.heap.size w ((w.alloc (.cells #[.int .u64 ah,.int .u64 al] 45)).alloc (.cells #[.int .u64 bh,.int .u64 bl] 45))):=(br.alloc lr _).alloc (by simp) _
 go_region_with (
    first
  |(go_at_call 40;refine(turned_rep HT.out _).mono ?_;rintro e w1 ⟨h',l',rfl,hr1,hb1⟩;have HR1:=Hd hr1;clear hr1;obtain⟨c0,c1⟩:=HC.out _ _ hb1 rfl)
  |(go_at_call 75;refine(plus_rep HA.out HR1.out _).mono ?_;rintro e w2 ⟨h2,l2,rfl,hr2,hb2⟩;have HR2:=Hd hr2;clear hr2)
  |(go_at_call 181;refine(HB.out _ _ HR2.out _).mono ?_;rintro e w3 ⟨rfl,hb3⟩))
 all_goals go_wp2
 all_goals go_ret
 all_goals exact⟨rfl,below_later hw0.out.drew (by simp;omega) (below_later hb1 hb1.size (below_later hb2 hb2.size hb3))⟩
def crossF(a b c d x y:Int):Int:=
 if wrap64 (c-a)*wrap64 (y-b)<wrap64 (d-b)*wrap64 (x-a)then -1
 else if wrap64 (d-b)*wrap64 (x-a)<wrap64 (c-a)*wrap64 (y-b)then 1 else 0
theorem wrap64_bd(z:Int): -9223372036854775808<=wrap64 z/\wrap64 z<=9223372036854775807:=by
 unfold wrap64;omega
theorem cross_any(a b c d x y:Int)(w:World):
  Calls Tryz.prog 136 #[.agg #[.int .i64 a,.int .i64 b],.agg #[.int .i64 c,.int .i64 d],.int .i64 x,.int .i64 y] w fun e w'=>e=.returned (.int .i64 (crossF a b c d x y))/\Below w.heap.size w w':=by
 have T1:Hid (∀ w:World,_):=fun w=>times_rep (wrap64 (c-a)) (wrap64 (y-b)) (wrap64_bd _) (wrap64_bd _) w
 have T2:Hid (∀ w:World,_):=fun w=>times_rep (wrap64 (d-b)) (wrap64 (x-a)) (wrap64_bd _) (wrap64_bd _) w
 have k1:=prod_bound (wrap64_bd (c-a)) (wrap64_bd (y-b));have k2:=prod_bound (wrap64_bd (d-b)) (wrap64_bd (x-a));have HF:Hid (crossF a b c d x y=if wrap64 (c-a)*wrap64 (y-b)<wrap64 (d-b)*wrap64 (x-a)then -1 else if wrap64 (d-b)*wrap64 (x-a)<wrap64 (c-a)*wrap64 (y-b)then 1 else 0):=rfl;generalize wrap64 (c-a)*wrap64 (y-b)=A at *;generalize wrap64 (d-b)*wrap64 (x-a)=B at *;have L1:Hid (∀ (ah al bh bl:Nat),Rep ah al A->Rep bh bl B->∀w,Calls Tryz.prog 169 #[.agg #[.int .u64 ah,.int .u64 al],.agg #[.int .u64 bh,.int .u64 bl]] w fun e w'=>e=.returned (.bool (decide (A<B)))/\Below w.heap.size w w'):=fun _ _ _ _ h1 h2 w=>less_rep h1 h2 k1.1 k1.2 k2.1 k2.2 w
 have L2:Hid (∀ (ah al bh bl:Nat),Rep ah al B->Rep bh bl A->∀w,Calls Tryz.prog 169 #[.agg #[.int .u64 ah,.int .u64 al],.agg #[.int .u64 bh,.int .u64 bl]] w fun e w'=>e=.returned (.bool (decide (B<A)))/\Below w.heap.size w w'):=fun _ _ _ _ h1 h2 w=>less_rep h1 h2 k2.1 k2.2 k1.1 k1.2 w
 have HC:Hid (∀ w1:World,Below ((w.alloc (.cells #[.int .i64 a,.int .i64 b] 26)).alloc (.cells #[.int .i64 c,.int .i64 d] 26)).heap.size ((w.alloc (.cells #[.int .i64 a,.int .i64 b] 26)).alloc (.cells #[.int .i64 c,.int .i64 d] 26)) w1->
   (w1.cell? ⟨w.heap.size,0,none⟩=some (.int .i64 a)/\w1.cell? ⟨w.heap.size,1,none⟩=some (.int .i64 b))/\(w1.cell? ⟨w.heap.size+1,0,none⟩=some (.int .i64 c)/\w1.cell? ⟨w.heap.size+1,1,none⟩=some (.int .i64 d))/\w.heap.size+1<w1.heap.size/\Below w.heap.size w w1):=fun w1 hb=>by
  have h1:((w.alloc (.cells #[.int .i64 a,.int .i64 b] 26)).alloc (.cells #[.int .i64 c,.int .i64 d] 26)).heap[w.heap.size]? =some (.cells #[.int .i64 a,.int .i64 b] 26):=by
   rw[Below.heap_alloc _ _ _ (by simp)];exact heap_new _ _ _ rfl
  have h2:((w.alloc (.cells #[.int .i64 a,.int .i64 b] 26)).alloc (.cells #[.int .i64 c,.int .i64 d] 26)).heap[w.heap.size+1]? =some (.cells #[.int .i64 c,.int .i64 d] 26):=heap_new _ _ _ (by simp);have hz:=hb.size;rw[hb.cell (p:=⟨w.heap.size,0,none⟩) (by simp;omega),hb.cell (p:=⟨w.heap.size,1,none⟩) (by simp;omega),hb.cell (p:=⟨w.heap.size+1,0,none⟩) (by simp),hb.cell (p:=⟨w.heap.size+1,1,none⟩) (by simp),
   cell_of_row _ _ _ _ _ _ h1,cell_of_row _ _ _ _ _ _ h1,cell_of_row _ _ _ _ _ _ h2,cell_of_row _ _ _ _ _ _ h2]
  exact⟨⟨rfl,rfl⟩,⟨rfl,rfl⟩,by simp at hz;omega,(br.alloc lr _).alloc (by simp) _ |>.trans (hb.mono (by simp;omega))⟩
 clear k1 k2
 go_enter Tryz.func136,Tryz.ntmps136
 go_wp2_with fail
 refine(T1.out _).mono ?_;rintro e w1 ⟨h1,l1,rfl,hr1,hb1⟩;obtain⟨⟨c0,c1⟩,⟨d0,d1⟩,hz1,hbw⟩:=HC.out _ hb1;have hz0:w.heap.size<w1.heap.size:=by omega
 have HR1:=Hd hr1;have HB1:=Hd hbw;clear hb1 hr1 hbw HC T1
 go_wp2_with fail
 refine(T2.out _).mono ?_;rintro e w2 ⟨h2,l2,rfl,hr2,hb2⟩;obtain⟨e0,e1,hz2⟩:=pair_kept hb2;have HR2:=Hd hr2;have HB2:=Hd (below_alloc' HB1.out hb2);clear hb2 hr2 c0 c1 d0 d1 T2 HB1
 go_wp2_with fail
 refine(L1.out _ _ _ _ HR1.out HR2.out _).mono ?_;rintro e w3 ⟨rfl,hb3⟩;obtain⟨f0,f1,hz3⟩:=pair_kept hb3;have g0:=(hb3.cell (p:=⟨w1.heap.size,0,none⟩) (by simp;omega)).trans ((World.cell?_alloc_lt w2 _ _ hz2).trans e0);have g1:=(hb3.cell (p:=⟨w1.heap.size,1,none⟩) (by simp;omega)).trans ((World.cell?_alloc_lt w2 _ _ hz2).trans e1);have HB3:=Hd (below_alloc' HB2.out hb3);clear hb3 HB2 e0 e1 L1;by_cases hab:A<B
 ·go_wp2
  go_ret;exact⟨ret_int (by rw[HF.out,if_pos hab]),HB3.out⟩
 ·go_wp2_with fail
  refine(L2.out _ _ _ _ HR2.out HR1.out _).mono ?_;rintro e w4 ⟨rfl,hb4⟩;have HB4:=Hd (below_later HB3.out HB3.out.size hb4);clear hb4 HB3 L2;by_cases hba:B<A
  ·go_wp2
   go_ret;exact⟨ret_int (by rw[HF.out,if_neg (by omega),if_pos hba]),HB4.out⟩
  ·go_wp2
   go_ret;exact⟨ret_int (by rw[HF.out,if_neg (by omega),if_neg (by omega)]),HB4.out⟩
end
section
open Go Go.RowKit
def pNew(base:Nat)(cs:Array Value)(t:TypeId):SP:=⟨fun v w=>∃g,v=.pointer (some ⟨g,0,none⟩)/\base<=g/\g<w.heap.size/\w.heap[g]? =some (.cells cs t (0,0)),fun _ _ _ hb ⟨g,e,h1,h2,h3⟩=>⟨g,e,h1,Nat.lt_of_lt_of_le h2 hb.size,(hb.block g h2).trans h3⟩⟩
end
end Go.Proofs.YtpkoapmpknbgoaaGreat
