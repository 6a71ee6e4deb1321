/- Joined: SortA, SortB, SortC, SortD: contracts and plain laws, each with its own heading below. -/
import Derived.Test.YtpkoapmpknbgoaaGreatPackBA
import Derived.Sort.AssemblyPlain
import Derived.Sort.WalkA6
import Derived.Sort.WalkA14
import Derived.Sort.Walk7
import Derived.Sort.Walk11
import Derived.Sort.WalkC4
import Derived.Sort.WalkB3
import Derived.Sort.Walk13
import Derived.Lib.AgreeW
import Derived.WalkKit
set_option maxRecDepth 1000000
set_option maxHeartbeats 12800000
namespace Go.Proofs.YtpkoapmpknbgoaaGreat
section
open Go.RowKit Go.Sort
abbrev encU:Int->Value:=Value.int .u64
theorem u64_cmp_isNaN_int(x:Int)(w:World):Calls Tryz.prog 120 #[.int .u64 x] w fun e w'=>e=.returned (.bool false)/\w'=w:=by
 go_enter Tryz.func120,Tryz.ntmps120
 go_wp2;go_ret;exact⟨by simp,rfl⟩
theorem u64_cmp_Less_int(x y:Int)(w:World):Calls Tryz.prog 76 #[.int .u64 x,.int .u64 y] w fun e w'=>e=.returned (.bool (Sort.ltInt x y))/\w'=w:=by
 go_enter Tryz.func76,Tryz.ntmps76
 go_wp2_with(go_at_call 120;refine(u64_cmp_isNaN_int _ _).mono ?_;rintro e w' ⟨rfl,rfl⟩)
 go_ret;exact⟨rfl,rfl⟩
theorem u64_insertionSort_int(blk off cap a b:Nat)(d:Array Int)(w:World)(hH:Holds (Value.int .u64) w blk off d)(hab:a<=b)(hb:b<=d.size)(hsz:d.size<4611686018427387904):
  Calls Tryz.prog 151 #[.slice (some ⟨blk,off,none⟩) d.size cap,.int .i64 a,.int .i64 b] w fun e w'=>
   e=.returned (.tuple #[])/\∃n,w'=putRow (Value.int .u64) (Sort.ahead w n) blk off (Sort.insertionSort ltInt d a b):=by
 go_enter Tryz.func151,Tryz.ntmps151
 go_wp2
 go_loopw [6] (fun vi wr=>∃(i n:Nat) (dk:Array Int),vi=.int .i64 i/\a<i/\i<=b+1/\dk.size=d.size/\wr=putRow (Value.int .u64) (Sort.ahead w n) blk off dk/\
   insOuter ltInt a b i dk=insOuter ltInt a b (a+1) d) (fun vi _=>b+1-(intOf vi).toNat)
 case atStart=>exact⟨a+1,0,d,by go_num,by omega,by omega,rfl,(putRow_self _ _ _ _ _ hH).symm,rfl⟩
 case round=>
  obtain⟨i,n,dk,rfl,hai,hib,hsk,hwr,hO⟩:=hrel;have HO:Hid (insOuter ltInt a b i dk=insOuter ltInt a b (a+1) d):=hO;clear hO;go_wp2
  ·
   go_loopw [7] (fun vj wr2=>∃(j m:Nat) (dj:Array Int),vj=.int .i64 j/\a<=j/\j<=i/\dj.size=d.size/\wr2=putRow (Value.int .u64) (Sort.ahead w m) blk off dj/\
     insInner ltInt a j dj=insInner ltInt a i dk) (fun vj _=>(intOf vj).toNat)
   case atStart=>exact⟨i,n,dk,rfl,by omega,Nat.le_refl _,hsk,rfl,rfl⟩
   case round=>
    obtain⟨j,m,dj,rfl,haj,hji,hsj,hw2,hI⟩:=hrel;have hlt:i<b:=by assumption
    obtain⟨G,hG⟩:∃G:Nat->Int,∀t,G t=dj[t]! :=⟨fun t=>dj[t]!,fun _=>rfl⟩;have hcw:∀t,t<d.size->wr.cell? ⟨blk,off+t,none⟩=some (.int .u64 (G t)):=fun t ht=>by
     rw[hw2,hG];exact cell?_putRow _ _ _ _ d dj (holds_ahead _ _ _ _ _ _ hH) hsj t (by omega)
    have hfw:∀t,t<d.size->wr.frozen? ⟨blk,off+t,none⟩=false:=fun t ht=>by
     rw[hw2,frozen?_putRow];exact((holds_ahead _ _ m _ _ _ hH) t ht).2
    have HW:Hid (wr=putRow (Value.int .u64) (Sort.ahead w m) blk off dj):=hw2;have HG:Hid (∀ t,G t=dj[t]!):=hG;have HI:Hid (insInner ltInt a j dj=insInner ltInt a i dk):=hI;clear hw2 hG hI hH;have out:(j<=a∨ltInt dj[j]! dj[j-1]! =false)->∀q,∃i' n' dk',Value.int .i64 ((i:Int)+1)=.int .i64 (i':Nat)/\a<i'/\i'<=b+1/\dk'.size=d.size/\
      wr.drewN q=putRow (Value.int .u64) (Sort.ahead w n') blk off dk'/\insOuter ltInt a b i' dk'=insOuter ltInt a b (a+1) d:=fun hs q=>
     ⟨i+1,m+q,dj,by go_num,by omega,by omega,hsj,by rw[HW.out];exact putRow_drewN _ _ _ _ _ _ _,
      by rw[<- HO.out,insOuter_go _ _ _ _ _ hlt, <-HI.out,insInner_stop _ _ _ _ hs]⟩
    have OUT:Hid _:=out;clear out;go_wp2;by_cases hja:a<j
    ·go_quiet (first|(go_at_call 76;refine Calls.quiet_of_same (u64_cmp_Less_int _ _ _)))
     go_wp2
     ·
      have hl:ltInt (G j) (G (j-1))=true:=by assumption
      go_region
      all_goals go_wp2
      go_roundw
      case rel=>
       refine⟨j-1,m+(nq+1),swp dj j (j-1),by congr 1;omega,by omega,by omega,by rw[size_swp];exact hsj,?_,?_⟩
       ·rw[HW.out,HG.out,HG.out]
        exact swap_worldA _ w m (nq+1) blk off dj j (j-1) (by omega) (by omega)
       ·rw[<- HI.out,insInner_go ltInt a j dj hja (by rw[<- HG.out, <-HG.out];exact hl)]
      case measure=>simp[intOf];omega
     ·
      have hl:ltInt (G j) (G (j-1))=false:=by assumption
      go_roundw
      case rel=>exact OUT.out (Or.inr (by rw[<- HG.out, <-HG.out];exact hl)) nq
      case measure=>simp[intOf];omega
    ·go_quiet (first|(go_at_call 76;refine Calls.quiet_of_same (u64_cmp_Less_int _ _ _)))
     go_wp2
     go_roundw
     case rel=>exact OUT.out (Or.inl (by omega)) nq
     case measure=>simp[intOf];omega
  ·
   have hge:¬i<b:=by assumption
   go_end0
   exact⟨rfl,n,by unfold Sort.insertionSort;rw[<- HO.out,insOuter_stop _ _ _ _ _ hge]⟩
theorem u64_partialInsertionSort_int(blk off cap a b:Nat)(d:Array Int)(w:World)(hH:Holds (Value.int .u64) w blk off d)(hab:a<b)(hb:b<=d.size)(hsz:d.size<4611686018427387904):
  Calls Tryz.prog 156 #[.slice (some ⟨blk,off,none⟩) d.size cap,.int .i64 a,.int .i64 b] w fun e w'=>
   e=.returned (.bool (Sort.partialInsertionSort ltInt d a b).2)/\∃n,w'=putRow (Value.int .u64) (Sort.ahead w n) blk off (Sort.partialInsertionSort ltInt d a b).1:=by
 have HH:Hid (Holds (Value.int .u64) w blk off d):=hH;have HST:Hid (w=putRow (Value.int .u64) (Sort.ahead w 0) blk off d):=(putRow_self _ _ _ _ _ hH).symm;clear hH
 go_enter Tryz.func156,Tryz.ntmps156
 go_wp2
 go_loopw [7,8] (fun vi vs wr=>∃(i s n:Nat) (dk:Array Int),vi=.int .i64 i/\vs=.int .i64 s/\s<=5/\a<i/\i<=b/\dk.size=d.size/\wr=putRow (Value.int .u64) (Sort.ahead w n) blk off dk/\
   partialIns ltInt a b (5-s) i dk=partialIns ltInt a b 5 (a+1) d) (fun _ vs _=>5-(intOf vs).toNat)
 case atStart=>exact⟨a+1,0,0,d,by go_num,rfl,by omega,by omega,by omega,rfl,HST.out,rfl⟩
 case round=>
  obtain⟨i,s,n,dk,rfl,rfl,hs5,hai,hib,hsk,hwr,hO⟩:=hrel;have HO:Hid (partialIns ltInt a b (5-s) i dk=partialIns ltInt a b 5 (a+1) d):=hO;clear hO;go_wp2
  ·
   have hs:s<5:=by omega
   go_loopw [7] (fun vi wr2=>∃(k m:Nat),vi=.int .i64 k/\i<=k/\k<=b/\wr2=putRow (Value.int .u64) (Sort.ahead w m) blk off dk/\scanSorted ltInt dk b k=scanSorted ltInt dk b i) (fun vi _=>b-(intOf vi).toNat)
   case atStart=>exact⟨i,n,rfl,Nat.le_refl _,hib,rfl,rfl⟩
   case round=>
    obtain⟨k,m,rfl,hik,hkb,hw2,hS⟩:=hrel;obtain⟨G,hG⟩:∃G:Nat->Int,∀t,G t=dk[t]! :=⟨fun t=>dk[t]!,fun _=>rfl⟩;have hcw:∀t,t<d.size->wr.cell? ⟨blk,off+t,none⟩=some (.int .u64 (G t)):=fun t ht=>by
     rw[hw2,hG];exact cell?_putRow _ _ _ _ d dk (holds_ahead _ _ _ _ _ _ HH.out) hsk t (by omega)
    have hfw:∀t,t<d.size->wr.frozen? ⟨blk,off+t,none⟩=false:=fun t ht=>by
     rw[hw2,frozen?_putRow];exact((holds_ahead _ _ m _ _ _ HH.out) t ht).2
    have HW:Hid (wr=putRow (Value.int .u64) (Sort.ahead w m) blk off dk):=hw2;have HG:Hid (∀ t,G t=dk[t]!):=hG;have HS:Hid (scanSorted ltInt dk b k=scanSorted ltInt dk b i):=hS;clear hw2 hG hS;go_wp2;by_cases hkb':k<b
    ·go_quiet (first|(go_at_call 76;refine Calls.quiet_of_same (u64_cmp_Less_int _ _ _)))
     go_wp2
     all_goals first
      |(
       at_end
       have hl:ltInt (G k) (G (k-1))=false:=by
        have h:(!ltInt (G k) (G (k-1)))=true:=by assumption
        simpa using h
       go_roundw
       case rel=>exact⟨k+1,m+nq,by go_num,by omega,by omega,by rw[HW.out];exact putRow_drewN _ _ _ _ _ _ _,by rw[<- HS.out,scanSorted_go ltInt dk b k hkb' (by rw[<- HG.out, <-HG.out];exact hl)]⟩
       case measure=>simp[intOf];omega)
      |(
       have hl:ltInt (G k) (G (k-1))=true:=by
        have h:(!ltInt (G k) (G (k-1)))=false:=by assumption
        simpa using h
       have HK:Hid (scanSorted ltInt dk b i=k):=by
        show scanSorted ltInt dk b i=k;rw[<- HS.out,scanSorted_stop ltInt dk b k (Or.inr (by rw[<- HG.out, <-HG.out];exact hl))]
       first
        |(
         at_ret
         have hv:Sort.partialInsertionSort ltInt d a b=(dk,false):=by
          unfold Sort.partialInsertionSort;rw[<- HO.out,pi_short ltInt a b s i dk hs (by rw[HK.out];omega) (by omega)]
         rw[hv];go_ret;exact⟨rfl,m+nq,by rw[HW.out];exact putRow_drewN _ _ _ _ _ _ _⟩)
        |(
         at_region 11
         have h50:¬b-a<50:=by omega
         go_region
         have hsw:((wr.drewN (nq+1)).setCell ⟨blk,off+k,none⟩ (.int .u64 (G (k-1)))).setCell ⟨blk,off+(k-1),none⟩ (.int .u64 (G k))=putRow (Value.int .u64) (Sort.ahead w (m+(nq+1))) blk off (swp dk k (k-1)):=by
          rw[HW.out,HG.out,HG.out];exact swap_worldA _ w m (nq+1) blk off dk k (k-1) (by omega) (by omega)
         have hs1:(swp dk k (k-1)).size=d.size:=by rw[size_swp];exact hsk
         go_wp2
         all_goals first
          |(
           at_loop
           have hka:k-a≥2:=by omega
           go_loopw [9] (fun vj wr2=>∃(j m2:Nat) (dj:Array Int),vj=.int .i64 j/\j<=k-1/\dj.size=d.size/\wr2=putRow (Value.int .u64) (Sort.ahead w m2) blk off dj/\
             shiftDown ltInt j dj=shiftDown ltInt (k-1) (swp dk k (k-1))) (fun vj _=>(intOf vj).toNat)
           case atStart=>exact⟨k-1,_,(swp dk k (k-1)),by congr 1;omega,Nat.le_refl _,hs1,rfl,rfl⟩
           case round=>
            obtain⟨j,m2,dj,rfl,hjk,hsj,hw2,hDn⟩:=hrel;obtain⟨G,hG⟩:∃G:Nat->Int,∀t,G t=dj[t]! :=⟨fun t=>dj[t]!,fun _=>rfl⟩;have hcw:∀t,t<d.size->wr.cell? ⟨blk,off+t,none⟩=some (.int .u64 (G t)):=fun t ht=>by
             rw[hw2,hG];exact cell?_putRow _ _ _ _ d dj (holds_ahead _ _ _ _ _ _ HH.out) hsj t (by omega)
            have hfw:∀t,t<d.size->wr.frozen? ⟨blk,off+t,none⟩=false:=fun t ht=>by
             rw[hw2,frozen?_putRow];exact((holds_ahead _ _ m2 _ _ _ HH.out) t ht).2
            have HW:Hid (wr=putRow (Value.int .u64) (Sort.ahead w m2) blk off dj):=hw2;have HG:Hid (∀ t,G t=dj[t]!):=hG;have HDn:Hid (shiftDown ltInt j dj=shiftDown ltInt (k-1) (swp dk k (k-1))):=hDn;clear hw2 hG hDn hsw;go_wp2
            all_goals first
             |(
               at_region 16
               go_quiet (first|(go_at_call 76;refine Calls.quiet_of_same (u64_cmp_Less_int _ _ _)))
               go_wp2
               all_goals first
                |(
                 at_region 17
                 have hl:ltInt (G j) (G (j-1))=true:=by
                  have h:(!ltInt (G j) (G (j-1)))=false:=by assumption
                  simpa using h
                 go_region
                 all_goals go_wp2
                 go_roundw
                 case rel=>
                  refine⟨j-1,m2+(nq+1),swp dj j (j-1),by congr 1;omega,by omega,by rw[size_swp];exact hsj,?_,?_⟩
                  ·rw[HW.out,HG.out,HG.out]
                   exact swap_worldA _ w m2 (nq+1) blk off dj j (j-1) (by omega) (by omega)
                  ·rw[<- HDn.out,shiftDown_go ltInt j dj (by omega) (by rw[<- HG.out, <-HG.out];exact hl)]
                 case measure=>simp[intOf];omega)
                |(
                 -- break
                 have hl:ltInt (G j) (G (j-1))=false:=by
                  have h:(!ltInt (G j) (G (j-1)))=true:=by assumption
                  simpa using h
                 have HD:Hid (fixDown ltInt a k (swp dk k (k-1))=dj):=by
                  show fixDown ltInt a k (swp dk k (k-1))=dj;unfold fixDown;rw[if_pos hka, <-HDn.out,shiftDown_stop ltInt j dj (Or.inr (by rw[<- HG.out, <-HG.out];exact hl))]
                 first
                  |(
                    at_end
                    go_roundw
                    case rel=>
                     refine⟨k,s+1,_,dj,rfl,by go_num,by omega,by omega,by omega,hsj,(by first|rfl|exact HW.out|(rw[HW.out];exact putRow_drewN _ _ _ _ _ _ _)),?_⟩;rw[<- HO.out,pi_go ltInt a b s i k dk hs HK.out (by omega) (by omega),HD.out,show fixUp ltInt b k dj=dj from by unfold fixUp;rw[if_neg (by omega)]]
                    case measure=>simp[intOf];omega)
                  |(
                    at_loop
                    go_loopw [10] (fun vj wr2=>∃(j m3:Nat) (du:Array Int),vj=.int .i64 j/\k+1<=j/\j<=b/\du.size=d.size/\wr2=putRow (Value.int .u64) (Sort.ahead w m3) blk off du/\
                      shiftUp ltInt b j du=shiftUp ltInt b (k+1) dj) (fun vj _=>b-(intOf vj).toNat)
                    case atStart=>exact⟨k+1,_,dj,by go_num,Nat.le_refl _,by omega,hsj,(by first|rfl|exact HW.out|(rw[HW.out];exact putRow_drewN _ _ _ _ _ _ _)),rfl⟩
                    case round=>
                     obtain⟨j,m3,du,rfl,hkj,hjb,hsu,hw3,hU⟩:=hrel;obtain⟨G,hG⟩:∃G:Nat->Int,∀t,G t=du[t]! :=⟨fun t=>du[t]!,fun _=>rfl⟩;have hcw:∀t,t<d.size->wr.cell? ⟨blk,off+t,none⟩=some (.int .u64 (G t)):=fun t ht=>by
                      rw[hw3,hG];exact cell?_putRow _ _ _ _ d du (holds_ahead _ _ _ _ _ _ HH.out) hsu t (by omega)
                     have hfw:∀t,t<d.size->wr.frozen? ⟨blk,off+t,none⟩=false:=fun t ht=>by
                      rw[hw3,frozen?_putRow];exact((holds_ahead _ _ m3 _ _ _ HH.out) t ht).2
                     have HW:Hid (wr=putRow (Value.int .u64) (Sort.ahead w m3) blk off du):=hw3;have HG:Hid (∀ t,G t=du[t]!):=hG;have HU:Hid (shiftUp ltInt b j du=shiftUp ltInt b (k+1) dj):=hU;clear hw3 hG hU;go_wp2
                     all_goals first
                      |(
                       at_region 22
                       go_quiet (first|(go_at_call 76;refine Calls.quiet_of_same (u64_cmp_Less_int _ _ _)))
                       go_wp2
                       all_goals first
                        |(
                          at_region 23
                          have hl:ltInt (G j) (G (j-1))=true:=by
                           have h:(!ltInt (G j) (G (j-1)))=false:=by assumption
                           simpa using h
                          go_region
                          all_goals go_wp2
                          go_roundw
                          case rel=>
                           refine⟨j+1,m3+(nq+1),swp du j (j-1),by go_num,by omega,by omega,by rw[size_swp];exact hsu,?_,?_⟩
                           ·rw[HW.out,HG.out,HG.out]
                            exact swap_worldA _ w m3 (nq+1) blk off du j (j-1) (by omega) (by omega)
                           ·rw[<- HU.out,shiftUp_go ltInt b j du (by omega) (by rw[<- HG.out, <-HG.out];exact hl)]
                          case measure=>simp[intOf];omega)
                        |(
                          at_end
                          have hl:ltInt (G j) (G (j-1))=false:=by
                           have h:(!ltInt (G j) (G (j-1)))=true:=by assumption
                           simpa using h
                          go_roundw
                          case rel=>
                           refine⟨k,s+1,_,du,rfl,by go_num,by omega,by omega,by omega,hsu,(by first|rfl|exact HW.out|(rw[HW.out];exact putRow_drewN _ _ _ _ _ _ _)),?_⟩;rw[<- HO.out,pi_go ltInt a b s i k dk hs HK.out (by omega) (by omega),HD.out,show fixUp ltInt b k dj=du from by unfold fixUp;rw[if_pos (by omega), <-HU.out,shiftUp_stop ltInt b j du (Or.inr (by rw[<- HG.out, <-HG.out];exact hl))]]
                          case measure=>simp[intOf];omega))
                      |(
                       at_end
                       go_roundw
                       case rel=>
                        refine⟨k,s+1,_,du,rfl,by go_num,by omega,by omega,by omega,hsu,(by first|rfl|exact HW.out|(rw[HW.out];exact putRow_drewN _ _ _ _ _ _ _)),?_⟩;rw[<- HO.out,pi_go ltInt a b s i k dk hs HK.out (by omega) (by omega),HD.out,show fixUp ltInt b k dj=du from by unfold fixUp;rw[if_pos (by omega), <-HU.out,shiftUp_stop ltInt b j du (Or.inl (by omega))]]
                       case measure=>simp[intOf];omega))))
             |(
               -- j<1
               have HD:Hid (fixDown ltInt a k (swp dk k (k-1))=dj):=by
                show fixDown ltInt a k (swp dk k (k-1))=dj;unfold fixDown;rw[if_pos hka, <-HDn.out,shiftDown_stop ltInt j dj (Or.inl (by omega))]
               first
                |(
                 at_end
                 go_roundw
                 case rel=>
                  refine⟨k,s+1,_,dj,rfl,by go_num,by omega,by omega,by omega,hsj,(by first|rfl|exact HW.out|(rw[HW.out];exact putRow_drewN _ _ _ _ _ _ _)),?_⟩;rw[<- HO.out,pi_go ltInt a b s i k dk hs HK.out (by omega) (by omega),HD.out,show fixUp ltInt b k dj=dj from by unfold fixUp;rw[if_neg (by omega)]]
                 case measure=>simp[intOf];omega)
                |(
                 at_loop
                 go_loopw [10] (fun vj wr2=>∃(j m3:Nat) (du:Array Int),vj=.int .i64 j/\k+1<=j/\j<=b/\du.size=d.size/\wr2=putRow (Value.int .u64) (Sort.ahead w m3) blk off du/\
                   shiftUp ltInt b j du=shiftUp ltInt b (k+1) dj) (fun vj _=>b-(intOf vj).toNat)
                 case atStart=>exact⟨k+1,_,dj,by go_num,Nat.le_refl _,by omega,hsj,(by first|rfl|exact HW.out|(rw[HW.out];exact putRow_drewN _ _ _ _ _ _ _)),rfl⟩
                 case round=>
                  obtain⟨j,m3,du,rfl,hkj,hjb,hsu,hw3,hU⟩:=hrel;obtain⟨G,hG⟩:∃G:Nat->Int,∀t,G t=du[t]! :=⟨fun t=>du[t]!,fun _=>rfl⟩;have hcw:∀t,t<d.size->wr.cell? ⟨blk,off+t,none⟩=some (.int .u64 (G t)):=fun t ht=>by
                   rw[hw3,hG];exact cell?_putRow _ _ _ _ d du (holds_ahead _ _ _ _ _ _ HH.out) hsu t (by omega)
                  have hfw:∀t,t<d.size->wr.frozen? ⟨blk,off+t,none⟩=false:=fun t ht=>by
                   rw[hw3,frozen?_putRow];exact((holds_ahead _ _ m3 _ _ _ HH.out) t ht).2
                  have HW:Hid (wr=putRow (Value.int .u64) (Sort.ahead w m3) blk off du):=hw3;have HG:Hid (∀ t,G t=du[t]!):=hG;have HU:Hid (shiftUp ltInt b j du=shiftUp ltInt b (k+1) dj):=hU;clear hw3 hG hU;go_wp2
                  all_goals first
                   |(
                     at_region 22
                     go_quiet (first|(go_at_call 76;refine Calls.quiet_of_same (u64_cmp_Less_int _ _ _)))
                     go_wp2
                     all_goals first
                      |(
                       at_region 23
                       have hl:ltInt (G j) (G (j-1))=true:=by
                        have h:(!ltInt (G j) (G (j-1)))=false:=by assumption
                        simpa using h
                       go_region
                       all_goals go_wp2
                       go_roundw
                       case rel=>
                        refine⟨j+1,m3+(nq+1),swp du j (j-1),by go_num,by omega,by omega,by rw[size_swp];exact hsu,?_,?_⟩
                        ·rw[HW.out,HG.out,HG.out]
                         exact swap_worldA _ w m3 (nq+1) blk off du j (j-1) (by omega) (by omega)
                        ·rw[<- HU.out,shiftUp_go ltInt b j du (by omega) (by rw[<- HG.out, <-HG.out];exact hl)]
                       case measure=>simp[intOf];omega)
                      |(
                       at_end
                       have hl:ltInt (G j) (G (j-1))=false:=by
                        have h:(!ltInt (G j) (G (j-1)))=true:=by assumption
                        simpa using h
                       go_roundw
                       case rel=>
                        refine⟨k,s+1,_,du,rfl,by go_num,by omega,by omega,by omega,hsu,(by first|rfl|exact HW.out|(rw[HW.out];exact putRow_drewN _ _ _ _ _ _ _)),?_⟩;rw[<- HO.out,pi_go ltInt a b s i k dk hs HK.out (by omega) (by omega),HD.out,show fixUp ltInt b k dj=du from by unfold fixUp;rw[if_pos (by omega), <-HU.out,shiftUp_stop ltInt b j du (Or.inr (by rw[<- HG.out, <-HG.out];exact hl))]]
                       case measure=>simp[intOf];omega))
                   |(
                     at_end
                     go_roundw
                     case rel=>
                      refine⟨k,s+1,_,du,rfl,by go_num,by omega,by omega,by omega,hsu,(by first|rfl|exact HW.out|(rw[HW.out];exact putRow_drewN _ _ _ _ _ _ _)),?_⟩;rw[<- HO.out,pi_go ltInt a b s i k dk hs HK.out (by omega) (by omega),HD.out,show fixUp ltInt b k dj=du from by unfold fixUp;rw[if_pos (by omega), <-HU.out,shiftUp_stop ltInt b j du (Or.inl (by omega))]]
                     case measure=>simp[intOf];omega))))
          |(
           -- i-a<2
           have HD:Hid (fixDown ltInt a k (swp dk k (k-1))=(swp dk k (k-1))):=by
            show fixDown ltInt a k (swp dk k (k-1))=(swp dk k (k-1));unfold fixDown;rw[if_neg (by omega)]
           first
            |(
              at_end
              go_roundw
              case rel=>
               refine⟨k,s+1,_,(swp dk k (k-1)),rfl,by go_num,by omega,by omega,by omega,hs1,(by first|rfl|exact HW.out|(rw[HW.out];exact putRow_drewN _ _ _ _ _ _ _)),?_⟩;rw[<- HO.out,pi_go ltInt a b s i k dk hs HK.out (by omega) (by omega),HD.out,show fixUp ltInt b k (swp dk k (k-1))=(swp dk k (k-1))from by unfold fixUp;rw[if_neg (by omega)]]
              case measure=>simp[intOf];omega)
            |(
              at_loop
              go_loopw [10] (fun vj wr2=>∃(j m3:Nat) (du:Array Int),vj=.int .i64 j/\k+1<=j/\j<=b/\du.size=d.size/\wr2=putRow (Value.int .u64) (Sort.ahead w m3) blk off du/\
                shiftUp ltInt b j du=shiftUp ltInt b (k+1) (swp dk k (k-1))) (fun vj _=>b-(intOf vj).toNat)
              case atStart=>exact⟨k+1,_,(swp dk k (k-1)),by go_num,Nat.le_refl _,by omega,hs1,(by first|rfl|exact HW.out|(rw[HW.out];exact putRow_drewN _ _ _ _ _ _ _)),rfl⟩
              case round=>
               obtain⟨j,m3,du,rfl,hkj,hjb,hsu,hw3,hU⟩:=hrel;obtain⟨G,hG⟩:∃G:Nat->Int,∀t,G t=du[t]! :=⟨fun t=>du[t]!,fun _=>rfl⟩;have hcw:∀t,t<d.size->wr.cell? ⟨blk,off+t,none⟩=some (.int .u64 (G t)):=fun t ht=>by
                rw[hw3,hG];exact cell?_putRow _ _ _ _ d du (holds_ahead _ _ _ _ _ _ HH.out) hsu t (by omega)
               have hfw:∀t,t<d.size->wr.frozen? ⟨blk,off+t,none⟩=false:=fun t ht=>by
                rw[hw3,frozen?_putRow];exact((holds_ahead _ _ m3 _ _ _ HH.out) t ht).2
               have HW:Hid (wr=putRow (Value.int .u64) (Sort.ahead w m3) blk off du):=hw3;have HG:Hid (∀ t,G t=du[t]!):=hG;have HU:Hid (shiftUp ltInt b j du=shiftUp ltInt b (k+1) (swp dk k (k-1))):=hU;clear hw3 hG hU;go_wp2
               all_goals first
                |(
                 at_region 22
                 go_quiet (first|(go_at_call 76;refine Calls.quiet_of_same (u64_cmp_Less_int _ _ _)))
                 go_wp2
                 all_goals first
                  |(
                    at_region 23
                    have hl:ltInt (G j) (G (j-1))=true:=by
                     have h:(!ltInt (G j) (G (j-1)))=false:=by assumption
                     simpa using h
                    go_region
                    all_goals go_wp2
                    go_roundw
                    case rel=>
                     refine⟨j+1,m3+(nq+1),swp du j (j-1),by go_num,by omega,by omega,by rw[size_swp];exact hsu,?_,?_⟩
                     ·rw[HW.out,HG.out,HG.out]
                      exact swap_worldA _ w m3 (nq+1) blk off du j (j-1) (by omega) (by omega)
                     ·rw[<- HU.out,shiftUp_go ltInt b j du (by omega) (by rw[<- HG.out, <-HG.out];exact hl)]
                    case measure=>simp[intOf];omega)
                  |(
                    at_end
                    have hl:ltInt (G j) (G (j-1))=false:=by
                     have h:(!ltInt (G j) (G (j-1)))=true:=by assumption
                     simpa using h
                    go_roundw
                    case rel=>
                     refine⟨k,s+1,_,du,rfl,by go_num,by omega,by omega,by omega,hsu,(by first|rfl|exact HW.out|(rw[HW.out];exact putRow_drewN _ _ _ _ _ _ _)),?_⟩;rw[<- HO.out,pi_go ltInt a b s i k dk hs HK.out (by omega) (by omega),HD.out,show fixUp ltInt b k (swp dk k (k-1))=du from by unfold fixUp;rw[if_pos (by omega), <-HU.out,shiftUp_stop ltInt b j du (Or.inr (by rw[<- HG.out, <-HG.out];exact hl))]]
                    case measure=>simp[intOf];omega))
                |(
                 at_end
                 go_roundw
                 case rel=>
                  refine⟨k,s+1,_,du,rfl,by go_num,by omega,by omega,by omega,hsu,(by first|rfl|exact HW.out|(rw[HW.out];exact putRow_drewN _ _ _ _ _ _ _)),?_⟩;rw[<- HO.out,pi_go ltInt a b s i k dk hs HK.out (by omega) (by omega),HD.out,show fixUp ltInt b k (swp dk k (k-1))=du from by unfold fixUp;rw[if_pos (by omega), <-HU.out,shiftUp_stop ltInt b j du (Or.inl (by omega))]]
                 case measure=>simp[intOf];omega)))))
    ·
     go_quiet (first|(go_at_call 76;refine Calls.quiet_of_same (u64_cmp_Less_int _ _ _)))
     go_wp2;obtain rfl:k=b:=by omega
     have hv:Sort.partialInsertionSort ltInt d a k=(dk,true):=by
      unfold Sort.partialInsertionSort;rw[<- HO.out,pi_true ltInt a k s i dk hs (by rw[<- HS.out,scanSorted_stop ltInt dk k k (Or.inl (by omega))])]
     rw[hv];go_ret;exact⟨rfl,m+nq,by rw[HW.out];exact putRow_drewN _ _ _ _ _ _ _⟩
  ·
   obtain rfl:s=5:=by omega
   have hv:Sort.partialInsertionSort ltInt d a b=(dk,false):=by
    unfold Sort.partialInsertionSort;rw[<- HO.out,pi_end]
   rw[hv];go_ret;exact⟨rfl,n,rfl⟩
theorem u64_xorshift_Next(rb ro X:Nat)(hX:X<18446744073709551616)(w:World)(hc:w.cell? ⟨rb,ro,none⟩=some (.int .u64 X))(hf:w.frozen? ⟨rb,ro,none⟩=false):
  Calls Tryz.prog 177 #[.pointer (some ⟨rb,ro,none⟩)] w fun e w'=>e=.returned (.int .u64 (xorNextN X:Nat))/\w'=(w.setCell ⟨rb,ro,none⟩ (.int .u64 (xorNextN X:Nat))).drewN 3:=by
 obtain⟨A,hA⟩:∃A:Nat,A=X ^^^ (X*8192%18446744073709551616):=⟨_,rfl⟩;obtain⟨B,hB⟩:∃B:Nat,B=A ^^^ (A/128):=⟨_,rfl⟩;obtain⟨C,hC⟩:∃C:Nat,C=B ^^^ (B*131072%18446744073709551616):=⟨_,rfl⟩;have lA:A<18446744073709551616:=by rw[hA];exact Nat.xor_lt_two_pow (n:=64) (by omega) (by omega)
 have lB:B<18446744073709551616:=by rw[hB];exact Nat.xor_lt_two_pow (n:=64) (by omega) (by omega)
 have e1:bits .xor .u64 (X:Int) (IntKind.u64.wrap ((X:Int)*8192))=(A:Int):=by
  rw[IntKind.wrap_u64,show((X:Int)*8192%18446744073709551616)=((X*8192%18446744073709551616:Nat):Int) by omega,bits_xor_u64_nat _ _ hX (by omega),hA]
 have e2:bits .xor .u64 (A:Int) ((A:Int)/128)=(B:Int):=by
  rw[show ((A:Int)/128)=((A/128:Nat):Int) by omega,bits_xor_u64_nat _ _ lA (by omega),hB]
 have e3:bits .xor .u64 (B:Int) (IntKind.u64.wrap ((B:Int)*131072))=(C:Int):=by
  rw[IntKind.wrap_u64,show((B:Int)*131072%18446744073709551616)=((B*131072%18446744073709551616:Nat):Int) by omega,bits_xor_u64_nat _ _ lB (by omega),hC]
 have hv:xorNextN X=C:=by unfold xorNextN;simp only[];rw[<- hA, <-hB, <-hC]
 rw[hv];clear hA hB hC hv;have hss:∀v v',(w.setCell ⟨rb,ro,none⟩ v).setCell ⟨rb,ro,none⟩ v'=w.setCell ⟨rb,ro,none⟩ v':=setCell_setCell w rb ro
 go_enter Tryz.func177,Tryz.ntmps177
 go_wp2
 go_region
 all_goals go_wp2
 all_goals go_region
 all_goals go_wp2
 all_goals go_region
 all_goals go_wp2
 go_ret;exact⟨rfl,rfl⟩
theorem u64_nextPowerOfTwo(n:Nat)(hn:n<4611686018427387904)(w:World):
  Calls Tryz.prog 176 #[.int .i64 n] w fun e w'=>e=.returned (.int .u64 ((1 <<< bitsLen n:Nat):Int))/\w'=w:=by
 have hLen:∀w,Calls Tryz.prog 109 #[.int .u64 (n:Int)] w fun e w'=>e=.returned (.int .i64 (bitsLen n:Nat))/\w'=w:=fun w=>by
  have h:=u64_bits_Len (n:Int) w (by omega) (by omega)
  rwa[Int.toNat_natCast,bitLen_eq _ (by omega)]at h
 have hk:bitsLen n<=62:=(bitsLen_le_iff n 62).2 (by omega);have hp:=wrap_two_pow (bitsLen n) hk
 go_enter Tryz.func176,Tryz.ntmps176
 go_wp2_with(first|(go_at_call 109;refine(hLen _).mono ?_;rintro e w' ⟨rfl,rfl⟩))
 go_ret;exact⟨rfl,rfl⟩
theorem u64_breakPatterns_int_go(blk off cap a L:Nat)(d:Array Int)(w:World)(hH:Holds (Value.int .u64) w blk off d)(hblk:blk<w.heap.size)(hb:a+L<=d.size)(hsz:d.size<4611686018427387904)(h8:8<=L):
  Calls Tryz.prog 153 #[.slice (some ⟨blk,off,none⟩) d.size cap,.int .i64 a,.int .i64 ((a+L:Nat):Int)] w fun e w'=>
   e=.returned (.tuple #[])/\∃n os,w'=grow (putRow (Value.int .u64) (Sort.ahead w n) blk off (breakPatterns d a (a+L))) os:=by
 rw[breakPatterns_eq d a L h8];obtain⟨M,hM⟩:∃M:Nat,M=1 <<< bitsLen L:=⟨_,rfl⟩;have hM1:1<=M:=by rw[hM,Nat.one_shiftLeft];exact Nat.two_pow_pos _
 have hM2:M<=2*L:=by rw[hM,Nat.one_shiftLeft];exact two_pow_bitsLen_le (by omega)
 have hNP:∀w,Calls Tryz.prog 176 #[.int .i64 (L:Int)] w fun e w'=>e=.returned (.int .u64 (M:Int))/\w'=w:=by rw[hM];exact fun w=>u64_nextPowerOfTwo L (by omega) w
 rw[<- hM];clear hM;have HH:Hid (Holds (Value.int .u64) w blk off d):=hH;have HST:Hid (w.alloc (Obj.cells #[.int .u64 (L:Int)] 214)=grow (putRow (Value.int .u64) (Sort.ahead w 0) blk off d) #[Obj.cells #[.int .u64 ((UInt64.ofNat L).toNat:Int)] 214]):=by
  show _=_;rw[show Sort.ahead w 0=w from rfl,putRow_self _ _ _ _ _ hH,alloc_eq_grow,show(UInt64.ofNat L).toNat=L from by simp;omega]
 clear hH
 go_enter Tryz.func153,Tryz.ntmps153
 go_wp2_with(first|(go_at_call 176;rw[show ((a:Int)+(L:Int)-(a:Int))=(L:Int) by omega];refine(hNP _).mono ?_;rintro e w' ⟨rfl,rfl⟩))
 go_loopw [9] (fun vi wr=>∃(t n:Nat) (r:UInt64) (dk:Array Int),vi=.int .i64 ((a+L/4*2-1+t:Nat):Int)/\t<=3/\dk.size=d.size/\
   wr=grow (putRow (Value.int .u64) (Sort.ahead w n) blk off dk) #[Obj.cells #[.int .u64 (r.toNat:Int)] 214]/\
   bpRest a L M (a+L/4*2-1) (3-t) t (r,dk)=bpRest a L M (a+L/4*2-1) 3 0 (UInt64.ofNat L,d)) (fun vi _=>a+L/4*2+3-(intOf vi).toNat)
 case atStart=>exact⟨0,0,UInt64.ofNat L,d,by congr 1;omega,by omega,rfl,HST.out,rfl⟩
 case round=>
  obtain⟨t,n,r,dk,rfl,ht,hsk,hw,hR⟩:=hrel;obtain⟨R,hRr⟩:∃R:Nat,R=r.toNat:=⟨_,rfl⟩;have lR:R<18446744073709551616:=by rw[hRr];exact r.toNat_lt
  obtain⟨R',hR'⟩:∃R':Nat,R'=xorNextN R:=⟨_,rfl⟩;have lR':R'<18446744073709551616:=by rw[hR'];exact xorNextN_lt R lR
  obtain⟨O,hO⟩:∃O:Nat,O=R' &&& (M-1):=⟨_,rfl⟩;have lO:O<=M-1:=by rw[hO];exact Nat.and_le_right
  have eAnd:bits .and .u64 (R':Int) ((M:Int)-1)=(O:Int):=by
   rw[show ((M:Int)-1)=((M-1:Nat):Int) by omega,bits_and_u64_nat _ _ lR' (by omega),hO]
  obtain⟨G,hG⟩:∃G:Nat->Int,∀x,G x=dk[x]! :=⟨fun x=>dk[x]!,fun _=>rfl⟩;have hz:(putRow (Value.int .u64) (Sort.ahead w n) blk off dk).heap.size=w.heap.size:=by simp
  have hcw:∀x,x<d.size->wr.cell? ⟨blk,off+x,none⟩=some (.int .u64 (G x)):=fun x hx=>by
   rw[hw,cell?_grow _ _ _ (by rw[hz];exact hblk),hG];exact cell?_putRow _ _ _ _ d dk (holds_ahead _ _ _ _ _ _ HH.out) hsk x (by omega)
  have hfw:∀x,x<d.size->wr.frozen? ⟨blk,off+x,none⟩=false:=fun x hx=>by
   rw[hw,frozen?_grow _ _ _ (by rw[hz];exact hblk),frozen?_putRow];exact((holds_ahead _ _ n _ _ _ HH.out) x hx).2
  have hcB:wr.cell? ⟨w.heap.size,0,none⟩=some (.int .u64 (R:Int)):=by rw[hw,hRr, <-hz];exact grow_one_cell _ _ _
  have hfB:wr.frozen? ⟨w.heap.size,0,none⟩=false:=by rw[hw, <-hz];exact grow_one_frozen _ _ _
  have hNext:Calls Tryz.prog 177 #[.pointer (some ⟨w.heap.size,0,none⟩)] wr fun e w'=>e=.returned (.int .u64 (R':Int))/\w'=(wr.setCell ⟨w.heap.size,0,none⟩ (.int .u64 (R':Int))).drewN 3:=by
   rw[hR'];exact u64_xorshift_Next _ _ R lR wr hcB hfB
  have HW:Hid (wr=grow (putRow (Value.int .u64) (Sort.ahead w n) blk off dk) #[Obj.cells #[.int .u64 (r.toNat:Int)] 214]):=hw;have HG:Hid (∀ x,G x=dk[x]!):=hG;have HR:Hid (bpRest a L M (a+L/4*2-1) (3-t) t (r,dk)=bpRest a L M (a+L/4*2-1) 3 0 (UInt64.ofNat L,d)):=hR;have HN:Hid (R'=(xorNext r).toNat/\O=(xorNext r).toNat &&& (M-1)):=by
   have e:R'=(xorNext r).toNat:=by rw[hR',hRr,xorNext_toNat]
   exact⟨e,by rw[hO,e]⟩
  clear hw hG hR hRr hR' hO
  go_wp2_with(first|(go_at_call 177;refine hNext.mono ?_;rintro e w' ⟨rfl,rfl⟩))
  ·
   have hLO:L<=O:=by omega
   by_cases hEq:a+L/4*2-1+t=a+(O-L)
   all_goals
    go_region
    all_goals go_wp2
    go_roundw
    case rel=>
     refine⟨t+1,n+4,xorNext r,swp dk (a+L/4*2-1+t) (a+(O-L)),by first|rfl|(congr 1 <;> omega),by omega,by rw[size_swp];exact hsk,?_,?_⟩
     ·(try rw[hEq])
      rw[HW.out,HN.out.1];simp only[HG.out];exact step_world (Value.int .u64) w n 4 blk off dk _ _ hblk (by omega) (by omega) _ _ _
     ·rw[<- HR.out,bp_step a L M _ t r dk (O-L) (by omega) (by rw[<- HN.out.2,if_pos (by omega)])]
    case measure=>simp[intOf];omega
  ·have hLO:¬L<=O:=by omega
   by_cases hEq:a+L/4*2-1+t=a+O
   all_goals
    go_region
    all_goals go_wp2
    go_roundw
    case rel=>
     refine⟨t+1,n+4,xorNext r,swp dk (a+L/4*2-1+t) (a+O),by first|rfl|(congr 1 <;> omega),by omega,by rw[size_swp];exact hsk,?_,?_⟩
     ·(try rw[hEq])
      rw[HW.out,HN.out.1];simp only[HG.out];exact step_world (Value.int .u64) w n 4 blk off dk _ _ hblk (by omega) (by omega) _ _ _
     ·rw[<- HR.out,bp_step a L M _ t r dk O (by omega) (by rw[<- HN.out.2,if_neg (by omega)])]
    case measure=>simp[intOf];omega
  ·
   obtain rfl:t=3:=by omega
   go_end0
   exact⟨rfl,n,_,by rw[<- HR.out,HW.out];rfl⟩
theorem u64_breakPatterns_int(blk off cap a b:Nat)(d:Array Int)(w:World)(hH:Holds (Value.int .u64) w blk off d)(hblk:blk<w.heap.size)(hab:a<=b)(hb:b<=d.size)(hsz:d.size<4611686018427387904):
  Calls Tryz.prog 153 #[.slice (some ⟨blk,off,none⟩) d.size cap,.int .i64 a,.int .i64 b] w fun e w'=>
   e=.returned (.tuple #[])/\∃n os,w'=grow (putRow (Value.int .u64) (Sort.ahead w n) blk off (breakPatterns d a b)) os:=by
 obtain⟨L,rfl⟩:∃L,b=a+L:=⟨b-a,by omega⟩;by_cases h8:8<=L
 ·exact u64_breakPatterns_int_go blk off cap a L d w hH hblk hb hsz h8
 ·have hv:breakPatterns d a (a+L)=d:=by unfold breakPatterns;simp only[Nat.add_sub_cancel_left];rw[if_neg h8]
  rw[hv];have HST:Hid (w=grow (putRow (Value.int .u64) (Sort.ahead w 0) blk off d) #[]):=by
   show _=_;rw[grow_empty,show Sort.ahead w 0=w from rfl,putRow_self _ _ _ _ _ hH]
  clear hH
  go_enter Tryz.func153,Tryz.ntmps153
  go_wp2
  go_end0
  exact⟨rfl,0,#[],HST.out⟩
theorem u64_reverseRange_int(blk off cap:Nat)(d:Array Int)(a b:Nat)(w:World)(hH:Holds encU w blk off d)(hab:a<=b)(hb:b<=d.size)(hsz:d.size<4611686018427387904):
  Calls Tryz.prog 155 #[.slice (some ⟨blk,off,none⟩) d.size cap,.int .i64 a,.int .i64 b] w fun e w'=>e=.returned (.tuple #[])/\∃n,w'=putRow encU (Sort.ahead w n) blk off (reverseRange d a b):=by
 go_enter Tryz.func155,Tryz.ntmps155
 go_wp2
 go_loopg [6,7] (b-a) (fun k s6 s7 wr=>∃(i jn:Nat) (jz:Int) (dk:Array Int) (n:Nat),s6=.int .i64 i/\s7=.int .i64 jz/\((i:Int)<jz->jz=jn/\jn<d.size)/\(¬ (i:Int)<jz->¬i<jn)/\jn-i<=k/\
  dk.size=d.size/\wr=putRow encU (Sort.ahead w n) blk off dk/\reverseLoop i jn dk=reverseLoop a (b-1) d)
 case atStart=>exact⟨a,b-1,(b:Int)-1,d,0,rfl,rfl,fun h=>⟨by omega,by omega⟩,fun h=>by omega,by omega,rfl,(putRow_self encU w blk off d hH).symm,rfl⟩
 case round=>
  obtain⟨i,jn,jz,dk,n,rfl,rfl,h1,h2,hk,hds,hwr,heq⟩:=hrel;by_cases hlt:(i:Int)<jz
  ·obtain⟨rfl,hjn⟩:=h1 hlt
   have hij:i<jn:=by omega
   have hHk:Holds encU wr blk off dk:=by rw[hwr];exact holds_putRow encU _ blk off d dk (holds_ahead encU w n blk off d hH) hds
   obtain⟨ci,fi⟩:=hHk i (by omega);obtain⟨cj,fj⟩:=hHk jn (by omega);have A:Aside (wr=putRow encU (Sort.ahead w n) blk off dk):=hwr;clear hwr hHk hH h1 h2
   go_wp2_with fail
   go_region
   go_wp2
   go_roundg (jn-1-(i+1))
   case measure=>omega
   case rel=>
    rw[reverseLoop,if_pos hij]at heq;exact⟨i+1,jn-1,(jn:Int)-1,swp dk i jn,n+1,by simp,rfl,fun h=>⟨by omega,by omega⟩,fun h=>by omega,Nat.le_refl _,by rw[size_swp];exact hds,
     swap_world encU (by omega) (by omega) A.out (by simp[encU,getElem!_pos,show jn<dk.size by omega]) rfl,heq⟩
  ·have hnot:=h2 hlt
   go_wp2
   go_end0
   refine⟨rfl,n,?_⟩;rw[reverseLoop,if_neg hnot]at heq;rw[reverseRange, <-heq]
theorem u64_siftDown_int(blk off len cap:Nat)(d:Array Int)(hlen:d.size=len)(lo hi first:Nat)(w:World)(hH:Holds encU w blk off d)(hlo:lo<=hi)(hb:first+hi<=d.size)(hsz:d.size<4611686018427387904):
  Calls Tryz.prog 175 #[.slice (some ⟨blk,off,none⟩) len cap,.int .i64 lo,.int .i64 hi,.int .i64 first] w fun e w'=>e=.returned (.tuple #[])/\∃n,w'=putRow encU (Sort.ahead w n) blk off (siftDown ltInt hi first lo d):=by
 subst hlen
 go_enter Tryz.func175,Tryz.ntmps175
 go_wp2
 go_loopg [8] (hi-lo) (fun k s8 wr=>∃(root:Nat) (dk:Array Int) (n:Nat),s8=.int .i64 root/\root<=hi/\hi-root<=k/\dk.size=d.size/\wr=putRow encU (Sort.ahead w n) blk off dk/\siftDown ltInt hi first root dk=siftDown ltInt hi first lo d)
 case atStart=>exact⟨lo,d,0,rfl,hlo,Nat.le_refl _,rfl,(putRow_self encU w blk off d hH).symm,rfl⟩
 case round=>
  obtain⟨root,dk,n,rfl,hr,hk,hds,hwr,heq⟩:=hrel;have hHk:Holds encU wr blk off dk:=by rw[hwr];exact holds_putRow encU _ blk off d dk (holds_ahead encU w n blk off d hH) hds
  have hcw:∀t,t<d.size->wr.cell? ⟨blk,off+t,none⟩=some (.int .u64 dk[t]!):=fun t ht=>(hHk t (by omega)).1
  have hfw:∀t,t<d.size->wr.frozen? ⟨blk,off+t,none⟩=false:=fun t ht=>(hHk t (by omega)).2
  have A:Aside (wr=putRow encU (Sort.ahead w n) blk off dk):=hwr;clear hwr hH hHk;by_cases h0:hi<=2*root+1
  ·
   have h0z:(hi:Int)<=2*(root:Int)+1:=by omega
   go_wp2
   go_end0
   refine⟨rfl,n,?_⟩;rw[A.out, <-heq,sd_end ltInt dk h0]
  ·
   have h0z:¬((hi:Int)<=2*(root:Int)+1):=by omega
   by_cases h1:2*root+2<hi
   ·have h1z:2*(root:Int)+1+1<(hi:Int):=by omega
    go_wp2_with fail
    go_big_quiet (first|(go_at_call 76;refine Calls.quiet_of_same (u64_cmp_Less_int _ _ _)))
    go_wp2_with fail
    ·
     have hL:ltInt dk[first+2*root+1]! dk[first+2*root+2]! =true:=by assumption
     revert nq;intro nq1;have hcw2:∀t,t<d.size->(wr.drewN nq1).cell? ⟨blk,off+t,none⟩=some (.int .u64 dk[t]!):=hcw;have hfw2:∀t,t<d.size->(wr.drewN nq1).frozen? ⟨blk,off+t,none⟩=false:=hfw;have A2:Aside (wr.drewN nq1=putRow encU (Sort.ahead w (n+nq1)) blk off dk):=drewN_world encU A.out nq1;clear hcw hfw A;generalize wr.drewN nq1=wr2 at hcw2 hfw2 A2 ⊢
     go_big_quiet (first|(go_at_call 76;refine Calls.quiet_of_same (u64_cmp_Less_int _ _ _)))
     go_wp2_with fail
     ·
      have hS:ltInt dk[first+root]! dk[first+2*root+2]! =false:=by
       have:(!ltInt dk[first+root]! dk[first+2*root+2]!)=true:=by assumption
       simpa using this
      (try simp only[Exit.inBlock,Exit.then]);refine bodyPost_ret (results_none rfl _ _ _) rfl ?_
      refine⟨rfl,n+nq1+nq,?_⟩;rw[drewN_world encU A2.out nq, <-heq,sd_right_stop ltInt dk h1 hL hS]
     ·
      have hG:ltInt dk[first+root]! dk[first+2*root+2]! =true:=by
       have:(!ltInt dk[first+root]! dk[first+2*root+2]!)=false:=by assumption
       simpa using this
      have hcw3:∀t,t<d.size->(wr2.drewN nq).cell? ⟨blk,off+t,none⟩=some (.int .u64 dk[t]!):=hcw2;have hfw3:∀t,t<d.size->(wr2.drewN nq).frozen? ⟨blk,off+t,none⟩=false:=hfw2;have A3:Aside (wr2.drewN nq=putRow encU (Sort.ahead w (n+nq1+nq)) blk off dk):=drewN_world encU A2.out nq;clear hcw2 hfw2 A2;generalize wr2.drewN nq=wr3 at hcw3 hfw3 A3 ⊢
      go_region
      go_wp2
      go_roundg (hi-(2*root+2))
      case measure=>omega
      case rel=>
       refine⟨2*root+2,swp dk (first+root) (first+(2*root+1+1)),n+nq1+nq+1,by simp <;> omega,by omega,Nat.le_refl _,by rw[size_swp];exact hds,swap_world encU (by omega) (by omega) A3.out rfl rfl,?_⟩;rw[<- heq,sd_right_go ltInt dk h1 hL hG]
    ·
     have hL:ltInt dk[first+2*root+1]! dk[first+2*root+2]! =false:=by assumption
     revert nq;intro nq1;have hcw2:∀t,t<d.size->(wr.drewN nq1).cell? ⟨blk,off+t,none⟩=some (.int .u64 dk[t]!):=hcw;have hfw2:∀t,t<d.size->(wr.drewN nq1).frozen? ⟨blk,off+t,none⟩=false:=hfw;have A2:Aside (wr.drewN nq1=putRow encU (Sort.ahead w (n+nq1)) blk off dk):=drewN_world encU A.out nq1;clear hcw hfw A;generalize wr.drewN nq1=wr2 at hcw2 hfw2 A2 ⊢
     go_big_quiet (first|(go_at_call 76;refine Calls.quiet_of_same (u64_cmp_Less_int _ _ _)))
     go_wp2_with fail
     ·
      have hS:ltInt dk[first+root]! dk[first+2*root+1]! =false:=by
       have:(!ltInt dk[first+root]! dk[first+2*root+1]!)=true:=by assumption
       simpa using this
      (try simp only[Exit.inBlock,Exit.then]);refine bodyPost_ret (results_none rfl _ _ _) rfl ?_
      refine⟨rfl,n+nq1+nq,?_⟩;rw[drewN_world encU A2.out nq, <-heq,sd_left_stop ltInt dk (by omega) (fun _=>hL) hS]
     ·
      have hG:ltInt dk[first+root]! dk[first+2*root+1]! =true:=by
       have:(!ltInt dk[first+root]! dk[first+2*root+1]!)=false:=by assumption
       simpa using this
      have hcw3:∀t,t<d.size->(wr2.drewN nq).cell? ⟨blk,off+t,none⟩=some (.int .u64 dk[t]!):=hcw2;have hfw3:∀t,t<d.size->(wr2.drewN nq).frozen? ⟨blk,off+t,none⟩=false:=hfw2;have A3:Aside (wr2.drewN nq=putRow encU (Sort.ahead w (n+nq1+nq)) blk off dk):=drewN_world encU A2.out nq;clear hcw2 hfw2 A2;generalize wr2.drewN nq=wr3 at hcw3 hfw3 A3 ⊢
      go_region
      go_wp2
      go_roundg (hi-(2*root+1))
      case measure=>omega
      case rel=>
       refine⟨2*root+1,swp dk (first+root) (first+(2*root+1)),n+nq1+nq+1,by simp <;> omega,by omega,Nat.le_refl _,by rw[size_swp];exact hds,swap_world encU (by omega) (by omega) A3.out rfl rfl,?_⟩;rw[<- heq,sd_left_go ltInt dk (by omega) (fun _=>hL) hG]
   ·
    have h1z:decide (2*(root:Int)+1+1<(hi:Int))=false:=decide_eq_false (by omega)
    go_wp2_with fail
    go_big_quiet (first|(go_at_call 76;refine Calls.quiet_of_same (u64_cmp_Less_int _ _ _)))
    go_wp2_with fail
    revert nq;intro nq1;have hcw2:∀t,t<d.size->(wr.drewN nq1).cell? ⟨blk,off+t,none⟩=some (.int .u64 dk[t]!):=hcw;have hfw2:∀t,t<d.size->(wr.drewN nq1).frozen? ⟨blk,off+t,none⟩=false:=hfw;have A2:Aside (wr.drewN nq1=putRow encU (Sort.ahead w (n+nq1)) blk off dk):=drewN_world encU A.out nq1;clear hcw hfw A;generalize wr.drewN nq1=wr2 at hcw2 hfw2 A2 ⊢
    go_big_quiet (first|(go_at_call 76;refine Calls.quiet_of_same (u64_cmp_Less_int _ _ _)))
    go_wp2_with fail
    ·
     have hS:ltInt dk[first+root]! dk[first+2*root+1]! =false:=by
      have:(!ltInt dk[first+root]! dk[first+2*root+1]!)=true:=by assumption
      simpa using this
     (try simp only[Exit.inBlock,Exit.then]);refine bodyPost_ret (results_none rfl _ _ _) rfl ?_
     refine⟨rfl,n+nq1+nq,?_⟩;rw[drewN_world encU A2.out nq, <-heq,sd_left_stop ltInt dk (by omega) (fun h=>absurd h h1) hS]
    ·
     have hG:ltInt dk[first+root]! dk[first+2*root+1]! =true:=by
      have:(!ltInt dk[first+root]! dk[first+2*root+1]!)=false:=by assumption
      simpa using this
     have hcw3:∀t,t<d.size->(wr2.drewN nq).cell? ⟨blk,off+t,none⟩=some (.int .u64 dk[t]!):=hcw2;have hfw3:∀t,t<d.size->(wr2.drewN nq).frozen? ⟨blk,off+t,none⟩=false:=hfw2;have A3:Aside (wr2.drewN nq=putRow encU (Sort.ahead w (n+nq1+nq)) blk off dk):=drewN_world encU A2.out nq;clear hcw2 hfw2 A2;generalize wr2.drewN nq=wr3 at hcw3 hfw3 A3 ⊢
     go_region
     go_wp2
     go_roundg (hi-(2*root+1))
     case measure=>omega
     case rel=>
      refine⟨2*root+1,swp dk (first+root) (first+(2*root+1)),n+nq1+nq+1,by simp <;> omega,by omega,Nat.le_refl _,by rw[size_swp];exact hds,swap_world encU (by omega) (by omega) A3.out rfl rfl,?_⟩;rw[<- heq,sd_left_go ltInt dk (by omega) (fun h=>absurd h h1) hG]
theorem u64_heapSort_int(blk off len cap:Nat)(d:Array Int)(hlen:d.size=len)(a b:Nat)(w:World)(hH:Holds encU w blk off d)(hab:a<=b)(hb:b<=d.size)(hsz:d.size<4611686018427387904):
  Calls Tryz.prog 152 #[.slice (some ⟨blk,off,none⟩) len cap,.int .i64 a,.int .i64 b] w fun e w'=>e=.returned (.tuple #[])/\∃n,w'=putRow encU (Sort.ahead w n) blk off (heapSort ltInt d a b):=by
 subst hlen;have ecast:((b-a:Nat):Int)=(b:Int)-(a:Int):=by omega
 go_enter Tryz.func152,Tryz.ntmps152
 go_wp2
 go_loopg [9] ((b-a-1)/2+1) (fun k s9 wr=>s9=.int .i64 ((k:Int)-1)/\k<=(b-a-1)/2+1/\∃(dk:Array Int) (n:Nat),dk.size=d.size/\wr=putRow encU (Sort.ahead w n) blk off dk/\
  heapBuild ltInt (b-a) a k dk=heapBuild ltInt (b-a) a ((b-a-1)/2+1) d)
 case atStart=>exact⟨by rw[half_start hab],Nat.le_refl _,d,0,rfl,(putRow_self encU w blk off d hH).symm,rfl⟩
 case round=>
  obtain⟨rfl,hkk,dk,n,hds,hwr,heq⟩:=hrel;have hHk:Holds encU wr blk off dk:=by rw[hwr];exact holds_putRow encU _ blk off d dk (holds_ahead encU w n blk off d hH) hds
  have A:Aside (wr=putRow encU (Sort.ahead w n) blk off dk):=hwr;clear hwr;cases gk with
  |zero=>
   have hB:dk=heapBuild ltInt (b-a) a ((b-a-1)/2+1) d:=heq;clear heq hHk hkk;go_wp2
   go_loopg [10] (b-a) (fun k s10 wr2=>s10=.int .i64 ((k:Int)-1)/\k<=b-a/\∃(dj:Array Int) (n2:Nat),dj.size=d.size/\wr2=putRow encU (Sort.ahead w n2) blk off dj/\heapPop ltInt a k dj=heapPop ltInt a (b-a) dk)
   case atStart=>exact⟨by rw[ecast],Nat.le_refl _,dk,n,hds,A.out,rfl⟩
   case round=>
    obtain⟨rfl,hkk,dj,n2,hdj,hwr2,heq2⟩:=hrel;cases gk with
    |zero=>
     go_wp2
     go_end0
     refine⟨rfl,n2,?_⟩;have e:dj=heapSort ltInt d a b:=by rw[heapSort, <-hB, <-heq2];rfl
     rw[<- e]
    |succ k=>
     have hHj:Holds encU wr blk off dj:=by rw[hwr2];exact holds_putRow encU _ blk off d dj (holds_ahead encU w n2 blk off d hH) hdj
     have hcw:∀t,t<d.size->wr.cell? ⟨blk,off+t,none⟩=some (.int .u64 dj[t]!):=fun t ht=>(hHj t (by omega)).1
     have hfw:∀t,t<d.size->wr.frozen? ⟨blk,off+t,none⟩=false:=fun t ht=>(hHj t (by omega)).2
     have A2:Aside (wr=putRow encU (Sort.ahead w n2) blk off dj):=hwr2;clear hwr2 hHj;rcases Nat.eq_zero_or_pos k with hk0|hkp
     ·subst hk0
      go_wp2_with fail
      go_region
      go_wp2_with fail
      rw[swap_world encU (i:=a) (j:=a) (by omega) (by omega) A2.out rfl rfl];refine(u64_siftDown_int blk off d.size cap (swp dj a (a)) (by rw[size_swp];exact hdj) 0 0 a _ (holds_putRow encU _ blk off d _ (holds_ahead encU w (n2+1) blk off d hH) (by rw[size_swp];exact hdj)) (Nat.zero_le _) (by rw[size_swp];omega) (by rw[size_swp];omega)).mono ?_;rintro e w1 ⟨rfl,m,hw1⟩;go_wp2
      go_roundg 0
      case measure=>omega
      case rel=>
       refine⟨by simp,by omega,siftDown ltInt 0 a 0 (swp dj a (a)),n2+1+m,by rw[size_siftDown ltInt _ _ _ _ _ (Nat.le_refl _),size_swp];exact hdj,?_,heq2⟩
       first
        |rw[hw1,putRow_ahead_putRow encU w (n2+1) m blk off _ _ (size_siftDown ltInt _ _ _ _ _ (Nat.le_refl _))]
        |rw[putRow_ahead_putRow encU w (n2+1) m blk off _ _ (size_siftDown ltInt _ _ _ _ _ (Nat.le_refl _))]
     ·skip
      go_wp2_with fail
      go_region
      go_wp2_with fail
      rw[swap_world encU (i:=a) (j:=a+k) (by omega) (by omega) A2.out rfl rfl];refine(u64_siftDown_int blk off d.size cap (swp dj a (a+k)) (by rw[size_swp];exact hdj) 0 k a _ (holds_putRow encU _ blk off d _ (holds_ahead encU w (n2+1) blk off d hH) (by rw[size_swp];exact hdj)) (Nat.zero_le _) (by rw[size_swp];omega) (by rw[size_swp];omega)).mono ?_;rintro e w1 ⟨rfl,m,hw1⟩;go_wp2
      go_roundg k
      case measure=>omega
      case rel=>
       refine⟨by simp,by omega,siftDown ltInt k a 0 (swp dj a (a+k)),n2+1+m,by rw[size_siftDown ltInt _ _ _ _ _ (Nat.le_refl _),size_swp];exact hdj,?_,heq2⟩
       first
        |rw[hw1,putRow_ahead_putRow encU w (n2+1) m blk off _ _ (size_siftDown ltInt _ _ _ _ _ (Nat.le_refl _))]
        |rw[putRow_ahead_putRow encU w (n2+1) m blk off _ _ (size_siftDown ltInt _ _ _ _ _ (Nat.le_refl _))]
  |succ k=>
   have hcall:=u64_siftDown_int blk off d.size cap dk hds k (b-a) a wr hHk (by omega) (by omega) (by omega);rw[ecast]at hcall
   go_wp2_with(go_at_call 175;refine hcall.mono ?_;rintro e w1 ⟨rfl,m,hw1⟩)
   go_roundg k
   case measure=>omega
   case rel=>
    refine⟨by simp,by omega,siftDown ltInt (b-a) a k dk,n+m,by rw[size_siftDown ltInt _ _ _ _ _ (Nat.le_refl _)];exact hds,?_,heq⟩;rw[A.out,putRow_ahead_putRow encU w n m blk off dk _ (size_siftDown ltInt _ _ _ _ _ (Nat.le_refl _))]
theorem u64_partitionEqual_int(blk off cap a b pivot:Nat)(d:Array Int)(w:World)(hH:Holds (Value.int .u64) w blk off d)(hap:a<=pivot)(hpb:pivot<b)(hb:b<=d.size)(hsz:d.size<4611686018427387904):
  Calls Tryz.prog 157 #[.slice (some ⟨blk,off,none⟩) d.size cap,.int .i64 a,.int .i64 b,.int .i64 pivot] w fun e w'=>
   e=.returned (.int .i64 (Sort.partitionEqual Sort.ltInt d a b pivot).1)/\∃n,w'=(putRow (Value.int .u64) w blk off (Sort.partitionEqual Sort.ltInt d a b pivot).2).drewN n:=by
 have hla:a<d.size:=by omega
 have hlp:pivot<d.size:=by omega
 obtain⟨G,hG⟩:∃G:Nat->Int,∀j,G j=d[j]! :=⟨fun j=>d[j]!,fun _=>rfl⟩;have ca:w.cell? ⟨blk,off+a,none⟩=some (.int .u64 (G a)):=by rw[hG];exact(hH a hla).1
 have fa:=(hH a hla).2;have cp:w.cell? ⟨blk,off+pivot,none⟩=some (.int .u64 (G pivot)):=by rw[hG];exact(hH pivot hlp).1
 have fp:=(hH pivot hlp).2;obtain⟨v',hy'⟩:=cell?_setCell_some (w:=w) (p:=⟨blk,off+a,none⟩) (x:=.int .u64 (G pivot)) (q:=⟨blk,off+pivot,none⟩) cp;have AG:Hid (∀ j,G j=d[j]!):=hG;have AH:Hid (Holds (Value.int .u64) w blk off d):=hH;clear hG hH
 go_enter Tryz.func157,Tryz.ntmps157
 go_wp2
 go_region
 go_wp2
 go_loopw [9,10] (fun vi vj wr=>∃(i j n:Nat) (dk:Array Int),vi=.int .i64 i/\vj=.int .i64 j/\a<i/\i<=j+1/\j<b/\dk.size=d.size/\wr=(putRow (Value.int .u64) w blk off dk).drewN n/\
   Sort.partEqLoop Sort.ltInt a i j dk=Sort.partEqLoop Sort.ltInt a (a+1) (b-1) (Sort.swp d a pivot))
  (fun vi vj _=>(intOf vj).toNat+1-(intOf vi).toNat)
 case atStart=>
  refine⟨a+1,b-1,1,Sort.swp d a pivot,by go_num,by go_num,by omega,by omega,by omega,size_swp _ _ _,?_,rfl⟩;have e:=swap_worldC (Value.int .u64) w blk off d 0 a pivot hla hlp;rw[putRow_self _ w blk off d AH.out]at e;rw[AG.out a,AG.out pivot];exact e
 case round=>
  obtain⟨i,j,n,dk,rfl,rfl,hai,hij,hjb,hs,hw,heq⟩:=hrel;clear ca fa cp fp hy' v' AG
  rename World=>W1
  have hHk:Holds (Value.int .u64) W1 blk off dk:=by
   rw[hw];exact holds_putRow (Value.int .u64) w blk off d dk AH.out hs
  obtain⟨Gk,hG⟩:∃Gk:Nat->Int,∀t,Gk t=dk[t]! :=⟨fun t=>dk[t]!,fun _=>rfl⟩;have hc:∀t,t<d.size->W1.cell? ⟨blk,off+t,none⟩=some (.int .u64 (Gk t)):=fun t ht=>by rw[hG];exact(hHk t (by omega)).1
  have hf:∀t,t<d.size->W1.frozen? ⟨blk,off+t,none⟩=false:=fun t ht=>(hHk t (by omega)).2
  have AG:Hid (∀ t,Gk t=dk[t]!):=hG;have AW:Hid (W1=(putRow (Value.int .u64) w blk off dk).drewN n):=hw;have AE:Hid (Sort.partEqLoop Sort.ltInt a i j dk=Sort.partEqLoop Sort.ltInt a (a+1) (b-1) (Sort.swp d a pivot)):=heq;clear hG hw heq hHk;go_wp2
  go_loopw [9] (fun vi w1=>∃(i' n1:Nat),vi=.int .i64 i'/\i<=i'/\i'<=j+1/\w1=W1.drewN n1/\
    Hid (Sort.scanUp (fun x=> !Sort.ltInt dk[a]! x) dk j i'=Sort.scanUp (fun x=> !Sort.ltInt dk[a]! x) dk j i))
   (fun vi _=>j+1-(intOf vi).toNat)
  case atStart=>exact⟨i,0,rfl,Nat.le_refl _,hij,rfl,rfl⟩
  case round=>
   obtain⟨i',n1,rfl,hii,hij',hw1,hsc⟩:=hrel;have hcw:∀t,t<d.size->wr.cell? ⟨blk,off+t,none⟩=some (.int .u64 (Gk t)):=fun t ht=>by rw[hw1];exact hc t ht
   have HW1:Hid (wr=W1.drewN n1):=hw1;clear hw1;by_cases hle:i'<=j
   ·go_wp2_with fail
    go_big_quiet (first|(go_at_call 76;refine Calls.quiet_of_same (u64_cmp_Less_int _ _ _)))
    go_wp2
    ·
     have ht:(!Sort.ltInt (Gk a) (Gk i'))=true:=by assumption
     go_roundw
     case rel=>exact⟨i'+1,n1+nq,by go_num,by omega,by omega,by rw[HW1.out,World.drewN_drewN],(scanUp_go (fun x=> !Sort.ltInt dk[a]! x) dk j i' hle (by rw[<- AG.out a, <-AG.out i'];exact ht)).symm.trans hsc.out⟩
     case measure=>simp[intOf];omega
    ·
     have ht:(!Sort.ltInt (Gk a) (Gk i'))=false:=by assumption
     have hi2:Hid (i'=Sort.scanUp (fun x=> !Sort.ltInt dk[a]! x) dk j i):=(scanUp_end (fun x=> !Sort.ltInt dk[a]! x) dk j i' (Or.inr (by rw[<- AG.out a, <-AG.out i'];exact ht))).symm.trans hsc.out;clear ht;have hw2:wr.drewN nq=W1.drewN (n1+nq):=by rw[HW1.out,World.drewN_drewN]
     clear hcw HW1 hsc
     go_loopw [10] (fun vj w2=>∃(j' n2:Nat),vj=.int .i64 j'/\j'<=j/\i'<=j'+1/\w2=W1.drewN n2/\
       Hid (Sort.scanDown (fun x=>Sort.ltInt dk[a]! x) dk i' j'=Sort.scanDown (fun x=>Sort.ltInt dk[a]! x) dk i' j))
      (fun vj _=>(intOf vj).toNat)
     case atStart=>exact⟨j,n1+nq,rfl,Nat.le_refl _,hij',hw2,rfl⟩
     case round=>
      clear hw2;obtain⟨j',n2,rfl,hjj,hij2,hw2,hsd⟩:=hrel;have hcw:∀t,t<d.size->wr.cell? ⟨blk,off+t,none⟩=some (.int .u64 (Gk t)):=fun t ht=>by rw[hw2];exact hc t ht
      have HW2:Hid (wr=W1.drewN n2):=hw2;clear hw2;by_cases hle2:i'<=j'
      ·go_wp2_with fail
       go_big_quiet (first|(go_at_call 76;refine Calls.quiet_of_same (u64_cmp_Less_int _ _ _)))
       go_wp2
       ·
        have ht:Sort.ltInt (Gk a) (Gk j')=true:=by assumption
        go_roundw
        case rel=>exact⟨j'-1,n2+nq,by go_num,by omega,by omega,by rw[HW2.out,World.drewN_drewN],(scanDown_go (fun x=>Sort.ltInt dk[a]! x) dk i' j' hle2 (by omega) (by rw[<- AG.out a, <-AG.out j'];exact ht)).symm.trans hsd.out⟩
        case measure=>simp[intOf];omega
       ·
        have ht:Sort.ltInt (Gk a) (Gk j')=false:=by assumption
        have hj2:Hid (j'=Sort.scanDown (fun x=>Sort.ltInt dk[a]! x) dk i' j):=(scanDown_end (fun x=>Sort.ltInt dk[a]! x) dk i' j' (Or.inr (by rw[<- AG.out a, <-AG.out j'];exact ht))).symm.trans hsd.out;clear hcw hsd ht;have hw3:wr.drewN nq=W1.drewN (n2+nq):=by rw[HW2.out,World.drewN_drewN]
        generalize wr.drewN nq=W3 at hw3 ⊢;have hc3:∀t,t<d.size->W3.cell? ⟨blk,off+t,none⟩=some (.int .u64 (Gk t)):=fun t ht=>by rw[hw3];exact hc t ht
        have hf3:∀t,t<d.size->W3.frozen? ⟨blk,off+t,none⟩=false:=fun t ht=>by rw[hw3];exact hf t ht
        have HW3:Hid (W3=W1.drewN (n2+nq)):=hw3;clear hw3;obtain⟨v3,hy3⟩:=cell?_setCell_some (w:=W3) (p:=⟨blk,off+i',none⟩) (x:=.int .u64 (Gk j')) (q:=⟨blk,off+j',none⟩) (hc3 j' (by omega));have hlt3:=scans_lt Sort.ltInt a i j dk (by omega) hi2.out hj2.out hle2;go_wp2
        go_region
        all_goals go_wp2
        all_goals go_roundw
        case rel=>
         refine⟨i'+1,j'-1,n+(n2+nq)+1,Sort.swp dk i' j',by go_num,by go_num,by omega,by omega,by omega,by rw[size_swp];exact hs,?_,?_⟩
         ·rw[HW3.out,AW.out,World.drewN_drewN,AG.out i',AG.out j']
          exact swap_worldC (Value.int .u64) w blk off dk _ i' j' (by omega) (by omega)
         ·rw[<- AE.out];exact(partEq_go Sort.ltInt a i j dk hi2.out hj2.out (by omega)).symm
        case measure=>simp[intOf];omega
      ·go_wp2_with fail
       go_big_quiet (first|(go_at_call 76;refine Calls.quiet_of_same (u64_cmp_Less_int _ _ _)))
       have hj2:Hid (j'=Sort.scanDown (fun x=>Sort.ltInt dk[a]! x) dk i' j):=(scanDown_end (fun x=>Sort.ltInt dk[a]! x) dk i' j' (Or.inl hle2)).symm.trans hsd.out;clear hcw hsd;have hw3:wr.drewN nq=W1.drewN (n2+nq):=by rw[HW2.out,World.drewN_drewN]
       generalize wr.drewN nq=W3 at hw3 ⊢;have hc3:∀t,t<d.size->W3.cell? ⟨blk,off+t,none⟩=some (.int .u64 (Gk t)):=fun t ht=>by rw[hw3];exact hc t ht
       have hf3:∀t,t<d.size->W3.frozen? ⟨blk,off+t,none⟩=false:=fun t ht=>by rw[hw3];exact hf t ht
       have HW3:Hid (W3=W1.drewN (n2+nq)):=hw3;clear hw3;go_wp2;go_ret;have e:=partEq_break Sort.ltInt a i j dk hi2.out hj2.out (by omega);refine⟨?_,n+(n2+nq),?_⟩
       ·unfold Sort.partitionEqual;rw[<- AE.out,e];rfl
       ·unfold Sort.partitionEqual;rw[<- AE.out,e,HW3.out,AW.out,World.drewN_drewN]
   ·go_wp2_with fail
    go_big_quiet (first|(go_at_call 76;refine Calls.quiet_of_same (u64_cmp_Less_int _ _ _)))
    go_wp2;have hi2:Hid (i'=Sort.scanUp (fun x=> !Sort.ltInt dk[a]! x) dk j i):=(scanUp_end (fun x=> !Sort.ltInt dk[a]! x) dk j i' (Or.inl hle)).symm.trans hsc.out;have hw2:wr.drewN nq=W1.drewN (n1+nq):=by rw[HW1.out,World.drewN_drewN]
    clear hcw HW1 hsc
    go_loopw [10] (fun vj w2=>∃(j' n2:Nat),vj=.int .i64 j'/\j'<=j/\i'<=j'+1/\w2=W1.drewN n2/\
      Hid (Sort.scanDown (fun x=>Sort.ltInt dk[a]! x) dk i' j'=Sort.scanDown (fun x=>Sort.ltInt dk[a]! x) dk i' j))
     (fun vj _=>(intOf vj).toNat)
    case atStart=>exact⟨j,n1+nq,rfl,Nat.le_refl _,hij',hw2,rfl⟩
    case round=>
     clear hw2;obtain⟨j',n2,rfl,hjj,hij2,hw2,hsd⟩:=hrel;have hcw:∀t,t<d.size->wr.cell? ⟨blk,off+t,none⟩=some (.int .u64 (Gk t)):=fun t ht=>by rw[hw2];exact hc t ht
     have HW2:Hid (wr=W1.drewN n2):=hw2;clear hw2;by_cases hle2:i'<=j'
     ·exfalso;omega
     ·go_wp2_with fail
      go_big_quiet (first|(go_at_call 76;refine Calls.quiet_of_same (u64_cmp_Less_int _ _ _)))
      have hj2:Hid (j'=Sort.scanDown (fun x=>Sort.ltInt dk[a]! x) dk i' j):=(scanDown_end (fun x=>Sort.ltInt dk[a]! x) dk i' j' (Or.inl hle2)).symm.trans hsd.out;clear hcw hsd;have hw3:wr.drewN nq=W1.drewN (n2+nq):=by rw[HW2.out,World.drewN_drewN]
      generalize wr.drewN nq=W3 at hw3 ⊢;have hc3:∀t,t<d.size->W3.cell? ⟨blk,off+t,none⟩=some (.int .u64 (Gk t)):=fun t ht=>by rw[hw3];exact hc t ht
      have hf3:∀t,t<d.size->W3.frozen? ⟨blk,off+t,none⟩=false:=fun t ht=>by rw[hw3];exact hf t ht
      have HW3:Hid (W3=W1.drewN (n2+nq)):=hw3;clear hw3;go_wp2;go_ret;have e:=partEq_break Sort.ltInt a i j dk hi2.out hj2.out (by omega);refine⟨?_,n+(n2+nq),?_⟩
      ·unfold Sort.partitionEqual;rw[<- AE.out,e];rfl
      ·unfold Sort.partitionEqual;rw[<- AE.out,e,HW3.out,AW.out,World.drewN_drewN]
theorem u64_partitionEqualOrdered_int(blk off cap a b pivot:Nat)(d:Array Int)(w:World)(hH:Holds (Value.int .u64) w blk off d)(hap:a<=pivot)(hpb:pivot<b)(hb:b<=d.size)(hsz:d.size<4611686018427387904):
  Calls Tryz.prog 157 #[.slice (some ⟨blk,off,none⟩) d.size cap,.int .i64 a,.int .i64 b,.int .i64 pivot] w fun e w'=>
   e=.returned (.int .i64 (Sort.partitionEqual Sort.ltInt d a b pivot).1)/\∃n,w'=putRow (Value.int .u64) (Sort.ahead w n) blk off (Sort.partitionEqual Sort.ltInt d a b pivot).2:=
 (u64_partitionEqual_int blk off cap a b pivot d w hH hap hpb hb hsz).mono fun _ _ ⟨he,n,hw⟩=>⟨he,n,hw⟩
theorem u64_partition_int(blk off cap a b pivot:Nat)(d:Array Int)(w:World)(hH:Holds (Value.int .u64) w blk off d)(hap:a<=pivot)(hpb:pivot<b)(hb:b<=d.size)(hsz:d.size<4611686018427387904):
  Calls Tryz.prog 158 #[.slice (some ⟨blk,off,none⟩) d.size cap,.int .i64 a,.int .i64 b,.int .i64 pivot] w fun e w'=>
   e=.returned (.tuple #[.int .i64 (Sort.partition Sort.ltInt d a b pivot).1,.bool (Sort.partition Sort.ltInt d a b pivot).2.1])/\∃n,w'=(putRow (Value.int .u64) w blk off (Sort.partition Sort.ltInt d a b pivot).2.2).drewN n:=by
 have hla:a<d.size:=by omega
 have hlp:pivot<d.size:=by omega
 obtain⟨G,hG⟩:∃G:Nat->Int,∀j,G j=d[j]! :=⟨fun j=>d[j]!,fun _=>rfl⟩;have ca:w.cell? ⟨blk,off+a,none⟩=some (.int .u64 (G a)):=by rw[hG];exact(hH a hla).1
 have fa:=(hH a hla).2;have cp:w.cell? ⟨blk,off+pivot,none⟩=some (.int .u64 (G pivot)):=by rw[hG];exact(hH pivot hlp).1
 have fp:=(hH pivot hlp).2;obtain⟨v',hy'⟩:=cell?_setCell_some (w:=w) (p:=⟨blk,off+a,none⟩) (x:=.int .u64 (G pivot)) (q:=⟨blk,off+pivot,none⟩) cp;have hw:((w.setCell ⟨blk,off+a,none⟩ (.int .u64 (G pivot))).setCell ⟨blk,off+pivot,none⟩ (.int .u64 (G a))).drew=(putRow (Value.int .u64) w blk off (Sort.swp d a pivot)).drewN 1:=by
  have e:=swap_worldC (Value.int .u64) w blk off d 0 a pivot hla hlp;rw[putRow_self _ w blk off d hH]at e;rw[hG a,hG pivot];exact e
 have AH:Hid (Holds (Value.int .u64) w blk off d):=hH;have HW0:=Hid.mk' hw;clear hG hH hw
 go_enter Tryz.func158,Tryz.ntmps158
 go_wp2
 go_region
 go_wp2;clear ca fa cp fp hy' v';have hw:=HW0.out;clear HW0;generalize((w.setCell ⟨blk,off+a,none⟩ (.int .u64 (G pivot))).setCell ⟨blk,off+pivot,none⟩ (.int .u64 (G a))).drew=W1 at hw ⊢;obtain⟨dk,hdk⟩:∃dk,dk=Sort.swp d a pivot:=⟨_,rfl⟩;obtain⟨n,hn⟩:∃n:Nat,n=1:=⟨_,rfl⟩;rw[<- hdk, <-hn]at hw;clear hn;have hs:dk.size=d.size:=by rw[hdk,size_swp]
 have e1:((a:Int)+1)=((a+1:Nat):Int):=by omega
 have e2:((b:Int)-1)=((b-1:Nat):Int):=by omega
 rw[e1,e2];clear e1 e2;obtain⟨i,hi⟩:∃i,i=a+1:=⟨_,rfl⟩;obtain⟨j,hj⟩:∃j,j=b-1:=⟨_,rfl⟩;rw[<- hi, <-hj];have hai:a<i:=by omega
 have hij:i<=j+1:=by omega
 have hjb:j<b:=by omega
 have HI:=Hid.mk' hi;have HJ:=Hid.mk' hj;have HDK:=Hid.mk' hdk;clear hi hj hdk;have hHk:Holds (Value.int .u64) W1 blk off dk:=by
  rw[hw];exact holds_putRow (Value.int .u64) w blk off d dk AH.out hs
 obtain⟨Gk,hG⟩:∃Gk:Nat->Int,∀t,Gk t=dk[t]! :=⟨fun t=>dk[t]!,fun _=>rfl⟩;have hc:∀t,t<d.size->W1.cell? ⟨blk,off+t,none⟩=some (.int .u64 (Gk t)):=fun t ht=>by rw[hG];exact(hHk t (by omega)).1
 have hf:∀t,t<d.size->W1.frozen? ⟨blk,off+t,none⟩=false:=fun t ht=>(hHk t (by omega)).2
 have AG:Hid (∀ t,Gk t=dk[t]!):=hG;have AW:Hid (W1=(putRow (Value.int .u64) w blk off dk).drewN n):=hw;clear hG hw hHk
 go_loopw [10] (fun vi w1=>∃(i' n1:Nat),vi=.int .i64 i'/\i<=i'/\i'<=j+1/\w1=W1.drewN n1/\
   Hid (Sort.scanUp (fun x=>Sort.ltInt x dk[a]!) dk j i'=Sort.scanUp (fun x=>Sort.ltInt x dk[a]!) dk j i))
  (fun vi _=>j+1-(intOf vi).toNat)
 case atStart=>exact⟨i,0,rfl,Nat.le_refl _,hij,rfl,rfl⟩
 case round=>
  obtain⟨i',n1,rfl,hii,hij',hw1,hsc⟩:=hrel;have hcw:∀t,t<d.size->wr.cell? ⟨blk,off+t,none⟩=some (.int .u64 (Gk t)):=fun t ht=>by rw[hw1];exact hc t ht
  have HW1:Hid (wr=W1.drewN n1):=hw1;clear hw1;by_cases hle:i'<=j
  ·go_wp2_with fail
   go_big_quiet (first|(go_at_call 76;refine Calls.quiet_of_same (u64_cmp_Less_int _ _ _)))
   go_wp2
   ·
    have ht:Sort.ltInt (Gk i') (Gk a)=true:=by assumption
    go_roundw
    case rel=>exact⟨i'+1,n1+nq,by go_num,by omega,by omega,by rw[HW1.out,World.drewN_drewN],(scanUp_go (fun x=>Sort.ltInt x dk[a]!) dk j i' hle (by rw[<- AG.out a, <-AG.out i'];exact ht)).symm.trans hsc.out⟩
    case measure=>simp[intOf];omega
   ·
    have ht:Sort.ltInt (Gk i') (Gk a)=false:=by assumption
    have hi2:Hid (i'=Sort.scanUp (fun x=>Sort.ltInt x dk[a]!) dk j i):=(scanUp_end (fun x=>Sort.ltInt x dk[a]!) dk j i' (Or.inr (by rw[<- AG.out a, <-AG.out i'];exact ht))).symm.trans hsc.out;clear ht;have hw2:wr.drewN nq=W1.drewN (n1+nq):=by rw[HW1.out,World.drewN_drewN]
    clear hcw HW1 hsc
    go_loopw [11] (fun vj w2=>∃(j' n2:Nat),vj=.int .i64 j'/\j'<=j/\i'<=j'+1/\w2=W1.drewN n2/\
      Hid (Sort.scanDown (fun x=> !Sort.ltInt x dk[a]!) dk i' j'=Sort.scanDown (fun x=> !Sort.ltInt x dk[a]!) dk i' j))
     (fun vj _=>(intOf vj).toNat)
    case atStart=>exact⟨j,n1+nq,rfl,Nat.le_refl _,hij',hw2,rfl⟩
    case round=>
     clear hw2;obtain⟨j',n2,rfl,hjj,hij2,hw2,hsd⟩:=hrel;have hcw:∀t,t<d.size->wr.cell? ⟨blk,off+t,none⟩=some (.int .u64 (Gk t)):=fun t ht=>by rw[hw2];exact hc t ht
     have HW2:Hid (wr=W1.drewN n2):=hw2;clear hw2;by_cases hle2:i'<=j'
     ·go_wp2_with fail
      go_big_quiet (first|(go_at_call 76;refine Calls.quiet_of_same (u64_cmp_Less_int _ _ _)))
      go_wp2
      ·
       have ht:(!Sort.ltInt (Gk j') (Gk a))=true:=by assumption
       go_roundw
       case rel=>exact⟨j'-1,n2+nq,by go_num,by omega,by omega,by rw[HW2.out,World.drewN_drewN],(scanDown_go (fun x=> !Sort.ltInt x dk[a]!) dk i' j' hle2 (by omega) (by rw[<- AG.out a, <-AG.out j'];exact ht)).symm.trans hsd.out⟩
       case measure=>simp[intOf];omega
      ·
       have ht:(!Sort.ltInt (Gk j') (Gk a))=false:=by assumption
       have hj2:Hid (j'=Sort.scanDown (fun x=> !Sort.ltInt x dk[a]!) dk i' j):=(scanDown_end (fun x=> !Sort.ltInt x dk[a]!) dk i' j' (Or.inr (by rw[<- AG.out a, <-AG.out j'];exact ht))).symm.trans hsd.out;clear hcw hsd ht;have hw3:wr.drewN nq=W1.drewN (n2+nq):=by rw[HW2.out,World.drewN_drewN]
       generalize wr.drewN nq=W3 at hw3 ⊢;have hc3:∀t,t<d.size->W3.cell? ⟨blk,off+t,none⟩=some (.int .u64 (Gk t)):=fun t ht=>by rw[hw3];exact hc t ht
       have hf3:∀t,t<d.size->W3.frozen? ⟨blk,off+t,none⟩=false:=fun t ht=>by rw[hw3];exact hf t ht
       have HW3:Hid (W3=W1.drewN (n2+nq)):=hw3;clear hw3;obtain⟨v3,hy3⟩:=cell?_setCell_some (w:=W3) (p:=⟨blk,off+i',none⟩) (x:=.int .u64 (Gk j')) (q:=⟨blk,off+j',none⟩) (hc3 j' (by omega));have hlt3:=part_scans_lt Sort.ltInt a i j dk (by omega) hi2.out hj2.out hle2;go_wp2
       go_region
       all_goals go_wp2
       obtain⟨R,hR⟩:∃R,R=Sort.partLoop Sort.ltInt a (i'+1) (j'-1) (Sort.swp dk i' j'):=⟨_,rfl⟩;have HP:Hid (Sort.partition Sort.ltInt d a b pivot=(R.1,false,Sort.swp R.2 R.1 a)):=by rw[hR];exact part_first_go Sort.ltInt d a b pivot HI.out HJ.out HDK.out hi2.out hj2.out (by omega)
       have hw0:((W3.setCell ⟨blk,off+i',none⟩ (.int .u64 (Gk j'))).setCell ⟨blk,off+j',none⟩ (.int .u64 (Gk i'))).drew=(putRow (Value.int .u64) w blk off (Sort.swp dk i' j')).drewN (n+(n2+nq)+1):=by
        rw[HW3.out,AW.out,World.drewN_drewN,AG.out i',AG.out j'];exact swap_worldC (Value.int .u64) w blk off dk _ i' j' (by omega) (by omega)
       have HR:Hid (R=Sort.partLoop Sort.ltInt a (i'+1) (j'-1) (Sort.swp dk i' j')):=hR;clear hR hc hf hc3 hf3 hy3 HW3 AW AG hi2 hj2
       go_loopw [10,11] (fun vi vj wr=>∃(i j n:Nat) (dk:Array Int),vi=.int .i64 i/\vj=.int .i64 j/\a<i/\i<=j+1/\j<b/\dk.size=d.size/\wr=(putRow (Value.int .u64) w blk off dk).drewN n/\
         Sort.partLoop Sort.ltInt a i j dk=R)
        (fun vi vj _=>(intOf vj).toNat+1-(intOf vi).toNat)
       case atStart=>exact⟨i'+1,j'-1,_,Sort.swp dk i' j',by go_num,by go_num,by omega,by omega,by omega,by rw[size_swp];exact hs,hw0,HR.out.symm⟩
       case round=>
        clear hw0 HR;obtain⟨i,j,n,dk,rfl,rfl,hai,hij,hjb,hs,hw,heq⟩:=hrel
        rename World=>W1
        have AE:Hid (Sort.partLoop Sort.ltInt a i j dk=R):=heq;clear heq;have hHk:Holds (Value.int .u64) W1 blk off dk:=by
         rw[hw];exact holds_putRow (Value.int .u64) w blk off d dk AH.out hs
        obtain⟨Gk,hG⟩:∃Gk:Nat->Int,∀t,Gk t=dk[t]! :=⟨fun t=>dk[t]!,fun _=>rfl⟩;have hc:∀t,t<d.size->W1.cell? ⟨blk,off+t,none⟩=some (.int .u64 (Gk t)):=fun t ht=>by rw[hG];exact(hHk t (by omega)).1
        have hf:∀t,t<d.size->W1.frozen? ⟨blk,off+t,none⟩=false:=fun t ht=>(hHk t (by omega)).2
        have AG:Hid (∀ t,Gk t=dk[t]!):=hG;have AW:Hid (W1=(putRow (Value.int .u64) w blk off dk).drewN n):=hw;clear hG hw hHk;go_wp2
        go_loopw [10] (fun vi w1=>∃(i' n1:Nat),vi=.int .i64 i'/\i<=i'/\i'<=j+1/\w1=W1.drewN n1/\
          Hid (Sort.scanUp (fun x=>Sort.ltInt x dk[a]!) dk j i'=Sort.scanUp (fun x=>Sort.ltInt x dk[a]!) dk j i))
         (fun vi _=>j+1-(intOf vi).toNat)
        case atStart=>exact⟨i,0,rfl,Nat.le_refl _,hij,rfl,rfl⟩
        case round=>
         obtain⟨i',n1,rfl,hii,hij',hw1,hsc⟩:=hrel;have hcw:∀t,t<d.size->wr.cell? ⟨blk,off+t,none⟩=some (.int .u64 (Gk t)):=fun t ht=>by rw[hw1];exact hc t ht
         have HW1:Hid (wr=W1.drewN n1):=hw1;clear hw1;by_cases hle:i'<=j
         ·go_wp2_with fail
          go_big_quiet (first|(go_at_call 76;refine Calls.quiet_of_same (u64_cmp_Less_int _ _ _)))
          go_wp2
          ·
           have ht:Sort.ltInt (Gk i') (Gk a)=true:=by assumption
           go_roundw
           case rel=>exact⟨i'+1,n1+nq,by go_num,by omega,by omega,by rw[HW1.out,World.drewN_drewN],(scanUp_go (fun x=>Sort.ltInt x dk[a]!) dk j i' hle (by rw[<- AG.out a, <-AG.out i'];exact ht)).symm.trans hsc.out⟩
           case measure=>simp[intOf];omega
          ·
           have ht:Sort.ltInt (Gk i') (Gk a)=false:=by assumption
           have hi2:Hid (i'=Sort.scanUp (fun x=>Sort.ltInt x dk[a]!) dk j i):=(scanUp_end (fun x=>Sort.ltInt x dk[a]!) dk j i' (Or.inr (by rw[<- AG.out a, <-AG.out i'];exact ht))).symm.trans hsc.out;clear ht;have hw2:wr.drewN nq=W1.drewN (n1+nq):=by rw[HW1.out,World.drewN_drewN]
           clear hcw HW1 hsc
           go_loopw [11] (fun vj w2=>∃(j' n2:Nat),vj=.int .i64 j'/\j'<=j/\i'<=j'+1/\w2=W1.drewN n2/\
             Hid (Sort.scanDown (fun x=> !Sort.ltInt x dk[a]!) dk i' j'=Sort.scanDown (fun x=> !Sort.ltInt x dk[a]!) dk i' j))
            (fun vj _=>(intOf vj).toNat)
           case atStart=>exact⟨j,n1+nq,rfl,Nat.le_refl _,hij',hw2,rfl⟩
           case round=>
            clear hw2;obtain⟨j',n2,rfl,hjj,hij2,hw2,hsd⟩:=hrel;have hcw:∀t,t<d.size->wr.cell? ⟨blk,off+t,none⟩=some (.int .u64 (Gk t)):=fun t ht=>by rw[hw2];exact hc t ht
            have HW2:Hid (wr=W1.drewN n2):=hw2;clear hw2;by_cases hle2:i'<=j'
            ·go_wp2_with fail
             go_big_quiet (first|(go_at_call 76;refine Calls.quiet_of_same (u64_cmp_Less_int _ _ _)))
             go_wp2
             ·
              have ht:(!Sort.ltInt (Gk j') (Gk a))=true:=by assumption
              go_roundw
              case rel=>exact⟨j'-1,n2+nq,by go_num,by omega,by omega,by rw[HW2.out,World.drewN_drewN],(scanDown_go (fun x=> !Sort.ltInt x dk[a]!) dk i' j' hle2 (by omega) (by rw[<- AG.out a, <-AG.out j'];exact ht)).symm.trans hsd.out⟩
              case measure=>simp[intOf];omega
             ·
              have ht:(!Sort.ltInt (Gk j') (Gk a))=false:=by assumption
              have hj2:Hid (j'=Sort.scanDown (fun x=> !Sort.ltInt x dk[a]!) dk i' j):=(scanDown_end (fun x=> !Sort.ltInt x dk[a]!) dk i' j' (Or.inr (by rw[<- AG.out a, <-AG.out j'];exact ht))).symm.trans hsd.out;clear hcw hsd ht;have hw3:wr.drewN nq=W1.drewN (n2+nq):=by rw[HW2.out,World.drewN_drewN]
              generalize wr.drewN nq=W3 at hw3 ⊢;have hc3:∀t,t<d.size->W3.cell? ⟨blk,off+t,none⟩=some (.int .u64 (Gk t)):=fun t ht=>by rw[hw3];exact hc t ht
              have hf3:∀t,t<d.size->W3.frozen? ⟨blk,off+t,none⟩=false:=fun t ht=>by rw[hw3];exact hf t ht
              have HW3:Hid (W3=W1.drewN (n2+nq)):=hw3;clear hw3;obtain⟨v3,hy3⟩:=cell?_setCell_some (w:=W3) (p:=⟨blk,off+i',none⟩) (x:=.int .u64 (Gk j')) (q:=⟨blk,off+j',none⟩) (hc3 j' (by omega));have hlt3:=part_scans_lt Sort.ltInt a i j dk (by omega) hi2.out hj2.out hle2;go_wp2
              go_region
              all_goals go_wp2
              all_goals go_roundw
              case rel=>
               refine⟨i'+1,j'-1,n+(n2+nq)+1,Sort.swp dk i' j',by go_num,by go_num,by omega,by omega,by omega,by rw[size_swp];exact hs,?_,?_⟩
               ·rw[HW3.out,AW.out,World.drewN_drewN,AG.out i',AG.out j']
                exact swap_worldC (Value.int .u64) w blk off dk _ i' j' (by omega) (by omega)
               ·exact(part_go Sort.ltInt a i j dk hi2.out hj2.out (by omega)).symm.trans AE.out
              case measure=>simp[intOf];omega
            ·go_wp2_with fail
             go_big_quiet (first|(go_at_call 76;refine Calls.quiet_of_same (u64_cmp_Less_int _ _ _)))
             have hj2:Hid (j'=Sort.scanDown (fun x=> !Sort.ltInt x dk[a]!) dk i' j):=(scanDown_end (fun x=> !Sort.ltInt x dk[a]!) dk i' j' (Or.inl hle2)).symm.trans hsd.out;clear hcw hsd;have hw3:wr.drewN nq=W1.drewN (n2+nq):=by rw[HW2.out,World.drewN_drewN]
             generalize wr.drewN nq=W3 at hw3 ⊢;have hc3:∀t,t<d.size->W3.cell? ⟨blk,off+t,none⟩=some (.int .u64 (Gk t)):=fun t ht=>by rw[hw3];exact hc t ht
             have hf3:∀t,t<d.size->W3.frozen? ⟨blk,off+t,none⟩=false:=fun t ht=>by rw[hw3];exact hf t ht
             have HW3:Hid (W3=W1.drewN (n2+nq)):=hw3;clear hw3;obtain⟨v3,hy3⟩:=cell?_setCell_some (w:=W3) (p:=⟨blk,off+j',none⟩) (x:=.int .u64 (Gk a)) (q:=⟨blk,off+a,none⟩) (hc3 a (by omega));have hlj:j'<d.size:=by omega
             go_wp2
             go_region
             all_goals go_wp2
             all_goals go_ret2
             have e:Sort.partition Sort.ltInt d a b pivot=(j',false,Sort.swp dk j' a):=by
              have e0:=(part_break Sort.ltInt a i j dk hi2.out hj2.out (by omega)).symm.trans AE.out;rw[HP.out, <-e0]
             refine⟨?_,n+(n2+nq)+1,?_⟩
             ·rw[e];rfl
             ·rw[e,HW3.out,AW.out,World.drewN_drewN,AG.out a,AG.out j']
              exact swap_worldC (Value.int .u64) w blk off dk _ j' a (by omega) (by omega)
         ·go_wp2_with fail
          go_big_quiet (first|(go_at_call 76;refine Calls.quiet_of_same (u64_cmp_Less_int _ _ _)))
          go_wp2;have hi2:Hid (i'=Sort.scanUp (fun x=>Sort.ltInt x dk[a]!) dk j i):=(scanUp_end (fun x=>Sort.ltInt x dk[a]!) dk j i' (Or.inl hle)).symm.trans hsc.out;have hw2:wr.drewN nq=W1.drewN (n1+nq):=by rw[HW1.out,World.drewN_drewN]
          clear hcw HW1 hsc
          go_loopw [11] (fun vj w2=>∃(j' n2:Nat),vj=.int .i64 j'/\j'<=j/\i'<=j'+1/\w2=W1.drewN n2/\
            Hid (Sort.scanDown (fun x=> !Sort.ltInt x dk[a]!) dk i' j'=Sort.scanDown (fun x=> !Sort.ltInt x dk[a]!) dk i' j))
           (fun vj _=>(intOf vj).toNat)
          case atStart=>exact⟨j,n1+nq,rfl,Nat.le_refl _,hij',hw2,rfl⟩
          case round=>
           clear hw2;obtain⟨j',n2,rfl,hjj,hij2,hw2,hsd⟩:=hrel;have hcw:∀t,t<d.size->wr.cell? ⟨blk,off+t,none⟩=some (.int .u64 (Gk t)):=fun t ht=>by rw[hw2];exact hc t ht
           have HW2:Hid (wr=W1.drewN n2):=hw2;clear hw2;by_cases hle2:i'<=j'
           ·exfalso;omega
           ·go_wp2_with fail
            go_big_quiet (first|(go_at_call 76;refine Calls.quiet_of_same (u64_cmp_Less_int _ _ _)))
            have hj2:Hid (j'=Sort.scanDown (fun x=> !Sort.ltInt x dk[a]!) dk i' j):=(scanDown_end (fun x=> !Sort.ltInt x dk[a]!) dk i' j' (Or.inl hle2)).symm.trans hsd.out;clear hcw hsd;have hw3:wr.drewN nq=W1.drewN (n2+nq):=by rw[HW2.out,World.drewN_drewN]
            generalize wr.drewN nq=W3 at hw3 ⊢;have hc3:∀t,t<d.size->W3.cell? ⟨blk,off+t,none⟩=some (.int .u64 (Gk t)):=fun t ht=>by rw[hw3];exact hc t ht
            have hf3:∀t,t<d.size->W3.frozen? ⟨blk,off+t,none⟩=false:=fun t ht=>by rw[hw3];exact hf t ht
            have HW3:Hid (W3=W1.drewN (n2+nq)):=hw3;clear hw3;obtain⟨v3,hy3⟩:=cell?_setCell_some (w:=W3) (p:=⟨blk,off+j',none⟩) (x:=.int .u64 (Gk a)) (q:=⟨blk,off+a,none⟩) (hc3 a (by omega));have hlj:j'<d.size:=by omega
            go_wp2
            go_region
            all_goals go_wp2
            all_goals go_ret2
            have e:Sort.partition Sort.ltInt d a b pivot=(j',false,Sort.swp dk j' a):=by
             have e0:=(part_break Sort.ltInt a i j dk hi2.out hj2.out (by omega)).symm.trans AE.out;rw[HP.out, <-e0]
            refine⟨?_,n+(n2+nq)+1,?_⟩
            ·rw[e];rfl
            ·rw[e,HW3.out,AW.out,World.drewN_drewN,AG.out a,AG.out j']
             exact swap_worldC (Value.int .u64) w blk off dk _ j' a (by omega) (by omega)
     ·go_wp2_with fail
      go_big_quiet (first|(go_at_call 76;refine Calls.quiet_of_same (u64_cmp_Less_int _ _ _)))
      have hj2:Hid (j'=Sort.scanDown (fun x=> !Sort.ltInt x dk[a]!) dk i' j):=(scanDown_end (fun x=> !Sort.ltInt x dk[a]!) dk i' j' (Or.inl hle2)).symm.trans hsd.out;clear hcw hsd;have hw3:wr.drewN nq=W1.drewN (n2+nq):=by rw[HW2.out,World.drewN_drewN]
      generalize wr.drewN nq=W3 at hw3 ⊢;have hc3:∀t,t<d.size->W3.cell? ⟨blk,off+t,none⟩=some (.int .u64 (Gk t)):=fun t ht=>by rw[hw3];exact hc t ht
      have hf3:∀t,t<d.size->W3.frozen? ⟨blk,off+t,none⟩=false:=fun t ht=>by rw[hw3];exact hf t ht
      have HW3:Hid (W3=W1.drewN (n2+nq)):=hw3;clear hw3;obtain⟨v3,hy3⟩:=cell?_setCell_some (w:=W3) (p:=⟨blk,off+j',none⟩) (x:=.int .u64 (Gk a)) (q:=⟨blk,off+a,none⟩) (hc3 a (by omega));have hlj:j'<d.size:=by omega
      go_wp2
      go_region
      all_goals go_wp2
      all_goals go_ret2
      have e:Sort.partition Sort.ltInt d a b pivot=(j',true,Sort.swp dk j' a):=part_first_break Sort.ltInt d a b pivot HI.out HJ.out HDK.out hi2.out hj2.out (by omega);refine⟨?_,n+(n2+nq)+1,?_⟩
      ·rw[e];rfl
      ·rw[e,HW3.out,AW.out,World.drewN_drewN,AG.out a,AG.out j']
       exact swap_worldC (Value.int .u64) w blk off dk _ j' a (by omega) (by omega)
  ·go_wp2_with fail
   go_big_quiet (first|(go_at_call 76;refine Calls.quiet_of_same (u64_cmp_Less_int _ _ _)))
   go_wp2;have hi2:Hid (i'=Sort.scanUp (fun x=>Sort.ltInt x dk[a]!) dk j i):=(scanUp_end (fun x=>Sort.ltInt x dk[a]!) dk j i' (Or.inl hle)).symm.trans hsc.out;have hw2:wr.drewN nq=W1.drewN (n1+nq):=by rw[HW1.out,World.drewN_drewN]
   clear hcw HW1 hsc
   go_loopw [11] (fun vj w2=>∃(j' n2:Nat),vj=.int .i64 j'/\j'<=j/\i'<=j'+1/\w2=W1.drewN n2/\
     Hid (Sort.scanDown (fun x=> !Sort.ltInt x dk[a]!) dk i' j'=Sort.scanDown (fun x=> !Sort.ltInt x dk[a]!) dk i' j))
    (fun vj _=>(intOf vj).toNat)
   case atStart=>exact⟨j,n1+nq,rfl,Nat.le_refl _,hij',hw2,rfl⟩
   case round=>
    clear hw2;obtain⟨j',n2,rfl,hjj,hij2,hw2,hsd⟩:=hrel;have hcw:∀t,t<d.size->wr.cell? ⟨blk,off+t,none⟩=some (.int .u64 (Gk t)):=fun t ht=>by rw[hw2];exact hc t ht
    have HW2:Hid (wr=W1.drewN n2):=hw2;clear hw2;by_cases hle2:i'<=j'
    ·exfalso;omega
    ·go_wp2_with fail
     go_big_quiet (first|(go_at_call 76;refine Calls.quiet_of_same (u64_cmp_Less_int _ _ _)))
     have hj2:Hid (j'=Sort.scanDown (fun x=> !Sort.ltInt x dk[a]!) dk i' j):=(scanDown_end (fun x=> !Sort.ltInt x dk[a]!) dk i' j' (Or.inl hle2)).symm.trans hsd.out;clear hcw hsd;have hw3:wr.drewN nq=W1.drewN (n2+nq):=by rw[HW2.out,World.drewN_drewN]
     generalize wr.drewN nq=W3 at hw3 ⊢;have hc3:∀t,t<d.size->W3.cell? ⟨blk,off+t,none⟩=some (.int .u64 (Gk t)):=fun t ht=>by rw[hw3];exact hc t ht
     have hf3:∀t,t<d.size->W3.frozen? ⟨blk,off+t,none⟩=false:=fun t ht=>by rw[hw3];exact hf t ht
     have HW3:Hid (W3=W1.drewN (n2+nq)):=hw3;clear hw3;obtain⟨v3,hy3⟩:=cell?_setCell_some (w:=W3) (p:=⟨blk,off+j',none⟩) (x:=.int .u64 (Gk a)) (q:=⟨blk,off+a,none⟩) (hc3 a (by omega));have hlj:j'<d.size:=by omega
     go_wp2
     go_region
     all_goals go_wp2
     all_goals go_ret2
     have e:Sort.partition Sort.ltInt d a b pivot=(j',true,Sort.swp dk j' a):=part_first_break Sort.ltInt d a b pivot HI.out HJ.out HDK.out hi2.out hj2.out (by omega);refine⟨?_,n+(n2+nq)+1,?_⟩
     ·rw[e];rfl
     ·rw[e,HW3.out,AW.out,World.drewN_drewN,AG.out a,AG.out j']
      exact swap_worldC (Value.int .u64) w blk off dk _ j' a (by omega) (by omega)
theorem u64_partitionOrdered_int(blk off cap a b pivot:Nat)(d:Array Int)(w:World)(hH:Holds (Value.int .u64) w blk off d)(hap:a<=pivot)(hpb:pivot<b)(hb:b<=d.size)(hsz:d.size<4611686018427387904):
  Calls Tryz.prog 158 #[.slice (some ⟨blk,off,none⟩) d.size cap,.int .i64 a,.int .i64 b,.int .i64 pivot] w fun e w'=>
   e=.returned (.tuple #[.int .i64 (Sort.partition Sort.ltInt d a b pivot).1,.bool (Sort.partition Sort.ltInt d a b pivot).2.1])/\∃n,w'=putRow (Value.int .u64) (Sort.ahead w n) blk off (Sort.partition Sort.ltInt d a b pivot).2.2:=
 (u64_partition_int blk off cap a b pivot d w hH hap hpb hb hsz).mono fun _ _ ⟨he,n,hw⟩=>⟨he,n,hw⟩
theorem holds_asideU{w:World}{blk off sb so n t:Nat}{d:Array Int}(h:Holds (Value.int .u64) w blk off d)(hne:sb≠blk):Holds (Value.int .u64) (putRow (Value.int .i64) (Sort.ahead w n) sb so (one t)) blk off d:=fun j hj=>
 ⟨by rw[cell?_putRow_other _ _ _ _ _ _ (Or.inl (Ne.symm hne))];exact(h j hj).1,by rw[frozen?_putRow];exact(h j hj).2⟩
theorem u64_order2_int(d:Array Int)(len:Nat)(hlen:d.size=len)(blk off cap a b sb so s:Nat)(w:World)(hH:Holds (Value.int .u64) w blk off d)(ha:a<d.size)(hb:b<d.size)
  (hS:Holds (Value.int .i64) w sb so (one s)) (hs:s<2 ^ 62):
  Calls Tryz.prog 184 #[.slice (some ⟨blk,off,none⟩) len cap,.int .i64 a,.int .i64 b,.pointer (some ⟨sb,so,none⟩)] w fun e w'=>
   e=.returned (.tuple #[.int .i64 (order2 ltInt d a b s).1,.int .i64 (order2 ltInt d a b s).2.1])/\∃n,w'=putRow (Value.int .i64) (Sort.ahead w n) sb so (one (order2 ltInt d a b s).2.2):=by
 subst hlen;replace hs:s<4611686018427387904:=by omega
 have ca:=(hH a ha).1;have cb:=(hH b hb).1;obtain⟨cs,fs⟩:=one_cell hS;have ea:d[a]! =d[a]:=getElem!_pos d a ha;have eb:d[b]! =d[b]:=getElem!_pos d b hb
 go_enter Tryz.func184,Tryz.ntmps184
 go_wp2
 go_region_with (go_at_call 76;refine(u64_cmp_Less_int _ _ _).mono ?_;rintro e w' ⟨rfl,rfl⟩)
 all_goals(try go_wp2)
 all_goals first
  |(
    have hlt:ltInt d[b] d[a]=true:=by assumption
    have e2:order2 ltInt d a b s=(b,a,s+1):=by simp[order2,ea,eb,hlt]
    go_ret2;rw[e2];refine⟨rfl,1,?_⟩;rw[putRow_ahead, <-one_set hS (s+1)];simp[drew_eq_ahead])
  |(
    have hlt:ltInt d[b] d[a]=false:=by assumption
    have e2:order2 ltInt d a b s=(a,b,s):=by simp[order2,ea,eb,hlt]
    go_ret2;rw[e2];refine⟨rfl,1,?_⟩;rw[putRow_ahead,putRow_self _ _ _ _ _ hS]
    rfl)
theorem u64_median_int(d:Array Int)(len:Nat)(hlen:d.size=len)(blk off cap a b c sb so s:Nat)(w:World)(hH:Holds (Value.int .u64) w blk off d)(ha:a<d.size)(hb:b<d.size)(hc:c<d.size)(hne:sb≠blk)
  (hS:Holds (Value.int .i64) w sb so (one s)) (hs:s+3<2 ^ 62):
  Calls Tryz.prog 179 #[.slice (some ⟨blk,off,none⟩) len cap,.int .i64 a,.int .i64 b,.int .i64 c,.pointer (some ⟨sb,so,none⟩)] w fun e w'=>
   e=.returned (.int .i64 (median ltInt d a b c s).1)/\∃n,w'=putRow (Value.int .i64) (Sort.ahead w n) sb so (one (median ltInt d a b c s).2):=by
 subst hlen;have l1:=order2_lt d s ha hb;have s1:=order2_swaps d a b s;have l2:=order2_lt d (order2 ltInt d a b s).2.2 l1.2 hc;have s2:=order2_swaps d (order2 ltInt d a b s).2.1 c (order2 ltInt d a b s).2.2
 go_enter Tryz.func179,Tryz.ntmps179
 go_wp2_with(go_at_call_of 184 (Value.int .i64 (b:Int));refine(u64_order2_int d _ rfl blk off cap a b sb so s w hH ha hb hS (by omega)).mono ?_;rintro e w' ⟨rfl,n1,rfl⟩)
 go_wp2_with(go_at_call_of 184 (Value.int .i64 (c:Int));refine(u64_order2_int d _ rfl blk off cap (order2 ltInt d a b s).2.1 c sb so (order2 ltInt d a b s).2.2 _ (holds_asideU hH hne) l1.2 hc (holds_one hS) (by omega)).mono ?_;rintro e w' ⟨rfl,n2,rfl⟩)
 go_wp2_with(
    go_at_call_of 184 (Value.int .i64 ((order2 ltInt d a b s).1:Int));refine(u64_order2_int d _ rfl blk off cap (order2 ltInt d a b s).1 (order2 ltInt d (order2 ltInt d a b s).2.1 c (order2 ltInt d a b s).2.2).1 sb so (order2 ltInt d (order2 ltInt d a b s).2.1 c (order2 ltInt d a b s).2.2).2.2 _
  (holds_asideU (holds_asideU hH hne) hne) l1.1 l2.1 (holds_one (holds_one hS)) (by omega)).mono ?_;rintro e w' ⟨rfl,n3,rfl⟩)
 go_ret;refine⟨rfl,n1+(n2+n3),?_⟩;rw[one_one,one_one]
 rfl
theorem u64_medianAdjacent_int(d:Array Int)(len:Nat)(hlen:d.size=len)(blk off cap a sb so s:Nat)(w:World)(hH:Holds (Value.int .u64) w blk off d)(ha0:1<=a)(ha:a+1<d.size)(hsz:d.size<2 ^ 62)(hne:sb≠blk)
  (hS:Holds (Value.int .i64) w sb so (one s)) (hs:s+3<2 ^ 62):
  Calls Tryz.prog 178 #[.slice (some ⟨blk,off,none⟩) len cap,.int .i64 a,.pointer (some ⟨sb,so,none⟩)] w fun e w'=>
   e=.returned (.int .i64 (medianAdjacent ltInt d a s).1)/\∃n,w'=putRow (Value.int .i64) (Sort.ahead w n) sb so (one (medianAdjacent ltInt d a s).2):=by
 subst hlen;replace hsz:d.size<4611686018427387904:=by omega
 go_enter Tryz.func178,Tryz.ntmps178
 go_wp2_with(go_at_call 179;rw[show ((a:Int)-1)=((a-1:Nat):Int) by omega,show((a:Int)+1)=((a+1:Nat):Int) by omega];refine(u64_median_int d _ rfl blk off cap (a-1) a (a+1) sb so s w hH (by omega) (by omega) ha hne hS hs).mono ?_;rintro e w' ⟨rfl,n1,rfl⟩)
 go_ret;exact⟨rfl,n1,rfl⟩
theorem pivot_worldU(blk off cap:Nat)(d:Array Int)(w:World)(hH:Holds (Value.int .u64) w blk off d)(hblk:blk<w.heap.size)(hsz:d.size<4611686018427387904):
  ∃Wc:Nat->Nat->World,
   w.alloc (.cells #[.int .i64 0] 3)=Wc 0 0/\
   (∀ N S:Nat,(Wc N S).cell? ⟨w.heap.size,0,none⟩=some (.int .i64 (S:Int)))/\
   (∀ N S:Nat,∃os,Wc N S=grow (Sort.ahead w N) os)/\
   (∀ x s N:Nat,1<=x->x+1<d.size->s+3<4611686018427387904->Calls Tryz.prog 178 #[.slice (some ⟨blk,off,none⟩) d.size cap,.int .i64 (x:Int),.pointer (some ⟨w.heap.size,0,none⟩)] (Wc N s) fun e w'=>
    e=.returned (.int .i64 ((medianAdjacent ltInt d x s).1:Int))/\∃N',w'=Wc N' (medianAdjacent ltInt d x s).2)/\
   (∀ x y z s N:Nat,x<d.size->y<d.size->z<d.size->s+3<4611686018427387904->Calls Tryz.prog 179 #[.slice (some ⟨blk,off,none⟩) d.size cap,.int .i64 (x:Int),.int .i64 (y:Int),.int .i64 (z:Int),.pointer (some ⟨w.heap.size,0,none⟩)] (Wc N s) fun e w'=>
    e=.returned (.int .i64 ((median ltInt d x y z s).1:Int))/\∃N',w'=Wc N' (median ltInt d x y z s).2):=by
 have hne:w.heap.size≠blk:=by omega
 have hH0:Holds (Value.int .u64) (w.alloc (.cells #[.int .i64 0] 3)) blk off d:=by rw[alloc_eq_grow];exact holds_grow _ _ _ _ _ _ hblk hH
 have hS0:Holds (Value.int .i64) (w.alloc (.cells #[.int .i64 0] 3)) w.heap.size 0 (one 0):=fun j hj=>by
  obtain rfl:j=0:=by simpa using hj
  simp
 refine⟨fun N S=>putRow (Value.int .i64) (Sort.ahead (w.alloc (.cells #[.int .i64 0] 3)) N) w.heap.size 0 (one S),(putRow_self _ _ _ _ _ hS0).symm,fun N S=>(one_cell (holds_one (n:=N) (t:=S) hS0)).1,fun N S=>counter_grow w N S,?_,?_⟩
 ·intro x s N h1 h2 hs
  refine(u64_medianAdjacent_int d _ rfl blk off cap x w.heap.size 0 s _ (holds_asideU hH0 hne) h1 h2 (by omega) hne (holds_one hS0) (by omega)).mono ?_;rintro e w' ⟨he,n,hw⟩;exact⟨he,N+n,by rw[hw,one_one]⟩
 ·intro x y z s N h1 h2 h3 hs
  refine(u64_median_int d _ rfl blk off cap x y z w.heap.size 0 s _ (holds_asideU hH0 hne) h1 h2 h3 hne (holds_one hS0) (by omega)).mono ?_;rintro e w' ⟨he,n,hw⟩;exact⟨he,N+n,by rw[hw,one_one]⟩
theorem u64_choosePivot_int(blk off cap a b:Nat)(d:Array Int)(w:World)(hH:Holds (Value.int .u64) w blk off d)(hblk:blk<w.heap.size)(hab:a<b)(hb:b<=d.size)(hsz:d.size<4611686018427387904):
  Calls Tryz.prog 154 #[.slice (some ⟨blk,off,none⟩) d.size cap,.int .i64 a,.int .i64 b] w fun e w'=>
   e=.returned (.tuple #[.int .i64 (choosePivot ltInt d a b).1,.int .i64 (hintCode (choosePivot ltInt d a b).2)])/\∃n os,w'=grow (Sort.ahead w n) os:=by
 obtain⟨Wc,hW0,cS,hG,MA,MD⟩:=pivot_worldU blk off cap d w hH hblk hsz;clear hH;rw[choosePivot_eq];obtain⟨I,hI⟩:∃I:Nat,I=a+(b-a)/4*1:=⟨_,rfl⟩;obtain⟨J,hJ⟩:∃J:Nat,J=a+(b-a)/4*2:=⟨_,rfl⟩;obtain⟨K,hK⟩:∃K:Nat,K=a+(b-a)/4*3:=⟨_,rfl⟩;have eI:((a:Int)+((b:Int)-(a:Int))/4)=(I:Int):=by omega
 have eJ:((a:Int)+((b:Int)-(a:Int))/4*2)=(J:Int):=by omega
 have eK:((a:Int)+((b:Int)-(a:Int))/4*3)=(K:Int):=by omega
 by_cases h8:b-a≥8
 ·by_cases h50:b-a≥50
  ·
   obtain⟨i1,s1,h1⟩:∃i1 s1,medianAdjacent ltInt d I 0=(i1,s1):=⟨_,_,rfl⟩;obtain⟨j1,s2,h2⟩:∃j1 s2,medianAdjacent ltInt d J s1=(j1,s2):=⟨_,_,rfl⟩;obtain⟨k1,s3,h3⟩:∃k1 s3,medianAdjacent ltInt d K s2=(k1,s3):=⟨_,_,rfl⟩;obtain⟨p,s,h4⟩:∃p s,median ltInt d i1 j1 k1 s3=(p,s):=⟨_,_,rfl⟩;have hraw:rawPivot ltInt d a b=(p,s):=by simp only[rawPivot,if_pos h8,if_pos h50, <-hI, <-hJ, <-hK,h1,h2,h3,h4]
   have m1:=medianAdjacent_mem ltInt d I 0;rw[h1]at m1;have m2:=medianAdjacent_mem ltInt d J s1;rw[h2]at m2;have m3:=medianAdjacent_mem ltInt d K s2;rw[h3]at m3;have n1:=medianAdjacent_count ltInt d I 0;rw[h1]at n1;have n2:=medianAdjacent_count ltInt d J s1;rw[h2]at n2;have n3:=medianAdjacent_count ltInt d K s2;rw[h3]at n3;simp only[]at m1 m2 m3 n1 n2 n3;have c1:Calls Tryz.prog 178 #[.slice (some ⟨blk,off,none⟩) d.size cap,.int .i64 (I:Int),.pointer (some ⟨w.heap.size,0,none⟩)] (Wc 0 0) fun e w'=>e=.returned (.int .i64 (i1:Int))/\∃N',w'=Wc N' s1:=by
    have h:=MA I 0 0 (by omega) (by omega) (by omega);rw[h1]at h;exact h
   have c2:∀N,Calls Tryz.prog 178 #[.slice (some ⟨blk,off,none⟩) d.size cap,.int .i64 (J:Int),.pointer (some ⟨w.heap.size,0,none⟩)] (Wc N s1) fun e w'=>e=.returned (.int .i64 (j1:Int))/\∃N',w'=Wc N' s2:=fun N=>by
    have h:=MA J s1 N (by omega) (by omega) (by omega);rw[h2]at h;exact h
   have c3:∀N,Calls Tryz.prog 178 #[.slice (some ⟨blk,off,none⟩) d.size cap,.int .i64 (K:Int),.pointer (some ⟨w.heap.size,0,none⟩)] (Wc N s2) fun e w'=>e=.returned (.int .i64 (k1:Int))/\∃N',w'=Wc N' s3:=fun N=>by
    have h:=MA K s2 N (by omega) (by omega) (by omega);rw[h3]at h;exact h
   have c4:∀N,Calls Tryz.prog 179 #[.slice (some ⟨blk,off,none⟩) d.size cap,.int .i64 (i1:Int),.int .i64 (j1:Int),.int .i64 (k1:Int),.pointer (some ⟨w.heap.size,0,none⟩)] (Wc N s3) fun e w'=>e=.returned (.int .i64 (p:Int))/\∃N',w'=Wc N' s:=fun N=>by
    have h:=MD i1 j1 k1 s3 N (by omega) (by omega) (by omega) (by omega);rw[h4]at h;exact h
   rw[hraw];obtain⟨Hc,hHc⟩:∃Hc:Int,Hc=hintCode (hintOf s):=⟨_,rfl⟩;have hh0:s=0->Hc=1:=fun h=>by rw[hHc,h];rfl
   have hh12:s=12->Hc=2:=fun h=>by rw[hHc,h];rfl
   have hhx:s≠0->s≠12->Hc=0:=fun h1 h2=>by rw[hHc];unfold hintOf;rw[if_neg h1,if_neg h2];rfl
   show Calls Tryz.prog 154 _ w fun e w'=>e=.returned (.tuple #[.int .i64 (p:Int),.int .i64 (hintCode (hintOf s))])/\∃n os,w'=grow (Sort.ahead w n) os
   rw[<- hHc];clear hHc hraw;clear h1 h2 h3 h4 MA MD hI hJ hK m1 m2 m3
   go_enter Tryz.func154,Tryz.ntmps154
   go_wp2_with(
        first
    |(go_at_call_has 178 (Value.int .i64 (I:Int));refine c1.mono ?_;rintro e w' ⟨rfl,N1,rfl⟩)
    |(go_at_call_has 178 (Value.int .i64 (J:Int));refine(c2 _).mono ?_;rintro e w' ⟨rfl,N2,rfl⟩)
    |(go_at_call_has 178 (Value.int .i64 (K:Int));refine(c3 _).mono ?_;rintro e w' ⟨rfl,N3,rfl⟩)
    |(go_at_call 179;refine(c4 _).mono ?_;rintro e w' ⟨rfl,N4,rfl⟩))
   all_goals
    go_ret2;refine⟨?_,_,hG _ _⟩
    first
     |(
       have e0:(s:Int)=0:=of_beq_int (by assumption);rw[hh0 (by omega)];rfl)
     |(
       have e1:(s:Int)=12:=of_beq_int (by assumption);rw[hh12 (by omega)];rfl)
     |(
       have e0:(s:Int)≠0:=of_bne_int (by assumption);have e1:(s:Int)≠12:=of_bne_int (by assumption);rw[hhx (by omega) (by omega)];rfl)
     |(rw[hh0 (by omega)];rfl)
  ·
   obtain⟨p,s,h4⟩:∃p s,median ltInt d I J K 0=(p,s):=⟨_,_,rfl⟩;have hraw:rawPivot ltInt d a b=(p,s):=by simp only[rawPivot,if_pos h8,if_neg h50, <-hI, <-hJ, <-hK,h4]
   have c4:Calls Tryz.prog 179 #[.slice (some ⟨blk,off,none⟩) d.size cap,.int .i64 (I:Int),.int .i64 (J:Int),.int .i64 (K:Int),.pointer (some ⟨w.heap.size,0,none⟩)] (Wc 0 0) fun e w'=>e=.returned (.int .i64 (p:Int))/\∃N',w'=Wc N' s:=by
    have h:=MD I J K 0 0 (by omega) (by omega) (by omega) (by omega);rw[h4]at h;exact h
   rw[hraw];obtain⟨Hc,hHc⟩:∃Hc:Int,Hc=hintCode (hintOf s):=⟨_,rfl⟩;have hh0:s=0->Hc=1:=fun h=>by rw[hHc,h];rfl
   have hh12:s=12->Hc=2:=fun h=>by rw[hHc,h];rfl
   have hhx:s≠0->s≠12->Hc=0:=fun h1 h2=>by rw[hHc];unfold hintOf;rw[if_neg h1,if_neg h2];rfl
   show Calls Tryz.prog 154 _ w fun e w'=>e=.returned (.tuple #[.int .i64 (p:Int),.int .i64 (hintCode (hintOf s))])/\∃n os,w'=grow (Sort.ahead w n) os
   rw[<- hHc];clear hHc hraw;clear h4 MA MD hI hJ hK
   go_enter Tryz.func154,Tryz.ntmps154
   go_wp2_with(first|(go_at_call 179;refine c4.mono ?_;rintro e w' ⟨rfl,N4,rfl⟩))
   all_goals
    go_ret2;refine⟨?_,_,hG _ _⟩
    first
     |(
       have e0:(s:Int)=0:=of_beq_int (by assumption);rw[hh0 (by omega)];rfl)
     |(
       have e1:(s:Int)=12:=of_beq_int (by assumption);rw[hh12 (by omega)];rfl)
     |(
       have e0:(s:Int)≠0:=of_bne_int (by assumption);have e1:(s:Int)≠12:=of_bne_int (by assumption);rw[hhx (by omega) (by omega)];rfl)
     |(rw[hh0 (by omega)];rfl)
 ·
  obtain⟨p,hp⟩:∃p:Nat,p=J:=⟨_,rfl⟩;obtain⟨s,hs⟩:∃s:Nat,s=0:=⟨_,rfl⟩;have hraw:rawPivot ltInt d a b=(p,s):=by simp only[rawPivot,if_neg h8, <-hJ,hp,hs]
  rw[hraw];obtain⟨Hc,hHc⟩:∃Hc:Int,Hc=hintCode (hintOf s):=⟨_,rfl⟩;have hh0:s=0->Hc=1:=fun h=>by rw[hHc,h];rfl
  have hh12:s=12->Hc=2:=fun h=>by rw[hHc,h];rfl
  have hhx:s≠0->s≠12->Hc=0:=fun h1 h2=>by rw[hHc];unfold hintOf;rw[if_neg h1,if_neg h2];rfl
  show Calls Tryz.prog 154 _ w fun e w'=>e=.returned (.tuple #[.int .i64 (p:Int),.int .i64 (hintCode (hintOf s))])/\∃n os,w'=grow (Sort.ahead w n) os
  rw[<- hHc];clear hHc hraw;subst hp;clear MA MD hI hJ hK;have hW0':w.alloc (.cells #[.int .i64 0] 3)=Wc 0 s:=by rw[hs];exact hW0
  clear hW0
  go_enter Tryz.func154,Tryz.ntmps154
  go_wp2
  all_goals
   go_ret2;refine⟨?_,_,hG _ _⟩
   first
    |(
      have e0:(s:Int)=0:=of_beq_int (by assumption);rw[hh0 (by omega)];rfl)
    |(
      have e1:(s:Int)=12:=of_beq_int (by assumption);rw[hh12 (by omega)];rfl)
    |(
      have e0:(s:Int)≠0:=of_bne_int (by assumption);have e1:(s:Int)≠12:=of_bne_int (by assumption);rw[hhx (by omega) (by omega)];rfl)
    |(rw[hh0 (by omega)];rfl)
structure Callees13U:Prop where
 ins:∀(blk off cap a b:Nat) (d:Array Int) (w:World),Holds encU w blk off d->a<=b->b<=d.size->d.size<4611686018427387904->
  Calls Tryz.prog 151 #[.slice (some ⟨blk,off,none⟩) d.size cap,.int .i64 a,.int .i64 b] w fun e w'=>e=.returned (.tuple #[])/\∃n,w'=putRow encU (Sort.ahead w n) blk off (insertionSort ltInt d a b)
 brk:∀(blk off cap a b:Nat) (d:Array Int) (w:World),Holds encU w blk off d->blk<w.heap.size->a<=b->b<=d.size->d.size<4611686018427387904->
  Calls Tryz.prog 153 #[.slice (some ⟨blk,off,none⟩) d.size cap,.int .i64 a,.int .i64 b] w fun e w'=>e=.returned (.tuple #[])/\∃n os,w'=grow (putRow encU (Sort.ahead w n) blk off (breakPatterns d a b)) os
 piv:∀(blk off cap a b:Nat) (d:Array Int) (w:World),Holds encU w blk off d->blk<w.heap.size->a<b->b<=d.size->d.size<4611686018427387904->
  Calls Tryz.prog 154 #[.slice (some ⟨blk,off,none⟩) d.size cap,.int .i64 a,.int .i64 b] w fun e w'=>e=.returned (.tuple #[.int .i64 (choosePivot ltInt d a b).1,.int .i64 (hintCode (choosePivot ltInt d a b).2)])/\∃n os,w'=grow (Sort.ahead w n) os
 par:∀(blk off cap a b:Nat) (d:Array Int) (w:World),Holds encU w blk off d->a<b->b<=d.size->d.size<4611686018427387904->
  Calls Tryz.prog 156 #[.slice (some ⟨blk,off,none⟩) d.size cap,.int .i64 a,.int .i64 b] w fun e w'=>e=.returned (.bool (partialInsertionSort ltInt d a b).2)/\∃n,w'=putRow encU (Sort.ahead w n) blk off (partialInsertionSort ltInt d a b).1
 peq:∀(blk off cap a b pivot:Nat) (d:Array Int) (w:World),Holds encU w blk off d->a<=pivot->pivot<b->b<=d.size->d.size<4611686018427387904->
  Calls Tryz.prog 157 #[.slice (some ⟨blk,off,none⟩) d.size cap,.int .i64 a,.int .i64 b,.int .i64 pivot] w fun e w'=>e=.returned (.int .i64 (partitionEqual ltInt d a b pivot).1)/\∃n,w'=putRow encU (Sort.ahead w n) blk off (partitionEqual ltInt d a b pivot).2
 prt:∀(blk off cap a b pivot:Nat) (d:Array Int) (w:World),Holds encU w blk off d->a<=pivot->pivot<b->b<=d.size->d.size<4611686018427387904->
  Calls Tryz.prog 158 #[.slice (some ⟨blk,off,none⟩) d.size cap,.int .i64 a,.int .i64 b,.int .i64 pivot] w fun e w'=>e=.returned (.tuple #[.int .i64 (partition ltInt d a b pivot).1,.bool (partition ltInt d a b pivot).2.1])/\∃n,w'=putRow encU (Sort.ahead w n) blk off (partition ltInt d a b pivot).2.2
theorem u64_pdqsort_int(C:Callees13U)(S:Plain13):∀(N blk off cap a b limit:Nat) (d:Array Int) (w:World),b-a<N->Holds encU w blk off d->blk<w.heap.size->a<=b->b<=d.size->d.size<4611686018427387904->limit<4611686018427387904->Below ltInt a b d->
  Calls Tryz.prog 108 #[.slice (some ⟨blk,off,none⟩) d.size cap,.int .i64 a,.int .i64 b,.int .i64 limit] w fun e w'=>e=.returned (.tuple #[])/\At encU w blk off (pdq ltInt d a b limit true true) w':=by
 intro N
 induction N with
 |zero=>intro _ _ _ _ _ _ _ _ h;exact absurd h (Nat.not_lt_zero _)
 |succ N ih=>
  intro blk off cap a b limit d w hN hH hblk hab hb hsz hlimit hBel0
  go_enter Tryz.func108,Tryz.ntmps108
  go_wp2
  go_loopg [1,2,3,8,9] (b-a) (fun k s1 s2 s3 s8 s9 wr=>∃(a' b' lim:Nat) (wb wp:Bool) (dk:Array Int),s1=.int .i64 a'/\s2=.int .i64 b'/\s3=.int .i64 lim/\s8=.bool wb/\s9=.bool wp/\
   a'<=b'/\b'<=d.size/\b'-a'<=k/\k<=b-a/\lim<=limit/\dk.size=d.size/\Below ltInt a' b' dk/\At encU w blk off dk wr/\pdq ltInt dk a' b' lim wb wp=pdq ltInt d a b limit true true)
  case atStart=>exact⟨a,b,limit,true,true,d,rfl,rfl,rfl,rfl,rfl,hab,hb,Nat.le_refl _,Nat.le_refl _,Nat.le_refl _,rfl,hBel0,At.refl hH,rfl⟩
  case round=>
   obtain⟨a',b',lim,wb,wp,dk,rfl,rfl,rfl,rfl,rfl,hab',hb',hk,hkN,hlim,hds,hBel,hAt,heq⟩:=hrel;obtain⟨hHk,hblk'⟩:=hAt.holds hH hds hblk;have A:Aside (pdq ltInt dk a' b' lim wb wp=pdq ltInt d a b limit true true):=heq;clear heq;by_cases h12:b'-a'<=12
   ·
    have h12z:(b':Int)-(a':Int)<=12:=by omega
    have hc:=C.ins blk off cap a' b' dk wr hHk hab' (by omega) (by omega);rw[hds]at hc
    go_wp2_with(go_at_call 151;refine hc.mono ?_;rintro e w1 ⟨rfl,hw1⟩)
    (try simp only[Exit.inBlock,Exit.then]);refine bodyPost_ret (results_none rfl _ _ _) rfl ?_
    refine⟨rfl,?_⟩;rw[<- A.out,pdq_small h12];exact hAt.step hblk (S.ins S.swo dk a' b' hab' (by omega)).1.1 hw1
   ·have h12z:¬((b':Int)-(a':Int)<=12):=by omega
    by_cases hl0:lim=0
    ·
     subst hl0;have hc:=u64_heapSort_int blk off d.size cap dk hds a' b' wr hHk hab' (by omega) (by omega)
     go_wp2_with(go_at_call 152;refine hc.mono ?_;rintro e w1 ⟨rfl,hw1⟩)
     (try simp only[Exit.inBlock,Exit.then]);refine bodyPost_ret (results_none rfl _ _ _) rfl ?_
     refine⟨rfl,?_⟩;rw[<- A.out,pdq_heap h12 rfl];exact hAt.step hblk (heapSort_holds S.swo dk a' b' hab' (by omega)).1.1 hw1
    ·have hl0z:¬((lim:Int)=0):=by omega
     obtain⟨s1,B1,hc1,s2,B2,hpv,s3,B3⟩:=rd_facts (limit:=lim) (wb:=wb) (wp:=wp) S.swo S.par reverseRange_holds (show a'<b' by omega) (show b'<=dk.size by omega) hBel
     go_upto_if 35 with fail
     go_cut [3]from 19 (fun s3 wc=>s3=.int .i64 (rd ltInt dk a' b' lim wb wp).lim/\At encU w blk off (rd ltInt dk a' b' lim wb wp).d1 wc)
     case first=>
      cases wb
      ·have hc:=C.brk blk off cap a' b' dk wr hHk hblk' hab' (by omega) (by omega)
       rw[hds]at hc
       go_wp2_with(go_at_call 153;refine hc.mono ?_;rintro e w1 ⟨rfl,hw1⟩)
       go_meet
       case rel=>
        refine⟨?_,hAt.stepG hblk s1 hw1⟩;show Value.int .i64 ((lim:Int)-1)=Value.int .i64 ((lim-1:Nat):Int);congr 1;omega
      ·go_wp2_with fail
       go_meet
       case rel=>exact⟨rfl,hAt⟩
     case rest=>
      obtain⟨rfl,hAt1⟩:=hcut;obtain⟨hH1,hblk1⟩:=hAt1.holds hH (s1.trans hds) hblk;have hc17:Calls Tryz.prog 154 #[.slice (some ⟨blk,off,none⟩) d.size cap,.int .i64 a',.int .i64 b'] wc fun e w'=>e=.returned (.tuple #[.int .i64 (rd ltInt dk a' b' lim wb wp).c.1,.int .i64 (hintCode (rd ltInt dk a' b' lim wb wp).c.2)])/\∃n os,w'=grow (Sort.ahead wc n) os:=by
       have:=C.piv blk off cap a' b' (rd ltInt dk a' b' lim wb wp).d1 wc hH1 hblk1 (by omega) (by omega) (by omega);rw[s1,hds]at this;exact this
      go_upto_if 50 with(go_at_call 154;refine hc17.mono ?_;rintro e w2 ⟨rfl,hw2⟩)
      have hAt2:At encU w blk off (rd ltInt dk a' b' lim wb wp).d1 w2:=hAt1.same hH (s1.trans hds) hblk hw2;obtain⟨hH2,hblk2⟩:=hAt2.holds hH (s1.trans hds) hblk
      go_cut [11,12]from 19 (fun s11 s12 wc=>s11=.int .i64 (rd ltInt dk a' b' lim wb wp).pivot/\s12=.int .i64 (hintCode (rd ltInt dk a' b' lim wb wp).hint)/\At encU w blk off (rd ltInt dk a' b' lim wb wp).d2 wc)
      case first=>
       by_cases hh:(rd ltInt dk a' b' lim wb wp).c.2=.decreasing
       ·have hcode:hintCode (rd ltInt dk a' b' lim wb wp).c.2=2:=by rw[hh];rfl
        obtain⟨e2,epv,eht⟩:=rd_dec hh;have hc18:=u64_reverseRange_int blk off cap (rd ltInt dk a' b' lim wb wp).d1 a' b' w2 hH2 hab' (by omega) (by omega);rw[s1,hds]at hc18
        go_wp2_with(go_at_call 155;refine hc18.mono ?_;rintro e w3 ⟨rfl,hw3⟩)
        go_meet
        case rel=>
         refine⟨?_,by rw[eht];rfl,by rw[e2];exact hAt2.step hblk (by rw[<- e2,s2,s1]) hw3⟩;rw[epv];congr 1;omega
       ·have hcode:¬(hintCode (rd ltInt dk a' b' lim wb wp).c.2=2):=fun h=>hh (hintCode_two h)
        obtain⟨e2,epv,eht⟩:=rd_not hh
        go_wp2_with fail
        go_meet
        case rel=>exact⟨by rw[epv],by rw[eht],by rw[e2];exact hAt2⟩
      case rest=>
       obtain⟨rfl,rfl,hAt3⟩:=hcut;obtain⟨hH3,hblk3⟩:=hAt3.holds hH (s2.trans hds) hblk
       go_upto_region 15 with fail
       go_cut [12,68]from 19 (fun s12 s68 wx=>s12=.int .i64 (hintCode (rd ltInt dk a' b' lim wb wp).hint)/\s68=.bool (wb&&wp&&decide ((rd ltInt dk a' b' lim wb wp).hint=.increasing))/\wx=wc)
       case first=>
        cases wb <;> cases wp <;> cases hh3:(rd ltInt dk a' b' lim _ _).hint <;>
         (
          have hcode3:=congrArg hintCode hh3;simp only[hintCode]at hcode3
          go_wp2_with fail
          go_meet
          exact⟨by simp[hh3,hintCode],by simp[hh3,hintCode],rfl⟩)
       case rest=>
        obtain⟨rfl,rfl,rfl⟩:=hcut
        go_upto_if 68 with fail
        go_cut []from 19 (fun wx=>(rd ltInt dk a' b' lim wb wp).pi.2=false/\At encU w blk off (rd ltInt dk a' b' lim wb wp).pi.1 wx)
        case first=>
         cases h68:(wb&&wp&&decide ((rd ltInt dk a' b' lim wb wp).hint=.increasing))
         · have epi:=rd_pi_no h68
           go_wp2_with fail
           go_meet
           case rel=>exact⟨by rw[epi],by rw[epi];exact hAt3⟩
         · have epi:=rd_pi_yes h68
           have hc19:=C.par blk off cap a' b' (rd ltInt dk a' b' lim wb wp).d2 wc hH3 (by omega) (by omega) (by omega);rw[s2,hds, <-epi]at hc19
           go_wp2_with(go_at_call 156;refine hc19.mono ?_;rintro e w4 ⟨rfl,hw4⟩)
           all_goals first
            |(
              have hp2:(rd ltInt dk a' b' lim wb wp).pi.2=false:=by rw[epi];assumption
              go_meet
              exact⟨hp2,hAt3.step hblk (by rw[s3,s2]) hw4⟩)
            |(
              have hp2:(rd ltInt dk a' b' lim wb wp).pi.2=true:=by rw[epi];assumption
              (try simp only[Exit.inBlock,Exit.then]);refine bodyPost_ret (results_none rfl _ _ _) rfl ?_
              refine⟨rfl,?_⟩;rw[<- A.out,pdq_done h12 hl0 hp2];exact hAt3.step hblk (by rw[s3,s2]) hw4)
        case rest=>
         obtain⟨hp2,hAt5⟩:=hcut;obtain⟨hH5,hblk5⟩:=hAt5.holds hH (s3.trans hds) hblk;have hcw:∀t,t<d.size->wc.cell? ⟨blk,off+t,none⟩=some (.int .u64 (rd ltInt dk a' b' lim wb wp).pi.1[t]!):=fun t ht=>(hH5 t (by omega)).1
         have hfw:∀t,t<d.size->wc.frozen? ⟨blk,off+t,none⟩=false:=fun t ht=>(hH5 t (by omega)).2
         go_upto_region 17 with fail
         go_cut [87]from 19 (fun s87 wx=>s87=.bool (decide (a'>0)&& !ltInt (rd ltInt dk a' b' lim wb wp).pi.1[a'-1]! (rd ltInt dk a' b' lim wb wp).pi.1[(rd ltInt dk a' b' lim wb wp).pivot]!)/\At encU w blk off (rd ltInt dk a' b' lim wb wp).pi.1 wx)
         case first=>
           rcases Nat.eq_zero_or_pos a' with ha0|ha0
           ·have ha0z:decide ((a':Int)>0)=false:=decide_eq_false (by omega)
            go_big_quiet (first|(go_at_call 76;refine Calls.quiet_of_same (u64_cmp_Less_int _ _ _)))
            go_wp2_with fail
            go_meet
            case rel=>exact⟨by simp[ha0],hAt5.ahead nq⟩
           ·have ha0z:(a':Int)>0:=by omega
            go_big_quiet (first|(go_at_call 76;refine Calls.quiet_of_same (u64_cmp_Less_int _ _ _)))
            go_wp2_with fail
            go_meet
            case rel=>exact⟨by simp[ha0],hAt5.ahead nq⟩
         case rest=>
           obtain⟨rfl,hAt6⟩:=hcut;obtain⟨hH6,hblk6⟩:=hAt6.holds hH (s3.trans hds) hblk;clear hcw hfw;cases h87:(decide (a'>0)&& !ltInt (rd ltInt dk a' b' lim wb wp).pi.1[a'-1]! (rd ltInt dk a' b' lim wb wp).pi.1[(rd ltInt dk a' b' lim wb wp).pivot]!)
           ·
            obtain⟨mid,ap,d4,hx⟩:∃mid ap d4,partition ltInt (rd ltInt dk a' b' lim wb wp).pi.1 a' b' (rd ltInt dk a' b' lim wb wp).pivot=(mid,ap,d4):=⟨(partition ltInt (rd ltInt dk a' b' lim wb wp).pi.1 a' b' (rd ltInt dk a' b' lim wb wp).pivot).1,(partition ltInt (rd ltInt dk a' b' lim wb wp).pi.1 a' b' (rd ltInt dk a' b' lim wb wp).pivot).2.1,(partition ltInt (rd ltInt dk a' b' lim wb wp).pi.1 a' b' (rd ltInt dk a' b' lim wb wp).pivot).2.2,rfl⟩;obtain⟨r1,r2,r3,r4,r5,r6,r7⟩:=round_part S.swo S.prt hpv.1 hpv.2 (show b'<=(rd ltInt dk a' b' lim wb wp).pi.1.size by omega) B3 hx;have hc22:=C.prt blk off cap a' b' (rd ltInt dk a' b' lim wb wp).pivot (rd ltInt dk a' b' lim wb wp).pi.1 wc hH6 hpv.1 hpv.2 (by omega) (by omega);rw[s3,hds,hx]at hc22;have X:Aside (partition ltInt (rd ltInt dk a' b' lim wb wp).pi.1 a' b' (rd ltInt dk a' b' lim wb wp).pivot=(mid,ap,d4)):=hx;clear hx
            go_upto_if 113 with(go_at_call 158;refine hc22.mono ?_;rintro e w7 ⟨rfl,hw7⟩)
            have hx:=X.out;have hAt7:At encU w blk off d4 w7:=hAt6.step hblk r3 hw7;obtain⟨hH7,hblk7⟩:=hAt7.holds hH (r3.trans (s3.trans hds)) hblk;by_cases h4:mid-a'<b'-mid
            ·have h4z:(mid:Int)-(a':Int)<(b':Int)-(mid:Int):=by omega
             have hih:=ih blk off cap a' mid (rd ltInt dk a' b' lim wb wp).lim d4 w7 (by omega) hH7 hblk7 (by omega) (by omega) (by omega) (Nat.lt_of_le_of_lt (Nat.le_trans rd_lim_le hlim) hlimit) r4;rw[r3,s3,hds]at hih;obtain⟨pL,sL⟩:=S.pdq S.swo d4 a' mid (rd ltInt dk a' b' lim wb wp).lim true true (by omega) (by omega) r4
             go_wp2_with(go_at_call 108;refine hih.mono ?_;rintro e w8 ⟨rfl,hw8⟩)
             go_roundg (b'-(mid+1))
             case measure=>omega
             case rel=>
               refine⟨mid+1,b',(rd ltInt dk a' b' lim wb wp).lim,decide (mid-a'≥(b'-a')/8),ap,pdq ltInt d4 a' mid (rd ltInt dk a' b' lim wb wp).lim true true,by simp,rfl,rfl,?_,rfl,by omega,by omega,Nat.le_refl _,by omega,Nat.le_trans rd_lim_le hlim,by rw[pL.1,r3,s3,hds],(r6 _ pL sL).1,hAt7.stepG hblk pL.1 hw8,?_⟩
               ·exact congrArg Value.bool (eighth (by omega) (by omega))
               ·rw[<- A.out,pdq_left h12 hl0 hp2 h87 (by rw[hx];exact⟨r1,r2⟩) (by rw[hx];exact h4),hx]
            ·have h4z:¬((mid:Int)-(a':Int)<(b':Int)-(mid:Int)):=by omega
             have hih:=ih blk off cap (mid+1) b' (rd ltInt dk a' b' lim wb wp).lim d4 w7 (by omega) hH7 hblk7 (by omega) (by omega) (by omega) (Nat.lt_of_le_of_lt (Nat.le_trans rd_lim_le hlim) hlimit) r5;rw[r3,s3,hds]at hih;obtain⟨pL,sL⟩:=S.pdq S.swo d4 (mid+1) b' (rd ltInt dk a' b' lim wb wp).lim true true (by omega) (by omega) r5
             go_wp2_with(go_at_call 108;refine hih.mono ?_;rintro e w8 ⟨rfl,hw8⟩)
             go_roundg (mid-a')
             case measure=>omega
             case rel=>
               refine⟨a',mid,(rd ltInt dk a' b' lim wb wp).lim,decide (b'-mid≥(b'-a')/8),ap,pdq ltInt d4 (mid+1) b' (rd ltInt dk a' b' lim wb wp).lim true true,rfl,rfl,rfl,?_,rfl,by omega,by omega,Nat.le_refl _,by omega,Nat.le_trans rd_lim_le hlim,by rw[pL.1,r3,s3,hds],(r7 _ pL sL).1,hAt7.stepG hblk pL.1 hw8,?_⟩
               ·exact congrArg Value.bool (eighth (by omega) (by omega))
               ·rw[<- A.out,pdq_right h12 hl0 hp2 h87 (by rw[hx];exact⟨r1,r2⟩) (by rw[hx];exact h4),hx]
           ·
            have h87':=h87;simp only[Bool.and_eq_true,decide_eq_true_eq,Bool.not_eq_true']at h87';obtain⟨mid,d4,hx⟩:∃mid d4,partitionEqual ltInt (rd ltInt dk a' b' lim wb wp).pi.1 a' b' (rd ltInt dk a' b' lim wb wp).pivot=(mid,d4):=⟨(partitionEqual ltInt (rd ltInt dk a' b' lim wb wp).pi.1 a' b' (rd ltInt dk a' b' lim wb wp).pivot).1,(partitionEqual ltInt (rd ltInt dk a' b' lim wb wp).pi.1 a' b' (rd ltInt dk a' b' lim wb wp).pivot).2,rfl⟩;obtain⟨r1,r2,r3,r4,_⟩:=round_eq S.swo S.peq h87'.1 hpv.1 hpv.2 (show b'<=(rd ltInt dk a' b' lim wb wp).pi.1.size by omega) B3 h87'.2 hx;have hc21:=C.peq blk off cap a' b' (rd ltInt dk a' b' lim wb wp).pivot (rd ltInt dk a' b' lim wb wp).pi.1 wc hH6 hpv.1 hpv.2 (by omega) (by omega);rw[s3,hds,hx]at hc21;have X:Aside (partitionEqual ltInt (rd ltInt dk a' b' lim wb wp).pi.1 a' b' (rd ltInt dk a' b' lim wb wp).pivot=(mid,d4)):=hx;clear hx
            go_wp2_with(go_at_call 157;refine hc21.mono ?_;rintro e w7 ⟨rfl,hw7⟩)
            go_roundg (b'-mid)
            case measure=>omega
            case rel=>
             have hx:=X.out;exact⟨mid,b',(rd ltInt dk a' b' lim wb wp).lim,wb,wp,d4,rfl,rfl,rfl,rfl,rfl,r2,hb',Nat.le_refl _,by omega,Nat.le_trans rd_lim_le hlim,by rw[r3,s3,hds],r4,hAt6.step hblk r3 hw7,by rw[<- A.out,pdq_eq h12 hl0 hp2 h87 (by rw[hx];exact⟨r1,r2⟩),hx]⟩
theorem callees13U:Callees13U where
 ins:=u64_insertionSort_int
 brk:=u64_breakPatterns_int
 piv:=u64_choosePivot_int
 par:=u64_partialInsertionSort_int
 peq:=u64_partitionEqualOrdered_int
 prt:=u64_partitionOrdered_int
theorem plain13U:Plain13 where
 swo:=swo_ltInt
 ins:=insertionSort_holds
 par:=partialInsertionSort_holds
 prt:=partition_holds _
 peq:=partitionEqual_holds _
 pdq:=pdq_sorts _
theorem sort_int_eqU(zs:List Int):Sort.sort ltInt zs.toArray=(zs.mergeSort fun x y=>decide (x<=y)).toArray:=by
 rw[<- sortInt zs]
def pdqWalkU:Prop:=∀(blk off cap a b limit:Nat) (d:Array Int) (w:World),Holds (Value.int .u64) w blk off d->blk<w.heap.size->a<=b->b<=d.size->d.size<4611686018427387904->limit<4611686018427387904->Below ltInt a b d->
 Calls Tryz.prog 108 #[.slice (some ⟨blk,off,none⟩) d.size cap,.int .i64 a,.int .i64 b,.int .i64 limit] w fun e w'=>
  e=.returned (.tuple #[])/\∃n os,w'=grow (putRow (Value.int .u64) (Sort.ahead w n) blk off (Sort.pdq ltInt d a b limit true true)) os
theorem pdqWalkIntU:pdqWalkU:=fun blk off cap a b limit d w hH hb hab hbd hsz hl hB=>
 u64_pdqsort_int callees13U plain13U (b-a+1) blk off cap a b limit d w (by omega) hH hb hab hbd hsz hl hB
theorem u64_Sort_int(hpdq:pdqWalkU)(blk off cap:Nat)(d:Array Int)(w:World)(hH:Holds (Value.int .u64) w blk off d)(hblk:blk<w.heap.size)(hsz:d.size<4611686018427387904):
  Calls Tryz.prog 69 #[.slice (some ⟨blk,off,none⟩) d.size cap] w fun e w'=>e=.returned (.tuple #[])/\∃n os,w'=grow (putRow (Value.int .u64) (Sort.ahead w n) blk off (Sort.sort ltInt d)) os:=by
 have HH:Hid (Holds (Value.int .u64) w blk off d):=hH;clear hH;have hLen:∀w,Calls Tryz.prog 109 #[.int .u64 (d.size:Int)] w fun e w'=>e=.returned (.int .i64 (bitsLen d.size:Nat))/\w'=w:=fun w=>by
  have h:=u64_bits_Len (d.size:Int) w (by omega) (by omega)
  rwa[Int.toNat_natCast,bitLen_eq _ (by omega)]at h
 have hk:bitsLen d.size<=62:=(bitsLen_le_iff d.size 62).2 (by omega)
 go_enter Tryz.func69,Tryz.ntmps69
 go_wp2_with(
   first
  |(go_at_call 109;refine(hLen _).mono ?_;rintro e w' ⟨rfl,rfl⟩)
  |(go_at_call 108;refine(hpdq blk off cap 0 d.size (bitsLen d.size) d _ (by exact HH.out) (by exact hblk) (Nat.zero_le _) (Nat.le_refl _) hsz (by omega) (Or.inl rfl)).mono ?_;rintro e w' ⟨rfl,n,os,rfl⟩))
 go_end0
 exact⟨rfl,n,os,rfl⟩
theorem u64_insertionSort_int_nil(p:Option Addr)(cap:Nat)(w:World):
  Calls Tryz.prog 151 #[.slice p 0 cap,.int .i64 0,.int .i64 0] w fun e w'=>e=.returned (.tuple #[])/\w'=w:=by
 go_enter Tryz.func151,Tryz.ntmps151
 go_wp2;refine wp_loop_rounds 1 ?_;rw[rounds_succ];go_wp2
 go_end0
 exact⟨rfl,rfl⟩
theorem u64_pdqsort_int_nil(p:Option Addr)(cap:Nat)(w:World):
  Calls Tryz.prog 108 #[.slice p 0 cap,.int .i64 0,.int .i64 0,.int .i64 0] w fun e w'=>e=.returned (.tuple #[])/\w'=w:=by
 go_enter Tryz.func108,Tryz.ntmps108
 go_wp2;refine wp_loop_rounds 1 ?_;rw[rounds_succ]
 go_wp2_with(first|(go_at_call 151;refine(u64_insertionSort_int_nil p cap _).mono ?_;rintro e w' ⟨rfl,rfl⟩))
 refine bodyPost_ret (results_none rfl _ _ _) rfl ?_;exact⟨rfl,rfl⟩
theorem u64_Sort_int_nil(p:Option Addr)(cap:Nat)(w:World):
  Calls Tryz.prog 69 #[.slice p 0 cap] w fun e w'=>e=.returned (.tuple #[])/\w'=w:=by
 have hLen:∀w,Calls Tryz.prog 109 #[.int .u64 0] w fun e w'=>e=.returned (.int .i64 0)/\w'=w:=fun w=>u64_bits_Len 0 w (by omega) (by omega)
 go_enter Tryz.func69,Tryz.ntmps69
 go_wp2_with(
   first
  |(go_at_call 109;refine(hLen _).mono ?_;rintro e w' ⟨rfl,rfl⟩)
  |(go_at_call 108;refine(u64_pdqsort_int_nil p cap _).mono ?_;rintro e w' ⟨rfl,rfl⟩))
 go_end0
 exact⟨rfl,rfl⟩
theorem u64_slices_Sort_int(blk off cap:Nat)(zs:List Int)(w:World)(hH:Holds (Value.int .u64) w blk off zs.toArray)(hblk:blk<w.heap.size)(hsz:zs.length<4611686018427387904):
  Calls Tryz.prog 69 #[.slice (some ⟨blk,off,none⟩) zs.length cap] w fun e w'=>
   e=.returned (.tuple #[])/\∃n os,w'=grow (putRow (Value.int .u64) (Sort.ahead w n) blk off (zs.mergeSort fun x y=>decide (x<=y)).toArray) os:=by
 have h:=u64_Sort_int pdqWalkIntU blk off cap zs.toArray w hH hblk (by simpa using hsz);rw[sort_int_eqU]at h;simpa using h
end
end Go.Proofs.YtpkoapmpknbgoaaGreat
