/- Joined: PoP, PoT, FiP, CvG, CvH, NfJ, LbA, NfE, NfL, NcM, NcPn, CvI, FiD, FlE, NcQ, LwA, FiE, FiR, FiQ, FiS, FiT, NrA, NrB, NrC, NfI, NfW, NfFn, CvJ, FrA, CellAq: contracts and plain laws, each with its own heading below. -/
import Derived.Test.YtpkoapmpknbgoaaGreatPackBI
import Derived.Test.YtpkoapmpknbgoaaGreatPackBH
import Derived.Test.YtpkoapmpknbgoaaGreatPackBF
import Derived.Lib.MinMax
import Derived.Test.YtpkoapmpknbgoaaGreatPackBE
import Derived.Deep.CutRange
import Derived.Test.YtpkoapmpknbgoaaGreatPackBC
import Derived.BigRegion
import Derived.Great.BuildSlice
import Derived.Maps.AppendAt
import Derived.Test.YtpkoapmpknbgoaaGreatPackBB
import Derived.Lib.OwnBridge
set_option maxRecDepth 100000
set_option maxHeartbeats 8000000
namespace Go.Proofs.YtpkoapmpknbgoaaGreat.Po
section
open Go.RowKit
def InWorld (p : Pt) : Prop := 0 <= p.1 /\ p.1 < 1073741824 /\ 0 <= p.2 /\ p.2 < 1073741824
theorem px_mem {l : List Pt} {j : Nat} (h : j < l.length) : (px l j, py l j) ∈ l := by
 unfold px py;simp only [List.getD_eq_getElem?_getD, List.getElem?_eq_getElem h, Option.getD_some];exact List.getElem_mem h
def AllIn (l : List Pt) : Prop := ∀ p ∈ l, InWorld p
theorem totTo_bound (c : Nat) : ∀ (ls : List (List Pt)) (k : Nat), (∀ l ∈ ls, l.length <= c) -> totTo ls k <= ls.length * c
 | [], k, _ => by simp [totTo]
 | l :: ls, 0, _ => by simp [totTo]
 | l :: ls, k + 1, h => by
  have ih := totTo_bound c ls k fun x hx => h x (by simp [hx])
  have h1 := h l (by simp);have e : totTo (l :: ls) (k + 1) = l.length + totTo ls k := by unfold totTo; simp
  rw [e, List.length_cons, Nat.add_mul];omega
theorem check_ok {ls : List (List Pt)} {c : Nat} (h0 : 0 < ls.length) (h1 : ls.length <= 20) (hc : ls.length * c <= 500) (hl : ∀ l ∈ ls, 3 <= l.length /\ l.length <= c /\ AllIn l) : checkF ls = 0 := by
 have hb := totTo_bound c ls ls.length fun l h => (hl l h).2.1
 have hs : shTo ls ls.length = false := by
  unfold shTo;simp only [List.take_length, Bool.or_eq_false_iff, decide_eq_false_iff_not, List.any_eq_false, decide_eq_true_eq];exact ⟨by omega, fun l h => by have := (hl l h).1; omega⟩
 have ho : outTo ls ls.length = false := by
  unfold outTo;simp only [List.take_length, List.any_eq_false];intro l h1 h2;rw [List.any_eq_true] at h2;obtain ⟨p, hp, h3⟩ := h2;have := (hl l h1).2.2 p hp;unfold InWorld at this;unfold outP at h3;simp only [Bool.or_eq_true, decide_eq_true_eq] at h3;omega
 unfold checkF;rw [if_neg (by omega), hs, ho]
 rfl
end
section
namespace Tri
def cx (a b c d : Int) : Int := a * d - c * b
def One (a b c : Int) : Prop := (0 <= a /\ 0 <= b /\ 0 <= c) ∨ (a <= 0 /\ b <= 0 /\ c <= 0)
instance (a b c : Int) : Decidable (One a b c) := by unfold One; infer_instance
end Tri
open Go.RowKit
end
section
open Go.RowKit
def Wd1 (a : Int) : Prop := 0 <= a /\ a < 1073741824
section
variable {x y u v : Int} (hx : Wd1 x) (hy : Wd1 y) (hu : Wd1 u) (hv : Wd1 v)
include hx hy hu hv
end
def t1 (x y u v : Int) : List Pt := [(x, y), (u, y), (u, v)]
def t2 (x y u v : Int) : List Pt := [(x, y), (u, v), (x, v)]
def dg (x y u v s t : Int) : Int := (u - x) * (t - y) - (v - y) * (s - x)
end
end Go.Proofs.YtpkoapmpknbgoaaGreat.Po
namespace Go.Proofs.YtpkoapmpknbgoaaGreat.Wd
section
open Go.Proofs.YtpkoapmpknbgoaaGreat.Cv
def ddN : Nat -> Int
 | 0 => 90 | 1 => 234 | 2 => 624 | 3 => 1665 | 4 => 4290 | 5 => 11622 | 6 => 30735 | 7 => 79335 | 8 => 215982 | 9 => 566100 | 10 => 1484505 | 11 => 4004988 | _ => 10403595
theorem dd_of {m : Nat} (hm : m <= 12) : (-ddN m <= (d0E m).1 /\ (d0E m).1 <= ddN m /\ -ddN m <= (d0E m).2 /\ (d0E m).2 <= ddN m) /\ (-ddN m <= (d1E m).1 /\ (d1E m).1 <= ddN m /\ -ddN m <= (d1E m).2 /\ (d1E m).2 <= ddN m) /\
  (-ddN m <= (d1E m).1 - (d0E m).1 /\ (d1E m).1 - (d0E m).1 <= ddN m /\ -ddN m <= (d1E m).2 - (d0E m).2 /\ (d1E m).2 - (d0E m).2 <= ddN m) := by
 rcases upto12 hm with rfl | rfl | rfl | rfl | rfl | rfl | rfl | rfl | rfl | rfl | rfl | rfl | rfl <;> decide
theorem vert_at {m : Nat} (hm : m <= 12) (z : E2) {k : Nat} (hk : k < 6) : ((cenE m z).1 - ddN m <= (hexC m z k).1 /\ (hexC m z k).1 <= (cenE m z).1 + ddN m) /\ (cenE m z).2 - ddN m <= (hexC m z k).2 /\ (hexC m z k).2 <= (cenE m z).2 + ddN m := by
 obtain ⟨h0, h1, h2, h3, h4, h5⟩ := hexC_eq m z;obtain ⟨e0, e1, e2⟩ := dd_of hm;rcases (show k = 0 ∨ k = 1 ∨ k = 2 ∨ k = 3 ∨ k = 4 ∨ k = 5 by omega) with rfl | rfl | rfl | rfl | rfl | rfl <;> simp only [h0, h1, h2, h3, h4, h5, addE, subE] <;> omega
theorem touch_near {m : Nat} (hm : m <= 12) {z lo hi : E2} (h : TouchP (hexC m z) lo hi) : (lo.1 - ddN m <= (cenE m z).1 /\ (cenE m z).1 <= hi.1 + ddN m) /\ lo.2 - ddN m <= (cenE m z).2 /\ (cenE m z).2 <= hi.2 + ddN m := by
 obtain ⟨⟨⟨a, a1, a2⟩, b, b1, b2⟩, ⟨⟨c, c1, c2⟩, d, d1, d2⟩, -⟩ := h;have ha := vert_at hm z a1;have hb := vert_at hm z b1;have hc := vert_at hm z c1;have hd := vert_at hm z d1;omega
theorem cen_parts (m : Nat) (z : E2) : (cenE m z).1 = 3 * (52 * (mulE (bE m) z).1 + 26 * (mulE (bE m) z).2) /\ (cenE m z).2 = 3 * (45 * (mulE (bE m) z).2) := by
 unfold cenE midE spotE mulE;generalize bE m = b;simp only;constructor <;> grind
theorem nodup_below : ∀ (n : Nat) (l : List Nat), l.Nodup -> (∀ x ∈ l, x < n) -> l.length <= n
 | 0, l, _, h => by
  cases l with
  | nil => simp
  | cons a l => exact absurd (h a (by simp)) (by omega)
 | n + 1, l, hn, h => by
  by_cases hm : n ∈ l
  ·have h1 := List.length_erase_of_mem hm
   have h2 := nodup_below n (l.erase n) (hn.erase n) fun x hx => by
    have hx' := (List.Nodup.mem_erase_iff hn).1 hx;have := h x hx'.2;omega
   omega
  ·have := nodup_below n l hn fun x hx => by
    have := h x hx;have : x ≠ n := fun e => hm (e ▸ hx)
    omega
   omega
theorem nodup_map {α β : Type} {f : α -> β} : ∀ {l : List α}, l.Nodup -> (∀ a ∈ l, ∀ b ∈ l, f a = f b -> a = b) -> (l.map f).Nodup
 | [], _, _ => List.nodup_nil
 | a :: l, hn, h => by
  rw [List.nodup_cons] at hn;rw [List.map_cons, List.nodup_cons];refine ⟨fun hm => ?_, nodup_map hn.2 fun x hx y hy => h x (by simp [hx]) y (by simp [hy])⟩;obtain ⟨b, hb, e⟩ := List.mem_map.1 hm;exact hn.1 (h a (by simp) b (by simp [hb]) e.symm ▸ hb)
theorem within_count {D : List E2} (hn : D.Nodup) (K : Nat) (z0 : E2) (h : ∀ z ∈ D, -(K : Int) <= z.1 - z0.1 /\ z.1 - z0.1 <= K /\ -(K : Int) <= z.2 - z0.2 /\ z.2 - z0.2 <= K) : D.length <= (2 * K + 1) * (2 * K + 1) := by
 have h1 := nodup_map (f := fun z : E2 => (z.1 - z0.1 + K).toNat * (2 * K + 1) + (z.2 - z0.2 + K).toNat) hn (by
  intro a ha b hb e;have pa := h a ha;have pb := h b hb;obtain ⟨x, hx⟩ : ∃ x, (a.1 - z0.1 + K).toNat = x := ⟨_, rfl⟩;obtain ⟨y, hy⟩ : ∃ y, (b.1 - z0.1 + K).toNat = y := ⟨_, rfl⟩;obtain ⟨u, hu⟩ : ∃ u, (a.2 - z0.2 + K).toNat = u := ⟨_, rfl⟩;obtain ⟨v, hv⟩ : ∃ v, (b.2 - z0.2 + K).toNat = v := ⟨_, rfl⟩;rw [hx, hy, hu, hv] at e;have hu2 : u < 2 * K + 1 := by omega
  have hv2 : v < 2 * K + 1 := by omega
  have e1 : u = v := by
   have := congrArg (· % (2 * K + 1)) e;simpa [Nat.add_mod, Nat.mul_mod_left, Nat.mod_eq_of_lt hu2, Nat.mod_eq_of_lt hv2, Nat.mul_add_mod_self_right, Nat.mul_add_mod_self_left] using this
  have e2 : x = y := by
   subst e1;exact Nat.eq_of_mul_eq_mul_right (by omega) (Nat.add_right_cancel e)
  ext <;> omega)
 have h2 := nodup_below ((2 * K + 1) * (2 * K + 1)) _ h1 (by
  intro x hx;obtain ⟨z, hz, rfl⟩ := List.mem_map.1 hx;have p := h z hz;have a : (z.1 - z0.1 + K).toNat <= 2 * K := by omega
  have b : (z.2 - z0.2 + K).toNat < 2 * K + 1 := by omega
  have := Nat.mul_le_mul_right (2 * K + 1) a;have e : (2 * K + 1) * (2 * K + 1) = 2 * K * (2 * K + 1) + (2 * K + 1) := by rw [Nat.add_mul, Nat.one_mul]
  omega)
 rwa [List.length_map] at h2
def sizeN : Nat -> Int
 | 0 => 52
 | k + 1 => sizeN k * 8 / 3
theorem size_tab : sizeN 0 = 52 /\ sizeN 1 = 138 /\ sizeN 2 = 368 /\ sizeN 3 = 981 /\ sizeN 4 = 2616 /\ sizeN 5 = 6976 /\ sizeN 6 = 18602 /\ sizeN 7 = 49605 /\ sizeN 8 = 132280 /\ sizeN 9 = 352746 /\ sizeN 10 = 940656 /\ sizeN 11 = 2508416 /\ sizeN 12 = 6689109 := by decide
theorem touch_within {m : Nat} (hm : m <= 12) {z z0 lo hi : E2} (h : TouchP (hexC m z) lo hi) (h0 : TouchP (hexC m z0) lo hi) (hw : hi.1 - lo.1 <= 84 * sizeN m) (hh : hi.2 - lo.2 <= 84 * sizeN m) :
  -52 <= z.1 - z0.1 /\ z.1 - z0.1 <= 52 /\ -52 <= z.2 - z0.2 /\ z.2 - z0.2 <= 52 := by
 obtain ⟨q0, q1, q2, q3, q4, q5, q6, q7, q8, q9, q10, q11, q12⟩ := bE_tab;obtain ⟨s0, s1, s2, s3, s4, s5, s6, s7, s8, s9, s10, s11, s12⟩ := size_tab;obtain ⟨a1, a2⟩ := touch_near hm h;obtain ⟨b1, b2⟩ := touch_near hm h0;obtain ⟨c1, c2⟩ := cen_parts m z;obtain ⟨d1, d2⟩ := cen_parts m z0;rw [c1] at a1;rw [c2] at a2;rw [d1] at b1;rw [d2] at b2;clear c1 c2 d1 d2 h h0;obtain ⟨z1, z2⟩ := z;obtain ⟨y1, y2⟩ := z0;obtain ⟨lx, ly⟩ := lo;obtain ⟨hx, hy⟩ := hi;simp only at *;have key : ∀ u v : Int, u = z1 - y1 -> v = z2 - y2 -> -52 <= u /\ u <= 52 /\ -52 <= v /\ v <= 52 := by
  intro u v hu hv;obtain rfl : z1 = y1 + u := by omega
  obtain rfl : z2 = y2 + v := by omega
  rcases upto12 hm with rfl | rfl | rfl | rfl | rfl | rfl | rfl | rfl | rfl | rfl | rfl | rfl | rfl <;>
   (simp only [mulE, q0, q1, q2, q3, q4, q5, q6, q7, q8, q9, q10, q11, q12, s0, s1, s2, s3, s4, s5, s6, s7, s8, s9, s10, s11, s12, ddN] at a1 a2 b1 b2 hw hh) <;> (clear q0 q1 q2 q3 q4 q5 q6 q7 q8 q9 q10 q11 q12 s0 s1 s2 s3 s4 s5 s6 s7 s8 s9 s10 s11 s12 hu hv) <;> omega
 have := key _ _ rfl rfl;omega
theorem touch_few {m : Nat} (hm : m <= 12) {D : List E2} {lo hi : E2} (hn : D.Nodup) (h : ∀ z ∈ D, TouchP (hexC m z) lo hi) (hw : hi.1 - lo.1 <= 84 * sizeN m) (hh : hi.2 - lo.2 <= 84 * sizeN m) : D.length <= 11025 := by
 cases D with
 | nil => simp
 | cons z0 D => exact within_count hn 52 z0 fun z hz => touch_within hm (h z hz) (h z0 (by simp)) hw hh
end
end Go.Proofs.YtpkoapmpknbgoaaGreat.Wd
namespace Go.Proofs.YtpkoapmpknbgoaaGreat
section
open Go.RowKit Go.Lib Wd Cv
def TouchW (R : Nat) (lo hi : E2) (x : Int) : Prop := ∃ z, okB R z = true /\ TouchP (hexC (12 - R) z) (triE lo) (triE hi) /\ x = (wordN R z : Nat)
def CenW (R : Nat) (lo hi : E2) (x : Int) : Prop := ∃ z, okB R z = true /\ inB lo hi (atE (12 - R) z) = true /\ x = (wordN R z : Nat)
def IsBox (R : Nat) (lo hi : E2) (L : List Int) : Prop := Up L /\ (∀ x, x ∈ L ↔ TouchW R lo hi x) /\ L.length <= 20000
def IsCen (R : Nat) (lo hi : E2) (L : List Int) : Prop := Up L /\ (∀ x, x ∈ L ↔ CenW R lo hi x) /\ L.length <= 20000
theorem up_of_srt {l : List Int} (h : l.Nodup) : Up (srt l) := by
 have hp : (srt l).Perm l := List.mergeSort_perm l _;have hn : (srt l).Nodup := hp.nodup_iff.2 h;have hs := srt_sorted l;rw [List.nodup_iff_pairwise_ne] at hn;exact (hs.and hn).imp fun ⟨h1, h2⟩ => by omega
theorem wsL_nodup (R : Nat) {D : List E2} (h : D.Nodup) : (wsL R D).Nodup := by
 unfold wsL;refine nodup_map (h.filter _) fun a ha b hb e => ?_
 have oa : okB R a = true := by simpa using (List.mem_filter.1 ha).2
 have ob : okB R b = true := by simpa using (List.mem_filter.1 hb).2
 have e2 : wordN R a = wordN R b := by omega
 exact (word_inj oa ob e2).2
theorem wsL_mem {R : Nat} {D : List E2} {x : Int} : x ∈ wsL R D ↔ ∃ z, z ∈ D /\ okB R z = true /\ x = (wordN R z : Nat) := by
 unfold wsL;rw [List.mem_map];constructor
 ·rintro ⟨z, hz, rfl⟩
  obtain ⟨h1, h2⟩ := List.mem_filter.1 hz;exact ⟨z, h1, by simpa using h2, rfl⟩
 ·rintro ⟨z, h1, h2, rfl⟩
  exact ⟨z, List.mem_filter.2 ⟨h1, by simpa using h2⟩, rfl⟩
theorem isBox_of {R : Nat} {lo hi : E2} {D : List E2} (h : AllOf (12 - R) (triE lo) (triE hi) D) (hl : D.length <= 20000) : IsBox R lo hi (srt (wsL R D)) := by
 refine ⟨up_of_srt (wsL_nodup R h.1), fun x => ?_, by rw [srt_length]; exact Nat.le_trans (wsL_le R D) hl⟩;rw [srt_mem, wsL_mem];unfold TouchW;constructor
 ·rintro ⟨z, h1, h2, h3⟩; exact ⟨z, h2, (h.2 z).1 h1, h3⟩
 ·rintro ⟨z, h1, h2, h3⟩; exact ⟨z, (h.2 z).2 h2, h1, h3⟩
theorem cen_at (m : Nat) (z : E2) : cenE m z = triE (atE m z) := by
 unfold cenE midE atE spotE triE mulE;generalize bE m = b;ext <;> simp only <;> grind
theorem form_self (m : Nat) (z : E2) : fA m z (cenE m z).1 (cenE m z).2 = 0 /\ fB m z (cenE m z).1 (cenE m z).2 = 0 := by
 unfold fA fB; simp
theorem inZ_self (m : Nat) (z : E2) : InZ m z ((cenE m z).1 : Int) ((cenE m z).2 : Int) := by
 have hp := aN_pos m;rw [inZ_int, (form_self m z).1, (form_self m z).2];omega
theorem touch_at {m : Nat} (hm : m <= 12) {z lo hi : E2} {x y : Int} (h1 : lo.1 <= x /\ x <= hi.1) (h2 : lo.2 <= y /\ y <= hi.2) (h : InZ m z ((3 * x : Int) : Rat) ((3 * y : Int) : Rat)) : TouchP (hexC m z) (triE lo) (triE hi) := by
 rw [touch_iff hm z (triE lo) (triE hi) (by simp only [triE]; omega) (by simp only [triE]; omega)];refine ⟨((3 * x : Int) : Rat), ((3 * y : Int) : Rat), ?_, ?_, ?_, ?_, h⟩ <;> simp only [triE] <;> rw [Rat.intCast_le_intCast] <;> omega
theorem cen_touch {m : Nat} (hm : m <= 12) {z lo hi : E2} (h : inB lo hi (atE m z) = true) : TouchP (hexC m z) (triE lo) (triE hi) := by
 have h1 := (inB_iff lo hi _).1 h;have h2 := inZ_self m z;rw [cen_at m z] at h2;exact touch_at hm ⟨h1.1, h1.2.1⟩ ⟨h1.2.2.1, h1.2.2.2⟩ h2
theorem isCen_of {R : Nat} {lo hi : E2} {D : List E2} (h : AllOf (12 - R) (triE lo) (triE hi) D) (hl : D.length <= 20000) : IsCen R lo hi ((srt (wsL R D)).filter (cenB R lo hi)) := by
 have hb := isBox_of h hl;refine ⟨filter_up hb.1 _, fun x => ?_, Nat.le_trans (List.length_filter_le _ _) hb.2.2⟩;rw [List.mem_filter, hb.2.1];unfold TouchW CenW cenB;constructor
 ·rintro ⟨⟨z, h1, h2, rfl⟩, h3⟩
  rw [Int.toNat_natCast, (word_cell h1).2.2] at h3;exact ⟨z, h1, h3, rfl⟩
 ·rintro ⟨z, h1, h2, rfl⟩
  exact ⟨⟨z, h1, cen_touch (by omega) h2, rfl⟩, by rw [Int.toNat_natCast, (word_cell h1).2.2]; exact h2⟩
def ToldB (w : World) (P : List Int -> Prop) (e : Ending) (w' : World) : Prop :=
 ∃ L ao c n, P L /\ e = .returned (.tuple #[.slice ao n c, .int .i64 0]) /\ n = L.length /\ w'.ownsRow w.heap.size 35 1 (.slice ao n c) n (uV L) /\ Below w.heap.size w w'
theorem few_of {R : Nat} (hR : R <= 12) {lo hi : E2} (hw : hi.1 - lo.1 <= 28 * sizeN (12 - R)) (hh : hi.2 - lo.2 <= 28 * sizeN (12 - R)) {D : List E2} (hn : D.Nodup) (h : ∀ z ∈ D, TouchP (hexC (12 - R) z) (triE lo) (triE hi)) : D.length <= 11025 :=
 touch_few (by omega) hn h (by simp only [triE]; omega) (by simp only [triE]; omega)
end
section
open Go.RowKit Go.Lib Wd
theorem point_in (x y : Int) (w : World) : Calls Tryz.prog 41 #[.int .i64 x, .int .i64 y] w fun e w' => e = .returned (.tuple #[.int .i64 (x % 1073741824), .int .i64 (y % 1073741824)]) /\ Below w.heap.size w w' := by
 have e1 : bits BinOp.and IntKind.i64 x 1073741823 = x % 1073741824 := i64_and_mask x 30 (by omega) 1073741823 rfl;have e2 : bits BinOp.and IntKind.i64 y 1073741823 = y % 1073741824 := i64_and_mask y 30 (by omega) 1073741823 rfl;generalize x % 1073741824 = a at *;generalize y % 1073741824 = b at *
 go_enter Tryz.func41, Tryz.ntmps41
 go_wp2;exact bodyPost_ret (v := .tuple #[.int .i64 a, .int .i64 b]) (by simp [results, Tryz.results41, go_sem]) rfl ⟨rfl, by first | exact Below.refl _ _ | exact below_drewN (Below.refl _ _) _⟩
theorem rem13 (r : Int) : (-13 < r.tmod 13 /\ r.tmod 13 < 13) /\ (r.tmod 13 + 13).tmod 13 = r % 13 := by
 have h : (-13 < r.tmod 13 /\ r.tmod 13 < 13) /\ (r.tmod 13 + 13) % 13 = r % 13 := by
  rcases Int.lt_or_le r 0 with h | h
  ·have e : r.tmod 13 = -((-r) % 13) := by rw [<- Int.tmod_eq_emod_of_nonneg (show 0 <= -r by omega), Int.neg_tmod, Int.neg_neg]
   omega
  ·rw [Int.tmod_eq_emod_of_nonneg h]; omega
 refine ⟨h.1, ?_⟩;rw [Int.tmod_eq_emod_of_nonneg (by omega)];exact h.2
end
section
open Go.RowKit Go.Lib Wd Cv
theorem sizeN_pos {m : Nat} (hm : m <= 12) : 52 <= sizeN m /\ sizeN m <= 6689109 := by
 rcases upto12 hm with rfl | rfl | rfl | rfl | rfl | rfl | rfl | rfl | rfl | rfl | rfl | rfl | rfl <;> decide
end
section
open Go.RowKit Go.Lib Wd
theorem rcell_any (w0 : Nat) (hw : w0 < 18446744073709551616) (w : World) :
  Calls Tryz.prog 14 #[.int .u64 w0] w fun e w' => e = .returned (.tuple #[vC (cvR w0) (cvZ w0), .int .i64 (cvE w0)]) /\ Below w.heap.size w w' := by
 obtain ⟨v1, v2, v3⟩ := head_val w0 hw;obtain ⟨R, hR⟩ : ∃ R, rW w0 = R := ⟨_, rfl⟩;obtain ⟨A, hA⟩ : ∃ A, w0 / 70368744177664 % 1024 = A := ⟨_, rfl⟩;obtain ⟨B, hB⟩ : ∃ A, w0 / 68719476736 % 1024 = A := ⟨_, rfl⟩;have hA1 : A < 1024 := by omega
 have hB1 : B < 1024 := by omega
 have HBW : Hid (bW w0 = ((A : Int) - 512, (B : Int) - 512)) := by show _ = _; unfold bW; rw [hA, hB]
 have HIS : Hid (isW w0 = (decide (w0 / 1152921504606846976 = 1) && decide (R <= 12) && okD (dgW w0) R 12)) := by show _ = _; rw [<- hR]; rfl
 have hr16 : R < 16 := by rw [<- hR]; exact Nat.mod_lt _ (by decide)
 have HYES : Hid (isW w0 = true -> cvR w0 = (R : Int) /\ cvZ w0 = dn (dgW w0) ((A : Int) - 512, (B : Int) - 512) R /\ cvE w0 = 0) := fun h => by
  unfold cvR cvZ cvE zW;simp only [h, if_pos];rw [hR, HBW.out];exact ⟨rfl, rfl, trivial⟩
 have HNO : Hid (isW w0 = false -> cvR w0 = 0 /\ cvZ w0 = (0, 0) /\ cvE w0 = 5) := fun h => by
  unfold cvR cvZ cvE;simp only [h, Bool.false_eq_true, if_false];exact ⟨trivial, trivial, trivial⟩
 rw [hR] at v1;rw [hA] at v2;rw [hB] at v3;clear hR hA hB;have hbad : isW w0 = false -> Hid (∀ w', Below w.heap.size w w' -> ((Ending.returned (.tuple #[.agg #[.int .i64 0, .int .i64 0, .int .i64 0], .int .i64 5]) : Ending) = .returned (.tuple #[vC (cvR w0) (cvZ w0), .int .i64 (cvE w0)]) /\ Below w.heap.size w w')) := fun h w' hb => by
  obtain ⟨e1, e2, e3⟩ := HNO.out h;exact ⟨by rw [e1, e2, e3], hb⟩
 have hdig0 : ∀ k : Nat, k < 12 -> bits .and .u64 ((w0 : Int) / 2 ^ (36 - 3 * (k + 1))) 7 = ((dgW w0 (k + 1) : Nat) : Int) := fun k hk => by
  have e : ((w0 : Int) / 2 ^ (36 - 3 * (k + 1))) = ((w0 / 8 ^ (12 - (k + 1)) : Nat) : Int) := by
   rw [show 36 - 3 * (k + 1) = 3 * (12 - (k + 1)) by omega, show (8 : Nat) ^ (12 - (k + 1)) = 2 ^ (3 * (12 - (k + 1))) by rw [Nat.pow_mul]];simp
  have := Nat.div_le_self w0 (8 ^ (12 - (k + 1)));rw [e, show (7 : Int) = ((7 : Nat) : Int) by rfl, bits_and_u64_nat _ _ (by omega) (by decide), nat_mask3]
  rfl
 have HDO := Lib.hid hdig0;clear hdig0;by_cases h0 : w0 / 1152921504606846976 = 1
 ·have q1 : ((w0 : Int) / 1152921504606846976 != 1) = false := by simp; omega
  by_cases h12 : R <= 12
  ·have q2 : decide (12 < (R : Int)) = false := decide_eq_false (by omega)
   go_enter Tryz.func14, Tryz.ntmps14
   go_wp2;have T0 : Hid (Tri ((w.alloc (.cells #[.int .i64 0, .int .i64 0, .int .i64 0] 39)).alloc (.cells #[.int .i64 ((A : Int) - 512), .int .i64 ((B : Int) - 512)] 37)) w.heap.size 0 (0, 0)) := by
    show _ = _;rw [Below.heap_alloc _ _ _ (by simp)];exact heap_new _ _ _ rfl
   have C0 : Hid (Two2 ((w.alloc (.cells #[.int .i64 0, .int .i64 0, .int .i64 0] 39)).alloc (.cells #[.int .i64 ((A : Int) - 512), .int .i64 ((B : Int) - 512)] 37)) (w.heap.size + 1) (.int .i64 ((A : Int) - 512)) (.int .i64 ((B : Int) - 512))) := Two2.of_row (t := 37) (heap_new _ _ _ (by simp));have HB0 : Hid (Below w.heap.size w ((w.alloc (.cells #[.int .i64 0, .int .i64 0, .int .i64 0] 39)).alloc (.cells #[.int .i64 ((A : Int) - 512), .int .i64 ((B : Int) - 512)] 37))) := ((Below.refl _ _).alloc (Nat.le_refl _) _).alloc (by simp) _;have k2 : ((w.alloc (.cells #[.int .i64 0, .int .i64 0, .int .i64 0] 39)).alloc (.cells #[.int .i64 ((A : Int) - 512), .int .i64 ((B : Int) - 512)] 37)).heap.size = w.heap.size + 2 := by simp
   generalize (w.alloc (.cells #[.int .i64 0, .int .i64 0, .int .i64 0] 39)).alloc (.cells #[.int .i64 ((A : Int) - 512), .int .i64 ((B : Int) - 512)] 37) = w2 at *;have HBB : Hid (baseB ((A : Int) - 512, (B : Int) - 512) = true) := by show _ = _; rw [baseB_iff]; simp only; omega
   have HOK : Hid (isW w0 = okD (dgW w0) R 12) := by show _ = _; rw [HIS.out, decide_eq_true h0, decide_eq_true h12]; rfl
   have HD8 := Lib.hid (dgW_lt w0);have C0 : Hid (Two2 w2 (w.heap.size + 1) (.int .i64 (((A : Int) - 512, (B : Int) - 512) : E2).1) (.int .i64 (((A : Int) - 512, (B : Int) - 512) : E2).2)) := C0.out;generalize (((A : Int) - 512, (B : Int) - 512) : E2) = b at *;clear v1 v2 v3 hA1 hB1 HBW HIS q1 q2 h0;obtain ⟨D, hD⟩ : ∃ D, dgW w0 = D := ⟨_, rfl⟩;rw [hD] at HYES HOK HD8;simp only [hD] at HDO;clear hD
   go_loopw [6] (fun i wr => ∃ k : Nat, k <= 12 /\ i = .int .i64 (k + 1 : Nat) /\ okD D R k = true /\ Hid (Two2 wr (w.heap.size + 1) (.int .i64 (dn D b (min k R)).1) (.int .i64 (dn D b (min k R)).2) /\ Turn (fun q => q = w.heap.size + 1) w2 wr)) (fun i _ => 13 - (intOf i).toNat)
   case atStart => exact ⟨0, by omega, rfl, rfl, by rw [Nat.zero_min]; exact C0.out, Turn.refl _ _⟩
   case round =>
    obtain ⟨k, hk, rfl, hok, HI⟩ := hrel;have hTri := HI.out.1;have hturn := HI.out.2;have hsz := hturn.2.2.2.1;have HT := Lib.hid (T0.out.turn hturn (by omega));have HBR : Hid (Below w.heap.size w wr) := HB0.out.trans (hturn.below (by omega) fun q hq e => by omega);have HTU := Lib.hid hturn;have HTR := Lib.hid hTri;clear hTri hturn HI;by_cases hk12 : k < 12
    ·have hd8 := HD8.out (k + 1)
     have hdv := HDO.out k hk12;have HST : Hid (okD D R (k + 1) = (okD D R k && ((D (k + 1) == 7) == decide (R < k + 1)))) := rfl;have HDN : Hid (dn D b (k + 1) = downE (dn D b k) (D (k + 1))) := rfl;have q1 : decide (((k + 1 : Nat) : Int) <= 12) = true := decide_eq_true (by omega);have q1' : decide ((k : Int) + 1 <= 12) = true := decide_eq_true (by omega);have qs : decide (36 - 3 * ((k : Int) + 1) < 0) = false := decide_eq_false (by omega);obtain ⟨d, hd⟩ : ∃ d, D (k + 1) = d := ⟨_, rfl⟩;rw [hd] at hd8 hdv HST HDN;clear hd;by_cases hd7 : d = 7
     ·by_cases hkr : R < k + 1
      ·have q2 : decide ((R : Int) < ((k + 1 : Nat) : Int)) = true := decide_eq_true (by omega)
       have q2' : decide ((R : Int) < (k : Int) + 1) = true := decide_eq_true (by omega);have HN : okD D R (k + 1) = true := by rw [HST.out, hok, hd7, decide_eq_true hkr]; rfl
       have HM : Hid (Two2 wr (w.heap.size + 1) (.int .i64 (dn D b (min (k + 1) R)).1) (.int .i64 (dn D b (min (k + 1) R)).2)) := by
        have := HTR.out;rw [show min k R = min (k + 1) R by omega] at this;exact this
       subst hd7;go_wp2
       go_roundw
       case rel => exact ⟨k + 1, by omega, by go_num, HN, HM.out, HTU.out⟩
       case measure => simp [intOf]; omega
      ·have q2 : decide ((R : Int) < ((k + 1 : Nat) : Int)) = false := decide_eq_false (by omega)
       have q2' : decide ((R : Int) < (k : Int) + 1) = false := decide_eq_false (by omega);have HF := hbad (by rw [HOK.out]; exact okD_stop (k := k + 1) (by rw [HST.out, hok, hd7, decide_eq_false hkr]; rfl) (by omega));subst hd7;obtain ⟨t0, t1, t2, t3, t4, t5, t6⟩ := HT.out.cells;go_wp2;exact bodyPost_ret (v := .tuple #[.agg #[.int .i64 0, .int .i64 0, .int .i64 0], .int .i64 5]) (by simp [results, Tryz.results14, go_sem, *]) rfl (HF.out _ (((HBR.out.setCell (p := ⟨w.heap.size, 0, none⟩) (Nat.le_refl _) _).setCell (p := ⟨w.heap.size, 1, none⟩) (Nat.le_refl _) _).setCell (p := ⟨w.heap.size, 2, none⟩) (Nat.le_refl _) _))
     ·have q3 : ((d : Int) == 7) = false := by simp; omega
      have q4 : ((d : Int) != 7) = true := by simp; omega
      by_cases hkr : R < k + 1
      ·have q2 : decide ((R : Int) < ((k + 1 : Nat) : Int)) = true := decide_eq_true (by omega)
       have q2' : decide ((R : Int) < (k : Int) + 1) = true := decide_eq_true (by omega);have HF := hbad (by rw [HOK.out]; exact okD_stop (k := k + 1) (by rw [HST.out, hok, decide_eq_true hkr, beq_eq_false_iff_ne.2 hd7]; rfl) (by omega));obtain ⟨t0, t1, t2, t3, t4, t5, t6⟩ := HT.out.cells;go_wp2;exact bodyPost_ret (v := .tuple #[.agg #[.int .i64 0, .int .i64 0, .int .i64 0], .int .i64 5]) (by simp [results, Tryz.results14, go_sem, *]) rfl (HF.out _ (((HBR.out.setCell (p := ⟨w.heap.size, 0, none⟩) (Nat.le_refl _) _).setCell (p := ⟨w.heap.size, 1, none⟩) (Nat.le_refl _) _).setCell (p := ⟨w.heap.size, 2, none⟩) (Nat.le_refl _) _))
      ·have q2 : decide ((R : Int) < ((k + 1 : Nat) : Int)) = false := decide_eq_false (by omega)
       have q2' : decide ((R : Int) < (k : Int) + 1) = false := decide_eq_false (by omega);have HN : okD D R (k + 1) = true := by rw [HST.out, hok, decide_eq_false hkr, beq_eq_false_iff_ne.2 hd7]; rfl
       have hmk : min k R = k := by omega
       have hmk2 : min (k + 1) R = k + 1 := by omega
       rw [hmk] at HTR;have hdig : ∀ j, 0 < j -> j <= k -> D j < 7 := fun j h1 h2 => by
        have h3 := (okD_iff D R k).1 hok j h1 h2;have := HD8.out j;omega
       have hhx := (dn_hex HBB.out hdig (Nat.le_refl k)).mono (hexH_le hk);have HMU := Lib.hid (rmul_in (dn D b k) (2, 1) (hhx.sm.mono (by decide)) (by unfold Sm; simp) (by unfold Hex at hhx; unfold Sm mulE; simp only; omega));have hmb : Sm 8589934592 (mulE (dn D b k) (2, 1)) := by unfold Hex at hhx; unfold Sm mulE; simp only; omega
       obtain ⟨x, hx⟩ : ∃ x, dn D b k = x := ⟨_, rfl⟩;rw [hx] at HMU HTR HDN hmb;have HDE : Hid (dn D b (k + 1) = addE (mulE x (2, 1)) (leftE d)) := HDN.out;generalize mulE x (2, 1) = m at *;simp only [vE] at HMU;obtain ⟨⟨c0, c1⟩, c2, c3⟩ := HTR.out;unfold Sm at hmb;obtain ⟨hm1, hm2, hm3, hm4⟩ := hmb;clear hhx hdig hx hmk HDN HST hbad HNO HBB HD8
       go_wp2_with fail
       refine (HMU.out _).mono ?_;rintro e w5 ⟨rfl, hb5⟩;have hz5 := hb5.size;have h5 := HTR.out.later (by omega) hb5;have HP := Lib.hid (h5.put (.int .i64 m.1) (.int .i64 m.2));have HTU2 : Hid (Turn (fun q => q = w.heap.size + 1) w2 ((w5.setCell ⟨w.heap.size + 1, 0, none⟩ (.int .i64 m.1)).setCell ⟨w.heap.size + 1, 1, none⟩ (.int .i64 m.2))) := (HTU.out.trans (Turn.of_below hb5) fun _ _ h => h).trans HP.out.2 fun _ _ h => h
       have hz6 := HP.out.2.2.2.2.1;obtain ⟨⟨e0, e1⟩, e2, e3⟩ := h5;clear hb5 c0 c1 c2 c3 HTR HT HTU HMU HBR
       go_upto_region 15 with (fail)
       generalize ((w5.setCell ⟨w.heap.size + 1, 0, none⟩ (.int .i64 m.1)).setCell ⟨w.heap.size + 1, 1, none⟩ (.int .i64 m.2)) = w6 at *;obtain ⟨⟨g0, g1⟩, g2, g3⟩ := HP.out.1;clear e0 e1 e2 e3;cases d with
       | zero =>
        have HDZ : Hid (dn D b (k + 1) = m) := by show _ = _; rw [HDE.out]; show (m.1 + 0, m.2 + 0) = m; simp
        have HFI : Hid (Two2 w6 (w.heap.size + 1) (.int .i64 (dn D b (min (k + 1) R)).1) (.int .i64 (dn D b (min (k + 1) R)).2) /\ Turn (fun q => q = w.heap.size + 1) w2 w6) := ⟨by rw [hmk2, HDZ.out]; exact HP.out.1, HTU2.out⟩;go_wp2
        go_roundw
        case rel => exact ⟨k + 1, by omega, by go_num, HN, HFI.out⟩
        case measure => simp [intOf]; omega
       | succ d =>
        have HDZ : Hid (dn D b (k + 1) = addE m (leftE (d + 1))) := HDE.out;have HUN := Lib.hid (runit_in d (by omega));have hul := left_sm (d + 1);have hle : leftE (d + 1) = unitE d := rfl;rw [hle] at HDZ hul;simp only [vE] at HUN;generalize unitE d = u at *;unfold Sm at hul;obtain ⟨hu1, hu2, hu3, hu4⟩ := hul;have hws : w.heap.size + 1 < w6.heap.size := by omega
        clear hle
        go_wp2_with fail
        refine (HUN.out _).mono ?_;rintro e w7 ⟨rfl, hb7⟩;have hz7 := hb7.size;have hal : Below w7.heap.size w7 (w7.alloc (.cells #[.int .i64 u.1, .int .i64 u.2] 37)) := (Below.refl _ _).alloc (Nat.le_refl _) _;have k7 := World.size_alloc w7 (.cells #[.int .i64 u.1, .int .i64 u.2] 37);have h8 := (HP.out.1.later hws hb7).later (by omega) hal;have hU8 : Two (w7.alloc (.cells #[.int .i64 u.1, .int .i64 u.2] 37)) w7.heap.size (.int .i64 u.1) (.int .i64 u.2) := Two.of_row (t := 37) (f := _) (heap_new _ _ _ rfl);have HT8 : Hid (Turn (fun q => q = w.heap.size + 1) w2 (w7.alloc (.cells #[.int .i64 u.1, .int .i64 u.2] 37))) := (HTU2.out.trans (Turn.of_below hb7) fun _ _ h => h).trans (Turn.of_below hal) fun _ _ h => h
        clear hal hb7 g0 g1 g2 g3
        go_upto_region 17 with (fail)
        generalize w7.alloc (.cells #[.int .i64 u.1, .int .i64 u.2] 37) = w8 at *;have hp := h8.put (.int .i64 (m.1 + u.1)) (.int .i64 (m.2 + u.2));have HFI : Hid (Two2 ((w8.setCell ⟨w.heap.size + 1, 0, none⟩ (.int .i64 (m.1 + u.1))).setCell ⟨w.heap.size + 1, 1, none⟩ (.int .i64 (m.2 + u.2))) (w.heap.size + 1) (.int .i64 (dn D b (min (k + 1) R)).1) (.int .i64 (dn D b (min (k + 1) R)).2) /\ Turn (fun q => q = w.heap.size + 1) w2 ((w8.setCell ⟨w.heap.size + 1, 0, none⟩ (.int .i64 (m.1 + u.1))).setCell ⟨w.heap.size + 1, 1, none⟩ (.int .i64 (m.2 + u.2)))) := ⟨by rw [hmk2, HDZ.out]; exact hp.1, HT8.out.trans hp.2 fun _ _ h => h⟩;obtain ⟨⟨g0, g1⟩, g2, g3⟩ := h8;obtain ⟨i0, i1⟩ := hU8;have hl7 : w7.heap.size < w8.heap.size := by omega
        have hl8 : w.heap.size + 1 < w8.heap.size := by omega
        clear hp k7;go_wp2
        go_roundw
        case rel => exact ⟨k + 1, by omega, by go_num, HN, HFI.out⟩
        case measure => simp [intOf]; omega
    ·obtain rfl : k = 12 := by omega
     rw [Nat.min_eq_right h12] at HTR;obtain ⟨y1, y2, y3⟩ := HYES.out (by rw [HOK.out]; exact hok);have HY : Hid (vC (cvR w0) (cvZ w0) = vC R (dn D b R) /\ cvE w0 = 0) := ⟨by rw [y1, y2], y3⟩;obtain ⟨⟨c0, c1⟩, c2, c3⟩ := HTR.out;obtain ⟨t0, t1, t2, t3, t4, t5, t6⟩ := HT.out.cells;generalize dn D b R = x at *;clear y1 y2 y3 HTR HT HYES;go_wp2;exact bodyPost_ret (v := .tuple #[.agg #[.int .i64 R, .int .i64 x.1, .int .i64 x.2], .int .i64 0]) (by simp [results, Tryz.results14, go_sem, *]) rfl ⟨by rw [HY.out.1, HY.out.2], (((HBR.out.setCell (p := ⟨w.heap.size, 0, none⟩) (Nat.le_refl _) _).setCell (p := ⟨w.heap.size, 1, none⟩) (Nat.le_refl _) _).setCell (p := ⟨w.heap.size, 2, none⟩) (Nat.le_refl _) _)⟩
  ·have HF := hbad (by rw [HIS.out, decide_eq_false h12]; simp)
   have q2 : decide (12 < (R : Int)) = true := decide_eq_true (by omega);clear h0
   go_enter Tryz.func14, Tryz.ntmps14
   go_wp2;exact bodyPost_ret (v := .tuple #[.agg #[.int .i64 0, .int .i64 0, .int .i64 0], .int .i64 5]) (by simp [results, Tryz.results14, go_sem]) rfl (HF.out _ ((Below.refl _ _).alloc (Nat.le_refl _) _))
 ·have HF := hbad (by rw [HIS.out, decide_eq_false h0]; rfl)
  have q1 : ((w0 : Int) / 1152921504606846976 != 1) = true := by simp; omega
  clear h0
  go_enter Tryz.func14, Tryz.ntmps14
  go_wp2;exact bodyPost_ret (v := .tuple #[.agg #[.int .i64 0, .int .i64 0, .int .i64 0], .int .i64 5]) (by simp [results, Tryz.results14, go_sem]) rfl (HF.out _ ((Below.refl _ _).alloc (Nat.le_refl _) _))
abbrev Cl := Int × E2
def cV (l : List Cl) : List Value := l.flatMap fun c => [.int .i64 c.1, .int .i64 c.2.1, .int .i64 c.2.2]
def cg (l : List Cl) (k : Nat) : Cl := l.getD k (0, (0, 0))
theorem cV_append (a b : List Cl) : cV (a ++ b) = cV a ++ cV b := by simp [cV]
theorem cV_get : ∀ (l : List Cl) (k : Nat), k < l.length -> (cV l)[k * 3]? = some (.int .i64 (cg l k).1) /\ (cV l)[k * 3 + 1]? = some (.int .i64 (cg l k).2.1) /\ (cV l)[k * 3 + 2]? = some (.int .i64 (cg l k).2.2)
 | [], k, h => by simp at h
 | p :: l, 0, _ => by simp [cV, cg]
 | p :: l, k + 1, h => by
  have ih := cV_get l k (by simpa using h);have e : cV (p :: l) = [.int .i64 p.1, .int .i64 p.2.1, .int .i64 p.2.2] ++ cV l := rfl;have g : cg (p :: l) (k + 1) = cg l k := rfl;rw [e, g, List.getElem?_append_right (by simp; omega), List.getElem?_append_right (by simp; omega), List.getElem?_append_right (by simp; omega)];simp only [List.length_cons, List.length_nil];rw [show (k + 1) * 3 - (0 + 1 + 1 + 1) = k * 3 by omega, show (k + 1) * 3 + 1 - (0 + 1 + 1 + 1) = k * 3 + 1 by omega, show (k + 1) * 3 + 2 - (0 + 1 + 1 + 1) = k * 3 + 2 by omega];exact ih
def CAt (w : World) (ao : Option Addr) (l : List Cl) : Prop :=
 0 < l.length -> ∃ b off, ao = some ⟨b, off, none⟩ /\ b < w.heap.size /\ ∀ k, k < l.length ->
  w.cell? ⟨b, off + k * 3, none⟩ = some (.int .i64 (cg l k).1) /\ w.cell? ⟨b, off + k * 3 + 1, none⟩ = some (.int .i64 (cg l k).2.1) /\ w.cell? ⟨b, off + k * 3 + 2, none⟩ = some (.int .i64 (cg l k).2.2)
theorem CAt.below {w w' : World} {ao : Option Addr} {l : List Cl} (h : CAt w ao l) (hb : Below w.heap.size w w') : CAt w' ao l := fun h0 => by
 obtain ⟨b, off, e, hlt, hc⟩ := h h0;refine ⟨b, off, e, Nat.lt_of_lt_of_le hlt hb.size, fun k hk => ?_⟩;rw [hb.cell (p := ⟨b, _, none⟩) hlt, hb.cell (p := ⟨b, _, none⟩) hlt, hb.cell (p := ⟨b, _, none⟩) hlt];exact hc k hk
theorem cAt_own {w : World} {base n c : Nat} {ao : Option Addr} {l : List Cl} (hn : n = l.length) (h : w.ownsRow base 39 3 (.slice ao n c) n (cV l)) : CAt w ao l := fun h0 => by
 subst hn;obtain ⟨ao', c', e, _, hh⟩ := own_form h;cases e;obtain ⟨g, rfl, _, hlt, hc⟩ := hh h0;exact ⟨g, 0, rfl, hlt, fun i hi => by
  have := cV_get l i hi;rw [Nat.zero_add];exact ⟨hc _ _ this.1, hc _ _ this.2.1, hc _ _ this.2.2⟩⟩
def ToldC (w : World) (L : List Cl) (E : Int) (e : Ending) (w' : World) : Prop := ∃ ao c, e = .returned (.tuple #[.slice ao L.length c, .int .i64 E]) /\ CAt w' ao L /\ Below w.heap.size w w'
def ToldN (w : World) (L : List Cl) (E : Int) (e : Ending) (w' : World) : Prop := ∃ ao c, e = .returned (.tuple #[.slice ao L.length c, .int .i64 E]) /\ CAt w' ao L /\ Below w.heap.size w w' /\ ∀ b o s, ao = some ⟨b, o, s⟩ -> w.heap.size <= b /\ b < w'.heap.size
theorem ToldN.nil {w w' : World} {E : Int} (h : Below w.heap.size w w') : ToldN w [] E (.returned (.tuple #[.slice none 0 0, .int .i64 E])) w' := ⟨Option.none, 0, rfl, fun h => by simp at h, h, fun _ _ _ h => by cases h⟩
def kidsL (r : Int) (z : E2) : List Cl := (List.range 7).map fun d => (r + 1, downE z d)
def kdE (r : Int) (z : E2) : Int := if okB r z = true then (if r = 12 then 1 else 0) else 2
def kdL (r : Int) (z : E2) : List Cl := if kdE r z = 0 then kidsL r z else []
theorem kidsL_take (r : Int) (z : E2) {k : Nat} (h : k < 7) : (kidsL r z).take (k + 1) = (kidsL r z).take k ++ [(r + 1, downE z k)] := by
 rw [List.take_add_one];congr 1;unfold kidsL;rw [List.getElem?_map, List.getElem?_range h]
 rfl
theorem kidsL_get (r : Int) (z : E2) {k : Nat} (h : k < 7) : cg (kidsL r z) k = (r + 1, downE z k) := by
 unfold cg kidsL;rw [List.getD_eq_getElem?_getD, List.getElem?_map, List.getElem?_range h]
 rfl
theorem info_c : (Tryz.prog.info? 39).map (fun i => (i.zero, i.size, i.bytes)) = some (some (.agg #[.int .i64 0, .int .i64 0, .int .i64 0]), 3, 24) := by kernel_rfl
theorem ok_parts {r : Int} {z : E2} (h : okB r z = true) : 0 <= r /\ r <= 12 /\ Sm 1073741824 z := by
 have h1 := (shapeB_iff _ _).1 ((okB_iff _ _).1 h).1;exact ⟨h1.1, h1.2.1, h1.2.2.1, h1.2.2.2.1, h1.2.2.2.2.1, h1.2.2.2.2.2⟩
theorem rkids_new (r : Int) (z : E2) (w : World) : Calls Tryz.prog 92 #[vC r z] w (ToldN w (kdL r z) (kdE r z)) := by
 obtain ⟨i1, hj, hy0, hy1, hy2⟩ := info_parts info_c;have HOK := Lib.hid (rok_any r z);have HAL : Hid (Below w.heap.size w (w.alloc (.cells #[.int .i64 r, .int .i64 z.1, .int .i64 z.2] 39))) := (Below.refl _ _).alloc (Nat.le_refl _) _;have HTR : Hid (Tri (w.alloc (.cells #[.int .i64 r, .int .i64 z.1, .int .i64 z.2] 39)) w.heap.size r z) := heap_new _ _ _ rfl;have kA : (w.alloc (.cells #[.int .i64 r, .int .i64 z.1, .int .i64 z.2] 39)).heap.size = w.heap.size + 1 := by simp
 by_cases h : okB r z = true
 ·obtain ⟨r0, r12, hsm⟩ := ok_parts h
  rw [h] at HOK;by_cases hr : r = 12
  ·subst hr
   have hE : kdE 12 z = 1 := by unfold kdE; rw [if_pos h, if_pos rfl]
   have hL : kdL 12 z = [] := by unfold kdL; rw [hE]; rfl
   rw [hE, hL];clear hE hL h hsm r0 r12;simp only [vC] at *
   go_enter Tryz.func92, Tryz.ntmps92
   go_wp2_with fail
   refine (HOK.out _).mono ?_;rintro e w1 ⟨rfl, hb1⟩;obtain ⟨c0, c1, c2, c3, c4, c5, c6⟩ := (HTR.out.later hb1).cells;have HB := Lib.hid (HAL.out.trans (hb1.mono (by omega)));clear hb1;go_wp2;go_ret2;exact ToldN.nil HB.out
  ·have hE : kdE r z = 0 := by unfold kdE; rw [if_pos h, if_neg hr]
   have hL : kdL r z = kidsL r z := by unfold kdL; rw [if_pos hE]
   have q1 : (r == 12) = false := by simp [hr]
   have hm : Sm 4294967296 (mulE z (2, 1)) := by unfold Sm mulE at *; simp only; omega
   have HMU := Lib.hid (rmul_in z (2, 1) (hsm.mono (by decide)) (by unfold Sm; simp) (hm.mono (by decide)));have HDN : Hid (∀ k, downE z (k + 1) = ((mulE z (2, 1)).1 + (unitE k).1, (mulE z (2, 1)).2 + (unitE k).2)) := fun k => rfl
   have HD0 : Hid (downE z 0 = mulE z (2, 1)) := by
    show addE (mulE z (2, 1)) (0, 0) = _;unfold addE; simp
   rw [hE, hL];have HTK := Lib.hid (fun k (h : k < 7) => kidsL_take r z h);have HLN : Hid ((kidsL r z).length = 7) := by show _ = _; unfold kidsL; simp
   have HT1 : Hid ((kidsL r z).take 1 = [(r + 1, downE z 0)]) := rfl;generalize kidsL r z = L at *;generalize mulE z (2, 1) = m at *;unfold Sm at hm;obtain ⟨m1, m2, m3, m4⟩ := hm;clear hE hL h hsm hr;simp only [vC, vE] at *
   go_enter Tryz.func92, Tryz.ntmps92
   go_wp2_with fail
   refine (HOK.out _).mono ?_;rintro e w1 ⟨rfl, hb1⟩;have HTR1 := Lib.hid (HTR.out.later hb1);obtain ⟨c0, c1, c2, c3, c4, c5, c6⟩ := HTR1.out.cells;have HB1 := Lib.hid (HAL.out.trans (hb1.mono (by omega)));have hz1 := hb1.size;clear hb1 HTR HAL
   go_wp2_with fail
   refine (HMU.out _).mono ?_;rintro e w2 ⟨rfl, hb2⟩;have HTR2 := Lib.hid (HTR1.out.later hb2);have HB2 := Lib.hid (HB1.out.trans (hb2.mono (by omega)));have hz2 := hb2.size;clear hb2 HTR1 HB1 c0 c1 c2 c3 c4 c5 c6;have hal : Below w2.heap.size w2 (w2.alloc (.cells #[.int .i64 m.1, .int .i64 m.2] 37)) := (Below.refl _ _).alloc (Nat.le_refl _) _;have M0 : Hid (Two (w2.alloc (.cells #[.int .i64 m.1, .int .i64 m.2] 37)) w2.heap.size (.int .i64 m.1) (.int .i64 m.2)) := Two.of_row (t := 37) (f := _) (heap_new _ _ _ rfl);have HTR3 := Lib.hid (HTR2.out.later hal);have HB3 := Lib.hid (HB2.out.trans (hal.mono (by omega)));have hz3 : w2.heap.size < (w2.alloc (.cells #[.int .i64 m.1, .int .i64 m.2] 37)).heap.size := by simp
   clear hal HTR2 HB2
   go_upto_region 6 with (fail)
   generalize w2.alloc (.cells #[.int .i64 m.1, .int .i64 m.2] 37) = w3 at *;obtain ⟨c0, c1, c2, c3, c4, c5, c6⟩ := HTR3.out.cells;obtain ⟨d0, d1⟩ := M0.out;have q3 : IntKind.i64.wrap (r + 1) = r + 1 := wrap_in (by omega) (by omega)
   go_upto_region 7 with (fail)
   have HO0 : Hid ((w3.alloc (.cells #[.int .i64 (r + 1), .int .i64 m.1, .int .i64 m.2] 39)).ownsRow w3.heap.size 39 3 (.slice (some ⟨w3.heap.size, 0, none⟩) 1 1) 1 (cV (L.take 1))) := by rw [HT1.out, HD0.out]; exact World.ownsRow_lit (size := 3) (e := 39) w3 #[.int .i64 (r + 1), .int .i64 m.1, .int .i64 m.2] 1 (Nat.le_refl _) (by decide) rfl
   have HB4 : Hid (Below w3.heap.size w3 (w3.alloc (.cells #[.int .i64 (r + 1), .int .i64 m.1, .int .i64 m.2] 39))) := (Below.refl _ _).alloc (Nat.le_refl _) _;generalize w3.alloc (.cells #[.int .i64 (r + 1), .int .i64 m.1, .int .i64 m.2] 39) = w4 at *;clear c0 c1 c2 c3 c4 c5 d0 d1;have hb4 := HB4.out.size;go_wp2
   go_loopw [6, 7] (fun sl i wr => ∃ (k : Nat) (ao : Option Addr) (c : Nat), k <= 6 /\ i = .int .i64 k /\ sl = .slice ao (k + 1) c /\ Hid (wr.ownsRow w3.heap.size 39 3 (.slice ao (k + 1) c) (k + 1) (cV (L.take (k + 1))) /\ Below w3.heap.size w3 wr)) (fun _ i _ => 6 - (intOf i).toNat)
   case atStart => exact ⟨0, _, _, by omega, rfl, rfl, HO0.out, HB4.out⟩
   case round =>
    obtain ⟨k, ao, c, hk, rfl, rfl, HI⟩ := hrel;by_cases hlt : k < 6
    ·have q2 : decide ((k : Int) < 6) = true := decide_eq_true (by omega)
     have HUN := Lib.hid (runit_in k hlt);have hu := left_sm (k + 1);rw [show leftE (k + 1) = unitE k from rfl] at hu;unfold Sm at hu;obtain ⟨u1, u2, u3, u4⟩ := hu;have HTK2 := Lib.hid (HTK.out (k + 1) (by omega));rw [HDN.out k] at HTK2;simp only [vE] at HUN;generalize unitE k = u at *;have hsr := HI.out.2.size;have HTX := Lib.hid (HTR3.out.later HI.out.2);have HMX := Lib.hid (M0.out.later (by omega) HI.out.2);have HOW := Lib.hid HI.out.1;have HBW := Lib.hid (HB3.out.trans (HI.out.2.mono (by omega)));have HBX := Lib.hid HI.out.2;clear HI
     go_wp2_with fail
     refine (HUN.out _).mono ?_;rintro e w5 ⟨rfl, hb5⟩;have hz5 := hb5.size;have HTY := Lib.hid (HTX.out.later hb5);have HMY := Lib.hid (HMX.out.later (by omega) hb5);have HOY := Lib.hid (own_later HOW.out hb5);have HBY := Lib.hid (HBX.out.trans (hb5.mono (by omega)));clear hb5 HTX HMX HOW HBX HBW;have hal : Below w5.heap.size w5 (w5.alloc (.cells #[.int .i64 u.1, .int .i64 u.2] 37)) := (Below.refl _ _).alloc (Nat.le_refl _) _;have U0 : Hid (Two (w5.alloc (.cells #[.int .i64 u.1, .int .i64 u.2] 37)) w5.heap.size (.int .i64 u.1) (.int .i64 u.2)) := Two.of_row (t := 37) (f := _) (heap_new _ _ _ rfl);have HTZ := Lib.hid (HTY.out.later hal);have HMZ := Lib.hid (HMY.out.later (by omega) hal);have HOZ := Lib.hid (own_later HOY.out hal);have HBZ := Lib.hid (HBY.out.trans (hal.mono (by omega)));have hz6 : w5.heap.size < (w5.alloc (.cells #[.int .i64 u.1, .int .i64 u.2] 37)).heap.size := by simp
     clear hal HTY HMY HOY HBY
     go_upto_region 11 with (fail)
     generalize w5.alloc (.cells #[.int .i64 u.1, .int .i64 u.2] 37) = w6 at *;obtain ⟨c0, c1, c2, c3, c4, c5, c6⟩ := HTZ.out.cells;obtain ⟨d0, d1⟩ := HMZ.out;obtain ⟨e0, e1⟩ := U0.out;clear HTZ HMZ U0 c1 c2 c3 c4 c5;have hown := HOZ.out;clear HOZ
     go_wp2_with (at_builtin; refine wpList_append_own _ rfl (.tmp 36) (.tmp 52) 134 rfl w3.heap.size 39 i1 (.agg #[.int .i64 0, .int .i64 0, .int .i64 0]) 3 24 Tryz.underlying134 hj hy0 hy1 hy2 rfl (by decide) _ _ _ rfl (hown.alloc _) ⟨w6.heap.size, 0, none⟩ 1 1 [.int .i64 (r + 1), .int .i64 (m.1 + u.1), .int .i64 (m.2 + u.2)] rfl rfl (cells_new _ _ _ _ rfl) (by simp [Value.oneCell']) (by unfold maxLen; omega) (by omega) (by simp; omega) ?_; intro v' w7 hown1 hgrow _)
     have HB7 : Hid (Below w3.heap.size w3 w7) := below_append (HBZ.out.alloc (by omega) (.cells #[.int .i64 (r + 1), .int .i64 (m.1 + u.1), .int .i64 (m.2 + u.2)] 39)) (hown.alloc (.cells #[.int .i64 (r + 1), .int .i64 (m.1 + u.1), .int .i64 (m.2 + u.2)] 39)) (by simp; omega) hgrow;obtain ⟨ao', c', rfl, _⟩ := own_form hown1;have HO7 : Hid (w7.ownsRow w3.heap.size 39 3 (.slice ao' (k + 1 + 1) c') (k + 1 + 1) (cV (L.take (k + 1 + 1)))) := by rw [HTK2.out, cV_append]; exact hown1
     clear hown1 hgrow hown;go_wp2
     go_roundw
     case rel => exact ⟨k + 1, ao', c', by omega, by go_num, rfl, HO7.out, HB7.out⟩
     case measure => simp [intOf]; omega
    ·obtain rfl : k = 6 := by omega
     have HF : Hid (ToldN w L 0 (.returned (.tuple #[.slice ao 7 c, .int .i64 0])) wr) := by
      have h1 := HI.out.1;rw [show L.take (6 + 1) = L from List.take_of_length_le (by rw [HLN.out]; exact Nat.le_refl _)] at h1;exact ⟨ao, c, by rw [HLN.out], cAt_own (by rw [HLN.out]) h1, HB3.out.trans (HI.out.2.mono (by omega)), fun b o s e => ⟨by have := (own_lt h1 b o s e).1; omega, (own_lt h1 b o s e).2⟩⟩
     clear HI;go_wp2;go_ret2;exact HF.out
 ·have hE : kdE r z = 2 := by unfold kdE; rw [if_neg h]
  have hL : kdL r z = [] := by unfold kdL; rw [hE]; rfl
  rw [hE, hL];rw [Bool.eq_false_iff.2 h] at HOK;clear hE hL h;simp only [vC] at *
  go_enter Tryz.func92, Tryz.ntmps92
  go_wp2_with fail
  refine (HOK.out _).mono ?_;rintro e w1 ⟨rfl, hb1⟩;have HB := Lib.hid (HAL.out.trans (hb1.mono (by omega)));clear hb1;go_wp2;go_ret2;exact ToldN.nil HB.out
theorem rkids_any (r : Int) (z : E2) (w : World) : Calls Tryz.prog 92 #[vC r z] w (ToldC w (kdL r z) (kdE r z)) :=
 (rkids_new r z w).mono fun _ _ ⟨ao, c, h1, h2, h3, _⟩ => ⟨ao, c, h1, h2, h3⟩
theorem ofW_ok {r : Nat} {z : E2} (h : okB r z = true) : ofW r z = wordN r z /\ ofE r z = 0 /\ ofW r z < 18446744073709551616 := by
 unfold ofW ofE;rw [if_pos h, if_pos h];have := wordN_lt h;exact ⟨rfl, rfl, by show wordN r z < _; omega⟩
theorem kid_ok {r : Nat} {z : E2} (h : okB r z = true) (hr : r + 1 <= 12) {d : Nat} (hd : d < 7) : okB (r + 1 : Nat) (downE z d) = true := by
 refine ok_of_base hr ?_;have e : upN (r + 1) (downE z d) = upN r z := by
  show upN r (upE (downE z d)) = _;rw [upE_down z hd]
 rw [e];exact (okB_parts h).2
theorem kd_ok {r : Nat} {z : E2} (h : okB r z = true) (hr : r + 1 <= 12) : kdE r z = 0 /\ kdL r z = kidsL r z := by
 have hE : kdE r z = 0 := by unfold kdE; rw [if_pos h, if_neg (by omega)]
 exact ⟨hE, by unfold kdL; rw [if_pos hE]⟩
theorem take_w (V : List Int) {k : Nat} (h : k < V.length) : V.take (k + 1) = V.take k ++ [V.getD k 0] := by
 rw [List.take_add_one, List.getElem?_eq_getElem h, List.getD_eq_getElem?_getD, List.getElem?_eq_getElem h]
 rfl
def parW (w : Nat) : Nat := if isW w = true /\ rW w ≠ 0 then ofW ((rW w : Int) - 1) (upE (zW w)) else 0
def parE (w : Nat) : Int := if isW w = true then (if rW w = 0 then 3 else 0) else 5
def resW (w : Nat) : Int := if isW w = true then (rW w : Int) else -1
def chkF (r : Int) : List Int -> Int
 | [] => 0
 | w :: l => if isW w.toNat = true then (if (rW w.toNat : Int) = r then chkF r l else 8) else 5
theorem snoc_ind {α : Type} {P : List α -> Prop} (h0 : P []) (h1 : ∀ l a, P l -> P (l ++ [a])) : ∀ l, P l := by
 intro l;have : ∀ r : List α, P r.reverse := by
  intro r
  induction r with
  | nil => exact h0
  | cons a r ih => rw [List.reverse_cons]; exact h1 _ _ ih
 have := this l.reverse
 rwa [List.reverse_reverse] at this
theorem up_ok {r : Nat} {z : E2} (h : okB (r + 1 : Nat) z = true) : okB r (upE z) = true := by
 obtain ⟨h1, h2⟩ := okB_parts h;refine ok_of_base (by omega) ?_;exact h2
theorem parW_lt (w : Nat) : parW w < 18446744073709551616 := by
 unfold parW
 split
 ·next h =>
  unfold ofW
  split
  ·next h2 =>
   obtain ⟨k, hk, hk2⟩ := okB_nat h2;rw [hk] at h2;have := (wordN_lt h2).1;rw [hk, Int.toNat_natCast];omega
  ·omega
 ·omega
end
section
open Go.RowKit Go.Lib Wd Cv
end
end Go.Proofs.YtpkoapmpknbgoaaGreat
namespace Go.Proofs.YtpkoapmpknbgoaaGreat.Po
section
open Go.RowKit
def ringV (l : List Pt) : List Value := l.flatMap fun p => [.int .i64 p.1, .int .i64 p.2]
theorem ringV_get : ∀ (l : List Pt) (k : Nat), k < l.length -> (ringV l)[k * 2]? = some (.int .i64 (px l k)) /\ (ringV l)[k * 2 + 1]? = some (.int .i64 (py l k))
 | [], k, h => by simp at h
 | p :: l, 0, _ => by simp [ringV, px, py]
 | p :: l, k + 1, h => by
  have ih := ringV_get l k (by simpa using h);have e1 : (k + 1) * 2 = k * 2 + 1 + 1 := by omega
  have e2 : (k + 1) * 2 + 1 = k * 2 + 1 + 1 + 1 := by omega
  rw [e2, e1];exact ih
theorem ringAt_cells {w : World} {B b : Nat} {l : List Pt} (hb : b < B) (hc : ∀ j u, (ringV l)[j]? = some u -> w.cell? ⟨b, j, none⟩ = some u) : RingAt w B (some ⟨b, 0, none⟩) l :=
 fun _ => ⟨b, 0, rfl, hb, fun k hk => by
  obtain ⟨h1, h2⟩ := ringV_get l k hk;simp only [Nat.zero_add];exact ⟨hc _ _ h1, hc _ _ h2⟩⟩
theorem ringAt_new (w : World) (l : List Pt) (t : TypeId) : RingAt (w.alloc (.cells (ringV l).toArray t)) (w.heap.size + 1) (some ⟨w.heap.size, 0, none⟩) l :=
 ringAt_cells (by omega) fun j u hu => by
  rw [cell_of_row _ w.heap.size j _ t (0, 0) (heap_new w _ _ rfl)]; simpa using hu
end
end Go.Proofs.YtpkoapmpknbgoaaGreat.Po
namespace Go.Proofs.YtpkoapmpknbgoaaGreat
section
open Go.RowKit Go.Lib Wd Cv
theorem rgAt_lit (w : World) (l : List (Int × Int)) (hl : l.length <= 1000) (ci : Nat) :
  RgAt ((w.alloc (.cells (Po.ringV l).toArray 26)).alloc (.cells #[.slice (some ⟨w.heap.size, 0, none⟩) l.length ci] 27)) (w.heap.size + 1 + 1) (some ⟨w.heap.size + 1, 0, none⟩) 1 [l] /\
  Below w.heap.size w ((w.alloc (.cells (Po.ringV l).toArray 26)).alloc (.cells #[.slice (some ⟨w.heap.size, 0, none⟩) l.length ci] 27)) := by
 have h1 := Po.rings_one ci 27 (Po.ringAt_new w l 26) (by rw [World.size_alloc]; omega);have hs : (w.alloc (.cells (Po.ringV l).toArray 26)).heap.size = w.heap.size + 1 := World.size_alloc _ _;rw [hs] at h1;refine ⟨⟨h1, rfl, by decide, ?_⟩, ((Below.refl _ w).alloc (Nat.le_refl _) _).alloc (by rw [hs]; omega) _⟩;show Po.totTo [l] 1 <= _;unfold Po.totTo;simp; omega
def FilW (R : Nat) (ls : List (List (Int × Int))) (x : Int) : Prop := ∃ z, okB R z = true /\ inB (blo ls) (bhi ls) (atE (12 - R) z) = true /\ Po.insideF ls (atE (12 - R) z).1 (atE (12 - R) z).2 = true /\ x = (wordN R z : Nat)
def IsFil (R : Nat) (ls : List (List (Int × Int))) (L : List Int) : Prop := Up L /\ (∀ x, x ∈ L ↔ FilW R ls x) /\ L.length <= 20000
theorem isFil_of {R : Nat} {ls : List (List (Int × Int))} {D : List E2} (h : AllOf (12 - R) (triE (blo ls)) (triE (bhi ls)) D) (hl : D.length <= 20000) : IsFil R ls (((srt (wsL R D)).filter (cenB R (blo ls) (bhi ls))).filter (fillB ls R)) := by
 have hb := isCen_of h hl;refine ⟨filter_up hb.1 _, fun x => ?_, Nat.le_trans (List.length_filter_le _ _) hb.2.2⟩;rw [List.mem_filter, hb.2.1];unfold CenW FilW fillB;constructor
 ·rintro ⟨⟨z, h1, h2, rfl⟩, h3⟩
  rw [Int.toNat_natCast, (word_cell h1).2.2] at h3;exact ⟨z, h1, h2, h3, rfl⟩
 ·rintro ⟨z, h1, h2, h3, rfl⟩
  exact ⟨⟨z, h1, h2, rfl⟩, by rw [Int.toNat_natCast, (word_cell h1).2.2]; exact h3⟩
theorem fill_few {ao : Option Addr} {n c B R : Nat} {ls : List (List (Int × Int))} {w : World} (hB : B <= w.heap.size) (h : RgAt w B ao n ls) (hk : Po.checkF ls = 0) (hc : chE (blo ls) (bhi ls) R = 0) (hw : (bhi ls).1 - (blo ls).1 <= 28 * sizeN (12 - R)) (hh : (bhi ls).2 - (blo ls).2 <= 28 * sizeN (12 - R)) :
  Calls Tryz.prog 8 #[.slice ao n c, .int .i64 R] w (ToldB w (IsFil R ls)) := by
 have hR : R <= 12 := by have := (ch_ok hc).1; omega
 refine (fill_any (c := c) R hB h).mono ?_;rintro e w' ⟨hP, hb⟩;unfold FillP at hP;rw [if_pos hk, if_pos hc, Int.toNat_natCast] at hP;rcases hP with ⟨D, L, ao, c, n, h1, h2, rfl, rfl, h3, h4⟩ | ⟨D, h1, h2, h3, _⟩
 ·exact ⟨_, ao, c, n, isFil_of h1 h2, rfl, h3, h4, hb⟩
 ·have := few_of hR hw hh h1 h3
  omega
theorem fill_bad {ao : Option Addr} {n c B : Nat} {ls : List (List (Int × Int))} (r : Int) {w : World} (hB : B <= w.heap.size) (h : RgAt w B ao n ls) (hk : Po.checkF ls ≠ 0) :
  Calls Tryz.prog 8 #[.slice ao n c, .int .i64 r] w fun e w' => e = .returned (.tuple #[.slice none 0 0, .int .i64 (Po.checkF ls)]) /\ Below w.heap.size w w' := by
 refine (fill_any (c := c) r hB h).mono ?_;rintro e w' ⟨hP, hb⟩;unfold FillP at hP;rw [if_neg hk] at hP;exact ⟨hP, hb⟩
def awkR : List (Int × Int) := [(0, 0), (60, 0), (60, 5), (0, 5)]
theorem awkR_check : Po.checkF [awkR] = 0 := by kernel_rfl
theorem awkR_box : blo [awkR] = (0, 0) /\ bhi [awkR] = (60, 5) := by constructor <;> kernel_rfl
theorem awkR_in : ∀ z : E2, inB (0, 0) (60, 5) (atE 0 z) = true -> z = (0, 0) ∨ z = (1, 0) := fun z h => by
 rw [inB_iff] at h;have e : atE 0 z = (52 * z.1 + 26 * z.2, 45 * z.2) := by
  show spotE (mulE (1, 0) z) = _;unfold spotE mulE;simp
 rw [e] at h;dsimp only at h;obtain ⟨a, b⟩ := z;dsimp only at h;have hb : b = 0 := by omega
 subst hb;have : a = 0 ∨ a = 1 := by omega
 rcases this with rfl | rfl
 ·exact .inl rfl
 ·exact .inr rfl
theorem awkR_two {L : List Int} (h : IsFil 12 [awkR] L) : L.length = 2 := by
 have hm : ∀ x, x ∈ L ↔ x ∈ [((wordN 12 (0, 0) : Nat) : Int), ((wordN 12 (1, 0) : Nat) : Int)] := fun x => by
  rw [h.2.1];unfold FilW;rw [awkR_box.1, awkR_box.2];constructor
  ·rintro ⟨z, _, h2, _, rfl⟩
   rcases awkR_in z h2 with rfl | rfl <;> simp
  ·intro hx
   simp only [List.mem_cons, List.not_mem_nil, or_false] at hx;rcases hx with rfl | rfl
   ·exact ⟨(0, 0), by kernel_rfl, by kernel_rfl, by kernel_rfl, rfl⟩
   ·exact ⟨(1, 0), by kernel_rfl, by kernel_rfl, by kernel_rfl, rfl⟩
 have hn : L.Nodup := h.1.imp fun h => Int.ne_of_lt h
 have hd : ([((wordN 12 (0, 0) : Nat) : Int), ((wordN 12 (1, 0) : Nat) : Int)] : List Int).Nodup := by
  rw [List.nodup_cons];refine ⟨?_, List.pairwise_singleton _ _⟩;intro hx;have := List.mem_singleton.1 hx;revert this;have e : decide (((wordN 12 (0, 0) : Nat) : Int) = ((wordN 12 (1, 0) : Nat) : Int)) = false := by kernel_rfl
  exact of_decide_eq_false e
 exact ((List.perm_ext_iff_of_nodup hn hd).2 hm).length_eq
theorem awake11_any (w : World) : Calls Tryz.prog 11 #[] w fun e w' => e = .returned (.bool true) /\ Below w.heap.size w w' := by
 have hrg := rgAt_lit w awkR (by decide) 4;have hrg1 : RgAt ((w.alloc (.cells #[.int .i64 0, .int .i64 0, .int .i64 60, .int .i64 0, .int .i64 60, .int .i64 5, .int .i64 0, .int .i64 5] 26)).alloc (.cells #[.slice (some ⟨w.heap.size, 0, none⟩) 4 4] 27)) (w.heap.size + 1 + 1) (some ⟨w.heap.size + 1, 0, none⟩) 1 [awkR] := hrg.1;have hB : Below w.heap.size w ((w.alloc (.cells #[.int .i64 0, .int .i64 0, .int .i64 60, .int .i64 0, .int .i64 60, .int .i64 5, .int .i64 0, .int .i64 5] 26)).alloc (.cells #[.slice (some ⟨w.heap.size, 0, none⟩) 4 4] 27)) := hrg.2;have hf := fill_few (c := 1) (R := 12) (by simp only [World.size_alloc]; exact Nat.le_refl _) hrg1 awkR_check (by rw [awkR_box.1, awkR_box.2]; kernel_rfl) (by rw [awkR_box.1, awkR_box.2]; decide) (by rw [awkR_box.1, awkR_box.2]; decide);have HF := Lib.hid hf;have HB := Lib.hid hB;have HE : Hid (∀ W, Calls Tryz.prog 8 #[.slice none 0 0, .int .i64 12] W fun e w' => e = .returned (.tuple #[.slice none 0 0, .int .i64 1]) /\ Below W.heap.size W w') := fun W =>
  fill_bad (ls := []) (n := 0) (B := 0) 12 (Nat.zero_le _) ⟨fun h => absurd h (by simp), rfl, by decide, by decide⟩ (by decide)
 clear hrg hrg1 hB hf
 go_enter Tryz.func11, Tryz.ntmps11
 go_wp2_with fail
 refine HF.out.mono ?_;rintro e w1 ⟨L, ao, c, n, hL, rfl, hn, ho, hb⟩;have hn2 : n = 2 := hn.trans (awkR_two hL);subst hn2;have HB1 := Lib.hid (HB.out.trans (hb.mono HB.out.size));clear hL hn ho hb HF
 go_wp2_with fail
 refine (HE.out _).mono ?_;rintro e w2 ⟨rfl, hb2⟩;have HB2 := Lib.hid (HB1.out.trans (hb2.mono HB1.out.size));clear hb2;go_wp2;go_ret;exact ⟨rfl, HB2.out⟩
end
section
open Go.RowKit Go.Lib Wd
end
section
open Go.RowKit Go.Lib Wd Cv
theorem res_of (r : Int) : ∃ (s : Int) (R : Nat), r.tmod 13 = s /\ -13 < s /\ s < 13 /\ (s + 13).tmod 13 = (R : Int) /\ R <= 12 /\ r % 13 = (R : Int) := by
 obtain ⟨⟨h1, h2⟩, h3⟩ := rem13 r;exact ⟨_, (r % 13).toNat, rfl, h1, h2, by rw [h3]; omega, by omega, by omega⟩
section
variable {x y u v : Int} (hx : 0 <= x /\ x < 1073741824) (hy : 0 <= y /\ y < 1073741824) (hu : 0 <= u /\ u < 1073741824) (hv : 0 <= v /\ v < 1073741824) (hxu : x <= u) (hyv : y <= v)
include hx hy hu hv hxu hyv
end
theorem ch_in {R : Nat} (hR : R <= 12) {lo hi : E2} (h1 : worldB lo.1 lo.2 = true) (h2 : worldB hi.1 hi.2 = true) (hx : lo.1 <= hi.1) (hy : lo.2 <= hi.2) : chE lo hi R = 0 := by
 unfold chE;rw [if_neg (by omega), if_pos ⟨h1, h2⟩, if_neg (by omega)]
end
end Go.Proofs.YtpkoapmpknbgoaaGreat
namespace Go.Proofs.YtpkoapmpknbgoaaGreat.Po
section
open Go.RowKit
theorem own_below {w w' : World} {base : Nat} {e : TypeId} {size : Nat} {v : Value} {n : Nat} {xs : List Value} (h : w.ownsRow base e size v n xs) {C : Nat} (hb : Below C w w') (hC : w.heap.size <= C) : w'.ownsRow base e size v n xs := by
 refine ⟨h.1, ?_⟩;rcases h.2 with h2 | ⟨g, cap, cur, hv, hg, hh, r⟩
 ·exact .inl h2
 ·refine .inr ⟨g, cap, cur, hv, hg, ?_, r⟩
  have hlt : g < w.heap.size := by
   rcases Nat.lt_or_ge g w.heap.size with hlt | hge
   ·exact hlt
   ·rw [Array.getElem?_eq_none hge] at hh; cases hh
  rw [hb.block g (by omega)];exact hh
theorem own_ne {w : World} {b1 b2 : Nat} {e1 e2 : TypeId} {s1 s2 : Nat} {v1 v2 : Value} {n1 n2 : Nat} {x1 x2 : List Value} (h1 : w.ownsRow b1 e1 s1 v1 n1 x1) (h2 : w.ownsRow b2 e2 s2 v2 n2 x2) (hne : e1 ≠ e2) : v1.ownBlock = none ∨ v1.ownBlock ≠ v2.ownBlock := by
 rcases h1.2 with ⟨rfl, _⟩ | ⟨g, cap, cur, rfl, _, hg, _⟩
 ·exact .inl rfl
 ·right
  rcases h2.2 with ⟨rfl, _⟩ | ⟨g', cap', cur', rfl, _, hg', _⟩
  ·simp [Value.ownBlock]
  ·simp only [Value.ownBlock, ne_eq, Option.some.injEq]
   rintro rfl;rw [hg] at hg';simp at hg';exact hne hg'.2
def OwnRings (w : World) (base : Nat) : List Value -> List (List Pt) -> Prop
 | [], [] => True
 | v :: vs, l :: ls => w.ownsRow base 26 2 v l.length (ringV l) /\ OwnRings w base vs ls
 | _, _ => False
theorem OwnRings.below {w w' : World} {base C : Nat} (hb : Below C w w') (hC : w.heap.size <= C) : ∀ {vs : List Value} {ls : List (List Pt)}, OwnRings w base vs ls -> OwnRings w' base vs ls
 | [], [], _ => trivial
 | _ :: _, _ :: _, h => ⟨own_below h.1 hb hC, OwnRings.below hb hC h.2⟩
theorem OwnRings.grown {w w' : World} {base b2 : Nat} {out : Value} {n : Nat} {xs : List Value} (ho : w.ownsRow b2 27 1 out n xs) (hg : w.grownBy w' out.ownBlock) : ∀ {vs : List Value} {ls : List (List Pt)}, OwnRings w base vs ls -> OwnRings w' base vs ls
 | [], [], _ => trivial
 | _ :: _, _ :: _, h => ⟨h.1.kept hg (own_ne h.1 ho (by decide)), OwnRings.grown ho hg h.2⟩
theorem OwnRings.snoc {w : World} {base : Nat} {v : Value} {l : List Pt} (hv : w.ownsRow base 26 2 v l.length (ringV l)) : ∀ {vs : List Value} {ls : List (List Pt)}, OwnRings w base vs ls -> OwnRings w base (vs ++ [v]) (ls ++ [l])
 | [], [], _ => ⟨hv, trivial⟩
 | _ :: _, _ :: _, h => ⟨h.1, OwnRings.snoc hv h.2⟩
theorem ringV_snoc (l : List Pt) (x y : Int) : ringV (l ++ [(x, y)]) = ringV l ++ [.int .i64 x, .int .i64 y] := by unfold ringV; simp
theorem info_ring : (Tryz.prog.info? 27).map (fun i => (i.zero, i.size, i.bytes)) = some (some (.slice none 0 0), 1, 24) := by kernel_rfl
theorem OwnRings.get {w : World} {base : Nat} : ∀ {vs : List Value} {ls : List (List Pt)}, OwnRings w base vs ls -> ∀ i, i < ls.length -> ∃ v, vs[i]? = some v /\ w.ownsRow base 26 2 v (rg ls i).length (ringV (rg ls i))
 | [], [], _, i, hi => by simp at hi
 | v :: _, l :: _, h, 0, _ => ⟨v, rfl, h.1⟩
 | _ :: _, l :: ls, h, i + 1, hi => by
  obtain ⟨v, hv, ho⟩ := OwnRings.get h.2 i (by simpa using hi);exact ⟨v, hv, ho⟩
theorem ring_of_own {w : World} {base : Nat} {v : Value} {l : List Pt} (h : w.ownsRow base 26 2 v l.length (ringV l)) : ∃ ao c, v = .slice ao l.length c /\ RingAt w w.heap.size ao l := by
 obtain ⟨ao, c, rfl, _, hc⟩ := own_form h;refine ⟨ao, c, rfl, fun h0 => ?_⟩;obtain ⟨g, rfl, _, hg, hcell⟩ := hc h0;exact ringAt_cells hg hcell h0
theorem rings_of_own {w : World} {base b2 n c : Nat} {ao : Option Addr} {vs : List Value} {ls : List (List Pt)} (h : w.ownsRow base 27 1 (.slice ao n c) n vs) (hO : OwnRings w b2 vs ls) (hn : n = ls.length) : RingsAt w w.heap.size ao ls := by
 intro h0;obtain ⟨ao', c', e, _, hc⟩ := own_form h;cases e;obtain ⟨g, rfl, _, hg, hcell⟩ := hc (by omega);refine ⟨g, 0, rfl, hg, fun i hi => ?_⟩;obtain ⟨v, hv, ho⟩ := hO.get i hi;obtain ⟨ri, ci, rfl, hr⟩ := ring_of_own ho;exact ⟨ri, ci, by rw [Nat.zero_add]; exact hcell i _ hv, hr⟩
end
end Go.Proofs.YtpkoapmpknbgoaaGreat.Po
namespace Go.Proofs.YtpkoapmpknbgoaaGreat
section
open Go.RowKit Go.Lib Wd Cv
def RingR (X Y s : Int) (l : List (Int × Int)) : Prop := l.length <= 6 /\ ∀ p ∈ l, (X <= p.1 /\ p.1 < 1073741824 /\ p.1 - X < 7 * s) /\ Y <= p.2 /\ p.2 < 1073741824 /\ p.2 - Y < 7 * s
def RingsOK (X Y s : Int) (ls : List (List (Int × Int))) : Prop := ls.length <= 2 /\ ∀ l ∈ ls, 3 <= l.length /\ RingR X Y s l
theorem ring_part (x i s : Int) (hx : 0 <= x /\ x < 1073741824) (hi : 0 <= i) (hs : 52 <= s) : ∃ A, i.tmod (7 * s) = A /\ 0 <= A /\ A < 7 * s /\ ((7 * s : Int) == 0) = false /\ x <= min (x + A) 1073741823 /\ min (x + A) 1073741823 < 1073741824 /\ min (x + A) 1073741823 - x < 7 * s := by
 have h1 := Int.emod_nonneg i (show 7 * s ≠ 0 by omega);have h2 := Int.emod_lt_of_pos i (show 0 < 7 * s by omega);rw [Int.tmod_eq_emod_of_nonneg hi];exact ⟨_, rfl, h1, h2, by simp; omega, by omega, by omega, by omega⟩
theorem lrings_any (x y : Int) (ax : Option Addr) (nx cx : Nat) (z : Nat -> Int) (R : Nat) (hR : R <= 12) (w : World) (hx : IntsAtK .i64 w w.heap.size ax nx z) (hnx : nx <= 1000000000000000) :
   Calls Tryz.prog 17 #[.int .i64 x, .int .i64 y, .slice ax nx cx, .int .i64 R] w fun e w' => ∃ v ls, e = .returned v /\ RingsOK (x % 1073741824) (y % 1073741824) (sizeN (12 - R)) ls /\ (∃ vs, w'.ownsRow w.heap.size 27 1 v ls.length vs /\ Po.OwnRings w' w.heap.size vs ls) /\ Below w.heap.size w w' := by
 obtain ⟨i0, hi, hz0, hz1, hz2⟩ := info_parts Po.info_ring;obtain ⟨i1, hj, hy0, hy1, hy2⟩ := info_parts info_pt;have HPT := Lib.hid (point_in x y w);have hxx : 0 <= x % 1073741824 /\ x % 1073741824 < 1073741824 := by omega
 have hyy : 0 <= y % 1073741824 /\ y % 1073741824 < 1073741824 := by omega
 generalize x % 1073741824 = X at *;generalize y % 1073741824 = Y at *;obtain ⟨sz, hsz⟩ : ∃ q, sizeN (12 - R) = q := ⟨_, rfl⟩;rw [hsz];have HSZ := Lib.hid hsz;clear hsz
 go_enter Tryz.func17, Tryz.ntmps17
 go_wp2_with fail
 refine HPT.out.mono ?_;rintro e w1 ⟨rfl, hb1⟩;have HW1 := Lib.hid hb1;clear hb1 HPT
 go_upto_region 4 with (fail)
 go_loopw [9, 10] (fun sv iv wr => ∃ (i : Nat) (s : Int), R <= i /\ i <= 12 /\ sv = .int .i64 s /\ iv = .int .i64 i /\ wr = w1 /\ Hid (s = sizeN (i - R))) (fun _ iv _ => 12 - (intOf iv).toNat)
 case atStart => exact ⟨R, 52, Nat.le_refl _, hR, rfl, rfl, rfl, by show _ = _; rw [Nat.sub_self]; rfl⟩
 case round =>
  obtain ⟨i, s, hRi, hi12, rfl, rfl, rfl, HS⟩ := hrel;obtain ⟨s1, s2⟩ := sizeN_pos (m := i - R) (by omega);rw [<- HS.out] at s1 s2;by_cases hlt : i < 12
  · have hN : Hid (s * 8 / 3 = sizeN (i + 1 - R)) := by
     show _ = _;rw [show i + 1 - R = (i - R) + 1 by omega, HS.out]; rfl
    have hi0 : (i : Int) < 12 := by omega
    clear HS;go_wp2;refine ⟨⟨i + 1, s * 8 / 3, by omega, by omega, rfl, by rw [show ((i + 1 : Nat) : Int) = (i : Int) + 1 by omega], trivial, hN.out⟩, by simp [intOf]; omega⟩
  have hie : i = 12 := by omega
  have hic : (i : Int) = 12 := by omega
  rw [hic];obtain ⟨w1, hw1e⟩ : ∃ W, W = wr := ⟨_, rfl⟩;rw [<- hw1e] at HW1 ⊢;clear hw1e;have hss : s = sz := by rw [HS.out, hie]; exact HSZ.out
  clear HS HSZ hRi hlt hi12 hie hic;subst hss;have z1 : ((7 * s : Int) == 0) = false := by simp; omega
  go_upto_region 9 with (fail)
  go_loopw [11, 12] (fun v a wr => ∃ (at0 k : Nat) (vs : List Value) (ls : List (List (Int × Int))), a = .int .i64 at0 /\ at0 <= nx /\ k <= 2 /\ Hid (RingsOK X Y s ls /\ k = ls.length) /\ wr.ownsRow w.heap.size 27 1 v k vs /\ Hid (Po.OwnRings wr w.heap.size vs ls) /\ Below w.heap.size w wr) (fun _ a _ => nx - (intOf a).toNat)
  case atStart => exact ⟨0, 0, [], [], rfl, by omega, by omega, ⟨⟨by simp, by simp⟩, rfl⟩, World.ownsRow_nil _ _ _ _, trivial, HW1.out⟩
  case round =>
    obtain ⟨at0, k, vs, ls, rfl, hat, hk, HT, hown, HO, hbel⟩ := hrel;by_cases hlt : at0 + 5 < nx
    ·by_cases hk3 : k < 2
     ·obtain ⟨b, off, rfl, hbB, hc⟩ := hx (by omega)
      obtain ⟨ao, co, rfl, hkc, hoc⟩ := own_form hown;have c0 := (hbel.cell (p := ⟨b, off + at0, none⟩) (show b < w.heap.size by omega)).trans (hc at0 (by omega));generalize z at0 = za at c0;have HC := Lib.hid hc;have HOC := Lib.hid hoc;have e3 : bits BinOp.and IntKind.i64 za 3 = za % 4 := i64_and_mask za 2 (by omega) 3 rfl;have hsz := hbel.size;obtain ⟨wo, hwo⟩ : ∃ wo : World, wo = wr := ⟨_, rfl⟩;subst hwo;clear hc hoc hx;have q1 : decide ((at0 : Int) + 5 < (nx : Int)) = true := by simp; omega
      have q2 : decide ((k : Int) < 2) = true := by simp; omega
      go_wp2
      go_loopw [14, 12, 15] (fun lv a i wi => ∃ (j at1 : Nat) (lc : List (Int × Int)), i = .int .i64 j /\ a = .int .i64 at1 /\ at1 <= nx /\ at0 + 2 * j = at1 /\ j <= 6 /\ Hid (RingR X Y s lc /\ lc.length = j) /\ wi.ownsRow wo.heap.size 26 2 lv j (Po.ringV lc) /\ Below wo.heap.size wo wi) (fun _ _ i _ => 6 - (intOf i).toNat)
      case atStart => exact ⟨0, at0, [], rfl, rfl, by omega, by omega, by omega, ⟨⟨by simp, by simp⟩, rfl⟩, World.ownsRow_nil _ _ _ _, Below.refl _ _⟩
      case round =>
       obtain ⟨j, at1, lc, rfl, rfl, hat1, hje, hj6, HL, hlown, hni⟩ := hrel;have hsi := hni.size;have hni2 := hbel.trans (hni.mono hsz);by_cases hgo : (j : Int) < 3 + za % 4 /\ at1 + 1 < nx
       ·obtain ⟨hg1, hg2⟩ := hgo
        have d0 := (hni2.cell (p := ⟨b, off + at1, none⟩) (show b < w.heap.size by omega)).trans (HC.out at1 (by omega));have d1 := (hni2.cell (p := ⟨b, off + (at1 + 1), none⟩) (show b < w.heap.size by omega)).trans (HC.out (at1 + 1) (by omega));generalize z at1 = zx at d0;generalize z (at1 + 1) = zy at d1;have ex : bits BinOp.and IntKind.i64 zx 4294967295 = zx % 4294967296 := i64_and_mask zx 32 (by omega) 4294967295 rfl;have ey : bits BinOp.and IntKind.i64 zy 4294967295 = zy % 4294967296 := i64_and_mask zy 32 (by omega) 4294967295 rfl;obtain ⟨Ax, tx, m1, m2, _, u1, u2, u3⟩ := ring_part X (zx % 4294967296) s hxx (by omega) s1;obtain ⟨Ay, ty, m3, m4, _, v1, v2, v3⟩ := ring_part Y (zy % 4294967296) s hyy (by omega) s1;have HUV := Lib.hid (And.intro (And.intro u1 (And.intro u2 u3)) (And.intro v1 (And.intro v2 v3)));clear u1 u2 u3 v1 v2 v3;obtain ⟨lao, lcap, rfl, _, _⟩ := own_form hlown;have q3 : decide ((j : Int) < 3 + za % 4) = true := by simpa using hg1
        have q4 : decide ((at1 : Int) + 1 < (nx : Int)) = true := by simp; omega
        go_wp2_with (first | (with_reducible refine wp_region_lex (by kernel_rfl) (by kernel_rfl) ?_) | (with_reducible refine OnlyG.intro (by kernel_rfl) ?_) | (at_builtin; refine wpList_append_own _ rfl (.tmp 58) (.tmp 83) 27 rfl wo.heap.size 26 i1 (.agg #[.int .i64 0, .int .i64 0]) 2 16 Tryz.underlying27 hj hy0 hy1 hy2 rfl (by decide) _ _ _ rfl ((hlown.alloc _).drew) ⟨wr.heap.size, 0, none⟩ 1 1 [.int .i64 (min (X + Ax) 1073741823), .int .i64 (min (Y + Ay) 1073741823)] rfl rfl (cells_new_drew _ _ _ _ rfl) (by simp [Value.oneCell']) (by unfold maxLen; omega) (by omega) (by simp; omega) ?_; intro v' w1 hown1 hgrow _))
        go_roundw
        case rel =>
         rw [<- Po.ringV_snoc] at hown1;refine ⟨j + 1, at1 + 2, lc ++ [(min (X + Ax) 1073741823, min (Y + Ay) 1073741823)], by go_num, by go_num, by omega, by omega, by omega, ⟨⟨?_, ?_⟩, ?_⟩, hown1, below_append ((hni.alloc hsi _).drew) ((hlown.alloc _).drew) (by simp; omega) hgrow⟩
         ·rw [List.length_append, HL.out.2]; simp; omega
         ·intro p hp
          rcases List.mem_append.1 hp with hp | hp
          ·exact HL.out.1.2 p hp
          ·obtain rfl : p = _ := by simpa using hp
           exact HUV.out
         ·rw [List.length_append, HL.out.2]; rfl
        case measure => simp [intOf] <;> omega
       ·have hj1 : 1 <= j := by omega
        obtain ⟨lao, lcap, rfl, _, _⟩ := own_form hlown;have hown' := Po.own_below hown hni (Nat.le_refl _);have hnx1 : nx <= 1000000000000000 := hnx;have hgo2 : (j : Int) < 3 + za % 4 -> ¬ ((at1 : Int) + 1 < nx) := fun h1 h2 => hgo ⟨h1, by omega⟩
        by_cases h3 : 3 <= j
        ·by_cases hjz : (j : Int) < 3 + za % 4
         all_goals
          (first | have hstop := hgo2 hjz | skip)
          clear hgo2 hgo
          go_wp2_with (first | (with_reducible refine wp_region_lex (by kernel_rfl) (by kernel_rfl) ?_) | (with_reducible refine OnlyG.intro (by kernel_rfl) ?_) | (at_builtin; refine wpList_append_own _ rfl (.tmp 90) (.tmp 92) 28 rfl w.heap.size 27 i0 (.slice none 0 0) 1 24 Tryz.underlying28 hi hz0 hz1 hz2 rfl (by decide) _ _ _ rfl (hown'.alloc _) ⟨wr.heap.size, 0, none⟩ 1 1 [.slice lao j lcap] rfl rfl (cells_new _ _ _ _ rfl) (by simp [Value.oneCell']) (by unfold maxLen; omega) (by omega) (by simp; omega) ?_; intro v' w1 hown1 hgrow _))
          go_roundw
          case rel =>
           refine ⟨at1, k + 1, vs ++ [.slice lao j lcap], ls ++ [lc], rfl, by omega, by omega, ⟨⟨?_, ?_⟩, ?_⟩, hown1, ?_, below_append ((hbel.trans (hni.mono hsz)).alloc (by have := hni.size; omega) _) (hown'.alloc _) (by have := hni.size; simp; omega) hgrow⟩
           ·rw [List.length_append, <- HT.out.2]; simp; omega
           ·intro l hl
            rcases List.mem_append.1 hl with hl | hl
            ·exact HT.out.1.2 l hl
            ·obtain rfl : l = lc := by simpa using hl
             exact ⟨by rw [HL.out.2]; exact h3, HL.out.1⟩
           ·rw [List.length_append, <- HT.out.2]; rfl
           ·refine Po.OwnRings.grown (hown'.alloc _) hgrow (Po.OwnRings.snoc ?_ (Po.OwnRings.below ((Below.refl wr.heap.size wr).alloc (Nat.le_refl _) _) (Nat.le_refl _) (Po.OwnRings.below hni (Nat.le_refl _) HO.out)))
            rw [HL.out.2];exact own_base (hlown.alloc _) hsz
          case measure => simp [intOf] <;> omega
        ·exfalso
         by_cases hjz : (j : Int) < 3 + za % 4
         ·have := hgo2 hjz; omega
         ·omega
     ·have q1 : decide ((at0 : Int) + 5 < (nx : Int)) = true := by simp; omega
      have q2 : decide ((k : Int) < 2) = false := by simp; omega
      obtain ⟨ao, co, rfl, _, _⟩ := own_form hown;go_wp2;go_ret;exact ⟨_, ls, rfl, HT.out.1, ⟨vs, by rw [<- HT.out.2]; exact hown, HO.out⟩, hbel⟩
    ·have q1 : decide ((at0 : Int) + 5 < (nx : Int)) = false := by simp; omega
     obtain ⟨ao, co, rfl, _, _⟩ := own_form hown;go_wp2;go_ret;exact ⟨_, ls, rfl, HT.out.1, ⟨vs, by rw [<- HT.out.2]; exact hown, HO.out⟩, hbel⟩
end
end Go.Proofs.YtpkoapmpknbgoaaGreat
namespace Go.Proofs.YtpkoapmpknbgoaaGreat.Po
section
open Go.RowKit
def RgsOK (ls : List (List Pt)) : Prop := (0 < ls.length /\ ls.length <= 2) /\ ∀ l ∈ ls, (3 <= l.length /\ l.length <= 12) /\ ∀ p ∈ l, Wd1 p.1 /\ Wd1 p.2
theorem RgsOK.all {ls : List (List Pt)} (h : RgsOK ls) : ∀ l ∈ ls, 3 <= l.length /\ l.length <= 12 /\ AllIn l := fun l hl => by
 have := h.2 l hl;exact ⟨this.1.1, this.1.2, fun p hp => by have := this.2 p hp; unfold Wd1 at this; exact ⟨this.1.1, this.1.2, this.2.1, this.2.2⟩⟩
theorem RgsOK.check {ls : List (List Pt)} (h : RgsOK ls) : checkF ls = 0 := check_ok (c := 12) h.1.1 (by have := h.1.2; omega) (by have := h.1.2; omega) h.all
def Bd (s : Bx) (x0 y0 x1 y1 : Int) : Prop := x0 <= s.a /\ y0 <= s.b /\ s.c <= x1 /\ s.d <= y1 /\ s.a <= s.c /\ s.b <= s.d
theorem bxR_bd {l : List Pt} {x0 y0 x1 y1 : Int} (hl : ∀ p ∈ l, (x0 <= p.1 /\ p.1 <= x1) /\ y0 <= p.2 /\ p.2 <= y1) {s : Bx} (h : Bd s x0 y0 x1 y1) : ∀ j, j <= l.length -> Bd (bxR l s j) x0 y0 x1 y1
 | 0, _ => h
 | j + 1, hj => by
  have ih := bxR_bd hl h j (by omega);have hp := hl _ (px_mem (l := l) (j := j) (by omega));rw [bxR_succ];generalize bxR l s j = t at *;unfold Bd bstep at *;dsimp only at *;omega
theorem box_within {ls : List (List Pt)} (h : RgsOK ls) {x0 y0 x1 y1 : Int} (hl : ∀ l ∈ ls, ∀ p ∈ l, (x0 <= p.1 /\ p.1 <= x1) /\ y0 <= p.2 /\ p.2 <= y1) : Bd (boxF ls) x0 y0 x1 y1 := by
 unfold boxF;rw [if_pos h.check];have hm : ∀ k, k < ls.length -> rg ls k ∈ ls := fun k hk => by unfold rg; simp [List.getD_eq_getElem?_getD, hk]
 have h0 : Bd (bx0 ls) x0 y0 x1 y1 := by
  have hm0 := hm 0 h.1.1;have := hl _ hm0 _ (px_mem (l := rg ls 0) (j := 0) (by have := (h.2 _ hm0).1.1; omega));unfold Bd bx0;dsimp only at *;omega
 have : ∀ k, k <= ls.length -> Bd (bxTo ls k) x0 y0 x1 y1 := by
  intro k
  induction k with
  | zero => intro _; exact h0
  | succ k ih =>
   intro hk;rw [bxTo_succ];exact bxR_bd (hl _ (hm k (by omega))) (ih (by omega)) _ (Nat.le_refl _)
 exact this _ (Nat.le_refl _)
end
end Go.Proofs.YtpkoapmpknbgoaaGreat.Po
namespace Go.Proofs.YtpkoapmpknbgoaaGreat
section
open Go.RowKit Go.Lib Wd Cv
theorem blo_bd {ls : List (List (Int × Int))} {x0 y0 x1 y1 : Int} (h : Po.Bd (Po.boxF ls) x0 y0 x1 y1) : x0 <= (blo ls).1 /\ y0 <= (blo ls).2 /\ (bhi ls).1 <= x1 /\ (bhi ls).2 <= y1 /\ (blo ls).1 <= (bhi ls).1 /\ (blo ls).2 <= (bhi ls).2 := h
theorem world_bd {ls : List (List (Int × Int))} (h : Po.RgsOK ls) : Po.Bd (Po.boxF ls) 0 0 1073741823 1073741823 := Po.box_within h fun l hl p hp => by
 have := (h.2 l hl).2 p hp;unfold Po.Wd1 at this;omega
theorem ch_rings {R : Nat} (hR : R <= 12) {ls : List (List (Int × Int))} (h : Po.RgsOK ls) : chE (blo ls) (bhi ls) R = 0 := by
 obtain ⟨h1, h2, h3, h4, h5, h6⟩ := blo_bd (world_bd h);exact ch_in hR ((worldB_iff _ _).2 (by omega)) ((worldB_iff _ _).2 (by omega)) h5 h6
theorem fill_t {R : Nat} (hR : R <= 12) {ls : List (List (Int × Int))} (hk : Po.RgsOK ls) (hw : (bhi ls).1 - (blo ls).1 <= 28 * sizeN (12 - R)) (hh : (bhi ls).2 - (blo ls).2 <= 28 * sizeN (12 - R)) {ao : Option Addr} {n c B : Nat} {W : World} (hB : B <= W.heap.size) (h : RgAt W B ao n ls) :
  Calls Tryz.prog 8 #[.slice ao n c, .int .i64 R] W fun e w' => ∃ L lo lc ln, IsFil R ls L /\ e = .returned (.tuple #[.slice lo ln lc, .int .i64 0]) /\ LAt w' lo ln lc L /\ Below W.heap.size W w' := by
 refine (fill_few hB h hk.check (ch_rings hR hk) hw hh).mono ?_;rintro e w' ⟨L, ao, c, n, hL, rfl, hn, ho, hb⟩;exact ⟨L, ao, c, n, hL, rfl, LAt.of_own hn ho, hb⟩
theorem wide_ok {ls : List (List (Int × Int))} (hk : Po.RgsOK ls) {x0 y0 x1 y1 d : Int} (h : ∀ l ∈ ls, ∀ p ∈ l, (x0 <= p.1 /\ p.1 <= x1) /\ y0 <= p.2 /\ p.2 <= y1) (hx : x1 - x0 <= d) (hy : y1 - y0 <= d) : (bhi ls).1 - (blo ls).1 <= d /\ (bhi ls).2 - (blo ls).2 <= d := by
 obtain ⟨h1, h2, h3, h4, h5, h6⟩ := blo_bd (Po.box_within hk h);omega
end
section
open Go.RowKit Go.Lib Wd
def tellL (r : Int) (L : List E2) : List Int := (L.filter fun z => okB r z).map fun z => (wordN r.toNat z : Int)
theorem tellL_app (r : Int) (L M : List E2) : tellL r (L ++ M) = tellL r L ++ tellL r M := by unfold tellL; rw [List.filter_append, List.map_append]
theorem tellL_one (r : Int) (z : E2) : tellL r [z] = if okB r z = true then [(ofW r z : Int)] else [] := by
 unfold tellL ofW;by_cases h : okB r z = true <;> simp [h]
def Wkr (w : World) (g : Nat) (r : Int) (z : E2) (v : Value) (l : List Int) : Prop :=
 w.heap[g]? = some (.cells #[.int .i64 r, .int .i64 z.1, .int .i64 z.2, v] 173 (0, 0)) /\ w.ownsRow (g + 1) 35 1 v l.length (uV l)
theorem Wkr.lt {w : World} {g : Nat} {r : Int} {z : E2} {v : Value} {l : List Int} (h : Wkr w g r z v l) : g < w.heap.size := (Array.getElem?_eq_some_iff.1 h.1).1
theorem Wkr.later {w w' : World} {g : Nat} {r : Int} {z : E2} {v : Value} {l : List Int} (h : Wkr w g r z v l) (hb : Below w.heap.size w w') : Wkr w' g r z v l := ⟨(hb.block g h.lt).trans h.1, own_later h.2 hb⟩
theorem Wkr.cells {w : World} {g : Nat} {r : Int} {z : E2} {v : Value} {l : List Int} (h : Wkr w g r z v l) : w.cell? ⟨g, 0, none⟩ = some (.int .i64 r) /\ w.cell? ⟨g, 1, none⟩ = some (.int .i64 z.1) /\ w.cell? ⟨g, 2, none⟩ = some (.int .i64 z.2) /\ w.cell? ⟨g, 3, none⟩ = some v /\ w.frozen? ⟨g, 1, none⟩ = false /\ w.frozen? ⟨g, 2, none⟩ = false /\ w.frozen? ⟨g, 3, none⟩ = false /\ g < w.heap.size :=
 ⟨cell_of_row _ _ 0 _ _ _ h.1, cell_of_row _ _ 1 _ _ _ h.1, cell_of_row _ _ 2 _ _ _ h.1, cell_of_row _ _ 3 _ _ _ h.1, by simp [World.frozen?, h.1], by simp [World.frozen?, h.1], by simp [World.frozen?, h.1], h.lt⟩
theorem own_apart {w : World} {g n : Nat} {v : Value} {xs : List Value} (h : w.ownsRow (g + 1) 35 1 v n xs) : ¬ v.ownBlock = some g := fun e => by have := (h.lt g e).1; omega
theorem Wkr.move {w : World} {g : Nat} {r : Int} {z : E2} {v : Value} {l : List Int} (h : Wkr w g r z v l) (y : E2) :
  Wkr ((w.setCell ⟨g, 1, none⟩ (.int .i64 y.1)).setCell ⟨g, 2, none⟩ (.int .i64 y.2)) g r y v l /\ Turn (fun q => q = g) w ((w.setCell ⟨g, 1, none⟩ (.int .i64 y.1)).setCell ⟨g, 2, none⟩ (.int .i64 y.2)) := by
 have ht : Turn (fun q => q = g) w ((w.setCell ⟨g, 1, none⟩ (.int .i64 y.1)).setCell ⟨g, 2, none⟩ (.int .i64 y.2)) := ((Turn.refl (fun q => q = g) w).setCell (a := ⟨g, 1, none⟩) rfl _).setCell (a := ⟨g, 2, none⟩) rfl _;refine ⟨⟨?_, ?_⟩, ht⟩
 ·rw [Sort.setCell_eq, Sort.setCell_eq]
  simp [Sort.mapBlock, Array.getElem?_modify, h.1, Sort.onCells]
 ·obtain ⟨ao, c, rfl, _⟩ := own_form h.2
  exact own_turn h.2 ht fun g' o s e hg => by subst e; subst hg; exact own_apart h.2 rfl
def Fr (g : Nat) (v v' : Value) (w w' : World) : Prop := Turn (fun q => q = g ∨ v.ownBlock = some q) w w' /\ (v'.ownBlock = v.ownBlock ∨ ∃ q, w.heap.size <= q /\ v'.ownBlock = some q)
theorem Fr.refl (g : Nat) (v : Value) (w : World) : Fr g v v w w := ⟨Turn.refl _ _, .inl rfl⟩
theorem Fr.trans {g : Nat} {v v1 v2 : Value} {w w1 w2 : World} (h : Fr g v v1 w w1) (h2 : Fr g v1 v2 w1 w2) : Fr g v v2 w w2 := by
 refine ⟨h.1.trans h2.1 fun k hk hs => ?_, ?_⟩
 ·rcases hs with e | e
  ·exact .inl e
  ·rcases h.2 with e2 | ⟨q, hq, e2⟩
   ·exact .inr (e2 ▸ e)
   ·rw [e2] at e; cases e; omega
 ·rcases h2.2 with e | ⟨q, hq, e⟩
  ·rw [e]; exact h.2
  ·exact .inr ⟨q, Nat.le_trans h.1.2.2.2.1 hq, e⟩
theorem Fr.of_turn {g : Nat} {v : Value} {w w' : World} (h : Turn (fun q => q = g) w w') : Fr g v v w w' := ⟨h.mono fun _ e => .inl e, .inl rfl⟩
theorem Fr.of_below {g : Nat} {v : Value} {w w' : World} (h : Below w.heap.size w w') : Fr g v v w w' := ⟨Turn.of_below h, .inl rfl⟩
def Walked (w : World) (g : Nat) (r : Int) (y : E2) (v : Value) (l : List Int) (e : Ending) (w' : World) : Prop := e = .returned (.tuple #[]) /\ ∃ v', Wkr w' g r y v' l /\ Fr g v v' w w'
theorem tell_any (g : Nat) (r : Int) (z : E2) (v : Value) (l : List Int) (w : World) (h : Wkr w g r z v l) (hl : l.length <= 100000000) :
  Calls Tryz.prog 163 #[.pointer (some ⟨g, 0, none⟩)] w (Walked w g r z v (l ++ tellL r [z])) := by
 obtain ⟨i0, hi, hz0, hz1, hz2⟩ := info_parts info_u;have HOF := Lib.hid (of_any r z);have HTL := Lib.hid (tellL_one r z);have HE : Hid (ofE r z = if okB r z = true then 0 else 2) := rfl;obtain ⟨W, hW⟩ : ∃ W, ofW r z = W := ⟨_, rfl⟩;rw [hW] at HOF HTL;have HWX : Hid (∀ wx, Below w.heap.size w wx -> Wkr wx g r z v l) := fun wx hx => h.later hx
 clear hW;obtain ⟨z1, z2⟩ := z;simp only [vC] at HOF;obtain ⟨E, hE⟩ : ∃ E, ofE r (z1, z2) = E := ⟨_, rfl⟩;rw [hE] at HOF HE;have HPOST : Hid (∀ v' w', Wkr w' g r (z1, z2) v' (l ++ tellL r [(z1, z2)]) -> Fr g v v' w w' -> Walked w g r (z1, z2) v (l ++ tellL r [(z1, z2)]) (.returned (.tuple #[])) w') := fun v' w' h1 h2 => ⟨rfl, v', h1, h2⟩
 clear hE
 go_enter Tryz.func163, Tryz.ntmps163
 go_upto_region 0 with (fail)
 refine wp_region_inv (fun w w' => Below w.heap.size w w') (fun qi_ qv_ _ => qv_ = ([.pointer (some ⟨g, 0, none⟩), .pointer (some ⟨g, 0, none⟩), .pointer (some ⟨g, 0, none⟩), .int .i64 r, .pointer (some ⟨g, 0, none⟩), .pointer (some ⟨g, 0, none⟩), .pointer (some ⟨g, 1, none⟩), .agg #[.int .i64 z1, .int .i64 z2], .agg #[.int .i64 r, .int .i64 z1, .int .i64 z2], .tuple #[.int .u64 W, .int .i64 E], .tuple #[.int .u64 W, .int .i64 E], .int .u64 W, .int .i64 E, .int .u64 W, .int .i64 E] : List Value).getD qi_ undef) (by kernel_rfl) (by kernel_rfl) (fun _ => Below.refl _ _) (fun _ _ _ h1 h2 => below_later h1 h1.size h2) (fun _ _ _ _ _ _ h => h) ?_;refine inv_cons (fun wx hg hd => ?_) (fun v0 => ?_)
 ·have hx := ((Below.refl w.heap.size w).drew).trans hg
  clear hd hg;go_wp2;exact ⟨_, rfl, Below.refl _ _, rfl⟩
 (try simp only [List.nil_append, Act.put, List.setIfInBounds_toArray, List.set_cons_zero, List.set_cons_succ])
 refine inv_cons (fun wx hg hd => ?_) (fun v1 => ?_)
 ·have hx := ((Below.refl w.heap.size w).drew).trans hg
  (try (have ee : v0 = (.pointer (some ⟨g, 0, none⟩) : Value) := hd 0 (by simp) (by decide); subst ee))
  clear hd hg;go_wp2;exact ⟨_, rfl, Below.refl _ _, rfl⟩
 (try simp only [List.cons_append, List.nil_append, Act.put, List.setIfInBounds_toArray, List.set_cons_zero, List.set_cons_succ])
 refine inv_cons (fun wx hg hd => ?_) (fun v2 => ?_)
 ·have hx := ((Below.refl w.heap.size w).drew).trans hg
  (try (have ee : v1 = (.pointer (some ⟨g, 0, none⟩) : Value) := hd 1 (by simp) (by decide); subst ee))
  clear hd hg;go_wp2;exact ⟨_, rfl, Below.refl _ _, rfl⟩
 (try simp only [List.cons_append, List.nil_append, Act.put, List.setIfInBounds_toArray, List.set_cons_zero, List.set_cons_succ])
 refine inv_cons (fun wx hg hd => ?_) (fun v3 => ?_)
 ·have hx := ((Below.refl w.heap.size w).drew).trans hg
  (try (have ee : v2 = (.pointer (some ⟨g, 0, none⟩) : Value) := hd 2 (by simp) (by decide); subst ee))
  clear hd hg;obtain ⟨c0, c1, c2, c3, _⟩ := (HWX.out _ hx).cells;go_wp2;exact ⟨_, rfl, Below.refl _ _, rfl⟩
 (try simp only [List.cons_append, List.nil_append, Act.put, List.setIfInBounds_toArray, List.set_cons_zero, List.set_cons_succ])
 refine inv_cons (fun wx hg hd => ?_) (fun v4 => ?_)
 ·have hx := ((Below.refl w.heap.size w).drew).trans hg
  clear hd hg;go_wp2;exact ⟨_, rfl, Below.refl _ _, rfl⟩
 (try simp only [List.cons_append, List.nil_append, Act.put, List.setIfInBounds_toArray, List.set_cons_zero, List.set_cons_succ])
 refine inv_cons (fun wx hg hd => ?_) (fun v5 => ?_)
 ·have hx := ((Below.refl w.heap.size w).drew).trans hg
  (try (have ee : v4 = (.pointer (some ⟨g, 0, none⟩) : Value) := hd 4 (by simp) (by decide); subst ee))
  clear hd hg;go_wp2;exact ⟨_, rfl, Below.refl _ _, rfl⟩
 (try simp only [List.cons_append, List.nil_append, Act.put, List.setIfInBounds_toArray, List.set_cons_zero, List.set_cons_succ])
 refine inv_cons (fun wx hg hd => ?_) (fun v6 => ?_)
 ·have hx := ((Below.refl w.heap.size w).drew).trans hg
  (try (have ee : v5 = (.pointer (some ⟨g, 0, none⟩) : Value) := hd 5 (by simp) (by decide); subst ee))
  clear hd hg;go_wp2;exact ⟨_, rfl, Below.refl _ _, rfl⟩
 (try simp only [List.cons_append, List.nil_append, Act.put, List.setIfInBounds_toArray, List.set_cons_zero, List.set_cons_succ])
 refine inv_cons (fun wx hg hd => ?_) (fun v7 => ?_)
 ·have hx := ((Below.refl w.heap.size w).drew).trans hg
  (try (have ee : v6 = (.pointer (some ⟨g, 1, none⟩) : Value) := hd 6 (by simp) (by decide); subst ee))
  clear hd hg;obtain ⟨c0, c1, c2, c3, _⟩ := (HWX.out _ hx).cells;go_wp2;exact ⟨_, rfl, Below.refl _ _, rfl⟩
 (try simp only [List.cons_append, List.nil_append, Act.put, List.setIfInBounds_toArray, List.set_cons_zero, List.set_cons_succ])
 refine inv_cons (fun wx hg hd => ?_) (fun v8 => ?_)
 ·have hx := ((Below.refl w.heap.size w).drew).trans hg
  (try (have ee : v3 = (.int .i64 r : Value) := hd 3 (by simp) (by decide); subst ee))
  (try (have ee : v7 = (.agg #[.int .i64 z1, .int .i64 z2] : Value) := hd 7 (by simp) (by decide); subst ee))
  clear hd hg;go_wp2;exact ⟨_, rfl, Below.refl _ _, rfl⟩
 (try simp only [List.cons_append, List.nil_append, Act.put, List.setIfInBounds_toArray, List.set_cons_zero, List.set_cons_succ])
 refine inv_cons (fun wx hg hd => ?_) (fun v9 => ?_)
 ·have hx := ((Below.refl w.heap.size w).drew).trans hg
  (try (have ee : v8 = (.agg #[.int .i64 r, .int .i64 z1, .int .i64 z2] : Value) := hd 8 (by simp) (by decide); subst ee))
  clear hd hg
  go_wp2_with fail
  refine (HOF.out _).mono ?_;rintro e w' ⟨rfl, hb⟩;go_wp2;exact ⟨_, rfl, hb, rfl⟩
 (try simp only [List.cons_append, List.nil_append, Act.put, List.setIfInBounds_toArray, List.set_cons_zero, List.set_cons_succ])
 refine inv_cons (fun wx hg hd => ?_) (fun v10 => ?_)
 ·have hx := ((Below.refl w.heap.size w).drew).trans hg
  (try (have ee : v9 = (.tuple #[.int .u64 W, .int .i64 E] : Value) := hd 9 (by simp) (by decide); subst ee))
  clear hd hg;go_wp2;exact ⟨_, rfl, Below.refl _ _, rfl⟩
 (try simp only [List.cons_append, List.nil_append, Act.put, List.setIfInBounds_toArray, List.set_cons_zero, List.set_cons_succ])
 refine inv_cons (fun wx hg hd => ?_) (fun v11 => ?_)
 ·have hx := ((Below.refl w.heap.size w).drew).trans hg
  (try (have ee : v10 = (.tuple #[.int .u64 W, .int .i64 E] : Value) := hd 10 (by simp) (by decide); subst ee))
  clear hd hg;go_wp2;exact ⟨_, rfl, Below.refl _ _, rfl⟩
 (try simp only [List.cons_append, List.nil_append, Act.put, List.setIfInBounds_toArray, List.set_cons_zero, List.set_cons_succ])
 refine inv_cons (fun wx hg hd => ?_) (fun v12 => ?_)
 ·have hx := ((Below.refl w.heap.size w).drew).trans hg
  (try (have ee : v10 = (.tuple #[.int .u64 W, .int .i64 E] : Value) := hd 10 (by simp) (by decide); subst ee))
  clear hd hg;go_wp2;exact ⟨_, rfl, Below.refl _ _, rfl⟩
 (try simp only [List.cons_append, List.nil_append, Act.put, List.setIfInBounds_toArray, List.set_cons_zero, List.set_cons_succ])
 refine inv_cons (fun wx hg hd => ?_) (fun v13 => ?_)
 ·have hx := ((Below.refl w.heap.size w).drew).trans hg
  (try (have ee : v11 = (.int .u64 W : Value) := hd 11 (by simp) (by decide); subst ee))
  clear hd hg;go_wp2;exact ⟨_, rfl, Below.refl _ _, rfl⟩
 (try simp only [List.cons_append, List.nil_append, Act.put, List.setIfInBounds_toArray, List.set_cons_zero, List.set_cons_succ])
 refine inv_cons (fun wx hg hd => ?_) (fun v14 => ?_)
 ·have hx := ((Below.refl w.heap.size w).drew).trans hg
  (try (have ee : v12 = (.int .i64 E : Value) := hd 12 (by simp) (by decide); subst ee))
  clear hd hg;go_wp2;exact ⟨_, rfl, Below.refl _ _, rfl⟩
 (try simp only [List.cons_append, List.nil_append, Act.put, List.setIfInBounds_toArray, List.set_cons_zero, List.set_cons_succ])
 refine inv_done (fun wx hg hd => ?_);have hx := ((Below.refl w.heap.size w).drew).trans hg
 (have ee : v0 = (.pointer (some ⟨g, 0, none⟩) : Value) := hd 0 (by simp); subst ee)
 (have ee : v1 = (.pointer (some ⟨g, 0, none⟩) : Value) := hd 1 (by simp); subst ee)
 (have ee : v2 = (.pointer (some ⟨g, 0, none⟩) : Value) := hd 2 (by simp); subst ee)
 (have ee : v3 = (.int .i64 r : Value) := hd 3 (by simp); subst ee)
 (have ee : v4 = (.pointer (some ⟨g, 0, none⟩) : Value) := hd 4 (by simp); subst ee)
 (have ee : v5 = (.pointer (some ⟨g, 0, none⟩) : Value) := hd 5 (by simp); subst ee)
 (have ee : v6 = (.pointer (some ⟨g, 1, none⟩) : Value) := hd 6 (by simp); subst ee)
 (have ee : v7 = (.agg #[.int .i64 z1, .int .i64 z2] : Value) := hd 7 (by simp); subst ee)
 (have ee : v8 = (.agg #[.int .i64 r, .int .i64 z1, .int .i64 z2] : Value) := hd 8 (by simp); subst ee)
 (have ee : v9 = (.tuple #[.int .u64 W, .int .i64 E] : Value) := hd 9 (by simp); subst ee)
 (have ee : v10 = (.tuple #[.int .u64 W, .int .i64 E] : Value) := hd 10 (by simp); subst ee)
 (have ee : v11 = (.int .u64 W : Value) := hd 11 (by simp); subst ee)
 (have ee : v12 = (.int .i64 E : Value) := hd 12 (by simp); subst ee)
 (have ee : v13 = (.int .u64 W : Value) := hd 13 (by simp); subst ee)
 (have ee : v14 = (.int .i64 E : Value) := hd 14 (by simp); subst ee)
 clear hd hg
 (try go_simp)
 have hwk := HWX.out _ hx;have HFR : Hid (Fr g v v w wx) := Fr.of_below hx;by_cases hok : okB r (z1, z2) = true
 ·have hE0 : E = 0 := by rw [HE.out, if_pos hok]
  have HTL2 : Hid (tellL r [(z1, z2)] = [(W : Int)]) := by show _ = _; rw [HTL.out, if_pos hok]
  subst hE0;obtain ⟨c0, c1, c2, c3, f1, f2, f3, hgl⟩ := hwk.cells;have hown := hwk.2;have hgl2 : g < wx.heap.size + 1 := by omega
  have HWK := Lib.hid hwk.1;clear hwk HWX hx HOF HTL HE hok;have HU : Hid (uV (l ++ [(W : Int)]) = uV l ++ [.int .u64 W]) := uV_snoc l W;have HGW : Hid (∀ w3, (wx.alloc (.cells #[.int .u64 (W : Int)] 35)).grownBy w3 v.ownBlock -> w3.heap[g]? = some (.cells #[.int .i64 r, .int .i64 z1, .int .i64 z2, v] 173 (0, 0)) /\ Turn (fun q => v.ownBlock = some q) wx w3) := fun w3 hg => by
   have hal : Below wx.heap.size wx (wx.alloc (.cells #[.int .u64 (W : Int)] 35)) := (Below.refl _ _).alloc (Nat.le_refl _) _;have hsa := World.size_alloc wx (.cells #[.int .u64 (W : Int)] 35);refine ⟨(hg.block g (by omega) (fun e => own_apart hown e.symm)).trans ((hal.block g hgl).trans HWK.out), hg.os.trans hal.os, hg.tape.trans hal.tape, hg.output.trans hal.output, Nat.le_trans hal.size hg.size, fun k hk hs => (hg.block k (by omega) fun e => hs e.symm).trans (hal.block k hk)⟩
  go_upto_region 2 with (fail)
  go_wp2_with (at_builtin; refine wpList_append_own_at _ rfl (.tmp 23) (.tmp 25) 22 rfl (g + 1) 35 i0 (.int .u64 0) 1 8 Tryz.underlying22 hi hz0 hz1 hz2 rfl (by decide) _ _ _ rfl (hown.alloc _) ⟨wx.heap.size, 0, none⟩ 1 1 [.int .u64 W] rfl rfl (cell_one_new _ _ _) (by simp [Value.oneCell']) (by unfold maxLen; omega) (by omega) (by simp; omega) ?_; intro v' w3 ho3 hgr _ hat; obtain ⟨o3, c3, rfl, hc3, _⟩ := own_form ho3; obtain ⟨hr3, ht3⟩ := HGW.out _ hgr; have k1 : w3.cell? ⟨g, 3, none⟩ = some v := cell_of_row _ _ 3 _ _ _ hr3; have k2 : w3.frozen? ⟨g, 3, none⟩ = false := frozen_of_row _ _ _ _ _ hr3; have HR3 := Lib.hid hr3; have HT3 := Lib.hid ht3; have HO3 := Lib.hid ho3; have HA3 := Lib.hid hat; clear hr3 ht3 hgr ho3 hat)
  go_end0
  have hts : Turn (fun q => q = g) w3 (w3.setCell ⟨g, 3, none⟩ (.slice o3 (l.length + 1) c3)) := (Turn.refl (fun q => q = g) w3).setCell (a := ⟨g, 3, none⟩) rfl _;have hat : (Value.slice o3 (l.length + 1) c3).ownBlock = v.ownBlock ∨ (Value.slice o3 (l.length + 1) c3).ownBlock = some (wx.alloc (.cells #[.int .u64 (W : Int)] 35)).heap.size := HA3.out;have hoo : w3.ownsRow (g + 1) 35 1 (.slice o3 (l.length + 1) c3) (l.length + 1) (uV (l ++ [(W : Int)])) := by rw [HU.out]; exact HO3.out
  refine HPOST.out (.slice o3 (l.length + 1) c3) _ ⟨?_, ?_⟩ (HFR.out.trans ⟨?_, ?_⟩)
  ·have hr := HR3.out
   rw [Sort.setCell_eq];simp [Sort.mapBlock, Array.getElem?_modify, hr, Sort.onCells]
  ·rw [HTL2.out, List.length_append, List.length_singleton]
   exact own_turn hoo hts fun g' o s e hg => by subst e; subst hg; exact own_apart hoo rfl
  ·exact ((HT3.out).mono (fun _ e => .inr e)).trans hts fun _ _ e => .inl e
  ·rcases hat with e | e
   ·exact .inl e
   ·exact .inr ⟨_, by rw [World.size_alloc]; omega, e⟩
 ·have hE2 : E = 2 := by rw [HE.out, if_neg hok]
  have HTL2 : Hid (tellL r [(z1, z2)] = []) := by show _ = _; rw [HTL.out, if_neg hok]
  have HF := Lib.hid (HPOST.out v wx (by rw [HTL2.out, List.append_nil]; exact hwk) HFR.out);subst hE2;clear hwk HWX hx HOF HTL HE hok HPOST;go_wp2
  go_end0
  exact HF.out
theorem step_any (g : Nat) (r : Int) (z : E2) (k : Nat) (v : Value) (l : List Int) (w : World) (h : Wkr w g r z v l) (hk : k < 6) (hz : Sm 1099511627776 z) :
  Calls Tryz.prog 164 #[.pointer (some ⟨g, 0, none⟩), .int .i64 k] w (Walked w g r (addE z (unitE k)) v l) := by
 have HUN := Lib.hid (unit_in k hk);have hus := left_sm (k + 1);have HAD := Lib.hid (add_in z (unitE k) (hz.mono (by decide)) (hus.mono (by decide)));have HWX : Hid (∀ wx, Below w.heap.size w wx -> Wkr wx g r z v l) := fun wx hx => h.later hx
 obtain ⟨y, hy⟩ : ∃ y, addE z (unitE k) = y := ⟨_, rfl⟩;rw [hy] at HAD;have HY := Lib.hid hy;simp only [vE] at HUN HAD;generalize unitE k = u at *;clear hy hz hus h;obtain ⟨z1, z2⟩ := z
 go_enter Tryz.func164, Tryz.ntmps164
 go_upto_region 0 with (fail)
 have HMV : Hid (∀ wx, Below w.heap.size w wx -> Walked w g r y v l (.returned (.tuple #[])) ((wx.setCell ⟨g, 1, none⟩ (.int .i64 y.1)).setCell ⟨g, 2, none⟩ (.int .i64 y.2))) := fun wx hx => by
  have hm := (HWX.out wx hx).move y;exact ⟨rfl, v, hm.1, (Fr.of_below hx).trans (Fr.of_turn hm.2)⟩
 rw [HY.out];have HB0 : Hid (Below w.heap.size w w) := Below.refl _ _;obtain ⟨c0, c1, c2, c3, f1, f2, f3, hgl⟩ := (HWX.out w HB0.out).cells
 go_region_with (
   first
  | (go_at_call 67; refine (HUN.out _).mono ?_; rintro e w7 ⟨rfl, hb7⟩; have HB7 : Hid (Below w.heap.size w w7) := ((Below.refl w.heap.size w).drew).trans hb7; clear hb7; obtain ⟨d0, d1, d2, d3, d4, d5, d6, d7⟩ := (HWX.out w7 HB7.out).cells)
  | (go_at_call 66; refine (HAD.out _).mono ?_; rintro e w8 ⟨rfl, hb8⟩; have HB8 : Hid (Below w.heap.size w w8) := HB7.out.trans (hb8.mono HB7.out.size); clear hb8; obtain ⟨e0, e1, e2, e3, e4, e5, e6, e7⟩ := (HWX.out w8 HB8.out).cells))
 all_goals
  go_wp2
  go_end0
  exact HMV.out _ HB8.out
def ptP (c u : E2) (j : Nat) : E2 := (c.1 + j * u.1, c.2 + j * u.2)
def lineP (c u : E2) (k : Nat) : List E2 := (List.range k).map fun j => ptP c u j
def corn (z : E2) (k : Nat) : Nat -> E2
 | 0 => ptP z (unitE 4) k
 | s + 1 => ptP (corn z k s) (unitE s) k
def sidesP (z : E2) (k : Nat) : Nat -> List E2
 | 0 => []
 | s + 1 => sidesP z k s ++ lineP (corn z k s) (unitE s) k
def ringL (z : E2) (k : Nat) : List E2 := if k = 0 then [z] else sidesP z k 6
theorem ptP_zero (c u : E2) : ptP c u 0 = c := by unfold ptP; simp
theorem ptP_succ (c u : E2) (j : Nat) : addE (ptP c u j) u = ptP c u (j + 1) := by
 unfold ptP addE;simp only [Int.natCast_add, Int.natCast_one, Int.add_mul, Int.one_mul, Int.add_assoc]
theorem lineP_succ (c u : E2) (j : Nat) : lineP c u (j + 1) = lineP c u j ++ [ptP c u j] := by
 unfold lineP; rw [List.range_succ, List.map_append]; rfl
theorem ptP_sm {h : Int} {c : E2} (hc : Sm h c) (k : Nat) (j : Nat) : Sm (h + j) (ptP c (unitE k) j) := by
 have hu : unitE k = (1, 0) ∨ unitE k = (0, 1) ∨ unitE k = (-1, 1) ∨ unitE k = (-1, 0) ∨ unitE k = (0, -1) ∨ unitE k = (1, -1) := by
  unfold unitE; split <;> simp
 unfold ptP;unfold Sm at *;rcases hu with e | e | e | e | e | e <;> rw [e] <;> simp only <;> omega
theorem corn_sm {h : Int} {z : E2} (hz : Sm h z) (k s : Nat) : Sm (h + (s + 1) * k) (corn z k s) := by
 induction s with
 | zero => exact (ptP_sm hz 4 k).mono (by simp)
 | succ s ih =>
  refine (ptP_sm ih s k).mono ?_;simp only [Int.natCast_add, Int.natCast_one, Int.add_mul, Int.one_mul];omega
theorem lineP_length (c u : E2) (k : Nat) : (lineP c u k).length = k := by unfold lineP; simp
theorem sidesP_length (z : E2) (k s : Nat) : (sidesP z k s).length = s * k := by
 induction s with
 | zero => simp [sidesP]
 | succ s ih => show (sidesP z k s ++ _).length = _; rw [List.length_append, ih, lineP_length, Nat.succ_mul]
theorem tellL_length (r : Int) (L : List E2) : (tellL r L).length <= L.length := by unfold tellL; rw [List.length_map]; exact List.length_filter_le _ _
theorem ring_any (g : Nat) (r : Int) (z : E2) (k : Nat) (v : Value) (l : List Int) (w : World) (h : Wkr w g r z v l) (hz : Sm 2147483648 z) (hk : k <= 10000) (hl : l.length <= 50000000) :
  Calls Tryz.prog 121 #[.pointer (some ⟨g, 0, none⟩), .int .i64 k] w (Walked w g r z v (l ++ tellL r (ringL z k))) := by
 obtain ⟨c0, c1, c2, c3, f1, f2, f3, hgl⟩ := h.cells;have hal : Below w.heap.size w (w.alloc (.cells #[.int .i64 z.1, .int .i64 z.2] 37)) := (Below.refl _ _).alloc (Nat.le_refl _) _;have ksz := World.size_alloc w (.cells #[.int .i64 z.1, .int .i64 z.2] 37);have HW2 := Lib.hid (h.later hal);have HM2 : Hid (Two (w.alloc (.cells #[.int .i64 z.1, .int .i64 z.2] 37)) w.heap.size (.int .i64 z.1) (.int .i64 z.2)) := Two.of_row (t := 37) (f := _) (heap_new _ _ _ rfl);have HF2 : Hid (Fr g v v w (w.alloc (.cells #[.int .i64 z.1, .int .i64 z.2] 37))) := Fr.of_below hal;have HVM : Hid (¬ v.ownBlock = some w.heap.size) := fun e => by have := (h.2.lt _ e).2; omega
 clear hal h;by_cases hk0 : k = 0
 ·subst hk0
  have HRL : Hid (ringL z 0 = [z]) := rfl;rw [HRL.out];have HT := Lib.hid (tell_any g r z v l _ HW2.out (by omega))
  go_enter Tryz.func121, Tryz.ntmps121
  go_wp2_with fail
  refine HT.out.mono ?_;rintro e w3 ⟨rfl, v', hw3, hf3⟩;have HP : Hid (Walked w g r z v (l ++ tellL r [z]) (.returned (.tuple #[])) w3) := ⟨rfl, v', hw3, HF2.out.trans hf3⟩;clear hw3 hf3;go_wp2
  go_end0
  exact HP.out
 ·have hkpos : 0 < k := by omega
  have qk : ((k : Int) == 0) = false := by simp; omega
  have HRL : Hid (ringL z k = sidesP z k 6) := by show _ = _; unfold ringL; rw [if_neg hk0]
  rw [HRL.out];have HSM := Lib.hid hz;clear hz hk0
  go_enter Tryz.func121, Tryz.ntmps121
  go_upto_region 1 with (fail)
  generalize w.alloc (.cells #[.int .i64 z.1, .int .i64 z.2] 37) = w2 at *;obtain ⟨m, hm⟩ : ∃ m, w.heap.size = m := ⟨_, rfl⟩;rw [hm] at HM2 HVM hgl ksz ⊢;clear hm c0 c1 c2 c3 f1 f2 f3;go_wp2
  go_loopw [18] (fun i wr => ∃ j : Nat, j <= k /\ i = .int .i64 j /\ Hid (∃ v', Wkr wr g r (ptP z (unitE 4) j) v' l /\ Fr g v v' w2 wr)) (fun i _ => k - (intOf i).toNat)
  case atStart => exact ⟨0, by omega, rfl, v, by rw [ptP_zero]; exact HW2.out, Fr.refl _ _ _⟩
  case round =>
   obtain ⟨j, hj, rfl, HI⟩ := hrel;by_cases hjk : j < k
   ·obtain ⟨v', hwk, hfr⟩ := HI.out
    have hs := step_any g r (ptP z (unitE 4) j) 4 v' l wr hwk (by decide) ((ptP_sm HSM.out 4 j).mono (by omega));rw [ptP_succ] at hs;have HST : Hid (Calls Tryz.prog 164 #[.pointer (some ⟨g, 0, none⟩), .int .i64 4] wr (Walked wr g r (ptP z (unitE 4) (j + 1)) v' l)) := hs;have HFR := Lib.hid hfr;clear hwk hfr hs HI
    go_wp2_with fail
    refine HST.out.mono ?_;rintro e w4 ⟨rfl, v'', hw4, hf4⟩;have HN : Hid (∃ v'', Wkr w4 g r (ptP z (unitE 4) (j + 1)) v'' l /\ Fr g v v'' w2 w4) := ⟨v'', hw4, HFR.out.trans hf4⟩;clear hw4 hf4;go_wp2
    go_roundw
    case rel => exact ⟨j + 1, by omega, by go_num, HN.out⟩
    case measure => simp [intOf]; omega
   ·obtain rfl : j = k := by omega
    have HI2 : Hid (∃ v', Wkr wr g r (corn z j 0) v' (l ++ tellL r (sidesP z j 0)) /\ Fr g v v' w2 wr) := by
     have := HI.out;rw [show l ++ tellL r (sidesP z j 0) = l by simp [sidesP, tellL]];exact this
    clear HI hjk hj;go_wp2;have HVN : Hid (¬ v.ownBlock = some m) := HVM.out;clear HW2 HVM
    go_loopw [23] (fun i wr => ∃ s : Nat, s <= 6 /\ i = .int .i64 s /\ Hid (∃ v', Wkr wr g r (corn z j s) v' (l ++ tellL r (sidesP z j s)) /\ Fr g v v' w2 wr)) (fun i _ => 6 - (intOf i).toNat)
    case atStart => exact ⟨0, by omega, rfl, HI2.out⟩
    case round =>
     obtain ⟨s, hs6, rfl, HJ⟩ := hrel;clear HI2;by_cases hs : s < 6
     ·have HC0 : Hid (∃ v', Wkr wr g r (ptP (corn z j s) (unitE s) 0) v' (l ++ tellL r (sidesP z j s ++ lineP (corn z j s) (unitE s) 0)) /\ Fr g v v' w2 wr) := by
       have := HJ.out;rw [ptP_zero, show lineP (corn z j s) (unitE s) 0 = [] from rfl, List.append_nil];exact this
      have HCM := Lib.hid (corn_sm HSM.out j s);have HC1 : Hid (∀ wr, (∃ v', Wkr wr g r (ptP (corn z j s) (unitE s) j) v' (l ++ tellL r (sidesP z j s ++ lineP (corn z j s) (unitE s) j)) /\ Fr g v v' w2 wr) -> ∃ v', Wkr wr g r (corn z j (s + 1)) v' (l ++ tellL r (sidesP z j (s + 1))) /\ Fr g v v' w2 wr) := fun wr h => h
      have HSL := Lib.hid (sidesP_length z j s);have hsj : s * j <= 6 * 10000 := Nat.mul_le_mul hs6 hk;have hsj2 : ((s : Int) + 1) * (j : Int) <= 7 * 10000 := by
       have h1 : (s + 1) * j <= 7 * 10000 := Nat.mul_le_mul (by omega) hk;have h2 : (((s + 1) * j : Nat) : Int) <= 70000 := by omega
       simpa using h2
      generalize corn z j s = c at *;generalize sidesP z j s = SL at *;obtain ⟨wo, hwo⟩ : ∃ wo : World, wo = wr := ⟨_, rfl⟩;rw [<- hwo] at HC0 ⊢;clear HJ hwo;have q6 : decide ((s : Int) < 6) = true := decide_eq_true (by omega);go_wp2
      go_loopw [27] (fun i wr => ∃ i' : Nat, i' <= j /\ i = .int .i64 i' /\ Hid (∃ v', Wkr wr g r (ptP c (unitE s) i') v' (l ++ tellL r (SL ++ lineP c (unitE s) i')) /\ Fr g v v' w2 wr)) (fun i _ => j - (intOf i).toNat)
      case atStart => exact ⟨0, by omega, rfl, HC0.out⟩
      case round =>
       obtain ⟨i', hi', rfl, HK⟩ := hrel;by_cases hij : i' < j
       ·obtain ⟨v', hwk, hfr⟩ := HK.out
        have hlen : (l ++ tellL r (SL ++ lineP c (unitE s) i')).length <= 100000000 := by
         have h1 := tellL_length r (SL ++ lineP c (unitE s) i');have h2 := HSL.out;rw [List.length_append, lineP_length] at h1;rw [List.length_append];omega
        have HTE := Lib.hid (tell_any g r (ptP c (unitE s) i') v' (l ++ tellL r (SL ++ lineP c (unitE s) i')) wr hwk hlen);have HAPP : Hid ((l ++ tellL r (SL ++ lineP c (unitE s) i')) ++ tellL r [ptP c (unitE s) i'] = l ++ tellL r (SL ++ lineP c (unitE s) (i' + 1))) := by
         show _ = _;rw [lineP_succ, <- List.append_assoc, tellL_app r (SL ++ _) [_], List.append_assoc]
        rw [HAPP.out] at HTE;have hpm : Sm 1099511627776 (ptP c (unitE s) i') := (ptP_sm HCM.out s i').mono (by omega);have HSTP := Lib.hid (fun v4 w4 (h4 : Wkr w4 g r (ptP c (unitE s) i') v4 (l ++ tellL r (SL ++ lineP c (unitE s) (i' + 1)))) => step_any g r (ptP c (unitE s) i') s v4 (l ++ tellL r (SL ++ lineP c (unitE s) (i' + 1))) w4 h4 hs hpm);simp only [ptP_succ] at HSTP;have HFR := Lib.hid hfr;clear hwk hfr hlen hpm HK
        go_wp2_with fail
        refine HTE.out.mono ?_;rintro e w4 ⟨rfl, v4, hw4, hf4⟩;have HS4 := Lib.hid (HSTP.out v4 w4 hw4);have HF4 := Lib.hid (HFR.out.trans hf4);clear hw4 hf4
        go_wp2_with fail
        refine HS4.out.mono ?_;rintro e w5 ⟨rfl, v5, hw5, hf5⟩;have HN : Hid (∃ v', Wkr w5 g r (ptP c (unitE s) (i' + 1)) v' (l ++ tellL r (SL ++ lineP c (unitE s) (i' + 1))) /\ Fr g v v' w2 w5) := ⟨v5, hw5, HF4.out.trans hf5⟩;clear hw5 hf5;go_wp2
        go_roundw
        case rel => first | exact ⟨i' + 1, by omega, by go_num, HN.out⟩ | ((repeat apply Exists.intro); exact ⟨⟨i' + 1, by omega, by go_num, HN.out⟩, rfl⟩)
        case measure => simp [intOf]; omega
       ·obtain rfl : i' = j := by omega
        have HN := Lib.hid (HC1.out wr HK.out);clear HK HC1;go_wp2
        go_roundw
        case rel => exact ⟨s + 1, by omega, by go_num, HN.out⟩
        case measure => simp [intOf]; omega
     ·obtain rfl : s = 6 := by omega
      obtain ⟨v', hwk, hfr⟩ := HJ.out;have hm2 := HM2.out.turn hfr.1 (by omega) (fun e => e.elim (fun e => by omega) HVN.out);obtain ⟨m0, m1⟩ := hm2;have hmv := hwk.move z;have HP : Hid (Walked w g r z v (l ++ tellL r (sidesP z j 6)) (.returned (.tuple #[])) ((wr.setCell ⟨g, 1, none⟩ (.int .i64 z.1)).setCell ⟨g, 2, none⟩ (.int .i64 z.2))) := ⟨rfl, v', hmv.1, (HF2.out.trans hfr).trans (Fr.of_turn hmv.2)⟩;obtain ⟨c0, c1, c2, c3, f1, f2, f3, hgr⟩ := hwk.cells;clear hwk hfr hmv HJ;go_wp2
      go_end0
      exact HP.out
end
section
open Go.RowKit Go.Lib Wd Go.Sort
theorem sortw_any (B n c : Nat) (ao : Option Addr) (l : List Int) (w : World) (hn : l.length = n) (hl : n <= 1000000000) (hown : w.ownsRow B 35 1 (.slice ao n c) n (uV l)) :
  Calls Tryz.prog 69 #[.slice ao n c] w fun e w' => e = .returned (.tuple #[]) /\ WordsAt w' w'.heap.size ao (srt l) /\ Turn (fun q => (Value.slice ao n c).ownBlock = some q) w w' := by
 by_cases h0 : n = 0
 ·subst h0
  obtain rfl : l = [] := List.eq_nil_of_length_eq_zero hn;refine (u64_Sort_int_nil ao c w).mono ?_;rintro e w2 ⟨rfl, hw⟩;subst hw;exact ⟨rfl, fun h => by simp [srt] at h, Turn.refl _ _⟩
 ·obtain ⟨g, rfl, hg0, hg, _, hH⟩ := holds_own (by omega) hown
  have hs := u64_slices_Sort_int g 0 c l w hH hg (by omega);rw [hn] at hs;refine hs.mono ?_;rintro e w2 ⟨rfl, q, os, hw2⟩;have hH2 : Holds encU w2 g 0 (srt l).toArray := by
   rw [hw2];refine holds_grow _ _ _ _ _ _ (by simpa [putRow, mapBlock, Sort.ahead] using hg) ?_;exact holds_putRow _ _ _ _ l.toArray _ (holds_ahead _ _ _ _ _ _ hH) (by simp)
  have hz : w.heap.size <= w2.heap.size := by
   rw [hw2];simp [grow, putRow, mapBlock, Sort.ahead]
  have hw := words_of_holds (by omega) hH2 (srt l).length (Nat.le_refl _);rw [List.take_length] at hw;refine ⟨rfl, hw, ?_⟩;rw [hw2] at hz ⊢;refine ⟨rfl, rfl, rfl, hz, fun k hk hs => ?_⟩;have hne : g ≠ k := fun e => hs (by rw [e]; rfl)
  refine (heap_grow_old _ os (by simpa [putRow, mapBlock, Sort.ahead] using hk)).trans ?_;simp [putRow, mapBlock, Sort.ahead, Array.getElem?_modify, hne]
def allR (z : E2) (f : Nat) : Nat -> List E2
 | 0 => []
 | n + 1 => allR z f n ++ ringL z (f + n)
def rgsE (w0 : Nat) (t m : Int) : Int := if isW w0 = true then (if t < 0 then 1 else if m < t then 7 else 0) else 5
def rgsL (w0 f : Nat) (t m : Int) : List Int := if rgsE w0 t m = 0 then srt (tellL (rW w0) (allR (zW w0) f (t + 1 - f).toNat)) else []
def Told (w : World) (L : List Int) (E : Int) (e : Ending) (w' : World) : Prop := ∃ ao c, e = .returned (.tuple #[.slice ao L.length c, .int .i64 E]) /\ WordsAt w' w'.heap.size ao L /\ Below w.heap.size w w'
theorem Told.nil {w w' : World} {E : Int} (h : Below w.heap.size w w') : Told w [] E (.returned (.tuple #[.slice none 0 0, .int .i64 E])) w'  := ⟨Option.none, 0, rfl, fun h => by simp at h, h⟩
theorem allR_length {z : E2} {f : Nat} (n : Nat) : (allR z f (n + 1)).length = (allR z f n).length + (ringL z (f + n)).length := by
 show (allR z f n ++ _).length = _; rw [List.length_append]
theorem allR_mono (z : E2) (f : Nat) {i j : Nat} (h : i <= j) : (allR z f i).length <= (allR z f j).length := by
 obtain ⟨d, rfl⟩ : ∃ d, j = i + d := ⟨j - i, by omega⟩;clear h
 induction d with
 | zero => exact Nat.le_refl _
 | succ d ih => rw [<- Nat.add_assoc, allR_length]; omega
theorem rings_any (w0 : Nat) (hw0 : w0 < 18446744073709551616) (fi : Int) (f : Nat) (t m : Int) (hfi : fi = f ∨ t < 0) (hf : (f : Int) <= t + 1 ∨ t < 0) (ht : t < 9223372036854775808) (ht2 : t <= m -> t <= 9999) (hlen : t <= m -> 0 <= t -> (allR (zW w0) f (t + 1 - f).toNat).length <= 1000000) (w : World) :
  Calls Tryz.prog 78 #[.int .u64 w0, .int .i64 fi, .int .i64 t, .int .i64 m] w (Told w (rgsL w0 f t m) (rgsE w0 t m)) := by
 have HC := Lib.hid (cell_any w0 hw0);have HE : Hid (rgsE w0 t m = if isW w0 = true then (if t < 0 then 1 else if m < t then 7 else 0) else 5) := rfl;have HL : Hid (rgsL w0 f t m = if rgsE w0 t m = 0 then srt (tellL (rW w0) (allR (zW w0) f (t + 1 - f).toNat)) else []) := rfl;have HBAD : Hid (∀ E w', rgsE w0 t m = E -> E ≠ 0 -> Below w.heap.size w w' -> Told w (rgsL w0 f t m) (rgsE w0 t m) (.returned (.tuple #[.slice none 0 0, .int .i64 E])) w') := fun E w' h1 h2 hb => by
  rw [HL.out, h1, if_neg h2];exact Told.nil hb
 by_cases hW : isW w0 = true
 ·have hcv : cvE w0 = 0 := by unfold cvE; rw [if_pos hW]
  rw [hcv] at HC;by_cases ht0 : t < 0
  ·have HB := Lib.hid (fun w' => HBAD.out 1 w' (by rw [HE.out, if_pos hW, if_pos ht0]) (by decide))
   have q1 : decide (t < 0) = true := decide_eq_true ht0;simp only [vC] at HC;clear hf ht2 hlen HBAD HL HE hfi
   go_enter Tryz.func78, Tryz.ntmps78
   go_wp2_with fail
   refine (HC.out _).mono ?_;rintro e w1 ⟨rfl, hb⟩;have HB2 := Lib.hid (HB.out _ (hb.alloc hb.size (.cells #[.int .i64 (cvR w0), .int .i64 (cvZ w0).1, .int .i64 (cvZ w0).2] 39)));clear hb;go_wp2;go_ret2;exact HB2.out
  ·have q1 : decide (t < 0) = false := decide_eq_false ht0
   by_cases htm : m < t
   ·have HB := Lib.hid (fun w' => HBAD.out 7 w' (by rw [HE.out, if_pos hW, if_neg ht0, if_pos htm]) (by decide))
    have q2 : decide (m < t) = true := decide_eq_true htm;simp only [vC] at HC;clear hf ht2 hlen HBAD HL HE hfi
    go_enter Tryz.func78, Tryz.ntmps78
    go_wp2_with fail
    refine (HC.out _).mono ?_;rintro e w1 ⟨rfl, hb⟩;have HB2 := Lib.hid (HB.out _ (hb.alloc hb.size (.cells #[.int .i64 (cvR w0), .int .i64 (cvZ w0).1, .int .i64 (cvZ w0).2] 39)));clear hb;go_wp2;go_ret2;exact HB2.out
   ·have q2 : decide (m < t) = false := decide_eq_false htm
    have hE0 : rgsE w0 t m = 0 := by rw [HE.out, if_pos hW, if_neg ht0, if_neg htm]
    have HL2 : Hid (rgsL w0 f t m = srt (tellL (rW w0) (allR (zW w0) f (t + 1 - f).toNat))) := by show _ = _; rw [HL.out, if_pos hE0]
    rw [hE0, HL2.out];have hcr : cvR w0 = (rW w0 : Int) := by unfold cvR; rw [if_pos hW]
    have hcz : cvZ w0 = zW w0 := by unfold cvZ; rw [if_pos hW]
    rw [hcr, hcz] at HC;have hsm : Sm 2147483648 (zW w0) := by
     have := (shapeB_iff _ _).1 ((okB_iff _ _).1 (cell_word hW).1).1;unfold Sm; omega
    have hft : (f : Int) <= t + 1 := hf.resolve_right ht0;obtain rfl : fi = f := hfi.resolve_right ht0;have ht9 := ht2 (by omega);have hln := hlen (by omega) (by omega);clear hf ht2 hlen HBAD HL HE hE0 HL2 hcr hcz hcv hW hfi;generalize zW w0 = z at *;generalize rW w0 = R at *;simp only [vC] at HC;obtain ⟨N, hN⟩ : ∃ N, (t + 1 - f).toNat = N := ⟨_, rfl⟩;rw [hN] at hln ⊢;have htN : t + 1 = f + N := by omega
    clear hN;obtain ⟨L0, hL0⟩ : ∃ L, srt (tellL R (allR z f N)) = L := ⟨_, rfl⟩;rw [hL0];have HLE := Lib.hid hL0;clear hL0
    go_enter Tryz.func78, Tryz.ntmps78
    go_wp2_with fail
    refine (HC.out _).mono ?_;rintro e w1 ⟨rfl, hb⟩;have hal : Below w1.heap.size w1 ((w1.alloc (.cells #[.int .i64 R, .int .i64 z.1, .int .i64 z.2] 39)).alloc (.cells #[.int .i64 R, .int .i64 z.1, .int .i64 z.2, .slice none 0 0] 173)) := ((Below.refl _ _).alloc (Nat.le_refl _) _).alloc (by simp) _;have ksz : ((w1.alloc (.cells #[.int .i64 R, .int .i64 z.1, .int .i64 z.2] 39)).alloc (.cells #[.int .i64 R, .int .i64 z.1, .int .i64 z.2, .slice none 0 0] 173)).heap.size = w1.heap.size + 2 := by simp
    have HB2 : Hid (Below w.heap.size w ((w1.alloc (.cells #[.int .i64 R, .int .i64 z.1, .int .i64 z.2] 39)).alloc (.cells #[.int .i64 R, .int .i64 z.1, .int .i64 z.2, .slice none 0 0] 173))) := hb.trans (hal.mono hb.size);have HK2 : Hid (Wkr ((w1.alloc (.cells #[.int .i64 R, .int .i64 z.1, .int .i64 z.2] 39)).alloc (.cells #[.int .i64 R, .int .i64 z.1, .int .i64 z.2, .slice none 0 0] 173)) (w1.heap.size + 1) R z (.slice none 0 0) []) := ⟨heap_new _ _ _ (by simp), World.ownsRow_nil _ _ _ _⟩;have hwz := hb.size;clear hal hb HC
    go_upto_region 9 with (fail)
    generalize (w1.alloc (.cells #[.int .i64 R, .int .i64 z.1, .int .i64 z.2] 39)).alloc (.cells #[.int .i64 R, .int .i64 z.1, .int .i64 z.2, .slice none 0 0] 173) = w2 at *;obtain ⟨g, hg⟩ : ∃ g, w1.heap.size + 1 = g := ⟨_, rfl⟩;rw [hg] at HK2 ⊢;have hg2 : w2.heap.size = g + 1 := by omega
    have hgw : w.heap.size < g := by omega
    clear hg ksz hwz;go_wp2
    go_loopw [13] (fun i wr => ∃ j : Nat, j <= N /\ i = .int .i64 ((f : Int) + j) /\ Hid (∃ v', Wkr wr g R z v' (tellL R (allR z f j)) /\ Fr g (.slice none 0 0) v' w2 wr)) (fun i _ => (f + N) - (intOf i).toNat)
    case atStart => exact ⟨0, by omega, by simp, _, HK2.out, Fr.refl _ _ _⟩
    case round =>
     obtain ⟨j, hj, rfl, HI⟩ := hrel;by_cases hjN : j < N
     ·obtain ⟨v', hwk, hfr⟩ := HI.out
      have hl1 := allR_mono z f (show j <= N by omega);have hl2 := tellL_length R (allR z f j);have hr := ring_any g R z (f + j) v' (tellL R (allR z f j)) wr hwk hsm (by omega) (by omega);rw [<- tellL_app] at hr;have HR : Hid (Calls Tryz.prog 121 #[.pointer (some ⟨g, 0, none⟩), .int .i64 ((f : Int) + j)] wr (Walked wr g R z v' (tellL R (allR z f (j + 1))))) := by
       have := hr;rw [Int.natCast_add] at this;exact this
      have HFR := Lib.hid hfr;have q4 : decide ((f : Int) + j <= t) = true := decide_eq_true (by omega);clear hwk hfr hr HI hl1 hl2
      go_wp2_with fail
      refine HR.out.mono ?_;rintro e w4 ⟨rfl, v4, hw4, hf4⟩;have HN : Hid (∃ v', Wkr w4 g R z v' (tellL R (allR z f (j + 1))) /\ Fr g (.slice none 0 0) v' w2 w4) := ⟨v4, hw4, HFR.out.trans hf4⟩;clear hw4 hf4;go_wp2
      go_roundw
      case rel => exact ⟨j + 1, by omega, by simp; omega, HN.out⟩
      case measure => simp [intOf]; omega
     ·obtain rfl : j = N := by omega
      obtain ⟨v', hwk, hfr⟩ := HI.out;have q4 : decide ((f : Int) + j <= t) = false := decide_eq_false (by omega);have hl2 := tellL_length R (allR z f j);have hap := own_apart hwk.2;obtain ⟨ao, c, rfl, _⟩ := own_form hwk.2;have HS := Lib.hid (sortw_any (g + 1) _ c ao _ wr rfl (by omega) hwk.2);have HSL : Hid (srt (tellL R (allR z f j)) = L0) := HLE.out;rw [HSL.out] at HS;have hll : L0.length = (tellL R (allR z f j)).length := by rw [<- HSL.out]; exact srt_length _
      have HBR : Hid (Below w.heap.size w wr) := HB2.out.trans (hfr.1.below (by omega) fun q hq e => e.elim (fun e => by omega) (fun e => by cases e));have hlt := hwk.2.lt;obtain ⟨c0, c1, c2, c3, f1, f2, f3, hgl⟩ := hwk.cells;have HG := Lib.hid hwk.1;rw [<- hll] at HS c3 hap hlt;have HHL := Lib.hid hll;clear hwk hfr HI hl2 hll
      go_wp2_with fail
      refine HS.out.mono ?_;rintro e w5 ⟨rfl, hwd, htn⟩;have k3 : w5.cell? ⟨g, 3, none⟩ = some (.slice ao L0.length c) := (htn.cell (p := ⟨g, 3, none⟩) hgl hap).trans c3;have HB5 : Hid (Below w.heap.size w w5) := HBR.out.trans (htn.below (by have := HBR.out.size; omega) fun q hq e => by have := (hlt q e).1; omega);have HW5 := Lib.hid hwd;clear hwd htn c0 c1 c2 c3;go_wp2;go_ret2;exact ⟨ao, c, rfl, HW5.out, HB5.out⟩
 ·have hcv : cvE w0 = 5 := by unfold cvE; rw [if_neg hW]
  rw [hcv] at HC;have HB := Lib.hid (fun w' => HBAD.out 5 w' (by rw [HE.out, if_neg hW]) (by decide));simp only [vC] at HC;clear hf ht2 hlen HBAD HL HE hfi
  go_enter Tryz.func78, Tryz.ntmps78
  go_wp2_with fail
  refine (HC.out _).mono ?_;rintro e w1 ⟨rfl, hb⟩;have HB2 := Lib.hid (HB.out _ (hb.alloc hb.size (.cells #[.int .i64 (cvR w0), .int .i64 (cvZ w0).1, .int .i64 (cvZ w0).2] 39)));clear hb;go_wp2;go_ret2;exact HB2.out
theorem told_pass {w w1 : World} {L : List Int} {E : Int} {e : Ending} (h : Told w L E e w1) : ∃ ao c, e = .returned (.tuple #[.slice ao L.length c, .int .i64 E]) /\ Told w L E (.returned (.tuple #[.slice ao L.length c, .int .i64 E])) w1 := by
 obtain ⟨ao, c, rfl, h2⟩ := h;exact ⟨ao, c, rfl, ao, c, rfl, h2⟩
theorem sidesP_len6 (z : E2) (k : Nat) : (ringL z k).length <= 6 * k + 1 := by
 unfold ringL
 split
 ·simp
 ·rw [sidesP_length]; omega
theorem allR_bound (z : E2) (f n : Nat) : (allR z f n).length <= n * (6 * (f + n) + 1) := by
 induction n with
 | zero => simp [allR]
 | succ n ih =>
  rw [allR_length];have h1 := sidesP_len6 z (f + n);have h2 : n * (6 * (f + n) + 1) <= n * (6 * (f + (n + 1)) + 1) := Nat.mul_le_mul_left _ (by omega);rw [Nat.succ_mul];omega
theorem nei_any (w0 : Nat) (hw0 : w0 < 18446744073709551616) (w : World) : Calls Tryz.prog 45 #[.int .u64 w0] w (Told w (rgsL w0 1 1 1) (rgsE w0 1 1)) := by
 have H := Lib.hid (rings_any w0 hw0 1 1 1 1 (by omega) (by omega) (by omega) (by omega) (fun _ _ => Nat.le_trans (allR_bound _ _ _) (by decide)) w);generalize rgsL w0 1 1 1 = L at *;generalize rgsE w0 1 1 = E at *
 go_enter Tryz.func45, Tryz.ntmps45
 go_wp2_with fail
 refine H.out.mono ?_;rintro e w1 h;obtain ⟨ao, c, rfl, h2⟩ := told_pass h;have HT := Lib.hid h2;clear h h2;go_wp2;go_ret2;exact HT.out
end
section
open Go.RowKit Go.Lib Wd
theorem lineP_mem (c u y : E2) (k : Nat) : y ∈ lineP c u k ↔ ∃ j : Nat, j < k /\ y = (c.1 + j * u.1, c.2 + j * u.2) := by
 unfold lineP;rw [List.mem_map];constructor
 ·rintro ⟨j, hj, rfl⟩; exact ⟨j, List.mem_range.1 hj, rfl⟩
 ·rintro ⟨j, hj, rfl⟩; exact ⟨j, List.mem_range.2 hj, rfl⟩
theorem corn_at (z : E2) (k : Nat) : corn z k 0 = (z.1, z.2 - k) /\ corn z k 1 = (z.1 + k, z.2 - k) /\ corn z k 2 = (z.1 + k, z.2) /\ corn z k 3 = (z.1, z.2 + k) /\ corn z k 4 = (z.1 - k, z.2 + k) /\ corn z k 5 = (z.1 - k, z.2) := by
 simp only [corn, ptP, unitE, Prod.mk.injEq];omega
theorem ring_mem (z y : E2) (k : Nat) : y ∈ ringL z k ↔ Hex k (subE y z) /\ ¬ Hex ((k : Int) - 1) (subE y z) := by
 obtain ⟨c0, c1, c2, c3, c4, c5⟩ := corn_at z k;obtain ⟨a, b⟩ := y;obtain ⟨p, q⟩ := z;unfold ringL
 split
 ·subst k
  unfold Hex subE;simp only [List.mem_singleton, Prod.mk.injEq];omega
 ·simp only [sidesP, List.nil_append, List.mem_append, lineP_mem, c0, c1, c2, c3, c4, c5, unitE, Prod.mk.injEq]
  unfold Hex subE;simp only;constructor
  ·rintro (((((⟨j, h1, h2, h3⟩ | ⟨j, h1, h2, h3⟩) | ⟨j, h1, h2, h3⟩) | ⟨j, h1, h2, h3⟩) | ⟨j, h1, h2, h3⟩) | ⟨j, h1, h2, h3⟩) <;> omega
  ·intro ⟨h1, h2⟩
   rcases (show (b - q = -k /\ 0 <= a - p /\ a - p < k) ∨ (a - p = k /\ -k <= b - q /\ b - q < 0) ∨ (a - p + (b - q) = k /\ 0 <= b - q /\ b - q < k) ∨ (b - q = k /\ -k < a - p /\ a - p <= 0) ∨ (a - p = -k /\ 0 < b - q /\ b - q <= k) ∨ (a - p + (b - q) = -k /\ -k < b - q /\ b - q <= 0) by omega) with h | h | h | h | h | h
   ·exact .inl (.inl (.inl (.inl (.inl ⟨(a - p).toNat, by omega, by omega, by omega⟩))))
   ·exact .inl (.inl (.inl (.inl (.inr ⟨(b - q + k).toNat, by omega, by omega, by omega⟩))))
   ·exact .inl (.inl (.inl (.inr ⟨(b - q).toNat, by omega, by omega, by omega⟩)))
   ·exact .inl (.inl (.inr ⟨(p - a).toNat, by omega, by omega, by omega⟩))
   ·exact .inl (.inr ⟨(k - (b - q)).toNat, by omega, by omega, by omega⟩)
   ·exact .inr ⟨(q - b).toNat, by omega, by omega, by omega⟩
theorem isw_any (w0 : Nat) (hw : w0 < 18446744073709551616) (w : World) : Calls Tryz.prog 53 #[.int .u64 w0] w fun e w' => e = .returned (.bool (isW w0)) /\ Below w.heap.size w w' := by
 have HC := Lib.hid (rcell_any w0 hw);have HE : Hid ((cvE w0 == 0) = isW w0) := by
  show _ = _;unfold cvE;cases isW w0 <;> rfl
 simp only [vC] at HC;generalize cvR w0 = r at *;generalize cvZ w0 = z at *;generalize cvE w0 = e0 at *
 go_enter Tryz.func53, Tryz.ntmps53
 go_wp2_with fail
 refine (HC.out _).mono ?_;rintro e w1 ⟨rfl, hb⟩;have HB := Lib.hid hb;have hz := hb.size;clear hb;go_wp2;go_ret;exact ⟨by rw [<- HE.out]; rfl, HB.out.alloc hz _⟩
theorem rgs_word {r : Nat} {z : E2} (h : okB r z = true) (f n : Nat) (t m : Int) (ht : 0 <= t) (hm : t <= m) (hn : (t + 1 - f).toNat = n) : rgsE (ofW r z) t m = 0 /\ rgsL (ofW r z) f t m = srt (tellL r (allR z f n)) := by
 obtain ⟨h1, h2, h3⟩ := word_cell h;rw [(ofW_ok h).1];have hE : rgsE (wordN r z) t m = 0 := by unfold rgsE; rw [if_pos h1, if_neg (by omega), if_neg (by omega)]
 refine ⟨hE, ?_⟩;unfold rgsL;rw [if_pos hE, h2, h3, hn]
end
section
open Go.RowKit Go.Lib Wd Cv
theorem nb_mem {R : Nat} {z : E2} (hz : okB R z = true) : (∀ x ∈ rgsL (wordN R z) 1 1 1, ∃ k, k < 6 /\ okB R (addE z (unitE k)) = true /\ x = (wordN R (addE z (unitE k)) : Nat)) /\
  (∀ k, k < 6 -> okB R (addE z (unitE k)) = true -> ((wordN R (addE z (unitE k)) : Nat) : Int) ∈ rgsL (wordN R z) 1 1 1) /\ (rgsL (wordN R z) 1 1 1).length <= 6 := by
 have h1 := rgs_word hz 1 1 1 1 (by omega) (by omega) (by omega);rw [(ofW_okF hz).1] at h1;have e : allR z 1 1 = ringL z 1 := by show [] ++ ringL z (1 + 0) = _; rw [List.nil_append]
 rw [h1.2, e];have hm : ∀ y, y ∈ ringL z 1 ↔ ∃ k, k < 6 /\ y = addE z (unitE k) := fun y => by
  rw [ring_mem];constructor
  ·intro h
   have key : ∀ k, subE y z = unitE k -> y = addE z (unitE k) := fun k e => by rw [<- e]; unfold addE subE; ext <;> simp only <;> omega
   unfold Hex at h;have hs : subE y z = (1, 0) ∨ subE y z = (0, 1) ∨ subE y z = (-1, 1) ∨ subE y z = (-1, 0) ∨ subE y z = (0, -1) ∨ subE y z = (1, -1) := by
    generalize subE y z = s at *;obtain ⟨s1, s2⟩ := s;simp only [Prod.mk.injEq] at h ⊢;omega
   rcases hs with e | e | e | e | e | e
   ·exact ⟨0, by omega, key 0 e⟩
   ·exact ⟨1, by omega, key 1 e⟩
   ·exact ⟨2, by omega, key 2 e⟩
   ·exact ⟨3, by omega, key 3 e⟩
   ·exact ⟨4, by omega, key 4 e⟩
   ·exact ⟨5, by omega, key 5 e⟩
  ·rintro ⟨k, hk, rfl⟩
   have e : subE (addE z (unitE k)) z = unitE k := by unfold addE subE; ext <;> simp only <;> omega
   rw [e];rcases (show k = 0 ∨ k = 1 ∨ k = 2 ∨ k = 3 ∨ k = 4 ∨ k = 5 by omega) with rfl | rfl | rfl | rfl | rfl | rfl <;> simp [Hex, unitE]
 refine ⟨fun x hx => ?_, fun k hk ho => ?_, ?_⟩
 ·rw [srt_mem] at hx
  unfold tellL at hx;obtain ⟨y, hy, rfl⟩ := List.mem_map.1 hx;obtain ⟨h2, h3⟩ := List.mem_filter.1 hy;obtain ⟨k, hk, rfl⟩ := (hm y).1 h2;exact ⟨k, hk, by simpa using h3, by rw [Int.toNat_natCast]⟩
 ·rw [srt_mem]
  unfold tellL;exact List.mem_map.2 ⟨addE z (unitE k), List.mem_filter.2 ⟨(hm _).2 ⟨k, hk, rfl⟩, by simpa using ho⟩, by rw [Int.toNat_natCast]⟩
 ·rw [srt_length]
  unfold tellL;rw [List.length_map];exact Nat.le_trans (List.length_filter_le _ _) (Nat.le_of_eq rfl)
end
section
open Go.RowKit Go.Lib Go.Sort
theorem uclip_any (ao : Option Addr) (n c : Nat) (w : World) (h : n <= c) : Calls Tryz.prog 126 #[.slice ao n c] w fun e w' => e = .returned (.slice ao n n) /\ w = w' := by
 go_enter Tryz.func126, Tryz.ntmps126
 go_wp2;go_ret;exact ⟨rfl, rfl⟩
theorem ucompact_none (ao : Option Addr) (c : Nat) (w : World) : Calls Tryz.prog 127 #[.slice ao 0 c] w fun e w' => e = .returned (.slice ao 0 c) /\ w = w' := by
 go_enter Tryz.func127, Tryz.ntmps127
 go_wp2;go_ret;exact ⟨rfl, rfl⟩
end
end Go.Proofs.YtpkoapmpknbgoaaGreat
