/- Looks at rings in whatever later world; what the laws on rings share. -/
import Derived.Test.YtnnfkdajbaicoaaPolyH
import Derived.Test.YtnnfkdajbaicoaaPolyF
namespace Go.Proofs.Ytnnfkdajbaicoaa
open Go.RowKit

theorem eq_pair' (d : Nat) (a b c e : Int) (w : World) : (Op.equalIn (d + 2) 27 (.agg #[.int .i64 a, .int .i64 b]) (.agg #[.int .i64 c, .int .i64 e])).run Try.prog w = .ok (a == c && b == e) w := by
  have u := run_underlying Try.underlying27
  have z := Try.sizeOf2
  have E : ∀ (a b : Int) (w : World), (Op.equalIn (d + 1) 2 (.int .i64 a) (.int .i64 b)).run Try.prog w = .ok (a == b) w := fun a b w => run_equalIn_int w d 2 .i64 .i64 a b Try.underlying2
  rw [show d + 2 = (d + 1) + 1 from rfl, Op.equalIn]
  generalize Op.equalIn (d + 1) = F at E ⊢
  simp only [Sem.run_bind, u, Result.andThen_ok, z]
  by_cases h1 : a = c <;> by_cases h2 : b = e <;>
    simp [forIn, Sem.run_bind, List.range', part, z, E, go_sem, h1, h2]
/-- Two points held against each other. -/
theorem eq_pair (a b c e : Int) (w : World) : (Op.equalIn 10000 27 (.agg #[.int .i64 a, .int .i64 b]) (.agg #[.int .i64 c, .int .i64 e])).run Try.prog w = .ok (a == c && b == e) w := eq_pair' 9998 a b c e w

/-- A look at rings, in whatever later world; its answer is known. -/
def InsV (f : Nat) (ao : Option Addr) (n c : Nat) (x y : Int) (P : Bool) (X : World) : Prop :=
  ∀ wx, Below X.heap.size X wx → Calls Try.prog f #[.slice ao n c, .int .i64 x, .int .i64 y] wx fun e w' => e = .returned (.bool P) ∧ Below wx.heap.size wx w'
def AreV (ao : Option Addr) (n c : Nat) (V : Int) (X : World) : Prop :=
  ∀ wx, Below X.heap.size X wx → Calls Try.prog 15 #[.slice ao n c] wx fun e w' => e = .returned (.int .i64 V) ∧ Below wx.heap.size wx w'
theorem InsV.use {f n c : Nat} {ao : Option Addr} {x y : Int} {P : Bool} {X : World} (h : InsV f ao n c x y P X) {wx : World} (hb : Below X.heap.size X wx) :
    Calls Try.prog f #[.slice ao n c, .int .i64 x, .int .i64 y] wx fun e w' => e = .returned (.bool P) ∧ Below X.heap.size X w' := (h wx hb).mono fun _ _ ⟨he, h2⟩ => ⟨he, below_later hb hb.size h2⟩
theorem InsV.later {f n c : Nat} {ao : Option Addr} {x y : Int} {P : Bool} {X Y : World} (h : InsV f ao n c x y P X) (hb : Below X.heap.size X Y) : InsV f ao n c x y P Y := fun wx hx => h wx (below_later hb hb.size hx)
theorem AreV.use {n c : Nat} {ao : Option Addr} {V : Int} {X : World} (h : AreV ao n c V X) {wx : World} (hb : Below X.heap.size X wx) :
    Calls Try.prog 15 #[.slice ao n c] wx fun e w' => e = .returned (.int .i64 V) ∧ Below X.heap.size X w' := (h wx hb).mono fun _ _ ⟨he, h2⟩ => ⟨he, below_later hb hb.size h2⟩
theorem AreV.later {n c : Nat} {ao : Option Addr} {V : Int} {X Y : World} (h : AreV ao n c V X) (hb : Below X.heap.size X Y) : AreV ao n c V Y := fun wx hx => h wx (below_later hb hb.size hx)
theorem insV_of {ao : Option Addr} {m c : Nat} {ls : List (List Pt)} {X : World} (h : RingsAt X X.heap.size ao ls) (hm : m = ls.length) (hn : ls.length ≤ 1000000000) (ht : totTo ls ls.length ≤ 1000000000) (x y : Int) (P : Bool) (hP : insideF ls x y = P) : InsV 12 ao m c x y P X := by
  subst hm hP
  exact fun wx hb => inside_any ao c ls x y wx _ hb.size (h.below hb (Nat.le_refl _)) hn ht
theorem onV_of {ao : Option Addr} {m c : Nat} {ls : List (List Pt)} {X : World} (h : RingsAt X X.heap.size ao ls) (hm : m = ls.length) (hn : ls.length ≤ 1000000000) (ht : totTo ls ls.length ≤ 1000000000) (x y : Int) (P : Bool) (hP : onF ls x y = P) : InsV 13 ao m c x y P X := by
  subst hm hP
  exact fun wx hb => onall_any ao c ls x y wx _ hb.size (h.below hb (Nat.le_refl _)) hn ht
theorem areV_of {ao : Option Addr} {n c : Nat} {l : List Pt} {X : World} (h : RingAt X X.heap.size ao l) (hm : n = l.length) (hn : n ≤ 1000000000) (V : Int) (hP : area2F l = V) : AreV ao n c V X := by
  subst hm hP
  exact fun wx hb => area_any ao c l wx _ hb.size (h.below hb (Nat.le_refl _)) hn
theorem tot_small {ls : List (List Pt)} (h1 : ls.length ≤ 3) (h : ∀ l ∈ ls, l.length ≤ 6) : ls.length ≤ 1000000000 ∧ totTo ls ls.length ≤ 1000000000 := by
  have := totTo_bound 6 ls ls.length h
  omega


def BoxV (ao : Option Addr) (n c : Nat) (s : Bx) (X : World) : Prop :=
  ∀ wx, Below X.heap.size X wx → Calls Try.prog 16 #[.slice ao n c] wx fun e w' => e = .returned (.tuple #[.agg #[.int .i64 s.a, .int .i64 s.b], .agg #[.int .i64 s.c, .int .i64 s.d]]) ∧ Below X.heap.size X w' ∧ Below wx.heap.size wx w'
theorem BoxV.use {n c : Nat} {ao : Option Addr} {s : Bx} {X : World} (h : BoxV ao n c s X) {wx : World} (hb : Below X.heap.size X wx) :
    Calls Try.prog 16 #[.slice ao n c] wx fun e w' => e = .returned (.tuple #[.agg #[.int .i64 s.a, .int .i64 s.b], .agg #[.int .i64 s.c, .int .i64 s.d]]) ∧ Below X.heap.size X w' ∧ Below wx.heap.size wx w' := h wx hb
theorem boxV_of {ao : Option Addr} {m c : Nat} {ls : List (List Pt)} {X : World} (h : RingsAt X X.heap.size ao ls) (hm : m = ls.length) (hn : ls.length ≤ 1000000000) (ht : totTo ls ls.length ≤ 1000000000) (s : Bx) (hs : boxF ls = s) : BoxV ao m c s X := by
  subst hm hs
  exact fun wx hb => (box_any ao c ls wx _ hb.size (h.below hb (Nat.le_refl _)) hn ht).mono fun e w' ⟨he, h2⟩ => ⟨he, below_later hb hb.size h2, h2⟩
end Go.Proofs.Ytnnfkdajbaicoaa
