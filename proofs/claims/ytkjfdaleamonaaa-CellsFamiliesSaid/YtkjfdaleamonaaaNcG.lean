/- Rows of rows of words, a call's own; the contract of cells.Groups. -/
import Derived.Test.YtkjfdaleamonaaaNcC
import Derived.Maps.AppendAt
namespace Go.Proofs.Ytkjfdaleamonaaa
open Go.RowKit Go.Lib Wd

theorem info_us : (Try.prog.info? 23).map (fun i => (i.zero, i.size, i.bytes)) = some (some (.slice none 0 0), 1, 24) := by kernel_rfl
theorem own_apart {w : World} {b1 b2 : Nat} {e1 e2 : TypeId} {s1 s2 : Nat} {v1 v2 : Value} {n1 n2 : Nat} {x1 x2 : List Value} (h1 : w.ownsRow b1 e1 s1 v1 n1 x1) (h2 : w.ownsRow b2 e2 s2 v2 n2 x2) (hne : e1 ≠ e2) : v1.ownBlock = none ∨ v1.ownBlock ≠ v2.ownBlock := by
  rcases h1.2 with ⟨rfl, _⟩ | ⟨g, cap, cur, rfl, _, hg, _⟩
  · exact .inl rfl
  · right
    rcases h2.2 with ⟨rfl, _⟩ | ⟨g', cap', cur', rfl, _, hg', _⟩
    · simp [Value.ownBlock]
    · simp only [Value.ownBlock, ne_eq, Option.some.injEq]
      rintro rfl
      rw [hg] at hg'
      simp at hg'
      exact hne hg'.2
/-- Words in rows of a call's own, row by row. -/
def OwnG (w : World) (B : Nat) : List Value → List (List Int) → Prop
  | [], [] => True
  | v :: vs, l :: ls => w.ownsRow B 24 1 v l.length (uV l) ∧ OwnG w B vs ls
  | _, _ => False
theorem OwnG.kept {w w' : World} {B : Nat} {row : Option Nat} (hg : w.grownBy w' row) : ∀ {vs : List Value} {ls : List (List Int)}, OwnG w B vs ls → (∀ v ∈ vs, v.ownBlock = none ∨ v.ownBlock ≠ row) → OwnG w' B vs ls
  | [], [], _, _ => trivial
  | _ :: _, _ :: _, h, hn => ⟨h.1.kept hg (hn _ List.mem_cons_self), OwnG.kept hg h.2 fun v hv => hn v (List.mem_cons_of_mem _ hv)⟩
theorem OwnG.later {w w' : World} {B : Nat} (hb : Below w.heap.size w w') : ∀ {vs : List Value} {ls : List (List Int)}, OwnG w B vs ls → OwnG w' B vs ls
  | [], [], _ => trivial
  | _ :: _, _ :: _, h => ⟨own_later h.1 hb, OwnG.later hb h.2⟩
theorem OwnG.snoc {w : World} {B : Nat} {v : Value} {l : List Int} (hv : w.ownsRow B 24 1 v l.length (uV l)) : ∀ {vs : List Value} {ls : List (List Int)}, OwnG w B vs ls → OwnG w B (vs ++ [v]) (ls ++ [l])
  | [], [], _ => ⟨hv, trivial⟩
  | _ :: _, _ :: _, h => ⟨h.1, OwnG.snoc hv h.2⟩
theorem OwnG.length {w : World} {B : Nat} : ∀ {vs : List Value} {ls : List (List Int)}, OwnG w B vs ls → vs.length = ls.length
  | [], [], _ => rfl
  | _ :: _, _ :: _, h => by rw [List.length_cons, List.length_cons, OwnG.length h.2]
theorem OwnG.mem {w : World} {B : Nat} : ∀ {vs : List Value} {ls : List (List Int)}, OwnG w B vs ls → ∀ v ∈ vs, ∃ l : List Int, w.ownsRow B 24 1 v l.length (uV l)
  | [], [], _, v, hv => by cases hv
  | _ :: _, l :: _, h, v, hv => by
    rcases List.mem_cons.1 hv with rfl | hv
    · exact ⟨l, h.1⟩
    · exact OwnG.mem h.2 v hv
theorem OwnG.get {w : World} {B : Nat} : ∀ {vs : List Value} {ls : List (List Int)} {i : Nat}, OwnG w B vs ls → i < ls.length → w.ownsRow B 24 1 (vs.getD i undef) (ls.getD i []).length (uV (ls.getD i []))
  | [], [], _, _, hi => absurd hi (by simp)
  | [], _ :: _, _, h, _ => h.elim
  | _ :: _, [], _, h, _ => h.elim
  | _ :: _, _ :: _, 0, h, _ => h.1
  | _ :: _, _ :: _, i + 1, h, hi => by
    have := OwnG.get (i := i) h.2 (by simpa using hi)
    simpa using this
theorem OwnG.last {w : World} {B : Nat} : ∀ {vs : List Value} {ls : List (List Int)} {v : Value} {l : List Int}, OwnG w B (vs ++ [v]) (ls ++ [l]) → OwnG w B vs ls ∧ w.ownsRow B 24 1 v l.length (uV l)
  | [], [], _, _, h => ⟨trivial, h.1⟩
  | [], _ :: ls, _, _, h => by
    have := h.2.length
    simp at this
  | _ :: vs, [], _, _, h => by
    have := h.2.length
    simp at this
  | _ :: _, _ :: _, _, _, h => ⟨⟨h.1, (OwnG.last h.2).1⟩, (OwnG.last h.2).2⟩
/-- A row of rows of words. -/
def Gr (w : World) (B : Nat) (v : Value) (vs : List Value) (G : List (List Int)) : Prop :=
  w.ownsRow B 23 1 v vs.length vs ∧ OwnG w B vs G ∧ vs.Pairwise fun a b => a.ownBlock ≠ b.ownBlock
theorem Gr.nil (w : World) (B : Nat) : Gr w B (.slice none 0 0) [] [] := ⟨World.ownsRow_nil _ _ _ _, trivial, List.Pairwise.nil⟩
theorem Gr.later {w w' : World} {B : Nat} {v : Value} {vs : List Value} {G : List (List Int)} (h : Gr w B v vs G) (hb : Below w.heap.size w w') : Gr w' B v vs G := ⟨own_later h.1 hb, h.2.1.later hb, h.2.2⟩
theorem lit_own (w : World) (B : Nat) (x : Int) (hB : B ≤ w.heap.size) : (w.alloc (.cells #[.int .u64 x] 24)).ownsRow B 24 1 (.slice (some ⟨w.heap.size, 0, none⟩) 1 1) 1 (uV [x]) :=
  World.ownsRow_lit (size := 1) (e := 24) w #[.int .u64 x] 1 hB (by decide) rfl
/-- One row of one word more. -/
theorem Gr.snoc {w w3 : World} {B : Nat} {v v' : Value} {vs : List Value} {G : List (List Int)} {x : Int} (h : Gr w B v vs G) (hB : B ≤ w.heap.size)
    (h1 : w3.ownsRow B 23 1 v' (vs.length + 1) (vs ++ [.slice (some ⟨w.heap.size, 0, none⟩) 1 1])) (hg : ((w.alloc (.cells #[.int .u64 x] 24)).alloc (.cells #[.slice (some ⟨w.heap.size, 0, none⟩) 1 1] 23)).grownBy w3 v.ownBlock) :
    Gr w3 B v' (vs ++ [.slice (some ⟨w.heap.size, 0, none⟩) 1 1]) (G ++ [[x]]) := by
  have hal : Below w.heap.size w ((w.alloc (.cells #[.int .u64 x] 24)).alloc (.cells #[.slice (some ⟨w.heap.size, 0, none⟩) 1 1] 23)) := ((Below.refl _ _).alloc (Nat.le_refl _) _).alloc (by simp) _
  have hal2 : Below (w.alloc (.cells #[.int .u64 x] 24)).heap.size (w.alloc (.cells #[.int .u64 x] 24)) ((w.alloc (.cells #[.int .u64 x] 24)).alloc (.cells #[.slice (some ⟨w.heap.size, 0, none⟩) 1 1] 23)) := (Below.refl _ _).alloc (Nat.le_refl _) _
  have ho := own_later h.1 hal
  have hO : OwnG ((w.alloc (.cells #[.int .u64 x] 24)).alloc (.cells #[.slice (some ⟨w.heap.size, 0, none⟩) 1 1] 23)) B (vs ++ [.slice (some ⟨w.heap.size, 0, none⟩) 1 1]) (G ++ [[x]]) := OwnG.snoc (own_later (lit_own w B x hB) hal2) (h.2.1.later hal)
  refine ⟨by rw [List.length_append]; exact h1, hO.kept hg fun a ha => ?_, ?_⟩
  · obtain ⟨l, hl⟩ := hO.mem a ha
    exact own_apart hl ho (by decide)
  · refine List.pairwise_append.2 ⟨h.2.2, List.pairwise_singleton _ _, fun a ha b hb => ?_⟩
    obtain rfl := List.mem_singleton.1 hb
    obtain ⟨l, hl⟩ := h.2.1.mem a ha
    intro e
    have := (hl.lt w.heap.size (by rw [e]; rfl)).2
    omega
theorem grown_set {w : World} (g k : Nat) (u : Value) : w.grownBy (w.setCell ⟨g, k, none⟩ u) (some g) :=
  ⟨rfl, rfl, rfl, by simp, fun j _ hne => Below.heap_setCell _ _ _ _ fun e => hne (by rw [e])⟩
/-- A word more in the last row. -/
theorem Gr.more {w w3 : World} {B g n c : Nat} {x x' : Value} {vs : List Value} {G : List (List Int)} {l : List Int} {u : Int} (h : Gr w B (.slice (some ⟨g, 0, none⟩) n c) (vs ++ [x]) (G ++ [l]))
    (h1 : w3.ownsRow B 24 1 x' (l.length + 1) (uV l ++ [.int .u64 u])) (hg : (w.alloc (.cells #[.int .u64 u] 24)).grownBy w3 x.ownBlock) (hat : x'.ownBlock = x.ownBlock ∨ x'.ownBlock = some (w.alloc (.cells #[.int .u64 u] 24)).heap.size) :
    Gr (w3.setCell ⟨g, vs.length, none⟩ x') B (.slice (some ⟨g, 0, none⟩) n c) (vs ++ [x']) (G ++ [l ++ [u]]) ∧ w3.ownsRow B 23 1 (.slice (some ⟨g, 0, none⟩) n c) (vs.length + 1) (vs ++ [x]) := by
  have hal : Below w.heap.size w (w.alloc (.cells #[.int .u64 u] 24)) := (Below.refl _ _).alloc (Nat.le_refl _) _
  obtain ⟨hO, hx⟩ := h.2.1.last
  obtain ⟨hp1, -, hp2⟩ := List.pairwise_append.1 h.2.2
  have ho := own_later h.1 hal
  have ho3 : w3.ownsRow B 23 1 (.slice (some ⟨g, 0, none⟩) n c) (vs ++ [x]).length (vs ++ [x]) := ho.kept hg (own_apart ho (own_later hx hal) (by decide))
  have hO3 : OwnG w3 B vs G := (hO.later hal).kept hg fun a ha => .inr (hp2 a ha x (List.mem_singleton.2 rfl))
  have hx3 : w3.ownsRow B 24 1 x' (l ++ [u]).length (uV (l ++ [u])) := by rw [List.length_append]; simpa [uV] using h1
  have hset : (w3.setCell ⟨g, vs.length, none⟩ x').ownsRow B 23 1 (.slice (some ⟨g, 0, none⟩) n c) (vs ++ [x]).length ((vs ++ [x]).set vs.length x') := by
    have hn : n = (vs ++ [x]).length := by
      rcases ho3.2 with ⟨h0, _⟩ | ⟨g', cap', cur, hv, _⟩
      · cases h0
      · cases hv; rfl
    subst hn
    exact own_set ho3 _ _
  have hsg := grown_set (w := w3) g vs.length x'
  refine ⟨⟨?_, ?_, ?_⟩, by rw [List.length_append] at ho3; exact ho3⟩
  · rw [List.set_append_right _ _ (Nat.le_refl _), Nat.sub_self] at hset
    simpa using hset
  · refine OwnG.snoc (hx3.kept hsg (own_apart hx3 ho3 (by decide))) (hO3.kept hsg fun a ha => ?_)
    obtain ⟨m, hm⟩ := hO3.mem a ha
    exact own_apart hm ho3 (by decide)
  · refine List.pairwise_append.2 ⟨hp1, List.pairwise_singleton _ _, fun a ha b hb => ?_⟩
    obtain rfl := List.mem_singleton.1 hb
    rcases hat with e | e
    · rw [e]; exact hp2 a ha x (List.mem_singleton.2 rfl)
    · rw [e]
      obtain ⟨m, hm⟩ := (hO.later hal).mem a ha
      intro e2
      have := (hm.lt _ e2).2
      omega
end Go.Proofs.Ytkjfdaleamonaaa
