/- Joined: NcG, NcH, NcB, NcD, NfG, NfH, NfJ, NcQ, NfW, SlC, SlD, SlE, SlF, SlG, SlH, SlI: contracts and plain laws, each with its own heading below. -/
import Derived.Test.YtkjfdaleamonaaaGreatPackAF
import Derived.Maps.AppendAt
import Derived.Test.YtkjfdaleamonaaaGreatPackAE
import Derived.Lib.AppendZeros
import Derived.OwnWalk
import Derived.Laws.CopyOwn
import Derived.Deep.RegionLaw
import Derived.Laws.OwnMore
/- Rows of rows of words, a call's own; the contract of cells.Groups. -/
namespace Go.Proofs.YtkjfdaleamonaaaGreat
open Go.RowKit Go.Lib Wd

theorem info_us : (Tryz.prog.info? 22).map (fun i => (i.zero, i.size, i.bytes)) = some (some (.slice none 0 0), 1, 24) := by kernel_rfl
theorem own_apart {w : World} {b1 b2 : Nat} {e1 e2 : TypeId} {s1 s2 : Nat} {v1 v2 : Value} {n1 n2 : Nat} {x1 x2 : List Value} (h1 : w.ownsRow b1 e1 s1 v1 n1 x1) (h2 : w.ownsRow b2 e2 s2 v2 n2 x2) (hne : e1 ≠ e2) : v1.ownBlock = none ∨ v1.ownBlock ≠ v2.ownBlock := by
  rcases h1.2 with ⟨rfl, _⟩ | ⟨g, cap, cur, rfl, _, hg, _⟩
  · exact .inl rfl
  · right
    rcases h2.2 with ⟨rfl, _⟩ | ⟨g', cap', cur', rfl, _, hg', _⟩
    · simp [Value.ownBlock]
    · simp only [Value.ownBlock, ne_eq, Option.some.injEq]
      rintro rfl
      rw [hg] at hg'
      simp at hg'
      exact hne hg'.2
/-- Words in rows of a call's own, row by row. -/
def OwnG (w : World) (B : Nat) : List Value → List (List Int) → Prop
  | [], [] => True
  | v :: vs, l :: ls => w.ownsRow B 25 1 v l.length (uV l) ∧ OwnG w B vs ls
  | _, _ => False
theorem OwnG.kept {w w' : World} {B : Nat} {row : Option Nat} (hg : w.grownBy w' row) : ∀ {vs : List Value} {ls : List (List Int)}, OwnG w B vs ls → (∀ v ∈ vs, v.ownBlock = none ∨ v.ownBlock ≠ row) → OwnG w' B vs ls
  | [], [], _, _ => trivial
  | _ :: _, _ :: _, h, hn => ⟨h.1.kept hg (hn _ List.mem_cons_self), OwnG.kept hg h.2 fun v hv => hn v (List.mem_cons_of_mem _ hv)⟩
theorem OwnG.later {w w' : World} {B : Nat} (hb : Below w.heap.size w w') : ∀ {vs : List Value} {ls : List (List Int)}, OwnG w B vs ls → OwnG w' B vs ls
  | [], [], _ => trivial
  | _ :: _, _ :: _, h => ⟨own_later h.1 hb, OwnG.later hb h.2⟩
theorem OwnG.snoc {w : World} {B : Nat} {v : Value} {l : List Int} (hv : w.ownsRow B 25 1 v l.length (uV l)) : ∀ {vs : List Value} {ls : List (List Int)}, OwnG w B vs ls → OwnG w B (vs ++ [v]) (ls ++ [l])
  | [], [], _ => ⟨hv, trivial⟩
  | _ :: _, _ :: _, h => ⟨h.1, OwnG.snoc hv h.2⟩
theorem OwnG.length {w : World} {B : Nat} : ∀ {vs : List Value} {ls : List (List Int)}, OwnG w B vs ls → vs.length = ls.length
  | [], [], _ => rfl
  | _ :: _, _ :: _, h => by rw [List.length_cons, List.length_cons, OwnG.length h.2]
theorem OwnG.mem {w : World} {B : Nat} : ∀ {vs : List Value} {ls : List (List Int)}, OwnG w B vs ls → ∀ v ∈ vs, ∃ l : List Int, w.ownsRow B 25 1 v l.length (uV l)
  | [], [], _, v, hv => by cases hv
  | _ :: _, l :: _, h, v, hv => by
    rcases List.mem_cons.1 hv with rfl | hv
    · exact ⟨l, h.1⟩
    · exact OwnG.mem h.2 v hv
theorem OwnG.get {w : World} {B : Nat} : ∀ {vs : List Value} {ls : List (List Int)} {i : Nat}, OwnG w B vs ls → i < ls.length → w.ownsRow B 25 1 (vs.getD i undef) (ls.getD i []).length (uV (ls.getD i []))
  | [], [], _, _, hi => absurd hi (by simp)
  | [], _ :: _, _, h, _ => h.elim
  | _ :: _, [], _, h, _ => h.elim
  | _ :: _, _ :: _, 0, h, _ => h.1
  | _ :: _, _ :: _, i + 1, h, hi => by
    have := OwnG.get (i := i) h.2 (by simpa using hi)
    simpa using this
theorem OwnG.last {w : World} {B : Nat} : ∀ {vs : List Value} {ls : List (List Int)} {v : Value} {l : List Int}, OwnG w B (vs ++ [v]) (ls ++ [l]) → OwnG w B vs ls ∧ w.ownsRow B 25 1 v l.length (uV l)
  | [], [], _, _, h => ⟨trivial, h.1⟩
  | [], _ :: ls, _, _, h => by
    have := h.2.length
    simp at this
  | _ :: vs, [], _, _, h => by
    have := h.2.length
    simp at this
  | _ :: _, _ :: _, _, _, h => ⟨⟨h.1, (OwnG.last h.2).1⟩, (OwnG.last h.2).2⟩
/-- A row of rows of words. -/
def Gr (w : World) (B : Nat) (v : Value) (vs : List Value) (G : List (List Int)) : Prop :=
  w.ownsRow B 22 1 v vs.length vs ∧ OwnG w B vs G ∧ vs.Pairwise fun a b => a.ownBlock ≠ b.ownBlock
theorem Gr.nil (w : World) (B : Nat) : Gr w B (.slice none 0 0) [] [] := ⟨World.ownsRow_nil _ _ _ _, trivial, List.Pairwise.nil⟩
theorem Gr.later {w w' : World} {B : Nat} {v : Value} {vs : List Value} {G : List (List Int)} (h : Gr w B v vs G) (hb : Below w.heap.size w w') : Gr w' B v vs G := ⟨own_later h.1 hb, h.2.1.later hb, h.2.2⟩
theorem lit_own (w : World) (B : Nat) (x : Int) (hB : B ≤ w.heap.size) : (w.alloc (.cells #[.int .u64 x] 25)).ownsRow B 25 1 (.slice (some ⟨w.heap.size, 0, none⟩) 1 1) 1 (uV [x]) :=
  World.ownsRow_lit (size := 1) (e := 25) w #[.int .u64 x] 1 hB (by decide) rfl
/-- One row of one word more. -/
theorem Gr.snoc {w w3 : World} {B : Nat} {v v' : Value} {vs : List Value} {G : List (List Int)} {x : Int} (h : Gr w B v vs G) (hB : B ≤ w.heap.size)
    (h1 : w3.ownsRow B 22 1 v' (vs.length + 1) (vs ++ [.slice (some ⟨w.heap.size, 0, none⟩) 1 1])) (hg : ((w.alloc (.cells #[.int .u64 x] 25)).alloc (.cells #[.slice (some ⟨w.heap.size, 0, none⟩) 1 1] 22)).grownBy w3 v.ownBlock) :
    Gr w3 B v' (vs ++ [.slice (some ⟨w.heap.size, 0, none⟩) 1 1]) (G ++ [[x]]) := by
  have hal : Below w.heap.size w ((w.alloc (.cells #[.int .u64 x] 25)).alloc (.cells #[.slice (some ⟨w.heap.size, 0, none⟩) 1 1] 22)) := ((Below.refl _ _).alloc (Nat.le_refl _) _).alloc (by simp) _
  have hal2 : Below (w.alloc (.cells #[.int .u64 x] 25)).heap.size (w.alloc (.cells #[.int .u64 x] 25)) ((w.alloc (.cells #[.int .u64 x] 25)).alloc (.cells #[.slice (some ⟨w.heap.size, 0, none⟩) 1 1] 22)) := (Below.refl _ _).alloc (Nat.le_refl _) _
  have ho := own_later h.1 hal
  have hO : OwnG ((w.alloc (.cells #[.int .u64 x] 25)).alloc (.cells #[.slice (some ⟨w.heap.size, 0, none⟩) 1 1] 22)) B (vs ++ [.slice (some ⟨w.heap.size, 0, none⟩) 1 1]) (G ++ [[x]]) := OwnG.snoc (own_later (lit_own w B x hB) hal2) (h.2.1.later hal)
  refine ⟨by rw [List.length_append]; exact h1, hO.kept hg fun a ha => ?_, ?_⟩
  · obtain ⟨l, hl⟩ := hO.mem a ha
    exact own_apart hl ho (by decide)
  · refine List.pairwise_append.2 ⟨h.2.2, List.pairwise_singleton _ _, fun a ha b hb => ?_⟩
    obtain rfl := List.mem_singleton.1 hb
    obtain ⟨l, hl⟩ := h.2.1.mem a ha
    intro e
    have := (hl.lt w.heap.size (by rw [e]; rfl)).2
    omega
theorem grown_set {w : World} (g k : Nat) (u : Value) : w.grownBy (w.setCell ⟨g, k, none⟩ u) (some g) :=
  ⟨rfl, rfl, rfl, by simp, fun j _ hne => Below.heap_setCell _ _ _ _ fun e => hne (by rw [e])⟩
/-- A word more in the last row. -/
theorem Gr.more {w w3 : World} {B g n c : Nat} {x x' : Value} {vs : List Value} {G : List (List Int)} {l : List Int} {u : Int} (h : Gr w B (.slice (some ⟨g, 0, none⟩) n c) (vs ++ [x]) (G ++ [l]))
    (h1 : w3.ownsRow B 25 1 x' (l.length + 1) (uV l ++ [.int .u64 u])) (hg : (w.alloc (.cells #[.int .u64 u] 25)).grownBy w3 x.ownBlock) (hat : x'.ownBlock = x.ownBlock ∨ x'.ownBlock = some (w.alloc (.cells #[.int .u64 u] 25)).heap.size) :
    Gr (w3.setCell ⟨g, vs.length, none⟩ x') B (.slice (some ⟨g, 0, none⟩) n c) (vs ++ [x']) (G ++ [l ++ [u]]) ∧ w3.ownsRow B 22 1 (.slice (some ⟨g, 0, none⟩) n c) (vs.length + 1) (vs ++ [x]) := by
  have hal : Below w.heap.size w (w.alloc (.cells #[.int .u64 u] 25)) := (Below.refl _ _).alloc (Nat.le_refl _) _
  obtain ⟨hO, hx⟩ := h.2.1.last
  obtain ⟨hp1, -, hp2⟩ := List.pairwise_append.1 h.2.2
  have ho := own_later h.1 hal
  have ho3 : w3.ownsRow B 22 1 (.slice (some ⟨g, 0, none⟩) n c) (vs ++ [x]).length (vs ++ [x]) := ho.kept hg (own_apart ho (own_later hx hal) (by decide))
  have hO3 : OwnG w3 B vs G := (hO.later hal).kept hg fun a ha => .inr (hp2 a ha x (List.mem_singleton.2 rfl))
  have hx3 : w3.ownsRow B 25 1 x' (l ++ [u]).length (uV (l ++ [u])) := by rw [List.length_append]; simpa [uV] using h1
  have hset : (w3.setCell ⟨g, vs.length, none⟩ x').ownsRow B 22 1 (.slice (some ⟨g, 0, none⟩) n c) (vs ++ [x]).length ((vs ++ [x]).set vs.length x') := by
    have hn : n = (vs ++ [x]).length := by
      rcases ho3.2 with ⟨h0, _⟩ | ⟨g', cap', cur, hv, _⟩
      · cases h0
      · cases hv; rfl
    subst hn
    exact own_set ho3 _ _
  have hsg := grown_set (w := w3) g vs.length x'
  refine ⟨⟨?_, ?_, ?_⟩, by rw [List.length_append] at ho3; exact ho3⟩
  · rw [List.set_append_right _ _ (Nat.le_refl _), Nat.sub_self] at hset
    simpa using hset
  · refine OwnG.snoc (hx3.kept hsg (own_apart hx3 ho3 (by decide))) (hO3.kept hsg fun a ha => ?_)
    obtain ⟨m, hm⟩ := hO3.mem a ha
    exact own_apart hm ho3 (by decide)
  · refine List.pairwise_append.2 ⟨hp1, List.pairwise_singleton _ _, fun a ha b hb => ?_⟩
    obtain rfl := List.mem_singleton.1 hb
    rcases hat with e | e
    · rw [e]; exact hp2 a ha x (List.mem_singleton.2 rfl)
    · rw [e]
      obtain ⟨m, hm⟩ := (hO.later hal).mem a ha
      intro e2
      have := (hm.lt _ e2).2
      omega
end Go.Proofs.YtkjfdaleamonaaaGreat
/- The contract of cells.Groups. -/
namespace Go.Proofs.YtkjfdaleamonaaaGreat
open Go.RowKit Go.Lib Wd

theorem OwnG.base {w : World} {B C : Nat} (hb : C ≤ B) : ∀ {vs : List Value} {ls : List (List Int)}, OwnG w B vs ls → OwnG w C vs ls
  | [], [], _ => trivial
  | _ :: _, _ :: _, h => ⟨own_base h.1 hb, OwnG.base hb h.2⟩
theorem Gr.base {w : World} {B C : Nat} {v : Value} {vs : List Value} {G : List (List Int)} (h : Gr w B v vs G) (hb : C ≤ B) : Gr w C v vs G := ⟨own_base h.1 hb, h.2.1.base hb, h.2.2⟩
theorem below_set {B : Nat} {w w3 : World} (h : Below B w w3) {g : Nat} (hg : B ≤ g) (k : Nat) (u : Value) : Below B w (w3.setCell ⟨g, k, none⟩ u) := h.setCell (p := ⟨g, k, none⟩) hg u
theorem g_skip {s : Gs} {u : Nat} (h : parE u = 5) : gStep s u = s := by unfold gStep; rw [Int.toNat_natCast, if_pos h]
theorem g_more {G : List (List Int)} {l : List Int} {p : Int} {u : Nat} (h : parE u = 0) (hp : (parW u : Int) = p) : gStep ⟨G ++ [l], p, true⟩ u = ⟨G ++ [l ++ [(u : Int)]], p, true⟩ := by
  unfold gStep
  rw [Int.toNat_natCast, if_neg (by rw [h]; decide), if_pos ⟨h, rfl, hp⟩]
  simp
theorem g_new {G : List (List Int)} {p : Int} {b : Bool} {u : Nat} (h5 : parE u ≠ 5) (h : ¬ (parE u = 0 ∧ b = true ∧ (parW u : Int) = p)) : gStep ⟨G, p, b⟩ u = ⟨G ++ [[(u : Int)]], (parW u : Int), decide (parE u = 0)⟩ := by
  unfold gStep
  rw [Int.toNat_natCast, if_neg h5, if_neg h]
theorem g_rows (s : Gs) (u : Int) {k : Nat} (h : ∀ r ∈ s.out, r.length ≤ k) : ∀ r ∈ (gStep s u).out, r.length ≤ k + 1 := by
  intro r hr
  unfold gStep at hr
  split at hr
  · have := h r hr; omega
  · split at hr
    · rcases List.mem_append.1 hr with hr | hr
      · have := h r ((List.dropLast_sublist _).subset hr); omega
      · obtain rfl := List.mem_singleton.1 hr
        rw [List.length_append]
        cases hl : s.out.getLast? with
        | none => simp
        | some l =>
          have := h l (List.mem_of_getLast? hl)
          simp only [Option.getD_some, List.length_cons, List.length_nil]
          omega
    · rcases List.mem_append.1 hr with hr | hr
      · have := h r hr; omega
      · obtain rfl := List.mem_singleton.1 hr
        simp
/-- What is told: rows of words, a call's own. -/
def ToldG (w : World) (G : List (List Int)) (e : Ending) (w' : World) : Prop := ∃ ao c vs, e = .returned (.slice ao vs.length c) ∧ Gr w' w.heap.size (.slice ao vs.length c) vs G ∧ Below w.heap.size w w'
set_option maxRecDepth 100000 in
set_option maxHeartbeats 8000000 in
theorem groups_any (ao : Option Addr) (c : Nat) (l : List Int) (w : World) (B : Nat) (h : WordsAt w B ao l) (hn : l.length ≤ 1000000) (h64 : In64 l) :
    Calls Tryz.prog 23 #[.slice ao l.length c] w (ToldG w (grpF l)) := by
  obtain ⟨i0, hi, hz0, hz1, hz2⟩ := info_parts info_u
  obtain ⟨i1, hj, hy0, hy1, hy2⟩ := info_parts info_us
  have HSET := Lib.hid (uset_any ao c l w B h (by omega))
  have hsl := setF_length l
  have h64s : In64 (setF l) := fun v hv => h64 v ((setF_mem l v).1 hv)
  have HGF : Hid (grpF l = (gAll (setF l)).out) := rfl
  obtain ⟨L, hL⟩ : ∃ L, setF l = L := ⟨_, rfl⟩
  rw [hL] at HSET HGF hsl h64s
  obtain ⟨n, hnn⟩ : ∃ n, L.length = n := ⟨_, rfl⟩
  have HN := Lib.hid hnn
  have H64 : Hid (∀ k, k < n → 0 ≤ L.getD k 0 ∧ L.getD k 0 < 18446744073709551616) := fun k hk => h64s _ (getD_mem (by rw [hnn]; exact hk))
  have HTK : Hid (∀ k, k < n → gAll (L.take (k + 1)) = gStep (gAll (L.take k)) (L.getD k 0)) := fun k hk => by rw [take_w L (by rw [hnn]; exact hk), gAll_snoc]
  have HEND : Hid (∀ k, n ≤ k → L.take k = L) := fun k hk => List.take_of_length_le (by rw [hnn]; exact hk)
  have HHAS : Hid (∀ k G p, gAll (L.take k) = ⟨G, p, true⟩ → G ≠ []) := fun k G p hg => by
    have := gAll_has (L.take k)
    rw [hg] at this
    exact this rfl
  have HLEN : Hid (∀ k, k ≤ n → (gAll (L.take k)).out.length ≤ k) := by
    intro k
    induction k with
    | zero => intro _; exact Nat.le_refl _
    | succ k ih =>
      intro hk
      rw [HTK.out k (by omega)]
      have := ih (by omega)
      unfold gStep
      split
      · omega
      · split
        · simp only [List.length_append, List.length_dropLast, List.length_cons, List.length_nil]; omega
        · simp only [List.length_append, List.length_cons, List.length_nil]; omega
  have HROW : Hid (∀ k, k ≤ n → ∀ r ∈ (gAll (L.take k)).out, r.length ≤ k) := by
    intro k
    induction k with
    | zero => intro _ r hr; cases hr
    | succ k ih =>
      intro hk
      rw [HTK.out k (by omega)]
      exact g_rows _ _ (ih (by omega))
  have hn6 : n ≤ 1000000 := by omega
  rw [hnn] at HSET
  clear hL hsl h64s hnn h h64 hn
  go_enter Tryz.func23, Tryz.ntmps23
  go_wp2_with fail
  refine HSET.out.mono ?_
  rintro e w1 ⟨so, sc, rfl, -, hws, hb1⟩
  have HW := Lib.hid hws
  have B1 := Lib.hid hb1
  have hs1 := hb1.size
  clear hws hb1 HSET
  go_wp2
  go_loopw [3, 4, 5, 13] (fun v pv bv i wr => ∃ (k : Nat) (G : List (List Int)) (vs : List Value) (p : Int) (b : Bool) (vo : Option Addr) (q vc : Nat), v = .slice vo q vc ∧ k ≤ n ∧ i = .int .i64 k ∧ pv = .int .u64 p ∧ bv = .bool b ∧ q ≤ k ∧ Hid (gAll (L.take k) = ⟨G, p, b⟩) ∧ Hid (vs.length = q) ∧ Hid (Gr wr w1.heap.size (.slice vo q vc) vs G ∧ Below w1.heap.size w1 wr)) (fun _ _ _ i _ => n - (intOf i).toNat)
  case atStart => exact ⟨0, [], [], 0, false, none, 0, 0, rfl, by omega, rfl, rfl, rfl, by omega, rfl, rfl, Gr.nil _ _, Below.refl _ _⟩
  case round =>
    obtain ⟨k, G, vs, p, b, vo, q, vc, rfl, hk, rfl, rfl, rfl, hvl, HS, HQ, HI⟩ := hrel
    have hbr := HI.out.2
    have hsr := hbr.size
    by_cases hlt : k < n
    · obtain ⟨sg, soff, rfl, hsg, hsc⟩ := (HW.out.below hbr (Nat.le_refl _)) (by rw [HN.out]; omega)
      have c0 := hsc k (by rw [HN.out]; exact hlt)
      obtain ⟨v1, v2⟩ := H64.out k hlt
      have hst := HTK.out k hlt
      have hln := HLEN.out (k + 1) (by omega)
      generalize L.getD k 0 = x at *
      obtain ⟨u, rfl⟩ : ∃ u : Nat, x = u := ⟨x.toNat, by omega⟩
      have HIP := Lib.hid (ipar_any u (by omega))
      rw [HS.out] at hst
      rw [hst] at hln
      have hsgw : sg < wr.heap.size := by omega
      clear hsc hbr
      have hpe : parE u = 5 ∨ parE u = 3 ∨ parE u = 0 := by unfold parE; (repeat' split) <;> simp
      by_cases h5 : parE u = 5
      · rw [g_skip h5] at hst
        rw [h5] at HIP
        have HST := Lib.hid hst
        generalize (parW u : Nat) = P at *
        clear hst h5 hpe hln
        go_wp2_with fail
        refine (HIP.out _).mono ?_
        rintro e w2 ⟨rfl, hb2⟩
        have HG2 : Hid (Gr w2 w1.heap.size (.slice vo q vc) vs G ∧ Below w1.heap.size w1 w2) := ⟨HI.out.1.later hb2, HI.out.2.trans (hb2.mono (by omega))⟩
        clear hb2 HI c0
        go_wp2
        go_roundw
        case rel => exact ⟨k + 1, G, vs, p, b, vo, q, vc, rfl, by omega, by go_num, rfl, rfl, by omega, HST.out, HQ.out, HG2.out⟩
        case measure => simp [intOf]; omega
      · by_cases hm : parE u = 0 ∧ b = true ∧ (parW u : Int) = p
        · obtain ⟨h0, rfl, hp⟩ := hm
          obtain ⟨G', l', rfl⟩ : ∃ G' l', G = G' ++ [l'] := ⟨G.dropLast, G.getLast (HHAS.out _ _ _ HS.out), (List.dropLast_concat_getLast _).symm⟩
          have hOl := HI.out.1.2.1.length
          have hrow := HROW.out k hk
          rw [HS.out] at hrow
          have hl6 : l'.length ≤ k := hrow l' (by simp)
          clear hrow
          obtain ⟨vs', x, rfl⟩ : ∃ vs' x, vs = vs' ++ [x] := by
            have hne : vs ≠ [] := fun e => by rw [e] at hOl; simp at hOl
            exact ⟨vs.dropLast, vs.getLast hne, (List.dropLast_concat_getLast _).symm⟩
          rw [g_more h0 hp] at hst
          rw [h0, hp] at HIP
          have HST := Lib.hid hst
          clear hst h5 hpe h0 hp hln hOl
          have hq := HQ.out
          rw [List.length_append] at hq
          simp only [List.length_cons, List.length_nil] at hq
          obtain ⟨q', rfl⟩ : ∃ q', q = q' + 1 := ⟨q - 1, by omega⟩
          have HQ' : Hid (vs'.length = q') := by show _ = _; omega
          obtain ⟨vo', vc', hvv, hvc, hvo⟩ := own_form HI.out.1.1
          simp only [Value.slice.injEq] at hvv
          obtain ⟨rfl, -, rfl⟩ := hvv
          obtain ⟨g, rfl, hgB, hgs, hgc⟩ := hvo (by simp)
          obtain ⟨xo, xc, rfl, hxc, -⟩ := own_form HI.out.1.2.1.last.2
          obtain ⟨m, hm⟩ : ∃ m, l'.length = m := ⟨_, rfl⟩
          have HM := Lib.hid hm
          rw [hm] at hl6 hxc
          have hml : m ≤ 1000000 := by omega
          have O0 : Hid (∀ wx, Below wr.heap.size wr wx → wx.cell? ⟨g, q', none⟩ = some (.slice xo m xc)) := fun wx hx => by
            have := hgc q' (.slice xo l'.length xc) (by rw [← HQ'.out]; simp)
            rw [hm] at this
            exact (hx.cell (p := ⟨g, q', none⟩) hgs).trans this
          clear hgc hq hm hvc hxc
          go_wp2_with fail
          refine (HIP.out _).mono ?_
          rintro e w2 ⟨rfl, hb2⟩
          have HG2 := Lib.hid (HI.out.1.later hb2)
          have HB2 := Lib.hid (HI.out.2.trans (hb2.mono (by omega)))
          have c1 := O0.out _ hb2
          have hzz2 := hb2.size
          clear hb2 HI c0 O0
          have hown := HG2.out.2.1.last.2
          rw [HM.out] at hown
          have q7 : IntKind.i64.wrap (((q' + 1 : Nat) : Int) - 1) = q' := by rw [show ((q' + 1 : Nat) : Int) - 1 = q' by omega]; exact wrap_in (by omega) (by omega)
          have hgw2 : g < w2.heap.size := by omega
          go_upto_region 9 with (fail)
          iterate 37 (first | go_values | go_skip | go_guarded | go_step | go_upon | go_back)
          refine wpList_append_own_at _ rfl (.tmp 43) (.tmp 45) 22 rfl w1.heap.size 25 i0 (.int .u64 0) 1 8 Tryz.underlying22 hi hz0 hz1 hz2 rfl (by decide) _ _ _ rfl (hown.alloc _) ⟨w2.heap.size, 0, none⟩ 1 1 [.int .u64 u] rfl rfl (cells_new _ _ _ _ rfl) (by simp [Value.oneCell']) (by unfold maxLen; omega) (by omega) (by simp; omega) ?_
          intro x' w3 hown1 hgrow _ hat
          have hat2 : x'.ownBlock = (Value.slice xo l'.length xc).ownBlock ∨ x'.ownBlock = some (w2.alloc (.cells #[.int .u64 (u : Int)] 25)).heap.size := by rw [HM.out]; exact hat
          have hg2 : (w2.alloc (.cells #[.int .u64 (u : Int)] 25)).grownBy w3 (Value.slice xo l'.length xc).ownBlock := by rw [HM.out]; exact hgrow
          clear hat
          obtain ⟨xo', xc', rfl, -⟩ := own_form hown1
          obtain ⟨hm1, hm2⟩ := HG2.out.more (u := (u : Int)) (by rw [HM.out]; exact hown1) hg2 hat2
          rw [HQ'.out] at hm1 hm2
          have hal : Below w2.heap.size w2 (w2.alloc (.cells #[.int .u64 (u : Int)] 25)) := (Below.refl _ _).alloc (Nat.le_refl _) _
          have hb3 := below_append (HB2.out.alloc HB2.out.size (.cells #[.int .u64 (u : Int)] 25)) (hown.alloc (.cells #[.int .u64 (u : Int)] 25)) (by simp; omega) hgrow
          obtain ⟨cur, hh, -, -, -, -, -⟩ := own_block hm2
          have k1 := hm2.cellAt q' (by omega)
          rw [show (vs' ++ [Value.slice xo l'.length xc])[q']? = some (.slice xo l'.length xc) by rw [← HQ'.out]; simp] at k1
          have k2 : w3.frozen? ⟨g, q', none⟩ = false := by simp [World.frozen?, hh]
          have k3 : g < w3.heap.size := (Array.getElem?_eq_some_iff.1 hh).1
          have HF : Hid (Gr (w3.setCell ⟨g, q', none⟩ (.slice xo' (m + 1) xc')) w1.heap.size (.slice (some ⟨g, 0, none⟩) (q' + 1) vc) (vs' ++ [.slice xo' (m + 1) xc']) (G' ++ [l' ++ [(u : Int)]]) ∧ Below w1.heap.size w1 (w3.setCell ⟨g, q', none⟩ (.slice xo' (m + 1) xc'))) := ⟨hm1, below_set hb3 (by omega) _ _⟩
          have HL2 : Hid ((vs' ++ [Value.slice xo' (m + 1) xc']).length = q' + 1) := by show _ = _; simp [HQ'.out]
          clear hm1 hm2 hal hb3 hh hown1 hgrow hg2 hat2 hown c1
          have q8 : (q' : Int) < (q' : Int) + 1 := by omega
          go_wp2
          go_roundw
          case rel => exact ⟨k + 1, _, _, p, true, some ⟨g, 0, none⟩, q' + 1, vc, rfl, by omega, by go_num, rfl, rfl, by omega, HST.out, HL2.out, HF.out⟩
          case measure => simp [intOf]; omega
        · rw [g_new h5 hm] at hst hln
          have HST := Lib.hid hst
          simp only [List.length_append, List.length_cons, List.length_nil] at hln
          clear hst
          have hcase : (parE u = 3 ∧ decide (parE u = 0) = false) ∨ (parE u = 0 ∧ b = false) ∨ (parE u = 0 ∧ b = true ∧ (((parW u : Nat) : Int) == p) = false) := by
            rcases hpe with h | h | h
            · exact absurd h h5
            · exact .inl ⟨h, by rw [h]; decide⟩
            · right
              cases b with
              | false => exact .inl ⟨h, rfl⟩
              | true => exact .inr ⟨h, rfl, by rw [beq_eq_false_iff_ne]; exact fun e => hm ⟨h, rfl, e⟩⟩
          clear hm hpe h5
          generalize parW u = P at *
          generalize parE u = E at *
          rcases hcase with ⟨rfl, h3⟩ | ⟨rfl, rfl⟩ | ⟨rfl, rfl, h3⟩
          all_goals
            first | rw [show decide ((3 : Int) = 0) = false from rfl] at HST | rw [show decide ((0 : Int) = 0) = true from rfl] at HST
            go_wp2_with fail
            refine (HIP.out _).mono ?_
            rintro e w2 ⟨rfl, hb2⟩
            have HG2 := Lib.hid (HI.out.1.later hb2)
            have HB2 := Lib.hid (HI.out.2.trans (hb2.mono (by omega)))
            have hzz2 := hb2.size
            clear hb2 HI c0
            have hown := HG2.out.1
            rw [HQ.out] at hown
            go_wp2_with (at_builtin; refine wpList_append_own _ rfl (.tmp 48) (.tmp 51) 43 rfl w1.heap.size 22 i1 (.slice none 0 0) 1 24 Tryz.underlying43 hj hy0 hy1 hy2 rfl (by decide) _ _ _ rfl ((hown.alloc _).alloc _) ⟨w2.heap.size + 1, 0, none⟩ 1 1 [.slice (some ⟨w2.heap.size, 0, none⟩) 1 1] rfl rfl (cells_new _ _ _ _ (by simp)) (by simp [Value.oneCell']) (by unfold maxLen; omega) (by omega) (by simp; omega) ?_; intro v' w3 hown1 hgrow _)
            have hg2 : ((w2.alloc (.cells #[.int .u64 (u : Int)] 25)).alloc (.cells #[.slice (some ⟨w2.heap.size, 0, none⟩) 1 1] 22)).grownBy w3 (Value.slice vo q vc).ownBlock := hgrow
            obtain ⟨vo3, vc3, rfl, -⟩ := own_form hown1
            have hsn := HG2.out.snoc (by omega) (by rw [HQ.out]; exact hown1) hg2
            have hb3 := below_append ((HB2.out.alloc HB2.out.size (.cells #[.int .u64 (u : Int)] 25)).alloc (by have := HB2.out.size; simp; omega) (.cells #[.slice (some ⟨w2.heap.size, 0, none⟩) 1 1] 22)) ((hown.alloc (.cells #[.int .u64 (u : Int)] 25)).alloc (.cells #[.slice (some ⟨w2.heap.size, 0, none⟩) 1 1] 22)) (by have := HB2.out.size; simp; omega) hg2
            have HF := Lib.hid (And.intro hsn hb3)
            have HL2 : Hid ((vs ++ [Value.slice (some ⟨w2.heap.size, 0, none⟩) 1 1]).length = q + 1) := by show _ = _; simp [HQ.out]
            clear hsn hb3 hown1 hgrow hg2 hown
            go_roundw
            case rel => exact ⟨k + 1, _, _, _, _, vo3, q + 1, vc3, rfl, by omega, by go_num, rfl, rfl, by omega, HST.out, HL2.out, HF.out⟩
            case measure => simp [intOf]; omega
    · have hnk : n ≤ k := by omega
      have hs := HS.out
      rw [HEND.out k hnk] at hs
      have hG : G = grpF l := by rw [HGF.out, hs]
      subst hG
      have HF : Hid (ToldG w (grpF l) (.returned (.slice vo q vc)) wr) := ⟨vo, vc, vs, by rw [HQ.out], by rw [HQ.out]; exact HI.out.1.base hs1, B1.out.trans (HI.out.2.mono hs1)⟩
      clear HI
      go_wp2
      go_ret
      exact HF.out
end Go.Proofs.YtkjfdaleamonaaaGreat
/- Contracts of apiaryref1: Parent, WordUp. -/
namespace Go.Proofs.YtkjfdaleamonaaaGreat
open Go.RowKit Go.Lib Wd

set_option maxRecDepth 100000 in
set_option maxHeartbeats 4000000 in
theorem rpar_any (r : Int) (z : E2) (w : World) : Calls Tryz.prog 43 #[vC r z] w fun e w' => e = .returned (.tuple #[vC (if cpE r z = 0 then r - 1 else 0) (if cpE r z = 0 then upE z else (0, 0)), .int .i64 (cpE r z)]) ∧ Below w.heap.size w w' := by
  have HOK := Lib.hid (rok_any r z)
  obtain ⟨T0, G0, B0⟩ := two_new w r z
  by_cases h : okB r z = true
  · obtain ⟨r0, r12, hsm⟩ := ok_parts h
    rw [h] at HOK
    by_cases hr : r = 0
    · have hE : cpE r z = 3 := by unfold cpE; rw [if_pos h, if_pos hr]
      rw [hE, if_neg (by decide), if_neg (by decide)]
      subst hr
      clear hE h hsm
      simp only [vC] at *
      go_enter Tryz.func43, Tryz.ntmps43
      go_upto_region 1 with (fail)
      generalize (w.alloc (.cells #[.int .i64 0, .int .i64 z.1, .int .i64 z.2] 32)).alloc (.cells #[.int .i64 0, .int .i64 0, .int .i64 0] 32) = w0 at *
      obtain ⟨t0, t1, t2, t3, t4, t5, t6⟩ := T0.out.cells
      go_wp2_with fail
      refine (HOK.out _).mono ?_
      rintro e w1 ⟨rfl, hb1⟩
      have B1 := Lib.hid (B0.out.trans (hb1.mono B0.out.size))
      have T1 := Lib.hid (T0.out.later hb1)
      have G1 := Lib.hid (G0.out.later hb1)
      clear hb1 t0 t1 t2 t3 t4 t5 t6 T0 G0 B0
      obtain ⟨t0, t1, t2, t3, t4, t5, t6⟩ := T1.out.cells
      obtain ⟨g0, g1, g2, g3, g4, g5, g6⟩ := G1.out.cells
      go_wp2
      exact bodyPost_ret (v := .tuple #[.agg #[.int .i64 0, .int .i64 0, .int .i64 0], .int .i64 3]) (by simp [results, Tryz.results43, go_sem, *]) rfl ⟨rfl, below3 B1.out (by omega) _ _ _⟩
    · have hE : cpE r z = 0 := by unfold cpE; rw [if_pos h, if_neg hr]
      rw [hE, if_pos rfl, if_pos rfl]
      have HST := Lib.hid (parent_in z (hsm.mono (by decide)))
      have q1 : (r == 0) = false := by simp [hr]
      have q2 : IntKind.i64.wrap (r - 1) = r - 1 := wrap_in (by omega) (by omega)
      generalize upE z = p at *
      generalize digE z = dg at *
      clear hE h hsm hr
      simp only [vC, vE] at *
      go_enter Tryz.func43, Tryz.ntmps43
      go_upto_region 1 with (fail)
      generalize (w.alloc (.cells #[.int .i64 r, .int .i64 z.1, .int .i64 z.2] 32)).alloc (.cells #[.int .i64 0, .int .i64 0, .int .i64 0] 32) = w0 at *
      obtain ⟨t0, t1, t2, t3, t4, t5, t6⟩ := T0.out.cells
      go_wp2_with fail
      refine (HOK.out _).mono ?_
      rintro e w1 ⟨rfl, hb1⟩
      have B1 := Lib.hid (B0.out.trans (hb1.mono B0.out.size))
      have T1 := Lib.hid (T0.out.later hb1)
      have G1 := Lib.hid (G0.out.later hb1)
      clear hb1 t0 t1 t2 t3 t4 t5 t6 T0 G0 B0
      obtain ⟨t0, t1, t2, t3, t4, t5, t6⟩ := T1.out.cells
      go_wp2_with fail
      refine (HST.out _).mono ?_
      rintro e w2 ⟨rfl, hb2⟩
      have hal : Below w2.heap.size w2 (w2.alloc (.cells #[.int .i64 p.1, .int .i64 p.2] 30)) := (Below.refl _ _).alloc (Nat.le_refl _) _
      have hb3 := hb2.trans (hal.mono hb2.size)
      have B2 := Lib.hid (B1.out.trans (hb3.mono B1.out.size))
      have P2 : Hid (Two (w2.alloc (.cells #[.int .i64 p.1, .int .i64 p.2] 30)) w2.heap.size (.int .i64 p.1) (.int .i64 p.2)) := Two.of_row (t := 30) (f := _) (heap_new _ _ _ rfl)
      have T2 := Lib.hid (T1.out.later hb3)
      have G2 := Lib.hid (G1.out.later hb3)
      clear hb2 hb3 hal t0 t1 t2 t3 t4 t5 t6 T1 G1 B1
      go_upto_region 6 with (fail)
      generalize w2.alloc (.cells #[.int .i64 p.1, .int .i64 p.2] 30) = w3 at *
      obtain ⟨p0, p1⟩ := P2.out
      obtain ⟨t0, t1, t2, t3, t4, t5, t6⟩ := T2.out.cells
      obtain ⟨g0, g1, g2, g3, g4, g5, g6⟩ := G2.out.cells
      go_wp2
      exact bodyPost_ret (v := .tuple #[.agg #[.int .i64 (r - 1), .int .i64 p.1, .int .i64 p.2], .int .i64 0]) (by simp [results, Tryz.results43, go_sem, *]) rfl ⟨rfl, below3 B2.out (by omega) _ _ _⟩
  · have hE : cpE r z = 2 := by unfold cpE; rw [if_neg h]
    rw [hE, if_neg (by decide), if_neg (by decide)]
    rw [Bool.eq_false_iff.2 h] at HOK
    clear hE h
    simp only [vC] at *
    go_enter Tryz.func43, Tryz.ntmps43
    go_upto_region 1 with (fail)
    generalize (w.alloc (.cells #[.int .i64 r, .int .i64 z.1, .int .i64 z.2] 32)).alloc (.cells #[.int .i64 0, .int .i64 0, .int .i64 0] 32) = w0 at *
    obtain ⟨t0, t1, t2, t3, t4, t5, t6⟩ := T0.out.cells
    go_wp2_with fail
    refine (HOK.out _).mono ?_
    rintro e w1 ⟨rfl, hb1⟩
    have B1 := Lib.hid (B0.out.trans (hb1.mono B0.out.size))
    have G1 := Lib.hid (G0.out.later hb1)
    clear hb1 t0 t1 t2 t3 t4 t5 t6 T0 G0 B0
    obtain ⟨g0, g1, g2, g3, g4, g5, g6⟩ := G1.out.cells
    go_wp2
    exact bodyPost_ret (v := .tuple #[.agg #[.int .i64 0, .int .i64 0, .int .i64 0], .int .i64 2]) (by simp [results, Tryz.results43, go_sem, *]) rfl ⟨rfl, below3 B1.out (by omega) _ _ _⟩
set_option maxRecDepth 100000 in
set_option maxHeartbeats 4000000 in
theorem wup_any (w0 : Nat) (hw : w0 < 18446744073709551616) (w : World) : Calls Tryz.prog 15 #[.int .u64 w0] w fun e w' => e = .returned (.tuple #[.int .u64 (parW w0 : Nat), .int .i64 (parE w0)]) ∧ Below w.heap.size w w' := by
  have HC := Lib.hid (rcell_any w0 hw)
  have HP := Lib.hid (rpar_any (cvR w0) (cvZ w0))
  have HO := Lib.hid (word_any (cvR w0 - 1) (upE (cvZ w0)))
  rcases par_cases w0 with ⟨e1, e2, e3⟩ | ⟨e1, e2, e3, e4⟩ | ⟨e1, e2, e3, e4, e5⟩
  · rw [e2, e3]
    rw [e1] at HC
    generalize cvR w0 = r at *
    generalize cvZ w0 = z at *
    clear e1 e2 e3 HP HO
    simp only [vC] at *
    go_enter Tryz.func15, Tryz.ntmps15
    go_wp2_with fail
    refine (HC.out _).mono ?_
    rintro e w1 ⟨rfl, hb1⟩
    have B1 : Hid (Below w.heap.size w (w1.alloc (.cells #[.int .i64 r, .int .i64 z.1, .int .i64 z.2] 32))) := hb1.alloc hb1.size _
    clear hb1
    go_wp2
    go_ret2
    exact ⟨rfl, B1.out⟩
  · rw [e3, e4]
    rw [e1] at HC
    rw [e2, if_neg (by decide), if_neg (by decide)] at HP
    generalize cvR w0 = r at *
    generalize cvZ w0 = z at *
    clear e1 e2 e3 e4 HO
    simp only [vC] at *
    go_enter Tryz.func15, Tryz.ntmps15
    go_wp2_with fail
    refine (HC.out _).mono ?_
    rintro e w1 ⟨rfl, hb1⟩
    have B1 : Hid (Below w.heap.size w (w1.alloc (.cells #[.int .i64 r, .int .i64 z.1, .int .i64 z.2] 32))) := hb1.alloc hb1.size _
    have T1 : Hid (Tri (w1.alloc (.cells #[.int .i64 r, .int .i64 z.1, .int .i64 z.2] 32)) w1.heap.size r z) := heap_new _ _ _ rfl
    clear hb1
    go_upto_region 2 with (fail)
    generalize w1.alloc (.cells #[.int .i64 r, .int .i64 z.1, .int .i64 z.2] 32) = w2 at *
    obtain ⟨t0, t1, t2, t3, t4, t5, t6⟩ := T1.out.cells
    go_wp2_with fail
    refine (HP.out _).mono ?_
    rintro e w3 ⟨rfl, hb3⟩
    have B3 : Hid (Below w.heap.size w (w3.alloc (.cells #[.int .i64 0, .int .i64 0, .int .i64 0] 32))) := (B1.out.trans (hb3.mono B1.out.size)).alloc (Nat.le_trans B1.out.size hb3.size) _
    clear hb3 t0 t1 t2 t3 t4 t5 t6
    go_wp2
    go_ret2
    exact ⟨rfl, B3.out⟩
  · rw [e3]
    rw [e1] at HC
    rw [e2, if_pos rfl, if_pos rfl] at HP
    rw [e4, e5] at HO
    generalize parW w0 = v at *
    generalize cvR w0 = r at *
    generalize cvZ w0 = z at *
    generalize upE z = p at *
    clear e1 e2 e3 e4 e5
    simp only [vC] at *
    go_enter Tryz.func15, Tryz.ntmps15
    go_wp2_with fail
    refine (HC.out _).mono ?_
    rintro e w1 ⟨rfl, hb1⟩
    have B1 : Hid (Below w.heap.size w (w1.alloc (.cells #[.int .i64 r, .int .i64 z.1, .int .i64 z.2] 32))) := hb1.alloc hb1.size _
    have T1 : Hid (Tri (w1.alloc (.cells #[.int .i64 r, .int .i64 z.1, .int .i64 z.2] 32)) w1.heap.size r z) := heap_new _ _ _ rfl
    clear hb1
    go_upto_region 2 with (fail)
    generalize w1.alloc (.cells #[.int .i64 r, .int .i64 z.1, .int .i64 z.2] 32) = w2 at *
    obtain ⟨t0, t1, t2, t3, t4, t5, t6⟩ := T1.out.cells
    go_wp2_with fail
    refine (HP.out _).mono ?_
    rintro e w3 ⟨rfl, hb3⟩
    have B3 : Hid (Below w.heap.size w (w3.alloc (.cells #[.int .i64 (r - 1), .int .i64 p.1, .int .i64 p.2] 32))) := (B1.out.trans (hb3.mono B1.out.size)).alloc (Nat.le_trans B1.out.size hb3.size) _
    have T3 : Hid (Tri (w3.alloc (.cells #[.int .i64 (r - 1), .int .i64 p.1, .int .i64 p.2] 32)) w3.heap.size (r - 1) p) := heap_new _ _ _ rfl
    clear hb3 t0 t1 t2 t3 t4 t5 t6 T1 B1
    go_upto_region 5 with (fail)
    generalize w3.alloc (.cells #[.int .i64 (r - 1), .int .i64 p.1, .int .i64 p.2] 32) = w4 at *
    obtain ⟨t0, t1, t2, t3, t4, t5, t6⟩ := T3.out.cells
    go_wp2_with fail
    refine (HO.out _).mono ?_
    rintro e w5 ⟨rfl, hb5⟩
    have B5 := Lib.hid (B3.out.trans (hb5.mono B3.out.size))
    clear hb5
    go_wp2
    go_ret2
    exact ⟨rfl, B5.out⟩
end Go.Proofs.YtkjfdaleamonaaaGreat
/- The contract of apiaryref1.Check. -/
namespace Go.Proofs.YtkjfdaleamonaaaGreat
open Go.RowKit Go.Lib Wd

set_option maxRecDepth 100000 in
set_option maxHeartbeats 4000000 in
theorem rcheck_any (ao : Option Addr) (c : Nat) (l : List Int) (r : Int) (w : World) (B : Nat) (h : WordsAt w B ao l) (hB : B ≤ w.heap.size) (hn : l.length ≤ 1000000000) (h64 : In64 l) :
    Calls Tryz.prog 20 #[.slice ao l.length c, .int .i64 r] w fun e w' => e = .returned (.int .i64 (chkF r l)) ∧ Below w.heap.size w w' := by
  obtain ⟨n, hnn⟩ : ∃ n, l.length = n := ⟨_, rfl⟩
  have HN := Lib.hid hnn
  have HW := Lib.hid h
  have H64 : Hid (∀ k, k < n → 0 ≤ l.getD k 0 ∧ l.getD k 0 < 18446744073709551616) := fun k hk => h64 _ (getD_mem (by rw [hnn]; exact hk))
  have HST : Hid (∀ k, k < n → chkF r (l.drop k) = if isW (l.getD k 0).toNat = true then (if (rW (l.getD k 0).toNat : Int) = r then chkF r (l.drop (k + 1)) else 8) else 5) := fun k hk => chk_step r l (by rw [hnn]; exact hk)
  have HEN : Hid (chkF r (l.drop n) = 0) := by show _ = _; rw [← hnn, List.drop_length]; rfl
  have HS0 : Hid (chkF r l = chkF r (l.drop 0)) := rfl
  rw [hnn] at hn ⊢
  generalize chkF r l = E at *
  clear hnn h h64
  go_enter Tryz.func20, Tryz.ntmps20
  go_wp2
  go_loopw [5] (fun i wr => ∃ k : Nat, k ≤ n ∧ i = .int .i64 k ∧ Hid (E = chkF r (l.drop k)) ∧ Hid (Below w.heap.size w wr ∧ True)) (fun i _ => n - (intOf i).toNat)
  case atStart => exact ⟨0, by omega, rfl, HS0.out, Below.refl _ _, trivial⟩
  case round =>
    obtain ⟨k, hk, rfl, HE, hbi, -⟩ := hrel
    have HBI := Lib.hid hbi
    clear hbi
    by_cases hlt : k < n
    · obtain ⟨g, off, rfl, hg, hc⟩ := (HW.out.below HBI.out hB) (by rw [HN.out]; omega)
      have c0 := hc k (by rw [HN.out]; exact hlt)
      obtain ⟨v1, v2⟩ := H64.out k hlt
      have hs := HST.out k hlt
      generalize l.getD k 0 = v at *
      obtain ⟨u, rfl⟩ : ∃ u : Nat, v = u := ⟨v.toNat, by omega⟩
      rw [Int.toNat_natCast] at hs
      have HR := Lib.hid (rcell_any u (by omega))
      have hgw : g < wr.heap.size := by have := HBI.out.size; omega
      clear hc
      by_cases hW : isW u = true
      · have e1 : cvE u = 0 := by unfold cvE; rw [if_pos hW]
        have e2 : cvR u = (rW u : Int) := by unfold cvR; rw [if_pos hW]
        rw [e1, e2] at HR
        rw [if_pos hW] at hs
        generalize cvZ u = z at *
        by_cases hr : (rW u : Int) = r
        · rw [if_pos hr] at hs
          rw [hr] at HR
          have q1 : (r != r) = false := by simp
          have HE2 : Hid (E = chkF r (l.drop (k + 1))) := by show _ = _; rw [HE.out, hs]
          clear hs e1 e2 hW hr HE
          simp only [vC] at HR
          go_wp2_with fail
          refine (HR.out _).mono ?_
          rintro e w2 ⟨rfl, hb2⟩
          have HB2 : Hid (Below w.heap.size w (w2.alloc (.cells #[.int .i64 r, .int .i64 z.1, .int .i64 z.2] 32))) := (HBI.out.trans (hb2.mono HBI.out.size)).alloc (Nat.le_trans HBI.out.size hb2.size) _
          have T2 : Hid (Tri (w2.alloc (.cells #[.int .i64 r, .int .i64 z.1, .int .i64 z.2] 32)) w2.heap.size r z) := heap_new _ _ _ rfl
          clear hb2
          go_upto_region 5 with (fail)
          generalize w2.alloc (.cells #[.int .i64 r, .int .i64 z.1, .int .i64 z.2] 32) = w3 at *
          obtain ⟨t0, t1, t2, t3, t4, t5, t6⟩ := T2.out.cells
          go_wp2
          go_roundw
          case rel => exact ⟨k + 1, by omega, by go_num, HE2.out, HB2.out, trivial⟩
          case measure => simp [intOf]; omega
        · rw [if_neg hr] at hs
          obtain ⟨q, hq⟩ : ∃ q, (rW u : Int) = q := ⟨_, rfl⟩
          rw [hq] at HR hr
          have q2 : (q != r) = true := by simp [hr]
          have HE2 : Hid (E = 8) := by show _ = _; rw [HE.out, hs]
          clear hs e1 e2 hW hr HE hq
          simp only [vC] at HR
          go_wp2_with fail
          refine (HR.out _).mono ?_
          rintro e w2 ⟨rfl, hb2⟩
          have HB2 : Hid (Below w.heap.size w (w2.alloc (.cells #[.int .i64 q, .int .i64 z.1, .int .i64 z.2] 32))) := (HBI.out.trans (hb2.mono HBI.out.size)).alloc (Nat.le_trans HBI.out.size hb2.size) _
          have T2 : Hid (Tri (w2.alloc (.cells #[.int .i64 q, .int .i64 z.1, .int .i64 z.2] 32)) w2.heap.size q z) := heap_new _ _ _ rfl
          clear hb2
          go_upto_region 5 with (fail)
          generalize w2.alloc (.cells #[.int .i64 q, .int .i64 z.1, .int .i64 z.2] 32) = w3 at *
          obtain ⟨t0, t1, t2, t3, t4, t5, t6⟩ := T2.out.cells
          go_wp2
          go_ret
          exact ⟨by rw [HE2.out]; rfl, HB2.out⟩
      · have e1 : cvE u = 5 := by unfold cvE; rw [if_neg hW]
        rw [e1] at HR
        rw [if_neg hW] at hs
        generalize cvZ u = z at *
        generalize cvR u = q at *
        have HE2 : Hid (E = 5) := by show _ = _; rw [HE.out, hs]
        clear hs e1 hW HE
        simp only [vC] at HR
        go_wp2_with fail
        refine (HR.out _).mono ?_
        rintro e w2 ⟨rfl, hb2⟩
        have HB2 : Hid (Below w.heap.size w (w2.alloc (.cells #[.int .i64 q, .int .i64 z.1, .int .i64 z.2] 32))) := (HBI.out.trans (hb2.mono HBI.out.size)).alloc (Nat.le_trans HBI.out.size hb2.size) _
        clear hb2
        go_wp2
        go_ret
        exact ⟨by rw [HE2.out]; rfl, HB2.out⟩
    · obtain hkn : n ≤ k := by omega
      have HE2 : Hid (E = 0) := by show _ = _; rw [HE.out, show k = n by omega, HEN.out]
      clear HE
      go_wp2
      go_ret
      exact ⟨by rw [HE2.out]; rfl, HBI.out⟩
end Go.Proofs.YtkjfdaleamonaaaGreat
/- Contracts of apiaryref1: Beta, Pow (of 7), Seven, conj, World; apiarylaw3.Point is left to NfH. -/
namespace Go.Proofs.YtkjfdaleamonaaaGreat
open Go.RowKit Go.Lib Wd

theorem bE_sm {k : Nat} (hk : k ≤ 12) : Sm 1048576 (bE k) := by
  obtain ⟨q0, q1, q2, q3, q4, q5, q6, q7, q8, q9, q10, q11, q12⟩ := bE_tab
  unfold Sm
  rcases upto12 hk with rfl | rfl | rfl | rfl | rfl | rfl | rfl | rfl | rfl | rfl | rfl | rfl | rfl <;> decide
theorem pow7_in {k : Nat} (hk : k ≤ 12) : 1 ≤ (7 : Int) ^ k ∧ (7 : Int) ^ k ≤ 13841287201 := by
  rcases upto12 hk with rfl | rfl | rfl | rfl | rfl | rfl | rfl | rfl | rfl | rfl | rfl | rfl | rfl <;> decide
set_option maxRecDepth 100000 in
set_option maxHeartbeats 4000000 in
theorem rbeta_in (n : Nat) (hn : n ≤ 12) (w : World) :
    Calls Tryz.prog 135 #[.int .i64 n] w fun e w' => e = .returned (.tuple #[vE (bE n), .bool true]) ∧ Below w.heap.size w w' := by
  have q1 : decide ((n : Int) < 0) = false := decide_eq_false (by omega)
  have q2 : decide (20 < (n : Int)) = false := decide_eq_false (by omega)
  go_enter Tryz.func135, Tryz.ntmps135
  go_wp2
  have T0 : Hid (Two2 ((w.alloc (.cells #[.int .i64 0, .int .i64 0] 30)).alloc (.cells #[.int .i64 1, .int .i64 0] 30)) w.heap.size (.int .i64 0) (.int .i64 0)) := Two2.of_row (t := 30) (by rw [Below.heap_alloc _ _ _ (by simp)]; exact heap_new _ _ _ rfl)
  have C0 : Hid (Two2 ((w.alloc (.cells #[.int .i64 0, .int .i64 0] 30)).alloc (.cells #[.int .i64 1, .int .i64 0] 30)) (w.heap.size + 1) (.int .i64 1) (.int .i64 0)) := Two2.of_row (t := 30) (heap_new _ _ _ (by simp))
  have HB0 : Hid (Below w.heap.size w ((w.alloc (.cells #[.int .i64 0, .int .i64 0] 30)).alloc (.cells #[.int .i64 1, .int .i64 0] 30))) := ((Below.refl _ _).alloc (Nat.le_refl _) _).alloc (by simp) _
  have k2 : ((w.alloc (.cells #[.int .i64 0, .int .i64 0] 30)).alloc (.cells #[.int .i64 1, .int .i64 0] 30)).heap.size = w.heap.size + 2 := by simp
  generalize (w.alloc (.cells #[.int .i64 0, .int .i64 0] 30)).alloc (.cells #[.int .i64 1, .int .i64 0] 30) = w2 at *
  clear q1 q2
  go_loopw [5] (fun i wr => ∃ k : Nat, k ≤ n ∧ i = .int .i64 k ∧ Hid (Two2 wr (w.heap.size + 1) (.int .i64 (bE k).1) (.int .i64 (bE k).2) ∧ Turn (fun q => q = w.heap.size + 1) w2 wr)) (fun i _ => n - (intOf i).toNat)
  case atStart => exact ⟨0, by omega, rfl, C0.out, Turn.refl _ _⟩
  case round =>
    obtain ⟨k, hk, rfl, HI⟩ := hrel
    have hTri := HI.out.1
    have hturn := HI.out.2
    have hsz := hturn.2.2.2.1
    have HT := Lib.hid (T0.out.turn hturn (by omega) (by omega))
    have HBR : Hid (Below w.heap.size w wr) := HB0.out.trans (hturn.below (by omega) fun q hq e => by omega)
    have HTU := Lib.hid hturn
    have HTR := Lib.hid hTri
    clear hTri hturn HI
    by_cases hkn : k < n
    · have q1 : decide ((k : Int) < (n : Int)) = true := decide_eq_true (by omega)
      have hb1 := bE_sm (show k ≤ 12 by omega)
      have HMU := Lib.hid (rmul_in (bE k) (2, 1) (hb1.mono (by decide)) (by unfold Sm; simp) (by unfold Sm at hb1; unfold Sm mulE; simp only; omega))
      have HDN : Hid (bE (k + 1) = mulE (bE k) (2, 1)) := rfl
      obtain ⟨x, hx⟩ : ∃ x, bE k = x := ⟨_, rfl⟩
      rw [hx] at HMU HTR HDN
      generalize mulE x (2, 1) = m at *
      simp only [vE] at HMU
      obtain ⟨⟨c0, c1⟩, c2, c3⟩ := HTR.out
      clear hb1 hx
      go_wp2_with fail
      refine (HMU.out _).mono ?_
      rintro e w5 ⟨rfl, hb5⟩
      have hz5 := hb5.size
      have h5 := HTR.out.later (by omega) hb5
      have HP := Lib.hid (h5.put (.int .i64 m.1) (.int .i64 m.2))
      have HFI : Hid (Two2 ((w5.setCell ⟨w.heap.size + 1, 0, none⟩ (.int .i64 m.1)).setCell ⟨w.heap.size + 1, 1, none⟩ (.int .i64 m.2)) (w.heap.size + 1) (.int .i64 (bE (k + 1)).1) (.int .i64 (bE (k + 1)).2) ∧ Turn (fun q => q = w.heap.size + 1) w2 ((w5.setCell ⟨w.heap.size + 1, 0, none⟩ (.int .i64 m.1)).setCell ⟨w.heap.size + 1, 1, none⟩ (.int .i64 m.2))) := ⟨by rw [HDN.out]; exact HP.out.1, (HTU.out.trans (Turn.of_below hb5) fun _ _ h => h).trans HP.out.2 fun _ _ h => h⟩
      obtain ⟨⟨e0, e1⟩, e2, e3⟩ := h5
      clear hb5 c0 c1 c2 c3 HTR HT HTU HMU HBR HP HDN
      go_wp2
      go_roundw
      case rel => exact ⟨k + 1, by omega, by go_num, HFI.out⟩
      case measure => simp [intOf]; omega
    · obtain rfl : k = n := by omega
      have q1 : decide ((k : Int) < (k : Int)) = false := decide_eq_false (by omega)
      obtain ⟨x, hx⟩ : ∃ x, bE k = x := ⟨_, rfl⟩
      rw [hx] at HTR
      obtain ⟨⟨c0, c1⟩, c2, c3⟩ := HTR.out
      obtain ⟨⟨t0, t1⟩, t2, t3⟩ := HT.out
      have HX := Lib.hid hx
      clear HTR HT hx
      go_wp2
      exact bodyPost_ret (v := .tuple #[.agg #[.int .i64 x.1, .int .i64 x.2], .bool true]) (by simp [results, Tryz.results135, go_sem, *]) rfl ⟨by rw [HX.out], (HBR.out.setCell (p := ⟨w.heap.size, 0, none⟩) (Nat.le_refl _) _).setCell (p := ⟨w.heap.size, 1, none⟩) (Nat.le_refl _) _⟩
set_option maxRecDepth 100000 in
set_option maxHeartbeats 4000000 in
theorem rpow_in (n : Nat) (hn : n ≤ 12) (w : World) :
    Calls Tryz.prog 65 #[.int .i64 7, .int .i64 n] w fun e w' => e = .returned (.tuple #[.int .i64 (7 ^ n), .bool true]) ∧ Below w.heap.size w w' := by
  have q1 : decide ((n : Int) < 0) = false := decide_eq_false (by omega)
  go_enter Tryz.func65, Tryz.ntmps65
  go_wp2
  clear q1
  go_loopw [6, 7] (fun x i wr => ∃ k : Nat, k ≤ n ∧ i = .int .i64 k ∧ x = .int .i64 (7 ^ k) ∧ Below w.heap.size w wr) (fun _ i _ => n - (intOf i).toNat)
  case atStart => exact ⟨0, by omega, rfl, rfl, Below.refl _ _⟩
  case round =>
    obtain ⟨k, hk, rfl, rfl, hbr⟩ := hrel
    have HBR := Lib.hid hbr
    clear hbr
    by_cases hkn : k < n
    · have q1 : decide ((k : Int) < (n : Int)) = true := decide_eq_true (by omega)
      obtain ⟨hp1, hp2⟩ := pow7_in (show k ≤ 12 by omega)
      obtain ⟨hp3, hp4⟩ := pow7_in (show k + 1 ≤ 12 by omega)
      have HDN : Hid ((7 : Int) ^ (k + 1) = 7 ^ k * 7) := Int.pow_succ _ _
      rw [HDN.out] at hp3 hp4
      have HTI := Lib.hid (times_x (7 ^ k) 7 (by omega) (by omega))
      have HSM := Lib.hid (small_x (7 ^ k * 7) (by omega))
      obtain ⟨x, hx⟩ : ∃ x, (7 : Int) ^ k = x := ⟨_, rfl⟩
      rw [hx] at hp1 hp3 hp4 HDN HTI HSM ⊢
      obtain ⟨y, hy⟩ : ∃ y, x * 7 = y := ⟨_, rfl⟩
      rw [hy] at hp3 hp4 HDN HTI HSM
      have q2 : (x == 0) = false := by simp; omega
      simp only [vU] at HTI HSM
      clear hx hy
      obtain ⟨b, hb⟩ : ∃ b, (x == 1) = b := ⟨_, rfl⟩
      cases b
      all_goals
        go_wp2_with fail
        refine (HTI.out _).mono ?_
        rintro e w5 ⟨rfl, hb5⟩
        have HB5 : Hid (Below w.heap.size w w5) := HBR.out.trans (hb5.mono HBR.out.size)
        clear hb5
        go_wp2_with fail
        refine (HSM.out _).mono ?_
        rintro e w6 ⟨rfl, hb6⟩
        have HB6 : Hid (Below w.heap.size w w6) := HB5.out.trans (hb6.mono HB5.out.size)
        clear hb6
        go_wp2
        go_roundw
        case rel => exact ⟨k + 1, by omega, by go_num, by rw [HDN.out], HB6.out⟩
        case measure => simp [intOf]; omega
    · obtain rfl : k = n := by omega
      have q1 : decide ((k : Int) < (k : Int)) = false := decide_eq_false (by omega)
      obtain ⟨x, hx⟩ : ∃ x, (7 : Int) ^ k = x := ⟨_, rfl⟩
      have HX := Lib.hid hx
      rw [hx]
      clear hx
      go_wp2
      exact bodyPost_ret (v := .tuple #[.int .i64 x, .bool true]) (by simp [results, Tryz.results65, go_sem, *]) rfl ⟨by rw [HX.out], HBR.out⟩
theorem rseven_in (n : Nat) (hn : n ≤ 12) (w : World) :
    Calls Tryz.prog 31 #[.int .i64 n] w fun e w' => e = .returned (.int .i64 (7 ^ n)) ∧ Below w.heap.size w w' := by
  have HP := Lib.hid (rpow_in n hn)
  generalize (7 : Int) ^ n = x at *
  go_enter Tryz.func31, Tryz.ntmps31
  go_wp2_with fail
  refine (HP.out _).mono ?_
  rintro e w1 ⟨rfl, hb1⟩
  go_wp2
  exact bodyPost_ret (v := .int .i64 x) (by simp [results, Tryz.results31, go_sem]) rfl ⟨rfl, hb1⟩
set_option maxHeartbeats 1000000 in
theorem rconj_in (n : Nat) (hn : n ≤ 12) (w : World) :
    Calls Tryz.prog 106 #[.int .i64 n] w fun e w' => e = .returned (vE (conjE (bE n))) ∧ Below w.heap.size w w' := by
  have HP := Lib.hid (rbeta_in n hn)
  have hs := bE_sm hn
  unfold conjE
  unfold Sm at hs
  simp only [vE] at *
  generalize bE n = x at *
  obtain ⟨hs1, hs2, hs3, hs4⟩ := hs
  go_enter Tryz.func106, Tryz.ntmps106
  go_wp2_with fail
  refine (HP.out _).mono ?_
  rintro e w1 ⟨rfl, hb1⟩
  have hz := hb1.size
  simp at hz
  have H2 : Two2 w1 w.heap.size (.int .i64 0) (.int .i64 0) := (Two2.of_row (t := 30) (heap_new _ _ _ rfl)).later (by simp) hb1
  have HQ : Hid (Below w.heap.size w w1) := ((Below.refl _ _).alloc (Nat.le_refl _) _).trans (hb1.mono (by simp))
  have hT : Two (w1.alloc (.cells #[.int .i64 x.1, .int .i64 x.2] 30)) w1.heap.size (.int .i64 x.1) (.int .i64 x.2) := Two.of_row (t := 30) (f := _) (heap_new _ _ _ rfl)
  have H2 := H2.alloc (by omega) (.cells #[.int .i64 x.1, .int .i64 x.2] 30)
  have HQ : Hid (Below w.heap.size w (w1.alloc (.cells #[.int .i64 x.1, .int .i64 x.2] 30))) := HQ.out.alloc (by omega) _
  have hs : w1.heap.size < (w1.alloc (.cells #[.int .i64 x.1, .int .i64 x.2] 30)).heap.size := by simp
  clear hb1
  go_upto_region 2 with (fail)
  generalize w1.alloc (.cells #[.int .i64 x.1, .int .i64 x.2] 30) = w2 at *
  obtain ⟨c0, c1⟩ := hT
  obtain ⟨⟨t0, t1⟩, t2, t3⟩ := H2
  go_wp2
  exact bodyPost_ret (v := .agg #[.int .i64 (x.1 + x.2), .int .i64 (-x.2)]) (by simp [results, Tryz.results106, go_sem, *]) rfl ⟨rfl, (HQ.out.setCell (p := ⟨w.heap.size, 0, none⟩) (Nat.le_refl _) _).setCell (p := ⟨w.heap.size, 1, none⟩) (Nat.le_refl _) _⟩
theorem rworld_in (x y : Int) (hx : 0 ≤ x ∧ x < 1073741824) (hy : 0 ≤ y ∧ y < 1073741824) (w : World) : Calls Tryz.prog 105 #[.int .i64 x, .int .i64 y] w fun e w' => e = .returned (.bool true) ∧ w' = w := by
  have q1 : decide (0 ≤ x) = true := decide_eq_true (by omega)
  have q2 : decide (x < 1073741824) = true := decide_eq_true (by omega)
  have q3 : decide (0 ≤ y) = true := decide_eq_true (by omega)
  have q4 : decide (y < 1073741824) = true := decide_eq_true (by omega)
  clear hx hy
  go_enter Tryz.func105, Tryz.ntmps105
  go_wp2
  go_ret
  exact ⟨rfl, rfl⟩
end Go.Proofs.YtkjfdaleamonaaaGreat
/- The contract of apiaryref1.Near. -/
namespace Go.Proofs.YtkjfdaleamonaaaGreat
open Go.RowKit Go.Lib Wd

theorem near_mul_sm {x y : Int} (hx : 0 ≤ x ∧ x < 1073741824) (hy : 0 ≤ y ∧ y < 1073741824) {m : Nat} (hm : m ≤ 12) : Sm 1152921504606846976 (mulE (ptE x y) (conjE (bE m))) := by
  obtain ⟨q0, q1, q2, q3, q4, q5, q6, q7, q8, q9, q10, q11, q12⟩ := bE_tab
  unfold Sm mulE ptE conjE
  rcases upto12 hm with rfl | rfl | rfl | rfl | rfl | rfl | rfl | rfl | rfl | rfl | rfl | rfl | rfl <;> simp only [q0, q1, q2, q3, q4, q5, q6, q7, q8, q9, q10, q11, q12] <;> omega
theorem conj_sm {m : Nat} (hm : m ≤ 12) : Sm 4194304 (conjE (bE m)) := by
  have := bE_sm hm
  unfold Sm at this
  unfold Sm conjE
  simp only
  omega
set_option maxRecDepth 100000 in
set_option maxHeartbeats 4000000 in
theorem rnear_in (x y : Int) (hx : 0 ≤ x ∧ x < 1073741824) (hy : 0 ≤ y ∧ y < 1073741824) (r : Nat) (hr : r ≤ 12) (w : World) :
    Calls Tryz.prog 77 #[.int .i64 x, .int .i64 y, .int .i64 r] w fun e w' => e = .returned (.tuple #[vE (nearE x y r), .bool true]) ∧ Below w.heap.size w w' := by
  have HWO := Lib.hid (rworld_in x y hx hy)
  have q1 : decide ((r : Int) < 0) = false := decide_eq_false (by omega)
  have q2 : decide (12 < (r : Int)) = false := decide_eq_false (by omega)
  have hm : (12 : Int) - (r : Int) = ((12 - r : Nat) : Int) := by omega
  have hm12 : 12 - r ≤ 12 := by omega
  have HN : Hid (nearE x y r = roundE (mulE (ptE x y) (conjE (bE (12 - r)))) (dN (12 - r))) := rfl
  have hms := near_mul_sm hx hy hm12
  have HCO := Lib.hid (rconj_in (12 - r) hm12)
  have HMU := Lib.hid (rmul_in (ptE x y) (conjE (bE (12 - r))) (by unfold Sm ptE; simp only; omega) ((conj_sm hm12).mono (by decide)) (hms.mono (by decide)))
  have HSE := Lib.hid (rseven_in (12 - r) hm12)
  obtain ⟨hp1, hp2⟩ := pow7_in hm12
  have HRO := Lib.hid (rround_in (mulE (ptE x y) (conjE (bE (12 - r)))) (dN (12 - r)) (by unfold dN; omega) (by unfold dN; omega) hms)
  rw [← HN.out] at HRO
  have hdn : dN (12 - r) = 2340 * 7 ^ (12 - r) := rfl
  rw [hdn] at HRO
  have hpt : ptE x y = (45 * x - 26 * y, 52 * y) := rfl
  clear HN hdn hms
  generalize (7 : Int) ^ (12 - r) = s at *
  generalize nearE x y r = z at *
  generalize 12 - r = m at *
  generalize mulE (ptE x y) (conjE (bE m)) = u at *
  generalize conjE (bE m) = c at *
  rw [hpt] at HMU
  simp only [vE] at *
  clear hpt
  obtain ⟨hx1, hx2⟩ := hx
  obtain ⟨hy1, hy2⟩ := hy
  go_enter Tryz.func77, Tryz.ntmps77
  go_wp2_with fail
  refine (HWO.out _).mono ?_
  rintro e w0 ⟨rfl, rfl⟩
  go_wp2_with fail
  refine (HCO.out _).mono ?_
  rintro e w1 ⟨rfl, hb1⟩
  have hz := hb1.size
  simp at hz
  have H1 : Hid (Two2 w1 w.heap.size (.int .i64 0) (.int .i64 0)) := (Two2.of_row (t := 30) (heap_new _ _ _ rfl)).later (by simp) hb1
  have HQ : Hid (Below w.heap.size w w1) := ((Below.refl _ _).alloc (Nat.le_refl _) _).trans (hb1.mono (by simp))
  clear hb1
  go_wp2_with fail
  refine (HMU.out _).mono ?_
  rintro e w2 ⟨rfl, hb2⟩
  have hz2 := hb2.size
  have H2 := H1.out.later (by omega) hb2
  have HQ2 : Hid (Below w.heap.size w w2) := HQ.out.trans (hb2.mono (by omega))
  have HT : Hid (Two (w2.alloc (.cells #[.int .i64 u.1, .int .i64 u.2] 30)) w2.heap.size (.int .i64 u.1) (.int .i64 u.2)) := Two.of_row (t := 30) (f := _) (heap_new _ _ _ rfl)
  have H2 := Lib.hid (H2.alloc (by omega) (.cells #[.int .i64 u.1, .int .i64 u.2] 30))
  have HQ3 : Hid (Below w.heap.size w (w2.alloc (.cells #[.int .i64 u.1, .int .i64 u.2] 30))) := HQ2.out.alloc (by omega) _
  have hs : w2.heap.size < (w2.alloc (.cells #[.int .i64 u.1, .int .i64 u.2] 30)).heap.size := by simp
  clear hb2 HQ HQ2 H1
  go_upto_region 4 with (fail)
  generalize w2.alloc (.cells #[.int .i64 u.1, .int .i64 u.2] 30) = w4 at *
  have HC : Hid (∀ wx, Below w4.heap.size w4 wx → Two wx w2.heap.size (.int .i64 u.1) (.int .i64 u.2) ∧ Two2 wx w.heap.size (.int .i64 0) (.int .i64 0)) := fun wx hx => ⟨HT.out.later (by omega) hx, H2.out.later (by omega) hx⟩
  clear HT H2
  refine wp_region_part 6 4 #[true, true, true, true, true, true, false, false, false, false] (fun w w' => Below w.heap.size w w') (fun qi_ qv_ _ => qv_ = ([.agg #[.int .i64 u.1, .int .i64 u.2], .int .i64 r, .int .i64 m, .int .i64 s, .int .i64 (2340 * s), .tuple #[.agg #[.int .i64 z.1, .int .i64 z.2], .bool true]] : List Value).getD qi_ undef) rfl rfl (by kernel_rfl) (by kernel_rfl) (by kernel_rfl) (fun _ => Below.refl _ _) (fun _ _ _ h1 h2 => below_later h1 h1.size h2) (fun _ _ _ _ _ _ h => h) ?_
  simp only [List.take_succ_cons, List.take_zero]
  refine inv_cons (fun wx hg hd => ?_) (fun v0 => ?_)
  · have hx := ((Below.refl w4.heap.size w4).drew).trans hg
    clear hd hg
    obtain ⟨⟨k1, k2⟩, _⟩ := HC.out _ hx
    go_wp2
    exact ⟨_, rfl, Below.refl _ _, rfl⟩
  (try simp only [List.nil_append, Act.put, List.setIfInBounds_toArray, List.set_cons_zero, List.set_cons_succ])
  refine inv_cons (fun wx hg hd => ?_) (fun v1 => ?_)
  · have hx := ((Below.refl w4.heap.size w4).drew).trans hg
    clear hd hg
    go_wp2
    exact ⟨_, rfl, Below.refl _ _, rfl⟩
  (try simp only [List.cons_append, List.nil_append, Act.put, List.setIfInBounds_toArray, List.set_cons_zero, List.set_cons_succ])
  refine inv_cons (fun wx hg hd => ?_) (fun v2 => ?_)
  · have hx := ((Below.refl w4.heap.size w4).drew).trans hg
    (try (have ee : v1 = (.int .i64 r : Value) := hd 1 (by simp) (by decide); subst ee))
    clear hd hg
    go_wp2
    exact ⟨_, rfl, Below.refl _ _, rfl⟩
  (try simp only [List.cons_append, List.nil_append, Act.put, List.setIfInBounds_toArray, List.set_cons_zero, List.set_cons_succ])
  refine inv_cons (fun wx hg hd => ?_) (fun v3 => ?_)
  · have hx := ((Below.refl w4.heap.size w4).drew).trans hg
    (try (have ee : v2 = (.int .i64 m : Value) := hd 2 (by simp) (by decide); subst ee))
    clear hd hg
    go_wp2_with fail
    refine (HSE.out _).mono ?_
    rintro e w' ⟨rfl, hb⟩
    go_wp2
    exact ⟨_, rfl, hb, rfl⟩
  (try simp only [List.cons_append, List.nil_append, Act.put, List.setIfInBounds_toArray, List.set_cons_zero, List.set_cons_succ])
  refine inv_cons (fun wx hg hd => ?_) (fun v4 => ?_)
  · have hx := ((Below.refl w4.heap.size w4).drew).trans hg
    (try (have ee : v3 = (.int .i64 s : Value) := hd 3 (by simp) (by decide); subst ee))
    clear hd hg
    go_wp2
    exact ⟨_, rfl, Below.refl _ _, rfl⟩
  (try simp only [List.cons_append, List.nil_append, Act.put, List.setIfInBounds_toArray, List.set_cons_zero, List.set_cons_succ])
  refine inv_cons (fun wx hg hd => ?_) (fun v5 => ?_)
  · have hx := ((Below.refl w4.heap.size w4).drew).trans hg
    (try (have ee : v0 = (.agg #[.int .i64 u.1, .int .i64 u.2] : Value) := hd 0 (by simp) (by decide); subst ee))
    (try (have ee : v4 = (.int .i64 (2340 * s) : Value) := hd 4 (by simp) (by decide); subst ee))
    clear hd hg
    go_wp2_with fail
    refine (HRO.out _).mono ?_
    rintro e w' ⟨rfl, hb⟩
    go_wp2
    exact ⟨_, rfl, hb, rfl⟩
  (try simp only [List.cons_append, List.nil_append, Act.put, List.setIfInBounds_toArray, List.set_cons_zero, List.set_cons_succ])
  refine inv_done (fun wx hg hd => ?_)
  have hx := ((Below.refl w4.heap.size w4).drew).trans hg
  (have ee : v0 = (.agg #[.int .i64 u.1, .int .i64 u.2] : Value) := hd 0 (by simp); subst ee)
  (have ee : v1 = (.int .i64 r : Value) := hd 1 (by simp); subst ee)
  (have ee : v2 = (.int .i64 m : Value) := hd 2 (by simp); subst ee)
  (have ee : v3 = (.int .i64 s : Value) := hd 3 (by simp); subst ee)
  (have ee : v4 = (.int .i64 (2340 * s) : Value) := hd 4 (by simp); subst ee)
  (have ee : v5 = (.tuple #[.agg #[.int .i64 z.1, .int .i64 z.2], .bool true] : Value) := hd 5 (by simp); subst ee)
  clear hd hg
  have HF : Hid (Below w.heap.size w wx) := HQ3.out.trans (hx.mono HQ3.out.size)
  obtain ⟨-, ⟨c0, c1⟩, f0, f1⟩ := HC.out _ hx
  have hzx := hx.size
  clear hx HC
  refine wpAny_take (i := 6) (v := .agg #[.int .i64 z.1, .int .i64 z.2]) rfl (by kernel_rfl) (by kernel_rfl) (by kernel_rfl) (fun _ _ _ h => h) (Or.inl ⟨by rfl, ?_⟩) ?_
  · intro w
    go_simp
  (try simp only [Act.put, List.setIfInBounds_toArray, List.set_cons_zero, List.set_cons_succ])
  refine wpAny_take (i := 7) (v := .bool true) rfl (by kernel_rfl) (by kernel_rfl) (by kernel_rfl) (fun _ _ _ h => h) (Or.inl ⟨by rfl, ?_⟩) ?_
  · intro w
    go_simp
  (try simp only [Act.put, List.setIfInBounds_toArray, List.set_cons_zero, List.set_cons_succ])
  refine wpAny_ready (rs := [8]) (by kernel_rfl) (by simp) ?_
  refine AllReady.cons rfl (fun K hK => ?_) AllReady.nil
  go_simp
  refine hK _ _ ?_
  clear hK K
  refine wpAny_ready (rs := [9]) (by kernel_rfl) (by simp) ?_
  refine AllReady.cons rfl (fun K hK => ?_) AllReady.nil
  go_simp
  refine hK _ _ ?_
  clear hK K
  refine wpAny_done (by kernel_rfl) ?_ _
  refine only_done ?_
  go_wp2
  exact bodyPost_ret (v := .tuple #[.agg #[.int .i64 z.1, .int .i64 z.2], .bool true]) (by simp [results, Tryz.results77, go_sem, *]) rfl ⟨rfl, (HF.out.setCell (p := ⟨w.heap.size, 0, none⟩) (Nat.le_refl _) _).setCell (p := ⟨w.heap.size, 1, none⟩) (Nat.le_refl _) _⟩
end Go.Proofs.YtkjfdaleamonaaaGreat
/- Contracts of apiarylaw3.Point, apiarylaw4.Some and apiarylaw5.Word at even y: the word of a point's cell. -/
namespace Go.Proofs.YtkjfdaleamonaaaGreat
open Go.RowKit Go.Lib Wd

theorem point_in (x y : Int) (w : World) : Calls Tryz.prog 76 #[.int .i64 x, .int .i64 y] w fun e w' => e = .returned (.tuple #[.int .i64 (x % 1073741824), .int .i64 (y % 1073741824)]) ∧ Below w.heap.size w w' := by
  have e1 : bits BinOp.and IntKind.i64 x 1073741823 = x % 1073741824 := i64_and_mask x 30 (by omega) 1073741823 rfl
  have e2 : bits BinOp.and IntKind.i64 y 1073741823 = y % 1073741824 := i64_and_mask y 30 (by omega) 1073741823 rfl
  generalize x % 1073741824 = a at *
  generalize y % 1073741824 = b at *
  go_enter Tryz.func76, Tryz.ntmps76
  go_wp2
  exact bodyPost_ret (v := .tuple #[.int .i64 a, .int .i64 b]) (by simp [results, Tryz.results76, go_sem]) rfl ⟨rfl, by first | exact Below.refl _ _ | exact below_drewN (Below.refl _ _) _⟩
theorem rem13 (r : Int) : (-13 < r.tmod 13 ∧ r.tmod 13 < 13) ∧ (r.tmod 13 + 13).tmod 13 = r % 13 := by
  have h : (-13 < r.tmod 13 ∧ r.tmod 13 < 13) ∧ (r.tmod 13 + 13) % 13 = r % 13 := by
    rcases Int.lt_or_le r 0 with h | h
    · have e : r.tmod 13 = -((-r) % 13) := by rw [← Int.tmod_eq_emod_of_nonneg (show 0 ≤ -r by omega), Int.neg_tmod, Int.neg_neg]
      omega
    · rw [Int.tmod_eq_emod_of_nonneg h]; omega
  refine ⟨h.1, ?_⟩
  rw [Int.tmod_eq_emod_of_nonneg (by omega)]
  exact h.2
set_option maxRecDepth 100000 in
set_option maxHeartbeats 4000000 in
theorem some_even (x y r : Int) (hy : y % 2 = 0) (w : World) :
    Calls Tryz.prog 42 #[.int .i64 x, .int .i64 y, .int .i64 r] w fun e w' => e = .returned (vC (r % 13) (nearE (x % 1073741824) (y % 1073741824) (r % 13).toNat)) ∧ Below w.heap.size w w' := by
  have e1 : bits BinOp.and IntKind.i64 y 1 = 0 := by rw [i64_and_mask y 1 (by omega) 1 rfl]; exact hy
  obtain ⟨hr2, hr1⟩ := rem13 r
  have hR : r % 13 = ((r % 13).toNat : Int) := by omega
  have hR2 : (r % 13).toNat ≤ 12 := by omega
  have HP := Lib.hid (point_in x y)
  have HNE := Lib.hid (rnear_in (x % 1073741824) (y % 1073741824) (by omega) (by omega) (r % 13).toNat hR2)
  generalize nearE (x % 1073741824) (y % 1073741824) (r % 13).toNat = z at *
  generalize x % 1073741824 = a at *
  generalize y % 1073741824 = b at *
  generalize (r % 13).toNat = R at *
  rw [hR] at hr1 ⊢
  simp only [vE] at HNE
  obtain ⟨s, hs⟩ : ∃ s, r.tmod 13 = s := ⟨_, rfl⟩
  rw [hs] at hr1 hr2
  obtain ⟨hr3, hr4⟩ := hr2
  clear hR hy
  go_enter Tryz.func42, Tryz.ntmps42
  go_wp2_with fail
  refine (HP.out _).mono ?_
  rintro e w1 ⟨rfl, hb1⟩
  have hz := hb1.size
  simp at hz
  have H1 : Hid (Tri w1 w.heap.size 0 (0, 0)) := Tri.later (heap_new _ _ _ rfl) hb1
  have HQ : Hid (Below w.heap.size w w1) := ((Below.refl _ _).alloc (Nat.le_refl _) _).trans (hb1.mono (by simp))
  clear hb1
  go_wp2_with fail
  refine (HNE.out _).mono ?_
  rintro e w2 ⟨rfl, hb2⟩
  have hz2 := hb2.size
  have HT : Hid (Two (w2.alloc (.cells #[.int .i64 z.1, .int .i64 z.2] 30)) w2.heap.size (.int .i64 z.1) (.int .i64 z.2)) := Two.of_row (t := 30) (f := _) (heap_new _ _ _ rfl)
  have H2 : Hid (Tri (w2.alloc (.cells #[.int .i64 z.1, .int .i64 z.2] 30)) w.heap.size 0 (0, 0)) := (H1.out.later hb2).later ((Below.refl _ _).alloc (Nat.le_refl _) _)
  have HQ3 : Hid (Below w.heap.size w (w2.alloc (.cells #[.int .i64 z.1, .int .i64 z.2] 30))) := (HQ.out.trans (hb2.mono (by omega))).alloc (by omega) _
  have hs : w2.heap.size < (w2.alloc (.cells #[.int .i64 z.1, .int .i64 z.2] 30)).heap.size := by simp
  clear hb2 HQ H1
  go_upto_region 5 with (fail)
  generalize w2.alloc (.cells #[.int .i64 z.1, .int .i64 z.2] 30) = w4 at *
  obtain ⟨t0, t1, t2, t3, t4, t5, t6⟩ := H2.out.cells
  obtain ⟨c0, c1⟩ := HT.out
  clear HT H2
  go_wp2
  exact bodyPost_ret (v := .agg #[.int .i64 R, .int .i64 z.1, .int .i64 z.2]) (by simp [results, Tryz.results42, go_sem, *]) rfl ⟨rfl, ((HQ3.out.setCell (p := ⟨w.heap.size, 0, none⟩) (Nat.le_refl _) _).setCell (p := ⟨w.heap.size, 1, none⟩) (Nat.le_refl _) _).setCell (p := ⟨w.heap.size, 2, none⟩) (Nat.le_refl _) _⟩
theorem lword_even (x y r : Int) (hy : y % 2 = 0) (w : World) :
    Calls Tryz.prog 14 #[.int .i64 x, .int .i64 y, .int .i64 r] w fun e w' => e = .returned (.int .u64 (ofW (r % 13) (nearE (x % 1073741824) (y % 1073741824) (r % 13).toNat) : Nat)) ∧ Below w.heap.size w w' := by
  have HS := Lib.hid (some_even x y r hy)
  have HWD := Lib.hid (word_any (r % 13) (nearE (x % 1073741824) (y % 1073741824) (r % 13).toNat))
  generalize nearE (x % 1073741824) (y % 1073741824) (r % 13).toNat = z at *
  generalize r % 13 = R at *
  simp only [vC] at *
  generalize ofW R z = v at *
  generalize ofE R z = v2 at *
  clear hy
  go_enter Tryz.func14, Tryz.ntmps14
  go_wp2_with fail
  refine (HS.out _).mono ?_
  rintro e w1 ⟨rfl, hb1⟩
  go_wp2_with fail
  refine (HWD.out _).mono ?_
  rintro e w2 ⟨rfl, hb2⟩
  have HQ : Hid (Below w.heap.size w w2) := hb1.trans (hb2.mono hb1.size)
  clear hb1 hb2
  go_wp2
  exact bodyPost_ret (v := .int .u64 v) (by simp [results, Tryz.results14, go_sem]) rfl ⟨rfl, HQ.out⟩
end Go.Proofs.YtkjfdaleamonaaaGreat
/- Contracts of apiarylaw4.Some and apiarylaw5.Word at any numbers. -/
namespace Go.Proofs.YtkjfdaleamonaaaGreat
open Go.RowKit Go.Lib Wd

/-- The digits that a number tells; the base cell. -/
def digS (y : Int) (i : Nat) : Nat := (y / 2 ^ (3 * i + 1) % 64 % 7).toNat
def baseS (x : Int) : E2 := (x % 1024 - 512, x / 1024 % 1024 - 512)
def downS (y : Int) (b : E2) : Nat → E2
  | 0 => b
  | i + 1 => downE (downS y b i) (digS y i)
def someE (x y : Int) (r : Nat) : E2 := if y % 2 = 0 then nearE (x % 1073741824) (y % 1073741824) r else downS y (baseS x) r
theorem digS_lt (y : Int) (i : Nat) : digS y i < 7 := by unfold digS; omega
theorem downS_ok (y x : Int) : ∀ i : Nat, i ≤ 12 → okB i (downS y (baseS x) i) = true
  | 0, _ => by
    refine ok_of_base (r := 0) (by omega) ?_
    show baseB (baseS x) = true
    rw [baseB_iff]
    unfold baseS
    simp only
    omega
  | i + 1, h => kid_ok (downS_ok y x i (by omega)) h (digS_lt y i)
theorem some_ok (x y : Int) {r : Nat} (hr : r ≤ 12) : okB r (someE x y r) = true := by
  unfold someE
  split
  · exact near_ok0 (by omega) (by omega) hr
  · exact downS_ok y x r hr
set_option maxRecDepth 100000 in
set_option maxHeartbeats 4000000 in
theorem some_any (x y r : Int) (w : World) : Calls Tryz.prog 42 #[.int .i64 x, .int .i64 y, .int .i64 r] w fun e w' => e = .returned (vC (r % 13) (someE x y (r % 13).toNat)) ∧ Below w.heap.size w w' := by
  by_cases hy : y % 2 = 0
  · have h := some_even x y r hy w
    rw [show nearE (x % 1073741824) (y % 1073741824) (r % 13).toNat = someE x y (r % 13).toNat by unfold someE; rw [if_pos hy]] at h
    exact h
  · have hE : someE x y (r % 13).toNat = downS y (baseS x) (r % 13).toNat := by unfold someE; rw [if_neg hy]
    have e1 : bits BinOp.and IntKind.i64 y 1 = 1 := by rw [i64_and_mask y 1 (by omega) 1 rfl]; omega
    have e2 : bits BinOp.and IntKind.i64 x 1023 = x % 1024 := i64_and_mask x 10 (by omega) 1023 rfl
    have e3 : bits BinOp.and IntKind.i64 (x / 1024) 1023 = x / 1024 % 1024 := i64_and_mask (x / 1024) 10 (by omega) 1023 rfl
    obtain ⟨hr2, hr1⟩ := rem13 r
    have hR : r % 13 = ((r % 13).toNat : Int) := by omega
    have hR2 : (r % 13).toNat ≤ 12 := by omega
    rw [hE]
    generalize (r % 13).toNat = R at *
    rw [hR] at hr1 ⊢
    obtain ⟨s, hs⟩ : ∃ s, r.tmod 13 = s := ⟨_, rfl⟩
    rw [hs] at hr1 hr2
    obtain ⟨hr3, hr4⟩ := hr2
    have HKI : Hid (∀ i : Nat, i < 12 → ∀ w, Calls Tryz.prog 17 #[vC i (downS y (baseS x) i)] w (ToldC w (kidsL i (downS y (baseS x) i)) 0)) := fun i hi w => by
      have h := rkids_any i (downS y (baseS x) i) w
      obtain ⟨d1, d2⟩ := kd_ok (downS_ok y x i (by omega)) (by omega)
      rw [d1, d2] at h
      exact h
    have HGT : Hid (∀ i : Nat, cg (kidsL i (downS y (baseS x) i)) (digS y i) = (((i + 1 : Nat) : Int), downS y (baseS x) (i + 1))) := fun i => by rw [kidsL_get _ _ (digS_lt y i)]; rfl
    have HLN : Hid (∀ (i : Nat) z, (kidsL i z).length = 7) := fun i z => by unfold kidsL; simp
    have HDG : Hid (∀ i : Nat, i < 12 → bits BinOp.and IntKind.i64 (y / 2 ^ (3 * i + 1)) 63 = y / 2 ^ (3 * i + 1) % 64 ∧ (y / 2 ^ (3 * i + 1) % 64).tmod 7 = (digS y i : Int) ∧ digS y i < 7) := fun i _ => by
      refine ⟨i64_and_mask _ 6 (by omega) 63 rfl, ?_, digS_lt y i⟩
      rw [Int.tmod_eq_emod_of_nonneg (Int.emod_nonneg _ (by omega))]
      unfold digS
      omega
    have HD0 : Hid (downS y (baseS x) 0 = (x % 1024 - 512, x / 1024 % 1024 - 512)) := rfl
    obtain ⟨S, hS⟩ : ∃ S, downS y (baseS x) = S := ⟨_, rfl⟩
    rw [hS] at HKI HGT HD0 ⊢
    clear hR hy hE hS
    have m1 : x % 1024 < 1024 := Int.emod_lt_of_pos _ (by omega)
    have m2 : x / 1024 % 1024 < 1024 := Int.emod_lt_of_pos _ (by omega)
    have m3 : 0 ≤ x % 1024 := Int.emod_nonneg _ (by omega)
    have m4 : 0 ≤ x / 1024 % 1024 := Int.emod_nonneg _ (by omega)
    generalize x / 1024 % 1024 = b at *
    generalize x % 1024 = a at *
    simp only [vC] at *
    go_enter Tryz.func42, Tryz.ntmps42
    have k2 : ((w.alloc (.cells #[.int .i64 0, .int .i64 0, .int .i64 0] 32)).alloc (.cells #[.int .i64 0, .int .i64 (a - 512), .int .i64 (b - 512)] 32)).heap.size = w.heap.size + 2 := by simp
    have T0 : Hid (Tri ((w.alloc (.cells #[.int .i64 0, .int .i64 0, .int .i64 0] 32)).alloc (.cells #[.int .i64 0, .int .i64 (a - 512), .int .i64 (b - 512)] 32)) w.heap.size 0 (0, 0)) := by
      show _ = _
      rw [Below.heap_alloc _ _ _ (by simp)]
      exact heap_new _ _ _ rfl
    have C0 : Hid (Tri ((w.alloc (.cells #[.int .i64 0, .int .i64 0, .int .i64 0] 32)).alloc (.cells #[.int .i64 0, .int .i64 (a - 512), .int .i64 (b - 512)] 32)) (w.heap.size + 1) 0 (S 0)) := by rw [HD0.out]; exact heap_new _ _ _ (by simp)
    have HB0 : Hid (Below w.heap.size w ((w.alloc (.cells #[.int .i64 0, .int .i64 0, .int .i64 0] 32)).alloc (.cells #[.int .i64 0, .int .i64 (a - 512), .int .i64 (b - 512)] 32))) := ((Below.refl _ _).alloc (Nat.le_refl _) _).alloc (by simp) _
    go_upto_region 7 with (fail)
    generalize (w.alloc (.cells #[.int .i64 0, .int .i64 0, .int .i64 0] 32)).alloc (.cells #[.int .i64 0, .int .i64 (a - 512), .int .i64 (b - 512)] 32) = w2 at *
    have k3 : w.heap.size + 2 ≤ w2.heap.size := by omega
    clear k2 e2 e3 m1 m2 m3 m4 HD0
    go_wp2
    go_loopw [10] (fun i wr => ∃ k : Nat, k ≤ R ∧ i = .int .i64 k ∧ Hid (Tri wr (w.heap.size + 1) k (S k) ∧ Turn (fun q => q = w.heap.size + 1) w2 wr)) (fun i _ => R - (intOf i).toNat)
    case atStart => exact ⟨0, by omega, rfl, C0.out, Turn.refl _ _⟩
    case round =>
      obtain ⟨k, hk, rfl, HI⟩ := hrel
      have hTri := HI.out.1
      have hturn := HI.out.2
      have hsz := hturn.2.2.2.1
      have HT := Lib.hid (T0.out.turn hturn (by omega))
      have HBR : Hid (Below w.heap.size w wr) := HB0.out.trans (hturn.below (by omega) fun q hq e => by omega)
      have HTU := Lib.hid hturn
      have HTR := Lib.hid hTri
      clear hTri hturn HI
      by_cases hlt : k < R
      · have HK := Lib.hid (HKI.out k (by omega))
        obtain ⟨g1, g2, g3⟩ := HDG.out k (by omega)
        have HG := Lib.hid (HGT.out k)
        have HL7 := Lib.hid (HLN.out k (S k))
        generalize kidsL (k : Int) (S k) = L at *
        generalize digS y k = d at *
        generalize S k = z at *
        obtain ⟨z2, hz2⟩ : ∃ z2, S (k + 1) = z2 := ⟨_, rfl⟩
        rw [hz2] at HG
        have HZ2 := Lib.hid hz2
        clear hz2
        obtain ⟨c0, c1, c2, c3, c4, c5, c6⟩ := HTR.out.cells
        go_wp2_with fail
        refine (HK.out _).mono ?_
        rintro e w4 ⟨ao, c, rfl, h4, hb4⟩
        have HTR2 := Lib.hid (HTR.out.later hb4)
        have HTU2 : Hid (Turn (fun q => q = w.heap.size + 1) w2 w4) := HTU.out.trans (Turn.of_below hb4) fun _ _ h => h
        obtain ⟨g, off, rfl, hg, hc⟩ := h4 (by rw [HL7.out]; omega)
        obtain ⟨v0, v1, v2⟩ := hc d (by rw [HL7.out]; exact g3)
        rw [HG.out] at v0 v1 v2
        simp only at v0 v1 v2
        rw [HL7.out]
        clear c0 c1 c2 c3 c4 c5 c6 hb4 h4 hc HTR HTU HT HBR
        obtain ⟨c0, c1, c2, c3, c4, c5, c6⟩ := HTR2.out.cells
        have hput := HTR2.out.put ((k + 1 : Nat) : Int) z2
        have HF : Hid (Tri (((w4.setCell ⟨w.heap.size + 1, 0, none⟩ (.int .i64 ((k + 1 : Nat) : Int))).setCell ⟨w.heap.size + 1, 1, none⟩ (.int .i64 z2.1)).setCell ⟨w.heap.size + 1, 2, none⟩ (.int .i64 z2.2)) (w.heap.size + 1) ((k + 1 : Nat) : Int) (S (k + 1)) ∧ Turn (fun q => q = w.heap.size + 1) w2 (((w4.setCell ⟨w.heap.size + 1, 0, none⟩ (.int .i64 ((k + 1 : Nat) : Int))).setCell ⟨w.heap.size + 1, 1, none⟩ (.int .i64 z2.1)).setCell ⟨w.heap.size + 1, 2, none⟩ (.int .i64 z2.2))) := ⟨by rw [HZ2.out]; exact hput.1, (HTU2.out).trans hput.2 fun _ _ h => h⟩
        clear hput
        go_wp2
        go_roundw
        case rel => exact ⟨k + 1, by omega, by go_num, HF.out⟩
        case measure => simp [intOf]; omega
      · obtain rfl : k = R := by omega
        obtain ⟨c0, c1, c2, c3, c4, c5, c6⟩ := HTR.out.cells
        obtain ⟨t0, t1, t2, t3, t4, t5, t6⟩ := HT.out.cells
        clear HTR HT HGT HKI HDG
        go_wp2
        exact bodyPost_ret (v := .agg #[.int .i64 k, .int .i64 (S k).1, .int .i64 (S k).2]) (by simp [results, Tryz.results42, go_sem, *]) rfl ⟨rfl, ((HBR.out.setCell (p := ⟨w.heap.size, 0, none⟩) (Nat.le_refl _) _).setCell (p := ⟨w.heap.size, 1, none⟩) (Nat.le_refl _) _).setCell (p := ⟨w.heap.size, 2, none⟩) (Nat.le_refl _) _⟩
theorem lword_any (x y r : Int) (w : World) : Calls Tryz.prog 14 #[.int .i64 x, .int .i64 y, .int .i64 r] w fun e w' => e = .returned (.int .u64 (ofW (r % 13) (someE x y (r % 13).toNat) : Nat)) ∧ Below w.heap.size w w' := by
  have HS := Lib.hid (some_any x y r)
  have HWD := Lib.hid (word_any (r % 13) (someE x y (r % 13).toNat))
  generalize someE x y (r % 13).toNat = z at *
  generalize r % 13 = R at *
  simp only [vC] at *
  generalize ofW R z = v at *
  generalize ofE R z = v2 at *
  go_enter Tryz.func14, Tryz.ntmps14
  go_wp2_with fail
  refine (HS.out _).mono ?_
  rintro e w1 ⟨rfl, hb1⟩
  go_wp2_with fail
  refine (HWD.out _).mono ?_
  rintro e w2 ⟨rfl, hb2⟩
  have HQ : Hid (Below w.heap.size w w2) := hb1.trans (hb2.mono hb1.size)
  clear hb1 hb2
  go_wp2
  exact bodyPost_ret (v := .int .u64 v) (by simp [results, Tryz.results14, go_sem]) rfl ⟨rfl, HQ.out⟩
end Go.Proofs.YtkjfdaleamonaaaGreat
/- The contract of apiaryref1.IsWord. -/
namespace Go.Proofs.YtkjfdaleamonaaaGreat
open Go.RowKit Go.Lib Wd

theorem isw_any (w0 : Nat) (hw : w0 < 18446744073709551616) (w : World) : Calls Tryz.prog 22 #[.int .u64 w0] w fun e w' => e = .returned (.bool (isW w0)) ∧ Below w.heap.size w w' := by
  have HC := Lib.hid (rcell_any w0 hw)
  have HE : Hid ((cvE w0 == 0) = isW w0) := by
    show _ = _
    unfold cvE
    cases isW w0 <;> rfl
  simp only [vC] at HC
  generalize cvR w0 = r at *
  generalize cvZ w0 = z at *
  generalize cvE w0 = e0 at *
  go_enter Tryz.func22, Tryz.ntmps22
  go_wp2_with fail
  refine (HC.out _).mono ?_
  rintro e w1 ⟨rfl, hb⟩
  have HB := Lib.hid hb
  have hz := hb.size
  clear hb
  go_wp2
  go_ret
  exact ⟨by rw [← HE.out]; rfl, HB.out.alloc hz _⟩
end Go.Proofs.YtkjfdaleamonaaaGreat
/- Contracts of cells.told, side, Meet, Minus. -/
namespace Go.Proofs.YtkjfdaleamonaaaGreat
open Go.RowKit Go.Lib Go.Sort

/-- An answer that may be too long. -/
def toldF (l : List Int) : List Int := if 20000 < l.length then [] else l
def toldE (l : List Int) : Int := if 20000 < l.length then 7 else 0
def Told (w : World) (l : List Int) (e : Ending) (w' : World) : Prop :=
  ∃ ao c, e = .returned (.tuple #[.slice ao (toldF l).length c, .int .i64 (toldE l)]) ∧ WordsAt w' w'.heap.size ao (toldF l) ∧ Below w.heap.size w w' ∧ (ao = none → c = 0)
set_option maxHeartbeats 400000 in
theorem told_any (ao : Option Addr) (c : Nat) (l : List Int) (w : World) (h : WordsAt w w.heap.size ao l) (hn : l.length ≤ 1000000000) (zc : ao = none → c = 0) :
    Calls Tryz.prog 73 #[.slice ao l.length c] w (Told w l) := by
  by_cases h2 : 20000 < l.length
  · have HT : Hid (Told w l (.returned (.tuple #[.slice none 0 0, .int .i64 7])) w) := ⟨none, 0, by unfold toldF toldE; rw [if_pos h2, if_pos h2]; rfl, by unfold toldF; rw [if_pos h2]; exact fun h => by simp at h, Below.refl _ _, fun _ => rfl⟩
    clear zc
    go_enter Tryz.func73, Tryz.ntmps73
    go_wp2
    go_ret2
    exact HT.out
  · have HT : Hid (Told w l (.returned (.tuple #[.slice ao l.length c, .int .i64 0])) w) := ⟨ao, c, by unfold toldF toldE; rw [if_neg h2, if_neg h2], by unfold toldF; rw [if_neg h2]; exact h, Below.refl _ _, zc⟩
    clear zc
    go_enter Tryz.func73, Tryz.ntmps73
    go_wp2
    go_ret2
    exact HT.out

theorem uV_snoc (l : List Int) (x : Int) : uV (l ++ [x]) = uV l ++ [.int .u64 x] := by simp [uV]
theorem take_filter_succ (p : Int → Bool) (l : List Int) {k : Nat} (h : k < l.length) : (l.take (k + 1)).filter p = (l.take k).filter p ++ (if p (l.getD k 0) then [l.getD k 0] else []) := by
  rw [List.take_succ_eq_append_getElem h, List.filter_append]
  have : l.getD k 0 = l[k] := by rw [List.getD_eq_getElem?_getD, List.getElem?_eq_getElem h, Option.getD_some]
  rw [this]
  by_cases hp : p l[k] = true <;> simp [hp]
/-- What a side of two lists comes to. -/
def sideL (p : Int → Bool) (a b : List Int) : List Int := if 20000 < a.length ∨ 20000 < b.length then [] else (setF a).filter p
def sideE (a b : List Int) : Int := if 20000 < a.length ∨ 20000 < b.length then 7 else 0
def Side (w : World) (p : Int → Bool) (a b : List Int) (e : Ending) (w' : World) : Prop :=
  ∃ ao c, e = .returned (.tuple #[.slice ao (sideL p a b).length c, .int .i64 (sideE a b)]) ∧ WordsAt w' w'.heap.size ao (sideL p a b) ∧ Below w.heap.size w w' ∧ (ao = none → c = 0)
/-- A nil row of a call's own has no room. -/
theorem own_nil {w : World} {base n c size : Nat} {e : TypeId} {ao : Option Addr} {xs : List Value} (h : w.ownsRow base e size (.slice ao n c) n xs) : ao = none → c = 0 := fun h0 => by
  subst h0
  rcases h.2 with ⟨h1, _⟩ | ⟨g, cap, cur, hv, _⟩
  · cases h1; rfl
  · cases hv
theorem words_own {w : World} {base n c : Nat} {ao : Option Addr} {l : List Int} (hn : n = l.length) (h : w.ownsRow base 25 1 (.slice ao n c) n (uV l)) : WordsAt w w.heap.size ao l := fun h0 => by
  subst hn
  obtain ⟨ao', c', e, _, hh⟩ := own_form h
  cases e
  obtain ⟨g, rfl, _, hg, hc⟩ := hh h0
  exact ⟨g, 0, rfl, hg, fun i hi => by rw [hc (0 + i) _ (by rw [Nat.zero_add]; exact uV_get l i hi)]⟩

end Go.Proofs.YtkjfdaleamonaaaGreat
/- Contracts of the library's Grow (of nil) and Concat (of two) at []uint64. -/
namespace Go.Proofs.YtkjfdaleamonaaaGreat
open Go.RowKit Go.Lib Go.Sort

def Grew (w : World) (n : Nat) (e : Ending) (w' : World) : Prop :=
  ∃ g cap, e = .returned (.slice (some ⟨g, 0, none⟩) 0 cap) ∧ n ≤ cap ∧ w'.ownsRow w.heap.size 25 1 (.slice (some ⟨g, 0, none⟩) 0 cap) 0 [] ∧ Below w.heap.size w w'
set_option maxRecDepth 100000 in
set_option maxHeartbeats 1000000 in
theorem ugrow_any (n : Nat) (h0 : 0 < n) (hn : n ≤ 1000000000) (w : World) : Calls Tryz.prog 103 #[.slice none 0 0, .int .i64 n] w (Grew w n) := by
  obtain ⟨i0, hi, hz0, hz1, hz2⟩ := info_parts info_u
  go_enter Tryz.func103, Tryz.ntmps103
  go_wp2_with (at_builtin; refine Lib.wpList_append_run _ rfl _ _ _ _ rfl _ _ rfl rfl _ _ (Lib.run_append_nil_zeros _ 22 3 _ 25 i0 (.int .u64 0) .i64 .i64 Tryz.underlying22 Tryz.underlying3 hi hz0 n h0 (by omega) (by omega) (by rw [hz2]; omega)) ?_)
  go_ret
  have hge := grownCap_ge w n 0 25
  refine ⟨w.heap.size, _, rfl, hge, ⟨rfl, .inr ⟨w.heap.size, _, _, rfl, Nat.le_refl _, heap_new _ _ _ rfl, Nat.zero_le _, grownCap_le_maxLen w n 0 25 (by unfold maxLen; omega), ?_, by simp⟩⟩, ((Below.refl _ _).alloc (Nat.le_refl _) _).drew⟩
  simp [Builtin.zeroCells]
  omega

/-- Two lists, one behind the other. -/
def Joined (w : World) (l : List Int) (e : Ending) (w' : World) : Prop :=
  ∃ ao c, e = .returned (.slice ao l.length c) ∧ WordsAt w' w'.heap.size ao l ∧ Below w.heap.size w w' ∧ (ao = none → c = 0)
theorem words_news {w : World} {B : Nat} {ao : Option Addr} {l : List Int} (h : WordsAt w B ao l) : ∀ ad, ao = some ad → ∀ j u, (uV l)[j]? = some u → w.cell? (ad.add j) = some u := fun ad e j u hj => by
  have hjl : j < l.length := by have := (List.getElem?_eq_some_iff.1 hj).1; rwa [uV_len] at this
  obtain ⟨b, off, e2, _, hc⟩ := h (by omega)
  rw [e2] at e
  cases e
  rw [uV_get l j hjl] at hj
  cases hj
  have hadd : (⟨b, off, none⟩ : Addr).add j = ⟨b, off + j, none⟩ := by unfold Addr.add; split <;> simp_all
  rw [hadd]
  exact hc j hjl
set_option maxRecDepth 100000 in
set_option maxHeartbeats 2000000 in
theorem uconcat_any (g0 : Nat) (ao bo : Option Addr) (c d : Nat) (a b : List Int) (w : World) (hg0 : g0 < w.heap.size) (h0 : w.cell? ⟨g0, 0, none⟩ = some (.slice ao a.length c)) (h1 : w.cell? ⟨g0, 1, none⟩ = some (.slice bo b.length d))
    (ha : WordsAt w w.heap.size ao a) (hb : WordsAt w w.heap.size bo b) (za : ao = none → a.length = 0 ∧ c = 0) (zb : bo = none → b.length = 0 ∧ d = 0) (hna : a.length ≤ 100000000) (hnb : b.length ≤ 100000000) (hpos : 0 < a.length + b.length) :
    Calls Tryz.prog 74 #[.slice (some ⟨g0, 0, none⟩) 2 2] w (Joined w (a ++ b)) := by
  obtain ⟨i0, hi, hz0, hz1, hz2⟩ := info_parts info_u
  obtain ⟨na, ea⟩ : ∃ n, a.length = n := ⟨_, rfl⟩
  obtain ⟨nb, eb⟩ : ∃ n, b.length = n := ⟨_, rfl⟩
  have HNA := Lib.hid ea
  have HNB := Lib.hid eb
  rw [ea] at hna hpos h0 za
  rw [eb] at hnb hpos h1 zb
  have ZA := Lib.hid za
  have ZB := Lib.hid zb
  have HA := Lib.hid ha
  have HB := Lib.hid hb
  have H0 := Lib.hid h0
  have H1 := Lib.hid h1
  clear ea eb ha hb za zb
  go_enter Tryz.func74, Tryz.ntmps74
  go_wp2
  go_loop [3, 11] (fun s i => ∃ k : Nat, k ≤ 2 ∧ i = .int .i64 k ∧ s = .int .i64 ((if k = 0 then 0 else if k = 1 then na else na + nb : Nat) : Int)) (fun _ i => 2 - (intOf i).toNat)
  case atStart => exact ⟨0, by omega, rfl, rfl⟩
  case round =>
    obtain ⟨k, hk, rfl, rfl⟩ := hrel
    rcases (show k = 0 ∨ k = 1 ∨ k = 2 by omega) with rfl | rfl | rfl
    · simp only [if_true]
      go_wp2
      go_round
      case rel => exact ⟨1, by omega, by go_num, by simp⟩
      case measure => simp [intOf]
    · simp only [Nat.one_ne_zero, if_false, if_true]
      go_wp2
      go_round
      case rel => exact ⟨2, by omega, by go_num, by simp⟩
      case measure => simp [intOf]
    · have e2 : (if 2 = 0 then 0 else if 2 = 1 then na else na + nb : Nat) = na + nb := by simp
      rw [e2]
      clear e2
      have HG : Hid (Calls Tryz.prog 103 #[.slice none 0 0, .int .i64 ((na : Int) + (nb : Int))] w (Grew w (na + nb))) := by
        have := ugrow_any (na + nb) hpos (by omega) w
        rw [Int.natCast_add] at this
        exact this
      clear h0 h1
      go_wp2_with fail
      refine HG.out.mono ?_
      rintro e w1 ⟨g, cap, rfl, hcap, hown, hb1⟩
      have HO := Lib.hid hown
      have HB1 := Lib.hid hb1
      have hg1 : g0 < w1.heap.size := by have := hb1.size; omega
      have HAL : Hid (∀ wx, Below w.heap.size w wx → (wx.cell? ⟨g0, 0, none⟩ = some (.slice ao na c) ∧ wx.cell? ⟨g0, 1, none⟩ = some (.slice bo nb d) ∧ g0 < wx.heap.size) ∧ WordsAt wx w.heap.size ao a ∧ WordsAt wx w.heap.size bo b) := fun wx hx =>
        ⟨⟨(hx.cell (p := ⟨g0, 0, none⟩) hg0).trans H0.out, (hx.cell (p := ⟨g0, 1, none⟩) hg0).trans H1.out, by have := hx.size; omega⟩, HA.out.below hx (Nat.le_refl _), HB.out.below hx (Nat.le_refl _)⟩
      clear hown hb1
      go_wp2
      go_loopw [6, 27] (fun v i wr => ∃ k m : Nat, k ≤ 2 ∧ i = .int .i64 k ∧ v = .slice (some ⟨g, 0, none⟩) m cap ∧ Hid (m = ([[], a, a ++ b].getD k []).length) ∧ wr.ownsRow w.heap.size 25 1 (.slice (some ⟨g, 0, none⟩) m cap) m (uV ([[], a, a ++ b].getD k [])) ∧ Below w.heap.size w wr) (fun _ i _ => 2 - (intOf i).toNat)
      case atStart => exact ⟨0, 0, by omega, rfl, rfl, rfl, HO.out, HB1.out⟩
      case round =>
        obtain ⟨k, m, hk, rfl, rfl, HM, hown, hnx⟩ := hrel
        obtain ⟨⟨r0, r1, hgw⟩, hwa, hwb⟩ := HAL.out wr hnx
        have hsz := hnx.size
        have hgo : w.heap.size ≤ g := (hown.lt g rfl).1
        rcases (show k = 0 ∨ k = 1 ∨ k = 2 by omega) with rfl | rfl | rfl
        · have hm0 : m = 0 := HM.out
          subst hm0
          have hN := Lib.hid (words_news hwa)
          have hown' : wr.ownsRow w.heap.size 25 1 (.slice (some ⟨g, 0, none⟩) 0 cap) 0 [] := hown
          clear hwa hwb hown
          go_wp2_with (at_builtin; refine wpList_append_fits_any _ rfl (.tmp 31) (.tmp 32) 22 rfl w.heap.size 25 i0 1 Tryz.underlying22 hi hz1 g 0 cap [] rfl hown' ao na c (uV a) rfl (by rw [uV_len, HNA.out, Nat.mul_one]) ZA.out hN.out (uV_cell a) (by omega) ?_; intro w2 hown1 hgrow)
          simp only [Nat.zero_add, List.nil_append] at hown1
          go_roundw
          case rel => exact ⟨1, na, by omega, by go_num, by simp, by show na = a.length; rw [HNA.out], hown1, hnx.grown hgrow hsz (fun k hk => by cases hk; exact hgo)⟩
          case measure => simp [intOf]
        · have hm0 : m = na := by rw [HM.out]; exact HNA.out
          subst hm0
          have hN := Lib.hid (words_news hwb)
          have hown' : wr.ownsRow w.heap.size 25 1 (.slice (some ⟨g, 0, none⟩) m cap) m (uV a) := hown
          clear hwa hwb hown
          go_wp2_with (at_builtin; refine wpList_append_fits_any _ rfl (.tmp 31) (.tmp 32) 22 rfl w.heap.size 25 i0 1 Tryz.underlying22 hi hz1 g m cap (uV a) rfl hown' bo nb d (uV b) rfl (by rw [uV_len, HNB.out, Nat.mul_one]) ZB.out hN.out (uV_cell b) (by omega) ?_; intro w2 hown1 hgrow)
          have hab : uV a ++ uV b = uV (a ++ b) := by simp [uV]
          rw [hab] at hown1
          go_roundw
          case rel => exact ⟨2, m + nb, by omega, by go_num, by simp, by show m + nb = (a ++ b).length; rw [List.length_append, HNA.out, HNB.out], hown1, hnx.grown hgrow hsz (fun k hk => by cases hk; exact hgo)⟩
          case measure => simp [intOf]
        · have hm : m = (a ++ b).length := HM.out
          have hJ : Hid (Joined w (a ++ b) (.returned (.slice (some ⟨g, 0, none⟩) m cap)) wr) := by
            have hw := words_own hm hown
            rw [hm]
            exact ⟨_, _, rfl, hw, hnx, fun h => (by cases h)⟩
          clear hm hown hwa hwb
          go_wp2
          go_ret
          exact hJ.out
end Go.Proofs.YtkjfdaleamonaaaGreat
/- Contracts of cells.Union, apiaryref1.Same, apiarylaw7.awake. -/
namespace Go.Proofs.YtkjfdaleamonaaaGreat
open Go.RowKit Go.Lib Go.Sort

set_option maxRecDepth 100000 in
theorem ugrow_zero (w : World) : Calls Tryz.prog 103 #[.slice none 0 0, .int .i64 0] w fun e w' => e = .returned (.slice none 0 0) ∧ w = w' := by
  go_enter Tryz.func103, Tryz.ntmps103
  go_wp2
  go_ret
  exact ⟨rfl, rfl⟩
set_option maxRecDepth 100000 in
set_option maxHeartbeats 1000000 in
theorem uconcat_zero (g0 : Nat) (ao bo : Option Addr) (c d : Nat) (w : World) (h0 : w.cell? ⟨g0, 0, none⟩ = some (.slice ao 0 c)) (h1 : w.cell? ⟨g0, 1, none⟩ = some (.slice bo 0 d)) (za : ao = none → c = 0) (zb : bo = none → d = 0) :
    Calls Tryz.prog 74 #[.slice (some ⟨g0, 0, none⟩) 2 2] w (Joined w []) := by
  have hJ : Hid (Joined w [] (.returned (.slice none 0 0)) w) := ⟨none, 0, rfl, fun h => by simp at h, Below.refl _ _, fun _ => rfl⟩
  go_enter Tryz.func74, Tryz.ntmps74
  go_wp2
  go_loop [3, 11] (fun s i => ∃ k : Nat, k ≤ 2 ∧ i = .int .i64 k ∧ s = .int .i64 0) (fun _ i => 2 - (intOf i).toNat)
  case atStart => exact ⟨0, by omega, rfl, rfl⟩
  case round =>
    obtain ⟨k, hk, rfl, rfl⟩ := hrel
    rcases (show k = 0 ∨ k = 1 ∨ k = 2 by omega) with rfl | rfl | rfl
    · go_wp2
      go_round
      case rel => exact ⟨1, by omega, by go_num, rfl⟩
      case measure => simp [intOf]
    · go_wp2
      go_round
      case rel => exact ⟨2, by omega, by go_num, rfl⟩
      case measure => simp [intOf]
    · go_wp2_with fail
      refine (ugrow_zero _).mono ?_
      rintro e w1 ⟨rfl, rfl⟩
      go_wp2
      go_loop [6, 27] (fun v i => ∃ k : Nat, k ≤ 2 ∧ i = .int .i64 k ∧ v = .slice none 0 0) (fun _ i => 2 - (intOf i).toNat)
      case atStart => exact ⟨0, by omega, rfl, rfl⟩
      case round =>
        obtain ⟨k, hk, rfl, rfl⟩ := hrel
        rcases (show k = 0 ∨ k = 1 ∨ k = 2 by omega) with rfl | rfl | rfl
        · cases ao with
          | none =>
            obtain rfl := za rfl
            go_wp2
            go_round
            case rel => exact ⟨1, by omega, by go_num, rfl⟩
            case measure => simp [intOf]
          | some ad =>
            go_wp2
            go_round
            case rel => exact ⟨1, by omega, by go_num, rfl⟩
            case measure => simp [intOf]
        · cases bo with
          | none =>
            obtain rfl := zb rfl
            go_wp2
            go_round
            case rel => exact ⟨2, by omega, by go_num, rfl⟩
            case measure => simp [intOf]
          | some ad =>
            go_wp2
            go_round
            case rel => exact ⟨2, by omega, by go_num, rfl⟩
            case measure => simp [intOf]
        · go_wp2
          go_ret
          exact hJ.out

/-- What two lists have together. -/
def unionL (a b : List Int) : List Int := if 20000 < a.length ∨ 20000 < b.length then [] else toldF (setF (a ++ b))
def unionE (a b : List Int) : Int := if 20000 < a.length ∨ 20000 < b.length then 7 else toldE (setF (a ++ b))
def Union (w : World) (a b : List Int) (e : Ending) (w' : World) : Prop :=
  ∃ ao c, e = .returned (.tuple #[.slice ao (unionL a b).length c, .int .i64 (unionE a b)]) ∧ WordsAt w' w'.heap.size ao (unionL a b) ∧ Below w.heap.size w w' ∧ (ao = none → c = 0)
set_option maxRecDepth 100000 in
set_option maxHeartbeats 2000000 in
theorem same_any (ao bo : Option Addr) (c d : Nat) (a b : List Int) (w : World) (B C : Nat) (ha : WordsAt w B ao a) (hb : WordsAt w C bo b) (hna : a.length ≤ 1000000000) :
    Calls Tryz.prog 24 #[.slice ao a.length c, .slice bo b.length d] w fun e w' => e = .returned (.bool (decide (a = b))) ∧ Below w.heap.size w w' := by
  obtain ⟨r, hr⟩ : ∃ r : Bool, decide (a = b) = r := ⟨_, rfl⟩
  rw [hr]
  by_cases hl : a.length = b.length
  · obtain ⟨n, hn⟩ : ∃ n, a.length = n := ⟨_, rfl⟩
    rw [← hl, hn]
    rw [hn] at hna
    have HA := Lib.hid ha
    have HB := Lib.hid hb
    have HN := Lib.hid hn
    have HL : Hid (b.length = n) := by show _ = _; rw [← hl, hn]
    have HR := Lib.hid hr
    have q0 : ((n : Int) != (n : Int)) = false := by simp
    clear ha hb hl hn hr
    go_enter Tryz.func24, Tryz.ntmps24
    go_wp2
    go_loopw [5] (fun i wr => ∃ k : Nat, k ≤ n ∧ i = .int .i64 k ∧ Hid (∀ j, j < k → a.getD j 0 = b.getD j 0) ∧ Below w.heap.size w wr ∧ Hid (∀ x, wr.cell? x = w.cell? x)) (fun i _ => n - (intOf i).toNat)
    case atStart => exact ⟨0, Nat.zero_le _, rfl, fun j hj => by omega, Below.refl _ _, fun x => rfl⟩
    case round =>
      obtain ⟨k, hk, rfl, HE, hnx, HCA⟩ := hrel
      by_cases hlt : k < n
      · obtain ⟨g, off, rfl, hg, hc⟩ := HA.out (by rw [HN.out]; omega)
        obtain ⟨g2, off2, rfl, hg2, hc2⟩ := HB.out (by rw [HL.out]; omega)
        have c0 := (HCA.out _).trans (hc k (by rw [HN.out]; exact hlt))
        have c1 := (HCA.out _).trans (hc2 k (by rw [HL.out]; exact hlt))
        have hg' := World.block_lt_of_cell? wr _ c0
        have hg2' := World.block_lt_of_cell? wr _ c1
        have HNO : Hid (a.getD k 0 ≠ b.getD k 0 → r = false) := fun h => by rw [← HR.out]; simp; intro e; exact h (by rw [e])
        have HYES : Hid (a.getD k 0 = b.getD k 0 → ∀ j, j < k + 1 → a.getD j 0 = b.getD j 0) := fun h j hj => by
          by_cases e : j = k
          · rw [e]; exact h
          · exact HE.out j (by omega)
        generalize a.getD k 0 = x at c0 HNO HYES
        generalize b.getD k 0 = y at c1 HNO HYES
        clear hc hc2
        dsimp only at hg' hg2'
        by_cases hxy : x = y
        · have hq : (x != y) = false := by simpa using hxy
          have HY := Lib.hid (HYES.out hxy)
          clear hxy HNO HYES
          go_wp2
          go_quiet (fail)
          go_wp2
          go_roundw
          case rel => exact ⟨k + 1, by omega, by go_num, HY.out, below_drewN hnx _, fun x => HCA.out x⟩
          case measure => simp [intOf]; omega
        · have hq : (x != y) = true := by simpa using hxy
          have HY := Lib.hid (HNO.out hxy)
          clear hxy HNO HYES
          go_wp2
          go_quiet (fail)
          go_wp2
          go_ret
          exact ⟨ret_bool HY.out.symm, below_drewN hnx _⟩
      · obtain rfl : k = n := by omega
        have HT : Hid (r = true) := by
          show _ = _
          rw [← HR.out]
          simp only [decide_eq_true_eq]
          refine List.ext_getElem (by rw [HN.out, HL.out]) fun i h1 h2 => ?_
          have := HE.out i (by rw [HN.out] at h1; exact h1)
          rwa [List.getD_eq_getElem?_getD, List.getD_eq_getElem?_getD, List.getElem?_eq_getElem h1, List.getElem?_eq_getElem h2, Option.getD_some, Option.getD_some] at this
        go_wp2
        go_ret
        exact ⟨ret_bool HT.out.symm, hnx⟩
  · have HF : Hid (r = false) := by show _ = _; rw [← hr]; simp; intro e; exact hl (by rw [e])
    have q0 : ((a.length : Int) != (b.length : Int)) = true := by simp; omega
    clear hr ha hb
    go_enter Tryz.func24, Tryz.ntmps24
    go_wp2
    go_ret
    exact ⟨ret_bool HF.out.symm, Below.refl _ _⟩

theorem Told.of {w : World} {l : List Int} {e : Ending} {w' : World} (h : Told w l e w') : ∃ ao c, e = .returned (.tuple #[.slice ao (toldF l).length c, .int .i64 (toldE l)]) ∧ WordsAt w' w'.heap.size ao (toldF l) ∧ Below w.heap.size w w' ∧ (ao = none → c = 0) := h
set_option maxRecDepth 100000 in
set_option maxHeartbeats 2000000 in
theorem union_any (ao bo : Option Addr) (c d : Nat) (a b : List Int) (w : World) (ha : WordsAt w w.heap.size ao a) (hb : WordsAt w w.heap.size bo b) (za : ao = none → a.length = 0 ∧ c = 0) (zb : bo = none → b.length = 0 ∧ d = 0) (hna : a.length ≤ 1000000000) (hnb : b.length ≤ 1000000000) :
    Calls Tryz.prog 40 #[.slice ao a.length c, .slice bo b.length d] w (Union w a b) := by
  by_cases hbig : 20000 < a.length ∨ 20000 < b.length
  · have HT : Hid (Union w a b (.returned (.tuple #[.slice none 0 0, .int .i64 7])) w) :=
      ⟨none, 0, by unfold unionL unionE; rw [if_pos hbig, if_pos hbig]; rfl, by unfold unionL; rw [if_pos hbig]; exact fun h => by simp at h, Below.refl _ _, fun _ => rfl⟩
    by_cases h1 : 20000 < a.length
    · have q1 : decide (20000 < (a.length : Int)) = true := by simp; omega
      clear hbig
      go_enter Tryz.func40, Tryz.ntmps40
      go_wp2_with fail
      go_ret2
      exact HT.out
    · have q1 : decide (20000 < (a.length : Int)) = false := by simp; omega
      have q2 : decide (20000 < (b.length : Int)) = true := by simp; omega
      clear hbig
      go_enter Tryz.func40, Tryz.ntmps40
      go_wp2_with fail
      go_ret2
      exact HT.out
  · have q1 : decide (20000 < (a.length : Int)) = false := by simp; omega
    have q2 : decide (20000 < (b.length : Int)) = false := by simp; omega
    have HL : Hid (unionL a b = toldF (setF (a ++ b)) ∧ unionE a b = toldE (setF (a ++ b))) := ⟨by unfold unionL; rw [if_neg hbig], by unfold unionE; rw [if_neg hbig]⟩
    have HCON : Hid (Calls Tryz.prog 74 #[.slice (some ⟨w.heap.size, 0, none⟩) 2 2] (w.alloc (.cells #[.slice ao a.length c, .slice bo b.length d] 22)) (Joined (w.alloc (.cells #[.slice ao a.length c, .slice bo b.length d] 22)) (a ++ b))) := by
      have hb0 : Below w.heap.size w (w.alloc (.cells #[.slice ao a.length c, .slice bo b.length d] 22)) := (Below.refl _ _).alloc (Nat.le_refl _) _
      have h0 : (w.alloc (.cells #[.slice ao a.length c, .slice bo b.length d] 22)).cell? ⟨w.heap.size, 0, none⟩ = some (.slice ao a.length c) := by rw [cell_of_row _ _ _ _ _ _ (heap_new _ _ _ rfl)]; rfl
      have h1 : (w.alloc (.cells #[.slice ao a.length c, .slice bo b.length d] 22)).cell? ⟨w.heap.size, 1, none⟩ = some (.slice bo b.length d) := by rw [cell_of_row _ _ _ _ _ _ (heap_new _ _ _ rfl)]; rfl
      by_cases hp : 0 < a.length + b.length
      · exact uconcat_any w.heap.size ao bo c d a b _ (by simp) h0 h1 ((ha.below hb0 (Nat.le_refl _)).wider hb0.size) ((hb.below hb0 (Nat.le_refl _)).wider hb0.size) za zb (by omega) (by omega) hp
      · obtain rfl : a = [] := List.eq_nil_of_length_eq_zero (by omega)
        obtain rfl : b = [] := List.eq_nil_of_length_eq_zero (by omega)
        exact uconcat_zero w.heap.size ao bo c d _ h0 h1 (fun e => (za e).2) (fun e => (zb e).2)
    have hlab : (a ++ b).length ≤ 40000 := by rw [List.length_append]; omega
    clear hbig ha hb za zb hna hnb
    obtain ⟨l, hl⟩ : ∃ l, a ++ b = l := ⟨_, rfl⟩
    rw [hl] at HCON HL hlab
    obtain ⟨na, hna⟩ : ∃ n, a.length = n := ⟨_, rfl⟩
    obtain ⟨nb, hnb⟩ : ∃ n, b.length = n := ⟨_, rfl⟩
    rw [hna] at HCON q1 ⊢
    rw [hnb] at HCON q2 ⊢
    clear hna hnb hl
    go_enter Tryz.func40, Tryz.ntmps40
    go_wp2_with fail
    refine HCON.out.mono ?_
    rintro e w1 ⟨lo, lc, rfl, hwl, hb1, -⟩
    have HB1 : Hid (Below w.heap.size w w1) := below_alloc hb1
    have HS := Lib.hid (uset_any lo lc l w1 _ hwl (by omega))
    clear hb1 hwl
    go_wp2_with fail
    refine HS.out.mono ?_
    rintro e w2 ⟨so, sc, rfl, hzs, hws, hb2⟩
    have HB2 := Lib.hid (below_later HB1.out HB1.out.size hb2)
    have HTD := Lib.hid (told_any so sc (setF l) w2 hws (by have := setF_length l; omega) hzs)
    clear hb2 hws hzs
    go_wp2_with fail
    refine HTD.out.mono ?_
    rintro e w3 ht
    obtain ⟨ro, rc, rfl, hwr, hb3, hz3⟩ := ht.of
    have HP : Hid (Union w a b (.returned (.tuple #[.slice ro (toldF (setF l)).length rc, .int .i64 (toldE (setF l))])) w3) := ⟨ro, rc, by rw [HL.out.1, HL.out.2], by rw [HL.out.1]; exact hwr, below_later HB2.out HB2.out.size hb3, hz3⟩
    clear ht hwr hb3 hz3
    go_wp2
    go_ret2
    exact HP.out
end Go.Proofs.YtkjfdaleamonaaaGreat
/- Contract of apiarylaw7.awake. -/
namespace Go.Proofs.YtkjfdaleamonaaaGreat
open Go.RowKit Go.Lib Go.Sort

theorem words_new (w : World) (l : List Int) (t : TypeId) : WordsAt (w.alloc (.cells (uV l).toArray t)) (w.heap.size + 1) (some ⟨w.heap.size, 0, none⟩) l := fun _ =>
  ⟨w.heap.size, 0, rfl, by omega, fun i hi => by
    rw [cell_of_row _ _ _ _ _ _ (heap_new _ _ _ rfl)]
    rw [Nat.zero_add, List.getElem?_toArray]
    exact uV_get l i hi⟩
theorem aw1 : setF [3, 1, 3] = [1, 3] := (setF_up _).ext (by simp [Up]) fun x => by rw [setF_mem]; simp; omega
theorem aw2 : unionL [2] [1] = [1, 2] := by
  have h : setF ([2] ++ [1]) = [1, 2] := (setF_up _).ext (by simp [Up]) fun x => by rw [setF_mem]; simp; omega
  unfold unionL toldF; rw [h]; rfl
theorem aw3 : unionE [2] [1] = 0 := by
  have h : setF ([2] ++ [1]) = [1, 2] := (setF_up _).ext (by simp [Up]) fun x => by rw [setF_mem]; simp; omega
  unfold unionE toldE; rw [h]; rfl
def Aw1 (w : World) (e : Ending) (w' : World) : Prop := ∃ ao c, e = .returned (.slice ao 2 c) ∧ WordsAt w' w'.heap.size ao [1, 3] ∧ Below w.heap.size w w'
def Aw2 (w : World) (e : Ending) (w' : World) : Prop := ∃ ao c, e = .returned (.tuple #[.slice ao 2 c, .int .i64 0]) ∧ WordsAt w' w'.heap.size ao [1, 2] ∧ Below w.heap.size w w'
set_option maxRecDepth 100000 in
set_option maxHeartbeats 4000000 in
theorem awake7_any (w : World) : Calls Tryz.prog 13 #[] w fun e w' => e = .returned (.bool true) ∧ Below w.heap.size w w' := by
  have H1 : Hid (Calls Tryz.prog 39 #[.slice (some ⟨w.heap.size, 0, none⟩) 3 3] (w.alloc (.cells #[.int .u64 3, .int .u64 1, .int .u64 3] 25)) (Aw1 w)) := by
    refine (uset_any (some ⟨w.heap.size, 0, none⟩) 3 [3, 1, 3] _ _ (words_new w [3, 1, 3] 25) (by decide)).mono ?_
    rintro e w' ⟨ao, c, rfl, _, h, hb⟩
    rw [aw1] at h ⊢
    exact ⟨ao, c, rfl, h, below_alloc hb⟩
  have H2 : Hid (∀ w1 : World, Calls Tryz.prog 40 #[.slice (some ⟨w1.heap.size, 0, none⟩) 1 1, .slice (some ⟨w1.heap.size + 1, 0, none⟩) 1 1] ((w1.alloc (.cells #[.int .u64 2] 25)).alloc (.cells #[.int .u64 1] 25)) (Aw2 w1)) := fun w1 => by
    have hb0 : Below (w1.heap.size + 1) (w1.alloc (.cells #[.int .u64 2] 25)) ((w1.alloc (.cells #[.int .u64 2] 25)).alloc (.cells #[.int .u64 1] 25)) := (Below.refl _ _).alloc (by simp) _
    refine (union_any (some ⟨w1.heap.size, 0, none⟩) (some ⟨w1.heap.size + 1, 0, none⟩) 1 1 [2] [1] _ (((words_new w1 [2] 25).below hb0 (Nat.le_refl _)).wider (by simp)) ((by have h := words_new (w1.alloc (.cells #[.int .u64 2] 25)) [1] 25; rw [World.size_alloc] at h; exact h.wider (by simp))) (by simp) (by simp) (by decide) (by decide)).mono ?_
    rintro e w' ⟨ao, c, rfl, h, hb, -⟩
    rw [aw2] at h ⊢
    rw [aw3]
    exact ⟨ao, c, rfl, h, below_alloc (below_alloc hb)⟩
  have H3 : Hid (∀ (ao : Option Addr) (c : Nat) (w1 : World), WordsAt w1 w1.heap.size ao [1, 2] → Calls Tryz.prog 24 #[.slice ao 2 c, .slice (some ⟨w1.heap.size, 0, none⟩) 2 2] (w1.alloc (.cells #[.int .u64 1, .int .u64 2] 25)) fun e w' => e = .returned (.bool true) ∧ Below w1.heap.size w1 w') := fun ao c w1 h => by
    have hb0 : Below w1.heap.size w1 (w1.alloc (.cells #[.int .u64 1, .int .u64 2] 25)) := (Below.refl _ _).alloc (Nat.le_refl _) _
    refine (same_any ao (some ⟨w1.heap.size, 0, none⟩) c 2 [1, 2] [1, 2] _ _ _ (h.below hb0 (Nat.le_refl _)) (words_new w1 [1, 2] 25) (by decide)).mono ?_
    rintro e w' ⟨rfl, hb⟩
    exact ⟨rfl, below_alloc hb⟩
  have H4 : Hid (∀ w1 : World, Calls Tryz.prog 41 #[.slice (some ⟨w1.heap.size, 0, none⟩) 2 2, .int .u64 1] (w1.alloc (.cells #[.int .u64 3, .int .u64 1] 25)) fun e w' => e = .returned (.bool true) ∧ Below w1.heap.size w1 w') := fun w1 => by
    refine (uhas_any (some ⟨w1.heap.size, 0, none⟩) 2 [3, 1] 1 _ _ (words_new w1 [3, 1] 25) (by decide)).mono ?_
    rintro e w' ⟨rfl, rfl⟩
    exact ⟨rfl, (Below.refl _ _).alloc (Nat.le_refl _) _⟩
  go_enter Tryz.func13, Tryz.ntmps13
  go_wp2_with fail
  refine H1.out.mono ?_
  rintro e w1 ⟨lo, lc, rfl, hl, hb1⟩
  have HL := Lib.hid hl
  clear hl
  go_wp2_with fail
  refine (H2.out _).mono ?_
  rintro e w2 ⟨uo, uc, rfl, hu, hb2⟩
  have HU := Lib.hid hu
  have HL2 := Lib.hid (HL.out.below hb2 (Nat.le_refl _))
  have hb3 := below_later hb1 hb1.size hb2
  clear hu hb1 hb2 HL
  obtain ⟨g, off, rfl, hg, hc⟩ := HL2.out (by decide)
  have c0 : w2.cell? ⟨g, off, none⟩ = some (.int .u64 1) := hc 0 (by decide)
  have c1 : w2.cell? ⟨g, off + 1, none⟩ = some (.int .u64 3) := hc 1 (by decide)
  have hg' := World.block_lt_of_cell? w2 _ c0
  dsimp only at hg'
  clear hc HL2
  go_wp2_with fail
  refine (H3.out _ _ _ HU.out).mono ?_
  rintro e w3 ⟨rfl, hb4⟩
  have hb5 := below_later hb3 hb3.size hb4
  clear hb3 hb4 HU c0 c1 hg'
  go_wp2_with fail
  refine (H4.out _).mono ?_
  rintro e w4 ⟨rfl, hb6⟩
  have hb7 := below_later hb5 hb5.size hb6
  clear hb5 hb6
  go_wp2
  go_ret
  exact ⟨rfl, hb7⟩
end Go.Proofs.YtkjfdaleamonaaaGreat
/- Lists of words that are handed on from call to call: contracts of package cells at entries of one world. -/
namespace Go.Proofs.YtkjfdaleamonaaaGreat
open Go.RowKit Go.Lib Go.Sort

theorem words_of_ints {w : World} {B n : Nat} {ao : Option Addr} {z : Nat → Int} (h : IntsAtK .u64 w B ao n z) : WordsAt w B ao ((List.range n).map z) := fun h0 => by
  obtain ⟨b, off, e, hlt, hc⟩ := h (by simpa using h0)
  refine ⟨b, off, e, hlt, fun i hi => ?_⟩
  have hi' : i < n := by simpa using hi
  rw [hc i hi', List.getD_eq_getElem?_getD, List.getElem?_map, List.getElem?_range hi']
  rfl

/-- A slice (address, length, room), a bound of its length and what it holds. -/
abbrev Ent := Option Addr × Nat × Nat × Nat × List Int
def EntOk (w : World) (ao : Option Addr) (n c z : Nat) (l : List Int) : Prop :=
  WordsAt w w.heap.size ao l ∧ l.length = n ∧ n ≤ z ∧ (ao = none → n = 0 ∧ c = 0)
/-- What all these slices hold in w. -/
def Env (w : World) (L : List Ent) : Prop := ∀ t ∈ L, EntOk w t.1 t.2.1 t.2.2.1 t.2.2.2.1 t.2.2.2.2
theorem Env.get {w : World} {L : List Ent} (h : Env w L) {ao : Option Addr} {n c z : Nat} {l : List Int} (hm : (ao, n, c, z, l) ∈ L) : EntOk w ao n c z l := h _ hm
theorem EntOk.later {w w' : World} {ao : Option Addr} {n c z : Nat} {l : List Int} (h : EntOk w ao n c z l) (hb : Below w.heap.size w w') : EntOk w' ao n c z l :=
  ⟨(h.1.below hb (Nat.le_refl _)).wider hb.size, h.2⟩
theorem Env.later {w w' : World} {L : List Ent} (h : Env w L) (hb : Below w.heap.size w w') : Env w' L := fun t ht => (h t ht).later hb
theorem Env.cons {w : World} {L : List Ent} (h : Env w L) {ao : Option Addr} {n c z : Nat} {l : List Int} (he : EntOk w ao n c z l) : Env w ((ao, n, c, z, l) :: L) := fun t ht => by
  rcases List.mem_cons.1 ht with rfl | ht
  · exact he
  · exact h t ht
theorem Env.nil (w : World) : Env w [] := fun t ht => by cases ht

def New (w : World) (L : List Ent) (z : Nat) (l : List Int) (e : Ending) (w' : World) : Prop :=
  ∃ ao n c err, e = .returned (.tuple #[.slice ao n c, .int .i64 err]) ∧ n = l.length ∧ Env w' ((ao, n, c, z, l) :: L) ∧ Below w.heap.size w w'
def New1 (w : World) (L : List Ent) (z : Nat) (l : List Int) (e : Ending) (w' : World) : Prop :=
  ∃ ao n c, e = .returned (.slice ao n c) ∧ n = l.length ∧ Env w' ((ao, n, c, z, l) :: L) ∧ Below w.heap.size w w'
theorem nil_both {w : World} {B : Nat} {ao : Option Addr} {c : Nat} {l : List Int} (h : WordsAt w B ao l) (hz : ao = none → c = 0) : ao = none → l.length = 0 ∧ c = 0 := fun e => by
  refine ⟨?_, hz e⟩
  rcases Nat.eq_zero_or_pos l.length with h0 | h0
  · exact h0
  · obtain ⟨b, off, e2, _⟩ := h h0
    rw [e] at e2; cases e2

theorem unionL_small {a b : List Int} (h : a.length + b.length ≤ 20000) : unionL a b = setF (a ++ b) := by
  have := setF_length (a ++ b)
  rw [List.length_append] at this
  unfold unionL toldF
  rw [if_neg (by omega), if_neg (by omega)]
theorem sideL_small {p : Int → Bool} {a b : List Int} (ha : a.length ≤ 20000) (hb : b.length ≤ 20000) : sideL p a b = (setF a).filter p := by
  unfold sideL
  rw [if_neg (by omega)]
theorem unionL_length {a b : List Int} : (unionL a b).length ≤ a.length + b.length := by
  have := setF_length (a ++ b)
  rw [List.length_append] at this
  unfold unionL toldF
  split
  · simp
  · split
    · simp
    · omega
theorem sideL_length (p : Int → Bool) (a b : List Int) : (sideL p a b).length ≤ a.length := by
  have h1 := List.length_filter_le p (setF a)
  have h2 := setF_length a
  unfold sideL
  split
  · simp
  · omega

theorem union_env {w : World} {L : List Ent} (H : Env w L) {ao bo : Option Addr} {n c m d y z : Nat} {a b : List Int} (ha : (ao, n, c, y, a) ∈ L) (hb : (bo, m, d, z, b) ∈ L) (hy : y + z ≤ 20000) :
    Calls Tryz.prog 40 #[.slice ao n c, .slice bo m d] w (New w L (y + z) (unionL a b)) := by
  obtain ⟨h1, rfl, h3, h4⟩ := H.get ha
  obtain ⟨k1, rfl, k3, k4⟩ := H.get hb
  refine (union_any ao bo c d a b w h1 k1 h4 k4 (by omega) (by omega)).mono ?_
  rintro e w' ⟨ro, rc, rfl, hw, hbl, hz⟩
  exact ⟨ro, _, rc, _, rfl, rfl, (H.later hbl).cons ⟨hw, rfl, by have := unionL_length (a := a) (b := b); omega, nil_both hw hz⟩, hbl⟩
theorem set_env {w : World} {L : List Ent} (H : Env w L) {ao : Option Addr} {n c y : Nat} {a : List Int} (ha : (ao, n, c, y, a) ∈ L) (hy : y ≤ 1000000) :
    Calls Tryz.prog 39 #[.slice ao n c] w (New1 w L y (setF a)) := by
  obtain ⟨h1, rfl, h3, h4⟩ := H.get ha
  refine (uset_any ao c a w _ h1 (by omega)).mono ?_
  rintro e w' ⟨ro, rc, rfl, hz, hw, hbl⟩
  exact ⟨ro, _, rc, rfl, rfl, (H.later hbl).cons ⟨hw, rfl, by have := setF_length a; omega, nil_both hw hz⟩, hbl⟩
theorem same_env {w : World} {L : List Ent} (H : Env w L) {ao bo : Option Addr} {n c m d y z : Nat} {a b : List Int} (ha : (ao, n, c, y, a) ∈ L) (hb : (bo, m, d, z, b) ∈ L) (hy : y ≤ 1000000) :
    Calls Tryz.prog 24 #[.slice ao n c, .slice bo m d] w fun e w' => e = .returned (.bool (decide (a = b))) ∧ Env w' L ∧ Below w.heap.size w w' := by
  obtain ⟨h1, rfl, h3, h4⟩ := H.get ha
  obtain ⟨k1, rfl, k3, k4⟩ := H.get hb
  refine (same_any ao bo c d a b w _ _ h1 k1 (by omega)).mono ?_
  rintro e w' ⟨rfl, hbl⟩
  exact ⟨rfl, H.later hbl, hbl⟩
end Go.Proofs.YtkjfdaleamonaaaGreat
/- Contract of apiaryref1.Set: each word is put where it belongs (binary search, append, copy); what comes out is setF. -/
namespace Go.Proofs.YtkjfdaleamonaaaGreat
open Go.RowKit Go.Lib Go.Sort

theorem take_one {l : List Int} {k : Nat} (h : k < l.length) : l.take (k + 1) = l.take k ++ [l.getD k 0] := by
  rw [List.take_succ_eq_append_getElem h, List.getD_eq_getElem?_getD, List.getElem?_eq_getElem h, Option.getD_some]
theorem setF_old {l : List Int} {k : Nat} (h : k < l.length) (hm : l.getD k 0 ∈ setF (l.take k)) : setF (l.take (k + 1)) = setF (l.take k) := by
  refine (setF_up _).ext (setF_up _) fun x => ?_
  rw [setF_mem, setF_mem, take_one h, List.mem_append, List.mem_singleton]
  rw [setF_mem] at hm
  constructor
  · rintro (h1 | rfl)
    · exact h1
    · exact hm
  · exact Or.inl
theorem setF_put {l s : List Int} {k lo : Nat} (h : k < l.length) (hs : setF (l.take k) = s) (h1 : ∀ j, j < lo → s.getD j 0 < l.getD k 0) (h2 : ∀ j, lo ≤ j → j < s.length → l.getD k 0 < s.getD j 0) :
    setF (l.take (k + 1)) = s.take lo ++ l.getD k 0 :: s.drop lo := by
  have hu : Up s := by rw [← hs]; exact setF_up _
  refine (setF_up _).ext ?_ fun x => ?_
  · refine List.pairwise_append.2 ⟨hu.take, List.pairwise_cons.2 ⟨fun y hy => ?_, hu.drop⟩, fun y hy z hz => ?_⟩
    · obtain ⟨j, hj, rfl⟩ := List.getElem_of_mem hy
      have hj' : lo + j < s.length := by simp at hj; omega
      have := h2 (lo + j) (by omega) hj'
      rw [List.getElem_drop]
      rwa [List.getD_eq_getElem?_getD (l := s), List.getElem?_eq_getElem hj', Option.getD_some] at this
    · have hy2 : y < l.getD k 0 := by
        obtain ⟨j, hj, rfl⟩ := List.getElem_of_mem hy
        have hj' : j < lo ∧ j < s.length := by simp at hj; omega
        have := h1 j hj'.1
        rw [List.getElem_take]
        rwa [List.getD_eq_getElem?_getD (l := s), List.getElem?_eq_getElem hj'.2, Option.getD_some] at this
      rcases List.mem_cons.1 hz with rfl | hz
      · exact hy2
      · obtain ⟨j, hj, rfl⟩ := List.getElem_of_mem hz
        have hj' : lo + j < s.length := by simp at hj; omega
        have := h2 (lo + j) (by omega) hj'
        rw [List.getElem_drop]
        rw [List.getD_eq_getElem?_getD (l := s), List.getElem?_eq_getElem hj', Option.getD_some] at this
        omega
  · rw [setF_mem, take_one h, List.mem_append, List.mem_singleton, List.mem_append, List.mem_cons, ← setF_mem (l.take k), hs]
    conv => lhs; rw [← List.take_append_drop lo s]
    rw [List.mem_append]
    constructor
    · rintro ((h | h) | h)
      · exact .inl h
      · exact .inr (.inr h)
      · exact .inr (.inl h)
    · rintro (h | h | h)
      · exact .inl (.inl h)
      · exact .inr h
      · exact .inl (.inr h)

/-- A row of a call's own, behind the cells from lo on moved by one and one put there. -/
theorem own_put {w : World} {base g cap m lo : Nat} {s : List Int} {x : Int} {cur : List Value} (hb : base ≤ g) (hl : s.length = m) (hlo : lo ≤ m) (hm : m + 1 ≤ cap) (hc : cap ≤ maxLen) (hcur : cur.length = cap) (htk : cur.take (m + 1) = uV s ++ [.int .u64 0])
    (h : w.heap[g]? = some (.cells (splice cur (lo + 1) (uV (s.drop lo))).toArray 25 (0, 0))) :
    (w.setCell ⟨g, lo, none⟩ (.int .u64 x)).ownsRow base 25 1 (.slice (some ⟨g, 0, none⟩) (m + 1) cap) (m + 1) (uV (s.take lo ++ x :: s.drop lo)) := by
  have hsz : (splice cur (lo + 1) (uV (s.drop lo))).length = cap := by rw [length_splice _ _ _ (by rw [uV_len, List.length_drop]; omega)]; exact hcur
  have hh : (w.setCell ⟨g, lo, none⟩ (.int .u64 x)).heap[g]? = some (.cells ((splice cur (lo + 1) (uV (s.drop lo))).toArray.setIfInBounds lo (.int .u64 x)) 25 (0, 0)) := by
    rw [setCell_eq]
    simp [mapBlock, Array.getElem?_modify, h, onCells]
  refine ⟨by rw [uV_len, List.length_append, List.length_cons, List.length_take, List.length_drop]; omega, .inr ⟨g, cap, _, rfl, hb, hh, hm, hc, by simpa using hsz, ?_⟩⟩
  have hs0 : cur.take lo = uV (s.take lo) := by
    have : (cur.take (m + 1)).take lo = (uV s ++ [Value.int .u64 0]).take lo := by rw [htk]
    rw [List.take_take, Nat.min_eq_left (by omega), List.take_append_of_le_length (by rw [uV_len]; omega)] at this
    rw [this]; simp [uV, List.map_take]
  apply List.ext_getElem?
  intro j
  rw [Nat.mul_one]
  by_cases hj : j < m + 1
  · rw [List.getElem?_take_of_lt hj, Array.getElem?_toList, Array.getElem?_setIfInBounds]
    by_cases e : lo = j
    · subst e
      rw [if_pos rfl, if_pos (by rw [List.size_toArray, hsz]; omega)]
      simp [uV, hl, hlo]
    · rw [if_neg e, List.getElem?_toArray]
      unfold splice
      have huv : uV (s.take lo ++ x :: s.drop lo) = uV (s.take lo) ++ .int .u64 x :: uV (s.drop lo) := by simp [uV]
      rw [huv]
      have h2 : (uV (s.take lo)).length = lo := by rw [uV_len, List.length_take]; omega
      rcases Nat.lt_or_gt_of_ne e with h3 | h3
      · have hA : (cur.take (lo + 1)).length = lo + 1 := by rw [List.length_take]; omega
        rw [List.getElem?_append_right (l₁ := cur.take (lo + 1)) (by rw [hA]; omega), hA, List.getElem?_append_right (l₁ := uV (s.take lo)) (by rw [h2]; omega), h2, List.getElem?_append_left (by rw [uV_len, List.length_drop]; omega)]
        obtain ⟨i, hi⟩ : ∃ i, j - lo = i + 1 := ⟨j - lo - 1, by omega⟩
        rw [hi, List.getElem?_cons_succ]
        congr 1
        omega
      · rw [List.getElem?_append_left (by rw [List.length_take]; omega), List.getElem?_append_left (by omega), List.getElem?_take_of_lt (by omega), ← hs0, List.getElem?_take_of_lt h3]
  · rw [List.getElem?_take_eq_none (by omega), List.getElem?_eq_none (by rw [uV_len, List.length_append, List.length_cons, List.length_take, List.length_drop]; omega)]

theorem cell_heap {X w : World} (h : X.heap = w.heap) (a : Addr) : X.cell? a = w.cell? a := World.cell?_of_block (by rw [h])
theorem words_heap {X w : World} (h : X.heap = w.heap) {B : Nat} {ao : Option Addr} {l : List Int} (hw : WordsAt w B ao l) : WordsAt X B ao l := fun h0 => by
  obtain ⟨b, off, e, hlt, hc⟩ := hw h0
  exact ⟨b, off, e, hlt, fun i hi => by rw [cell_heap h]; exact hc i hi⟩
theorem own_heap {X w : World} (h : X.heap = w.heap) {base n size : Nat} {e : TypeId} {v : Value} {xs : List Value} (ho : w.ownsRow base e size v n xs) : X.ownsRow base e size v n xs := by
  unfold World.ownsRow; rw [h]; exact ho

set_option maxRecDepth 100000 in
set_option maxHeartbeats 4000000 in
theorem rset_any (ao : Option Addr) (c : Nat) (l : List Int) (w : World) (h : WordsAt w w.heap.size ao l) (hn : l.length ≤ 1000000000) :
    Calls Tryz.prog 21 #[.slice ao l.length c] w (Joined w (setF l)) := by
  obtain ⟨i0, hi, hz0, hz1, hz2⟩ := info_parts info_u
  have hsz1 : (Tryz.prog.info? 25).map (·.size) = some 1 := by kernel_rfl
  obtain ⟨n, hnn⟩ : ∃ n, l.length = n := ⟨_, rfl⟩
  have HN := Lib.hid hnn
  have HW := Lib.hid h
  rw [hnn] at hn ⊢
  clear hnn h
  go_enter Tryz.func21, Tryz.ntmps21
  go_wp2
  go_loopw [3, 4] (fun v i wr => ∃ (k m : Nat), k ≤ n ∧ m ≤ k ∧ i = .int .i64 k ∧ Hid ((setF (l.take k)).length = m) ∧ wr.ownsRow w.heap.size 25 1 v m (uV (setF (l.take k))) ∧ Below w.heap.size w wr) (fun _ i _ => n - (intOf i).toNat)
  case atStart => exact ⟨0, 0, Nat.zero_le _, Nat.le_refl _, rfl, by show _ = _; rw [List.take_zero, setF_nil]; rfl, by rw [List.take_zero, setF_nil]; exact World.ownsRow_nil _ _ _ _, Below.refl _ _⟩
  case round =>
    obtain ⟨k, m, hk, hm, rfl, HM0, hown, hnx⟩ := hrel
    have hsz := hnx.size
    obtain ⟨s, hs⟩ : ∃ s, setF (l.take k) = s := ⟨_, rfl⟩
    have HM : Hid (s.length = m) := by show _ = _; rw [← hs]; exact HM0.out
    rw [hs] at hown
    have HUP : Hid (Rising s) := by show Rising s; rw [← hs]; exact (setF_up _).rising
    have HS := Lib.hid hs
    clear hs HM0
    obtain ⟨vo, vc, rfl, _, _⟩ := own_form hown
    have HWD := Lib.hid (words_own HM.out.symm hown)
    have HOWN := Lib.hid hown
    have HNX := Lib.hid hnx
    by_cases hlt : k < n
    · obtain ⟨b, off, rfl, hb, hc⟩ := (HW.out.below hnx (Nat.le_refl _)) (by rw [HN.out]; omega)
      have c0 := hc k (by rw [HN.out]; exact hlt)
      obtain ⟨x, hx⟩ : ∃ x, l.getD k 0 = x := ⟨_, rfl⟩
      rw [hx] at c0
      have HX := Lib.hid hx
      have hbw : b < wr.heap.size := by omega
      have KEEP : Hid (∀ X : World, X.heap = wr.heap → X.cell? ⟨b, off + k, none⟩ = some (.int .u64 x) ∧ b < X.heap.size ∧ WordsAt X X.heap.size vo s ∧ X.ownsRow w.heap.size 25 1 (.slice vo m vc) m (uV s)) := fun X hX => by
        refine ⟨?_, by rw [hX]; exact hbw, ?_, own_heap hX HOWN.out⟩
        · rw [cell_heap hX]; exact c0
        · have := words_heap hX HWD.out
          rwa [← hX] at this
      clear hc hx hown hnx c0 hbw HWD hsz
      obtain ⟨wo, hwo⟩ : ∃ wo : World, wo = wr := ⟨_, rfl⟩
      subst hwo
      go_wp2
      go_loopw [5, 6] (fun i j wr => ∃ lo hi : Nat, lo ≤ hi ∧ hi ≤ m ∧ i = .int .i64 lo ∧ j = .int .i64 hi ∧ Hid ((∀ k, k < lo → s.getD k 0 < x) ∧ ∀ k, hi ≤ k → k < m → x ≤ s.getD k 0) ∧ Hid (wr.heap = wo.heap) ∧ Below w.heap.size w wr) (fun i j _ => (intOf j).toNat - (intOf i).toNat)
      case atStart => exact ⟨0, m, Nat.zero_le _, Nat.le_refl _, rfl, rfl, ⟨fun k hk => by omega, fun k h1 h2 => by omega⟩, rfl, HNX.out⟩
      case round =>
        obtain ⟨lo, hi', h1, h2, rfl, rfl, HA, HH, hbx⟩ := hrel
        obtain ⟨c0, hbw, hwd, hown⟩ := KEEP.out wr HH.out
        have HWD := Lib.hid hwd
        have HOWN := Lib.hid hown
        have HBX := Lib.hid hbx
        have hsz := hbx.size
        clear hwd hown hbx
        by_cases hlt2 : lo < hi'
        · obtain ⟨g1, off1, rfl, hg1, hc1⟩ := HWD.out (by rw [HM.out]; omega)
          obtain ⟨t, ht⟩ : ∃ t, (lo + hi') / 2 = t := ⟨_, rfl⟩
          have hm1 : lo ≤ t := by omega
          have hm2 : t < hi' := by omega
          have hmI : ((lo : Int) + (hi' : Int)) / 2 = (t : Int) := by omega
          have c1 := hc1 t (by rw [HM.out]; omega)
          have HL1 : Hid (s.getD t 0 < x → ∀ k, k < t + 1 → s.getD k 0 < x) := fun e k hk => by
            have := HUP.out k t (by omega) (by rw [HM.out]; omega)
            omega
          have HL2 : Hid (¬ s.getD t 0 < x → ∀ k, t ≤ k → k < m → x ≤ s.getD k 0) := fun e k h3 h4 => by
            have := HUP.out t k h3 (by rw [HM.out]; exact h4)
            omega
          generalize s.getD t 0 = y at c1 HL1 HL2
          clear hc1 ht
          by_cases hyx : y < x
          · have HLL := Lib.hid (HL1.out hyx)
            clear HL1 HL2
            go_wp2_with (first | (with_reducible refine wp_region_lex (by kernel_rfl) (by kernel_rfl) ?_) | (with_reducible refine OnlyG.intro (by kernel_rfl) ?_))
            go_roundw
            case rel => exact ⟨t + 1, hi', by omega, h2, by go_num, rfl, ⟨HLL.out, HA.out.2⟩, HH.out, HBX.out.drew⟩
            case measure => simp [intOf]; omega
          · have HLL := Lib.hid (HL2.out hyx)
            clear HL1 HL2
            go_wp2_with (first | (with_reducible refine wp_region_lex (by kernel_rfl) (by kernel_rfl) ?_) | (with_reducible refine OnlyG.intro (by kernel_rfl) ?_))
            go_roundw
            case rel => exact ⟨lo, t, by omega, by omega, rfl, by go_num, ⟨HA.out.1, HLL.out⟩, HH.out, HBX.out.drew⟩
            case measure => simp [intOf]; omega
        · obtain rfl : lo = hi' := by omega
          by_cases hin : lo < m ∧ s.getD lo 0 = x
          · obtain ⟨g1, off1, rfl, hg1, hc1⟩ := HWD.out (by rw [HM.out]; omega)
            have c1 := hc1 lo (by rw [HM.out]; exact hin.1)
            obtain ⟨y, hy⟩ : ∃ y, s.getD lo 0 = y := ⟨_, rfl⟩
            have q1 : (y == x) = true := by rw [← hy]; simpa using hin.2
            rw [hy] at c1
            have HOLD : Hid (setF (l.take (k + 1)) = s) := by
              show _ = _
              rw [setF_old (by rw [HN.out]; exact hlt) (by rw [HS.out, HX.out, ← hin.2]; exact getD_mem (by rw [HM.out]; exact hin.1)), HS.out]
            have q0 : decide (lo < m) = true := by simpa using hin.1
            have hlm := hin.1
            clear hc1 hin hy
            go_wp2_with (first | (with_reducible refine wp_region_lex (by kernel_rfl) (by kernel_rfl) ?_) | (with_reducible refine OnlyG.intro (by kernel_rfl) ?_))
            go_roundw
            case rel => exact ⟨k + 1, m, by omega, by omega, by go_num, by show _ = _; rw [HOLD.out]; exact HM.out, by rw [HOLD.out]; exact HOWN.out, HBX.out.drew⟩
            case measure => simp [intOf]; omega
          · have HPUT : Hid (setF (l.take (k + 1)) = s.take lo ++ x :: s.drop lo) := by
              show _ = _
              rw [setF_put (by rw [HN.out]; exact hlt) HS.out (lo := lo) (by rw [HX.out]; exact HA.out.1) (by
                rw [HX.out]
                intro j h3 h4
                rw [HM.out] at h4
                have e1 := HA.out.2 j h3 h4
                have e2 := HUP.out lo j h3 (by rw [HM.out]; exact h4)
                have e3 := HA.out.2 lo (Nat.le_refl _) (by omega)
                by_cases e4 : s.getD lo 0 = x
                · exact absurd ⟨by omega, e4⟩ hin
                · omega), HX.out]
            have key : decide (lo < m) = false ∨ (lo < m ∧ decide (lo < m) = true ∧ ∃ g1 off1 y, vo = some ⟨g1, off1, none⟩ ∧ g1 < wr.heap.size ∧ wr.cell? ⟨g1, off1 + lo, none⟩ = some (.int .u64 y) ∧ (y == x) = false) := by
              by_cases e : lo < m
              · refine .inr ⟨e, by simpa using e, ?_⟩
                obtain ⟨g1, off1, rfl, hg1, hc1⟩ := HWD.out (by rw [HM.out]; omega)
                exact ⟨g1, off1, _, rfl, hg1, hc1 lo (by rw [HM.out]; exact e), by simpa using fun h => hin ⟨e, h⟩⟩
              · exact .inl (by simpa using e)
            clear hin hlt2
            rcases key with q0 | ⟨hlm, q0, g1, off1, y, rfl, hg1, c1, q1⟩
            all_goals
              have hown := HOWN.out
              go_upto_region 13 with (first | (with_reducible refine wp_region_lex (by kernel_rfl) (by kernel_rfl) ?_) | (with_reducible refine OnlyG.intro (by kernel_rfl) ?_) | (at_builtin; refine wpList_append_own _ rfl (.tmp 50) (.tmp 51) 22 rfl w.heap.size 25 i0 (.int .u64 0) 1 8 Tryz.underlying22 hi hz0 hz1 hz2 rfl (by decide) _ _ _ rfl (hown.alloc _) ⟨wr.heap.size, 0, none⟩ 1 1 [.int .u64 0] rfl rfl (cells_new _ _ _ _ rfl) (by simp [Value.oneCell']) (by unfold maxLen; omega) (by omega) (by simp; omega) ?_; intro v' w3 hown1 hgrow _))
              have hbel : Below w.heap.size w w3 := below_append (HBX.out.drew.alloc hsz _) (hown.alloc _) (by simp; omega) hgrow
              rcases hown1.2 with ⟨_, h0⟩ | ⟨g, cap, ⟨cur⟩, rfl, hbg, hheap, hcap, hmax, hcsz, htake⟩
              · omega
              obtain ⟨e, he⟩ : ∃ e, s.drop lo = e := ⟨_, rfl⟩
              have hdl : (uV e).length = m - lo := by rw [uV_len, ← he, List.length_drop, HM.out]
              have hmin : (uV e).length = Nat.min (m + 1 - lo) (m - lo) := by rw [hdl]; show _ = min _ _; omega
              have hfit : lo + 1 + (uV e).length ≤ cur.length := by rw [hdl]; have : cur.length = cap := by simpa using hcsz
                                                                    omega
              have HPOS : Hid (0 < (uV e).length → (if cap = lo + 1 then some (⟨g, 0, none⟩ : Addr) else some ⟨g, lo + 1, none⟩) = some ⟨g, lo + 1, none⟩ ∧ ∃ ad, some (⟨g, lo, none⟩ : Addr) = some ad ∧ ∀ j v, (uV e)[j]? = some v → w3.drew.cell? (ad.add j) = some v) := fun h0 => by
                refine ⟨by rw [if_neg (by omega)], _, rfl, fun j v hj => ?_⟩
                have hj' : j < (uV e).length := (List.getElem?_eq_some_iff.1 hj).1
                have hadd : (⟨g, lo, none⟩ : Addr).add j = ⟨g, lo + j, none⟩ := by unfold Addr.add; split <;> simp_all
                rw [hadd, cell_heap (X := w3.drew) (w := w3) rfl, hown1.cellAt (lo + j) (by omega), List.getElem?_append_left (by rw [uV_len, HM.out]; omega), ← hj, ← he]
                simp [uV]
              have HTK : Hid (cur.take (m + 1) = uV s ++ [.int .u64 0]) := by show _ = _; rw [← htake, Nat.mul_one]
              have HCL : Hid (cur.length = cap) := by show _ = _; simpa using hcsz
              have HDE := Lib.hid he
              have hheap' : w3.drew.heap[g]? = some (.cells cur.toArray 25 (0, 0)) := hheap
              have hbel' := hbel.drew
              have hw1 : IntKind.i64.wrap ((lo : Int) + 1) = (lo : Int) + 1 := IntWalk.i64_in _ (by omega)
              have hb1 : (lo : Int) + 1 ≤ (m : Int) + 1 := by omega
              have hb2 : (lo : Int) ≤ (m : Int) + 1 := by omega
              have hb0 : (0 : Int) ≤ (lo : Int) + 1 := by omega
              have hne : ¬ cap = lo := by omega
              clear htake hcsz hown1 hgrow hown he hdl
              go_region_law (refine step_copy_splice rfl (.tmp 56) (.tmp 59) 22 22 rfl 25 Tryz.underlying22 hsz1 (if cap = lo + 1 then some (⟨g, 0, none⟩ : Addr) else some ⟨g, lo + 1, none⟩) (some ⟨g, lo, none⟩) (m - lo) (cap - (lo + 1)) (m + 1 - lo) (cap - lo) (by simp [Act.eval, Act.put]) (by simp [Act.eval, Act.put]) g (lo + 1) cur 25 hheap' (uV e) hmin HPOS.out hfit (uV_cell _) w.heap.size w hbel' hbg ?_; intro w4 HG4 hb4)
              have hput := HG4.out
              have c4 : w4.cell? ⟨b, off + k, none⟩ = some (.int .u64 x) := (hb4.cell (p := ⟨b, off + k, none⟩) hb).trans ((HBX.out.cell (p := ⟨b, off + k, none⟩) hb).symm.trans c0)
              have hbw4 : b < w4.heap.size := by have := hb4.size; omega
              have hg4 : g < w4.heap.size := (Array.getElem?_eq_some_iff.1 hput).1
              have hsl : lo < (splice cur (lo + 1) (uV e)).length := by rw [length_splice _ _ _ hfit, HCL.out]; omega
              have c5 : w4.cell? ⟨g, lo, none⟩ = some (splice cur (lo + 1) (uV e))[lo] := by
                rw [cell_of_row _ _ _ _ _ _ hput, List.getElem?_toArray, List.getElem?_eq_getElem hsl]
              have hf5 : w4.frozen? ⟨g, lo, none⟩ = false := by simp [World.frozen?, hput]
              have HG5 := Lib.hid (hput)
              generalize (splice cur (lo + 1) (uV e))[lo] = y5 at c5
              have HB5 : Hid (Below w.heap.size w (w4.setCell ⟨g, lo, none⟩ (.int .u64 x))) := hb4.setCell hbg _
              have HOWN5 : Hid ((w4.setCell ⟨g, lo, none⟩ (.int .u64 x)).ownsRow w.heap.size 25 1 (.slice (some ⟨g, 0, none⟩) (m + 1) cap) (m + 1) (uV (setF (l.take (k + 1))))) := by
                have hh : w4.heap[g]? = some (.cells (splice cur (lo + 1) (uV (s.drop lo))).toArray 25 (0, 0)) := by rw [HDE.out]; exact hput
                have := own_put (x := x) hbg HM.out h2 hcap hmax HCL.out HTK.out hh
                rw [← HPUT.out] at this
                exact this
              have HLEN : Hid ((setF (l.take (k + 1))).length = m + 1) := by
                show _ = _
                rw [HPUT.out, List.length_append, List.length_cons, List.length_take, List.length_drop, HM.out]
                omega
              clear hput hb4 hsl hheap hheap' hbel hbel' hfit hmin
              go_wp2_with (first | (with_reducible refine wp_region_lex (by kernel_rfl) (by kernel_rfl) ?_) | (with_reducible refine OnlyG.intro (by kernel_rfl) ?_))
              go_roundw
              case rel => exact ⟨k + 1, m + 1, by omega, by omega, by go_num, HLEN.out, HOWN5.out, HB5.out⟩
              case measure => simp [intOf]; omega
    · obtain rfl : k = n := by omega
      have HT : Hid (s = setF l) := by show _ = _; rw [← HS.out, ← HN.out, List.take_length]
      have hwd := words_own HM.out.symm hown
      have hJ : Hid (Joined w (setF l) (.returned (.slice vo m vc)) wr) := ⟨vo, vc, by rw [← HT.out, HM.out], by rw [← HT.out]; exact hwd, hnx, own_nil hown⟩
      clear hwd hown hnx
      go_wp2
      go_ret
      exact hJ.out
end Go.Proofs.YtkjfdaleamonaaaGreat
/- More calls at entries of one world: with the error told; apiaryref1.Set and Has; append of words; two rows apart. -/
namespace Go.Proofs.YtkjfdaleamonaaaGreat
open Go.RowKit Go.Lib Go.Sort

def NewE (w : World) (L : List Ent) (z : Nat) (l : List Int) (err : Int) (e : Ending) (w' : World) : Prop :=
  ∃ ao n c, e = .returned (.tuple #[.slice ao n c, .int .i64 err]) ∧ Env w' ((ao, n, c, z, l) :: L) ∧ Below w.heap.size w w'
theorem union_err {w : World} {L : List Ent} (H : Env w L) {ao bo : Option Addr} {n c m d y z : Nat} {a b : List Int} (ha : (ao, n, c, y, a) ∈ L) (hb : (bo, m, d, z, b) ∈ L) (hy : y + z ≤ 1000000) :
    Calls Tryz.prog 40 #[.slice ao n c, .slice bo m d] w (NewE w L (y + z) (unionL a b) (unionE a b)) := by
  obtain ⟨h1, rfl, h3, h4⟩ := H.get ha
  obtain ⟨k1, rfl, k3, k4⟩ := H.get hb
  refine (union_any ao bo c d a b w h1 k1 h4 k4 (by omega) (by omega)).mono ?_
  rintro e w' ⟨ro, rc, rfl, hw, hbl, hz⟩
  exact ⟨ro, _, rc, rfl, (H.later hbl).cons ⟨hw, rfl, by have := unionL_length (a := a) (b := b); omega, nil_both hw hz⟩, hbl⟩
def NewS (w : World) (L : List Ent) (z : Nat) (l : List Int) (e : Ending) (w' : World) : Prop :=
  ∃ ao n c, e = .returned (.slice ao n c) ∧ Env w' ((ao, n, c, z, l) :: L) ∧ Below w.heap.size w w'
theorem rset_env {w : World} {L : List Ent} (H : Env w L) {ao : Option Addr} {n c y : Nat} {a : List Int} (ha : (ao, n, c, y, a) ∈ L) (hy : y ≤ 1000000) :
    Calls Tryz.prog 21 #[.slice ao n c] w (NewS w L y (setF a)) := by
  obtain ⟨h1, rfl, h3, h4⟩ := H.get ha
  refine (rset_any ao c a w h1 (by omega)).mono ?_
  rintro e w' ⟨ro, rc, rfl, hw, hbl, hz⟩
  exact ⟨ro, _, rc, rfl, (H.later hbl).cons ⟨hw, rfl, by have := setF_length a; omega, nil_both hw hz⟩, hbl⟩
theorem has_env {w : World} {L : List Ent} (H : Env w L) {ao : Option Addr} {n c y : Nat} {a : List Int} (x : Int) (ha : (ao, n, c, y, a) ∈ L) (hy : y ≤ 1000000) :
    Calls Tryz.prog 41 #[.slice ao n c, .int .u64 x] w fun e w' => e = .returned (.bool (hasF a x)) ∧ w = w' := by
  obtain ⟨h1, rfl, h3, h4⟩ := H.get ha
  exact uhas_any ao c a x w _ h1 (by omega)
theorem rhas_env {w : World} {L : List Ent} (H : Env w L) {ao : Option Addr} {n c y : Nat} {a : List Int} (x : Int) (ha : (ao, n, c, y, a) ∈ L) (hy : y ≤ 1000000) (hr : Rising a) :
    Calls Tryz.prog 33 #[.slice ao n c, .int .u64 x] w fun e w' => e = .returned (.bool (hasF a x)) ∧ w = w' := by
  obtain ⟨h1, rfl, h3, h4⟩ := H.get ha
  exact rhas_any ao c a x w _ h1 (by omega) hr
theorem same_true {w : World} {L : List Ent} (H : Env w L) {ao bo : Option Addr} {n c m d y z : Nat} {a b : List Int} (ha : (ao, n, c, y, a) ∈ L) (hb : (bo, m, d, z, b) ∈ L) (hy : y ≤ 1000000) (e : a = b) :
    Calls Tryz.prog 24 #[.slice ao n c, .slice bo m d] w fun e w' => e = .returned (.bool true) ∧ Env w' L ∧ Below w.heap.size w w' := by
  have h := same_env H ha hb hy
  rw [decide_eq_true e] at h
  exact h
/-- A row of a call's own as an entry. -/
theorem own_ent {w : World} {base n c z : Nat} {ao : Option Addr} {l : List Int} (hn : n = l.length) (hz : n ≤ z) (h : w.ownsRow base 25 1 (.slice ao n c) n (uV l)) : EntOk w ao n c z l :=
  ⟨words_own hn h, hn.symm, hz, by have := nil_both (words_own hn h) (own_nil h); rwa [← hn] at this⟩
/-- append of words that lie anywhere to a row of the call's own. -/
theorem append_words {w : World} {base n m c : Nat} {v : Value} {xs l : List Int} {ao : Option Addr} (hown : w.ownsRow base 25 1 v n (uV xs)) (hw : WordsAt w w.heap.size ao l) (hl : l.length = m) (hz : ao = none → m = 0 ∧ c = 0) (hb : base ≤ w.heap.size) (hn : n + m ≤ 1000000) :
    ∃ v' w', (Builtin.append_ #[22, 22] 22 #[v, .slice ao m c]).run Tryz.prog w = .ok v' w' ∧ w'.ownsRow base 25 1 v' (n + m) (uV (xs ++ l)) ∧ w.grownBy w' v.ownBlock := by
  obtain ⟨i0, hi, hz0, hz1, hz2⟩ := info_parts info_u
  have hu : uV (xs ++ l) = uV xs ++ uV l := by simp [uV]
  cases ao with
  | none =>
    obtain ⟨rfl, rfl⟩ := hz rfl
    obtain rfl : l = [] := List.eq_nil_of_length_eq_zero hl
    refine ⟨v, w, run_append_owned_none w base 22 22 25 i0 1 Tryz.underlying22 hi v n (uV xs) hown, by simpa using hown, ⟨rfl, rfl, rfl, Nat.le_refl _, fun _ _ _ => rfl⟩⟩
  | some ad =>
    obtain ⟨v', w', hr, h2, h3, _⟩ := run_append_own w base 22 22 25 i0 (.int .u64 0) 1 8 Tryz.underlying22 hi hz0 hz1 hz2 rfl (by decide) v n (uV xs) hown ad m c (uV l) (by rw [uV_len, hl, Nat.mul_one]) (words_news hw ad rfl) (uV_cell l) (by unfold maxLen; omega) (by omega) hb
    exact ⟨v', w', hr, by rw [hu]; exact h2, h3⟩
/-- append under a guard that is wanted, its run known. -/
theorem wpList_append_want {P : Program} (w : World) {ops : Array Oper} {rest : List Oper} {o : Oper} {a : Act} {Q : Exit → Act → World → Prop} (hgd : Region.wanted o (yielded ops a.tmps) = true) (s x : Operand) (t tn : TypeId)
    (ho : o.op = .call { callee := .builtin .append, args := #[s, x], argTypes := #[t, tn] }) (vs vx : Value) (hs : a.eval s = vs) (hx : a.eval x = vx)
    (v' : Value) (w' : World) (hr : (Builtin.append_ #[t, tn] o.type #[vs, vx]).run P w = .ok v' w') (h : wpList P ops Q rest (a.put o.dst v') w') : wpList P ops Q (o :: rest) a w := by
  unfold wpList
  rw [if_pos hgd]
  exact .inl (wp_append_run w s x t tn ho vs vx hs hx v' w' hr h)
/-- Two rows lie in blocks of their own. -/
def Apart (v u : Value) : Prop := ∀ k, v.ownBlock = some k → u.ownBlock ≠ some k
theorem Apart.symm {v u : Value} (h : Apart v u) : Apart u v := fun k h1 h2 => h k h2 h1
theorem Apart.ne {v u : Value} (h : Apart v u) : v.ownBlock = none ∨ v.ownBlock ≠ u.ownBlock := by
  cases e : v.ownBlock with
  | none => exact .inl rfl
  | some k => exact .inr fun e2 => h k e e2.symm
theorem _root_.Go.World.ownsRow.lt_size {w : World} {base : Nat} {e : TypeId} {size : Nat} {v : Value} {n : Nat} {xs : List Value} (h : w.ownsRow base e size v n xs) : ∀ k, v.ownBlock = some k → k < w.heap.size := fun k hk => (h.lt k hk).2
theorem Apart.step {v v' u : Value} {g : Nat} (h : Apart v u) (hv : v'.ownBlock = v.ownBlock ∨ v'.ownBlock = some g) (hu : ∀ k, u.ownBlock = some k → k < g) : Apart v' u := fun k h1 h2 => by
  rcases hv with e | e
  · exact h k (e.symm.trans h1) h2
  · have := hu k h2
    rw [e] at h1
    cases h1
    omega
end Go.Proofs.YtkjfdaleamonaaaGreat
