/- Joined: BmA, NcPn, CvI, NrA, NrB, NrC, NfI, NfW, NfFn, CvJ, FrA, MrA, WdL, WdJ, WdK, NfK, NfMn, NfPn, NfSn, NfTn, NrO, NsO, NtO, AwA, CvK, RbA, RcA: contracts and plain laws, each with its own heading below. -/
import Derived.Test.YtdbfimdcaacjhaaGreatPackAH
import Derived.Test.YtdbfimdcaacjhaaGreatPackAI
import Derived.Test.YtdbfimdcaacjhaaGreatPackAK
import Derived.Test.YtdbfimdcaacjhaaGreatPackAE
import Derived.Maps.AppendAt
import Derived.Test.YtdbfimdcaacjhaaGreatPackAF
import Derived.Test.YtdbfimdcaacjhaaGreatPackAC
import Derived.Deep.AppendSrc
import Derived.Test.YtdbfimdcaacjhaaGreatPackAD
import Derived.Lib.MinMax
import Derived.Laws.OwnMore
import Derived.Lib.AppendZeros
import Derived.Test.YtdbfimdcaacjhaaGreatPackAJ
/- Contracts of the reference's World (any numbers) and BoxMay. -/
namespace Go.Proofs.YtdbfimdcaacjhaaGreat
open Go.RowKit Go.Lib Wd

theorem rworld_any (x y : Int) (w : World) : Calls Tryz.prog 30 #[.int .i64 x, .int .i64 y] w fun e w' => e = .returned (.bool (worldB x y)) ∧ w' = w := by
  have HF : Hid (worldB x y = (decide (0 ≤ x) && decide (x < 1073741824) && (decide (0 ≤ y) && decide (y < 1073741824)))) := rfl
  obtain ⟨b, hb⟩ : ∃ b, worldB x y = b := ⟨_, rfl⟩
  rw [hb] at HF ⊢
  clear hb
  obtain ⟨b0, h0⟩ : ∃ b, decide (0 ≤ x) = b := ⟨_, rfl⟩
  obtain ⟨b1, h1⟩ : ∃ b, decide (x < 1073741824) = b := ⟨_, rfl⟩
  obtain ⟨b2, h2⟩ : ∃ b, decide (0 ≤ y) = b := ⟨_, rfl⟩
  obtain ⟨b3, h3⟩ : ∃ b, decide (y < 1073741824) = b := ⟨_, rfl⟩
  rw [h0, h1, h2, h3] at HF
  cases b0 <;> cases b1 <;> cases b2 <;> cases b3
  all_goals
    go_enter Tryz.func30, Tryz.ntmps30
    go_wp2
    go_ret
    exact ⟨ret_bool (by rw [HF.out]; rfl), rfl⟩
set_option maxRecDepth 100000 in
set_option maxHeartbeats 4000000 in
theorem bmay_any (lo hi : E2) (r : Int) (w : World) : Calls Tryz.prog 25 #[vE lo, vE hi, .int .i64 r] w fun e w' => e = .returned (.int .i64 (chE lo hi r)) ∧ Below w.heap.size w w' := by
  obtain ⟨l1, l2⟩ := lo
  obtain ⟨h1, h2⟩ := hi
  have HX : Hid (chE (l1, l2) (h1, h2) r = if r < 0 ∨ 12 < r then 1 else if worldB l1 l2 = true ∧ worldB h1 h2 = true then (if h1 < l1 ∨ h2 < l2 then 1 else 0) else 4) := rfl
  generalize chE (l1, l2) (h1, h2) r = X at *
  have HPL := Lib.hid (fun w => rworld_any l1 l2 w)
  have HPH := Lib.hid (fun w => rworld_any h1 h2 w)
  generalize worldB l1 l2 = p at *
  generalize worldB h1 h2 = q at *
  obtain ⟨w1, hw1⟩ : ∃ W, (w.alloc (.cells #[.int .i64 l1, .int .i64 l2] 30)).alloc (.cells #[.int .i64 h1, .int .i64 h2] 30) = W := ⟨_, rfl⟩
  have hb1 : Below w.heap.size w w1 := by rw [← hw1]; exact ((Below.refl _ _).alloc (Nat.le_refl _) _).alloc (by simp) _
  have hx : w1.heap[w.heap.size]? = some (.cells #[.int .i64 l1, .int .i64 l2] 30 (0, 0)) := by
    rw [← hw1, Below.heap_alloc _ _ _ (by simp)]; exact heap_new _ _ _ rfl
  have hy : w1.heap[w.heap.size + 1]? = some (.cells #[.int .i64 h1, .int .i64 h2] 30 (0, 0)) := by rw [← hw1]; exact heap_new _ _ _ (by simp)
  have a0 : w1.cell? ⟨w.heap.size, 0, none⟩ = some (.int .i64 l1) := cell_of_row w1 _ 0 _ _ _ hx
  have a1 : w1.cell? ⟨w.heap.size, 1, none⟩ = some (.int .i64 l2) := cell_of_row w1 _ 1 _ _ _ hx
  have b0 : w1.cell? ⟨w.heap.size + 1, 0, none⟩ = some (.int .i64 h1) := cell_of_row w1 _ 0 _ _ _ hy
  have b1 : w1.cell? ⟨w.heap.size + 1, 1, none⟩ = some (.int .i64 h2) := cell_of_row w1 _ 1 _ _ _ hy
  have s0 := (Array.getElem?_eq_some_iff.1 hx).1
  have s1 := (Array.getElem?_eq_some_iff.1 hy).1
  have HW1 := Lib.hid hw1
  have HB1 := Lib.hid hb1
  clear hw1 hb1 hx hy
  simp only [vE]
  by_cases c1 : r < 0
  · have HXX : Hid (X = 1) := by show _ = _; rw [HX.out, if_pos (.inl c1)]
    clear HX
    go_enter Tryz.func25, Tryz.ntmps25
    go_upto_region 1 with (fail)
    rw [HW1.out]
    go_wp2
    go_ret
    exact ⟨by rw [HXX.out]; rfl, HB1.out⟩
  by_cases c2 : 12 < r
  · have HXX : Hid (X = 1) := by show _ = _; rw [HX.out, if_pos (.inr c2)]
    clear HX
    go_enter Tryz.func25, Tryz.ntmps25
    go_upto_region 1 with (fail)
    rw [HW1.out]
    go_wp2
    go_ret
    exact ⟨by rw [HXX.out]; rfl, HB1.out⟩
  rw [if_neg (by omega)] at HX
  cases p with
  | false =>
    have HXX : Hid (X = 4) := by show _ = _; rw [HX.out, if_neg (by simp)]
    clear HX
    go_enter Tryz.func25, Tryz.ntmps25
    go_upto_region 1 with (fail)
    rw [HW1.out]
    go_wp2_with fail
    refine (HPL.out _).mono ?_
    rintro e w2 ⟨rfl, rfl⟩
    go_wp2
    go_ret
    exact ⟨by rw [HXX.out]; rfl, HB1.out⟩
  | true =>
    cases q with
    | false =>
      have HXX : Hid (X = 4) := by show _ = _; rw [HX.out, if_neg (by simp)]
      clear HX
      go_enter Tryz.func25, Tryz.ntmps25
      go_upto_region 1 with (fail)
      rw [HW1.out]
      go_wp2_with fail
      refine (HPL.out _).mono ?_
      rintro e w2 ⟨rfl, rfl⟩
      go_wp2_with fail
      refine (HPH.out _).mono ?_
      rintro e w2 ⟨rfl, rfl⟩
      go_wp2
      go_ret
      exact ⟨by rw [HXX.out]; rfl, HB1.out⟩
    | true =>
      rw [if_pos ⟨rfl, rfl⟩] at HX
      by_cases c3 : h1 < l1
      · have HXX : Hid (X = 1) := by show _ = _; rw [HX.out, if_pos (.inl c3)]
        clear HX
        go_enter Tryz.func25, Tryz.ntmps25
        go_upto_region 1 with (fail)
        rw [HW1.out]
        go_wp2_with fail
        refine (HPL.out _).mono ?_
        rintro e w2 ⟨rfl, rfl⟩
        go_wp2_with fail
        refine (HPH.out _).mono ?_
        rintro e w2 ⟨rfl, rfl⟩
        go_wp2
        go_ret
        exact ⟨by rw [HXX.out]; rfl, HB1.out⟩
      by_cases c4 : h2 < l2
      · have HXX : Hid (X = 1) := by show _ = _; rw [HX.out, if_pos (.inr c4)]
        clear HX
        go_enter Tryz.func25, Tryz.ntmps25
        go_upto_region 1 with (fail)
        rw [HW1.out]
        go_wp2_with fail
        refine (HPL.out _).mono ?_
        rintro e w2 ⟨rfl, rfl⟩
        go_wp2_with fail
        refine (HPH.out _).mono ?_
        rintro e w2 ⟨rfl, rfl⟩
        go_wp2
        go_ret
        exact ⟨by rw [HXX.out]; rfl, HB1.out⟩
      have HXX : Hid (X = 0) := by show _ = _; rw [HX.out, if_neg (by omega)]
      clear HX
      go_enter Tryz.func25, Tryz.ntmps25
      go_upto_region 1 with (fail)
      rw [HW1.out]
      go_wp2_with fail
      refine (HPL.out _).mono ?_
      rintro e w2 ⟨rfl, rfl⟩
      go_wp2_with fail
      refine (HPH.out _).mono ?_
      rintro e w2 ⟨rfl, rfl⟩
      go_wp2
      go_ret
      exact ⟨by rw [HXX.out]; rfl, HB1.out⟩
end Go.Proofs.YtdbfimdcaacjhaaGreat
/- Plain laws: a word's parent, its size; the first fault of a list; groups by parents; the words of children. -/
namespace Go.Proofs.YtdbfimdcaacjhaaGreat
open Go.RowKit Go.Lib Wd

/-- A word's parent, and the error; a word's size. -/
def parW (w : Nat) : Nat := if isW w = true ∧ rW w ≠ 0 then ofW ((rW w : Int) - 1) (upE (zW w)) else 0
def parE (w : Nat) : Int := if isW w = true then (if rW w = 0 then 3 else 0) else 5
def resW (w : Nat) : Int := if isW w = true then (rW w : Int) else -1
/-- The first fault of a list. -/
def chkF (r : Int) : List Int → Int
  | [] => 0
  | w :: l => if isW w.toNat = true then (if (rW w.toNat : Int) = r then chkF r l else 8) else 5
/-- Words by their parents: one step, all. -/
structure Gs where
  out : List (List Int)
  last : Int
  has : Bool
def gStep (s : Gs) (w : Int) : Gs :=
  if parE w.toNat = 5 then s
  else if parE w.toNat = 0 ∧ s.has = true ∧ (parW w.toNat : Int) = s.last then ⟨s.out.dropLast ++ [(s.out.getLast?.getD []) ++ [w]], s.last, s.has⟩
  else ⟨s.out ++ [[w]], parW w.toNat, decide (parE w.toNat = 0)⟩
def gAll (l : List Int) : Gs := l.foldl gStep ⟨[], 0, false⟩
def grpF (l : List Int) : List (List Int) := (gAll (setF l)).out
end Go.Proofs.YtdbfimdcaacjhaaGreat
/- Plain laws: how many cells a point has; a cell's parent near it; boxes in parts. -/
namespace Go.Proofs.YtdbfimdcaacjhaaGreat
open Go.RowKit Go.Lib Wd Cv

/-- Of three neighbours of one, two are no neighbours. -/
def isUnit (u : E2) : Bool := (List.range 6).any fun k => decide (u = unitE k)
end Go.Proofs.YtdbfimdcaacjhaaGreat
/- Contracts of near.walker: tell, step. -/
namespace Go.Proofs.YtdbfimdcaacjhaaGreat
open Go.RowKit Go.Lib Wd

/-- The words of those numbers that are cells. -/
def tellL (r : Int) (L : List E2) : List Int := (L.filter fun z => okB r z).map fun z => (wordN r.toNat z : Int)
theorem tellL_app (r : Int) (L M : List E2) : tellL r (L ++ M) = tellL r L ++ tellL r M := by unfold tellL; rw [List.filter_append, List.map_append]
theorem tellL_one (r : Int) (z : E2) : tellL r [z] = if okB r z = true then [(ofW r z : Int)] else [] := by
  unfold tellL ofW
  by_cases h : okB r z = true <;> simp [h]
/-- A walker's block: where it stands, and what it has told. -/
def Wkr (w : World) (g : Nat) (r : Int) (z : E2) (v : Value) (l : List Int) : Prop :=
  w.heap[g]? = some (.cells #[.int .i64 r, .int .i64 z.1, .int .i64 z.2, v] 156 (0, 0)) ∧ w.ownsRow (g + 1) 35 1 v l.length (uV l)
/-- What a walker's methods may turn: its block, and its row, which may move to a new one. -/
def Fr (g : Nat) (v v' : Value) (w w' : World) : Prop := Turn (fun q => q = g ∨ v.ownBlock = some q) w w' ∧ (v'.ownBlock = v.ownBlock ∨ ∃ q, w.heap.size ≤ q ∧ v'.ownBlock = some q)
/-- A walker's step. -/
def Walked (w : World) (g : Nat) (r : Int) (y : E2) (v : Value) (l : List Int) (e : Ending) (w' : World) : Prop := e = .returned (.tuple #[]) ∧ ∃ v', Wkr w' g r y v' l ∧ Fr g v v' w w'
end Go.Proofs.YtdbfimdcaacjhaaGreat
/- The contract of near.walker's ring. -/
namespace Go.Proofs.YtdbfimdcaacjhaaGreat
open Go.RowKit Go.Lib Wd

/-- So many steps one way. -/
def ptP (c u : E2) (j : Nat) : E2 := (c.1 + j * u.1, c.2 + j * u.2)
def lineP (c u : E2) (k : Nat) : List E2 := (List.range k).map fun j => ptP c u j
def corn (z : E2) (k : Nat) : Nat → E2
  | 0 => ptP z (unitE 4) k
  | s + 1 => ptP (corn z k s) (unitE s) k
def sidesP (z : E2) (k : Nat) : Nat → List E2
  | 0 => []
  | s + 1 => sidesP z k s ++ lineP (corn z k s) (unitE s) k
/-- The numbers so many steps away, in the walker's order. -/
def ringL (z : E2) (k : Nat) : List E2 := if k = 0 then [z] else sidesP z k 6
end Go.Proofs.YtdbfimdcaacjhaaGreat
/- Contracts of near.rings, Neighbours, Ring, Disk. -/
namespace Go.Proofs.YtdbfimdcaacjhaaGreat
open Go.RowKit Go.Lib Wd Go.Sort

def allR (z : E2) (f : Nat) : Nat → List E2
  | 0 => []
  | n + 1 => allR z f n ++ ringL z (f + n)
/-- Whether rings may be told: the error. -/
def rgsE (w0 : Nat) (t m : Int) : Int := if isW w0 = true then (if t < 0 then 1 else if m < t then 7 else 0) else 5
def rgsL (w0 f : Nat) (t m : Int) : List Int := if rgsE w0 t m = 0 then srt (tellL (rW w0) (allR (zW w0) f (t + 1 - f).toNat)) else []
/-- What is told: words in memory, and an error. -/
def Told (w : World) (L : List Int) (E : Int) (e : Ending) (w' : World) : Prop := ∃ ao c, e = .returned (.tuple #[.slice ao L.length c, .int .i64 E]) ∧ WordsAt w' w'.heap.size ao L ∧ Below w.heap.size w w'
end Go.Proofs.YtdbfimdcaacjhaaGreat
/- Rings and disks: which numbers they hold. Plain. -/
namespace Go.Proofs.YtdbfimdcaacjhaaGreat
open Go.RowKit Go.Lib Wd

theorem lineP_mem (c u y : E2) (k : Nat) : y ∈ lineP c u k ↔ ∃ j : Nat, j < k ∧ y = (c.1 + j * u.1, c.2 + j * u.2) := by
  unfold lineP
  rw [List.mem_map]
  constructor
  · rintro ⟨j, hj, rfl⟩; exact ⟨j, List.mem_range.1 hj, rfl⟩
  · rintro ⟨j, hj, rfl⟩; exact ⟨j, List.mem_range.2 hj, rfl⟩
theorem corn_at (z : E2) (k : Nat) : corn z k 0 = (z.1, z.2 - k) ∧ corn z k 1 = (z.1 + k, z.2 - k) ∧ corn z k 2 = (z.1 + k, z.2) ∧ corn z k 3 = (z.1, z.2 + k) ∧ corn z k 4 = (z.1 - k, z.2 + k) ∧ corn z k 5 = (z.1 - k, z.2) := by
  simp only [corn, ptP, unitE, Prod.mk.injEq]
  omega
/-- A ring's numbers are those so far away. -/
theorem ring_mem (z y : E2) (k : Nat) : y ∈ ringL z k ↔ Hex k (subE y z) ∧ ¬ Hex ((k : Int) - 1) (subE y z) := by
  obtain ⟨c0, c1, c2, c3, c4, c5⟩ := corn_at z k
  obtain ⟨a, b⟩ := y
  obtain ⟨p, q⟩ := z
  unfold ringL
  split
  · subst k
    unfold Hex subE
    simp only [List.mem_singleton, Prod.mk.injEq]
    omega
  · simp only [sidesP, List.nil_append, List.mem_append, lineP_mem, c0, c1, c2, c3, c4, c5, unitE, Prod.mk.injEq]
    unfold Hex subE
    simp only
    constructor
    · rintro (((((⟨j, h1, h2, h3⟩ | ⟨j, h1, h2, h3⟩) | ⟨j, h1, h2, h3⟩) | ⟨j, h1, h2, h3⟩) | ⟨j, h1, h2, h3⟩) | ⟨j, h1, h2, h3⟩) <;> omega
    · intro ⟨h1, h2⟩
      rcases (show (b - q = -k ∧ 0 ≤ a - p ∧ a - p < k) ∨ (a - p = k ∧ -k ≤ b - q ∧ b - q < 0) ∨ (a - p + (b - q) = k ∧ 0 ≤ b - q ∧ b - q < k) ∨ (b - q = k ∧ -k < a - p ∧ a - p ≤ 0) ∨ (a - p = -k ∧ 0 < b - q ∧ b - q ≤ k) ∨ (a - p + (b - q) = -k ∧ -k < b - q ∧ b - q ≤ 0) by omega) with h | h | h | h | h | h
      · exact .inl (.inl (.inl (.inl (.inl ⟨(a - p).toNat, by omega, by omega, by omega⟩))))
      · exact .inl (.inl (.inl (.inl (.inr ⟨(b - q + k).toNat, by omega, by omega, by omega⟩))))
      · exact .inl (.inl (.inl (.inr ⟨(b - q).toNat, by omega, by omega, by omega⟩)))
      · exact .inl (.inl (.inr ⟨(p - a).toNat, by omega, by omega, by omega⟩))
      · exact .inl (.inr ⟨(k - (b - q)).toNat, by omega, by omega, by omega⟩)
      · exact .inr ⟨(q - b).toNat, by omega, by omega, by omega⟩
end Go.Proofs.YtdbfimdcaacjhaaGreat
/- The contract of apiaryref1.IsWord. -/
namespace Go.Proofs.YtdbfimdcaacjhaaGreat
open Go.RowKit Go.Lib Wd

end Go.Proofs.YtdbfimdcaacjhaaGreat
/- Contract of apiarylaw6.awake; rings of cells that may be. -/
namespace Go.Proofs.YtdbfimdcaacjhaaGreat
open Go.RowKit Go.Lib Wd

theorem rgs_word {r : Nat} {z : E2} (h : okB r z = true) (f n : Nat) (t m : Int) (ht : 0 ≤ t) (hm : t ≤ m) (hn : (t + 1 - f).toNat = n) : rgsE (ofW r z) t m = 0 ∧ rgsL (ofW r z) f t m = srt (tellL r (allR z f n)) := by
  obtain ⟨h1, h2, h3⟩ := word_cell h
  rw [(ofW_ok h).1]
  have hE : rgsE (wordN r z) t m = 0 := by unfold rgsE; rw [if_pos h1, if_neg (by omega), if_neg (by omega)]
  refine ⟨hE, ?_⟩
  unfold rgsL
  rw [if_pos hE, h2, h3, hn]
end Go.Proofs.YtdbfimdcaacjhaaGreat
/- Plain laws: a cell, the box of its centre, and its neighbours. -/
namespace Go.Proofs.YtdbfimdcaacjhaaGreat
open Go.RowKit Go.Lib Wd Cv

end Go.Proofs.YtdbfimdcaacjhaaGreat
/- Plain laws of the reference's flood: words found and words to do. -/
namespace Go.Proofs.YtdbfimdcaacjhaaGreat
open Go.RowKit Go.Lib Wd Cv

def wF (R : Nat) (F : List E2) : List Int := F.map fun z => ((wordN R z : Nat) : Int)
theorem wF_length (R : Nat) (F : List E2) : (wF R F).length = F.length := by unfold wF; simp
theorem wF_mem {R : Nat} {F : List E2} {x : Int} : x ∈ wF R F ↔ ∃ z, z ∈ F ∧ x = (wordN R z : Nat) := by
  unfold wF
  rw [List.mem_map]
  exact ⟨fun ⟨z, h1, h2⟩ => ⟨z, h1, h2.symm⟩, fun ⟨z, h1, h2⟩ => ⟨z, h1, h2.symm⟩⟩
/-- The neighbours' words, of any cell that may be. -/
theorem nb_mem {R : Nat} {z : E2} (hz : okB R z = true) : (∀ x ∈ rgsL (wordN R z) 1 1 1, ∃ k, k < 6 ∧ okB R (addE z (unitE k)) = true ∧ x = (wordN R (addE z (unitE k)) : Nat)) ∧
    (∀ k, k < 6 → okB R (addE z (unitE k)) = true → ((wordN R (addE z (unitE k)) : Nat) : Int) ∈ rgsL (wordN R z) 1 1 1) ∧ (rgsL (wordN R z) 1 1 1).length ≤ 6 := by
  have h1 := rgs_word hz 1 1 1 1 (by omega) (by omega) (by omega)
  rw [(ofW_okF hz).1] at h1
  have e : allR z 1 1 = ringL z 1 := by show [] ++ ringL z (1 + 0) = _; rw [List.nil_append]
  rw [h1.2, e]
  have hm : ∀ y, y ∈ ringL z 1 ↔ ∃ k, k < 6 ∧ y = addE z (unitE k) := fun y => by
    rw [ring_mem]
    constructor
    · intro h
      have key : ∀ k, subE y z = unitE k → y = addE z (unitE k) := fun k e => by rw [← e]; unfold addE subE; ext <;> simp only <;> omega
      unfold Hex at h
      have hs : subE y z = (1, 0) ∨ subE y z = (0, 1) ∨ subE y z = (-1, 1) ∨ subE y z = (-1, 0) ∨ subE y z = (0, -1) ∨ subE y z = (1, -1) := by
        generalize subE y z = s at *
        obtain ⟨s1, s2⟩ := s
        simp only [Prod.mk.injEq] at h ⊢
        omega
      rcases hs with e | e | e | e | e | e
      · exact ⟨0, by omega, key 0 e⟩
      · exact ⟨1, by omega, key 1 e⟩
      · exact ⟨2, by omega, key 2 e⟩
      · exact ⟨3, by omega, key 3 e⟩
      · exact ⟨4, by omega, key 4 e⟩
      · exact ⟨5, by omega, key 5 e⟩
    · rintro ⟨k, hk, rfl⟩
      have e : subE (addE z (unitE k)) z = unitE k := by unfold addE subE; ext <;> simp only <;> omega
      rw [e]
      rcases (show k = 0 ∨ k = 1 ∨ k = 2 ∨ k = 3 ∨ k = 4 ∨ k = 5 by omega) with rfl | rfl | rfl | rfl | rfl | rfl <;> simp [Hex, unitE]
  refine ⟨fun x hx => ?_, fun k hk ho => ?_, ?_⟩
  · rw [srt_mem] at hx
    unfold tellL at hx
    obtain ⟨y, hy, rfl⟩ := List.mem_map.1 hx
    obtain ⟨h2, h3⟩ := List.mem_filter.1 hy
    obtain ⟨k, hk, rfl⟩ := (hm y).1 h2
    exact ⟨k, hk, by simpa using h3, by rw [Int.toNat_natCast]⟩
  · rw [srt_mem]
    unfold tellL
    exact List.mem_map.2 ⟨addE z (unitE k), List.mem_filter.2 ⟨(hm _).2 ⟨k, hk, rfl⟩, by simpa using ho⟩, by rw [Int.toNat_natCast]⟩
  · rw [srt_length]
    unfold tellL
    rw [List.length_map]
    exact Nat.le_trans (List.length_filter_le _ _) (Nat.le_of_eq rfl)
/-- Between two cells to do. -/
structure RInv (R : Nat) (lo hi z0 : E2) (F T : List E2) : Prop where
  nf : F.Nodup
  nt : T.Nodup
  m0 : z0 ∈ F
  good : ∀ z ∈ F, okB R z = true ∧ TouchP (hexC (12 - R) z) (triE lo) (triE hi)
  sub : ∀ t ∈ T, t ∈ F
  shut : ∀ z ∈ F, z ∉ T → ∀ k, k < 6 → TouchP (hexC (12 - R) (addE z (unitE k))) (triE lo) (triE hi) → addE z (unitE k) ∈ F
/-- Amid the neighbours of a cell; the first j of them have been looked at. -/
structure RMid (R : Nat) (lo hi z0 t : E2) (F T : List E2) (NL : List Int) (j : Nat) : Prop where
  nf : F.Nodup
  nt : T.Nodup
  m0 : z0 ∈ F
  good : ∀ z ∈ F, okB R z = true ∧ TouchP (hexC (12 - R) z) (triE lo) (triE hi)
  sub : ∀ t ∈ T, t ∈ F
  tf : t ∈ F
  tt : t ∉ T
  shut : ∀ z ∈ F, z ∉ T → z ≠ t → ∀ k, k < 6 → TouchP (hexC (12 - R) (addE z (unitE k))) (triE lo) (triE hi) → addE z (unitE k) ∈ F
  seen : ∀ i, i < j → ∀ y, okB R y = true → NL.getD i 0 = (wordN R y : Nat) → TouchP (hexC (12 - R) y) (triE lo) (triE hi) → y ∈ F
theorem RInv.start {R : Nat} {lo hi z0 : E2} (h1 : okB R z0 = true) (h2 : TouchP (hexC (12 - R) z0) (triE lo) (triE hi)) : RInv R lo hi z0 [z0] [z0] where
  nf := by simp
  nt := by simp
  m0 := by simp
  good := fun z hz => by rw [List.mem_singleton] at hz; subst hz; exact ⟨h1, h2⟩
  sub := fun t ht => ht
  shut := fun z hz hn => absurd hz hn
theorem RInv.pop {R : Nat} {lo hi z0 t : E2} {F T : List E2} (h : RInv R lo hi z0 F (t :: T)) (NL : List Int) : RMid R lo hi z0 t F T NL 0 where
  nf := h.nf
  nt := (List.nodup_cons.1 h.nt).2
  m0 := h.m0
  good := h.good
  sub := fun x hx => h.sub x (by simp [hx])
  tf := h.sub t (by simp)
  tt := (List.nodup_cons.1 h.nt).1
  shut := fun z hz hn hne => h.shut z hz (by simp [hne, hn])
  seen := fun i hi => absurd hi (Nat.not_lt_zero _)
theorem RMid.skip {R : Nat} {lo hi z0 t : E2} {F T : List E2} {NL : List Int} {j : Nat} (h : RMid R lo hi z0 t F T NL j) {y : E2} (hy : okB R y = true) (hw : NL.getD j 0 = (wordN R y : Nat))
    (hn : y ∈ F ∨ ¬ TouchP (hexC (12 - R) y) (triE lo) (triE hi)) : RMid R lo hi z0 t F T NL (j + 1) where
  nf := h.nf
  nt := h.nt
  m0 := h.m0
  good := h.good
  sub := h.sub
  tf := h.tf
  tt := h.tt
  shut := h.shut
  seen := fun i hi x hx hxw hxt => by
    by_cases e : i = j
    · subst e
      rw [hw] at hxw
      obtain rfl := (word_inj hy hx (by omega)).2
      exact hn.resolve_right fun h => h hxt
    · exact h.seen i (by omega) x hx hxw hxt
theorem RMid.add {R : Nat} {lo hi z0 t : E2} {F T : List E2} {NL : List Int} {j : Nat} (h : RMid R lo hi z0 t F T NL j) {y : E2} (hy : okB R y = true) (hw : NL.getD j 0 = (wordN R y : Nat))
    (hn : y ∉ F) (ht : TouchP (hexC (12 - R) y) (triE lo) (triE hi)) : RMid R lo hi z0 t (y :: F) (T ++ [y]) NL (j + 1) where
  nf := List.nodup_cons.2 ⟨hn, h.nf⟩
  nt := by
    rw [List.nodup_append]
    exact ⟨h.nt, by simp, fun a ha b hb e => by rw [List.mem_singleton] at hb; subst hb; subst e; exact hn (h.sub _ ha)⟩
  m0 := List.mem_cons_of_mem _ h.m0
  good := fun z hz => by
    rcases List.mem_cons.1 hz with rfl | hz
    · exact ⟨hy, ht⟩
    · exact h.good z hz
  sub := fun x hx => by
    rcases List.mem_append.1 hx with hx | hx
    · exact List.mem_cons_of_mem _ (h.sub x hx)
    · rw [List.mem_singleton] at hx; subst hx; simp
  tf := List.mem_cons_of_mem _ h.tf
  tt := fun hm => by
    rcases List.mem_append.1 hm with hm | hm
    · exact h.tt hm
    · rw [List.mem_singleton] at hm; subst hm; exact hn h.tf
  shut := fun z hz hzn hne k hk hkt => by
    rcases List.mem_cons.1 hz with rfl | hz
    · exact absurd (by simp) hzn
    · exact List.mem_cons_of_mem _ (h.shut z hz (fun hm => hzn (by simp [hm])) hne k hk hkt)
  seen := fun i hi x hx hxw hxt => by
    by_cases e : i = j
    · subst e
      rw [hw] at hxw
      obtain rfl := (word_inj hy hx (by omega)).2
      simp
    · exact List.mem_cons_of_mem _ (h.seen i (by omega) x hx hxw hxt)
theorem RMid.done {R : Nat} (hR : R ≤ 12) {lo hi z0 t : E2} (hlo : worldB lo.1 lo.2 = true) (hhi : worldB hi.1 hi.2 = true) (hx : lo.1 ≤ hi.1) (hy : lo.2 ≤ hi.2) {F T : List E2} {j : Nat} (h : RMid R lo hi z0 t F T (rgsL (wordN R t) 1 1 1) j) (hj : (rgsL (wordN R t) 1 1 1).length ≤ j) : RInv R lo hi z0 F T where
  nf := h.nf
  nt := h.nt
  m0 := h.m0
  good := h.good
  sub := h.sub
  shut := fun z hz hzn k hk hkt => by
    by_cases e : z = t
    · subst e
      have ho := touch_ok hR hlo hhi hx hy hkt
      have hm := (nb_mem (h.good z hz).1).2.1 k hk ho
      obtain ⟨i, hi, e⟩ := List.mem_iff_getElem.1 hm
      exact h.seen i (Nat.lt_of_lt_of_le hi hj) _ ho (by rw [List.getD_eq_getElem?_getD, List.getElem?_eq_getElem hi, Option.getD_some]; exact e) hkt
    · exact h.shut z hz hzn e k hk hkt
theorem RInv.all {R : Nat} (hR : R ≤ 12) {lo hi : E2} (hx : lo.1 ≤ hi.1) (hy : lo.2 ≤ hi.2) {F : List E2} (h : RInv R lo hi (nearE lo.1 lo.2 R) F []) : AllOf (12 - R) (triE lo) (triE hi) F := by
  refine ⟨h.nf, fun z => ⟨fun hz => (h.good z hz).2, fun hz => ?_⟩⟩
  exact flood_all (m := 12 - R) (by omega) (lo := triE lo) (hi := triE hi) (z0 := nearE lo.1 lo.2 R) (by simp only [triE]; omega) (by simp only [triE]; omega) (inZ_near hR) (fun z => z ∈ F) h.m0 (fun z hz _ k hk ht => h.shut z hz (by simp) k hk ht) z hz
/-- What is found, as a list that rises. -/
theorem found_len {R : Nat} {F : List E2} (hn : F.Nodup) (hok : ∀ z ∈ F, okB R z = true) : (setF (wF R F)).length = F.length := by
  have hw : (wF R F).Nodup := by
    unfold wF
    exact nodup_map hn fun a ha b hb e => (word_inj (hok a ha) (hok b hb) (by omega)).2
  have h2 : setF (wF R F) = srt (wF R F) := (setF_up _).ext (up_of_srt hw) fun x => by rw [setF_mem, srt_mem]
  rw [h2, srt_length, wF_length]
theorem found_has {R : Nat} {F : List E2} (hok : ∀ z ∈ F, okB R z = true) {y : E2} (hy : okB R y = true) : hasF (setF (wF R F)) (wordN R y : Nat) = true ↔ y ∈ F := by
  rw [hasF_iff, setF_mem, wF_mem]
  constructor
  · rintro ⟨z, h1, h2⟩
    obtain rfl := (word_inj hy (hok z h1) (by omega)).2
    exact h1
  · exact fun h => ⟨y, h, rfl⟩
theorem found_put (R : Nat) (F : List E2) (y : E2) : setF (((wordN R y : Nat) : Int) :: setF (wF R F)) = setF (wF R (y :: F)) := by
  refine (setF_up _).ext (setF_up _) fun x => ?_
  rw [setF_mem, setF_mem, List.mem_cons, setF_mem]
  unfold wF
  rw [List.map_cons, List.mem_cons]
theorem found_box {R : Nat} (hR : R ≤ 12) {lo hi : E2} (hx : lo.1 ≤ hi.1) (hy : lo.2 ≤ hi.2) {F : List E2} (h : RInv R lo hi (nearE lo.1 lo.2 R) F []) (hl : F.length ≤ 20000) : IsBox R lo hi (setF (wF R F)) := by
  have ha := h.all hR hx hy
  have hok : ∀ z ∈ F, okB R z = true := fun z hz => (h.good z hz).1
  refine ⟨setF_up _, fun x => ?_, by rw [found_len h.nf hok]; exact hl⟩
  rw [setF_mem, wF_mem]
  unfold TouchW
  constructor
  · rintro ⟨z, h1, rfl⟩; exact ⟨z, hok z h1, (ha.2 z).1 h1, rfl⟩
  · rintro ⟨z, h1, h2, rfl⟩; exact ⟨z, (ha.2 z).2 h2, rfl⟩
end Go.Proofs.YtdbfimdcaacjhaaGreat
/- A row of words amid a block: cut at its head, grown at its end. -/
namespace Go.Proofs.YtdbfimdcaacjhaaGreat
open Go Go.RowKit Go.Lib

/-- A slice leads to words amid a block of the call's own. -/
def MidU (w : World) (B : Nat) (ao : Option Addr) (n c : Nat) (L : List Int) : Prop :=
  L.length = n ∧ n ≤ c ∧ ∃ g off cur, ao = some ⟨g, off, none⟩ ∧ B ≤ g ∧ w.heap[g]? = some (.cells cur 35 (0, 0)) ∧ off + c ≤ cur.size ∧ ∀ i, i < n → cur[off + i]? = some (.int .u64 (L.getD i 0))
theorem MidU.turn {S : Nat → Prop} {w w' : World} {B n c : Nat} {ao : Option Addr} {L : List Int} (h : MidU w B ao n c L) (ht : Turn S w w') (hs : ∀ g o s, ao = some ⟨g, o, s⟩ → ¬ S g) : MidU w' B ao n c L := by
  obtain ⟨h1, h2, g, off, cur, rfl, h3, h4, h5⟩ := h
  exact ⟨h1, h2, g, off, cur, rfl, h3, (ht.2.2.2.2 g (Array.getElem?_eq_some_iff.1 h4).1 (hs g off none rfl)).trans h4, h5⟩
theorem MidU.later {w w' : World} {B n c : Nat} {ao : Option Addr} {L : List Int} (h : MidU w B ao n c L) (hb : Below w.heap.size w w') : MidU w' B ao n c L := h.turn (Turn.of_below (S := fun _ => False) hb) fun _ _ _ _ h => h
theorem MidU.blk {w : World} {B n c : Nat} {ao : Option Addr} {L : List Int} (h : MidU w B ao n c L) : ∃ g off, ao = some ⟨g, off, none⟩ ∧ B ≤ g ∧ g < w.heap.size ∧ ∀ i, i < n → w.cell? ⟨g, off + i, none⟩ = some (.int .u64 (L.getD i 0)) := by
  obtain ⟨h1, h2, g, off, cur, rfl, h3, h4, h5, h6⟩ := h
  exact ⟨g, off, rfl, h3, (Array.getElem?_eq_some_iff.1 h4).1, fun i hi => (cell_of_row _ _ _ _ _ _ h4).trans (h6 i hi)⟩
theorem MidU.of_new {w : World} {B g : Nat} {x : Int} (hB : B ≤ g) (h : w.heap[g]? = some (.cells #[.int .u64 x] 35 (0, 0))) : MidU w B (some ⟨g, 0, none⟩) 1 1 [x] :=
  ⟨rfl, Nat.le_refl _, g, 0, _, rfl, hB, h, by simp, fun i hi => by
    have h0 : i = 0 := by omega
    subst h0
    rfl⟩
/-- Cut at its head. -/
theorem MidU.tail {w : World} {B g off n c : Nat} {x : Int} {L : List Int} (h : MidU w B (some ⟨g, off, none⟩) (n + 1) (c + 1) (x :: L)) : MidU w B (some ⟨g, off + 1, none⟩) n c L := by
  obtain ⟨h1, h2, g', off', cur, e, h3, h4, h5, h6⟩ := h
  cases e
  refine ⟨by simpa using h1, by omega, g, off + 1, cur, rfl, h3, h4, by omega, fun i hi => ?_⟩
  have := h6 (i + 1) (by omega)
  rw [show off + 1 + i = off + (i + 1) by omega, this]
  rfl
theorem MidU.last {w : World} {B g off : Nat} {x : Int} {L : List Int} (h : MidU w B (some ⟨g, off, none⟩) 1 1 (x :: L)) : MidU w B (some ⟨g, off, none⟩) 0 0 L := by
  obtain ⟨h1, h2, g', off', cur, e, h3, h4, h5, h6⟩ := h
  cases e
  exact ⟨by simpa using h1, Nat.le_refl _, g, off, cur, rfl, h3, h4, by omega, fun i hi => absurd hi (Nat.not_lt_zero _)⟩
/-- One more behind it. -/
theorem MidU.push {w : World} {B n c : Nat} {ao : Option Addr} {L : List Int} (h : MidU w B ao n c L) (hB : B ≤ w.heap.size) (hn : n ≤ 1000000) (x : Int) (a : Addr) (hx : w.cell? a = some (.int .u64 x)) (ty : TypeId) :
    ∃ ao' c' w', (Builtin.append_ #[31, 31] ty #[.slice ao n c, .slice (some a) 1 1]).run Tryz.prog w = .ok (.slice ao' (n + 1) c') w' ∧ MidU w' B ao' (n + 1) c' (L ++ [x]) ∧ Turn (fun k => ∃ o s, ao = some ⟨k, o, s⟩) w w' ∧ (∀ k o s, ao' = some ⟨k, o, s⟩ → (∃ o s, ao = some ⟨k, o, s⟩) ∨ w.heap.size ≤ k) := by
  obtain ⟨i0, hi, hz0, hz1, hz2⟩ := info_parts info_u
  obtain ⟨h1, h2, g, off, cur, rfl, h3, h4, h5, h6⟩ := h
  have hnews : ∀ j u, ([.int .u64 x] : List Value)[j]? = some u → w.cell? (a.add j) = some u := fun j u hj => by
    cases j with
    | zero => simp at hj; subst hj; exact hx
    | succ j => simp at hj
  have hs : Src Tryz.prog i0.size 31 (.slice (some a) 1 1) 1 [.int .u64 x] w := Src.ofSlice w Tryz.underlying31 a 1 1 _ (by rw [hz1]; rfl) hnews (by simp [Value.oneCell'])
  have hget : (L ++ [x]).getD n 0 = x := by rw [List.getD_eq_getElem?_getD, List.getElem?_append_right (by omega), h1]; simp
  have hold : ∀ i, i < n → (L ++ [x]).getD i 0 = L.getD i 0 := fun i hi => by rw [List.getD_eq_getElem?_getD, List.getElem?_append_left (by omega), List.getD_eq_getElem?_getD]
  by_cases hr : n < c
  · have hcell : w.cell? ⟨g, off + n, none⟩ = cur[off + n]? := cell_of_row _ _ _ _ _ _ h4
    have hrun := run_append_room_src (P := Tryz.prog) w 31 31 ty 35 i0 Tryz.underlying31 hi g off n c (.slice (some a) 1 1) 1 [.int .u64 x] hs (by omega)
      (fun j hj => by
        obtain rfl : j = 0 := by simpa using hj
        rw [hz1, Nat.mul_one, Nat.add_zero, hcell, Array.getElem?_eq_getElem (by omega)]; rfl)
      (fun j hj => by rw [hz1]; exact frozen_of_row _ _ _ _ _ h4)
    rw [hz1, Nat.mul_one] at hrun
    have hset : w.setCells g (off + n) [.int .u64 x] = w.setCell ⟨g, off + n, none⟩ (.int .u64 x) := rfl
    rw [hset] at hrun
    have hheap : (w.setCell ⟨g, off + n, none⟩ (.int .u64 x)).heap[g]? = some (.cells (cur.setIfInBounds (off + n) (.int .u64 x)) 35 (0, 0)) := by
      rw [Sort.setCell_eq]
      simp [Sort.mapBlock, Array.getElem?_modify, h4, Sort.onCells]
    refine ⟨_, c, _, hrun, ⟨by rw [List.length_append, h1]; rfl, by omega, g, off, _, rfl, h3, hheap, by simpa using h5, fun i hi => ?_⟩, Turn.setCell (S := fun k => ∃ o s, some (⟨g, off, none⟩ : Addr) = some ⟨k, o, s⟩) (a := ⟨g, off + n, none⟩) (Turn.refl _ _) ⟨off, none, rfl⟩ _, fun k o s e => .inl ⟨o, s, e⟩⟩
    by_cases hin : i = n
    · subst hin
      rw [hget, Array.getElem?_setIfInBounds_self_of_lt (by omega)]
    · rw [Array.getElem?_setIfInBounds_ne (by omega), h6 i (by omega), hold i (by omega)]
  · obtain rfl : c = n := by omega
    have hl : (uV L).length = c * i0.size := by rw [uV_len, hz1, h1, Nat.mul_one]
    have holds : ∀ j v, (uV L)[j]? = some v → w.cell? ((⟨g, off, none⟩ : Addr).add j) = some v := fun j v hj => by
      have hjl : j < L.length := by have := (List.getElem?_eq_some_iff.1 hj).1; rwa [uV_len] at this
      rw [Addr.add_lit, cell_of_row _ _ _ _ _ _ h4, h6 j (by omega), ← hj, uV_get L j hjl]
    have hrun := run_append_grow (P := Tryz.prog) w 31 ty 35 i0 (.int .u64 0) Tryz.underlying31 hi hz0 ⟨g, off, none⟩ c c (uV L) hl holds a 1 1 [.int .u64 x] (by rw [hz1]; rfl) hnews (by omega) (by omega) (growslice_fits (by omega) (by rw [hz2]; omega))
    have hge := grownCap_ge w (c + 1) c 35
    refine ⟨_, _, _, hrun, ⟨by rw [List.length_append, h1]; rfl, hge, w.heap.size, 0, _, rfl, hB, heap_alloc_new w.drew _, ?_, fun i hi => ?_⟩, ⟨rfl, rfl, rfl, by simp, fun k hk _ => Below.heap_alloc w.drew _ _ hk⟩, fun k o s e => by cases e; exact .inr (Nat.le_refl _)⟩
    · simp only [Array.size_append, List.size_toArray, size_zeroCells, uV_len]
      simp [Value.cells]
      omega
    · rw [Nat.zero_add, Array.getElem?_append_left (by simp [uV_len]; omega)]
      by_cases hin : i = c
      · subst hin
        rw [hget, Array.getElem?_append_right (by simp [uV_len]; omega)]
        simp [uV_len, h1]
      · rw [Array.getElem?_append_left (by simp [uV_len]; omega), hold i (by omega)]
        have := uV_get L i (by omega)
        simpa using this
/-- For the walk. -/
theorem wpList_append_mid {ops : Array Oper} {rest : List Oper} {o : Oper} {a : Act} {Q : Exit → Act → World → Prop} {w : World} (hgd : o.guard = none) (s x : Operand)
    (ho : o.op = .call { callee := .builtin .append, args := #[s, x], argTypes := #[31, 31] }) {B n c : Nat} {ao : Option Addr} {L : List Int} (h : MidU w B ao n c L) (hB : B ≤ w.heap.size) (hn : n ≤ 1000000) (y : Int) (ad : Addr) (hy : w.cell? ad = some (.int .u64 y))
    (hs : a.eval s = .slice ao n c) (hx : a.eval x = .slice (some ad) 1 1)
    (hK : ∀ ao' c' w', MidU w' B ao' (n + 1) c' (L ++ [y]) → Turn (fun k => ∃ o s, ao = some ⟨k, o, s⟩) w w' → (∀ k o s, ao' = some ⟨k, o, s⟩ → (∃ o s, ao = some ⟨k, o, s⟩) ∨ w.heap.size ≤ k) → wpList Tryz.prog ops Q rest (a.put o.dst (.slice ao' (n + 1) c')) w') : wpList Tryz.prog ops Q (o :: rest) a w := by
  obtain ⟨ao', c', w', hr, h1, h2, h3⟩ := h.push hB hn y ad hy o.type
  refine wpList_plain hgd fun K hK' => ?_
  unfold Oper.wp
  simp [execOp, ho, resolve, invoke, builtin, hs, hx, hr, Result.andThen]
  exact hK' _ _ (hK _ _ _ h1 h2 h3)
end Go.Proofs.YtdbfimdcaacjhaaGreat
/- Plain laws: how many steps are between two numbers; the numbers of a line. -/
namespace Go.Proofs.YtdbfimdcaacjhaaGreat.Wd

/-- How far a number is from nought: the greatest of three. -/
def stepsN (z : E2) : Int := max (max (z.1.natAbs : Int) (z.2.natAbs : Int)) ((z.1 + z.2).natAbs : Int)
theorem steps_hex (z : E2) (k : Int) : Hex k z ↔ stepsN z ≤ k := by unfold Hex stepsN; omega
theorem hex_ring (z : E2) (k : Nat) : (Hex k z ∧ ¬ Hex ((k : Int) - 1) z) ↔ stepsN z = k := by
  rw [steps_hex, steps_hex]; omega
/-- The distance of two words' cells, and its error. -/
def dsE (a b : Nat) : Int := if isW a = true then (if isW b = true then (if rW a = rW b then 0 else 8) else 5) else 5
def dsN (a b : Nat) : Int := if dsE a b = 0 then stepsN (subE (zW a) (zW b)) else 0
/-- A line's numbers. -/
def lineE (x y : E2) (n i : Int) : E2 := roundE ((n - i) * x.1 + i * y.1, (n - i) * x.2 + i * y.2) n
def pathL (x y : E2) (n : Nat) : List E2 := (List.range (n + 1)).map fun (i : Nat) => lineE x y n i

end Go.Proofs.YtdbfimdcaacjhaaGreat.Wd
/- The contract of eisen.Steps. -/
namespace Go.Proofs.YtdbfimdcaacjhaaGreat
open Go.RowKit Go.Lib Wd

/-- The three that are looked at, and the greatest so far. -/
def triN (a b c : Int) (k : Nat) : Int := if k = 0 then a else if k = 1 then b else c
def mostN (a b c : Int) : Nat → Int
  | 0 => 0
  | k + 1 => max (mostN a b c k) ((triN a b c k).natAbs : Int)
end Go.Proofs.YtdbfimdcaacjhaaGreat
/- Contracts of near.two and near.Distance. -/
namespace Go.Proofs.YtdbfimdcaacjhaaGreat
open Go.RowKit Go.Lib Wd

def yR (a b : Nat) : Int := if isW a = true then cvR b else 0
def yZ (a b : Nat) : E2 := if isW a = true then cvZ b else (0, 0)
theorem cv_sm (a : Nat) : Sm 1073741824 (cvZ a) := by
  unfold cvZ
  by_cases h : isW a = true
  · rw [if_pos h]
    have h1 := (okB_iff _ _).1 (cell_word h).1
    have h2 := (shapeB_iff _ _).1 h1.1
    exact ⟨h2.2.2.1, h2.2.2.2.1, h2.2.2.2.2.1, h2.2.2.2.2.2⟩
  · rw [if_neg h]; unfold Sm; simp
end Go.Proofs.YtdbfimdcaacjhaaGreat
/- Contracts of apiaryref1.size, Steps, Distance. -/
namespace Go.Proofs.YtdbfimdcaacjhaaGreat
open Go.RowKit Go.Lib Wd

@[go_sem high] theorem run_max_three {P : Program} (w : World) (ts : Array TypeId) (t : TypeId) (k k' k'' : IntKind) (x y z : Int) :
    (Builtin.max_ ts t #[.int k x, .int k' y, .int k'' z]).run P w = .ok (.int k (max (max x y) z)) w := by
  have e : ∀ x y : Int, (if y > x then y else x) = max x y := fun x y => by
    rw [Int.max_def]
    split <;> split <;> omega
  simp [Builtin.max_, Builtin.max2, e]
end Go.Proofs.YtdbfimdcaacjhaaGreat
/- Distances of cells that may be; children of cells that may be. Plain, but for the names. -/
namespace Go.Proofs.YtdbfimdcaacjhaaGreat
open Go.RowKit Go.Lib Wd

end Go.Proofs.YtdbfimdcaacjhaaGreat
/- Plain laws: a ring's numbers are told once each; lists of words that rise. -/
namespace Go.Proofs.YtdbfimdcaacjhaaGreat
open Go.RowKit Go.Lib Wd

theorem unit_ne (s : Nat) : ¬ ((unitE s).1 = 0 ∧ (unitE s).2 = 0) := by
  unfold unitE; split <;> simp
theorem line_nodup (c u : E2) (k : Nat) (hu : ¬ (u.1 = 0 ∧ u.2 = 0)) : (lineP c u k).Nodup := by
  unfold lineP
  refine List.pairwise_map.2 ((List.nodup_range (n := k)).imp fun {a b} hab h => hab ?_)
  unfold ptP at h
  simp only [Prod.mk.injEq] at h
  obtain ⟨h1, h2⟩ := h
  have e1 : (a : Int) * u.1 = b * u.1 := by omega
  have e2 : (a : Int) * u.2 = b * u.2 := by omega
  have : u.1 ≠ 0 ∨ u.2 ≠ 0 := by omega
  rcases this with h | h
  · have := Int.eq_of_mul_eq_mul_right h e1; omega
  · have := Int.eq_of_mul_eq_mul_right h e2; omega
theorem ring_nodup (z : E2) (k : Nat) : (ringL z k).Nodup := by
  obtain ⟨c0, c1, c2, c3, c4, c5⟩ := corn_at z k
  unfold ringL
  split
  · simp
  · simp only [sidesP, List.nil_append, List.nodup_append, List.mem_append]
    refine ⟨⟨⟨⟨⟨line_nodup _ _ _ (unit_ne _), line_nodup _ _ _ (unit_ne _), ?_⟩, line_nodup _ _ _ (unit_ne _), ?_⟩, line_nodup _ _ _ (unit_ne _), ?_⟩, line_nodup _ _ _ (unit_ne _), ?_⟩, line_nodup _ _ _ (unit_ne _), ?_⟩
    all_goals
      rintro ⟨a, b⟩ ha ⟨p, q⟩ hb he
      simp only [Prod.mk.injEq] at he
      obtain ⟨rfl, rfl⟩ := he
      simp only [lineP_mem, c0, c1, c2, c3, c4, c5, unitE, Prod.mk.injEq] at ha hb
      obtain ⟨j, h1, h2, h3⟩ := hb
    · obtain ⟨i, g1, g2, g3⟩ := ha; omega
    · rcases ha with ⟨i, g1, g2, g3⟩ | ⟨i, g1, g2, g3⟩ <;> omega
    · rcases ha with (⟨i, g1, g2, g3⟩ | ⟨i, g1, g2, g3⟩) | ⟨i, g1, g2, g3⟩ <;> omega
    · rcases ha with ((⟨i, g1, g2, g3⟩ | ⟨i, g1, g2, g3⟩) | ⟨i, g1, g2, g3⟩) | ⟨i, g1, g2, g3⟩ <;> omega
    · rcases ha with (((⟨i, g1, g2, g3⟩ | ⟨i, g1, g2, g3⟩) | ⟨i, g1, g2, g3⟩) | ⟨i, g1, g2, g3⟩) | ⟨i, g1, g2, g3⟩ <;> omega
theorem ring_steps (z y : E2) (k : Nat) : y ∈ ringL z k ↔ stepsN (subE y z) = k := by rw [ring_mem, hex_ring]
theorem all_steps (z y : E2) (f n : Nat) : y ∈ allR z f n ↔ (f : Int) ≤ stepsN (subE y z) ∧ stepsN (subE y z) < f + n := by
  induction n with
  | zero => unfold allR; simp only [List.not_mem_nil, false_iff]; omega
  | succ n ih =>
    show y ∈ allR z f n ++ ringL z (f + n) ↔ _
    rw [List.mem_append, ih, ring_steps]
    omega
theorem all_nodup (z : E2) (f n : Nat) : (allR z f n).Nodup := by
  induction n with
  | zero => exact List.nodup_nil
  | succ n ih =>
    show (allR z f n ++ ringL z (f + n)).Nodup
    rw [List.nodup_append]
    refine ⟨ih, ring_nodup _ _, fun a ha b hb e => ?_⟩
    subst e
    rw [all_steps] at ha
    rw [ring_steps] at hb
    omega
theorem tell_nodup {r : Nat} {L : List E2} (h : L.Nodup) : (tellL r L).Nodup := by
  unfold tellL
  rw [List.nodup_iff_pairwise_ne, List.pairwise_map]
  refine (List.Pairwise.imp_of_mem (l := L.filter fun z => okB r z) (R := (· ≠ ·)) ?_ (h.filter _))
  intro a b ha hb hab e
  have oa := (List.mem_filter.1 ha).2
  have ob := (List.mem_filter.1 hb).2
  have e2 : wordN r a = wordN r b := by rw [Int.toNat_natCast] at e; omega
  exact hab (word_inj oa ob e2).2
theorem srt_up {l : List Int} (h : l.Nodup) : Up (srt l) := by
  have hp : (srt l).Perm l := List.mergeSort_perm l _
  have hn : (srt l).Nodup := hp.nodup_iff.2 h
  have hs := srt_sorted l
  rw [List.nodup_iff_pairwise_ne] at hn
  exact (hs.and hn).imp fun ⟨h1, h2⟩ => by omega
theorem tell_mem {r : Nat} {L : List E2} {v : Int} : v ∈ tellL r L ↔ ∃ y, y ∈ L ∧ okB r y = true ∧ v = (wordN r y : Int) := by
  unfold tellL
  rw [List.mem_map]
  constructor
  · rintro ⟨y, hy, rfl⟩
    obtain ⟨h1, h2⟩ := List.mem_filter.1 hy
    exact ⟨y, h1, h2, by rw [Int.toNat_natCast]⟩
  · rintro ⟨y, h1, h2, rfl⟩
    exact ⟨y, List.mem_filter.2 ⟨h1, h2⟩, by rw [Int.toNat_natCast]⟩
end Go.Proofs.YtdbfimdcaacjhaaGreat
/- Contracts of apiaryref1.around, beside. -/
namespace Go.Proofs.YtdbfimdcaacjhaaGreat
open Go.RowKit Go.Lib Wd

def eV (l : List E2) : List Value := l.flatMap fun c => [.int .i64 c.1, .int .i64 c.2]
def eg (l : List E2) (k : Nat) : E2 := l.getD k (0, 0)
theorem eV_append (a b : List E2) : eV (a ++ b) = eV a ++ eV b := by simp [eV]
theorem eV_one (c : E2) : eV [c] = [.int .i64 c.1, .int .i64 c.2] := rfl
theorem eV_get : ∀ (l : List E2) (k : Nat), k < l.length → (eV l)[k * 2]? = some (.int .i64 (eg l k).1) ∧ (eV l)[k * 2 + 1]? = some (.int .i64 (eg l k).2)
  | [], k, h => by simp at h
  | p :: l, 0, _ => by simp [eV, eg]
  | p :: l, k + 1, h => by
    have ih := eV_get l k (by simpa using h)
    have e : eV (p :: l) = [.int .i64 p.1, .int .i64 p.2] ++ eV l := rfl
    have g : eg (p :: l) (k + 1) = eg l k := rfl
    rw [e, g, List.getElem?_append_right (by simp; omega), List.getElem?_append_right (by simp; omega)]
    simp only [List.length_cons, List.length_nil]
    rw [show (k + 1) * 2 - (0 + 1 + 1) = k * 2 by omega, show (k + 1) * 2 + 1 - (0 + 1 + 1) = k * 2 + 1 by omega]
    exact ih
/-- In w a slice's address leads to numbers of the lattice. -/
def EAt (w : World) (ao : Option Addr) (l : List E2) : Prop :=
  0 < l.length → ∃ b off, ao = some ⟨b, off, none⟩ ∧ b < w.heap.size ∧ ∀ k, k < l.length →
    w.cell? ⟨b, off + k * 2, none⟩ = some (.int .i64 (eg l k).1) ∧ w.cell? ⟨b, off + k * 2 + 1, none⟩ = some (.int .i64 (eg l k).2)
theorem EAt.below {w w' : World} {ao : Option Addr} {l : List E2} (h : EAt w ao l) (hb : Below w.heap.size w w') : EAt w' ao l := fun h0 => by
  obtain ⟨b, off, e, hlt, hc⟩ := h h0
  refine ⟨b, off, e, Nat.lt_of_lt_of_le hlt hb.size, fun k hk => ?_⟩
  rw [hb.cell (p := ⟨b, _, none⟩) hlt, hb.cell (p := ⟨b, _, none⟩) hlt]
  exact hc k hk
theorem eAt_own {w : World} {base n c : Nat} {ao : Option Addr} {l : List E2} (hn : n = l.length) (h : w.ownsRow base 23 2 (.slice ao n c) n (eV l)) : EAt w ao l := fun h0 => by
  subst hn
  obtain ⟨ao', c', e, _, hh⟩ := own_form h
  cases e
  obtain ⟨g, rfl, _, hlt, hc⟩ := hh h0
  exact ⟨g, 0, rfl, hlt, fun i hi => by
    have := eV_get l i hi
    rw [Nat.zero_add]
    exact ⟨hc _ _ this.1, hc _ _ this.2⟩⟩
theorem info_e : (Tryz.prog.info? 23).map (fun i => (i.zero, i.size, i.bytes)) = some (some (.agg #[.int .i64 0, .int .i64 0]), 2, 16) := by kernel_rfl
theorem take_e (V : List E2) {k : Nat} (h : k < V.length) : V.take (k + 1) = V.take k ++ [eg V k] := by
  unfold eg
  rw [List.take_add_one, List.getElem?_eq_getElem h, List.getD_eq_getElem?_getD, List.getElem?_eq_getElem h]
  rfl

/-- Steps of a size of lo to hi. -/
def arow (lo hi a : Int) : Nat → List E2
  | 0 => []
  | m + 1 => arow lo hi a m ++ (if lo ≤ stepsN (a, -hi + m) ∧ stepsN (a, -hi + m) ≤ hi then [(a, -hi + m)] else [])
def aall (lo hi : Int) (n : Nat) : Nat → List E2
  | 0 => []
  | j + 1 => aall lo hi n j ++ arow lo hi (-hi + j) n
def arL (lo hi : Nat) : List E2 := aall lo hi (2 * hi + 1) (2 * hi + 1)
/-- What is told: a list of numbers. -/
def ToldE (w : World) (L : List E2) (e : Ending) (w' : World) : Prop := ∃ ao c, e = .returned (.slice ao L.length c) ∧ EAt w' ao L ∧ Below w.heap.size w w'
/-- A cell moved by steps: the words of those that may be, rising. -/
def besL (r : Int) (z : E2) (L : List E2) : List Int := setF (tellL r (L.map (addE z)))
end Go.Proofs.YtdbfimdcaacjhaaGreat
/- Contracts of apiaryref1.Neighbours, Ring, Disk. -/
namespace Go.Proofs.YtdbfimdcaacjhaaGreat
open Go.RowKit Go.Lib Wd

/-- What is beside a cell, told by steps, is what the walker tells. -/
theorem bes_eq {w0 : Nat} {f n : Nat} {L : List E2} (hw : isW w0 = true) (hL : ∀ e, e ∈ L ↔ (f : Int) ≤ stepsN e ∧ stepsN e < f + n) : besL (cvR w0) (cvZ w0) L = srt (tellL (rW w0) (allR (zW w0) f n)) := by
  have hr : cvR w0 = (rW w0 : Int) := by unfold cvR; rw [if_pos hw]
  have hz : cvZ w0 = zW w0 := by unfold cvZ; rw [if_pos hw]
  rw [hr, hz]
  refine (setF_up _).ext (srt_up (tell_nodup (all_nodup _ _ _))) fun v => ?_
  rw [setF_mem, srt_mem, tell_mem, tell_mem]
  constructor
  · rintro ⟨y, h1, h2, h3⟩
    obtain ⟨e, he, rfl⟩ := List.mem_map.1 h1
    refine ⟨_, ?_, h2, h3⟩
    rw [all_steps, show subE (addE (zW w0) e) (zW w0) = e by unfold subE addE; refine Prod.ext ?_ ?_ <;> (simp only; omega)]
    exact (hL e).1 he
  · rintro ⟨y, h1, h2, h3⟩
    rw [all_steps] at h1
    refine ⟨y, List.mem_map.2 ⟨subE y (zW w0), (hL _).2 h1, ?_⟩, h2, h3⟩
    unfold subE addE
    refine Prod.ext ?_ ?_ <;> (simp only; omega)
def unitL : List E2 := (List.range 6).map unitE
theorem unitL_mem (e : E2) : e ∈ unitL ↔ ((1 : Nat) : Int) ≤ stepsN e ∧ stepsN e < ((1 : Nat) : Int) + (1 : Nat) := by
  obtain ⟨a, b⟩ := e
  unfold unitL stepsN
  simp only [List.mem_map, List.mem_range]
  constructor
  · rintro ⟨k, hk, h⟩
    rcases (show k = 0 ∨ k = 1 ∨ k = 2 ∨ k = 3 ∨ k = 4 ∨ k = 5 by omega) with rfl | rfl | rfl | rfl | rfl | rfl <;> simp only [unitE, Prod.mk.injEq] at h <;> obtain ⟨rfl, rfl⟩ := h <;> decide
  · intro h
    rcases (show (a = 1 ∧ b = 0) ∨ (a = 0 ∧ b = 1) ∨ (a = -1 ∧ b = 1) ∨ (a = -1 ∧ b = 0) ∨ (a = 0 ∧ b = -1) ∨ (a = 1 ∧ b = -1) by omega) with ⟨rfl, rfl⟩ | ⟨rfl, rfl⟩ | ⟨rfl, rfl⟩ | ⟨rfl, rfl⟩ | ⟨rfl, rfl⟩ | ⟨rfl, rfl⟩
    · exact ⟨0, by decide, rfl⟩
    · exact ⟨1, by decide, rfl⟩
    · exact ⟨2, by decide, rfl⟩
    · exact ⟨3, by decide, rfl⟩
    · exact ⟨4, by decide, rfl⟩
    · exact ⟨5, by decide, rfl⟩
theorem unitL_take {k : Nat} (h : k < 6) : unitL.take (k + 1) = unitL.take k ++ [unitE k] := by
  rw [List.take_add_one]
  congr 1
  unfold unitL
  rw [List.getElem?_map, List.getElem?_range h]
  rfl
theorem sm_steps {e : E2} {h : Int} (hs : stepsN e ≤ h) : Sm h e := ((steps_hex _ _).2 hs).sm
theorem isW_cv {w0 : Nat} : (isW w0 = true ∧ cvE w0 = 0) ∨ (isW w0 = false ∧ cvE w0 = 5) := by
  unfold cvE
  by_cases h : isW w0 = true
  · exact .inl ⟨h, by rw [if_pos h]⟩
  · exact .inr ⟨Bool.eq_false_iff.2 h, by rw [if_neg h]⟩
/-- A list of numbers, a list of words: what is known of a value. -/
def wE (L : List E2) : SP := ⟨fun v w => ∃ ao c, v = .slice ao L.length c ∧ EAt w ao L, fun _ _ _ hb ⟨ao, c, e, h⟩ => ⟨ao, c, e, h.below hb⟩⟩
def wWd (L : List Int) : SP := ⟨fun v w => ∃ ao c, v = .slice ao L.length c ∧ WordsAt w w.heap.size ao L, fun _ _ _ hb ⟨ao, c, e, h⟩ => ⟨ao, c, e, (h.below hb (Nat.le_refl _)).wider hb.size⟩⟩
end Go.Proofs.YtdbfimdcaacjhaaGreat
/- apiaryref1.Set once more: what comes out is a row of the call's own. -/
namespace Go.Proofs.YtdbfimdcaacjhaaGreat
open Go.RowKit Go.Lib Go.Sort

def JoinedO (w : World) (l : List Int) (e : Ending) (w' : World) : Prop :=
  ∃ ao c, e = .returned (.slice ao l.length c) ∧ w'.ownsRow w.heap.size 35 1 (.slice ao l.length c) l.length (uV l) ∧ Below w.heap.size w w'
set_option maxRecDepth 100000 in
set_option maxHeartbeats 4000000 in
theorem rset_own (ao : Option Addr) (c : Nat) (l : List Int) (w : World) (h : WordsAt w w.heap.size ao l) (hn : l.length ≤ 1000000000) :
    Calls Tryz.prog 29 #[.slice ao l.length c] w (JoinedO w (setF l)) := by
  obtain ⟨i0, hi, hz0, hz1, hz2⟩ := info_parts info_u
  have hsz1 : (Tryz.prog.info? 35).map (·.size) = some 1 := by kernel_rfl
  obtain ⟨n, hnn⟩ : ∃ n, l.length = n := ⟨_, rfl⟩
  have HN := Lib.hid hnn
  have HW := Lib.hid h
  rw [hnn] at hn ⊢
  clear hnn h
  go_enter Tryz.func29, Tryz.ntmps29
  go_wp2
  go_loopw [3, 4] (fun v i wr => ∃ (k m : Nat), k ≤ n ∧ m ≤ k ∧ i = .int .i64 k ∧ Hid ((setF (l.take k)).length = m) ∧ wr.ownsRow w.heap.size 35 1 v m (uV (setF (l.take k))) ∧ Below w.heap.size w wr) (fun _ i _ => n - (intOf i).toNat)
  case atStart => exact ⟨0, 0, Nat.zero_le _, Nat.le_refl _, rfl, by show _ = _; rw [List.take_zero, setF_nil]; rfl, by rw [List.take_zero, setF_nil]; exact World.ownsRow_nil _ _ _ _, Below.refl _ _⟩
  case round =>
    obtain ⟨k, m, hk, hm, rfl, HM0, hown, hnx⟩ := hrel
    have hsz := hnx.size
    obtain ⟨s, hs⟩ : ∃ s, setF (l.take k) = s := ⟨_, rfl⟩
    have HM : Hid (s.length = m) := by show _ = _; rw [← hs]; exact HM0.out
    rw [hs] at hown
    have HUP : Hid (Rising s) := by show Rising s; rw [← hs]; exact (setF_up _).rising
    have HS := Lib.hid hs
    clear hs HM0
    obtain ⟨vo, vc, rfl, _, _⟩ := own_form hown
    have HWD := Lib.hid (words_own HM.out.symm hown)
    have HOWN := Lib.hid hown
    have HNX := Lib.hid hnx
    by_cases hlt : k < n
    · obtain ⟨b, off, rfl, hb, hc⟩ := (HW.out.below hnx (Nat.le_refl _)) (by rw [HN.out]; omega)
      have c0 := hc k (by rw [HN.out]; exact hlt)
      obtain ⟨x, hx⟩ : ∃ x, l.getD k 0 = x := ⟨_, rfl⟩
      rw [hx] at c0
      have HX := Lib.hid hx
      have hbw : b < wr.heap.size := by omega
      have KEEP : Hid (∀ X : World, X.heap = wr.heap → X.cell? ⟨b, off + k, none⟩ = some (.int .u64 x) ∧ b < X.heap.size ∧ WordsAt X X.heap.size vo s ∧ X.ownsRow w.heap.size 35 1 (.slice vo m vc) m (uV s)) := fun X hX => by
        refine ⟨?_, by rw [hX]; exact hbw, ?_, own_heap hX HOWN.out⟩
        · rw [cell_heap hX]; exact c0
        · have := words_heap hX HWD.out
          rwa [← hX] at this
      clear hc hx hown hnx c0 hbw HWD hsz
      obtain ⟨wo, hwo⟩ : ∃ wo : World, wo = wr := ⟨_, rfl⟩
      subst hwo
      go_wp2
      go_loopw [5, 6] (fun i j wr => ∃ lo hi : Nat, lo ≤ hi ∧ hi ≤ m ∧ i = .int .i64 lo ∧ j = .int .i64 hi ∧ Hid ((∀ k, k < lo → s.getD k 0 < x) ∧ ∀ k, hi ≤ k → k < m → x ≤ s.getD k 0) ∧ Hid (wr.heap = wo.heap) ∧ Below w.heap.size w wr) (fun i j _ => (intOf j).toNat - (intOf i).toNat)
      case atStart => exact ⟨0, m, Nat.zero_le _, Nat.le_refl _, rfl, rfl, ⟨fun k hk => by omega, fun k h1 h2 => by omega⟩, rfl, HNX.out⟩
      case round =>
        obtain ⟨lo, hi', h1, h2, rfl, rfl, HA, HH, hbx⟩ := hrel
        obtain ⟨c0, hbw, hwd, hown⟩ := KEEP.out wr HH.out
        have HWD := Lib.hid hwd
        have HOWN := Lib.hid hown
        have HBX := Lib.hid hbx
        have hsz := hbx.size
        clear hwd hown hbx
        by_cases hlt2 : lo < hi'
        · obtain ⟨g1, off1, rfl, hg1, hc1⟩ := HWD.out (by rw [HM.out]; omega)
          obtain ⟨t, ht⟩ : ∃ t, (lo + hi') / 2 = t := ⟨_, rfl⟩
          have hm1 : lo ≤ t := by omega
          have hm2 : t < hi' := by omega
          have hmI : ((lo : Int) + (hi' : Int)) / 2 = (t : Int) := by omega
          have c1 := hc1 t (by rw [HM.out]; omega)
          have HL1 : Hid (s.getD t 0 < x → ∀ k, k < t + 1 → s.getD k 0 < x) := fun e k hk => by
            have := HUP.out k t (by omega) (by rw [HM.out]; omega)
            omega
          have HL2 : Hid (¬ s.getD t 0 < x → ∀ k, t ≤ k → k < m → x ≤ s.getD k 0) := fun e k h3 h4 => by
            have := HUP.out t k h3 (by rw [HM.out]; exact h4)
            omega
          generalize s.getD t 0 = y at c1 HL1 HL2
          clear hc1 ht
          by_cases hyx : y < x
          · have HLL := Lib.hid (HL1.out hyx)
            clear HL1 HL2
            go_wp2_with (first | (with_reducible refine wp_region_lex (by kernel_rfl) (by kernel_rfl) ?_) | (with_reducible refine OnlyG.intro (by kernel_rfl) ?_))
            go_roundw
            case rel => exact ⟨t + 1, hi', by omega, h2, by go_num, rfl, ⟨HLL.out, HA.out.2⟩, HH.out, HBX.out.drew⟩
            case measure => simp [intOf]; omega
          · have HLL := Lib.hid (HL2.out hyx)
            clear HL1 HL2
            go_wp2_with (first | (with_reducible refine wp_region_lex (by kernel_rfl) (by kernel_rfl) ?_) | (with_reducible refine OnlyG.intro (by kernel_rfl) ?_))
            go_roundw
            case rel => exact ⟨lo, t, by omega, by omega, rfl, by go_num, ⟨HA.out.1, HLL.out⟩, HH.out, HBX.out.drew⟩
            case measure => simp [intOf]; omega
        · obtain rfl : lo = hi' := by omega
          by_cases hin : lo < m ∧ s.getD lo 0 = x
          · obtain ⟨g1, off1, rfl, hg1, hc1⟩ := HWD.out (by rw [HM.out]; omega)
            have c1 := hc1 lo (by rw [HM.out]; exact hin.1)
            obtain ⟨y, hy⟩ : ∃ y, s.getD lo 0 = y := ⟨_, rfl⟩
            have q1 : (y == x) = true := by rw [← hy]; simpa using hin.2
            rw [hy] at c1
            have HOLD : Hid (setF (l.take (k + 1)) = s) := by
              show _ = _
              rw [setF_old (by rw [HN.out]; exact hlt) (by rw [HS.out, HX.out, ← hin.2]; exact getD_mem (by rw [HM.out]; exact hin.1)), HS.out]
            have q0 : decide (lo < m) = true := by simpa using hin.1
            have hlm := hin.1
            clear hc1 hin hy
            go_wp2_with (first | (with_reducible refine wp_region_lex (by kernel_rfl) (by kernel_rfl) ?_) | (with_reducible refine OnlyG.intro (by kernel_rfl) ?_))
            go_roundw
            case rel => exact ⟨k + 1, m, by omega, by omega, by go_num, by show _ = _; rw [HOLD.out]; exact HM.out, by rw [HOLD.out]; exact HOWN.out, HBX.out.drew⟩
            case measure => simp [intOf]; omega
          · have HPUT : Hid (setF (l.take (k + 1)) = s.take lo ++ x :: s.drop lo) := by
              show _ = _
              rw [setF_put (by rw [HN.out]; exact hlt) HS.out (lo := lo) (by rw [HX.out]; exact HA.out.1) (by
                rw [HX.out]
                intro j h3 h4
                rw [HM.out] at h4
                have e1 := HA.out.2 j h3 h4
                have e2 := HUP.out lo j h3 (by rw [HM.out]; exact h4)
                have e3 := HA.out.2 lo (Nat.le_refl _) (by omega)
                by_cases e4 : s.getD lo 0 = x
                · exact absurd ⟨by omega, e4⟩ hin
                · omega), HX.out]
            have key : decide (lo < m) = false ∨ (lo < m ∧ decide (lo < m) = true ∧ ∃ g1 off1 y, vo = some ⟨g1, off1, none⟩ ∧ g1 < wr.heap.size ∧ wr.cell? ⟨g1, off1 + lo, none⟩ = some (.int .u64 y) ∧ (y == x) = false) := by
              by_cases e : lo < m
              · refine .inr ⟨e, by simpa using e, ?_⟩
                obtain ⟨g1, off1, rfl, hg1, hc1⟩ := HWD.out (by rw [HM.out]; omega)
                exact ⟨g1, off1, _, rfl, hg1, hc1 lo (by rw [HM.out]; exact e), by simpa using fun h => hin ⟨e, h⟩⟩
              · exact .inl (by simpa using e)
            clear hin hlt2
            rcases key with q0 | ⟨hlm, q0, g1, off1, y, rfl, hg1, c1, q1⟩
            all_goals
              have hown := HOWN.out
              go_upto_region 13 with (first | (with_reducible refine wp_region_lex (by kernel_rfl) (by kernel_rfl) ?_) | (with_reducible refine OnlyG.intro (by kernel_rfl) ?_) | (at_builtin; refine wpList_append_own _ rfl (.tmp 50) (.tmp 51) 31 rfl w.heap.size 35 i0 (.int .u64 0) 1 8 Tryz.underlying31 hi hz0 hz1 hz2 rfl (by decide) _ _ _ rfl (hown.alloc _) ⟨wr.heap.size, 0, none⟩ 1 1 [.int .u64 0] rfl rfl (cells_new _ _ _ _ rfl) (by simp [Value.oneCell']) (by unfold maxLen; omega) (by omega) (by simp; omega) ?_; intro v' w3 hown1 hgrow _))
              have hbel : Below w.heap.size w w3 := below_append (HBX.out.drew.alloc hsz _) (hown.alloc _) (by simp; omega) hgrow
              rcases hown1.2 with ⟨_, h0⟩ | ⟨g, cap, ⟨cur⟩, rfl, hbg, hheap, hcap, hmax, hcsz, htake⟩
              · omega
              obtain ⟨e, he⟩ : ∃ e, s.drop lo = e := ⟨_, rfl⟩
              have hdl : (uV e).length = m - lo := by rw [uV_len, ← he, List.length_drop, HM.out]
              have hmin : (uV e).length = Nat.min (m + 1 - lo) (m - lo) := by rw [hdl]; show _ = min _ _; omega
              have hfit : lo + 1 + (uV e).length ≤ cur.length := by rw [hdl]; have : cur.length = cap := by simpa using hcsz
                                                                    omega
              have HPOS : Hid (0 < (uV e).length → (if cap = lo + 1 then some (⟨g, 0, none⟩ : Addr) else some ⟨g, lo + 1, none⟩) = some ⟨g, lo + 1, none⟩ ∧ ∃ ad, some (⟨g, lo, none⟩ : Addr) = some ad ∧ ∀ j v, (uV e)[j]? = some v → w3.drew.cell? (ad.add j) = some v) := fun h0 => by
                refine ⟨by rw [if_neg (by omega)], _, rfl, fun j v hj => ?_⟩
                have hj' : j < (uV e).length := (List.getElem?_eq_some_iff.1 hj).1
                have hadd : (⟨g, lo, none⟩ : Addr).add j = ⟨g, lo + j, none⟩ := by unfold Addr.add; split <;> simp_all
                rw [hadd, cell_heap (X := w3.drew) (w := w3) rfl, hown1.cellAt (lo + j) (by omega), List.getElem?_append_left (by rw [uV_len, HM.out]; omega), ← hj, ← he]
                simp [uV]
              have HTK : Hid (cur.take (m + 1) = uV s ++ [.int .u64 0]) := by show _ = _; rw [← htake, Nat.mul_one]
              have HCL : Hid (cur.length = cap) := by show _ = _; simpa using hcsz
              have HDE := Lib.hid he
              have hheap' : w3.drew.heap[g]? = some (.cells cur.toArray 35 (0, 0)) := hheap
              have hbel' := hbel.drew
              have hw1 : IntKind.i64.wrap ((lo : Int) + 1) = (lo : Int) + 1 := IntWalk.i64_in _ (by omega)
              have hb1 : (lo : Int) + 1 ≤ (m : Int) + 1 := by omega
              have hb2 : (lo : Int) ≤ (m : Int) + 1 := by omega
              have hb0 : (0 : Int) ≤ (lo : Int) + 1 := by omega
              have hne : ¬ cap = lo := by omega
              clear htake hcsz hown1 hgrow hown he hdl
              go_region_law (refine step_copy_splice rfl (.tmp 56) (.tmp 59) 31 31 rfl 35 Tryz.underlying31 hsz1 (if cap = lo + 1 then some (⟨g, 0, none⟩ : Addr) else some ⟨g, lo + 1, none⟩) (some ⟨g, lo, none⟩) (m - lo) (cap - (lo + 1)) (m + 1 - lo) (cap - lo) (by simp [Act.eval, Act.put]) (by simp [Act.eval, Act.put]) g (lo + 1) cur 35 hheap' (uV e) hmin HPOS.out hfit (uV_cell _) w.heap.size w hbel' hbg ?_; intro w4 HG4 hb4)
              have hput := HG4.out
              have c4 : w4.cell? ⟨b, off + k, none⟩ = some (.int .u64 x) := (hb4.cell (p := ⟨b, off + k, none⟩) hb).trans ((HBX.out.cell (p := ⟨b, off + k, none⟩) hb).symm.trans c0)
              have hbw4 : b < w4.heap.size := by have := hb4.size; omega
              have hg4 : g < w4.heap.size := (Array.getElem?_eq_some_iff.1 hput).1
              have hsl : lo < (splice cur (lo + 1) (uV e)).length := by rw [length_splice _ _ _ hfit, HCL.out]; omega
              have c5 : w4.cell? ⟨g, lo, none⟩ = some (splice cur (lo + 1) (uV e))[lo] := by
                rw [cell_of_row _ _ _ _ _ _ hput, List.getElem?_toArray, List.getElem?_eq_getElem hsl]
              have hf5 : w4.frozen? ⟨g, lo, none⟩ = false := by simp [World.frozen?, hput]
              have HG5 := Lib.hid (hput)
              generalize (splice cur (lo + 1) (uV e))[lo] = y5 at c5
              have HB5 : Hid (Below w.heap.size w (w4.setCell ⟨g, lo, none⟩ (.int .u64 x))) := hb4.setCell hbg _
              have HOWN5 : Hid ((w4.setCell ⟨g, lo, none⟩ (.int .u64 x)).ownsRow w.heap.size 35 1 (.slice (some ⟨g, 0, none⟩) (m + 1) cap) (m + 1) (uV (setF (l.take (k + 1))))) := by
                have hh : w4.heap[g]? = some (.cells (splice cur (lo + 1) (uV (s.drop lo))).toArray 35 (0, 0)) := by rw [HDE.out]; exact hput
                have := own_put (x := x) hbg HM.out h2 hcap hmax HCL.out HTK.out hh
                rw [← HPUT.out] at this
                exact this
              have HLEN : Hid ((setF (l.take (k + 1))).length = m + 1) := by
                show _ = _
                rw [HPUT.out, List.length_append, List.length_cons, List.length_take, List.length_drop, HM.out]
                omega
              clear hput hb4 hsl hheap hheap' hbel hbel' hfit hmin
              go_wp2_with (first | (with_reducible refine wp_region_lex (by kernel_rfl) (by kernel_rfl) ?_) | (with_reducible refine OnlyG.intro (by kernel_rfl) ?_))
              go_roundw
              case rel => exact ⟨k + 1, m + 1, by omega, by omega, by go_num, HLEN.out, HOWN5.out, HB5.out⟩
              case measure => simp [intOf]; omega
    · obtain rfl : k = n := by omega
      have HT : Hid (s = setF l) := by show _ = _; rw [← HS.out, ← HN.out, List.take_length]
      have hwd := words_own HM.out.symm hown
      have hJ : Hid (JoinedO w (setF l) (.returned (.slice vo m vc)) wr) := ⟨vo, vc, by rw [← HT.out, HM.out], by rw [← HT.out, HM.out]; exact hown, hnx⟩
      clear hwd hown hnx
      go_wp2
      go_ret
      exact hJ.out
end Go.Proofs.YtdbfimdcaacjhaaGreat
/- Contracts of apiaryref1.around, beside. -/
namespace Go.Proofs.YtdbfimdcaacjhaaGreat
open Go.RowKit Go.Lib Wd
set_option maxRecDepth 100000 in
set_option maxHeartbeats 8000000 in
theorem beside_own (r : Int) (z : E2) (ao : Option Addr) (c : Nat) (L : List E2) (w : World) (h : EAt w ao L) (hz : Sm 1073741824 z) (hL : ∀ y ∈ L, Sm 1000 y) (hn : L.length ≤ 5000000) :
    Calls Tryz.prog 99 #[vC r z, .slice ao L.length c] w (JoinedO w (besL r z L)) := by
  obtain ⟨i0, hi, hz0, hz1, hz2⟩ := info_parts info_u
  have HE := Lib.hid h
  have HS := Lib.hid hL
  have HT1 := Lib.hid (tellL_app r)
  have HT2 := Lib.hid (tellL_one r)
  have HOF := Lib.hid (word_any r)
  have HOE : Hid (∀ z, ofE r z = if okB r z = true then 0 else 2) := fun z => rfl
  have HBL : Hid (besL r z L = setF (tellL r (L.map (addE z)))) := rfl
  have HMT : Hid (∀ k, k < L.length → (L.take (k + 1)).map (addE z) = (L.take k).map (addE z) ++ [((z.1 + (eg L k).1), (z.2 + (eg L k).2))]) := fun k hk => by rw [take_e L hk, List.map_append]; rfl
  have HEM : Hid (∀ k, k < L.length → Sm 1000 (eg L k)) := fun k hk => hL _ (by unfold eg; rw [List.getD_eq_getElem?_getD, List.getElem?_eq_getElem hk]; exact List.getElem_mem hk)
  obtain ⟨n, hnn⟩ : ∃ n, L.length = n := ⟨_, rfl⟩
  have HN := Lib.hid hnn
  have HTL : Hid (∀ k, n ≤ k → L.take k = L) := fun k hk => List.take_of_length_le (by rw [hnn]; exact hk)
  rw [hnn] at hn HMT HEM ⊢
  unfold Sm at hz
  obtain ⟨z1, z2, z3, z4⟩ := hz
  have HTR : Hid (Tri (w.alloc (.cells #[.int .i64 r, .int .i64 z.1, .int .i64 z.2] 27)) w.heap.size r z) := heap_new _ _ _ rfl
  have HAL : Hid (Below w.heap.size w (w.alloc (.cells #[.int .i64 r, .int .i64 z.1, .int .i64 z.2] 27))) := (Below.refl _ _).alloc (Nat.le_refl _) _
  clear hnn h hL
  simp only [vC] at *
  go_enter Tryz.func99, Tryz.ntmps99
  go_upto_region 1 with (fail)
  generalize w.alloc (.cells #[.int .i64 r, .int .i64 z.1, .int .i64 z.2] 27) = w2 at *
  have HE2 := Lib.hid (HE.out.below HAL.out)
  have hw2 := HTR.out.lt
  go_wp2
  go_loopw [5, 6] (fun sl i wr => ∃ (k m : Nat) (bo : Option Addr) (d : Nat), k ≤ n ∧ i = .int .i64 k ∧ m ≤ k ∧ sl = .slice bo m d ∧ Hid ((tellL r ((L.take k).map (addE z))).length = m) ∧ Hid (wr.ownsRow w2.heap.size 35 1 (.slice bo m d) m (uV (tellL r ((L.take k).map (addE z)))) ∧ Below w2.heap.size w2 wr)) (fun _ i _ => n - (intOf i).toNat)
  case atStart => exact ⟨0, 0, _, _, by omega, rfl, by omega, rfl, rfl, World.ownsRow_nil _ _ _ _, Below.refl _ _⟩
  case round =>
    obtain ⟨k, m, bo, d, hk, rfl, hmk, rfl, HLEN, HI⟩ := hrel
    by_cases hlt : k < n
    · obtain ⟨g, off, rfl, hg, hc⟩ := (HE2.out.below HI.out.2) (by rw [HN.out]; omega)
      obtain ⟨c0, c1⟩ := hc k (by rw [HN.out]; exact hlt)
      have hy := HEM.out k hlt
      have HMK := Lib.hid (HMT.out k hlt)
      generalize eg L k = y at *
      unfold Sm at hy
      obtain ⟨y1, y2, y3, y4⟩ := hy
      have HTX := Lib.hid (HTR.out.later HI.out.2)
      have HCX : Hid (∀ wx, Below wr.heap.size wr wx → Tri wx w.heap.size r z ∧ wx.cell? ⟨g, off + k * 2, none⟩ = some (.int .i64 y.1) ∧ wx.cell? ⟨g, off + k * 2 + 1, none⟩ = some (.int .i64 y.2)) := fun wx hx => ⟨HTX.out.later hx, (hx.cell (p := ⟨g, _, none⟩) hg).trans c0, (hx.cell (p := ⟨g, _, none⟩) hg).trans c1⟩
      obtain ⟨t0, t1, t2, t3, t4, t5, t6⟩ := HTX.out.cells
      have HW := Lib.hid (HOF.out (z.1 + y.1, z.2 + y.2))
      have HT2z := Lib.hid (HT2.out (z.1 + y.1, z.2 + y.2))
      have HOEz := Lib.hid (HOE.out (z.1 + y.1, z.2 + y.2))
      clear hc
      go_upto_region 5 with (fail)
      clear c0 c1 t0 t1 t2 t3 t4 t5 HTX
      obtain ⟨v, hv⟩ : ∃ v, ofW r (z.1 + y.1, z.2 + y.2) = v := ⟨_, rfl⟩
      obtain ⟨ev, hev⟩ : ∃ v, ofE r (z.1 + y.1, z.2 + y.2) = v := ⟨_, rfl⟩
      rw [hv] at HW HT2z
      rw [hev] at HW HOEz
      clear hv hev
      simp only at HW
      refine wp_region_inv (fun w w' => Below w.heap.size w w') (fun qi_ qv_ _ => qv_ = ([.pointer (some ⟨w.heap.size, 0, none⟩), .int .i64 r, .pointer (some ⟨w.heap.size, 1, none⟩), .pointer (some ⟨w.heap.size, 1, none⟩), .int .i64 z.1, .slice (some ⟨g, off, none⟩) n c, .int .i64 k, .pointer (some ⟨g, off + k * 2, none⟩), .pointer (some ⟨g, off + k * 2, none⟩), .int .i64 y.1, .int .i64 (z.1 + y.1), .pointer (some ⟨w.heap.size, 1, none⟩), .pointer (some ⟨w.heap.size, 2, none⟩), .int .i64 z.2, .slice (some ⟨g, off, none⟩) n c, .int .i64 k, .pointer (some ⟨g, off + k * 2, none⟩), .pointer (some ⟨g, off + k * 2 + 1, none⟩), .int .i64 y.2, .int .i64 (z.2 + y.2), .agg #[.int .i64 (z.1 + y.1), .int .i64 (z.2 + y.2)], .agg #[.int .i64 r, .int .i64 (z.1 + y.1), .int .i64 (z.2 + y.2)], .tuple #[.int .u64 v, .int .i64 ev], .tuple #[.int .u64 v, .int .i64 ev], .int .u64 v, .int .i64 ev, .int .u64 v, .int .i64 ev] : List Value).getD qi_ undef) (by kernel_rfl) (by kernel_rfl) (fun _ => Below.refl _ _) (fun _ _ _ h1 h2 => below_later h1 h1.size h2) (fun _ _ _ _ _ _ h => h) ?_
      refine inv_cons (fun wx hg hd => ?_) (fun v0 => ?_)
      · have hx := ((Below.refl wr.heap.size wr).drew).trans hg
        clear hd hg
        go_wp2
        exact ⟨_, rfl, Below.refl _ _, rfl⟩
      (try simp only [List.nil_append, Act.put, List.setIfInBounds_toArray, List.set_cons_zero, List.set_cons_succ])
      refine inv_cons (fun wx hg hd => ?_) (fun v1 => ?_)
      · have hx := ((Below.refl wr.heap.size wr).drew).trans hg
        (try (have ee : v0 = (.pointer (some ⟨w.heap.size, 0, none⟩) : Value) := hd 0 (by simp) (by decide); subst ee))
        clear hd hg
        obtain ⟨k0, k1, k2⟩ := HCX.out _ hx
        obtain ⟨t0, t1, t2, t3, t4, t5, t6⟩ := k0.cells
        clear k0
        go_wp2
        exact ⟨_, rfl, Below.refl _ _, rfl⟩
      (try simp only [List.cons_append, List.nil_append, Act.put, List.setIfInBounds_toArray, List.set_cons_zero, List.set_cons_succ])
      refine inv_cons (fun wx hg hd => ?_) (fun v2 => ?_)
      · have hx := ((Below.refl wr.heap.size wr).drew).trans hg
        clear hd hg
        go_wp2
        exact ⟨_, rfl, Below.refl _ _, rfl⟩
      (try simp only [List.cons_append, List.nil_append, Act.put, List.setIfInBounds_toArray, List.set_cons_zero, List.set_cons_succ])
      refine inv_cons (fun wx hg hd => ?_) (fun v3 => ?_)
      · have hx := ((Below.refl wr.heap.size wr).drew).trans hg
        (try (have ee : v2 = (.pointer (some ⟨w.heap.size, 1, none⟩) : Value) := hd 2 (by simp) (by decide); subst ee))
        clear hd hg
        go_wp2
        exact ⟨_, rfl, Below.refl _ _, rfl⟩
      (try simp only [List.cons_append, List.nil_append, Act.put, List.setIfInBounds_toArray, List.set_cons_zero, List.set_cons_succ])
      refine inv_cons (fun wx hg hd => ?_) (fun v4 => ?_)
      · have hx := ((Below.refl wr.heap.size wr).drew).trans hg
        (try (have ee : v3 = (.pointer (some ⟨w.heap.size, 1, none⟩) : Value) := hd 3 (by simp) (by decide); subst ee))
        clear hd hg
        obtain ⟨k0, k1, k2⟩ := HCX.out _ hx
        obtain ⟨t0, t1, t2, t3, t4, t5, t6⟩ := k0.cells
        clear k0
        go_wp2
        exact ⟨_, rfl, Below.refl _ _, rfl⟩
      (try simp only [List.cons_append, List.nil_append, Act.put, List.setIfInBounds_toArray, List.set_cons_zero, List.set_cons_succ])
      refine inv_cons (fun wx hg hd => ?_) (fun v5 => ?_)
      · have hx := ((Below.refl wr.heap.size wr).drew).trans hg
        clear hd hg
        go_wp2
        exact ⟨_, rfl, Below.refl _ _, rfl⟩
      (try simp only [List.cons_append, List.nil_append, Act.put, List.setIfInBounds_toArray, List.set_cons_zero, List.set_cons_succ])
      refine inv_cons (fun wx hg hd => ?_) (fun v6 => ?_)
      · have hx := ((Below.refl wr.heap.size wr).drew).trans hg
        clear hd hg
        go_wp2
        exact ⟨_, rfl, Below.refl _ _, rfl⟩
      (try simp only [List.cons_append, List.nil_append, Act.put, List.setIfInBounds_toArray, List.set_cons_zero, List.set_cons_succ])
      refine inv_cons (fun wx hg hd => ?_) (fun v7 => ?_)
      · have hx := ((Below.refl wr.heap.size wr).drew).trans hg
        (try (have ee : v5 = (.slice (some ⟨g, off, none⟩) n c : Value) := hd 5 (by simp) (by decide); subst ee))
        (try (have ee : v6 = (.int .i64 k : Value) := hd 6 (by simp) (by decide); subst ee))
        clear hd hg
        go_wp2
        exact ⟨_, rfl, Below.refl _ _, rfl⟩
      (try simp only [List.cons_append, List.nil_append, Act.put, List.setIfInBounds_toArray, List.set_cons_zero, List.set_cons_succ])
      refine inv_cons (fun wx hg hd => ?_) (fun v8 => ?_)
      · have hx := ((Below.refl wr.heap.size wr).drew).trans hg
        (try (have ee : v7 = (.pointer (some ⟨g, off + k * 2, none⟩) : Value) := hd 7 (by simp) (by decide); subst ee))
        clear hd hg
        go_wp2
        exact ⟨_, rfl, Below.refl _ _, rfl⟩
      (try simp only [List.cons_append, List.nil_append, Act.put, List.setIfInBounds_toArray, List.set_cons_zero, List.set_cons_succ])
      refine inv_cons (fun wx hg hd => ?_) (fun v9 => ?_)
      · have hx := ((Below.refl wr.heap.size wr).drew).trans hg
        (try (have ee : v8 = (.pointer (some ⟨g, off + k * 2, none⟩) : Value) := hd 8 (by simp) (by decide); subst ee))
        clear hd hg
        obtain ⟨k0, k1, k2⟩ := HCX.out _ hx
        clear k0
        go_wp2
        exact ⟨_, rfl, Below.refl _ _, rfl⟩
      (try simp only [List.cons_append, List.nil_append, Act.put, List.setIfInBounds_toArray, List.set_cons_zero, List.set_cons_succ])
      refine inv_cons (fun wx hg hd => ?_) (fun v10 => ?_)
      · have hx := ((Below.refl wr.heap.size wr).drew).trans hg
        (try (have ee : v4 = (.int .i64 z.1 : Value) := hd 4 (by simp) (by decide); subst ee))
        (try (have ee : v9 = (.int .i64 y.1 : Value) := hd 9 (by simp) (by decide); subst ee))
        clear hd hg
        go_wp2
        exact ⟨_, rfl, Below.refl _ _, rfl⟩
      (try simp only [List.cons_append, List.nil_append, Act.put, List.setIfInBounds_toArray, List.set_cons_zero, List.set_cons_succ])
      refine inv_cons (fun wx hg hd => ?_) (fun v11 => ?_)
      · have hx := ((Below.refl wr.heap.size wr).drew).trans hg
        clear hd hg
        go_wp2
        exact ⟨_, rfl, Below.refl _ _, rfl⟩
      (try simp only [List.cons_append, List.nil_append, Act.put, List.setIfInBounds_toArray, List.set_cons_zero, List.set_cons_succ])
      refine inv_cons (fun wx hg hd => ?_) (fun v12 => ?_)
      · have hx := ((Below.refl wr.heap.size wr).drew).trans hg
        (try (have ee : v11 = (.pointer (some ⟨w.heap.size, 1, none⟩) : Value) := hd 11 (by simp) (by decide); subst ee))
        clear hd hg
        go_wp2
        exact ⟨_, rfl, Below.refl _ _, rfl⟩
      (try simp only [List.cons_append, List.nil_append, Act.put, List.setIfInBounds_toArray, List.set_cons_zero, List.set_cons_succ])
      refine inv_cons (fun wx hg hd => ?_) (fun v13 => ?_)
      · have hx := ((Below.refl wr.heap.size wr).drew).trans hg
        (try (have ee : v12 = (.pointer (some ⟨w.heap.size, 2, none⟩) : Value) := hd 12 (by simp) (by decide); subst ee))
        clear hd hg
        obtain ⟨k0, k1, k2⟩ := HCX.out _ hx
        obtain ⟨t0, t1, t2, t3, t4, t5, t6⟩ := k0.cells
        clear k0
        go_wp2
        exact ⟨_, rfl, Below.refl _ _, rfl⟩
      (try simp only [List.cons_append, List.nil_append, Act.put, List.setIfInBounds_toArray, List.set_cons_zero, List.set_cons_succ])
      refine inv_cons (fun wx hg hd => ?_) (fun v14 => ?_)
      · have hx := ((Below.refl wr.heap.size wr).drew).trans hg
        clear hd hg
        go_wp2
        exact ⟨_, rfl, Below.refl _ _, rfl⟩
      (try simp only [List.cons_append, List.nil_append, Act.put, List.setIfInBounds_toArray, List.set_cons_zero, List.set_cons_succ])
      refine inv_cons (fun wx hg hd => ?_) (fun v15 => ?_)
      · have hx := ((Below.refl wr.heap.size wr).drew).trans hg
        clear hd hg
        go_wp2
        exact ⟨_, rfl, Below.refl _ _, rfl⟩
      (try simp only [List.cons_append, List.nil_append, Act.put, List.setIfInBounds_toArray, List.set_cons_zero, List.set_cons_succ])
      refine inv_cons (fun wx hg hd => ?_) (fun v16 => ?_)
      · have hx := ((Below.refl wr.heap.size wr).drew).trans hg
        (try (have ee : v14 = (.slice (some ⟨g, off, none⟩) n c : Value) := hd 14 (by simp) (by decide); subst ee))
        (try (have ee : v15 = (.int .i64 k : Value) := hd 15 (by simp) (by decide); subst ee))
        clear hd hg
        go_wp2
        exact ⟨_, rfl, Below.refl _ _, rfl⟩
      (try simp only [List.cons_append, List.nil_append, Act.put, List.setIfInBounds_toArray, List.set_cons_zero, List.set_cons_succ])
      refine inv_cons (fun wx hg hd => ?_) (fun v17 => ?_)
      · have hx := ((Below.refl wr.heap.size wr).drew).trans hg
        (try (have ee : v16 = (.pointer (some ⟨g, off + k * 2, none⟩) : Value) := hd 16 (by simp) (by decide); subst ee))
        clear hd hg
        go_wp2
        exact ⟨_, rfl, Below.refl _ _, rfl⟩
      (try simp only [List.cons_append, List.nil_append, Act.put, List.setIfInBounds_toArray, List.set_cons_zero, List.set_cons_succ])
      refine inv_cons (fun wx hg hd => ?_) (fun v18 => ?_)
      · have hx := ((Below.refl wr.heap.size wr).drew).trans hg
        (try (have ee : v17 = (.pointer (some ⟨g, off + k * 2 + 1, none⟩) : Value) := hd 17 (by simp) (by decide); subst ee))
        clear hd hg
        obtain ⟨k0, k1, k2⟩ := HCX.out _ hx
        clear k0
        go_wp2
        exact ⟨_, rfl, Below.refl _ _, rfl⟩
      (try simp only [List.cons_append, List.nil_append, Act.put, List.setIfInBounds_toArray, List.set_cons_zero, List.set_cons_succ])
      refine inv_cons (fun wx hg hd => ?_) (fun v19 => ?_)
      · have hx := ((Below.refl wr.heap.size wr).drew).trans hg
        (try (have ee : v13 = (.int .i64 z.2 : Value) := hd 13 (by simp) (by decide); subst ee))
        (try (have ee : v18 = (.int .i64 y.2 : Value) := hd 18 (by simp) (by decide); subst ee))
        clear hd hg
        go_wp2
        exact ⟨_, rfl, Below.refl _ _, rfl⟩
      (try simp only [List.cons_append, List.nil_append, Act.put, List.setIfInBounds_toArray, List.set_cons_zero, List.set_cons_succ])
      refine inv_cons (fun wx hg hd => ?_) (fun v20 => ?_)
      · have hx := ((Below.refl wr.heap.size wr).drew).trans hg
        (try (have ee : v10 = (.int .i64 (z.1 + y.1) : Value) := hd 10 (by simp) (by decide); subst ee))
        (try (have ee : v19 = (.int .i64 (z.2 + y.2) : Value) := hd 19 (by simp) (by decide); subst ee))
        clear hd hg
        go_wp2
        exact ⟨_, rfl, Below.refl _ _, rfl⟩
      (try simp only [List.cons_append, List.nil_append, Act.put, List.setIfInBounds_toArray, List.set_cons_zero, List.set_cons_succ])
      refine inv_cons (fun wx hg hd => ?_) (fun v21 => ?_)
      · have hx := ((Below.refl wr.heap.size wr).drew).trans hg
        (try (have ee : v1 = (.int .i64 r : Value) := hd 1 (by simp) (by decide); subst ee))
        (try (have ee : v20 = (.agg #[.int .i64 (z.1 + y.1), .int .i64 (z.2 + y.2)] : Value) := hd 20 (by simp) (by decide); subst ee))
        clear hd hg
        go_wp2
        exact ⟨_, rfl, Below.refl _ _, rfl⟩
      (try simp only [List.cons_append, List.nil_append, Act.put, List.setIfInBounds_toArray, List.set_cons_zero, List.set_cons_succ])
      refine inv_cons (fun wx hg hd => ?_) (fun v22 => ?_)
      · have hx := ((Below.refl wr.heap.size wr).drew).trans hg
        (try (have ee : v21 = (.agg #[.int .i64 r, .int .i64 (z.1 + y.1), .int .i64 (z.2 + y.2)] : Value) := hd 21 (by simp) (by decide); subst ee))
        clear hd hg
        go_wp2_with fail
        refine (HW.out _).mono ?_
        rintro e w' ⟨rfl, hb⟩
        go_wp2
        exact ⟨_, rfl, hb, rfl⟩
      (try simp only [List.cons_append, List.nil_append, Act.put, List.setIfInBounds_toArray, List.set_cons_zero, List.set_cons_succ])
      refine inv_cons (fun wx hg hd => ?_) (fun v23 => ?_)
      · have hx := ((Below.refl wr.heap.size wr).drew).trans hg
        (try (have ee : v22 = (.tuple #[.int .u64 v, .int .i64 ev] : Value) := hd 22 (by simp) (by decide); subst ee))
        clear hd hg
        go_wp2
        exact ⟨_, rfl, Below.refl _ _, rfl⟩
      (try simp only [List.cons_append, List.nil_append, Act.put, List.setIfInBounds_toArray, List.set_cons_zero, List.set_cons_succ])
      refine inv_cons (fun wx hg hd => ?_) (fun v24 => ?_)
      · have hx := ((Below.refl wr.heap.size wr).drew).trans hg
        (try (have ee : v23 = (.tuple #[.int .u64 v, .int .i64 ev] : Value) := hd 23 (by simp) (by decide); subst ee))
        clear hd hg
        go_wp2
        exact ⟨_, rfl, Below.refl _ _, rfl⟩
      (try simp only [List.cons_append, List.nil_append, Act.put, List.setIfInBounds_toArray, List.set_cons_zero, List.set_cons_succ])
      refine inv_cons (fun wx hg hd => ?_) (fun v25 => ?_)
      · have hx := ((Below.refl wr.heap.size wr).drew).trans hg
        (try (have ee : v23 = (.tuple #[.int .u64 v, .int .i64 ev] : Value) := hd 23 (by simp) (by decide); subst ee))
        clear hd hg
        go_wp2
        exact ⟨_, rfl, Below.refl _ _, rfl⟩
      (try simp only [List.cons_append, List.nil_append, Act.put, List.setIfInBounds_toArray, List.set_cons_zero, List.set_cons_succ])
      refine inv_cons (fun wx hg hd => ?_) (fun v26 => ?_)
      · have hx := ((Below.refl wr.heap.size wr).drew).trans hg
        (try (have ee : v24 = (.int .u64 v : Value) := hd 24 (by simp) (by decide); subst ee))
        clear hd hg
        go_wp2
        exact ⟨_, rfl, Below.refl _ _, rfl⟩
      (try simp only [List.cons_append, List.nil_append, Act.put, List.setIfInBounds_toArray, List.set_cons_zero, List.set_cons_succ])
      refine inv_cons (fun wx hg hd => ?_) (fun v27 => ?_)
      · have hx := ((Below.refl wr.heap.size wr).drew).trans hg
        (try (have ee : v25 = (.int .i64 ev : Value) := hd 25 (by simp) (by decide); subst ee))
        clear hd hg
        go_wp2
        exact ⟨_, rfl, Below.refl _ _, rfl⟩
      (try simp only [List.cons_append, List.nil_append, Act.put, List.setIfInBounds_toArray, List.set_cons_zero, List.set_cons_succ])
      refine inv_done (fun wx hg hd => ?_)
      have hx := ((Below.refl wr.heap.size wr).drew).trans hg
      (have ee : v0 = (.pointer (some ⟨w.heap.size, 0, none⟩) : Value) := hd 0 (by simp); subst ee)
      (have ee : v1 = (.int .i64 r : Value) := hd 1 (by simp); subst ee)
      (have ee : v2 = (.pointer (some ⟨w.heap.size, 1, none⟩) : Value) := hd 2 (by simp); subst ee)
      (have ee : v3 = (.pointer (some ⟨w.heap.size, 1, none⟩) : Value) := hd 3 (by simp); subst ee)
      (have ee : v4 = (.int .i64 z.1 : Value) := hd 4 (by simp); subst ee)
      (have ee : v5 = (.slice (some ⟨g, off, none⟩) n c : Value) := hd 5 (by simp); subst ee)
      (have ee : v6 = (.int .i64 k : Value) := hd 6 (by simp); subst ee)
      (have ee : v7 = (.pointer (some ⟨g, off + k * 2, none⟩) : Value) := hd 7 (by simp); subst ee)
      (have ee : v8 = (.pointer (some ⟨g, off + k * 2, none⟩) : Value) := hd 8 (by simp); subst ee)
      (have ee : v9 = (.int .i64 y.1 : Value) := hd 9 (by simp); subst ee)
      (have ee : v10 = (.int .i64 (z.1 + y.1) : Value) := hd 10 (by simp); subst ee)
      (have ee : v11 = (.pointer (some ⟨w.heap.size, 1, none⟩) : Value) := hd 11 (by simp); subst ee)
      (have ee : v12 = (.pointer (some ⟨w.heap.size, 2, none⟩) : Value) := hd 12 (by simp); subst ee)
      (have ee : v13 = (.int .i64 z.2 : Value) := hd 13 (by simp); subst ee)
      (have ee : v14 = (.slice (some ⟨g, off, none⟩) n c : Value) := hd 14 (by simp); subst ee)
      (have ee : v15 = (.int .i64 k : Value) := hd 15 (by simp); subst ee)
      (have ee : v16 = (.pointer (some ⟨g, off + k * 2, none⟩) : Value) := hd 16 (by simp); subst ee)
      (have ee : v17 = (.pointer (some ⟨g, off + k * 2 + 1, none⟩) : Value) := hd 17 (by simp); subst ee)
      (have ee : v18 = (.int .i64 y.2 : Value) := hd 18 (by simp); subst ee)
      (have ee : v19 = (.int .i64 (z.2 + y.2) : Value) := hd 19 (by simp); subst ee)
      (have ee : v20 = (.agg #[.int .i64 (z.1 + y.1), .int .i64 (z.2 + y.2)] : Value) := hd 20 (by simp); subst ee)
      (have ee : v21 = (.agg #[.int .i64 r, .int .i64 (z.1 + y.1), .int .i64 (z.2 + y.2)] : Value) := hd 21 (by simp); subst ee)
      (have ee : v22 = (.tuple #[.int .u64 v, .int .i64 ev] : Value) := hd 22 (by simp); subst ee)
      (have ee : v23 = (.tuple #[.int .u64 v, .int .i64 ev] : Value) := hd 23 (by simp); subst ee)
      (have ee : v24 = (.int .u64 v : Value) := hd 24 (by simp); subst ee)
      (have ee : v25 = (.int .i64 ev : Value) := hd 25 (by simp); subst ee)
      (have ee : v26 = (.int .u64 v : Value) := hd 26 (by simp); subst ee)
      (have ee : v27 = (.int .i64 ev : Value) := hd 27 (by simp); subst ee)
      clear hd hg
      (try go_simp)
      have hown := own_later HI.out.1 hx
      have HB8 := Lib.hid (HI.out.2.trans (hx.mono HI.out.2.size))
      have hz8 := HB8.out.size
      have HTA := Lib.hid (HT1.out ((L.take k).map (addE z)) [(z.1 + y.1, z.2 + y.2)])
      clear hx HI HCX
      by_cases hokz : okB r (z.1 + y.1, z.2 + y.2) = true
      · have HNX : Hid (tellL r ((L.take (k + 1)).map (addE z)) = tellL r ((L.take k).map (addE z)) ++ [(v : Int)]) := by show _ = _; rw [HMK.out, HTA.out, HT2z.out, if_pos hokz]
        have h0E : ev = 0 := by rw [HOEz.out, if_pos hokz]
        subst h0E
        go_wp2_with (at_builtin; refine wpList_append_own _ rfl (.tmp 43) (.tmp 45) 31 rfl w2.heap.size 35 i0 (.int .u64 0) 1 8 Tryz.underlying31 hi hz0 hz1 hz2 rfl (by decide) _ _ _ rfl (hown.alloc _) ⟨wx.heap.size, 0, none⟩ 1 1 [.int .u64 v] rfl rfl (cells_new _ _ _ _ rfl) (by simp [Value.oneCell']) (by unfold maxLen; omega) (by omega) (by simp; omega) ?_; intro v' w9 hown1 hgrow _)
        have HB9 : Hid (Below w2.heap.size w2 w9) := below_append (HB8.out.alloc (by omega) (.cells #[.int .u64 v] 35)) (hown.alloc (.cells #[.int .u64 v] 35)) (by simp; omega) hgrow
        obtain ⟨ao', c', rfl, _⟩ := own_form hown1
        have ho9 : w9.ownsRow w2.heap.size 35 1 (.slice ao' (m + 1) c') (m + 1) (uV (tellL r ((L.take (k + 1)).map (addE z)))) := by rw [HNX.out]; simpa [uV] using hown1
        have HO9 := Lib.hid ho9
        have HLN : Hid ((tellL r ((L.take (k + 1)).map (addE z))).length = m + 1) := by show _ = _; rw [HNX.out, List.length_append, HLEN.out]; rfl
        clear hown1 hgrow hown ho9
        go_wp2
        go_roundw
        case rel => exact ⟨k + 1, m + 1, ao', c', by omega, by go_num, by omega, rfl, HLN.out, HO9.out, HB9.out⟩
        case measure => simp [intOf]; omega
      · have HNX : Hid (tellL r ((L.take (k + 1)).map (addE z)) = tellL r ((L.take k).map (addE z))) := by show _ = _; rw [HMK.out, HTA.out, HT2z.out, if_neg hokz, List.append_nil]
        have h0E : ev = 2 := by rw [HOEz.out, if_neg hokz]
        subst h0E
        have HLN : Hid ((tellL r ((L.take (k + 1)).map (addE z))).length = m) := by show _ = _; rw [HNX.out, HLEN.out]
        have HO7 := Lib.hid hown
        rw [← HNX.out] at HO7
        clear hown
        go_wp2
        go_roundw
        case rel => exact ⟨k + 1, m, bo, d, by omega, by go_num, by omega, rfl, HLN.out, HO7.out, HB8.out⟩
        case measure => simp [intOf]; omega
    · have hkn : n ≤ k := by omega
      rw [HTL.out k hkn] at HLEN HI
      have hwo := words_own HLEN.out.symm HI.out.1
      have HSE := Lib.hid (rset_own bo d _ wr hwo (by rw [HLEN.out]; omega))
      rw [HLEN.out, ← HBL.out] at HSE
      have HB8 := Lib.hid (HAL.out.trans (HI.out.2.mono HAL.out.size))
      clear hwo HI HLEN
      go_wp2_with fail
      refine HSE.out.mono ?_
      rintro e w5 ⟨qo, q, rfl, hq, hb5⟩
      have HF : Hid (JoinedO w (besL r z L) (.returned (.slice qo (besL r z L).length q)) w5) := ⟨qo, q, rfl, own_base hq HB8.out.size, HB8.out.trans (hb5.mono HB8.out.size)⟩
      clear hq hb5
      go_wp2
      go_ret
      exact HF.out
end Go.Proofs.YtdbfimdcaacjhaaGreat
/- Contracts of apiaryref1.Neighbours, Ring, Disk. -/
namespace Go.Proofs.YtdbfimdcaacjhaaGreat
open Go.RowKit Go.Lib Wd

/-- What is told: a row of the call's own, and an error. -/
def ToldOwn (w : World) (L : List Int) (E : Int) (e : Ending) (w' : World) : Prop := ∃ ao c, e = .returned (.tuple #[.slice ao L.length c, .int .i64 E]) ∧ w'.ownsRow w.heap.size 35 1 (.slice ao L.length c) L.length (uV L) ∧ Below w.heap.size w w'
theorem ToldOwn.nil {w w' : World} {E : Int} (h : Below w.heap.size w w') : ToldOwn w [] E (.returned (.tuple #[.slice none 0 0, .int .i64 E])) w' := ⟨Option.none, 0, rfl, World.ownsRow_nil _ _ _ _, h⟩
set_option maxRecDepth 100000 in
set_option maxHeartbeats 8000000 in
theorem rnei_own (w0 : Nat) (hw0 : w0 < 18446744073709551616) (w : World) : Calls Tryz.prog 64 #[.int .u64 w0] w (ToldOwn w (rgsL w0 1 1 1) (rgsE w0 1 1)) := by
  obtain ⟨i1, hj, hy0, hy1, hy2⟩ := info_parts info_e
  have HCE := Lib.hid (rcell_any w0 hw0)
  have hsm := cv_sm w0
  rcases isW_cv (w0 := w0) with ⟨hW, hE⟩ | ⟨hW, hE⟩
  · rw [hE] at HCE
    have e1 : rgsE w0 1 1 = 0 := by unfold rgsE; rw [if_pos hW, if_neg (by omega), if_neg (by omega)]
    have e2 : rgsL w0 1 1 1 = besL (cvR w0) (cvZ w0) unitL := by
      unfold rgsL
      rw [if_pos e1]
      exact (bes_eq hW unitL_mem).symm
    rw [e1, e2]
    have HBE := Lib.hid (fun ao c w (h : EAt w ao unitL) => beside_own (cvR w0) (cvZ w0) ao c unitL w h hsm (fun y hy => sm_steps (by have := ((unitL_mem y).1 hy).2; omega)) (by decide))
    have HUT := Lib.hid (fun k (h : k < 6) => unitL_take h)
    have HUL : Hid (unitL.length = 6) := by show _ = _; decide
    generalize besL (cvR w0) (cvZ w0) unitL = B at *
    generalize unitL = L at *
    generalize cvR w0 = R at *
    generalize cvZ w0 = z at *
    clear e1 e2 hE hW hsm
    simp only [vC] at *
    go_enter Tryz.func64, Tryz.ntmps64
    go_wp2_with fail
    refine (HCE.out _).mono ?_
    rintro e w2 ⟨rfl, hb2⟩
    have HB : Hid (Below w.heap.size w (w2.alloc (.cells #[.int .i64 R, .int .i64 z.1, .int .i64 z.2] 27))) := hb2.alloc hb2.size _
    have HC : Hid (Tri (w2.alloc (.cells #[.int .i64 R, .int .i64 z.1, .int .i64 z.2] 27)) w2.heap.size R z) := heap_new _ _ _ rfl
    clear hb2
    go_upto_region 4 with (fail)
    generalize w2.alloc (.cells #[.int .i64 R, .int .i64 z.1, .int .i64 z.2] 27) = w3 at *
    have hwl := HC.out.lt
    go_wp2
    go_loopw [6, 7] (fun sl i wr => ∃ (k : Nat) (ao : Option Addr) (c : Nat), k ≤ 6 ∧ i = .int .i64 k ∧ sl = .slice ao k c ∧ Hid (wr.ownsRow w3.heap.size 23 2 (.slice ao k c) k (eV (L.take k)) ∧ Below w3.heap.size w3 wr)) (fun _ i _ => 6 - (intOf i).toNat)
    case atStart => exact ⟨0, _, _, by omega, rfl, rfl, World.ownsRow_nil _ _ _ _, Below.refl _ _⟩
    case round =>
      obtain ⟨k, ao, c, hk, rfl, rfl, HI⟩ := hrel
      by_cases hlt : k < 6
      · have HUN := Lib.hid (runit_in k hlt)
        have HTK := Lib.hid (HUT.out k hlt)
        simp only [vE] at HUN
        generalize unitE k = u at *
        go_wp2_with fail
        refine (HUN.out _).mono ?_
        rintro e w5 ⟨rfl, hb5⟩
        have hown := own_later HI.out.1 hb5
        have HB5 := Lib.hid (HI.out.2.trans (hb5.mono HI.out.2.size))
        have hz5 := HB5.out.size
        clear HI hb5
        go_wp2_with (at_builtin; refine wpList_append_own _ rfl (.tmp 20) (.tmp 23) 82 rfl w3.heap.size 23 i1 (.agg #[.int .i64 0, .int .i64 0]) 2 16 Tryz.underlying82 hj hy0 hy1 hy2 rfl (by decide) _ _ _ rfl (hown.alloc _) ⟨w5.heap.size, 0, none⟩ 1 1 [.int .i64 u.1, .int .i64 u.2] rfl rfl (cells_new _ _ _ _ rfl) (by simp [Value.oneCell']) (by unfold maxLen; omega) (by omega) (by simp; omega) ?_; intro v' w9 hown1 hgrow _)
        have HB9 : Hid (Below w3.heap.size w3 w9) := below_append (HB5.out.alloc (by omega) (.cells #[.int .i64 u.1, .int .i64 u.2] 23)) (hown.alloc (.cells #[.int .i64 u.1, .int .i64 u.2] 23)) (by simp; omega) hgrow
        obtain ⟨ao', c', rfl, _⟩ := own_form hown1
        have ho9 : w9.ownsRow w3.heap.size 23 2 (.slice ao' (k + 1) c') (k + 1) (eV (L.take (k + 1))) := by rw [HTK.out, eV_append, eV_one]; exact hown1
        have HO9 := Lib.hid ho9
        clear hown1 hgrow hown ho9
        go_wp2
        go_roundw
        case rel => exact ⟨k + 1, ao', c', by omega, by go_num, rfl, HO9.out, HB9.out⟩
        case measure => simp [intOf]; omega
      · have hk6 : 6 ≤ k := by omega
        have hown := HI.out.1
        rw [show L.take k = L from List.take_of_length_le (by rw [HUL.out]; exact hk6)] at hown
        have HSE := Lib.hid (HBE.out ao c wr (eAt_own (by rw [HUL.out]; omega) hown))
        rw [show L.length = k by rw [HUL.out]; omega] at HSE
        have HBX := Lib.hid (HB.out.trans (HI.out.2.mono HB.out.size))
        obtain ⟨t0, t1, t2, t3, t4, t5, t6⟩ := (HC.out.later HI.out.2).cells
        clear hown HI
        go_wp2_with fail
        refine HSE.out.mono ?_
        rintro e w5 ⟨qo, q, rfl, hq, hb5⟩
        have HF : Hid (ToldOwn w B 0 (.returned (.tuple #[.slice qo B.length q, .int .i64 0])) w5) := ⟨qo, q, rfl, own_base hq HBX.out.size, HBX.out.trans (hb5.mono HBX.out.size)⟩
        clear hq hb5
        go_wp2
        go_ret2
        exact HF.out
  · have e1 : rgsE w0 1 1 = 5 := by unfold rgsE; rw [if_neg (by rw [hW]; decide)]
    have e2 : rgsL w0 1 1 1 = [] := by unfold rgsL; rw [e1]; rfl
    rw [e1, e2]
    rw [hE] at HCE
    generalize cvR w0 = R at *
    generalize cvZ w0 = z at *
    clear e1 e2 hE hW hsm
    simp only [vC] at *
    go_enter Tryz.func64, Tryz.ntmps64
    go_wp2_with fail
    refine (HCE.out _).mono ?_
    rintro e w2 ⟨rfl, hb2⟩
    have HB : Hid (Below w.heap.size w (w2.alloc (.cells #[.int .i64 R, .int .i64 z.1, .int .i64 z.2] 27))) := hb2.alloc hb2.size _
    clear hb2
    go_wp2
    go_ret2
    exact ToldOwn.nil HB.out
end Go.Proofs.YtdbfimdcaacjhaaGreat
/- append of words that lie anywhere to a row of the call's own; two appended, one behind the other; Set, Same and Has of a slice by its length. -/
namespace Go.Proofs.YtdbfimdcaacjhaaGreat
open Go.RowKit Go.Lib Go.Sort

theorem words_news {w : World} {B : Nat} {ao : Option Addr} {l : List Int} (h : WordsAt w B ao l) : ∀ ad, ao = some ad → ∀ j u, (uV l)[j]? = some u → w.cell? (ad.add j) = some u := fun ad e j u hj => by
  have hjl : j < l.length := by have := (List.getElem?_eq_some_iff.1 hj).1; rwa [uV_len] at this
  obtain ⟨b, off, e2, _, hc⟩ := h (by omega)
  rw [e2] at e
  cases e
  rw [uV_get l j hjl] at hj
  cases hj
  have hadd : (⟨b, off, none⟩ : Addr).add j = ⟨b, off + j, none⟩ := by unfold Addr.add; split <;> simp_all
  rw [hadd]
  exact hc j hjl
theorem append_words {w : World} {base n m c : Nat} {v : Value} {xs l : List Int} {ao : Option Addr} (hown : w.ownsRow base 35 1 v n (uV xs)) (hw : WordsAt w w.heap.size ao l) (hl : l.length = m) (hz : ao = none → m = 0 ∧ c = 0) (hb : base ≤ w.heap.size) (hn : n + m ≤ 1000000) :
    ∃ v' w', (Builtin.append_ #[31, 31] 31 #[v, .slice ao m c]).run Tryz.prog w = .ok v' w' ∧ w'.ownsRow base 35 1 v' (n + m) (uV (xs ++ l)) ∧ w.grownBy w' v.ownBlock := by
  obtain ⟨i0, hi, hz0, hz1, hz2⟩ := info_parts info_u
  have hu : uV (xs ++ l) = uV xs ++ uV l := by simp [uV]
  cases ao with
  | none =>
    obtain ⟨rfl, rfl⟩ := hz rfl
    obtain rfl : l = [] := List.eq_nil_of_length_eq_zero hl
    refine ⟨v, w, run_append_owned_none w base 31 31 35 i0 1 Tryz.underlying31 hi v n (uV xs) hown, by simpa using hown, ⟨rfl, rfl, rfl, Nat.le_refl _, fun _ _ _ => rfl⟩⟩
  | some ad =>
    obtain ⟨v', w', hr, h2, h3, _⟩ := run_append_own w base 31 31 35 i0 (.int .u64 0) 1 8 Tryz.underlying31 hi hz0 hz1 hz2 rfl (by decide) v n (uV xs) hown ad m c (uV l) (by rw [uV_len, hl, Nat.mul_one]) (words_news hw ad rfl) (uV_cell l) (by unfold maxLen; omega) (by omega) hb
    exact ⟨v', w', hr, by rw [hu]; exact h2, h3⟩
/-- append under a guard that is wanted, its run known. -/
theorem wpList_append_want {P : Program} (w : World) {ops : Array Oper} {rest : List Oper} {o : Oper} {a : Act} {Q : Exit → Act → World → Prop} (hgd : Region.wanted o (yielded ops a.tmps) = true) (s x : Operand) (t tn : TypeId)
    (ho : o.op = .call { callee := .builtin .append, args := #[s, x], argTypes := #[t, tn] }) (vs vx : Value) (hs : a.eval s = vs) (hx : a.eval x = vx)
    (v' : Value) (w' : World) (hr : (Builtin.append_ #[t, tn] o.type #[vs, vx]).run P w = .ok v' w') (h : wpList P ops Q rest (a.put o.dst v') w') : wpList P ops Q (o :: rest) a w := by
  unfold wpList
  rw [if_pos hgd]
  exact .inl (wp_append_run w s x t tn ho vs vx hs hx v' w' hr h)
theorem rset_own_n {w : World} {ao : Option Addr} {n c : Nat} {l : List Int} (hn : n = l.length) (hl : n ≤ 1000000) (h : WordsAt w w.heap.size ao l) : Calls Tryz.prog 29 #[.slice ao n c] w fun e w' => ∃ ao' c', e = .returned (.slice ao' (setF l).length c') ∧ w'.ownsRow w.heap.size 35 1 (.slice ao' (setF l).length c') (setF l).length (uV (setF l)) ∧ Below w.heap.size w w' := by
  subst hn
  exact rset_own ao c l w h (by omega)
theorem same_n {w : World} {ao bo : Option Addr} {n m c d : Nat} {a b : List Int} (hn : n = a.length) (hm : m = b.length) (hl : n ≤ 1000000) (ha : WordsAt w w.heap.size ao a) (hb : WordsAt w w.heap.size bo b) :
    Calls Tryz.prog 27 #[.slice ao n c, .slice bo m d] w fun e w' => e = .returned (.bool (decide (a = b))) ∧ Below w.heap.size w w' := by
  subst hn; subst hm
  exact same_any ao bo c d a b w _ _ ha hb (by omega)
theorem rhas_n {w : World} {ao : Option Addr} {n c : Nat} {l : List Int} (x : Int) (hn : n = l.length) (hl : n ≤ 1000000) (h : WordsAt w w.heap.size ao l) (hr : Rising l) :
    Calls Tryz.prog 15 #[.slice ao n c, .int .u64 x] w fun e w' => e = .returned (.bool (hasF l x)) ∧ w = w' := by
  subst hn
  exact rhas_any ao c l x w _ h (by omega) hr
/-- A list in memory, as a contract tells it. -/
def LAt (w : World) (ao : Option Addr) (n c : Nat) (L : List Int) : Prop := n = L.length ∧ WordsAt w w.heap.size ao L ∧ (ao = none → n = 0 ∧ c = 0)
end Go.Proofs.YtdbfimdcaacjhaaGreat
/- Plain laws: counting the greatest cells of a box; boxes of very many cells. -/
namespace Go.Proofs.YtdbfimdcaacjhaaGreat
open Go.RowKit Go.Lib Wd Cv

theorem nodup_sub : ∀ (H l : List E2), H.Nodup → (∀ p ∈ H, p ∈ l) → H.length ≤ l.length
  | [], _, _, _ => Nat.zero_le _
  | a :: H, l, hn, h => by
    rw [List.nodup_cons] at hn
    have ha := h a (by simp)
    have h1 := nodup_sub H (l.erase a) hn.2 fun p hp => (List.mem_erase_of_ne (fun (e : p = a) => hn.1 (e ▸ hp))).2 (h p (by simp [hp]))
    rw [List.length_erase_of_mem ha] at h1
    have := List.length_pos_of_mem ha
    simp only [List.length_cons]
    omega
def lowB (lo hi A : Int) : Int := max (-((-(lo + 3991052 * A)) / 2019914)) (-((4633200 * A + hi) / 5770395))
def upB (lo hi A : Int) : Int := min ((hi + 3991052 * A) / 2019914) ((-4633200 * A - lo) / 5770395)
def cntB (lo hi A : Int) : Nat := (upB lo hi A - lowB lo hi A + 1).toNat
/-- All cells of the greatest size whose centres lie in a square. -/
def gridB (lo hi A0 : Int) : Nat → List E2
  | 0 => []
  | n + 1 => gridB lo hi A0 n ++ (List.range (cntB lo hi (A0 + n))).map fun j : Nat => ((A0 + n : Int), lowB lo hi (A0 + n) + (j : Int))
def sumB (lo hi A0 : Int) : Nat → Nat
  | 0 => 0
  | n + 1 => sumB lo hi A0 n + cntB lo hi (A0 + n)
end Go.Proofs.YtdbfimdcaacjhaaGreat
/- Contract of the reference's Box: the words of all cells that touch a box, or more than so many. -/
namespace Go.Proofs.YtdbfimdcaacjhaaGreat
open Go.RowKit Go.Lib Wd Cv

/-- Words in a block that is not that of another slice. -/
def WApt (w : World) (fo ao : Option Addr) (L : List Int) : Prop := ∃ b off, fo = some ⟨b, off, none⟩ ∧ b < w.heap.size ∧ (∀ i, i < L.length → w.cell? ⟨b, off + i, none⟩ = some (.int .u64 (L.getD i 0))) ∧ ∀ g o s, ao = some ⟨g, o, s⟩ → g ≠ b
theorem WApt.words {w : World} {fo ao : Option Addr} {L : List Int} (h : WApt w fo ao L) : WordsAt w w.heap.size fo L := fun _ => by
  obtain ⟨b, off, h1, h2, h3, _⟩ := h; exact ⟨b, off, h1, h2, h3⟩
theorem WApt.later {w w' : World} {fo ao : Option Addr} {L : List Int} (h : WApt w fo ao L) (hb : Below w.heap.size w w') : WApt w' fo ao L := by
  obtain ⟨b, off, h1, h2, h3, h4⟩ := h
  exact ⟨b, off, h1, Nat.lt_of_lt_of_le h2 hb.size, fun i hi => (hb.cell (p := ⟨b, _, none⟩) h2).trans (h3 i hi), h4⟩
theorem WApt.push {w w' : World} {fo ao ao' : Option Addr} {L : List Int} (h : WApt w fo ao L) (ht : Turn (fun k => ∃ o s, ao = some ⟨k, o, s⟩) w w') (hn : ∀ k o s, ao' = some ⟨k, o, s⟩ → (∃ o s, ao = some ⟨k, o, s⟩) ∨ w.heap.size ≤ k) : WApt w' fo ao' L := by
  obtain ⟨b, off, h1, h2, h3, h4⟩ := h
  refine ⟨b, off, h1, Nat.lt_of_lt_of_le h2 ht.2.2.2.1, fun i hi => ?_, fun g o s e => ?_⟩
  · exact (ht.cell (p := ⟨b, _, none⟩) h2 (fun ⟨o, s, e⟩ => h4 b o s e rfl)).trans (h3 i hi)
  · rcases hn g o s e with ⟨o2, s2, e2⟩ | h5
    · exact h4 g o2 s2 e2
    · omega
theorem WApt.cut {w : World} {fo : Option Addr} {g o o' : Nat} {L : List Int} (h : WApt w fo (some ⟨g, o, none⟩) L) : WApt w fo (some ⟨g, o', none⟩) L := by
  obtain ⟨b, off, h1, h2, h3, h4⟩ := h
  exact ⟨b, off, h1, h2, h3, fun g2 o2 s2 e => by cases e; exact h4 g o none rfl⟩
/-- A row of the call's own, made behind a block that was there. -/
theorem WApt.of_own {w w' : World} {ao fo : Option Addr} {n c : Nat} {L : List Int} (hn : n = L.length) (h0 : 0 < n) (h : w'.ownsRow w.heap.size 35 1 (.slice fo n c) n (uV L)) (ha : ∀ g o s, ao = some ⟨g, o, s⟩ → g < w.heap.size) : WApt w' fo ao L := by
  obtain ⟨b, off, e, h1, h2⟩ := words_own hn h (by omega)
  refine ⟨b, off, e, h1, h2, fun g o s e2 he => ?_⟩
  have := (own_lt h b off none e).1
  have := ha g o s e2
  omega
/-- What it tells. -/
def RboxP (w : World) (R : Nat) (lo hi : E2) (most : Nat) (e : Ending) (w' : World) : Prop :=
  (e = .returned (.tuple #[.slice none 0 0, .bool false]) ∨ ∃ L ao c n, IsBox R lo hi L ∧ L.length ≤ most ∧ e = .returned (.tuple #[.slice ao n c, .bool true]) ∧ n = L.length ∧ WordsAt w' w'.heap.size ao L) ∧ Below w.heap.size w w'
set_option maxRecDepth 100000 in
set_option maxHeartbeats 16000000 in
theorem rbox_any (lo hi : E2) {R : Nat} (hc : chE lo hi R = 0) (most : Nat) (hm1 : 1 ≤ most) (hm : most ≤ 1000) (w : World) : Calls Tryz.prog 26 #[vE lo, vE hi, .int .i64 R, .int .i64 most] w (RboxP w R lo hi most) := by
  obtain ⟨i0, hi0, hz0, hz1, hz2⟩ := info_parts info_u
  obtain ⟨⟨_, r12⟩, wlo, whi, hx, hy⟩ := ch_ok hc
  have hR : R ≤ 12 := by omega
  have clo := (worldB_iff _ _).1 wlo
  have chi := (worldB_iff _ _).1 whi
  have hok0 := near_ok0 clo.1 clo.2 hR
  have ht0 : TouchP (hexC (12 - R) (nearE lo.1 lo.2 R)) (triE lo) (triE hi) := touch_at (by omega) ⟨Int.le_refl _, hx⟩ ⟨Int.le_refl _, hy⟩ (inZ_near hR)
  have HNR := Lib.hid (fun w => rnear_in lo.1 lo.2 clo.1 clo.2 R hR w)
  have HWO := Lib.hid (fun w => word_any R (nearE lo.1 lo.2 R) w)
  rw [(ofW_okF hok0).1, (ofW_okF hok0).2] at HWO
  have HST : Hid (RInv R lo hi (nearE lo.1 lo.2 R) [nearE lo.1 lo.2 R] [nearE lo.1 lo.2 R] ∧ setF (wF R [nearE lo.1 lo.2 R]) = [((wordN R (nearE lo.1 lo.2 R) : Nat) : Int)] ∧ wF R [nearE lo.1 lo.2 R] = [((wordN R (nearE lo.1 lo.2 R) : Nat) : Int)]) :=
    ⟨RInv.start hok0 ht0, setF_up_eq (by unfold Up; simp [wF]), rfl⟩
  have HFB : Hid (∀ F, RInv R lo hi (nearE lo.1 lo.2 R) F [] → F.length ≤ 20000 → IsBox R lo hi (setF (wF R F))) := fun F h hl => found_box hR hx hy h hl
  have HDN : Hid (∀ F T t j, RMid R lo hi (nearE lo.1 lo.2 R) t F T (rgsL (wordN R t) 1 1 1) j → (rgsL (wordN R t) 1 1 1).length ≤ j → RInv R lo hi (nearE lo.1 lo.2 R) F T) := fun F T t j h hj => h.done hR wlo whi hx hy hj
  have HNE : Hid (∀ t, okB R t = true → (∀ w, Calls Tryz.prog 64 #[.int .u64 (wordN R t : Nat)] w (ToldOwn w (rgsL (wordN R t) 1 1 1) 0)) ∧ (rgsL (wordN R t) 1 1 1).length ≤ 6) := fun t ht => by
    have h1 := (wordN_lt ht).1
    have h2 := rgs_word ht 1 1 1 1 (by omega) (by omega) (by omega)
    rw [(ofW_okF ht).1] at h2
    refine ⟨fun w => ?_, (nb_mem ht).2.2⟩
    have := rnei_own (wordN R t) (by omega) w
    rw [h2.1] at this
    exact this
  have HNY : Hid (∀ t, okB R t = true → ∀ j, j < (rgsL (wordN R t) 1 1 1).length → ∃ y, okB R y = true ∧ (rgsL (wordN R t) 1 1 1).getD j 0 = (wordN R y : Nat) ∧ (∀ w, Calls Tryz.prog 32 #[.int .u64 (wordN R y : Nat)] w fun e w' => e = .returned (.tuple #[vC R y, .int .i64 0]) ∧ Below w.heap.size w w') ∧
      ∃ b : Bool, (b = true ↔ TouchP (hexC (12 - R) y) (triE lo) (triE hi)) ∧ ∀ w, Calls Tryz.prog 18 #[vC R y, vE lo, vE hi] w fun e w' => e = .returned (.bool b) ∧ Below w.heap.size w w') := fun t ht j hj => by
    obtain ⟨k, _, hy, e⟩ := (nb_mem ht).1 _ (getD_mem hj)
    have h1 := (wordN_lt hy).1
    obtain ⟨v1, v2, v3⟩ := word_cell hy
    refine ⟨_, hy, e, fun w => ?_, ctB R _ lo hi, ?_, fun w => rtouch_any R _ lo hi w⟩
    · have := rcell_any (wordN R (addE t (unitE k))) (by omega) w
      unfold cvR cvZ cvE at this
      rw [if_pos v1, if_pos v1, if_pos v1, v2, v3] at this
      exact this
    · rw [ct_iff]
      exact ⟨fun h => h.2.2, fun h => ⟨(bxOk_iff _ _).2 (by omega), hy, h⟩⟩
  generalize nearE lo.1 lo.2 R = z0 at *
  obtain ⟨lx, ly⟩ := lo
  obtain ⟨ux, uy⟩ := hi
  obtain ⟨w1, hw1⟩ : ∃ W, (w.alloc (.cells #[.int .i64 lx, .int .i64 ly] 30)).alloc (.cells #[.int .i64 ux, .int .i64 uy] 30) = W := ⟨_, rfl⟩
  have hb1 : Below w.heap.size w w1 := by rw [← hw1]; exact ((Below.refl _ _).alloc (Nat.le_refl _) _).alloc (by simp) _
  have x0 : w1.heap[w.heap.size]? = some (.cells #[.int .i64 lx, .int .i64 ly] 30 (0, 0)) := by
    rw [← hw1, Below.heap_alloc _ _ _ (by simp)]; exact heap_new _ _ _ rfl
  have x1 : w1.heap[w.heap.size + 1]? = some (.cells #[.int .i64 ux, .int .i64 uy] 30 (0, 0)) := by rw [← hw1]; exact heap_new _ _ _ (by simp)
  have HP0 := Lib.hid (stay_of x0)
  have HP1 := Lib.hid (stay_of x1)
  have HB1 := Lib.hid hb1
  have HW1 := Lib.hid hw1
  obtain ⟨l0, l1, l2⟩ := cel2 x0
  clear hw1 hb1 x0 x1 hok0 ht0 clo chi wlo whi hx hy r12 hc
  simp only [vE, vC] at *
  go_enter Tryz.func26, Tryz.ntmps26
  go_upto_region 1 with (fail)
  rw [HW1.out]
  clear HW1
  go_wp2_with fail
  refine (HNR.out _).mono ?_
  rintro e w2 ⟨rfl, hb2⟩
  have HB2 := Lib.hid hb2
  clear hb2 l0 l1 l2 HNR
  go_upto_region 2 with (fail)
  have K2 : Below w1.heap.size w1 (w2.alloc (.cells #[.int .i64 z0.1, .int .i64 z0.2] 23)) := HB2.out.alloc HB2.out.size _
  have x2 : (w2.alloc (.cells #[.int .i64 z0.1, .int .i64 z0.2] 23)).heap[w2.heap.size]? = some (.cells #[.int .i64 z0.1, .int .i64 z0.2] 23 (0, 0)) := heap_new _ _ _ rfl
  generalize w2.alloc (.cells #[.int .i64 z0.1, .int .i64 z0.2] 23) = w3 at *
  generalize w2.heap.size = dz at *
  obtain ⟨l0, l1, l2⟩ := cel2 x2
  have HB3 := Lib.hid K2
  clear K2 x2 HB2
  go_wp2_with fail
  refine (HWO.out _).mono ?_
  rintro e w4 ⟨rfl, hb4⟩
  have HB4 := Lib.hid (HB3.out.trans (hb4.mono HB3.out.size))
  clear hb4 HWO l0 l1 l2 HB3
  as_aux_lemma =>
    go_upto_region 5 with (fail)
    generalize hW0 : wordN R z0 = W0 at *
    have K5 : Below w1.heap.size w1 ((w4.alloc (.cells #[.int .u64 W0] 35)).alloc (.cells #[.int .u64 W0] 35)) := (HB4.out.alloc HB4.out.size _).alloc (by have := HB4.out.size; simp only [World.size_alloc]; omega) _
    have x5 : ((w4.alloc (.cells #[.int .u64 W0] 35)).alloc (.cells #[.int .u64 W0] 35)).heap[w4.heap.size]? = some (.cells #[.int .u64 W0] 35 (0, 0)) := by rw [Below.heap_alloc _ _ _ (by simp)]; exact heap_new _ _ _ rfl
    have x6 : ((w4.alloc (.cells #[.int .u64 W0] 35)).alloc (.cells #[.int .u64 W0] 35)).heap[w4.heap.size + 1]? = some (.cells #[.int .u64 W0] 35 (0, 0)) := heap_new _ _ _ (by simp)
    have hs4 := HB4.out.size
    generalize (w4.alloc (.cells #[.int .u64 W0] 35)).alloc (.cells #[.int .u64 W0] 35) = w5 at *
    have HI0 : Hid (WApt w5 (some ⟨w4.heap.size, 0, none⟩) (some ⟨w4.heap.size + 1, 0, none⟩) [(W0 : Int)] ∧ MidU w5 w1.heap.size (some ⟨w4.heap.size + 1, 0, none⟩) 1 1 [(W0 : Int)]) := by
      refine ⟨⟨w4.heap.size, 0, rfl, (Array.getElem?_eq_some_iff.1 x5).1, fun i hi => ?_, fun g o s e => by cases e; omega⟩, MidU.of_new (by omega) x6⟩
      have h0 : i = 0 := by simpa using hi
      subst h0
      exact cell_of_row _ _ 0 _ _ _ x5
    have HB5 := Lib.hid K5
    clear K5 x5 x6 HB4
    generalize w4.heap.size = d4 at *
    clear hs4
    as_aux_lemma =>
      go_loopg [14, 15] (2 * (most + 1)) (fun q s14 s15 wr => ∃ (F T : List E2) (fo : Option Addr) (nf fc : Nat) (ao : Option Addr) (n c : Nat), s14 = .slice fo nf fc ∧ s15 = .slice ao n c ∧ 1 ≤ nf ∧ nf ≤ most ∧ 2 * (most + 1 - nf) + n ≤ q ∧
        Hid ((RInv R (lx, ly) (ux, uy) z0 F T ∧ nf = (setF (wF R F)).length ∧ nf = F.length) ∧ (WApt wr fo ao (setF (wF R F)) ∧ MidU wr w1.heap.size ao n c (wF R T)) ∧ Below w1.heap.size w1 wr))
      case atStart =>
        refine ⟨[z0], [z0], _, 1, 1, _, 1, 1, rfl, rfl, by omega, by omega, by omega, ⟨HST.out.1, ?_, rfl⟩, ⟨?_, ?_⟩, HB5.out⟩
        · rw [HST.out.2.1]; rfl
        · rw [HST.out.2.1]; exact HI0.out.1
        · rw [HST.out.2.2]; exact HI0.out.2
      case round =>
        obtain ⟨F, T, fo, nf, fc, ao, n, c, rfl, rfl, hf1, hf2, hq, HR⟩ := hrel
        have hTn : n = T.length := by
          have h1 : (wF R T).length = n := HR.out.2.1.2.1
          rw [← h1, wF_length]
        cases T with
        | nil =>
          obtain rfl : n = 0 := hTn
          have HBX := Lib.hid (HFB.out F HR.out.1.1 (by have := HR.out.1.2.2; omega))
          have HLE : Hid ((setF (wF R F)).length ≤ most) := by have := HR.out.1.2.1; show _ ≤ _; omega
          have HNF := Lib.hid HR.out.1.2.1
          have HWD := Lib.hid HR.out.2.1.1.words
          have HBR := Lib.hid (HB1.out.trans (HR.out.2.2.mono HB1.out.size))
          generalize setF (wF R F) = L at *
          clear HR HNE HNY HDN HFB HST HI0 HB5
          as_aux_lemma =>
            go_wp2
            go_ret2
            exact ⟨.inr ⟨L, fo, fc, nf, HBX.out, HLE.out, rfl, HNF.out, HWD.out⟩, HBR.out⟩
        | cons t T =>
          obtain ⟨m, rfl⟩ : ∃ m, n = m + 1 := ⟨T.length, hTn⟩
          obtain ⟨g, off, rfl, hgB, hg, hcs⟩ := HR.out.2.1.2.blk
          have hokt := (HR.out.1.1.good t (HR.out.1.1.sub t (by simp))).1
          have c0 := hcs 0 (by omega)
          rw [Nat.add_zero, show (wF R (t :: T)).getD 0 0 = (wordN R t : Nat) from rfl] at c0
          obtain ⟨hne, hnl⟩ := HNE.out t hokt
          have HNt := Lib.hid hne
          have HYt := Lib.hid (HNY.out t hokt)
          have HDt := Lib.hid (fun F T j => HDN.out F T t j)
          have HPOP := Lib.hid (HR.out.1.1.pop (rgsL (wordN R t) 1 1 1))
          generalize rgsL (wordN R t) 1 1 1 = NL at *
          generalize hWt : wordN R t = Wt at *
          have hgo : (0 : Int) < ((m + 1 : Nat) : Int) := by omega
          have HTN := Lib.hid hTn
          have HWT := Lib.hid hWt
          clear hne hcs hTn hWt
          as_aux_lemma =>
            go_upto_region 6 with (fail)
            go_wp2_with fail
            refine (HNt.out _).mono ?_
            rintro e w6 ⟨lo', lc, rfl, hown, hb6⟩
            have HB6 := Lib.hid (HR.out.2.2.trans (hb6.mono HR.out.2.2.size))
            have HM6 := Lib.hid (HR.out.2.1.2.later hb6)
            have HF6 := Lib.hid (HR.out.2.1.1.later hb6)
            have HL6 : Hid (NL.length = 0 ∨ WApt w6 lo' (some ⟨g, off, none⟩) NL) := by
              by_cases h0 : NL.length = 0
              · exact .inl h0
              · exact .inr (WApt.of_own rfl (by omega) hown fun g' o s e => by cases e; exact hg)
            have HNF := Lib.hid (And.intro HR.out.1.2.1 HR.out.1.2.2)
            clear hown hb6 HNt HR c0 hg hgB
            have hc1 : m + 1 ≤ c := HM6.out.2.1
            obtain ⟨nl, hnl2⟩ : ∃ nl, NL.length = nl := ⟨_, rfl⟩
            have HNL := Lib.hid hnl2
            rw [hnl2] at hnl ⊢
            clear hnl2
            go_upto_region 7 with (fail)
            obtain ⟨bd, hbd⟩ : ∃ bd, 2 * (most + 1 - nf) + m = bd := ⟨_, rfl⟩
            have HGK : Hid (bd < 2 * (most + 1 - nf) + (m + 1)) := by show _ < _; omega
            have HBD := Lib.hid hbd
            have HQ := Lib.hid hq
            clear hbd hq
            go_cut [15] from 51 to 52 (fun s15 wr' => ∃ (ao2 : Option Addr) (c2 : Nat), s15 = .slice ao2 m c2 ∧ Hid (MidU wr' w1.heap.size ao2 m c2 (wF R T) ∧ WApt wr' fo ao2 (setF (wF R F)) ∧ (nl = 0 ∨ WApt wr' lo' ao2 NL) ∧ Below w1.heap.size w1 wr'))
            case first =>
              obtain ⟨c', rfl⟩ : ∃ c', c = c' + 1 := ⟨c - 1, by omega⟩
              by_cases hc0 : c' = 0
              · have hm0 : m = 0 := by omega
                subst hc0
                subst hm0
                clear HTN HWT HGK HBD HQ
                have HML := Lib.hid (And.intro (MidU.last HM6.out) (And.intro HF6.out (And.intro (show nl = 0 ∨ _ by have := HL6.out; rwa [HNL.out] at this) HB6.out)))
                clear HM6 HF6 HL6 HPOP HYt HDt HNF
                go_wp2
                go_meet
                exact ⟨_, _, rfl, HML.out⟩
              · have hne1 : ¬ (c' + 1 = 1) := by omega
                clear HTN HWT HGK HBD HQ
                have HMT := Lib.hid (And.intro (MidU.tail HM6.out) (And.intro (HF6.out.cut (o' := off + 1)) (And.intro (show nl = 0 ∨ WApt w6 lo' (some ⟨g, off + 1, none⟩) NL by have := HL6.out; rw [HNL.out] at this; exact this.imp (fun h => h) fun h => h.cut) HB6.out)))
                clear HM6 HF6 HL6 HPOP HYt HDt HNF
                go_wp2
                go_meet
                exact ⟨_, _, rfl, HMT.out⟩
            case rest =>
              obtain ⟨ao2, c2, rfl, HC⟩ := hcut
              clear HM6 HF6 HL6 HB6 hc1
              as_aux_lemma =>
                go_upto_region 9 with (fail)
                go_loopg [14, 15, 18] nl (fun q2 s14 s15 s18 wr2 => ∃ (F T : List E2) (fo : Option Addr) (nf fc : Nat) (ao : Option Addr) (n c j : Nat), s14 = .slice fo nf fc ∧ s15 = .slice ao n c ∧ s18 = .int .i64 j ∧ j ≤ nl ∧ nl - j ≤ q2 ∧ 1 ≤ nf ∧ nf ≤ most ∧ 2 * (most + 1 - nf) + n ≤ bd ∧
                  Hid ((RMid R (lx, ly) (ux, uy) z0 t F T NL j ∧ nf = (setF (wF R F)).length ∧ nf = F.length) ∧ (WApt wr2 fo ao (setF (wF R F)) ∧ (nl = 0 ∨ WApt wr2 lo' ao NL) ∧ MidU wr2 w1.heap.size ao n c (wF R T)) ∧ Below w1.heap.size w1 wr2))
                case atStart => exact ⟨F, T, fo, nf, fc, ao2, m, c2, 0, rfl, rfl, by go_num, by omega, by omega, hf1, hf2, by have := HBD.out; omega, ⟨HPOP.out, HNF.out.1, HNF.out.2⟩, ⟨HC.out.2.1, HC.out.2.2.1, HC.out.1⟩, HC.out.2.2.2⟩
                case round =>
                  clear HC HPOP HNF
                  obtain ⟨F2, T2, fo2, nf2, fc2, ao3, n3, c3, j, rfl, rfl, rfl, hj, hq2, hf3, hf4, hq3, HR2⟩ := hrel
                  by_cases hlt : j < nl
                  · obtain ⟨y, hy, hyw, hcell, b, hb, htch⟩ := HYt.out j (by rw [HNL.out]; exact hlt)
                    obtain ⟨lb, loff, hlo, hlb, hlc, hla⟩ := HR2.out.2.1.2.1.resolve_left (by omega)
                    subst hlo
                    have hcl := hlc j (by rw [HNL.out]; exact hlt)
                    rw [hyw] at hcl
                    have HCL : Hid (∀ wx, Below wr.heap.size wr wx → wx.cell? ⟨lb, loff + j, none⟩ = some (.int .u64 (wordN R y : Nat))) := fun wx hx => (hx.cell (p := ⟨lb, loff + j, none⟩) hlb).trans hcl
                    have hFH := found_has (fun z hz => (HR2.out.1.1.good z hz).1) hy
                    have HHAS := Lib.hid (fun w (h : WordsAt w w.heap.size fo2 (setF (wF R F2))) => rhas_n (w := w) (ao := fo2) (n := nf2) (c := fc2) (wordN R y : Nat) HR2.out.1.2.1 (by omega) h (setF_up _).rising)
                    have HCE := Lib.hid hcell
                    have HTC := Lib.hid htch
                    have HTB := Lib.hid hb
                    obtain ⟨hv, hhv⟩ : ∃ hv, hasF (setF (wF R F2)) (wordN R y : Nat) = hv := ⟨_, rfl⟩
                    rw [hhv] at HHAS hFH
                    have HFH := Lib.hid hFH
                    have HPUT := Lib.hid (found_put R F2 y)
                    have HWF : Hid (wF R (T2 ++ [y]) = wF R T2 ++ [((wordN R y : Nat) : Int)]) := by
                      show _ = _
                      unfold wF
                      rw [List.map_append]
                      rfl
                    have HYW := Lib.hid hyw
                    have HSK : Hid ((y ∈ F2 ∨ ¬ TouchP (hexC (12 - R) y) (triE (lx, ly)) (triE (ux, uy))) → RMid R (lx, ly) (ux, uy) z0 t F2 T2 NL (j + 1)) := fun h => HR2.out.1.1.skip hy hyw h
                    have HADD : Hid (y ∉ F2 → TouchP (hexC (12 - R) y) (triE (lx, ly)) (triE (ux, uy)) → RMid R (lx, ly) (ux, uy) z0 t (y :: F2) (T2 ++ [y]) NL (j + 1)) := fun h1 h2 => HR2.out.1.1.add hy hyw h1 h2
                    generalize wordN R y = Wy at *
                    have hji : (j : Int) < (nl : Int) := by omega
                    have HN2 : Hid (nf2 ≤ 1000) := by show _ ≤ _; omega
                    clear hlc hcell htch hb hFH hyw hhv
                    as_aux_lemma =>
                      go_upto_region 11 with (fail)
                      go_wp2_with fail
                      refine (HCE.out _).mono ?_
                      rintro e w7 ⟨rfl, hb7⟩
                      have K7 : Below wr.heap.size wr (w7.alloc (.cells #[.int .i64 R, .int .i64 y.1, .int .i64 y.2] 27)) := hb7.alloc hb7.size _
                      have x7 : (w7.alloc (.cells #[.int .i64 R, .int .i64 y.1, .int .i64 y.2] 27)).heap[w7.heap.size]? = some (.cells #[.int .i64 R, .int .i64 y.1, .int .i64 y.2] 27 (0, 0)) := heap_new _ _ _ rfl
                      clear hcl hb7 HCE
                      go_upto_region 12 with (fail)
                      generalize w7.alloc (.cells #[.int .i64 R, .int .i64 y.1, .int .i64 y.2] 27) = w8 at *
                      generalize w7.heap.size = dy at *
                      have c8 := HCL.out w8 K7
                      have HB8 := Lib.hid K7
                      obtain ⟨k1, k2, k3, k4⟩ := cel3 x7
                      obtain ⟨l1, l2, l3⟩ := cel2 (HP0.out w8 (HR2.out.2.2.trans (K7.mono HR2.out.2.2.size)))
                      obtain ⟨m1, m2, m3⟩ := cel2 (HP1.out w8 (HR2.out.2.2.trans (K7.mono HR2.out.2.2.size)))
                      have HFW := Lib.hid (HHAS.out w8 (HR2.out.2.1.1.later K7).words)
                      clear K7 x7 HHAS
                      go_wp2_with fail
                      refine HFW.out.mono ?_
                      rintro e w9 ⟨rfl, rfl⟩
                      clear HFW
                      cases hv with
                      | true =>
                        have HNX := Lib.hid (HSK.out (.inl (HFH.out.1 rfl)))
                        clear HTC HTB HFH HPUT HSK k1 k2 k3 k4 l1 l2 l3 m1 m2 m3 c8 HYt HDt
                        as_aux_lemma =>
                          go_wp2
                          go_roundg (nl - (j + 1))
                          case measure => omega
                          case rel => exact ⟨F2, T2, fo2, nf2, fc2, ao3, n3, c3, j + 1, rfl, rfl, by go_num, by omega, Nat.le_refl _, hf3, hf4, hq3, ⟨HNX.out, HR2.out.1.2⟩, ⟨HR2.out.2.1.1.later HB8.out, .inr ((HR2.out.2.1.2.1.resolve_left (by omega)).later HB8.out), HR2.out.2.1.2.2.later HB8.out⟩, HR2.out.2.2.trans (HB8.out.mono HR2.out.2.2.size)⟩
                      | false =>
                        have hyF : y ∉ F2 := fun h => by have := HFH.out.2 h; cases this
                        have HYF := Lib.hid hyF
                        clear hyF HFH
                        as_aux_lemma =>
                          go_wp2_with fail
                          refine (HTC.out _).mono ?_
                          rintro e w10 ⟨rfl, hb10⟩
                          have HB10 := Lib.hid (HB8.out.trans (hb10.mono HB8.out.size))
                          clear k1 k2 k3 k4 l1 l2 l3 m1 m2 m3 c8 HB8 hb10 HTC
                          cases b with
                          | false =>
                            have HNX := Lib.hid (HSK.out (.inr fun h => by have := HTB.out.2 h; cases this))
                            clear HTB HPUT HSK HYt HDt HYF
                            as_aux_lemma =>
                              go_wp2
                              go_roundg (nl - (j + 1))
                              case measure => omega
                              case rel => exact ⟨F2, T2, fo2, nf2, fc2, ao3, n3, c3, j + 1, rfl, rfl, by go_num, by omega, Nat.le_refl _, hf3, hf4, hq3, ⟨HNX.out, HR2.out.1.2⟩, ⟨HR2.out.2.1.1.later HB10.out, .inr ((HR2.out.2.1.2.1.resolve_left (by omega)).later HB10.out), HR2.out.2.1.2.2.later HB10.out⟩, HR2.out.2.2.trans (HB10.out.mono HR2.out.2.2.size)⟩
                          | true =>
                            have HNX := Lib.hid (HADD.out HYF.out (HTB.out.1 rfl))
                            have HFL : Hid (nf2 + 1 = (setF (wF R (y :: F2))).length ∧ nf2 + 1 = (y :: F2).length) := by
                              refine ⟨?_, by rw [List.length_cons, ← HR2.out.1.2.2]⟩
                              rw [found_len HNX.out.nf fun z hz => (HNX.out.good z hz).1, List.length_cons, ← HR2.out.1.2.2]
                            have c10 := HCL.out w10 HB10.out
                            have hU := HR2.out.1.2.1
                            have hF10 := HR2.out.2.1.1.later HB10.out
                            obtain ⟨fb, foff, hfo, -⟩ := id hF10
                            have hb0 : Below w10.heap.size w10 (w10.alloc (.cells #[.int .u64 Wy] 35)) := (Below.refl _ _).alloc (Nat.le_refl _) _
                            have hn2 := HN2.out
                            obtain ⟨x1, wA, hrA, hA, hgA⟩ := append_words (w := w10.alloc (.cells #[.int .u64 Wy] 35)) (base := w10.heap.size) (n := 1) (v := .slice (some ⟨w10.heap.size, 0, none⟩) 1 1) (xs := [(Wy : Int)]) (l := setF (wF R F2)) (ao := fo2) (m := nf2) (c := fc2)
                              (World.ownsRow_lit w10 #[.int .u64 Wy] 1 (Nat.le_refl _) (by decide) rfl) (hF10.later hb0).words hU.symm (fun e => by rw [hfo] at e; cases e) (by simp) (by omega)
                            obtain ⟨xo, xc, rfl, -⟩ := own_form hA
                            have hba : Below w10.heap.size w10 wA := hb0.grown hgA (by simp) (by intro k hk; simp [Value.ownBlock] at hk; omega)
                            have hsl : 1 + nf2 = ([(Wy : Int)] ++ setF (wF R F2)).length := by rw [List.length_append, ← hU]; rfl
                            have HSET := Lib.hid (rset_own_n (ao := xo) (c := xc) hsl (by omega) (words_own hsl hA))
                            rw [List.singleton_append, HPUT.out, ← HFL.out.1] at HSET
                            have HR1 := Lib.hid hrA
                            have HBA := Lib.hid (HB10.out.trans (hba.mono HB10.out.size))
                            have c11 := HCL.out wA HBA.out
                            clear hU hF10 hfo hb0 hrA hA hgA hba hsl HB10 HPUT HTB HSK HYF
                            as_aux_lemma =>
                              go_upto_region 13 with (fail)
                              go_wp2_with (at_builtin; refine wpList_append_want _ (by kernel_rfl) (.tmp 84) (.tmp 85) 31 31 rfl _ _ rfl rfl _ _ HR1.out ?_)
                              refine HSET.out.mono ?_
                              rintro e w11 ⟨so, sc, rfl, hs, hb11⟩
                              have HB11 := Lib.hid (HBA.out.trans (hb11.mono HBA.out.size))
                              have hM11 := (HR2.out.2.1.2.2.later HBA.out)
                              have HF11 : Hid (WApt w11 so ao3 (setF (wF R (y :: F2)))) := WApt.of_own HFL.out.1 (by omega) hs fun g o s e => by
                                obtain ⟨g2, o2, e2, _, h4, _⟩ := hM11.blk
                                rw [e] at e2; cases e2; exact h4
                              have hb12 : Below w11.heap.size w11 (w11.alloc (.cells #[.int .u64 Wy] 35)) := (Below.refl _ _).alloc (Nat.le_refl _) _
                              have c12 : (w11.alloc (.cells #[.int .u64 Wy] 35)).cell? ⟨w11.heap.size, 0, none⟩ = some (.int .u64 Wy) := cell_of_row _ _ 0 _ _ _ (heap_new w11 (.cells #[.int .u64 Wy] 35) _ rfl)
                              have c13 := HCL.out w11 HB11.out
                              have HM12 := Lib.hid ((hM11.later hb11).later hb12)
                              have HB12 := Lib.hid hb12
                              have hn3 : n3 ≤ 1000000 := by
                                have h1 : (wF R T2).length = n3 := HR2.out.2.1.2.2.1
                                have h2 := nodup_sub T2 F2 HR2.out.1.1.nt HR2.out.1.1.sub
                                rw [wF_length] at h1
                                have h3 := HR2.out.1.2.2
                                omega
                              have hz1 : w1.heap.size ≤ (w11.alloc (.cells #[.int .u64 Wy] 35)).heap.size := by
                                have h1 := HR2.out.2.2.size
                                have h2 := HB11.out.size
                                have h3 := hb12.size
                                omega
                              clear hs hb11 hM11 hb12 HBA HSET HR1 c10 c11
                              as_aux_lemma =>
                                go_upto_region 15 with (at_builtin; refine wpList_append_mid rfl (.tmp 88) (.tmp 93) rfl HM12.out hz1 hn3 (Wy : Int) ⟨w11.heap.size, 0, none⟩ c12 rfl rfl ?_; intro ao4 c4 w13 hM13 hT13 hN13)
                                have HF13 := Lib.hid ((HF11.out.later HB12.out).push hT13 hN13)
                                have HL13 := Lib.hid ((((HR2.out.2.1.2.1.resolve_left (by omega)).later HB11.out).later HB12.out).push hT13 hN13)
                                rw [← HWF.out] at hM13
                                have HM13 := Lib.hid hM13
                                have HB13 : Hid (Below w1.heap.size w1 w13) := by
                                  have h1 : Below w1.heap.size w1 (w11.alloc (.cells #[.int .u64 Wy] 35)) := (HR2.out.2.2.trans (HB11.out.mono HR2.out.2.2.size)).trans (HB12.out.mono (by have := HR2.out.2.2.size; have := HB11.out.size; omega))
                                  refine h1.trans (hT13.below h1.size fun k hk ⟨o, s, e⟩ => ?_)
                                  obtain ⟨g2, o2, e2, h4, _⟩ := HM12.out.blk
                                  rw [e] at e2; cases e2; omega
                                have HFL2 := Lib.hid HFL.out
                                have HHR := Lib.hid HNX.out
                                clear c12 c13 hM13 hT13 hN13 HM12 HB12 HF11 HB11 HCL HWF HFL HNX HR2 hn2 hz1
                                by_cases hbig : most < nf2 + 1
                                · have hbi : (most : Int) < ((nf2 + 1 : Nat) : Int) := by omega
                                  have HBR := Lib.hid (HB1.out.trans (HB13.out.mono HB1.out.size))
                                  clear HF13 HL13 HM13 HB13 HFL2 HHR HYt HDt
                                  as_aux_lemma =>
                                    go_wp2
                                    go_ret2
                                    exact ⟨.inl rfl, HBR.out⟩
                                · have hbi : ¬ ((most : Int) < ((nf2 + 1 : Nat) : Int)) := by omega
                                  clear HYt HDt
                                  as_aux_lemma =>
                                    go_wp2
                                    go_roundg (nl - (j + 1))
                                    case measure => omega
                                    case rel => exact ⟨y :: F2, T2 ++ [y], so, nf2 + 1, sc, ao4, n3 + 1, c4, j + 1, rfl, rfl, by go_num, by omega, Nat.le_refl _, by omega, by omega, by omega, ⟨HHR.out, HFL2.out⟩, ⟨HF13.out, .inr HL13.out, HM13.out⟩, HB13.out⟩
                  · obtain rfl : j = nl := by omega
                    have hji : ¬ ((j : Int) < (j : Int)) := by omega
                    have HNX := Lib.hid (HDt.out F2 T2 j HR2.out.1.1 (by rw [HNL.out]; exact Nat.le_refl _))
                    clear HYt HDt
                    as_aux_lemma =>
                      go_wp2
                      go_roundg bd
                      case measure => have := HGK.out; have := HQ.out; omega
                      case rel => exact ⟨F2, T2, fo2, nf2, fc2, ao3, n3, c3, rfl, rfl, hf3, hf4, hq3, ⟨HNX.out, HR2.out.1.2⟩, ⟨HR2.out.2.1.1, HR2.out.2.1.2.2⟩, HR2.out.2.2⟩
end Go.Proofs.YtdbfimdcaacjhaaGreat
/- Contract of the reference's Centres: those of some words whose cells' centres lie in a box. -/
namespace Go.Proofs.YtdbfimdcaacjhaaGreat
open Go.RowKit Go.Lib Wd Cv

theorem take_get {L : List Int} {k : Nat} (h : k < L.length) : L.take (k + 1) = L.take k ++ [L.getD k 0] := by
  rw [List.take_add_one, List.getElem?_eq_getElem h, List.getD_eq_getElem?_getD, List.getElem?_eq_getElem h]; rfl
theorem filt_yes {p : Int → Bool} {L : List Int} {k : Nat} (h : k < L.length) (hp : p (L.getD k 0) = true) : (L.take (k + 1)).filter p = (L.take k).filter p ++ [L.getD k 0] := by
  rw [take_get h, List.filter_append, List.filter_cons_of_pos (by exact hp), List.filter_nil]
theorem filt_no {p : Int → Bool} {L : List Int} {k : Nat} (h : k < L.length) (hp : p (L.getD k 0) = false) : (L.take (k + 1)).filter p = (L.take k).filter p := by
  rw [take_get h, List.filter_append, List.filter_cons_of_neg (by rw [hp]; simp), List.filter_nil, List.append_nil]
/-- What it tells. -/
def RcP (w : World) (M : List Int) (e : Ending) (w' : World) : Prop := ∃ ao' m c', e = .returned (.slice ao' m c') ∧ m = M.length ∧ WordsAt w' w'.heap.size ao' M ∧ Below w.heap.size w w'
set_option maxRecDepth 100000 in
set_option maxHeartbeats 16000000 in
theorem rcens_any (R : Nat) (hR : R ≤ 12) (lo hi : E2) (ao : Option Addr) (n c : Nat) (L : List Int) (w : World) (hn : n = L.length) (hb : n ≤ 1000000) (hw : WordsAt w w.heap.size ao L) (hok : ∀ x ∈ L, ∃ z, okB R z = true ∧ x = (wordN R z : Nat)) :
    Calls Tryz.prog 28 #[.slice ao n c, vE lo, vE hi] w (RcP w (L.filter (cenB R lo hi))) := by
  obtain ⟨i0, hi0, hz0, hz1, hz2⟩ := info_parts info_u
  have HK : Hid (∀ k, k < n → ∃ (W : Nat) (z : E2) (x y : Int), L.getD k 0 = W ∧ (∀ w, Calls Tryz.prog 32 #[.int .u64 W] w fun e w' => e = .returned (.tuple #[vC R z, .int .i64 0]) ∧ Below w.heap.size w w') ∧
      (∀ w, Calls Tryz.prog 20 #[vE z, .int .i64 R] w fun e w' => e = .returned (.tuple #[.int .i64 x, .int .i64 y, .bool true]) ∧ Below w.heap.size w w') ∧ cenB R lo hi (L.getD k 0) = inB lo hi (x, y)) := fun k hk => by
    obtain ⟨z, hz, e⟩ := hok _ (getD_mem (l := L) (j := k) (by omega))
    obtain ⟨v1, v2, v3⟩ := word_cell hz
    have hlt := (wordN_lt hz).1
    have hsm : Sm 1073741824 z := by
      have := (shapeB_iff R z).1 ((okB_iff R z).1 hz).1
      unfold Sm; omega
    refine ⟨wordN R z, z, (atE (12 - R) z).1, (atE (12 - R) z).2, e, fun w => ?_, fun w => rcentre_in z hsm R hR w, ?_⟩
    · have := rcell_any (wordN R z) (by omega) w
      unfold cvR cvZ cvE at this
      rw [if_pos v1, if_pos v1, if_pos v1, v2, v3] at this
      exact this
    · rw [e]
      unfold cenB
      rw [Int.toNat_natCast, v3]
  have HN := Lib.hid hn
  have HYES := Lib.hid (fun k (h : k < L.length) => filt_yes (p := cenB R lo hi) (L := L) h)
  have HNO := Lib.hid (fun k (h : k < L.length) => filt_no (p := cenB R lo hi) (L := L) h)
  have HEND : Hid ((L.take n).filter (cenB R lo hi) = L.filter (cenB R lo hi)) := by
    show _ = _
    rw [List.take_of_length_le (by omega)]
  generalize cenB R lo hi = p at *
  obtain ⟨lx, ly⟩ := lo
  obtain ⟨ux, uy⟩ := hi
  obtain ⟨w1, hw1⟩ : ∃ W, (w.alloc (.cells #[.int .i64 lx, .int .i64 ly] 30)).alloc (.cells #[.int .i64 ux, .int .i64 uy] 30) = W := ⟨_, rfl⟩
  have hb1 : Below w.heap.size w w1 := by rw [← hw1]; exact ((Below.refl _ _).alloc (Nat.le_refl _) _).alloc (by simp) _
  have x0 : w1.heap[w.heap.size]? = some (.cells #[.int .i64 lx, .int .i64 ly] 30 (0, 0)) := by
    rw [← hw1, Below.heap_alloc _ _ _ (by simp)]; exact heap_new _ _ _ rfl
  have x1 : w1.heap[w.heap.size + 1]? = some (.cells #[.int .i64 ux, .int .i64 uy] 30 (0, 0)) := by rw [← hw1]; exact heap_new _ _ _ (by simp)
  have HP0 := Lib.hid (stay_of x0)
  have HP1 := Lib.hid (stay_of x1)
  have HB1 := Lib.hid hb1
  have HW := Lib.hid ((hw.below hb1 (Nat.le_refl _)).wider hb1.size)
  have HW1 := Lib.hid hw1
  clear hw1 hb1 x0 x1 hw hok hn
  simp only [vE, vC] at *
  go_enter Tryz.func28, Tryz.ntmps28
  go_upto_region 1 with (fail)
  rw [HW1.out]
  clear HW1
  go_upto_region 3 with (fail)
  go_loopg [7, 8] n (fun q s7 s8 wr => ∃ (k m : Nat) (bo : Option Addr) (d : Nat), s7 = .slice bo m d ∧ s8 = .int .i64 k ∧ k ≤ n ∧ m ≤ k ∧ n - k ≤ q ∧ Hid (m = ((L.take k).filter p).length ∧ wr.ownsRow w1.heap.size 35 1 (.slice bo m d) m (uV ((L.take k).filter p)) ∧ Below w1.heap.size w1 wr))
  case atStart => exact ⟨0, 0, _, _, rfl, by go_num, by omega, by omega, by omega, rfl, World.ownsRow_nil _ _ _ _, Below.refl _ _⟩
  case round =>
    obtain ⟨k, m, bo, d, rfl, rfl, hk, hm, hq, HR⟩ := hrel
    by_cases hlt : k < n
    · obtain ⟨W, z, x, y, hWk, hcl, hce, hpk⟩ := HK.out k hlt
      obtain ⟨b, off, rfl, hb2, hcs⟩ := (HW.out.below HR.out.2.2 (Nat.le_refl _)) (by have := HN.out; omega)
      have c0 := hcs k (by have := HN.out; omega)
      rw [hWk] at c0
      have hcx : ∀ wx, Below wr.heap.size wr wx → wx.cell? ⟨b, off + k, none⟩ = some (.int .u64 W) := fun wx hx => (hx.cell (p := ⟨b, off + k, none⟩) (Nat.lt_of_lt_of_le hb2 HR.out.2.2.size)).trans c0
      have HCX := Lib.hid hcx
      have HC1 := Lib.hid hcl
      have HC2 := Lib.hid hce
      have HPK := Lib.hid hpk
      have HWK := Lib.hid hWk
      have hki : (k : Int) < (n : Int) := by omega
      clear hcs hcl hce hpk hWk hcx
      go_upto_region 5 with (fail)
      go_wp2_with fail
      refine (HC1.out _).mono ?_
      rintro e w5 ⟨rfl, hb5⟩
      have K5 : Below wr.heap.size wr (w5.alloc (.cells #[.int .i64 R, .int .i64 z.1, .int .i64 z.2] 27)) := hb5.alloc hb5.size _
      have x5 : (w5.alloc (.cells #[.int .i64 R, .int .i64 z.1, .int .i64 z.2] 27)).heap[w5.heap.size]? = some (.cells #[.int .i64 R, .int .i64 z.1, .int .i64 z.2] 27 (0, 0)) := heap_new _ _ _ rfl
      clear hb5 c0 HC1
      go_upto_region 6 with (fail)
      generalize w5.alloc (.cells #[.int .i64 R, .int .i64 z.1, .int .i64 z.2] 27) = w6 at *
      generalize w5.heap.size = dd at *
      obtain ⟨k1, k2, k3, k4⟩ := cel3 x5
      have HB6 := Lib.hid K5
      clear K5 x5
      go_wp2_with fail
      refine (HC2.out _).mono ?_
      rintro e w7 ⟨rfl, hb7⟩
      have HB7 := Lib.hid (HB6.out.trans (hb7.mono HB6.out.size))
      clear hb7 HC2 HB6 k1 k2 k3 k4
      obtain ⟨l0, l1, l2⟩ := cel2 (HP0.out w7 (HR.out.2.2.trans (HB7.out.mono HR.out.2.2.size)))
      obtain ⟨u0, u1, u2⟩ := cel2 (HP1.out w7 (HR.out.2.2.trans (HB7.out.mono HR.out.2.2.size)))
      have hkL : k < L.length := by have := HN.out; omega
      have hNo : p (L.getD k 0) = false → (m = ((L.take (k + 1)).filter p).length ∧ w7.ownsRow w1.heap.size 35 1 (.slice bo m d) m (uV ((L.take (k + 1)).filter p)) ∧ Below w1.heap.size w1 w7) := fun h => by
        rw [HNO.out k hkL h]
        exact ⟨HR.out.1, own_later HR.out.2.1 HB7.out, HR.out.2.2.trans (HB7.out.mono HR.out.2.2.size)⟩
      have HNo := Lib.hid hNo
      clear hNo hkL
      go_upto_region 7 with (fail)
      by_cases c1 : x < lx
      · have hv : Hid (p (L.getD k 0) = false) := by show _ = _; rw [HPK.out]; unfold inB; simp; omega
        clear HK HEND HYES HPK
        go_wp2
        go_roundg (n - (k + 1))
        case measure => omega
        case rel => exact ⟨k + 1, m, bo, d, rfl, by go_num, by omega, by omega, Nat.le_refl _, HNo.out hv.out⟩
      · by_cases c2 : ux < x
        · have hv : Hid (p (L.getD k 0) = false) := by show _ = _; rw [HPK.out]; unfold inB; simp; omega
          clear HK HEND HYES HPK
          go_wp2
          go_roundg (n - (k + 1))
          case measure => omega
          case rel => exact ⟨k + 1, m, bo, d, rfl, by go_num, by omega, by omega, Nat.le_refl _, HNo.out hv.out⟩
        · by_cases c3 : y < ly
          · have hv : Hid (p (L.getD k 0) = false) := by show _ = _; rw [HPK.out]; unfold inB; simp; omega
            clear HK HEND HYES HPK
            go_wp2
            go_roundg (n - (k + 1))
            case measure => omega
            case rel => exact ⟨k + 1, m, bo, d, rfl, by go_num, by omega, by omega, Nat.le_refl _, HNo.out hv.out⟩
          · by_cases c4 : uy < y
            · have hv : Hid (p (L.getD k 0) = false) := by show _ = _; rw [HPK.out]; unfold inB; simp; omega
              clear HK HEND HYES HPK
              go_wp2
              go_roundg (n - (k + 1))
              case measure => omega
              case rel => exact ⟨k + 1, m, bo, d, rfl, by go_num, by omega, by omega, Nat.le_refl _, HNo.out hv.out⟩
            · have g1 : lx ≤ x := by omega
              have g2 : x ≤ ux := by omega
              have g3 : ly ≤ y := by omega
              have g4 : y ≤ uy := by omega
              have hv : Hid (p (L.getD k 0) = true) := by show _ = _; rw [HPK.out]; unfold inB; simp; omega
              have hown := own_later HR.out.2.1 HB7.out
              have hsz : w1.heap.size ≤ w7.heap.size := Nat.le_trans HR.out.2.2.size HB7.out.size
              have c7 := HCX.out w7 HB7.out
              have HFY : Hid ((L.take (k + 1)).filter p = (L.take k).filter p ++ [(W : Int)]) := by show _ = _; rw [HYES.out k (by have := HN.out; omega) hv.out, HWK.out]
              have HB1R := Lib.hid (HR.out.2.2.trans (HB7.out.mono HR.out.2.2.size))
              have HML := Lib.hid HR.out.1
              clear HK HEND HYES HPK HR HNo
              go_wp2_with (at_builtin; refine wpList_append_own _ rfl (.tmp 59) (.tmp 64) 31 rfl w1.heap.size 35 i0 (.int .u64 0) 1 8 Tryz.underlying31 hi0 hz0 hz1 hz2 rfl (by decide) _ _ _ rfl (hown.alloc _) ⟨w7.heap.size, 0, none⟩ 1 1 [.int .u64 W] rfl rfl (cells_new _ _ _ _ rfl) (by simp [Value.oneCell']) (by unfold maxLen; omega) (by omega) (by simp; omega) ?_; intro v' w9 hown1 hgrow hnil)
              have HB9 : Hid (Below w1.heap.size w1 w9) := below_append (HB1R.out.alloc (by omega) (.cells #[.int .u64 W] 35)) (hown.alloc (.cells #[.int .u64 W] 35)) (by simp; omega) hgrow
              obtain ⟨ao', c', rfl, _⟩ := own_form hown1
              have ho9 : w9.ownsRow w1.heap.size 35 1 (.slice ao' (m + 1) c') (m + 1) (uV ((L.take (k + 1)).filter p)) := by rw [HFY.out]; simpa [uV] using hown1
              have HO9 := Lib.hid ho9
              have HM9 : Hid (m + 1 = ((L.take (k + 1)).filter p).length) := by show _ = _; rw [HFY.out, List.length_append, ← HML.out]; rfl
              clear hown1 hgrow hown ho9
              go_wp2
              go_roundg (n - (k + 1))
              case measure => omega
              case rel => exact ⟨k + 1, m + 1, ao', c', rfl, by go_num, by omega, by omega, Nat.le_refl _, HM9.out, HO9.out, HB9.out⟩
    · obtain rfl : k = n := by omega
      have hki : ¬ (k : Int) < (k : Int) := by omega
      have HF := Lib.hid HR.out
      rw [HEND.out] at HF
      have HBR := Lib.hid (HB1.out.trans (HF.out.2.2.mono HB1.out.size))
      clear HR HK HEND
      go_wp2
      go_ret
      exact ⟨bo, m, d, rfl, HF.out.1, words_own HF.out.1 HF.out.2.1, HBR.out⟩
end Go.Proofs.YtdbfimdcaacjhaaGreat
