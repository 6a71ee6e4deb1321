/- Joined: SlfK, CbI, CbJ, CbK, CbL, CbM: contracts and plain laws, each with its own heading below. -/
import Derived.Shelf.SlSortCmp.NoneTotal
import Derived.Test.YtjimcjhgjfhbiaaProg
import Derived.Test.YtjimcjhgjfhbiaaPackAC
import Derived.Laws.EntriesVeiled
/- Functions of the library at this program, told by their bodies: the tables of numbers and what the bodies are. -/
namespace Go.Proofs.Ytjimcjhgjfhbiaa
open Go.Shelf
def layPdqK_ren : Go.Shelf.Ren := ⟨fun | 14 => 31 | 20 => 35 | 21 => 36 | 22 => 37 | 23 => 38 | 24 => 39 | 25 => 40 | 26 => 41 | 27 => 42 | 46 => 47 | 47 => 48 | 48 => 49 | 49 => 50 | 50 => 51 | 15 => 32 | 57 => 54 | 28 => 43 | 29 => 44 | n => n, fun | 24 => 45 | 22 => 35 | 3 => 3 | 25 => 65 | 4 => 4 | 0 => 0 | 46 => 76 | 45 => 75 | 50 => 80 | 66 => 87 | 39 => 66 | 55 => 85 | 70 => 91 | 76 => 96 | 77 => 97 | 53 => 83 | 5 => 5 | 9 => 9 | n => n, fun | n => n⟩
theorem layPdqK : Go.Proofs.SlLaysF.n14 Try.prog layPdqK_ren := {
  mixed := by kernel_rfl
  f14 := ⟨Try.f31.name, by decide, Try.func31.trans (congrArg some (by kernel_rfl))⟩
  f15 := Try.func32.trans (congrArg some (by kernel_rfl))
  f20 := ⟨Try.f35.name, by decide, Try.func35.trans (congrArg some (by kernel_rfl))⟩
  f21 := ⟨Try.f36.name, by decide, Try.func36.trans (congrArg some (by kernel_rfl))⟩
  f22 := ⟨Try.f37.name, by decide, Try.func37.trans (congrArg some (by kernel_rfl))⟩
  f23 := ⟨Try.f38.name, by decide, Try.func38.trans (congrArg some (by kernel_rfl))⟩
  f24 := ⟨Try.f39.name, by decide, Try.func39.trans (congrArg some (by kernel_rfl))⟩
  f25 := ⟨Try.f40.name, by decide, Try.func40.trans (congrArg some (by kernel_rfl))⟩
  f26 := ⟨Try.f41.name, by decide, Try.func41.trans (congrArg some (by kernel_rfl))⟩
  f27 := ⟨Try.f42.name, by decide, Try.func42.trans (congrArg some (by kernel_rfl))⟩
  f28 := Try.func43.trans (congrArg some (by kernel_rfl))
  f29 := Try.func44.trans (congrArg some (by kernel_rfl))
  f46 := ⟨Try.f47.name, by decide, Try.func47.trans (congrArg some (by kernel_rfl))⟩
  f47 := Try.func48.trans (congrArg some (by kernel_rfl))
  f48 := Try.func49.trans (congrArg some (by kernel_rfl))
  f49 := ⟨Try.f50.name, by decide, Try.func50.trans (congrArg some (by kernel_rfl))⟩
  f50 := ⟨Try.f51.name, by decide, Try.func51.trans (congrArg some (by kernel_rfl))⟩
  f57 := ⟨Try.f54.name, by decide, Try.func54.trans (congrArg some (by kernel_rfl))⟩
  t0 := Try.underlying0
  a0 := Try.isAgg0
  z0 := Try.sizeOf0
  v0 := Try.zeroValue0
  t3 := Try.underlying3
  a3 := Try.isAgg3
  z3 := Try.sizeOf3
  v3 := Try.zeroValue3
  t4 := Try.underlying4
  a4 := Try.isAgg4
  z4 := Try.sizeOf4
  v4 := Try.zeroValue4
  t5 := Try.underlying5
  a5 := Try.isAgg5
  z5 := Try.sizeOf5
  v5 := Try.zeroValue5
  t9 := Try.underlying9
  a9 := Try.isAgg9
  z9 := Try.sizeOf9
  v9 := Try.zeroValue9
  t22 := Try.underlying35
  a22 := Try.isAgg35
  z22 := Try.sizeOf35
  v22 := Try.zeroValue35
  a24 := Try.isAgg45
  z24 := Try.sizeOf45
  t25 := Try.underlying65
  a25 := Try.isAgg65
  z25 := Try.sizeOf65
  v25 := Try.zeroValue65
  t39 := Try.underlying66
  a39 := Try.isAgg66
  z39 := Try.sizeOf66
  v39 := Try.zeroValue66
  t45 := Try.underlying75
  a45 := Try.isAgg75
  z45 := Try.sizeOf75
  v45 := Try.zeroValue75
  t46 := Try.underlying76
  a46 := Try.isAgg76
  z46 := Try.sizeOf76
  v46 := Try.zeroValue76
  t50 := Try.underlying80
  a50 := Try.isAgg80
  z50 := Try.sizeOf80
  v50 := Try.zeroValue80
  t53 := Try.underlying83
  a53 := Try.isAgg83
  z53 := Try.sizeOf83
  v53 := Try.zeroValue83
  t55 := Try.underlying85
  a55 := Try.isAgg85
  z55 := Try.sizeOf85
  v55 := Try.zeroValue85
  t66 := Try.underlying87
  a66 := Try.isAgg87
  z66 := Try.sizeOf87
  v66 := Try.zeroValue87
  t70 := Try.underlying91
  a70 := Try.isAgg91
  z70 := Try.sizeOf91
  v70 := Try.zeroValue91
  t76 := Try.underlying96
  a76 := Try.isAgg96
  z76 := Try.sizeOf96
  v76 := Try.zeroValue96
  t77 := Try.underlying97
  a77 := Try.isAgg97
  z77 := Try.sizeOf97
  v77 := Try.zeroValue97 }
def layLenK_ren : Go.Shelf.Ren := ⟨fun | 15 => 32 | 28 => 43 | 29 => 44 | n => n, fun | 39 => 66 | 3 => 3 | 53 => 83 | 55 => 85 | 4 => 4 | 5 => 5 | 9 => 9 | n => n, fun | n => n⟩
theorem layLenK : Go.Proofs.SlLaysF.n15 Try.prog layLenK_ren := {
  mixed := by kernel_rfl
  f15 := Try.func32.trans (congrArg some (by kernel_rfl))
  f28 := Try.func43.trans (congrArg some (by kernel_rfl))
  f29 := Try.func44.trans (congrArg some (by kernel_rfl))
  t3 := Try.underlying3
  a3 := Try.isAgg3
  z3 := Try.sizeOf3
  v3 := Try.zeroValue3
  t4 := Try.underlying4
  a4 := Try.isAgg4
  z4 := Try.sizeOf4
  v4 := Try.zeroValue4
  t5 := Try.underlying5
  a5 := Try.isAgg5
  z5 := Try.sizeOf5
  v5 := Try.zeroValue5
  t9 := Try.underlying9
  a9 := Try.isAgg9
  z9 := Try.sizeOf9
  v9 := Try.zeroValue9
  t39 := Try.underlying66
  a39 := Try.isAgg66
  z39 := Try.sizeOf66
  v39 := Try.zeroValue66
  t53 := Try.underlying83
  a53 := Try.isAgg83
  z53 := Try.sizeOf83
  v53 := Try.zeroValue83
  t55 := Try.underlying85
  a55 := Try.isAgg85
  z55 := Try.sizeOf85
  v55 := Try.zeroValue85 }
end Go.Proofs.Ytjimcjhgjfhbiaa
/- slices.SortFunc at pointers to what is kept, by the last use. -/
namespace Go.Proofs.Ytjimcjhgjfhbiaa
open Go.RowKit Go.Lib Go.Sort

theorem kcmp_any {w : World} {a b : KE} (ua : w.cell? ⟨a.1, 5, none⟩ = some (.int .i64 a.2)) (ub : w.cell? ⟨b.1, 5, none⟩ = some (.int .i64 b.2)) (ha : 0 ≤ a.2 ∧ a.2 ≤ 2000000000) (hb : 0 ≤ b.2 ∧ b.2 ≤ 2000000000) :
    Calls Try.prog 28 #[kP a, kP b] w fun e w' => e = .returned (.int .i64 (a.2 - b.2)) ∧ w' = w.drew := by
  obtain ⟨a1, a2⟩ := a
  obtain ⟨b1, b2⟩ := b
  unfold kP
  dsimp only at *
  have q1 : IntKind.i64.wrap (a2 - b2) = a2 - b2 := wrap_in (by omega) (by omega)
  have ga := World.block_lt_of_cell? w _ ua
  have gb := World.block_lt_of_cell? w _ ub
  dsimp only at ga gb
  go_enter Try.func28, Try.ntmps28
  go_wp2_with (first | (with_reducible refine wp_region_lex (by kernel_rfl) (by kernel_rfl) ?_) | (with_reducible refine OnlyG.intro (by kernel_rfl) ?_))
  go_ret
  exact ⟨rfl, rfl⟩
/-- Sorted by the last use. -/
def UpK (L : List KE) : Prop := L.Pairwise fun a b => a.2 ≤ b.2
section
variable (l : List KE)
abbrev InL := {q : KE // q ∈ l}
def encL : InL l → Value := fun q => kP q.1
def cfL : InL l → InL l → Int := fun x y => x.1.2 - y.1.2
theorem ltL (x y : InL l) : ltOf (cfL l) x y = decide (x.1.2 < y.1.2) := by
  unfold ltOf cfL
  congr 1
  apply propext
  omega
theorem swoL : SWO (ltOf (cfL l)) where
  irrefl x := by rw [ltL]; simp
  trans x y z h1 h2 := by rw [ltL] at *; simp only [decide_eq_true_eq] at *; omega
  ntrans x y z h1 h2 := by rw [ltL] at *; simp only [decide_eq_false_iff_not] at *; omega
end
def UsedIn (w : World) (l : List KE) (blk : Nat) : Prop := ∀ q ∈ l, w.cell? ⟨q.1, 5, none⟩ = some (.int .i64 q.2) ∧ (0 ≤ q.2 ∧ q.2 ≤ 2000000000) ∧ q.1 ≠ blk
theorem cmpLays_k (l : List KE) [Inhabited (InL l)] (blk off size : Nat) (w : World) (hu : UsedIn w l blk) : CmpLays1 Try.prog 28 #[] (encL l) (cfL l) blk off size w := fun m os dk _ x y => by
  have hs : (Go.Sort.putRow (encL l) (Go.Sort.ahead w m) blk off dk).heap.size = w.heap.size := Go.Sort.size_putRow _ _ _ _ _
  have hc : ∀ q : InL l, (sortWorld (encL l) w blk off m dk os).cell? ⟨q.1.1, 5, none⟩ = some (.int .i64 q.1.2) := fun q => by
    obtain ⟨h1, _, h3⟩ := hu q.1 q.2
    unfold sortWorld
    rw [Go.Sort.cell?_grow _ _ _ (by rw [hs]; exact World.block_lt_of_cell? w _ h1), Go.Sort.cell?_putRow_other (encL l) _ _ _ _ _ (.inl h3)]
    exact h1
  exact (kcmp_any (hc x) (hc y) (hu x.1 x.2).2.1 (hu y.1 y.2).2.1).mono fun e w' ⟨h1, h2⟩ => ⟨h1, 1, #[], by rw [h2, Go.Sort.grow_empty]; rfl⟩
end Go.Proofs.Ytjimcjhgjfhbiaa
/- Contract of slices.SortFunc and slices.Clone at a row of pointers to what is kept. -/
namespace Go.Proofs.Ytjimcjhgjfhbiaa
open Go.RowKit Go.Lib Go.Sort

theorem pdq_perm {α : Type} [Inhabited α] (lt : α → α → Bool) (hO : SWO lt) (d : Array α) (n : Nat) (hn : d.size = n) (lim : Nat) : (pdq lt d 0 n lim true true).size = n ∧ (pdq lt d 0 n lim true true).toList.Perm d.toList ∧ SortedIn lt 0 n (pdq lt d 0 n lim true true) := by
  subst hn
  have h := pdq_sorts lt hO d 0 d.size lim true true (Nat.zero_le _) (Nat.le_refl _) (Or.inl rfl)
  generalize pdq lt d 0 d.size lim true true = D at *
  have hs : D.size = d.size := h.1.1
  refine ⟨hs, ?_, h.2⟩
  have := h.1.2.2
  rw [show d.extract 0 d.size = d by simp] at this
  rw [show D.extract 0 d.size = D by rw [← hs]; simp] at this
  exact this
theorem blen_any (n : Nat) (h : n < 4611686018427387904) (w : World) : Calls Try.prog 32 #[.int .u64 (n : Int)] w fun e w' => e = .returned (.int .i64 (Lib.bitLen n : Nat)) ∧ w' = w := by
  have h := Any.bits_Len (SlLaysF0.n15.bits (P := Try.prog) (ρ := layLenK_ren) { layLenK with }) (n : Int) w (by omega) (by omega)
  rwa [Int.toNat_natCast] at h
theorem pdq_any (l : List KE) [Inhabited (InL l)] {w : World} {g cap n : Nat} (d : Array (InL l)) (hn : d.size = n) (hH : Holds (encL l) w g 0 d) (hu : UsedIn w l g) (hblk : g < w.heap.size) (hsz : n < 4611686018427387904) (lim : Nat) (hlim : lim < 4611686018427387904) :
    Calls Try.prog 31 #[.slice (some ⟨g, 0, none⟩) n cap, .int .i64 0, .int .i64 n, .int .i64 lim, .func (.func 28) #[] #[]] w fun e w' => e = .returned (.tuple #[]) ∧ ∃ m os, w' = sortWorld (encL l) w g 0 m (pdq (ltOf (cfL l)) d 0 n lim true true) os := by
  subst hn
  have eg : ∀ args w, (callFunc 28 args).run Try.prog w = .ok (.enter 28 args) w := enters_of Try.func28 (by kernel_rfl) rfl
  have h := Any.pdqsortCmpFunc_all (P := Try.prog) (ρ := layPdqK_ren) layPdqK (encL l) (cfL l) 28 #[] (swoL l) g 0 cap d w eg (cmpLays_k l g 0 d.size w hu) ⟨fun _ => rfl, hH, hblk⟩ (d.size + 1) 0 d.size lim d w (by omega) rfl (SW.start hH) (Nat.zero_le _) (Nat.le_refl _) hsz hlim (Or.inl rfl)
  exact h.mono fun e w' ⟨h1, m, os, h2⟩ => ⟨h1, m, os, h2⟩
theorem holds_k {l : List KE} [Inhabited (InL l)] {w : World} {base g n cap : Nat} (d : Array (InL l)) (hd : d.toList.map (·.1) = l) (hn : n = l.length) (h : w.ownsRow base 45 1 (.slice (some ⟨g, 0, none⟩) n cap) n (kV l)) : Holds (encL l) w g 0 d := by
  obtain ⟨cur, hh, _, hnc, _, hcs, htake⟩ := own_block h
  intro j hj
  have hdl : d.size = l.length := by have := congrArg List.length hd; simpa using this
  refine ⟨?_, frozen_of_row _ _ _ _ _ hh⟩
  have h3 : w.cell? ⟨g, 0 + j, none⟩ = cur[j]? := by rw [Nat.zero_add]; simp [World.cell?, hh]
  have e1 : kG l j = (d[j]!).1 := by
    unfold kG
    rw [getElem!_pos d _ hj]
    have h9 : l[j]? = some (d[j]).1 := by
      have := congrArg (fun x : List KE => x[j]?) hd
      simp only [List.getElem?_map, Array.getElem?_toList, Array.getElem?_eq_getElem hj, Option.map_some] at this
      exact this.symm
    rw [List.getD_eq_getElem?_getD, h9, Option.getD_some]
  rw [h3, ← Array.getElem?_toList, ← List.getElem?_take_of_lt (show j < n * 1 by omega), htake, kV_get (by omega), e1]
  rfl
theorem own_sortedK {l : List KE} [Inhabited (InL l)] {w : World} {base g n cap : Nat} (hn : n = l.length) (h : w.ownsRow base 45 1 (.slice (some ⟨g, 0, none⟩) n cap) n (kV l)) (d' : Array (InL l)) (hd : d'.size = n) (q : Nat) (os : Array Obj) :
    (sortWorld (encL l) w g 0 q d' os).ownsRow base 45 1 (.slice (some ⟨g, 0, none⟩) n cap) n (kV (d'.toList.map (·.1))) ∧ Turn (fun k => k = g) w (sortWorld (encL l) w g 0 q d' os) := by
  obtain ⟨cur, hh, hbg, hnc, hcm, hcs, htake⟩ := own_block h
  have hg : g < w.heap.size := (Array.getElem?_eq_some_iff.1 hh).1
  have hs : (Go.Sort.putRow (encL l) (Go.Sort.ahead w q) g 0 d').heap.size = w.heap.size := Go.Sort.size_putRow _ _ _ _ _
  have hold : ∀ k, k < w.heap.size → (sortWorld (encL l) w g 0 q d' os).heap[k]? = (Go.Sort.mapBlock w g (Go.Sort.putCells (encL l) 0 d')).heap[k]? := fun k hk => by
    unfold sortWorld
    rw [Go.Sort.heap_grow_old _ _ (by rw [hs]; exact hk)]
    rfl
  have hnew : (sortWorld (encL l) w g 0 q d' os).heap[g]? = some (.cells (Go.Sort.putCells (encL l) 0 d' cur) 45 (0, 0)) := by
    rw [hold g hg]
    simp [Go.Sort.mapBlock, Array.getElem?_modify, hh, Go.Sort.onCells]
  refine ⟨⟨by rw [kV_length]; simp [hd], .inr ⟨g, cap, _, rfl, hbg, hnew, hnc, hcm, by simp [Go.Sort.putCells, hcs], ?_⟩⟩, rfl, rfl, rfl, ?_, fun k hk hs => ?_⟩
  · apply List.ext_getElem?
    intro t
    by_cases ht : t < n * 1
    · have htd : t < d'.size := by omega
      rw [List.getElem?_take_of_lt ht, Array.getElem?_toList]
      have hb : t < cur.size := by omega
      simp only [Go.Sort.putCells, Array.getElem?_mapIdx, Array.getElem?_eq_getElem hb, Option.map_some]
      rw [if_pos (by omega)]
      unfold kV
      rw [List.map_map, List.getElem?_map, Array.getElem?_toList, Array.getElem?_eq_getElem htd, Nat.sub_zero, getElem!_pos d' _ htd]
      rfl
    · rw [List.getElem?_take_eq_none (by omega), List.getElem?_eq_none (by rw [kV_length]; simp [hd]; omega)]
  · unfold sortWorld
    rw [Go.Sort.size_grow, hs]; omega
  · rw [hold k hk]
    simp [Go.Sort.mapBlock, Array.getElem?_modify, Ne.symm hs]
/-- slices.SortFunc at a row of the call's own. -/
theorem sortk_any {w : World} {base n cap : Nat} {ao : Option Addr} {l : List KE} (hn : n = l.length) (h : w.ownsRow base 45 1 (.slice ao n cap) n (kV l)) (hu : ∀ q ∈ l, w.cell? ⟨q.1, 5, none⟩ = some (.int .i64 q.2) ∧ (0 ≤ q.2 ∧ q.2 ≤ 2000000000) ∧ ∀ g o s, ao = some ⟨g, o, s⟩ → q.1 ≠ g) (hbig : n ≤ 1000000) :
    Calls Try.prog 27 #[.slice ao n cap, .func (.func 28) #[] #[]] w fun e w' => e = .returned (.tuple #[]) ∧ ∃ R, R.Perm l ∧ UpK R ∧ w'.ownsRow base 45 1 (.slice ao n cap) n (kV R) ∧ Turn (fun k => ∃ o s, ao = some ⟨k, o, s⟩) w w' := by
  have wr : IntKind.u64.wrap (n : Int) = n := by rw [IntKind.wrap_u64]; omega
  have HL := Lib.hid (fun w => blen_any n (by omega) w)
  have hlim : Lib.bitLen n < 4611686018427387904 := Nat.lt_of_le_of_lt (Lib.bitLen_le n 62 (by omega) (by omega)) (by omega)
  rcases Nat.eq_zero_or_pos n with h0 | h0
  · subst h0
    obtain rfl : l = [] := List.eq_nil_of_length_eq_zero hn.symm
    have HP := Lib.hid (fun lim => AnyF.pdqsortCmpFunc_none (P := Try.prog) (ρ := layPdqK_ren) { layPdqK with } ao cap lim (.func (.func 28) #[] #[]) w)
    have HR : Hid (∃ R : List KE, R.Perm [] ∧ UpK R ∧ w.ownsRow base 45 1 (.slice ao 0 cap) 0 (kV R) ∧ Turn (fun k => ∃ o s, ao = some ⟨k, o, s⟩) w w) := ⟨[], List.Perm.refl _, List.Pairwise.nil, h, Turn.refl _ _⟩
    clear h hu hn
    go_enter Try.func27, Try.ntmps27
    go_wp2_with fail
    refine (HL.out _).mono ?_
    rintro e w1 ⟨rfl, rfl⟩
    go_wp2_with fail
    refine (HP.out _).mono ?_
    rintro e w1 ⟨rfl, rfl⟩
    go_wp2
    go_end0
    exact ⟨rfl, HR.out⟩
  · obtain ⟨ao', c', e, _, hh⟩ := own_form h
    cases e
    obtain ⟨g, rfl, _⟩ := hh h0
    have hin : ∀ q ∈ l, q ∈ l := fun _ h => h
    haveI : Inhabited (InL l) := ⟨⟨l[0]'(by omega), List.getElem_mem _⟩⟩
    obtain ⟨d, hd⟩ : ∃ d : Array (InL l), d.toList.map (·.1) = l := ⟨l.attach.toArray, by simp only; exact List.attach_map_subtype_val l⟩
    have hdn : d.size = n := by have := congrArg List.length hd; rw [hn]; simpa using this
    have hH := holds_k d hd hn h
    have hblk : g < w.heap.size := (own_lt h _ _ _ rfl).2
    have hUI : UsedIn w l g := fun q hq => ⟨(hu q hq).1, (hu q hq).2.1, (hu q hq).2.2 g 0 none rfl⟩
    have HP := Lib.hid (pdq_any l (cap := cap) d hdn hH hUI hblk (by omega) (Lib.bitLen n) hlim)
    obtain ⟨p1, p2, p3⟩ := pdq_perm (ltOf (cfL l)) (swoL l) d n hdn (Lib.bitLen n)
    generalize pdq (ltOf (cfL l)) d 0 n (Lib.bitLen n) true true = d' at *
    have HR : Hid (∀ m os, ∃ R, R.Perm l ∧ UpK R ∧ (sortWorld (encL l) w g 0 m d' os).ownsRow base 45 1 (.slice (some ⟨g, 0, none⟩) n cap) n (kV R) ∧ Turn (fun k => ∃ o s, some (⟨g, 0, none⟩ : Addr) = some ⟨k, o, s⟩) w (sortWorld (encL l) w g 0 m d' os)) := fun m os => by
      obtain ⟨q1, q2⟩ := own_sortedK hn h d' p1 m os
      refine ⟨d'.toList.map (·.1), ?_, ?_, q1, ⟨q2.1, q2.2.1, q2.2.2.1, q2.2.2.2.1, fun k hk hs => q2.2.2.2.2 k hk fun e => hs ⟨0, none, by rw [e]⟩⟩⟩
      · have := p2.map (·.1)
        rwa [hd] at this
      · unfold UpK
        rw [List.pairwise_map, List.pairwise_iff_getElem]
        intro i j hi hj hij
        have hi' : i < d'.size := by simpa using hi
        have hj' : j < d'.size := by simpa using hj
        have := p3 i j (Nat.zero_le _) hij (by omega)
        rw [ltL, getElem!_pos d' j hj', getElem!_pos d' i hi'] at this
        simp only [decide_eq_false_iff_not] at this
        simp only [Array.getElem_toList]
        omega
    clear h hu hd hdn hH hblk hUI p1 p2 p3 hin hh hn
    go_enter Try.func27, Try.ntmps27
    go_wp2_with fail
    refine (HL.out _).mono ?_
    rintro e wa ⟨rfl, rfl⟩
    go_wp2_with fail
    refine HP.out.mono ?_
    rintro e w1 ⟨rfl, m, os, rfl⟩
    have HQ := Lib.hid (HR.out m os)
    generalize sortWorld (encL l) wa g 0 m d' os = w2 at *
    go_wp2
    go_end0
    exact ⟨rfl, HQ.out⟩
end Go.Proofs.Ytjimcjhgjfhbiaa
/- Contracts of package cache: Keys; slices.Clone at pointers to what is kept. -/
namespace Go.Proofs.Ytjimcjhgjfhbiaa
open Go.RowKit Go.Lib

theorem kV_cell (l : List KE) : ∀ u ∈ kV l, u.oneCell' = true := fun u hu => by
  obtain ⟨x, _, rfl⟩ := List.mem_map.1 hu; rfl
theorem kclone_any {w : World} {n c : Nat} {ao : Option Addr} {l : List KE} (h : w.ownsRow 0 45 1 (.slice ao n c) n (kV l)) (hl : l.length = n) (hn : n ≤ 1000000) :
    Calls Try.prog 26 #[.slice ao n c] w fun e w' => ∃ ao' c', e = .returned (.slice ao' n c') ∧ w'.ownsRow w.heap.size 45 1 (.slice ao' n c') n (kV l) ∧ Below w.heap.size w w' := by
  obtain ⟨i0, hi, hz0, hz1, hz2⟩ := info_parts info_pk
  have q22 : ∀ (w : World) (a : Option Addr) (n c n' c' : Nat), (binOp .eql 36 (.slice a n c) (.slice none n' c')).run Try.prog w = .ok (.bool a.isNone) w := fun w a n c n' c' => Lib.run_eql_slice_nil w _ _ a n c n' c' Try.underlying36
  cases ao with
  | none =>
    obtain ⟨rfl, rfl⟩ : n = 0 ∧ c = 0 := by
      rcases h.2 with ⟨hv, _⟩ | ⟨g, cap, cur, hv, _⟩
      · simp only [Value.slice.injEq] at hv; exact ⟨hv.2.1, hv.2.2⟩
      · simp only [Value.slice.injEq] at hv; cases hv.1
    obtain rfl : l = [] := List.eq_nil_of_length_eq_zero hl
    clear h
    go_enter Try.func26, Try.ntmps26
    go_wp2
    go_ret
    exact ⟨none, 0, rfl, World.ownsRow_nil _ _ _ _, Below.refl _ _⟩
  | some a =>
    have hcell : ∀ j u, (kV l)[j]? = some u → w.cell? (a.add j) = some u ∧ (a.add j).block < w.heap.size := fun j u hj => by
      rcases h.2 with ⟨hv, _⟩ | ⟨g, cap, cur, hv, _, hh, hnc, hcm, hcs, htake⟩
      · simp only [Value.slice.injEq] at hv; cases hv.1
      · simp only [Value.slice.injEq, Option.some.injEq] at hv
        obtain ⟨rfl, _⟩ := hv
        have hjl : j < n := by have := (List.getElem?_eq_some_iff.1 hj).1; rw [kV_length] at this; omega
        have hadd : (⟨g, 0, none⟩ : Addr).add j = ⟨g, j, none⟩ := by rw [Addr.add_lit, Nat.zero_add]
        rw [hadd]
        have h3 : w.cell? ⟨g, j, none⟩ = cur[j]? := by simp [World.cell?, hh]
        refine ⟨?_, (Array.getElem?_eq_some_iff.1 hh).1⟩
        rw [h3, ← Array.getElem?_toList, ← List.getElem?_take_of_lt (show j < n * 1 by omega), htake]
        exact hj
    have HWA := Lib.hid hcell
    have HE0 : Hid ((w.alloc (.cells #[] 45)).ownsRow w.heap.size 45 1 (.slice (some ⟨w.heap.size, 0, none⟩) 0 0) 0 []) := World.ownsRow_lit (size := 1) (e := 45) w #[] 0 (Nat.le_refl _) (by decide) rfl
    have HLL : Hid ((kV l).length = n * 1) := by show _ = _; rw [kV_length, hl, Nat.mul_one]
    have HB0 : Hid (Below w.heap.size w (w.alloc (.cells #[] 45))) := (Below.refl w.heap.size w).alloc (Nat.le_refl _) _
    clear h hcell
    go_enter Try.func26, Try.ntmps26
    go_wp2_with (at_builtin; refine wpList_append_own _ rfl _ _ 36 rfl w.heap.size 45 i0 (.pointer none) 1 8 Try.underlying36 hi hz0 hz1 hz2 rfl (by decide) _ _ _ rfl HE0.out a n c (kV l) rfl HLL.out ?qc2 (kV_cell _) (by unfold maxLen; omega) (by omega) HB0.out.size ?_)
    case qc2 =>
      intro j u hj
      have := HWA.out j u hj
      exact (HB0.out.cell this.2).trans this.1
    intro v' w1 hown hgrow _
    have HF : Hid (w1.ownsRow w.heap.size 45 1 v' n (kV l) ∧ Below w.heap.size w w1) := by
      exact ⟨by first | exact hown | (rwa [Nat.zero_add, List.nil_append] at hown), below_append HB0.out HE0.out HB0.out.size hgrow⟩
    clear hown hgrow
    go_wp2
    go_ret
    obtain ⟨ao', c', rfl, _⟩ := own_form HF.out.1
    exact ⟨ao', c', rfl, HF.out.1, HF.out.2⟩
def tlC (t : TL) : List Value := [.int .i64 t.1, .int .i64 t.2.1, .int .i64 t.2.2.1, .int .i64 t.2.2.2]
def tlVs (l : List TL) : List Value := l.flatMap tlC
theorem tlVs_length (l : List TL) : (tlVs l).length = l.length * 4 := by
  unfold tlVs
  induction l with
  | nil => rfl
  | cons t l ih => rw [List.flatMap_cons, List.length_append, ih]; simp [tlC]; omega
theorem tlVs_snoc (l : List TL) (t : TL) : tlVs (l ++ [t]) = tlVs l ++ tlC t := by unfold tlVs; simp
theorem info_tile : (Try.prog.info? 28).map (fun i => (i.zero, i.size, i.bytes)) = some (some (.agg #[.int .i64 0, .int .i64 0, .int .i64 0, .int .i64 0]), 4, 32) := by kernel_rfl
/-- Sorted by their last use the kept are the list itself. -/
theorem up_same {M : List CE} (h : M.Pairwise fun a b => a.1.2 < b.1.2) {R : List KE} (hp : R.Perm (M.map (·.1))) (hu : UpK R) : R = M.map (·.1) := by
  have hs : (M.map (·.1)).Pairwise fun a b => a.2 < b.2 := List.pairwise_map.2 h
  refine List.Perm.eq_of_pairwise (le := fun a b : KE => a.2 ≤ b.2) (fun a b ha hb h1 h2 => ?_) hu (hs.imp fun h => Int.le_of_lt h) hp
  obtain ⟨x, hx, rfl⟩ := List.mem_map.1 (hp.mem_iff.1 ha)
  obtain ⟨y, hy, rfl⟩ := List.mem_map.1 hb
  have e : x.1.2 = y.1.2 := by omega
  have : x = y := by
    have hpw := List.pairwise_iff_getElem.1 h
    obtain ⟨i, hi, rfl⟩ := List.getElem_of_mem hx
    obtain ⟨j, hj, rfl⟩ := List.getElem_of_mem hy
    rcases Nat.lt_trichotomy i j with h3 | h3 | h3
    · have := hpw i j hi hj h3; omega
    · subst h3; rfl
    · have := hpw j i hj hi h3; omega
  rw [this]
end Go.Proofs.Ytjimcjhgjfhbiaa
/- Contract of package cache: Keys. -/
namespace Go.Proofs.Ytjimcjhgjfhbiaa
open Go.RowKit Go.Lib

set_option maxRecDepth 100000 in
set_option maxHeartbeats 2000000 in
theorem kkeys_any {S T : Nat → Prop} {w : World} {r mst N : Nat} {A : List AE} (h : CacheIs w r S T mst N A) (hN : N ≤ 1000000000) :
    Calls Try.prog 17 #[.pointer (some ⟨r, 0, none⟩)] w fun e w' => ∃ ao c, e = .returned (.slice ao A.length c) ∧ w'.ownsRow w.heap.size 28 4 (.slice ao A.length c) A.length (tlVs (A.map (·.1))) ∧ Below w.heap.size w w' := by
  obtain ⟨i0, hi, hz0, hz1, hz2⟩ := info_parts info_tile
  obtain ⟨now, M, vo, c, L, h, hnow, rfl, hlen, hm0⟩ := h
  rw [List.length_map] at *
  obtain ⟨n, hn⟩ : ∃ n, M.length = n := ⟨_, rfl⟩
  have hLM : L.length = n := by rw [h.perm.length_eq, List.length_map, hn]
  have hbig : n ≤ 1000 := by omega
  have hr := h.row.lt
  have c2 := h.row.1
  rw [hLM] at c2
  have hown := h.row.2.2.1
  rw [hLM] at hown
  have HCL := Lib.hid (kclone_any hown hLM (by omega))
  have hused : ∀ q ∈ L, w.cell? ⟨q.1, 5, none⟩ = some (.int .i64 q.2) ∧ (0 ≤ q.2 ∧ q.2 ≤ 2000000000) := fun q hq => by
    obtain ⟨e, he, rfl⟩ := List.mem_map.1 (h.perm.mem_iff.1 hq)
    have := (h.ents e he).2
    exact ⟨(h.row.used _ hq).1, by omega⟩
  have HSO : Hid (∀ w1 ao1 c1, w1.ownsRow w.heap.size 45 1 (.slice ao1 n c1) n (kV L) → Below w.heap.size w w1 → Calls Try.prog 27 #[.slice ao1 n c1, .func (.func 28) #[] #[]] w1 fun e w' => e = .returned (.tuple #[]) ∧ w'.ownsRow w.heap.size 45 1 (.slice ao1 n c1) n (kV (M.map (·.1))) ∧ Below w.heap.size w w') := fun w1 ao1 c1 h1 h2 =>
    (sortk_any hLM.symm h1 (fun q hq => ⟨(h2.cell (p := ⟨q.1, 5, none⟩) (World.block_lt_of_cell? w _ (hused q hq).1)).trans (hused q hq).1, (hused q hq).2, fun g o s e => by
      have := (own_lt h1 g o s e).1
      have := World.block_lt_of_cell? w _ (hused q hq).1
      show q.1 ≠ g
      intro e2
      simp at this
      omega⟩) (by omega)).mono fun e w' ⟨e1, R, p1, p2, p3, p4⟩ => ⟨e1, by
        rw [up_same h.rise (p1.trans h.perm) p2] at p3
        exact p3, mine_turn h2 p4 fun k ⟨o, s, e⟩ => (own_lt h1 k o s e).1⟩
  have HT : Hid (∀ W, Below w.heap.size w W → ∀ k (hk : k < M.length), TileAt W (M[k]).1.1 (M[k]).2.1 ∧ (M[k]).1.1 < W.heap.size) := fun W hW k hk => by
    have := (h.ents _ (List.getElem_mem hk)).1.1
    exact ⟨this.below hW, Nat.lt_of_lt_of_le this.lt hW.size⟩
  have HM := Lib.hid hn
  have HMM : Hid ((M.map (·.2)).map (·.1) = M.map (·.2.1)) := by show _ = _; rw [List.map_map]; rfl
  rw [HMM.out, hn]
  clear h hown hused hLM hn hlen hm0 hnow
  go_enter Try.func17, Try.ntmps17
  go_wp2_with fail
  refine HCL.out.mono ?_
  rintro e w1 ⟨ao1, c1, rfl, ho1, hb1⟩
  have HS := Lib.hid (HSO.out w1 ao1 c1 ho1 hb1)
  clear ho1 hb1 HCL HSO c2
  go_wp2_with fail
  refine HS.out.mono ?_
  rintro e w2 ⟨rfl, ho2, hb2⟩
  have HO2 := Lib.hid ho2
  have HB2 := Lib.hid hb2
  clear ho2 hb2 HS
  go_upto_region 5 with (fail)
  go_loopw [4, 6, 16] (fun ov _ iv wr => ∃ (k : Nat) (oo : Option Addr) (oc : Nat), k ≤ n ∧ ov = .slice oo k oc ∧ iv = .int .i64 k ∧ Hid (wr.ownsRow w2.heap.size 28 4 (.slice oo k oc) k (tlVs ((M.map (·.2.1)).take k)) ∧ Below w2.heap.size w2 wr)) (fun _ _ iv _ => n - (intOf iv).toNat)
  case atStart => exact ⟨0, none, 0, Nat.zero_le _, rfl, rfl, World.ownsRow_nil _ _ _ _, Below.refl _ _⟩
  case round =>
    obtain ⟨k, oo, oc, hk, rfl, rfl, HI⟩ := hrel
    by_cases hlt : k < n
    · have hkM : k < M.length := by rw [HM.out]; exact hlt
      obtain ⟨hT, hb⟩ := HT.out wr (HB2.out.trans (HI.out.2.mono HB2.out.size)) k hkM
      obtain ⟨_, _, e, _, hh⟩ := own_form HO2.out
      cases e
      obtain ⟨g, rfl, _, hg, hcl⟩ := hh (by omega)
      have d0 : wr.cell? ⟨g, k, none⟩ = some (.pointer (some ⟨(M[k]).1.1, 0, none⟩)) := (HI.out.2.cell (p := ⟨g, k, none⟩) hg).trans (hcl k _ (by
        rw [kV_get (by rw [List.length_map]; exact hkM)]
        unfold kP kG
        rw [List.getD_eq_getElem?_getD, List.getElem?_map, List.getElem?_eq_getElem hkM]; rfl))
      have hgr : g < wr.heap.size := Nat.lt_of_lt_of_le hg HI.out.2.size
      obtain ⟨x0, x1, x2, x3⟩ := hT
      have HTK : Hid (tlVs ((M.map (·.2.1)).take (k + 1)) = tlVs ((M.map (·.2.1)).take k) ++ tlC (M[k]).2.1) := by
        show _ = _
        rw [← tlVs_snoc, List.take_succ_eq_append_getElem (by rw [List.length_map]; exact hkM), List.getElem_map]
      obtain ⟨b, hbb⟩ : ∃ b, (M[k]).1.1 = b := ⟨_, rfl⟩
      obtain ⟨t, htt⟩ : ∃ t, (M[k]).2.1 = t := ⟨_, rfl⟩
      rw [hbb] at d0 x0 x1 x2 x3 hb
      rw [htt] at x0 x1 x2 x3 HTK
      have hki : (k : Int) < (n : Int) := by omega
      have hki0 : (0 : Int) ≤ (k : Int) := by omega
      have hown := HI.out.1
      have HOA : Hid ((wr.alloc (.cells (tlC t).toArray 28)).ownsRow w2.heap.size 28 4 (.slice oo k oc) k (tlVs ((M.map (·.2.1)).take k))) := hown.alloc _
      have HBA : Hid (Below w2.heap.size w2 (wr.alloc (.cells (tlC t).toArray 28))) := HI.out.2.alloc HI.out.2.size _
      clear hcl hh hbb htt hown HI hkM
      go_wp2_with (at_builtin; refine wpList_append_own _ rfl _ _ 50 rfl w2.heap.size 28 i0 (.agg #[.int .i64 0, .int .i64 0, .int .i64 0, .int .i64 0]) 4 32 Try.underlying50 hi hz0 hz1 hz2 rfl (by decide) _ _ _ rfl HOA.out ⟨wr.heap.size, 0, none⟩ 1 1 (tlC t) rfl rfl (cells_new _ _ _ _ rfl) (by intro u hu; simp [tlC] at hu; rcases hu with rfl | rfl | rfl | rfl <;> rfl) (by unfold maxLen; omega) (by omega) HBA.out.size ?_)
      intro v' w3 hown hgrow _
      obtain ⟨oo', oc', rfl, _⟩ := own_form hown
      have HR : Hid (w3.ownsRow w2.heap.size 28 4 (.slice oo' (k + 1) oc') (k + 1) (tlVs ((M.map (·.2.1)).take (k + 1))) ∧ Below w2.heap.size w2 w3) := by
        rw [HTK.out]
        exact ⟨hown, below_append HBA.out HOA.out HBA.out.size hgrow⟩
      clear hown hgrow
      go_wp2
      go_roundw
      case rel => exact ⟨k + 1, oo', oc', by omega, rfl, by go_num, HR.out⟩
      case measure => simp [intOf]; omega
    · obtain rfl : k = n := by omega
      have HF : Hid (wr.ownsRow w.heap.size 28 4 (.slice oo k oc) k (tlVs (M.map (·.2.1))) ∧ Below w.heap.size w wr) := by
        have h1 := HI.out.1
        rw [List.take_of_length_le (by rw [List.length_map, HM.out]; exact Nat.le_refl _)] at h1
        exact ⟨own_base h1 HB2.out.size, HB2.out.trans (HI.out.2.mono HB2.out.size)⟩
      have hki : ¬ (k : Int) < (k : Int) := by omega
      clear HI
      go_wp2
      go_ret
      exact ⟨oo, oc, rfl, HF.out.1, HF.out.2⟩
end Go.Proofs.Ytjimcjhgjfhbiaa
/- Contract of package cache: Evict. -/
namespace Go.Proofs.Ytjimcjhgjfhbiaa
open Go.RowKit Go.Lib

theorem CoreAt.removed {S T : Nat → Prop} {w : World} {r mst now c i m : Nat} {M : List CE} {vo : Option Addr} {L : List KE} (h : CoreAt w r S T mst now M vo c L) (hi : i < L.length) (hm : m < M.length) (e : kG L i = (M[m]).1) :
    Calls Try.prog 18 #[ifcK r 2, .int .i64 i] w fun e w' => (∃ v, e = .returned v) ∧ ∃ S' L', CoreAt w' r S' T mst now (M.eraseIdx m) vo c L' ∧ Turn S w w' ∧ (∀ k, k < w.heap.size → S' k → S k) := by
  obtain ⟨q, hq⟩ : ∃ q, L.length = q + 1 := ⟨L.length - 1, by omega⟩
  refine (hremoveK_any ⟨h.row, h.heap⟩ hq (i := i) (by omega)).mono ?_
  rintro e' w' ⟨rfl, L', p1, p2, r1, t1⟩
  refine ⟨⟨_, rfl⟩, _, L', core_after (S := S) (T := T) (M' := M.eraseIdx m) h.c0 h.c1 h.fz h.inS h.ltS h.ltT h.foot (fun x he => ?_) (h.rise.sublist (List.eraseIdx_sublist M m)) (h.unl.sublist (List.eraseIdx_sublist M m)) t1 r1 p2 (fun g o s e _ => .inr ⟨o, s, e⟩) ?_, ?_, ?_⟩
  · have he' := erase_sub x he
    have hu := h.row.used x.1 (h.perm.mem_iff.2 (List.mem_map_of_mem he'))
    have hx := h.ents x he'
    refine ⟨hx.1, hx.2, ?_⟩
    rintro (h3 | ⟨o, s, h3⟩)
    · exact hu.2.1 h3
    · exact hu.2.2 _ _ _ h3 rfl
  · rw [e] at p1
    exact gone_perm h.perm hm p1
  · exact ⟨t1.1.1, t1.1.2.1, t1.1.2.2.1, t1.1.2.2.2.1, fun k hk hs => t1.1.2.2.2.2 k hk fun hf => hs (h.foot k hf)⟩
  · rintro k hk (h1 | ⟨o, s, e, h1⟩)
    · exact h1
    · omega
theorem at_unl {M : List CE} (hu : M.Pairwise fun a b => a.2.1 ≠ b.2.1) {m : Nat} (hm : m < M.length) : atM M (M[m]).2.1 = m := by
  have hle : atM M (M[m]).2.1 < M.length := List.findIdx_lt_length_of_exists ⟨M[m], List.getElem_mem hm, by simp⟩
  have ht := atM_tile hle
  rcases Nat.lt_trichotomy (atM M (M[m]).2.1) m with h1 | h1 | h1
  · exact absurd ht (List.pairwise_iff_getElem.1 hu _ _ hle hm h1)
  · exact h1
  · exact absurd ht.symm (List.pairwise_iff_getElem.1 hu _ _ hm hle h1)
theorem tlVs_get (l : List TL) (k t : Nat) (hk : k < l.length) (ht : t < 4) : (tlVs l)[k * 4 + t]? = (tlC (l[k]))[t]? := by
  unfold tlVs
  induction l generalizing k with
  | nil => simp at hk
  | cons x l ih =>
    rw [List.flatMap_cons]
    cases k with
    | zero => rw [List.getElem?_append_left (by simp [tlC]; omega), Nat.zero_mul, Nat.zero_add]; rfl
    | succ k =>
      rw [List.getElem?_append_right (by simp [tlC]; omega), show (k + 1) * 4 + t - (tlC x).length = k * 4 + t by simp [tlC]; omega, ih k (by simpa using hk)]
      rfl
def inE (i : Int) (n : Nat) : Bool := decide (0 ≤ i) && decide (i < (n : Int))
def EvictP (w : World) (r : Nat) (S T : Nat → Prop) (mst N : Nat) (A : List AE) (i : Int) (e : Ending) (w' : World) : Prop :=
  e = .returned (.bool (inE i A.length)) ∧ CTo w r S T mst N (if inE i A.length then A.eraseIdx i.toNat else A) w'
set_option maxRecDepth 100000 in
set_option maxHeartbeats 1000000 in
theorem kevict_any {S T : Nat → Prop} {w : World} {r mst N : Nat} {A : List AE} (h : CacheIs w r S T mst N A) (hN : N ≤ 1000000000) (i : Int) :
    Calls Try.prog 10 #[.pointer (some ⟨r, 0, none⟩), .int .i64 i] w (EvictP w r S T mst N A i) := by
  have HK := Lib.hid (kkeys_any h hN)
  cases hin : inE i A.length with
  | false =>
    have HQ : Hid (∀ w', Below w.heap.size w w' → EvictP w r S T mst N A i (.returned (.bool false)) w') := fun w' hb => ⟨by rw [hin], by rw [hin]; exact cto_below h hb (Nat.le_refl _)⟩
    obtain ⟨Q, hQ⟩ : ∃ Q, EvictP w r S T mst N A i = Q := ⟨_, rfl⟩
    rw [hQ] at HQ ⊢
    obtain ⟨n, hn⟩ : ∃ n, A.length = n := ⟨_, rfl⟩
    rw [hn] at HK hin
    clear h hQ hn
    have hcase : i < 0 ∨ (¬ i < 0 ∧ (n : Int) ≤ i) := by
      unfold inE at hin
      by_cases h1 : i < 0
      · exact .inl h1
      · refine .inr ⟨h1, ?_⟩
        rw [decide_eq_true (show 0 ≤ i by omega)] at hin
        simp at hin
        exact hin
    clear hin
    rcases hcase with h1 | ⟨h1, h2⟩
    · have q1 : decide (i < 0) = true := decide_eq_true h1
      go_enter Try.func10, Try.ntmps10
      go_wp2_with fail
      refine HK.out.mono ?_
      rintro e w1 ⟨ao, c, rfl, ho, hb⟩
      have HQ2 := Lib.hid (HQ.out w1 hb)
      clear ho hb
      go_wp2
      first | go_ret | skip
      exact HQ2.out
    · have q1 : decide (i < 0) = false := decide_eq_false h1
      have q2 : decide ((n : Int) ≤ i) = true := decide_eq_true h2
      go_enter Try.func10, Try.ntmps10
      go_wp2_with fail
      refine HK.out.mono ?_
      rintro e w1 ⟨ao, c, rfl, ho, hb⟩
      have HQ2 := Lib.hid (HQ.out w1 hb)
      clear ho hb
      go_wp2
      first | go_ret | skip
      exact HQ2.out
  | true =>
    have hi : 0 ≤ i ∧ i < A.length := by unfold inE at hin; simpa using hin
    obtain ⟨m, rfl⟩ : ∃ m : Nat, i = (m : Int) := ⟨i.toNat, by omega⟩
    have HC : Hid (CacheIs w r S T mst N A) := h
    obtain ⟨now, M, vo, cc, L, hc, hnow, rfl, hlen, hm0⟩ := h
    have hm : m < M.length := by rw [List.length_map] at hi; omega
    obtain ⟨j, hj, hidx, hk⟩ := idx_found hc.rise hc.unl hc.perm (t := (M[m]).2.1) (by rw [at_unl hc.unl hm]; exact hm)
    simp only [at_unl hc.unl hm] at hk
    have HFI : Hid (∀ W, Below w.heap.size w W → Calls Try.prog 12 #[.pointer (some ⟨r, 0, none⟩), tlV (M[m]).2.1] W fun e w' => e = .returned (.int .i64 j) ∧ Below W.heap.size W w') := fun W hW => by
      have := core_find (hc.below hW) (M[m]).2.1
      rw [hidx] at this
      exact this
    have HRM : Hid (∀ W, Below w.heap.size w W → Calls Try.prog 18 #[ifcK r 2, .int .i64 j] W fun e w' => (∃ v, e = .returned v) ∧ EvictP w r S T mst N (M.map (·.2)) (m : Int) (.returned (.bool true)) w') := fun W hW =>
      ((hc.below hW).removed hj hm hk).mono fun e w' ⟨e1, S', L', p1, p2, p3⟩ => ⟨e1, by rw [hin], by
        rw [hin, if_pos rfl, Int.toNat_natCast]
        refine ⟨S', T, ⟨now, _, vo, cc, L', p1, hnow, map_erase _ _ _, ?_, hm0⟩, (Turn.of_below hW).trans p2 fun _ _ h => h, fun k hk h => ?_⟩
        · have := List.length_eraseIdx_le (M.map (·.2)) m
          omega
        · rcases h with h | h
          · exact .inl (p3 k (Nat.lt_of_lt_of_le hk hW.size) h)
          · exact .inr h⟩
    have hr := hc.row.lt
    obtain ⟨Q, hQ⟩ : ∃ Q, EvictP w r S T mst N (M.map (·.2)) (m : Int) = Q := ⟨_, rfl⟩
    rw [hQ] at HRM ⊢
    obtain ⟨n, hn⟩ : ∃ n, (M.map (·.2)).length = n := ⟨_, rfl⟩
    have HTG : Hid (∀ t, t < 4 → (tlVs ((M.map (·.2)).map (·.1)))[m * 4 + t]? = (tlC (M[m]).2.1)[t]?) := fun t ht => by
      rw [tlVs_get _ m t (by rw [List.length_map, List.length_map]; exact hm) ht]
      simp
    rw [hn] at HK hi
    have q1 : decide ((m : Int) < 0) = false := decide_eq_false (by omega)
    have q2 : decide ((n : Int) ≤ (m : Int)) = false := decide_eq_false (by omega)
    have q2n : decide (n ≤ m) = false := decide_eq_false (by omega)
    have hmi : (m : Int) < (n : Int) := by omega
    have hmi0 : (0 : Int) ≤ (m : Int) := by omega
    have hmn : m < n := by omega
    obtain ⟨t, ht⟩ : ∃ t, (M[m]).2.1 = t := ⟨_, rfl⟩
    rw [ht] at HFI HTG
    unfold ifcK at HRM
    have TT := Lib.hid (show Value.agg #[.int .i64 t.1, .int .i64 t.2.1, .int .i64 t.2.2.1, .int .i64 t.2.2.2] = tlV t from rfl)
    rw [← TT.out] at HFI
    clear hc hj hidx hk hQ hn ht hi hin hlen hm0 hnow
    go_enter Try.func10, Try.ntmps10
    go_wp2_with fail
    refine HK.out.mono ?_
    rintro e w1 ⟨ao, c, rfl, ho, hb⟩
    have HB1 := Lib.hid hb
    obtain ⟨_, _, e, _, hh⟩ := own_form ho
    cases e
    obtain ⟨g, rfl, _, hg, hcl⟩ := hh (by omega)
    have HCC : Hid (∀ W, Below w1.heap.size w1 W → W.cell? ⟨g, m * 4, none⟩ = some (.int .i64 t.1) ∧ W.cell? ⟨g, m * 4 + 1, none⟩ = some (.int .i64 t.2.1) ∧ W.cell? ⟨g, m * 4 + 2, none⟩ = some (.int .i64 t.2.2.1) ∧ W.cell? ⟨g, m * 4 + 3, none⟩ = some (.int .i64 t.2.2.2)) := fun W hW =>
      ⟨(hW.cell (p := ⟨g, m * 4, none⟩) hg).trans (hcl _ _ (HTG.out 0 (by decide))), (hW.cell (p := ⟨g, m * 4 + 1, none⟩) hg).trans (hcl _ _ (HTG.out 1 (by decide))), (hW.cell (p := ⟨g, m * 4 + 2, none⟩) hg).trans (hcl _ _ (HTG.out 2 (by decide))), (hW.cell (p := ⟨g, m * 4 + 3, none⟩) hg).trans (hcl _ _ (HTG.out 3 (by decide)))⟩
    have hr1 : r < w1.heap.size := Nat.lt_of_lt_of_le hr hb.size
    clear ho hb hh hcl
    go_upto_region 4 with (fail)
    refine wp_region_end 10 (fun qa_ qb_ => Below qa_.heap.size qa_ qb_) (fun qi_ qv_ qw_ => (wantAt ([.inl (.pointer (some ⟨r, 0, none⟩)), .inl (.pointer (some ⟨r, 0, none⟩)), .inl (.pointer (some ⟨r, 2, none⟩)), .inl (.iface 48 (.pointer (some ⟨r, 2, none⟩))), .inl (.pointer (some ⟨r, 0, none⟩)), .inl (.slice (some ⟨g, 0, none⟩) n c), .inl (.int .i64 m), .inl (.pointer (some ⟨g, m * 4, none⟩)), .inl (.agg #[.int .i64 t.1, .int .i64 t.2.1, .int .i64 t.2.2.1, .int .i64 t.2.2.2]), .inl (.int .i64 j)] : List Want) qi_).holds qv_ qw_) (by kernel_rfl) (by kernel_rfl) (by kernel_rfl) (fun _ => Below.refl _ _) (fun _ _ _ h1 h2 => h1.trans (h2.mono h1.size)) (fun _ _ _ _ _ h2 h => want_stays h2 h) ?_
    simp only [List.take_succ_cons, List.take_zero, List.drop_succ_cons, List.drop_zero]
    refine inv_cons (fun wx hg hd => ?_) (fun v0 => ?_)
    · have hx := ((Below.refl w1.heap.size w1).drew).trans hg
      clear hd hg
      go_wp2
      exact ⟨_, rfl, Below.refl _ _, rfl⟩
    (try simp only [List.nil_append, Act.put, List.setIfInBounds_toArray, List.set_cons_zero, List.set_cons_succ])
    refine inv_cons (fun wx hg hd => ?_) (fun v1 => ?_)
    · have hx := ((Below.refl w1.heap.size w1).drew).trans hg
      (try (have ee : v0 = (.pointer (some ⟨r, 0, none⟩) : Value) := hd 0 (by simp) (by decide); subst ee))
      clear hd hg
      have hrx := Nat.lt_of_lt_of_le hr1 hx.size
      go_wp2
      exact ⟨_, rfl, Below.refl _ _, rfl⟩
    (try simp only [List.cons_append, List.nil_append, Act.put, List.setIfInBounds_toArray, List.set_cons_zero, List.set_cons_succ])
    refine inv_cons (fun wx hg hd => ?_) (fun v2 => ?_)
    · have hx := ((Below.refl w1.heap.size w1).drew).trans hg
      (try (have ee : v1 = (.pointer (some ⟨r, 0, none⟩) : Value) := hd 1 (by simp) (by decide); subst ee))
      clear hd hg
      go_wp2
      exact ⟨_, rfl, Below.refl _ _, rfl⟩
    (try simp only [List.cons_append, List.nil_append, Act.put, List.setIfInBounds_toArray, List.set_cons_zero, List.set_cons_succ])
    refine inv_cons (fun wx hg hd => ?_) (fun v3 => ?_)
    · have hx := ((Below.refl w1.heap.size w1).drew).trans hg
      (try (have ee : v2 = (.pointer (some ⟨r, 2, none⟩) : Value) := hd 2 (by simp) (by decide); subst ee))
      clear hd hg
      go_wp2
      exact ⟨_, rfl, Below.refl _ _, rfl⟩
    (try simp only [List.cons_append, List.nil_append, Act.put, List.setIfInBounds_toArray, List.set_cons_zero, List.set_cons_succ])
    refine inv_cons (fun wx hg hd => ?_) (fun v4 => ?_)
    · have hx := ((Below.refl w1.heap.size w1).drew).trans hg
      clear hd hg
      go_wp2
      exact ⟨_, rfl, Below.refl _ _, rfl⟩
    (try simp only [List.cons_append, List.nil_append, Act.put, List.setIfInBounds_toArray, List.set_cons_zero, List.set_cons_succ])
    refine inv_cons (fun wx hg hd => ?_) (fun v5 => ?_)
    · have hx := ((Below.refl w1.heap.size w1).drew).trans hg
      clear hd hg
      go_wp2
      exact ⟨_, rfl, Below.refl _ _, rfl⟩
    (try simp only [List.cons_append, List.nil_append, Act.put, List.setIfInBounds_toArray, List.set_cons_zero, List.set_cons_succ])
    refine inv_cons (fun wx hg hd => ?_) (fun v6 => ?_)
    · have hx := ((Below.refl w1.heap.size w1).drew).trans hg
      clear hd hg
      go_wp2
      exact ⟨_, rfl, Below.refl _ _, rfl⟩
    (try simp only [List.cons_append, List.nil_append, Act.put, List.setIfInBounds_toArray, List.set_cons_zero, List.set_cons_succ])
    refine inv_cons (fun wx hg hd => ?_) (fun v7 => ?_)
    · have hx := ((Below.refl w1.heap.size w1).drew).trans hg
      (try (have ee : v5 = (.slice (some ⟨g, 0, none⟩) n c : Value) := hd 5 (by simp) (by decide); subst ee))
      (try (have ee : v6 = (.int .i64 m : Value) := hd 6 (by simp) (by decide); subst ee))
      clear hd hg
      go_wp2
      exact ⟨_, rfl, Below.refl _ _, rfl⟩
    (try simp only [List.cons_append, List.nil_append, Act.put, List.setIfInBounds_toArray, List.set_cons_zero, List.set_cons_succ])
    refine inv_cons (fun wx hg hd => ?_) (fun v8 => ?_)
    · have hx := ((Below.refl w1.heap.size w1).drew).trans hg
      (try (have ee : v7 = (.pointer (some ⟨g, m * 4, none⟩) : Value) := hd 7 (by simp) (by decide); subst ee))
      clear hd hg
      obtain ⟨d0, d1, d2, d3⟩ := HCC.out wx hx
      have hgx := Nat.lt_of_lt_of_le hg hx.size
      go_wp2
      exact ⟨_, rfl, Below.refl _ _, rfl⟩
    (try simp only [List.cons_append, List.nil_append, Act.put, List.setIfInBounds_toArray, List.set_cons_zero, List.set_cons_succ])
    refine inv_cons (fun wx hg hd => ?_) (fun v9 => ?_)
    · have hx := ((Below.refl w1.heap.size w1).drew).trans hg
      (try (have ee : v4 = (.pointer (some ⟨r, 0, none⟩) : Value) := hd 4 (by simp) (by decide); subst ee))
      (try (have ee : v8 = (.agg #[.int .i64 t.1, .int .i64 t.2.1, .int .i64 t.2.2.1, .int .i64 t.2.2.2] : Value) := hd 8 (by simp) (by decide); subst ee))
      clear hd hg
      go_wp2_with fail
      refine (HFI.out wx (HB1.out.trans (hx.mono HB1.out.size))).mono ?_
      rintro e w' ⟨rfl, hb⟩
      go_wp2
      exact ⟨_, rfl, hb, rfl⟩
    (try simp only [List.cons_append, List.nil_append, Act.put, List.setIfInBounds_toArray, List.set_cons_zero, List.set_cons_succ])
    refine inv_done (fun wx hg hd => ?_)
    have hx := ((Below.refl w1.heap.size w1).drew).trans hg
    (have ee : v0 = (.pointer (some ⟨r, 0, none⟩) : Value) := hd 0 (by simp); subst ee)
    (have ee : v1 = (.pointer (some ⟨r, 0, none⟩) : Value) := hd 1 (by simp); subst ee)
    (have ee : v2 = (.pointer (some ⟨r, 2, none⟩) : Value) := hd 2 (by simp); subst ee)
    (have ee : v3 = (.iface 48 (.pointer (some ⟨r, 2, none⟩)) : Value) := hd 3 (by simp); subst ee)
    (have ee : v4 = (.pointer (some ⟨r, 0, none⟩) : Value) := hd 4 (by simp); subst ee)
    (have ee : v5 = (.slice (some ⟨g, 0, none⟩) n c : Value) := hd 5 (by simp); subst ee)
    (have ee : v6 = (.int .i64 m : Value) := hd 6 (by simp); subst ee)
    (have ee : v7 = (.pointer (some ⟨g, m * 4, none⟩) : Value) := hd 7 (by simp); subst ee)
    (have ee : v8 = (.agg #[.int .i64 t.1, .int .i64 t.2.1, .int .i64 t.2.2.1, .int .i64 t.2.2.2] : Value) := hd 8 (by simp); subst ee)
    (have ee : v9 = (.int .i64 j : Value) := hd 9 (by simp); subst ee)
    clear hd hg
    (try go_simp)
    have HX := Lib.hid (HRM.out wx (HB1.out.trans (hx.mono HB1.out.size)))
    clear hx
    go_wp2_with fail
    refine HX.out.mono ?_
    rintro e w3 ⟨⟨v, rfl⟩, hq⟩
    have HQ2 := Lib.hid hq
    clear hq
    go_wp2
    refine only_done ?_
    go_wp2
    first | go_ret | skip
    exact HQ2.out
end Go.Proofs.Ytjimcjhgjfhbiaa
