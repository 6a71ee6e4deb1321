/- The walk of the law HullBoxes. -/
import Derived.Test.YtcoffankmmjehaaHullK
namespace Go.Proofs.Ytcoffankmmjehaa.hullBoxes
open Go.RowKit Go.Lib Hull

def BoxR (a b w h : Int) (l : List Pt) : Prop := ∀ p ∈ l, (a ≤ p.1 ∧ p.1 ≤ a + w) ∧ (b ≤ p.2 ∧ p.2 ≤ b + h)
def corners (a b w h : Int) : List Pt := [(a + w, b + h), (a, b + h), (a, b), (a + w, b)]
def ring4 (a b w h : Int) : List Pt := [(a, b), (a + w, b), (a + w, b + h), (a, b + h)]
theorem law_boxes {a b w h : Int} {l : List Pt} (hw : 0 < w) (hh : 0 < h) (hl : BoxR a b w h l) (hc : ∀ p ∈ corners a b w h, p ∈ l) (hok : okB l = true) : hullF l = ring4 a b w h := by
  have hb := box_both (a := a) (b := b) (w := w) (h := h) (S := fun p => p ∈ l) hw hh (fun p hp => ⟨(hl p hp).1.1, (hl p hp).1.2, (hl p hp).2.1, (hl p hp).2.2⟩) (hc _ (by simp [corners])) (hc _ (by simp [corners])) (hc _ (by simp [corners])) (hc _ (by simp [corners]))
  rw [hullF_of hok hb]
  rfl
theorem small_ring {a b w h : Int} (ha : -999 ≤ a ∧ a ≤ 999) (hb : -999 ≤ b ∧ b ≤ 999) (hw : 1 ≤ w ∧ w ≤ 256) (hh : 1 ≤ h ∧ h ≤ 256) {l : List Pt} (hl : BoxR a b w h l) : Small 1000000 l := fun p hp => by
  have := hl p hp; omega
theorem ring4_in (a b w h : Int) (hw : 0 < w) (hh : 0 < h) : BoxR a b w h (ring4 a b w h) := fun p hp => by
  simp only [ring4, List.mem_cons, List.not_mem_nil, or_false] at hp
  rcases hp with rfl | rfl | rfl | rfl <;> simp only <;> omega
theorem corners_in (a b w h : Int) (hw : 0 < w) (hh : 0 < h) : BoxR a b w h (corners a b w h) := fun p hp => by
  simp only [corners, List.mem_cons, List.not_mem_nil, or_false] at hp
  rcases hp with rfl | rfl | rfl | rfl <;> simp only <;> omega
set_option maxRecDepth 100000 in
set_option maxHeartbeats 8000000 in
theorem core (w : World) (x y u v : Int) (a0 : Option Addr) (n0 c0 : Nat) (z0 : Nat → Int) (g0 : IntsAtK .i64 w w.heap.size a0 n0 z0) (hn : n0 ≤ 1000000000000000) :
    Calls Try.prog 4 #[.int .i64 x, .int .i64 y, .int .i64 u, .int .i64 v, .slice a0 n0 c0] w fun e w' => e = .returned (.bool true) ∧ Below w.heap.size w w' := by
  obtain ⟨i1, hj, hy0, hy1, hy2⟩ := info_parts info_pt
  have HAW := Lib.hid awake_any
  have hx1 := tmod_near x 1000 (by omega)
  have hx2 := tmod_near y 1000 (by omega)
  have eu : bits BinOp.and IntKind.i64 u 255 = u % 256 := i64_and_mask u 8 (by omega) 255 rfl
  have ev : bits BinOp.and IntKind.i64 v 255 = v % 256 := i64_and_mask v 8 (by omega) 255 rfl
  have hu0 : 0 ≤ u % 256 ∧ u % 256 < 256 := ⟨Int.emod_nonneg _ (by omega), Int.emod_lt_of_pos _ (by omega)⟩
  have hv0 : 0 ≤ v % 256 ∧ v % 256 < 256 := ⟨Int.emod_nonneg _ (by omega), Int.emod_lt_of_pos _ (by omega)⟩
  obtain ⟨hu1, hu2⟩ := hu0
  obtain ⟨hv1, hv2⟩ := hv0
  have HG := Lib.hid g0
  clear g0
  go_enter Try.func4, Try.ntmps4
  go_upto_region 2 with (fail)
  clear eu ev
  generalize u % 256 = u' at *
  generalize v % 256 = v' at *
  generalize x.tmod 1000 = a at *
  generalize y.tmod 1000 = b at *
  obtain ⟨p, hp⟩ : ∃ p, p = u' + 1 := ⟨_, rfl⟩
  obtain ⟨q, hq⟩ : ∃ q, q = v' + 1 := ⟨_, rfl⟩
  rw [← hp, ← hq]
  have hp1 : 1 ≤ p ∧ p ≤ 256 := by omega
  have hq1 : 1 ≤ q ∧ q ≤ 256 := by omega
  obtain ⟨hp2, hp3⟩ := hp1
  obtain ⟨hq2, hq3⟩ := hq1
  obtain ⟨ha2, ha3⟩ := hx1
  obtain ⟨hb2, hb3⟩ := hx2
  clear hp hq hu1 hu2 hv1 hv2
  go_upto_region 3 with (fail)
  have HO0 : Hid ((w.alloc (.cells #[.int .i64 (a + p), .int .i64 (b + q), .int .i64 a, .int .i64 (b + q), .int .i64 a, .int .i64 b, .int .i64 (a + p), .int .i64 b] 26)).ownsRow w.heap.size 26 2 (.slice (some ⟨w.heap.size, 0, none⟩) 4 4) 4 (pV (corners a b p q))) := World.ownsRow_lit (size := 2) (e := 26) w #[.int .i64 (a + p), .int .i64 (b + q), .int .i64 a, .int .i64 (b + q), .int .i64 a, .int .i64 b, .int .i64 (a + p), .int .i64 b] 4 (Nat.le_refl _) (by decide) rfl
  have HB0 : Hid (Below w.heap.size w (w.alloc (.cells #[.int .i64 (a + p), .int .i64 (b + q), .int .i64 a, .int .i64 (b + q), .int .i64 a, .int .i64 b, .int .i64 (a + p), .int .i64 b] 26))) := (Below.refl _ _).alloc (Nat.le_refl _) _
  generalize hw0 : w.alloc (.cells #[.int .i64 (a + p), .int .i64 (b + q), .int .i64 a, .int .i64 (b + q), .int .i64 a, .int .i64 b, .int .i64 (a + p), .int .i64 b] 26) = w0 at *
  clear hw0
  obtain ⟨B, hB⟩ : ∃ B, w.heap.size = B := ⟨_, rfl⟩
  have HBB := Lib.hid hB
  rw [hB] at HO0 HB0 HG ⊢
  clear hB
  go_wp2
  go_loopw [11, 12] (fun sl i wr => ∃ (k : Nat) (ao : Option Addr) (c : Nat) (l : List Pt), i = .int .i64 ((2 * k : Nat) : Int) ∧ sl = .slice ao (4 + k) c ∧ k ≤ 20 ∧ 2 * k ≤ n0 ∧ Hid (l.length = 4 + k ∧ BoxR a b p q l ∧ ∀ x ∈ corners a b p q, x ∈ l) ∧ Hid (wr.ownsRow B 26 2 (.slice ao (4 + k) c) (4 + k) (pV l) ∧ Below B w wr)) (fun _ i _ => n0 + 1 - (intOf i).toNat)
  case atStart => exact ⟨0, _, 4, corners a b p q, rfl, rfl, by omega, by omega, ⟨rfl, corners_in a b p q (by omega) (by omega), fun _ h => h⟩, HO0.out, HB0.out⟩
  case round =>
    obtain ⟨k, ao, c, l, rfl, rfl, hk, hkn, HL, HR⟩ := hrel
    have hsz : B ≤ wr.heap.size := by have := HR.out.2.size; rw [HBB.out] at this; exact this
    by_cases hgo : 2 * k + 1 < n0 ∧ k < 20
    · obtain ⟨hg1, hg2⟩ := hgo
      obtain ⟨bb, off, rfl, hbB, hc⟩ := HG.out (by omega)
      have d0 := (HR.out.2.cell (p := ⟨bb, off + 2 * k, none⟩) (show bb < B by omega)).trans (hc (2 * k) (by omega))
      have d1 := (HR.out.2.cell (p := ⟨bb, off + (2 * k + 1), none⟩) (show bb < B by omega)).trans (hc (2 * k + 1) (by omega))
      generalize z0 (2 * k) = zx at d0
      generalize z0 (2 * k + 1) = zy at d1
      have q1 : decide (2 * (k : Int) + 1 < (n0 : Int)) = true := by simp; omega
      have q2 : decide (2 * (k : Int) < 40) = true := by simp; omega
      have ex : bits BinOp.and IntKind.i64 zx 65535 = zx % 65536 := i64_and_mask zx 16 (by omega) 65535 rfl
      have ey : bits BinOp.and IntKind.i64 zy 65535 = zy % 65536 := i64_and_mask zy 16 (by omega) 65535 rfl
      have ex0 : 0 ≤ zx % 65536 := Int.emod_nonneg _ (by omega)
      have ey0 : 0 ≤ zy % 65536 := Int.emod_nonneg _ (by omega)
      have fx0 : 0 ≤ (zx % 65536) % (p + 1) := Int.emod_nonneg _ (by omega)
      have fx1 : (zx % 65536) % (p + 1) < p + 1 := Int.emod_lt_of_pos _ (by omega)
      have fy0 : 0 ≤ (zy % 65536) % (q + 1) := Int.emod_nonneg _ (by omega)
      have fy1 : (zy % 65536) % (q + 1) < q + 1 := Int.emod_lt_of_pos _ (by omega)
      have hb2 : bb < wr.heap.size := by omega
      have hown := HR.out.1
      have HBR := Lib.hid HR.out.2
      have HNE : Hid ((l ++ [(a + (zx % 65536) % (p + 1), b + (zy % 65536) % (q + 1))]).length = 4 + (k + 1) ∧ BoxR a b p q (l ++ [(a + (zx % 65536) % (p + 1), b + (zy % 65536) % (q + 1))]) ∧ ∀ x ∈ corners a b p q, x ∈ l ++ [(a + (zx % 65536) % (p + 1), b + (zy % 65536) % (q + 1))]) := by
        refine ⟨by rw [List.length_append, HL.out.1]; rfl, fun x hx => ?_, fun x hx => List.mem_append_left _ (HL.out.2.2 x hx)⟩
        rcases List.mem_append.1 hx with h | h
        · exact HL.out.2.1 x h
        · rw [List.mem_singleton.1 h]; simp only; omega
      clear HR hc
      go_wp2_with (first | (with_reducible refine wp_region_lex (by kernel_rfl) (by kernel_rfl) ?_) | (with_reducible refine OnlyG.intro (by kernel_rfl) ?_) | (at_builtin; refine wpList_append_own _ rfl (.tmp 56) (.tmp 79) 23 rfl B 26 i1 (.agg #[.int .i64 0, .int .i64 0]) 2 16 Try.underlying23 hj hy0 hy1 hy2 rfl (by decide) _ _ _ rfl ((hown.alloc _).drew) ⟨wr.heap.size, 0, none⟩ 1 1 [.int .i64 (a + (zx % 65536) % (p + 1)), .int .i64 (b + (zy % 65536) % (q + 1))] rfl rfl (cells_new_drew _ _ _ _ rfl) (by simp [Value.oneCell']) (by unfold maxLen; omega) (by omega) (by simp; omega) ?_; intro v' w1 hown1 hgrow _))
      have HB1 : Hid (Below B w w1) := below_append ((HBR.out.alloc hsz _).drew) ((hown.alloc _).drew) (by simp; omega) hgrow
      obtain ⟨ao', c', rfl, _⟩ := own_form hown1
      rw [← pV_snoc l (a + (zx % 65536) % (p + 1), b + (zy % 65536) % (q + 1))] at hown1
      have HO1 := Lib.hid hown1
      clear hown1 hgrow hown
      go_roundw
      case rel => exact ⟨k + 1, ao', c', _, by go_num, rfl, by omega, by omega, HNE.out, HO1.out, HB1.out⟩
      case measure => simp [intOf] <;> omega
    · have hst : decide (2 * (k : Int) + 1 < (n0 : Int)) = false ∨ (decide (2 * (k : Int) + 1 < (n0 : Int)) = true ∧ decide (2 * (k : Int) < 40) = false) := by
        by_cases h : 2 * k + 1 < n0
        · exact .inr ⟨by simp; omega, by rw [decide_eq_false_iff_not]; intro h2; exact hgo ⟨h, by omega⟩⟩
        · exact .inl (by rw [decide_eq_false_iff_not]; omega)
      have hsm := small_ring (by omega) (by omega) (by omega) (by omega) HL.out.2.1
      have hok := hsm.ok (by omega) (by rw [HL.out.1]; omega)
      have hhu := law_boxes (by omega) (by omega) HL.out.2.1 HL.out.2.2 hok
      have hof := hof_any ao c l wr (pAt_own HL.out.1.symm HR.out.1) (by rw [HL.out.1]; omega)
      unfold OfTold at hof
      rw [hhu, HL.out.1, show (ring4 a b p q).length = 4 from rfl] at hof
      have HOF := Lib.hid hof
      have HBR := Lib.hid HR.out.2
      have har : (if okB (ring4 a b p q) = true then wrap64 (area (ring4 a b p q)) else 0) = 2 * p * q := by
        have h1 := small_ring (by omega) (by omega) (by omega) (by omega) (ring4_in a b p q (by omega) (by omega))
        rw [if_pos (h1.ok (by omega) (by show 4 ≤ 1000; omega)), area_small h1 (by show 4 ≤ 1000; omega)]
        exact box_area a b p q
      have HAR := Lib.hid har
      have hm0 : 0 ≤ 2 * p * q ∧ 2 * p * q ≤ 131072 := by
        have := Int.mul_nonneg (show 0 ≤ 2 * p by omega) (show 0 ≤ q by omega)
        have := Int.mul_le_mul (show 2 * p ≤ 512 by omega) (show q ≤ 256 by omega) (by omega) (by omega)
        omega
      obtain ⟨m, hm⟩ : ∃ m, 2 * p * q = m := ⟨_, rfl⟩
      rw [hm] at hm0 HAR
      have w1 : IntKind.i64.wrap (2 * p * q) = m := by rw [hm]; exact wrap_in (by omega) (by omega)
      clear hsm hok hhu hof HL HR har hm0 hm hgo
      rcases hst with hst | ⟨hst, hst2⟩
      all_goals
        go_wp2_with fail
        refine HOF.out.mono ?_
        rintro e w2 ⟨ag, cg, rfl, hp, _, _, hb⟩
        have HP := Lib.hid hp
        have HB2 : Hid (Below B w w2) := HBR.out.trans (hb.mono hsz)
        have hsz2 : B ≤ w2.heap.size := Nat.le_trans hsz hb.size
        have hba : Below w2.heap.size w2 (w2.alloc (.cells #[.int .i64 a, .int .i64 b, .int .i64 (a + p), .int .i64 b, .int .i64 (a + p), .int .i64 (b + q), .int .i64 a, .int .i64 (b + q)] 26)) := (Below.refl _ _).alloc (Nat.le_refl _) _
        have hsm := same_any ag (some ⟨w2.heap.size, 0, none⟩) cg 4 (ring4 a b p q) (ring4 a b p q) _ (hp.below hba) (pAt_new (l := ring4 a b p q) (heap_new w2 (.cells #[.int .i64 a, .int .i64 b, .int .i64 (a + p), .int .i64 b, .int .i64 (a + p), .int .i64 (b + q), .int .i64 a, .int .i64 (b + q)] 26) _ rfl) rfl) (by show 4 ≤ 1000000000; omega) (by show 4 ≤ 1000000000; omega)
        rw [decide_eq_true (rfl : ring4 a b p q = ring4 a b p q), show (ring4 a b p q).length = 4 from rfl] at hsm
        have HSM := Lib.hid hsm
        have HBA := Lib.hid hba
        clear hp hb hba hsm HOF
        go_wp2_with fail
        refine HSM.out.mono ?_
        rintro e w3 ⟨rfl, hb⟩
        have HB3 : Hid (Below w2.heap.size w2 w3) := HBA.out.trans (hb.mono HBA.out.size)
        have har := area_any ag cg (ring4 a b p q) w3 (HP.out.below HB3.out) (by show 4 ≤ 1000000000; omega)
        rw [HAR.out, show (ring4 a b p q).length = 4 from rfl] at har
        have HAR2 := Lib.hid har
        clear hb har HSM
        go_wp2_with fail
        refine HAR2.out.mono ?_
        rintro e w4 ⟨rfl, hb⟩
        have HB4 : Hid (Below w2.heap.size w2 w4) := HB3.out.trans (hb.mono HB3.out.size)
        clear hb
        go_wp2_with fail
        refine (HAW.out _).mono ?_
        rintro e w5 ⟨rfl, hb⟩
        have HF : Hid (Below w.heap.size w w5) := by
          have := HB2.out.trans ((HB4.out.trans (hb.mono HB4.out.size)).mono hsz2)
          show Below _ _ _
          rw [HBB.out]; exact this
        clear hb
        go_wp2
        go_ret
        exact ⟨rfl, HF.out⟩
theorem walk {w : World} (a0 : Int) (_w0 : (Lit.int .i64 a0).wf = true) (a1 : Int) (_w1 : (Lit.int .i64 a1).wf = true) (a2 : Int) (_w2 : (Lit.int .i64 a2).wf = true) (a3 : Int) (_w3 : (Lit.int .i64 a3).wf = true) (a4 : Option Addr) (n4 c4 : Nat) (z4 : Nat → Int) (g4 : IntsAtK .i64 w w.heap.size a4 n4 z4) (_b4 : ∀ i, i < n4 → (Lit.int .i64 (z4 i)).wf = true) (s4 : n4 * 8 ≤ 140737488351232) :
    Calls Try.prog 4 #[.int .i64 a0, .int .i64 a1, .int .i64 a2, .int .i64 a3, .slice a4 n4 c4] w fun e w' => e = .returned (.bool true) ∧ Below w.heap.size w w' := core w a0 a1 a2 a3 a4 n4 c4 z4 g4 (by omega)
end Go.Proofs.Ytcoffankmmjehaa.hullBoxes
