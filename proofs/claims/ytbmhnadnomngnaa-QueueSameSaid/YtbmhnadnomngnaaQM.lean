/- The map of a row as a partial function from IDs to places. -/
import Derived.Test.YtbmhnadnomngnaaProg
import Derived.Test.YtbmhnadnomngnaaKit
import Derived.Test.YtbmhnadnomngnaaLex4
import Derived.Deep.CutRange
import Derived.BigRegion
import Derived.Maps.OwnSet
import Derived.WideKeyEntry
namespace Go.Proofs.Ytbmhnadnomngnaa
open Go.RowKit Go.Lib
open Go.Maps (Keyed)
open Go.ChangeMaps (setBlock heap_setBlock_same heap_setBlock_other)
open Go.WideElems (findIdx_arr findIdx_born)

theorem keyed_u : Keyed Try.prog 26 := Maps.int_keyed Try.underlying26
theorem key_u {id : Int} (h : (Lit.int .u64 id).wf = true) : keyOf Try.prog 26 (.int .u64 id) = some (.int .u64 id) := Maps.keyOf_int_mk Try.underlying26 h
theorem zero_i (w : World) : (zeroValue 3).run Try.prog w = .ok (.int .i64 0) w := by kernel_rfl
theorem elem_i {v : Int} (h : (Lit.int .i64 v).wf = true) : plainElem (H := Unit) Try.prog 3 (.int .i64 v) = some (.lit (.int .i64 v), []) := plainElem_int Try.underlying3 h

def upd (f : Int → Option Int) (id : Int) (v : Option Int) : Int → Option Int := fun x => if x = id then v else f x
/-- Block b is a map of m entries: f. -/
def MapIs (w : World) (b : Nat) (f : Int → Option Int) (m : Nat) : Prop :=
  ∃ D : DataW Unit, w.ownsMap Try.prog 26 (plainElem Try.prog 3) b m D ∧ Maps.size D = m ∧
    ∀ id, (Lit.int .u64 id).wf = true → Maps.has D (.int .u64 id) = (f id).isSome ∧ D.atKey (.int .u64 id) (.lit (.int .i64 0)) = .lit (.int .i64 ((f id).getD 0))

theorem MapIs.heap {w w' : World} {b m : Nat} {f : Int → Option Int} (h : MapIs w b f m) (hb : w'.heap[b]? = w.heap[b]?) : MapIs w' b f m := by
  obtain ⟨D, ⟨es, clock, h1, h2⟩, h3⟩ := h
  exact ⟨D, ⟨es, clock, by rw [hb]; exact h1, h2⟩, h3⟩
theorem MapIs.lt {w : World} {b m : Nat} {f : Int → Option Int} (h : MapIs w b f m) : b < w.heap.size := by
  obtain ⟨D, h1, _⟩ := h
  exact h1.lt
theorem MapIs.notCells {w : World} {b m : Nat} {f : Int → Option Int} (h : MapIs w b f m) {cs : Array Value} {t : TypeId} {fr : Nat × Nat} : w.heap[b]? ≠ some (.cells cs t fr) := fun e => by
  obtain ⟨D, ⟨es, clock, h1, _⟩, _⟩ := h
  rw [h1] at e
  cases e
theorem mapIs_new (w : World) : MapIs (w.alloc (.map #[] 0)) w.heap.size (fun _ => none) 0 :=
  ⟨.map [], World.ownsMap_made w _ _ _, rfl, fun _ _ => ⟨rfl, rfl⟩⟩
theorem tight {w : World} {b n : Nat} {D : DataW Unit} (h : w.ownsMap Try.prog 26 (plainElem Try.prog 3) b n D) : w.ownsMap Try.prog 26 (plainElem Try.prog 3) b (Maps.size D) D := by
  obtain ⟨es, clock, h1, F, h2, rfl⟩ := h
  refine ⟨es, clock, h1, F, ?_, rfl⟩
  rw [Maps.size_eq, length_sorted, List.length_map]
  simp

/-- v, ok := m[id] -/
theorem MapIs.look {w : World} {b m : Nat} {f : Int → Option Int} (h : MapIs w b f m) {id : Int} (hid : (Lit.int .u64 id).wf = true) :
    (Instr.lookup 49 (.map (some b)) (.int .u64 id) true).run Try.prog w = .ok (.tuple #[.int .i64 ((f id).getD 0), .bool (f id).isSome]) w := by
  obtain ⟨D, h1, _, h3⟩ := h
  obtain ⟨v, ps, hr, hv⟩ := h1.look_ok keyed_u Try.underlying49 (zero_i w) (elem_i (v := 0) (by decide)) (key_u hid)
  obtain ⟨c, rfl, hc, _⟩ := plainElem_int_inv Try.underlying3 hv
  rw [hr, (h3 id hid).1]
  have h4 := (h3 id hid).2
  simp only [Prod.mk.injEq] at hc
  rw [hc.1] at h4
  simp only [DataW.lit.injEq, Lit.int.injEq, true_and] at h4
  rw [h4]

theorem mapIs_put {w : World} {b m n : Nat} {f : Int → Option Int} {D : DataW Unit} (ht : Maps.Tidy D) (hs : Maps.size D = m) (h3 : ∀ id, (Lit.int .u64 id).wf = true → Maps.has D (.int .u64 id) = (f id).isSome ∧ D.atKey (.int .u64 id) (.lit (.int .i64 0)) = .lit (.int .i64 ((f id).getD 0)))
    {id v : Int} (hid : (Lit.int .u64 id).wf = true) (h : w.ownsMap Try.prog 26 (plainElem Try.prog 3) b n (D.put (.int .u64 id) (.lit (.int .i64 v)))) :
    MapIs w b (upd f id (some v)) (if (f id).isSome then m else m + 1) := by
  have hk : WideAt.IsKeyLit (.int .u64 id) := by simp [WideAt.IsKeyLit]
  refine ⟨D.put (.int .u64 id) (.lit (.int .i64 v)), ?_, ?_, fun id' hid' => ?_⟩
  · have e : Maps.size (D.put (.int .u64 id) (.lit (.int .i64 v))) = if (f id).isSome then m else m + 1 := by
      rw [Maps.size_put (k := .int .u64 id) ht, (h3 id hid).1, hs]
    rw [← e]
    exact tight h
  · rw [Maps.size_put (k := .int .u64 id) ht, (h3 id hid).1, hs]
  · unfold upd
    by_cases e : id' = id
    · subst e
      rw [if_pos rfl, Maps.has_put_same ht.isMap hk, Maps.atKey_put_same ht.isMap hk]
      exact ⟨rfl, rfl⟩
    · have hne : (Lit.int .u64 id') ≠ .int .u64 id := fun h => e (by cases h; rfl)
      rw [if_neg e, Maps.has_put_other hne, Maps.atKey_put_other hne]
      exact h3 id' hid'
/-- m[id] = v -/
theorem MapIs.put {w : World} {b m : Nat} {f : Int → Option Int} (h : MapIs w b f m) (hm : m < maxLen) {id v : Int} (hid : (Lit.int .u64 id).wf = true) (hv : (Lit.int .i64 v).wf = true) :
    ∃ w', (Instr.mapUpdate 49 (.map (some b)) (.int .u64 id) (.int .i64 v)).run Try.prog w = .ok () w' ∧ MapIs w' b (upd f id (some v)) (if (f id).isSome then m else m + 1) ∧ w.mapTurned w' b := by
  obtain ⟨D, h1, h2, h3⟩ := h
  obtain ⟨w', hr, ho, ht⟩ := h1.store keyed_u Try.underlying49 hm (key_u hid) (elem_i hv)
  exact ⟨w', hr, mapIs_put (h1.tidy keyed_u) h2 h3 hid ho, ht⟩
/-- delete(m, id) -/
theorem MapIs.del {w : World} {b m : Nat} {f : Int → Option Int} (h : MapIs w b f m) {id : Int} (hid : (Lit.int .u64 id).wf = true) (hf : (f id).isSome = true) (ty : TypeId) :
    ∃ w', (Builtin.delete_ #[49, 26] ty #[.map (some b), .int .u64 id]).run Try.prog w = .ok (.tuple #[]) w' ∧ MapIs w' b (upd f id none) (m - 1) ∧ w.mapTurned w' b := by
  obtain ⟨D, h1, h2, h3⟩ := h
  obtain ⟨w', hr, ho, ht⟩ := h1.drop keyed_u Try.underlying49 (key_u hid) ty
  have hsz := Maps.size_del (k := .int .u64 id) (h1.tidy keyed_u)
  rw [(h3 id hid).1, hf, if_pos rfl, h2] at hsz
  refine ⟨w', hr, ⟨D.del (.int .u64 id), ?_, by omega, fun id' hid' => ?_⟩, ht⟩
  · have e : Maps.size (D.del (.int .u64 id)) = m - 1 := by omega
    rw [← e]
    exact tight ho
  · unfold upd
    by_cases e : id' = id
    · subst e
      rw [if_pos rfl, Maps.has_del_same, Maps.atKey_del_same]
      exact ⟨rfl, rfl⟩
    · have hne : (Lit.int .u64 id') ≠ .int .u64 id := fun h => e (by cases h; rfl)
      rw [if_neg e, Maps.has_del_other hne, Maps.atKey_del_other hne]
      exact h3 id' hid'
theorem modify_same {α : Type} (es : Array α) (j : Nat) (e0 : α) (g : α → α) (h : es[j]? = some e0) (hg : g e0 = e0) : es.modify j g = es := by
  apply Array.ext_getElem?
  intro i
  rw [Array.getElem?_modify]
  by_cases e : j = i
  · subst e; simp [h, hg]
  · simp [e]
/-- m[id] = v in two steps, as a tuple's assignment goes, where id is there. -/
theorem MapIs.entry {w : World} {b m : Nat} {f : Int → Option Int} (h : MapIs w b f m) (hm : m < maxLen) {id : Int} (hid : (Lit.int .u64 id).wf = true) (hf : (f id).isSome = true) :
    ∃ v0 st, (Instr.mapEntry 49 (.map (some b)) (.int .u64 id)).run Try.prog w = .ok (.tuple #[v0, .int .i64 st]) w ∧
      ∀ v, (Lit.int .i64 v).wf = true → ∃ w2, (Instr.entryStore 49 (.map (some b)) (.int .i64 st) (.int .i64 v)).run Try.prog w = .ok () w2 ∧ MapIs w2 b (upd f id (some v)) m ∧ w.mapTurned w2 b := by
  obtain ⟨D, h1, h2, h3⟩ := h
  have htd := h1.tidy keyed_u
  have hhas : Maps.has D (.int .u64 id) = true := by rw [(h3 id hid).1]; exact hf
  obtain ⟨es, clock, hb, F, hs, hD⟩ := h1
  have h1' : w.ownsMap Try.prog 26 (plainElem Try.prog 3) b m D := ⟨es, clock, hb, F, hs, hD⟩
  rcases keyed_u.find w (key_u hid) es.toList F.keys with ⟨_, g2⟩ | ⟨j, e0, g1, g2, g3⟩
  · exfalso
    rcases Maps.fit_look true keyed_u Try.underlying49 (zero_i w) hb F (key_u hid) with ⟨_, _, hat⟩ | ⟨e0, y, he, hk, _⟩
    · rw [hD] at hhas
      rw [Maps.has_false_of_atKey hat] at hhas
      cases hhas
    · exact g2 e0 he hk
  · have hj : es[j]? = some e0 := by simpa using g2
    have hsame : es.modify j (fun e => { e with key := .int .u64 id }) = es := modify_same es j e0 _ hj (by rw [← g3])
    have hidx : es.findIdx? (fun e => ((e.born : Nat) : Int) == ((e0.born : Nat) : Int)) = some j := by
      rw [findIdx_arr]
      exact findIdx_born F.stamped.2.1 g2
    have hset : setBlock w b (.map es clock) = w := by
      have e : w.heap.setIfInBounds b (.map es clock) = w.heap := by
        apply Array.ext_getElem?
        intro i
        by_cases hi : i = b
        · subst hi
          exact (heap_setBlock_same hb _).trans hb.symm
        · exact heap_setBlock_other hb _ hi
      unfold setBlock
      rw [e]
    refine ⟨e0.val, (e0.born : Int), ?_, fun v hv => ?_⟩
    · have : (Instr.mapEntry 49 (.map (some b)) (.int .u64 id)).run Try.prog w = .ok (.tuple #[e0.val, .int .i64 (e0.born : Int)]) (setBlock w b (.map es clock)) := by
        simp [Instr.mapEntry, run_underlying Try.underlying49, MapKept.run_getObj_map hb, keyed_u.check w false (key_u hid), g1, hj, g3, keyed_u.stays w (key_u hid), hsame, MapKept.run_setObj_map _ hb, Result.andThen, setBlock, goInt]
      rw [hset] at this
      exact this
    · obtain ⟨w', hr4, ho, ht⟩ := h1'.store keyed_u Try.underlying49 hm (key_u hid) (elem_i hv)
      have hmod : es.modify j (fun e' => { e' with key := .int .u64 id, val := .int .i64 v }) = es.modify j (fun e' => { e' with val := .int .i64 v }) := by
        apply Array.ext_getElem?
        intro i
        rw [Array.getElem?_modify, Array.getElem?_modify]
        by_cases e : j = i
        · subst e; simp [hj, ← g3]
        · simp [e]
      have hu : (Instr.mapUpdate 49 (.map (some b)) (.int .u64 id) (.int .i64 v)).run Try.prog w = .ok () (setBlock w b (.map (es.modify j (fun e' => { e' with val := .int .i64 v })) clock)) := by
        simp [Instr.mapUpdate, run_underlying Try.underlying49, MapKept.run_getObj_map hb, keyed_u.check w false (key_u hid), g1, hj, g3, keyed_u.stays w (key_u hid), hmod, MapKept.run_setObj_map _ hb, Result.andThen, setBlock]
      rw [hu] at hr4
      cases hr4
      refine ⟨setBlock w b (.map (es.modify j (fun e' => { e' with val := .int .i64 v })) clock), ?_, ?_, ht⟩
      · simp [Instr.entryStore, MapKept.run_getObj_map hb, asInt, asIntOf, hidx, MapKept.run_setObj_map _ hb, Result.andThen, setBlock]
      · have := mapIs_put htd h2 h3 hid ho
        rwa [hf, if_pos rfl] at this
end Go.Proofs.Ytbmhnadnomngnaa
