/- A map of nodes in memory: 'm[p] = x' by way of the entry (a tuple assignment). Over any program. -/
import Derived.Test.YtpmlfpmedbccaaaDoorMaps
namespace Go.Proofs.YtpmlfpmedbccaaaDoor
open Go.MapKept (Stamped IsKey findNow_spec run_checkKey run_findKey run_keyThatStays)
open Go.ChangeMaps (setBlock)

theorem find_born {es : Array MapEntry} (hnd : (es.toList.map (·.born)).Nodup) {i : Nat} {e : MapEntry} (hi : es[i]? = some e) : es.findIdx? (fun x => (x.born : Int) == (e.born : Int)) = some i := by
  have hlt := (Array.getElem?_eq_some_iff.1 hi).1
  have hie : es[i] = e := (Array.getElem?_eq_some_iff.1 hi).2
  cases h : es.findIdx? (fun x => (x.born : Int) == (e.born : Int)) with
  | none =>
    have := Array.findIdx?_eq_none_iff.1 h es[i] (Array.getElem_mem hlt)
    rw [hie] at this
    simp at this
  | some j =>
    obtain ⟨hj, hp, _⟩ := Array.findIdx?_eq_some_iff_getElem.1 h
    have hb : es[j].born = e.born := Int.ofNat.inj (by simpa using hp)
    congr 1
    have hnd2 := List.pairwise_iff_getElem.1 hnd
    rcases Nat.lt_trichotomy j i with h1 | h1 | h1
    · have := hnd2 j i (by simpa using hj) (by simpa using hlt) h1
      simp [hie, hb] at this
    · exact h1
    · have := hnd2 i j (by simpa using hlt) (by simpa using hj) h1
      simp [hie, hb] at this

section
variable {P : Program} {w : World} {t k e r : Nat} {T : List Node}
theorem MapAt.entry (h : MapAt w r T) (ht : P.underlying t = some (.map k e)) (hk : P.underlying k = some .string) {z : Value} (hz : (zeroValue e).run P w = .ok z w) (x : Node) :
    ∃ v stamp w1 es clock, (Instr.mapEntry t (.map (some r)) (.string x.place)).run P w = .ok (.tuple #[v, goInt stamp]) w1 ∧ (Instr.entryStore t (.map (some r)) (goInt stamp) x.val).run P w1 = .ok () (setBlock w r (.map es clock)) ∧
      (∀ T', T'.Perm (x :: del x.place T) → MapAt (setBlock w r (.map es clock)) r T') ∧ w.grownBy w1 (some r) ∧ w1.heap.size = w.heap.size := by
  have hlt := h.lt
  obtain ⟨ue, uc, hup, hall⟩ := h.update ht hk x
  obtain ⟨es, clock, L, h1, h2, h3, h4⟩ := h
  have hkey : IsKey .string (.string x.place) := trivial
  rcases findNow_spec hkey es.toList 0 (pair_keys h4) with ⟨q1, q2⟩ | ⟨j, e0, q1, q2, q3⟩
  · simp [Instr.mapUpdate, run_underlying ht, MapKept.run_getObj_map h1, run_checkKey hk hkey, run_findKey hk q1, MapKept.run_setObj_map _ h1, Result.andThen] at hup
    have hst := MapKept.stamped_push (val := z) h2 q2
    have hfind := find_born hst.2.1 (i := es.size) (e := ⟨.string x.place, z, clock⟩) (by simp)
    have hw1 : (setBlock w r (.map (es.push ⟨.string x.place, z, clock⟩) (clock + 1))).heap[r]? = some (.map (es.push ⟨.string x.place, z, clock⟩) (clock + 1)) := setBlock_at hlt
    refine ⟨z, clock, setBlock w r (.map (es.push ⟨.string x.place, z, clock⟩) (clock + 1)), ue, uc, ?_, ?_, hall, grown_setBlock w r _, by simp [setBlock]⟩
    · simp [Instr.mapEntry, run_underlying ht, MapKept.run_getObj_map h1, run_checkKey hk hkey, run_findKey hk q1, hz, MapKept.run_setObj_map _ h1, Result.andThen, setBlock]
    · have hmod : (es.push ⟨.string x.place, z, clock⟩).modify es.size (fun e' => { e' with val := x.val }) = es.push ⟨.string x.place, x.val, clock⟩ := by
        apply Array.ext_getElem?
        intro i
        rw [Array.getElem?_modify, Array.getElem?_push, Array.getElem?_push]
        by_cases hi : i = es.size
        · subst hi; simp
        · rw [if_neg (fun e => hi e.symm), if_neg hi, if_neg hi]
      simp [Instr.entryStore, MapKept.run_getObj_map hw1, goInt, asInt, asIntOf, hfind, Result.andThen, MapKept.run_setObj_map _ hw1]
      rw [← hup, hmod]
      simp [setBlock]
  · have hj : es[j]? = some e0 := by simpa using q2
    simp [Instr.mapUpdate, run_underlying ht, MapKept.run_getObj_map h1, run_checkKey hk hkey, run_findKey hk q1, hj, q3, run_keyThatStays hkey, MapKept.run_setObj_map _ h1, Result.andThen] at hup
    have hst : Stamped (es.modify j fun e' => { e' with key := .string x.place }) clock := MapKept.stamped_modify h2 _ _ (fun _ _ => rfl) (fun e' _ he' => by rw [hj] at he'; cases he'; exact q3.symm)
    have hfind := find_born hst.2.1 (i := j) (e := { e0 with key := .string x.place }) (by rw [Array.getElem?_modify, if_pos rfl, hj]; rfl)
    have hw1 : (setBlock w r (.map (es.modify j fun e' => { e' with key := .string x.place }) clock)).heap[r]? = some (.map (es.modify j fun e' => { e' with key := .string x.place }) clock) := setBlock_at hlt
    refine ⟨e0.val, e0.born, setBlock w r (.map (es.modify j fun e' => { e' with key := .string x.place }) clock), ue, uc, ?_, ?_, hall, grown_setBlock w r _, by simp [setBlock]⟩
    · simp [Instr.mapEntry, run_underlying ht, MapKept.run_getObj_map h1, run_checkKey hk hkey, run_findKey hk q1, hj, q3, run_keyThatStays hkey, MapKept.run_setObj_map _ h1, Result.andThen, setBlock]
    · have hmod : (es.modify j fun e' => { e' with key := .string x.place }).modify j (fun e' => { e' with val := x.val }) = es.modify j fun e' => { e' with key := .string x.place, val := x.val } := by
        apply Array.ext_getElem?
        intro i
        rw [Array.getElem?_modify, Array.getElem?_modify, Array.getElem?_modify]
        by_cases hi : j = i
        · rw [if_pos hi, if_pos hi, if_pos hi, Option.map_map]; rfl
        · rw [if_neg hi, if_neg hi, if_neg hi]
      simp [Instr.entryStore, MapKept.run_getObj_map hw1, goInt, asInt, asIntOf, hfind, Result.andThen, MapKept.run_setObj_map _ hw1]
      rw [← hup, hmod]
      simp [setBlock]
variable {ops : Array Oper} {rest : List Oper} {o1 o2 o3 : Oper} {a : Act} {Q : Exit → Act → World → Prop}
/-- The three operations in a row. -/
theorem wpList_entry (h : MapAt w r T) (ht : P.underlying t = some (.map k e)) (hk : P.underlying k = some .string) {z : Value} (hz : (zeroValue e).run P w = .ok z w) (x : Node) (g1 : o1.guard = none) (g2 : o2.guard = none) (g3 : o3.guard = none)
    (m key m' st v : Operand) (d1 : Tmp) (h1 : o1.op = .mapEntry t m key) (h2 : o2.op = .extract (.tmp d1) 1) (h3 : o3.op = .entryStore t m' st v)
    (hm : a.eval m = .map (some r)) (hp : a.eval key = .string x.place)
    (he : ∀ u, (a.put o1.dst u).eval (.tmp d1) = u) (hm' : ∀ u n, ((a.put o1.dst u).put o2.dst (goInt n)).eval m' = .map (some r)) (hst : ∀ u n, ((a.put o1.dst u).put o2.dst (goInt n)).eval st = goInt n) (hv : ∀ u n, ((a.put o1.dst u).put o2.dst (goInt n)).eval v = x.val)
    (hK : ∀ u n w', (∀ T', T'.Perm (x :: del x.place T) → MapAt w' r T') → w.grownBy w' (some r) → w'.heap.size = w.heap.size → wpList P ops Q rest (((a.put o1.dst u).put o2.dst (goInt n)).put o3.dst undef) w') : wpList P ops Q (o1 :: o2 :: o3 :: rest) a w := by
  obtain ⟨u, n, w1, es, clock, r1, r2, hall, _⟩ := h.entry ht hk hz x
  refine wpList_plain g1 fun K1 hK1 => ?_
  unfold Oper.wp
  simp [execOp, h1, hm, hp, r1, Result.andThen]
  refine hK1 _ _ (wpList_plain g2 fun K2 hK2 => ?_)
  unfold Oper.wp
  have e1 := he (.tuple #[u, goInt n])
  simp [execOp, h2, e1, Instr.extract]
  refine hK2 _ _ (wpList_plain g3 fun K3 hK3 => ?_)
  unfold Oper.wp
  simp [execOp, h3, hm', hst, hv, r2, Result.andThen]
  exact hK3 _ _ (hK _ _ _ hall (grown_setBlock w r _) (by simp [setBlock]))
end
end Go.Proofs.YtpmlfpmedbccaaaDoor
