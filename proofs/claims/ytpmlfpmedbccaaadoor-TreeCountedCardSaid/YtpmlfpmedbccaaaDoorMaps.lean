/- A map of nodes in memory: what each operation of Go's maps does to it. Over any program whose types are as said. -/
import Derived.Test.YtpmlfpmedbccaaaDoorNodes
import Derived.ChangeMaps4
import Derived.Maps.RangeRun
import Derived.OwnWalk
import Derived.Below
namespace Go.Proofs.YtpmlfpmedbccaaaDoor
open Go.MapKept (Stamped IsKey findNow_spec run_checkKey run_findKey run_keyThatStays)
open Go.ChangeMaps (setBlock)

def Node.cells (x : Node) : List Value := [.string x.place, .string x.data, .int .i64 x.version, .int .i64 x.made, .int .i64 x.changed, .int .i64 x.owner, .int .i64 x.counter]
def Node.val (x : Node) : Value := .agg x.cells.toArray
def kv (e : MapEntry) : Value × Value := (e.key, e.val)
def kvn (x : Node) : Value × Value := (.string x.place, x.val)
/-- Block r of w is a map that holds the nodes T, each under its place. -/
def MapAt (w : World) (r : Nat) (T : List Node) : Prop :=
  ∃ es clock L, w.heap[r]? = some (.map es clock) ∧ Stamped es clock ∧ List.Perm L T ∧ es.toList.map kv = L.map kvn
theorem MapAt.of_block {w w' : World} {r : Nat} {T : List Node} (h : MapAt w r T) (hb : w'.heap[r]? = w.heap[r]?) : MapAt w' r T := by
  obtain ⟨es, clock, L, h1, h2⟩ := h
  exact ⟨es, clock, L, hb.trans h1, h2⟩
theorem MapAt.lt {w : World} {r : Nat} {T : List Node} (h : MapAt w r T) : r < w.heap.size := by
  obtain ⟨es, clock, L, h1, _⟩ := h
  exact (Array.getElem?_eq_some_iff.1 h1).1
theorem pairs_get {es : List MapEntry} {L : List Node} (h : es.map kv = L.map kvn) {i : Nat} {a : MapEntry} (ha : es[i]? = some a) : ∃ b, L[i]? = some b ∧ a.key = .string b.place ∧ a.val = b.val := by
  have h1 : (es.map kv)[i]? = some (kv a) := by rw [List.getElem?_map, ha]; rfl
  rw [h, List.getElem?_map] at h1
  obtain ⟨b, hb, he⟩ := Option.map_eq_some_iff.1 h1
  have e1 := congrArg Prod.fst he
  have e2 := congrArg Prod.snd he
  exact ⟨b, hb, e1.symm, e2.symm⟩
theorem pairs_get' {es : List MapEntry} {L : List Node} (h : es.map kv = L.map kvn) {i : Nat} {b : Node} (hb : L[i]? = some b) : ∃ a, es[i]? = some a ∧ a.key = .string b.place ∧ a.val = b.val := by
  have h1 : (L.map kvn)[i]? = some (kvn b) := by rw [List.getElem?_map, hb]; rfl
  rw [← h, List.getElem?_map] at h1
  obtain ⟨a, ha, he⟩ := Option.map_eq_some_iff.1 h1
  exact ⟨a, ha, congrArg Prod.fst he, congrArg Prod.snd he⟩
theorem pairs_len {es : List MapEntry} {L : List Node} (h : es.map kv = L.map kvn) : es.length = L.length := by
  have := congrArg List.length h
  simpa using this
theorem pair_keys {es : List MapEntry} {L : List Node} (h : es.map kv = L.map kvn) : ∀ x ∈ es, IsKey .string x.key := by
  intro x hx
  obtain ⟨i, hi, rfl⟩ := List.getElem_of_mem hx
  obtain ⟨b, _, h1, _⟩ := pairs_get h (List.getElem?_eq_getElem hi)
  rw [h1]
  trivial
theorem pair_places {es : List MapEntry} {L : List Node} (h : es.map kv = L.map kvn) : es.map (·.key) = (L.map (·.place)).map Value.string := by
  have := congrArg (List.map Prod.fst) h
  simpa [List.map_map, Function.comp_def, kv, kvn] using this
theorem places_nodup {es : Array MapEntry} {clock : Nat} {L : List Node} (hs : Stamped es clock) (h : es.toList.map kv = L.map kvn) : (L.map (·.place)).Nodup := by
  have := hs.2.2
  rw [pair_places h] at this
  exact List.Pairwise.of_map _ (fun a b hab => fun e => hab (by rw [e])) this
theorem MapAt.nodup {w : World} {r : Nat} {T : List Node} (h : MapAt w r T) : (T.map (·.place)).Nodup := by
  obtain ⟨es, clock, L, h1, h2, h3, h4⟩ := h
  exact (h3.map _).nodup_iff.1 (places_nodup h2 h4)

section
variable {P : Program} {w : World} {t k e r : Nat} {T : List Node}
/-- len(m) -/
theorem MapAt.len (h : MapAt w r T) (ht : P.underlying t = some (.map k e)) (ty : TypeId) : (Builtin.len_ #[t] ty #[.map (some r)]).run P w = .ok (.int .i64 T.length) w := by
  obtain ⟨es, clock, L, h1, h2, h3, h4⟩ := h
  have : es.size = T.length := by rw [← h3.length_eq, ← pairs_len h4]; simp
  simp [Builtin.len_, run_underlying ht, MapKept.run_getObj_map h1, Result.andThen, this, goInt]
/-- v, ok := m[p] -/
theorem MapAt.look_some (h : MapAt w r T) (ht : P.underlying t = some (.map k e)) (hk : P.underlying k = some .string) {p : ByteArray} {x : Node} (hx : look T p = some x) :
    (Instr.lookup t (.map (some r)) (.string p) true).run P w = .ok (.tuple #[x.val, .bool true]) w := by
  obtain ⟨hm, rfl⟩ := look_mem hx
  obtain ⟨es, clock, L, h1, h2, h3, h4⟩ := h
  have hkey : IsKey .string (.string x.place) := trivial
  rcases findNow_spec hkey es.toList 0 (pair_keys h4) with ⟨_, q2⟩ | ⟨j, e0, q1, q2, q3⟩
  · obtain ⟨i, hi, hix⟩ := List.getElem_of_mem (h3.mem_iff.2 hm)
    obtain ⟨a, ha, hp⟩ := pairs_get' h4 (show L[i]? = some x by rw [← hix]; exact List.getElem?_eq_getElem hi)
    exact absurd hp.1 (q2 a (List.mem_of_getElem? ha))
  · obtain ⟨y, hy, hp⟩ := pairs_get h4 q2
    have hyx : y = x := by
      have e1 : y.place = x.place := by
        have := hp.1.symm.trans q3
        injection this
      have hnd := places_nodup h2 h4
      have a1 := look_of_mem hnd (List.mem_of_getElem? hy)
      have a2 := look_of_mem hnd (h3.mem_iff.2 hm)
      rw [e1, a2] at a1
      injection a1 with a1
      exact a1.symm
    subst hyx
    simp [Instr.lookup, run_underlying ht, MapKept.run_getObj_map h1, run_checkKey hk hkey, run_findKey hk q1, Result.andThen, hp.2]
theorem MapAt.look_none (h : MapAt w r T) (ht : P.underlying t = some (.map k e)) (hk : P.underlying k = some .string) {p : ByteArray} (hx : look T p = none) {z : Value} (hz : (zeroValue e).run P w = .ok z w) :
    (Instr.lookup t (.map (some r)) (.string p) true).run P w = .ok (.tuple #[z, .bool false]) w := by
  obtain ⟨es, clock, L, h1, h2, h3, h4⟩ := h
  have hkey : IsKey .string (.string p) := trivial
  rcases findNow_spec hkey es.toList 0 (pair_keys h4) with ⟨q1, _⟩ | ⟨j, e0, q1, q2, q3⟩
  · simp [Instr.lookup, run_underlying ht, MapKept.run_getObj_map h1, run_checkKey hk hkey, run_findKey hk q1, Result.andThen, hz]
  · obtain ⟨y, hy, hp⟩ := pairs_get h4 q2
    have e1 : y.place = p := by
      have := hp.1.symm.trans q3
      injection this
    exact absurd e1 (Proofs.YtpmlfpmedbccaaaDoor.look_none hx y (h3.mem_iff.1 (List.mem_of_getElem? hy)))

theorem setBlock_at {o : Obj} (h : r < w.heap.size) : (setBlock w r o).heap[r]? = some o := by simp [setBlock, h]
theorem del_eraseIdx {L : List Node} (hnd : (L.map (·.place)).Nodup) {j : Nat} {y : Node} (hy : L[j]? = some y) : L.eraseIdx j = del y.place L := by
  have := Go.ChangeMaps.filter_eq_eraseIdx (fun x : Node => decide (x.place = y.place)) L j y hy (by simp) ((List.pairwise_map.1 hnd).imp fun h ⟨h1, h2⟩ => h (by simp at h1 h2; rw [h1, h2]))
  unfold del
  rw [← this]
  congr 1
  funext x
  simp
theorem del_perm {L T : List Node} (h : L.Perm T) (p : ByteArray) : (del p L).Perm (del p T) := h.filter _
theorem del_not {T : List Node} {p : ByteArray} (h : ∀ x ∈ T, x.place ≠ p) : del p T = T := List.filter_eq_self.2 fun x hx => by simpa using h x hx
/-- m[x.place] = x -/
theorem MapAt.update (h : MapAt w r T) (ht : P.underlying t = some (.map k e)) (hk : P.underlying k = some .string) (x : Node) :
    ∃ es clock, (Instr.mapUpdate t (.map (some r)) (.string x.place) x.val).run P w = .ok () (setBlock w r (.map es clock)) ∧ ∀ T', T'.Perm (x :: del x.place T) → MapAt (setBlock w r (.map es clock)) r T' := by
  have hlt := h.lt
  obtain ⟨es, clock, L, h1, h2, h3, h4⟩ := h
  have hkey : IsKey .string (.string x.place) := trivial
  rcases findNow_spec hkey es.toList 0 (pair_keys h4) with ⟨q1, q2⟩ | ⟨j, e0, q1, q2, q3⟩
  · refine ⟨es.push ⟨.string x.place, x.val, clock⟩, clock + 1, ?_, fun T' hT' => ⟨_, _, L ++ [x], setBlock_at hlt, MapKept.stamped_push h2 q2, ?_, ?_⟩⟩
    · simp [Instr.mapUpdate, run_underlying ht, MapKept.run_getObj_map h1, run_checkKey hk hkey, run_findKey hk q1, MapKept.run_setObj_map _ h1, Result.andThen, setBlock]
    · have hn : ∀ y ∈ T, y.place ≠ x.place := fun y hy ep => by
        obtain ⟨i, hi, hiy⟩ := List.getElem_of_mem (h3.mem_iff.2 hy)
        obtain ⟨a, ha, hp, _⟩ := pairs_get' h4 (show L[i]? = some y by rw [← hiy]; exact List.getElem?_eq_getElem hi)
        exact q2 a (List.mem_of_getElem? ha) (by rw [hp, ep])
      rw [del_not hn] at hT'
      exact ((List.perm_append_singleton x L).trans (h3.cons x)).trans hT'.symm
    · simp [h4, kv, kvn]
  · obtain ⟨y, hy, hp, hv⟩ := pairs_get h4 q2
    have hyp : y.place = x.place := by
      have := hp.symm.trans q3
      injection this
    have hjl : j < L.length := (List.getElem?_eq_some_iff.1 hy).1
    have hj : es[j]? = some e0 := by simpa using q2
    refine ⟨es.modify j (fun e' => { e' with key := .string x.place, val := x.val }), clock, ?_, fun T' hT' => ⟨_, _, L.set j x, setBlock_at hlt, MapKept.stamped_modify h2 _ _ (fun _ _ => rfl) (fun e' _ he' => ?_), ?_, ?_⟩⟩
    · simp [Instr.mapUpdate, run_underlying ht, MapKept.run_getObj_map h1, run_checkKey hk hkey, run_findKey hk q1, hj, q3, run_keyThatStays hkey, MapKept.run_setObj_map _ h1, Result.andThen, setBlock]
    · rw [hj] at he'
      cases he'
      exact q3.symm
    · have h5 := Go.ChangeMaps.set_perm L j hjl x
      rw [del_eraseIdx (places_nodup h2 h4) hy, hyp] at h5
      exact (h5.trans ((del_perm h3 _).cons x)).trans hT'.symm
    · rw [Array.toList_modify, Go.ChangeMaps.modify_eq_set _ _ _ _ q2, List.map_set, List.map_set, h4]
      rfl
/-- delete(m, p) -/
theorem MapAt.delete (h : MapAt w r T) (ht : P.underlying t = some (.map k e)) (hk : P.underlying k = some .string) (ty : TypeId) (p : ByteArray) :
    ∃ es clock, (Builtin.delete_ #[t, k] ty #[.map (some r), .string p]).run P w = .ok (.tuple #[]) (setBlock w r (.map es clock)) ∧ ∀ T', T'.Perm (del p T) → MapAt (setBlock w r (.map es clock)) r T' := by
  have hlt := h.lt
  obtain ⟨es, clock, L, h1, h2, h3, h4⟩ := h
  have hkey : IsKey .string (.string p) := trivial
  rcases findNow_spec hkey es.toList 0 (pair_keys h4) with ⟨q1, q2⟩ | ⟨j, e0, q1, q2, q3⟩
  · refine ⟨es, clock, ?_, fun T' hT' => ⟨_, _, L, setBlock_at hlt, h2, ?_, h4⟩⟩
    · simp [Builtin.delete_, run_underlying ht, MapKept.run_getObj_map h1, run_checkKey hk hkey, run_findKey hk q1, MapKept.run_setObj_map _ h1, Result.andThen, setBlock]
    · have hn : ∀ y ∈ T, y.place ≠ p := fun y hy ep => by
        obtain ⟨i, hi, hiy⟩ := List.getElem_of_mem (h3.mem_iff.2 hy)
        obtain ⟨a, ha, hp, _⟩ := pairs_get' h4 (show L[i]? = some y by rw [← hiy]; exact List.getElem?_eq_getElem hi)
        exact q2 a (List.mem_of_getElem? ha) (by rw [hp, ep])
      rw [del_not hn] at hT'
      exact h3.trans hT'.symm
  · obtain ⟨y, hy, hp, hv⟩ := pairs_get h4 q2
    have hyp : y.place = p := by
      have := hp.symm.trans q3
      injection this
    have hjs : j < es.size := by simpa using (List.getElem?_eq_some_iff.1 q2).1
    have hsub : (es.eraseIdxIfInBounds j).toList = es.toList.eraseIdx j := by
      unfold Array.eraseIdxIfInBounds
      rw [dif_pos hjs]
      simp
    refine ⟨es.eraseIdxIfInBounds j, clock, ?_, fun T' hT' => ⟨_, _, L.eraseIdx j, setBlock_at hlt, MapKept.stamped_erase h2 j, ?_, ?_⟩⟩
    · simp [Builtin.delete_, run_underlying ht, MapKept.run_getObj_map h1, run_checkKey hk hkey, run_findKey hk q1, MapKept.run_setObj_map _ h1, Result.andThen, setBlock]
    · rw [del_eraseIdx (places_nodup h2 h4) hy, hyp]
      exact (del_perm h3 _).trans hT'.symm
    · rw [hsub, Go.ChangeMaps.map_eraseIdx, Go.ChangeMaps.map_eraseIdx, h4]
end

/-! ### for p, x := range m -/
/-- Block q is an iterator over the map in block r, which holds T; the nodes 'done' have come, in this order. -/
def Ranging (w : World) (q r : Nat) (T done : List Node) : Prop :=
  ∃ (es : Array MapEntry) (clock : Nat) (L : List Node) (since : Nat) (seen : Array Nat) (c0 : Nat) (D : List MapEntry), w.heap[q]? = some (.mapIter (some r) since seen c0) ∧ w.heap[r]? = some (.map es clock) ∧ Stamped es clock ∧ List.Perm L T ∧ es.toList.map kv = L.map kvn ∧
    (∀ x ∈ es.toList, x.born < since) ∧ (since ≤ c0 ∧ since ≤ clock) ∧ seen.toList = D.map (·.born) ∧ (D.map (·.born)).Nodup ∧ (∀ d ∈ D, d ∈ es.toList) ∧ D.map kv = done.map kvn
theorem Ranging.keep {w w' : World} {q r : Nat} {T done : List Node} (h : Ranging w q r T done) (hq : w'.heap[q]? = w.heap[q]?) (hr : w'.heap[r]? = w.heap[r]?) : Ranging w' q r T done := by
  obtain ⟨es, clock, L, since, seen, c0, D, h1, h2, h3⟩ := h
  exact ⟨es, clock, L, since, seen, c0, D, hq.trans h1, hr.trans h2, h3⟩
theorem Ranging.map {w : World} {q r : Nat} {T done : List Node} (h : Ranging w q r T done) : MapAt w r T := by
  obtain ⟨es, clock, L, since, seen, c0, D, h1, h2, h3, h4, h5, _⟩ := h
  exact ⟨es, clock, L, h2, h3, h4, h5⟩
theorem Ranging.lt {w : World} {q r : Nat} {T done : List Node} (h : Ranging w q r T done) : q < w.heap.size ∧ r < w.heap.size ∧ q ≠ r := by
  obtain ⟨es, clock, L, since, seen, c0, D, h1, h2, _⟩ := h
  exact ⟨(Array.getElem?_eq_some_iff.1 h1).1, (Array.getElem?_eq_some_iff.1 h2).1, fun e => by subst e; rw [h1] at h2; cases h2⟩
section
variable {P : Program} {w : World} {t k e r q : Nat} {T done : List Node}
theorem MapAt.range (h : MapAt w r T) (ht : P.underlying t = some (.map k e)) :
    ∃ o, (Instr.range t (.map (some r))).run P w = .ok (.pointer (some ⟨w.heap.size, 0, none⟩)) (w.alloc o) ∧ Ranging (w.alloc o) w.heap.size r T [] := by
  have hlt := h.lt
  obtain ⟨es, clock, L, h1, h2, h3, h4⟩ := h
  refine ⟨.mapIter (some r) clock #[] clock, ?_, es, clock, L, clock, #[], clock, [], heap_alloc_new w _, ?_, h2, h3, h4, h2.1, ⟨Nat.le_refl _, Nat.le_refl _⟩, rfl, by simp, by simp, rfl⟩
  · simp [Instr.range, run_underlying ht, MapKept.run_getObj_map h1, Result.andThen, newObj, Sem.run]
  · exact (RowKit.Below.heap_alloc w _ r hlt).trans h1
theorem born_inj {l : List MapEntry} (h : (l.map (·.born)).Nodup) {a b : MapEntry} (ha : a ∈ l) (hb : b ∈ l) (he : a.born = b.born) : a = b := by
  obtain ⟨i, hi, rfl⟩ := List.getElem_of_mem ha
  obtain ⟨j, hj, rfl⟩ := List.getElem_of_mem hb
  have := List.pairwise_map.1 h
  rcases Nat.lt_trichotomy i j with h | h | h
  · exact absurd he (List.pairwise_iff_getElem.1 this i j hi hj h)
  · subst h; rfl
  · exact absurd he.symm (List.pairwise_iff_getElem.1 this j i hj hi h)
theorem nodup_len {α : Type} {l : List α} (h : l.Nodup) : ∀ {m : List α}, (∀ x ∈ l, x ∈ m) → l.length ≤ m.length := by
  induction l with
  | nil => intro m _; simp
  | cons a l ih =>
    intro m hm
    obtain ⟨h1, h2⟩ := List.nodup_cons.1 h
    obtain ⟨s, t, rfl⟩ := List.append_of_mem (hm a List.mem_cons_self)
    have := ih h2 (m := s ++ t) fun x hx => by
      have h3 := hm x (List.mem_cons_of_mem _ hx)
      rw [List.mem_append, List.mem_cons] at h3
      rcases h3 with h3 | rfl | h3
      · exact List.mem_append_left _ h3
      · exact absurd hx h1
      · exact List.mem_append_right _ h3
    simp at this ⊢
    omega
theorem nodup_of_born {l : List MapEntry} (h : (l.map (·.born)).Nodup) : l.Nodup := List.Pairwise.of_map _ (fun _ _ hab => fun e => hab (by rw [e])) h
def unkv (p : Value × Value) : Option Node := match p.2 with
  | .agg cs => match cs.toList with
    | [.string a, .string b, .int _ c, .int _ d, .int _ e, .int _ f, .int _ g] => some ⟨a, b, c, d, e, f, g⟩
    | _ => none
  | _ => none
theorem unkv_all (l : List Node) : (l.map kvn).filterMap unkv = l := by
  induction l with
  | nil => rfl
  | cons x l ih => rw [List.map_cons, List.filterMap_cons_some (show unkv (kvn x) = some x from rfl), ih]
theorem kv_perm {D : List MapEntry} {E : List MapEntry} {done L : List Node} (h : D.Perm E) (h1 : D.map kv = done.map kvn) (h2 : E.map kv = L.map kvn) : done.Perm L := by
  have h3 := h.map kv
  rw [h1, h2] at h3
  have h4 := h3.filterMap unkv
  rw [unkv_all, unkv_all] at h4
  exact h4
theorem Ranging.next (h : Ranging w q r T done) (ty : TypeId) :
    ((Instr.next (.pointer (some ⟨q, 0, none⟩)) false ty).run P w = .ok (.tuple #[.bool false]) w ∧ done.Perm T) ∨
    ∃ x w', x ∈ T ∧ (∀ y ∈ done, y.place ≠ x.place) ∧ (Instr.next (.pointer (some ⟨q, 0, none⟩)) false ty).run P w = .ok (.tuple #[.bool true, .string x.place, x.val]) w' ∧ Ranging w' q r T (done ++ [x]) ∧ done.length < T.length ∧
      w.grownBy w' (some q) ∧ w'.heap.size = w.heap.size ∧ (Instr.entry (.pointer (some ⟨q, 0, none⟩))).run P w' = .ok (.tuple #[.string x.place, x.val]) w' := by
  have hlt := h.lt
  obtain ⟨es, clock, L, since, seen, c0, D, h1, h2, h3, h4, h5, h6, h7, h8, h9, h10, h11⟩ := h
  rcases run_next_at (P := P) w ty q r since c0 seen es clock h1 h2 h6 h7.1 with ⟨n1, n2⟩ | ⟨e0, n1, w1, n2, n3⟩
  · refine .inl ⟨n2, ?_⟩
    have hall : ∀ x ∈ es.toList, x ∈ D := fun x hx => by
      have hs : seen.contains x.born = true := by
        by_cases hc : seen.contains x.born = true
        · exact hc
        · have : x ∈ (leftOf es seen).toList := by simp [leftOf] at hx hc ⊢; exact ⟨hx, hc⟩
          rw [Array.eq_empty_of_size_eq_zero n1] at this
          cases this
      have hs' : x.born ∈ D.map (·.born) := by rw [← h8]; simpa using hs
      obtain ⟨d, hd, he⟩ := List.mem_map.1 hs'
      have := born_inj h3.2.1 hx (h10 d hd) he.symm
      rw [this]
      exact hd
    have hp : D.Perm es.toList := (List.perm_ext_iff_of_nodup (nodup_of_born h9) (nodup_of_born h3.2.1)).2 fun a => ⟨h10 a, hall a⟩
    exact (kv_perm hp h11 h5).trans h4
  · have hm : e0 ∈ es.toList ∧ seen.contains e0.born = false := by
      simp [leftOf] at n1 ⊢
      exact n1
    obtain ⟨i, hi, hie⟩ := List.getElem_of_mem hm.1
    obtain ⟨x, hx, k1, k2⟩ := pairs_get h5 (show es.toList[i]? = some e0 by rw [← hie]; exact List.getElem?_eq_getElem hi)
    have hxT : x ∈ T := h4.mem_iff.1 (List.mem_of_getElem? hx)
    have hnew : e0.born ∉ D.map (·.born) := by
      rw [← h8]
      have := hm.2
      simpa using this
    have hw1 : w1.heap = w.heap ∧ w1.os = w.os ∧ w1.tape = w.tape ∧ w1.output = w.output := by rcases n2 with rfl | rfl <;> exact ⟨rfl, rfl, rfl, rfl⟩
    have hq' : (setBlock w1 q (.mapIter (some r) since (seen.push e0.born) clock)).heap[q]? = some (.mapIter (some r) since (seen.push e0.born) clock) := setBlock_at (by rw [hw1.1]; exact hlt.1)
    have hr' : (setBlock w1 q (.mapIter (some r) since (seen.push e0.born) clock)).heap[r]? = some (.map es clock) := by
      simp [setBlock, hw1.1, hlt.2.2, h2]
    have hsub : ∀ d ∈ D ++ [e0], d ∈ es.toList := fun d hd => by
      rcases List.mem_append.1 hd with hd | hd
      · exact h10 d hd
      · rw [List.mem_singleton.1 hd]; exact hm.1
    have hnd : ((D ++ [e0]).map (·.born)).Nodup := by
      rw [List.map_append, List.nodup_append]
      refine ⟨h9, by simp, fun a ha b hb => ?_⟩
      rw [List.map_cons, List.map_nil, List.mem_singleton] at hb
      subst hb
      exact fun e => hnew (e ▸ ha)
    refine .inr ⟨x, _, hxT, fun y hy he => ?_, by rw [n3, k1, k2], ⟨es, clock, L, since, seen.push e0.born, clock, D ++ [e0], hq', hr', h3, h4, h5, h6, ?_, by simp [h8], hnd, hsub, ?_⟩, ?_, ?_, ?_, ?_⟩
    · obtain ⟨j, hj, hjy⟩ := List.getElem_of_mem hy
      obtain ⟨d, hd, d1, _⟩ := pairs_get' h11 (show done[j]? = some y by rw [← hjy]; exact List.getElem?_eq_getElem hj)
      have hdm := List.mem_of_getElem? hd
      have hk : d.key = e0.key := by rw [d1, k1, he]
      have hd2 := h10 d hdm
      have : d = e0 := by
        obtain ⟨a, ha, rfl⟩ := List.getElem_of_mem hd2
        obtain ⟨b, hb, rfl⟩ := List.getElem_of_mem hm.1
        have hp := List.pairwise_map.1 h3.2.2
        rcases Nat.lt_trichotomy a b with h | h | h
        · exact absurd hk (List.pairwise_iff_getElem.1 hp a b ha hb h)
        · subst h; rfl
        · exact absurd hk.symm (List.pairwise_iff_getElem.1 hp b a hb ha h)
      subst this
      exact hnew (List.mem_map.2 ⟨d, hdm, rfl⟩)
    · exact ⟨h7.2, h7.2⟩
    · simp [h11, kv, kvn, k1, k2]
    · have hl : (D ++ [e0]).length ≤ es.toList.length := nodup_len (nodup_of_born hnd) hsub
      have e1 := congrArg List.length h11
      have e2 := pairs_len h5
      have e3 := h4.length_eq
      simp at hl e1 e2
      omega
    · exact ⟨hw1.2.1, hw1.2.2.1, hw1.2.2.2, by simp [setBlock, hw1.1], fun i _ hne => by
        simp [setBlock, hw1.1, Array.getElem?_setIfInBounds]
        intro he
        exact absurd (by rw [he]) hne⟩
    · simp [setBlock, hw1.1]
    · rw [run_entry_at _ q r since seen es clock e0 hq' hr' hm.1 h3.2.1, k1, k2]
end

/-! ### the operations, in a walk -/
theorem grown_setBlock (w : World) (r : Nat) (o : Obj) : w.grownBy (setBlock w r o) (some r) :=
  ⟨rfl, rfl, rfl, by simp [setBlock], fun i _ hne => by
    have h : ¬ r = i := fun he => hne (by rw [he])
    simp [setBlock, h]⟩
section
variable {P : Program} {w : World} {t k e r q : Nat} {T done : List Node} {ops : Array Oper} {rest : List Oper} {o : Oper} {a : Act} {Q : Exit → Act → World → Prop}
theorem wpList_put (h : MapAt w r T) (ht : P.underlying t = some (.map k e)) (hk : P.underlying k = some .string) (x : Node) (hg : o.guard = none) (m key v : Operand) (hop : o.op = .mapUpdate t m key v ∨ o.op = .insert t m key v)
    (hm : a.eval m = .map (some r)) (hp : a.eval key = .string x.place) (hv : a.eval v = x.val)
    (hK : ∀ w', (∀ T', T'.Perm (x :: del x.place T) → MapAt w' r T') → w.grownBy w' (some r) → w'.heap.size = w.heap.size → wpList P ops Q rest (a.put o.dst undef) w') : wpList P ops Q (o :: rest) a w := by
  refine wpList_plain hg fun K' hK' => ?_
  obtain ⟨es, clock, hrun, hnew⟩ := h.update ht hk x
  unfold Oper.wp
  rcases hop with hop | hop <;> simp [execOp, hop, hm, hp, hv, hrun, Result.andThen] <;> exact hK' _ _ (hK _ hnew (grown_setBlock w r _) (by simp [setBlock]))
theorem wpList_strike (h : MapAt w r T) (ht : P.underlying t = some (.map k e)) (hk : P.underlying k = some .string) (p : ByteArray) (hg : o.guard = none) (m key : Operand) (hop : o.op = .call { callee := .builtin .delete, args := #[m, key], argTypes := #[t, k] })
    (hm : a.eval m = .map (some r)) (hp : a.eval key = .string p)
    (hK : ∀ w', (∀ T', T'.Perm (del p T) → MapAt w' r T') → w.grownBy w' (some r) → w'.heap.size = w.heap.size → wpList P ops Q rest (a.put o.dst (.tuple #[])) w') : wpList P ops Q (o :: rest) a w := by
  refine wpList_plain hg fun K' hK' => ?_
  obtain ⟨es, clock, hrun, hnew⟩ := h.delete ht hk o.type p
  unfold Oper.wp
  simp [execOp, hop, resolve, invoke, builtin, hm, hp, hrun, Result.andThen]
  exact hK' _ _ (hK _ hnew (grown_setBlock w r _) (by simp [setBlock]))
theorem wpList_size (h : MapAt w r T) (ht : P.underlying t = some (.map k e)) (hg : o.guard = none) (m : Operand) (hop : o.op = .call { callee := .builtin .len, args := #[m], argTypes := #[t] })
    (hm : a.eval m = .map (some r)) (hK : wpList P ops Q rest (a.put o.dst (.int .i64 T.length)) w) : wpList P ops Q (o :: rest) a w := by
  refine wpList_plain hg fun K' hK' => ?_
  unfold Oper.wp
  simp [execOp, hop, resolve, invoke, builtin, hm, h.len ht o.type, Result.andThen]
  exact hK' _ _ hK
theorem wpList_look (h : MapAt w r T) (ht : P.underlying t = some (.map k e)) (hk : P.underlying k = some .string) {z : Value} (hz : (zeroValue e).run P w = .ok z w) (p : ByteArray) (hg : o.guard = none) (m key : Operand) (hop : o.op = .lookup t m key true)
    (hm : a.eval m = .map (some r)) (hp : a.eval key = .string p)
    (hyes : ∀ x, look T p = some x → wpList P ops Q rest (a.put o.dst (.tuple #[x.val, .bool true])) w) (hno : look T p = none → wpList P ops Q rest (a.put o.dst (.tuple #[z, .bool false])) w) : wpList P ops Q (o :: rest) a w := by
  refine wpList_plain hg fun K' hK' => ?_
  unfold Oper.wp
  cases hx : look T p with
  | none =>
    simp [execOp, hop, hm, hp, h.look_none ht hk hx hz, Result.andThen]
    exact hK' _ _ (hno hx)
  | some x =>
    simp [execOp, hop, hm, hp, h.look_some ht hk hx, Result.andThen]
    exact hK' _ _ (hyes x hx)
theorem wpList_range (h : MapAt w r T) (ht : P.underlying t = some (.map k e)) (hg : o.guard = none) (m : Operand) (hop : o.op = .range t m) (hm : a.eval m = .map (some r))
    (hK : ∀ w', Ranging w' w.heap.size r T [] → RowKit.Below w.heap.size w w' → w'.heap.size = w.heap.size + 1 → wpList P ops Q rest (a.put o.dst (.pointer (some ⟨w.heap.size, 0, none⟩))) w') : wpList P ops Q (o :: rest) a w := by
  refine wpList_plain hg fun K' hK' => ?_
  obtain ⟨ob, hrun, hr⟩ := h.range ht
  unfold Oper.wp
  simp [execOp, hop, hm, hrun, Result.andThen]
  exact hK' _ _ (hK _ hr ((RowKit.Below.refl _ _).alloc (Nat.le_refl _) _) (by simp))
theorem wpList_next (h : Ranging w q r T done) (hg : o.guard = none) (it : Operand) (hop : o.op = .next it false) (hit : a.eval it = .pointer (some ⟨q, 0, none⟩))
    (hend : done.Perm T → wpList P ops Q rest (a.put o.dst (.tuple #[.bool false])) w)
    (hmore : ∀ x w', x ∈ T → (∀ y ∈ done, y.place ≠ x.place) → Ranging w' q r T (done ++ [x]) → done.length < T.length → w.grownBy w' (some q) → w'.heap.size = w.heap.size → (Instr.entry (.pointer (some ⟨q, 0, none⟩))).run P w' = .ok (.tuple #[.string x.place, x.val]) w' →
      wpList P ops Q rest (a.put o.dst (.tuple #[.bool true, .string x.place, x.val])) w') : wpList P ops Q (o :: rest) a w := by
  refine wpList_plain hg fun K' hK' => ?_
  unfold Oper.wp
  rcases h.next (P := P) o.type with ⟨hrun, hp⟩ | ⟨x, w', h1, h2, hrun, h3, h4, h5, h6, h7⟩
  · simp [execOp, hop, hit, hrun, Result.andThen]
    exact hK' _ _ (hend hp)
  · simp [execOp, hop, hit, hrun, Result.andThen]
    exact hK' _ _ (hmore x w' h1 h2 h3 h4 h5 h6 h7)
end
end Go.Proofs.YtpmlfpmedbccaaaDoor
