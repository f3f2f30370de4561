/- What every tree is that requests and ends can make: the nodes in order, parents there and not brief, numbers and data in their bounds. Plain. -/
import Derived.Test.YtpmlfpmedbccaaaDoorAlgebra
import Derived.Test.YtpmlfpmedbccaaaDoorModel
namespace Go.Proofs.YtpmlfpmedbccaaaDoor

structure NodeOk (x : Node) : Prop where
  place : (parse x.at).2 = 0
  data : x.data.size ≤ 64
  version : 0 ≤ x.version ∧ x.version ≤ 2147483647
  made : 0 ≤ x.made ∧ x.made ≤ 2147483647
  changed : 0 ≤ x.changed ∧ x.changed ≤ 2147483647
  owner : 0 ≤ x.owner ∧ x.owner ≤ 2147483647
  counter : 0 ≤ x.counter ∧ x.counter ≤ 100000
  lone : x.owner = 0 ∨ x.counter = 0
structure Good (T : List Node) : Prop where
  sorted : Sorted T
  few : T.length ≤ 64
  ok : ∀ x ∈ T, NodeOk x
  root : ∃ x ∈ T, x.at = [47] ∧ x.owner = 0
  up : ∀ x ∈ T, x.at ≠ [47] → ∃ y ∈ T, y.at = (parent x.at).1 ∧ y.owner = 0
theorem rootNode_ok : NodeOk rootNode := ⟨by decide, by decide, by decide, by decide, by decide, by decide, by decide, .inl rfl⟩
theorem good_new : Good [rootNode] where
  sorted := by simp [Sorted]
  few := by simp
  ok := by intro x hx; rw [List.mem_singleton] at hx; subst hx; exact rootNode_ok
  root := ⟨rootNode, by simp, rfl, rfl⟩
  up := by intro x hx h; rw [List.mem_singleton] at hx; subst hx; exact absurd rfl h

theorem del_length {p : ByteArray} {T : List Node} {y : Node} (hy : y ∈ T) (e : y.place = p) : (del p T).length < T.length := by
  unfold del
  exact List.length_filter_lt_length_iff_exists.2 ⟨y, hy, by simp [e]⟩
theorem del_length_le {p : ByteArray} {T : List Node} : (del p T).length ≤ T.length := List.length_filter_le _ _
theorem put_length {x : Node} {T : List Node} : (put x T).length = (del x.place T).length + 1 := by
  unfold put
  rw [(ins_perm x _).length_eq, List.length_cons]
theorem nodup_of {T : List Node} (h : Sorted T) : (T.map (·.place)).Nodup := sorted_apart h
theorem look_some_iff {T : List Node} (h : Sorted T) {p : ByteArray} {x : Node} : look T p = some x ↔ x ∈ T ∧ x.place = p := by
  constructor
  · exact look_mem
  · rintro ⟨h1, rfl⟩; exact look_of_mem (nodup_of h) h1
theorem eq_of_place {T : List Node} (h : Sorted T) {x y : Node} (hx : x ∈ T) (hy : y ∈ T) (e : x.place = y.place) : x = y := by
  have h1 := look_of_mem (nodup_of h) hx
  have h2 := look_of_mem (nodup_of h) hy
  rw [e, h2] at h1
  injection h1 with h1
  exact h1.symm
theorem look_none_iff {T : List Node} {p : ByteArray} : look T p = none ↔ ∀ x ∈ T, x.place ≠ p := by
  constructor
  · exact look_none
  · intro h
    cases hx : look T p with
    | none => rfl
    | some x => exact absurd (look_mem hx).2 (h x (look_mem hx).1)
theorem at_place {x y : Node} : x.at = y.at ↔ x.place = y.place := ⟨Node.at_inj, fun e => by unfold Node.at; rw [e]⟩

section
variable {T : List Node}
theorem Good.size (h : Good T) : ∀ x ∈ T, x.place.size ≤ 102 := fun x hx => by
  have h0 := (h.ok x hx).place
  rcases parse_cases x.at with ⟨h1, _⟩ | ⟨h1, _⟩ | ⟨_, h2, _⟩
  · exact absurd h0 h1
  · have := congrArg List.length h1; simp at this; omega
  · simpa using h2
theorem Good.rootAt (h : Good T) {x : Node} (hx : x ∈ T) (e : x.at = [47]) : x.owner = 0 := by
  obtain ⟨y, hy, e2, ho⟩ := h.root
  rw [eq_of_place h.sorted hx hy (at_place.1 (e.trans e2.symm))]
  exact ho
/-- A node's numbers and data are turned. -/
theorem Good.update (h : Good T) {x y : Node} (hy : y ∈ T) (hp : x.place = y.place) (ho : x.owner = y.owner) (hx : NodeOk x) : Good (put x T) where
  sorted := put_sorted h.sorted
  few := by rw [put_length]; have := del_length hy hp.symm; have := h.few; omega
  ok := by
    intro z hz
    rcases put_mem.1 hz with rfl | ⟨hz, _⟩
    · exact hx
    · exact h.ok z hz
  root := by
    obtain ⟨z, hz, e, o⟩ := h.root
    by_cases hzp : z.place = x.place
    · have : z = y := eq_of_place h.sorted hz hy (hzp.trans hp)
      exact ⟨x, put_mem.2 (.inl rfl), by rw [← at_place.2 hzp]; exact e, by rw [ho, ← this]; exact o⟩
    · exact ⟨z, put_mem.2 (.inr ⟨hz, hzp⟩), e, o⟩
  up := by
    have key : ∀ z ∈ T, z.at ≠ [47] → ∃ u ∈ put x T, u.at = (parent z.at).1 ∧ u.owner = 0 := by
      intro z hz hne
      obtain ⟨u, hu, e, o⟩ := h.up z hz hne
      by_cases hup : u.place = x.place
      · have : u = y := eq_of_place h.sorted hu hy (hup.trans hp)
        exact ⟨x, put_mem.2 (.inl rfl), by rw [← at_place.2 hup]; exact e, by rw [ho, ← this]; exact o⟩
      · exact ⟨u, put_mem.2 (.inr ⟨hu, hup⟩), e, o⟩
    intro z hz hne
    rcases put_mem.1 hz with rfl | ⟨hz, _⟩
    · have e : z.at = y.at := at_place.2 hp
      rw [e] at hne ⊢
      exact key y hy hne
    · exact key z hz hne
/-- A node more. -/
theorem Good.add (h : Good T) {x : Node} (hn : look T x.place = none) (hl : T.length < 64) (hx : NodeOk x) (hu : x.at ≠ [47] → ∃ y ∈ T, y.at = (parent x.at).1 ∧ y.owner = 0) : Good (put x T) where
  sorted := put_sorted h.sorted
  few := by rw [put_length]; have := del_length_le (p := x.place) (T := T); omega
  ok := by
    intro z hz
    rcases put_mem.1 hz with rfl | ⟨hz, _⟩
    · exact hx
    · exact h.ok z hz
  root := by
    obtain ⟨z, hz, e, o⟩ := h.root
    exact ⟨z, put_mem.2 (.inr ⟨hz, look_none hn z hz⟩), e, o⟩
  up := by
    intro z hz hne
    have key : ∃ u ∈ T, u.at = (parent z.at).1 ∧ u.owner = 0 := by
      rcases put_mem.1 hz with rfl | ⟨hz, _⟩
      · exact hu hne
      · exact h.up z hz hne
    obtain ⟨u, hu, e, o⟩ := key
    exact ⟨u, put_mem.2 (.inr ⟨hu, look_none hn u hu⟩), e, o⟩
theorem isKid_iff {above : ByteArray} {x : Node} : isKid above x = true ↔ (parent x.at).2 = 0 ∧ (parent x.at).1 = above.data.toList := by
  unfold isKid
  rw [ByteArray.toList_eq]
  simp
theorem Good.kid (h : Good T) {x : Node} (hx : x ∈ T) (hne : x.at ≠ [47]) : (parent x.at).2 = 0 := parent_of_parse (h.ok x hx).place hne
/-- A leaf less. -/
theorem Good.drop (h : Good T) {x : Node} (hk : kidsOf T x.place = []) (hne : x.at ≠ [47]) : Good (del x.place T) where
  sorted := del_sorted h.sorted
  few := Nat.le_trans del_length_le h.few
  ok := fun z hz => h.ok z (del_mem.1 hz).1
  root := by
    obtain ⟨z, hz, e, o⟩ := h.root
    exact ⟨z, del_mem.2 ⟨hz, fun e2 => hne (by rw [← at_place.2 e2]; exact e)⟩, e, o⟩
  up := by
    intro z hz hzne
    have hz := (del_mem.1 hz).1
    obtain ⟨u, hu, e, o⟩ := h.up z hz hzne
    refine ⟨u, del_mem.2 ⟨hu, fun e2 => ?_⟩, e, o⟩
    have : z ∈ kidsOf T x.place := List.mem_filter.2 ⟨hz, isKid_iff.2 ⟨h.kid hz hzne, by rw [← e]; exact at_place.2 e2⟩⟩
    rw [hk] at this
    cases this
/-- The brief nodes of a session go. -/
theorem Good.ended (h : Good T) {ses : Int} : Good (endOf T ses) := by
  unfold endOf
  by_cases hs : ses < 1
  · rw [if_pos hs]; exact h
  rw [if_neg hs]
  exact {
    sorted := List.Pairwise.sublist List.filter_sublist h.sorted
    few := Nat.le_trans (List.length_filter_le _ _) h.few
    ok := fun z hz => h.ok z (List.mem_filter.1 hz).1
    root := by
      obtain ⟨z, hz, e, o⟩ := h.root
      exact ⟨z, List.mem_filter.2 ⟨hz, by simp; omega⟩, e, o⟩
    up := by
      intro z hz hne
      obtain ⟨u, hu, e, o⟩ := h.up z (List.mem_filter.1 hz).1 hne
      exact ⟨u, List.mem_filter.2 ⟨hu, by simp; omega⟩, e, o⟩ }
end

/-! ### a step -/
section
variable {T : List Node} {ses st : Int}
def Nums (ses st : Int) : Prop := 0 ≤ ses ∧ ses ≤ 2147483647 ∧ 1 ≤ st ∧ st ≤ 2147483647
theorem made_good (h : Good T) (hn : Nums ses st) (o : OpV) : Good (makeOf ses st T o).T := by
  unfold makeOf
  by_cases h1 : o.flags < 0 ∨ 3 < o.flags
  · rw [if_pos h1]; exact h
  rw [if_neg h1]
  by_cases h2 : (parent o.place.data.toList).2 = 47
  · rw [if_pos h2]; exact h
  rw [if_neg h2]
  by_cases h3 : (if (parent o.place.data.toList).2 = 0 ∧ bitOf o.flags 2 = true then (counted o.place.data.toList 0).2 else (parent o.place.data.toList).2) ≠ 0
  · rw [if_pos h3]; exact h
  rw [if_neg h3]
  have hp0 : (parent o.place.data.toList).2 = 0 := by
    apply Classical.byContradiction
    intro h0
    rw [if_neg (fun h => h0 h.1)] at h3
    exact h3 h0
  have hc0 : bitOf o.flags 2 = true → (counted o.place.data.toList 0).2 = 0 := by
    intro hb
    rw [if_pos ⟨hp0, hb⟩] at h3
    omega
  clear h2 h3
  unfold makeIn
  by_cases h4 : bitOf o.flags 1 = true ∧ ses = 0
  · rw [if_pos h4]; exact h
  rw [if_neg h4]
  by_cases h5 : 64 < o.data.size
  · rw [if_pos h5]; exact h
  rw [if_neg h5]
  cases hl : look T ⟨(parent o.place.data.toList).1.toArray⟩ with
  | none => exact h
  | some above =>
    simp only []
    unfold madeOn
    by_cases h6 : above.owner ≠ 0
    · rw [if_pos h6]; exact h
    rw [if_neg h6]
    by_cases h7 : bitOf o.flags 2 = true ∧ 99999 < above.counter
    · rw [if_pos h7]; exact h
    rw [if_neg h7]
    by_cases h8 : look T (newNode ses st o above).place ≠ none
    · rw [if_pos h8]; exact h
    rw [if_neg h8]
    by_cases h9 : 64 ≤ T.length
    · rw [if_pos h9]; exact h
    rw [if_neg h9]
    show Good (put (newNode ses st o above) (put (if bitOf o.flags 2 = true then { above with counter := above.counter + 1 } else above) T))
    obtain ⟨ha, hap⟩ := look_mem hl
    have haok := h.ok above ha
    have hA : NodeOk (if bitOf o.flags 2 = true then { above with counter := above.counter + 1 } else above) := by
      split
      · rename_i hb
        have h1 := haok.counter
        have q : ¬ 99999 < above.counter := fun h => h7 ⟨hb, h⟩
        exact { haok with counter := by show 0 ≤ above.counter + 1 ∧ above.counter + 1 ≤ 100000; omega, lone := .inl (Decidable.not_not.1 h6) }
      · exact haok
    have hAp : (if bitOf o.flags 2 = true then { above with counter := above.counter + 1 } else above).place = above.place := by split <;> rfl
    have hAo : (if bitOf o.flags 2 = true then { above with counter := above.counter + 1 } else above).owner = above.owner := by split <;> rfl
    have hG := h.update ha hAp hAo hA
    have hlen : (put (if bitOf o.flags 2 = true then { above with counter := above.counter + 1 } else above) T).length ≤ T.length := by
      rw [put_length]; have := del_length ha hAp.symm; omega
    have hup : ∃ y ∈ put (if bitOf o.flags 2 = true then { above with counter := above.counter + 1 } else above) T, y.at = (parent o.place.data.toList).1 ∧ y.owner = 0 :=
      ⟨_, put_mem.2 (.inl rfl), by rw [at_place.2 hAp]; show above.place.data.toList = _; rw [hap], by rw [hAo]; omega⟩
    generalize (if bitOf o.flags 2 = true then { above with counter := above.counter + 1 } else above) = A at hA hAp hAo hG hlen hup ⊢
    have hx : (parse (newNode ses st o above).at).2 = 0 ∧ parent (newNode ses st o above).at = parent o.place.data.toList := by
      unfold newNode Node.at
      by_cases hb : bitOf o.flags 2 = true
      · simp only [if_pos hb]
        have hc := counted_zero (hc0 hb) haok.counter.1 (by have q : ¬ 99999 < above.counter := fun h => h7 ⟨hb, h⟩; omega)
        have := counted_parent hc
        exact ⟨this.2, this.1⟩
      · simp only [if_neg hb]
        exact ⟨(parent_parse hp0).1, trivial⟩
    have hn8 : look T (newNode ses st o above).place = none := by
      cases hh : look T (newNode ses st o above).place with
      | none => rfl
      | some z => rw [hh] at h8; exact absurd (by simp) h8
    refine hG.add (look_none_iff.2 fun y hy e => ?_) (by omega) ?_ (fun _ => ?_)
    · rcases put_mem.1 hy with rfl | ⟨hy, _⟩
      · exact look_none hn8 above ha (hAp.symm.trans e)
      · exact look_none hn8 y hy e
    · obtain ⟨n1, n2, n3, n4⟩ := hn
      refine ⟨hx.1, by show o.data.size ≤ 64; omega, by show (0 : Int) ≤ 0 ∧ (0 : Int) ≤ 2147483647; omega, by show 0 ≤ st ∧ _; exact ⟨by omega, n4⟩, by show 0 ≤ st ∧ _; exact ⟨by omega, n4⟩, ?_, by show (0 : Int) ≤ 0 ∧ (0 : Int) ≤ 100000; omega, .inr rfl⟩
      show 0 ≤ (if bitOf o.flags 1 = true then ses else 0) ∧ (if bitOf o.flags 1 = true then ses else 0) ≤ 2147483647
      split <;> omega
    · rw [hx.2]; exact hup
theorem in_good (h : Good T) (hn : Nums ses st) (o : OpV) : Good (inTree st T o).T := by
  unfold inTree
  by_cases h1 : (parse o.place.data.toList).2 ≠ 0
  · rw [if_pos h1]; exact h
  rw [if_neg h1]
  by_cases h2 : needRoot o.kind = true ∧ o.place.data.toList = [47]
  · rw [if_pos h2]; exact h
  rw [if_neg h2]
  by_cases h3 : needData o.kind = true ∧ 64 < o.data.size
  · rw [if_pos h3]; exact h
  rw [if_neg h3]
  cases hl : look T o.place with
  | none => exact h
  | some x =>
    obtain ⟨hx, hxp⟩ := look_mem hl
    have hok := h.ok x hx
    simp only []
    unfold onNode
    by_cases h4 : needVersion o.kind = true ∧ o.version ≠ -1 ∧ o.version ≠ x.version
    · rw [if_pos h4]; exact h
    rw [if_neg h4]
    by_cases h5 : o.kind = 2
    · rw [if_pos h5]
      unfold setOn
      by_cases h6 : 2147483647 ≤ x.version
      · rw [if_pos h6]; exact h
      rw [if_neg h6]
      have hd : ¬ 64 < o.data.size := fun hh => h3 ⟨by rw [h5]; rfl, hh⟩
      obtain ⟨n1, n2, n3, n4⟩ := hn
      refine h.update hx rfl rfl { hok with data := by show o.data.size ≤ 64; omega, version := ?_, changed := ?_ }
      · show 0 ≤ x.version + 1 ∧ x.version + 1 ≤ 2147483647
        have := hok.version; omega
      · show 0 ≤ st ∧ st ≤ 2147483647
        omega
    rw [if_neg h5]
    by_cases h6 : o.kind = 3
    · rw [if_pos h6]
      unfold dropOn
      by_cases h7 : kidsOf T x.place = []
      · rw [if_pos h7]
        exact h.drop h7 fun e => h2 ⟨by rw [h6]; rfl, by rw [← hxp]; exact e⟩
      · rw [if_neg h7]; exact h
    · rw [if_neg h6]; exact h
theorem step_good (h : Good T) (hn : Nums ses st) (o : OpV) : Good (stepOf ses st T o).T := by
  unfold stepOf
  by_cases h1 : o.kind < 1 ∨ 7 < o.kind
  · rw [if_pos h1]; exact h
  rw [if_neg h1]
  by_cases h2 : o.kind = 1
  · rw [if_pos h2]; exact made_good h hn o
  · rw [if_neg h2]; exact in_good h hn o
def Few (m : Made) : Prop := m.chg.length ≤ 1
theorem Few.ite {c : Prop} [Decidable c] {a b : Made} (ha : Few a) (hb : Few b) : Few (if c then a else b) := by split <;> assumption
theorem Few.no (T : List Node) (code : Int) : Few (.no T code) := by simp [Few, Made.no]
theorem step_chg (ses st : Int) (T : List Node) (o : OpV) : (stepOf ses st T o).chg.length ≤ 1 := by
  show Few (stepOf ses st T o)
  unfold stepOf
  refine .ite (.no _ _) (.ite ?_ ?_)
  · unfold makeOf
    refine .ite (.no _ _) (.ite (.no _ _) ?_)
    generalize (if (parent o.place.data.toList).2 = 0 ∧ bitOf o.flags 2 = true then (counted o.place.data.toList 0).2 else (parent o.place.data.toList).2) = c
    refine .ite (.no _ _) ?_
    unfold makeIn
    refine .ite (.no _ _) (.ite (.no _ _) ?_)
    split
    · exact .no _ _
    · unfold madeOn
      exact .ite (.no _ _) (.ite (.no _ _) (.ite (.no _ _) (.ite (.no _ _) (by simp [Few]))))
  · unfold inTree
    refine .ite (.no _ _) (.ite (.no _ _) (.ite (.no _ _) ?_))
    split
    · exact .no _ _
    · unfold onNode setOn dropOn readOn
      exact .ite (.no _ _) (.ite (.ite (.no _ _) (by simp [Few])) (.ite (.ite (by simp [Few]) (.no _ _)) (by simp [Few])))
theorem go_good {T0 : List Node} (h0 : Good T0) (hn : Nums ses st) : ∀ (ops : List OpV) (i : Nat) (T : List Node) (rs : List Res) (cs : List Chg), Good T → Good (playGo ses st T0 ops i T rs cs).T
  | [], _, _, _, _, h => h
  | o :: os, i, T, rs, cs, h => by
    unfold playGo
    by_cases hc : (stepOf ses st T o).code ≠ 0
    · rw [if_pos hc]; exact h0
    · rw [if_neg hc]; exact go_good h0 hn os _ _ _ _ (step_good h hn o)
theorem play_good (h : Good T) (ops : List OpV) : Good (playOf ses st T ops).T := by
  unfold playOf
  by_cases h1 : 4 < ops.length
  · rw [if_pos h1]; exact h
  rw [if_neg h1]
  by_cases h2 : ses < 0 ∨ 2147483647 < ses ∨ st < 1 ∨ 2147483647 < st
  · rw [if_pos h2]; exact h
  rw [if_neg h2]
  by_cases h3 : ops = []
  · rw [if_pos h3]; exact h
  rw [if_neg h3]
  exact go_good h ⟨by omega, by omega, by omega, by omega⟩ ops 0 T [] [] h
end
end Go.Proofs.YtpmlfpmedbccaaaDoor
