/- The plain law behind TreeCounted: counted makes below one place rise one by one. -/
import Derived.Test.YtpmlfpmedbccaaaDoorSteps
import Derived.Test.YtpmlfpmedbccaaaDoorGoodMore
namespace Go.Proofs.YtpmlfpmedbccaaaDoor

def qAt : ByteArray := ⟨#[47, 113]⟩
def plainAt : ByteArray := ⟨#[47, 113, 47, 112, 108, 97, 105, 110]⟩
theorem counted_val {t : List UInt8} {k : Int} (h : (counted t k).2 = 0) : 0 ≤ k ∧ k ≤ 99999 ∧ (counted t k).1 = t ++ five k := by
  obtain ⟨_, _, _, _, _, h0, h1, _⟩ := counted_ok h
  refine ⟨h0, h1, ?_⟩
  unfold counted at h ⊢
  split at h
  · rename_i h2; exact absurd h h2
  rename_i h2
  rw [if_neg h2]
  split at h
  · cases h
  rename_i h3
  rw [if_neg h3]
  split at h
  · cases h
  rename_i h4
  rw [if_neg h4]
  split at h
  · cases h
  rename_i h5
  rw [if_neg h5]
  rfl
theorem counted_inj {t : List UInt8} {i j : Int} (hi : (counted t i).2 = 0) (hj : (counted t j).2 = 0) (e : (counted t i).1 = (counted t j).1) : i = j := by
  obtain ⟨i0, _, ei⟩ := counted_val hi
  obtain ⟨j0, _, ej⟩ := counted_val hj
  rw [ei, ej] at e
  have := List.append_cancel_left e
  rw [← five_val i0, ← five_val j0, this]
theorem counted_digit {t : List UInt8} {k : Int} (h : (counted t k).2 = 0) : ∃ c, (counted t k).1.getLast? = some c ∧ 48 ≤ c.toNat ∧ c.toNat ≤ 57 := by
  obtain ⟨h0, h1, e⟩ := counted_val h
  have hl := five_len h0 h1
  rw [e, List.getLast?_append]
  cases hf : (five k).getLast? with
  | none => rw [List.getLast?_eq_none_iff] at hf; rw [hf] at hl; cases hl
  | some c => exact ⟨c, by simp, five_digit h0 c (List.mem_of_getLast? hf)⟩
/-- A tree of the law behind n steps; the counter stands at j. -/
structure CountTree (P : List UInt8) (j n : Nat) (T : List Node) : Prop where
  good : Good T
  above : ∃ x, look T qAt = some x ∧ x.owner = 0 ∧ x.counter = j
  few : T.length ≤ n + 2
  free : ∀ y ∈ T, ∀ i : Int, (j : Int) ≤ i → (counted P i).2 = 0 → y.at ≠ (counted P i).1
theorem CountTree.still {P : List UInt8} {j n : Nat} {T : List Node} (h : CountTree P j n T) : CountTree P j (n + 1) T := ⟨h.good, h.above, by have := h.few; omega, h.free⟩
/-- What a make leaves. -/
theorem make_T (ses st : Int) (T : List Node) (o : OpV) : (makeOf ses st T o).T = T ∨ ∃ x, look T ⟨(parent o.place.data.toList).1.toArray⟩ = some x ∧ (makeOf ses st T o).T = put (newNode ses st o x) (put (if bitOf o.flags 2 = true then { x with counter := x.counter + 1 } else x) T) := by
  unfold makeOf
  by_cases h1 : o.flags < 0 ∨ 3 < o.flags
  · rw [if_pos h1]; exact .inl rfl
  rw [if_neg h1]
  by_cases h2 : (parent o.place.data.toList).2 = 47
  · rw [if_pos h2]; exact .inl rfl
  rw [if_neg h2]
  by_cases h3 : (if (parent o.place.data.toList).2 = 0 ∧ bitOf o.flags 2 = true then (counted o.place.data.toList 0).2 else (parent o.place.data.toList).2) ≠ 0
  · rw [if_pos h3]; exact .inl rfl
  rw [if_neg h3]
  by_cases h4 : bitOf o.flags 1 = true ∧ ses = 0
  · rw [makeIn_brief h4.1 h4.2]; exact .inl rfl
  by_cases h5 : 64 < o.data.size
  · rw [makeIn_large h4 h5]; exact .inl rfl
  cases hx : look T ⟨(parent o.place.data.toList).1.toArray⟩ with
  | none => rw [makeIn_none h4 h5 hx]; exact .inl rfl
  | some x =>
    rw [makeIn_some h4 h5 hx]
    unfold madeOn
    by_cases a1 : x.owner ≠ 0
    · rw [if_pos a1]; exact .inl rfl
    rw [if_neg a1]
    by_cases a2 : bitOf o.flags 2 = true ∧ 99999 < x.counter
    · rw [if_pos a2]; exact .inl rfl
    rw [if_neg a2]
    by_cases a3 : look T (newNode ses st o x).place ≠ none
    · rw [if_pos a3]; exact .inl rfl
    rw [if_neg a3]
    by_cases a4 : 64 ≤ T.length
    · rw [if_pos a4]; exact .inl rfl
    rw [if_neg a4]
    exact .inr ⟨x, rfl, rfl⟩
theorem drop_T (st : Int) (T : List Node) (o : OpV) (h3 : o.kind = 3) : (inTree st T o).T = T ∨ (inTree st T o).T = del o.place T := by
  by_cases h1 : (parse o.place.data.toList).2 ≠ 0
  · rw [inTree_place h1]; exact .inl rfl
  by_cases h2 : needRoot o.kind = true ∧ o.place.data.toList = [47]
  · rw [inTree_root h1 h2]; exact .inl rfl
  by_cases h4 : needData o.kind = true ∧ 64 < o.data.size
  · rw [inTree_large h1 h2 h4]; exact .inl rfl
  cases hx : look T o.place with
  | none => rw [inTree_none h1 h2 h4 hx]; exact .inl rfl
  | some x =>
    rw [inTree_some h1 h2 h4 hx]
    by_cases h5 : needVersion o.kind = true ∧ o.version ≠ -1 ∧ o.version ≠ x.version
    · rw [onNode_version h5]; exact .inl rfl
    rw [onNode_drop h5 h3]
    unfold dropOn
    by_cases h6 : kidsOf T x.place = []
    · rw [if_pos h6]; exact .inr (by rw [(look_mem hx).2])
    · rw [if_neg h6]; exact .inl rfl
theorem put_len {x : Node} {T : List Node} : (put x T).length ≤ T.length + 1 := by rw [put_length]; have := @del_length_le x.place T; omega
theorem put_len_of {x y : Node} {T : List Node} (hy : y ∈ T) (e : y.place = x.place) : (put x T).length ≤ T.length := by rw [put_length]; have := del_length hy e; omega
/-- A node more below /q: the counter's node may turn too. -/
theorem CountTree.more {P : List UInt8} {j j' n : Nat} {T : List Node} (h : CountTree P j n T) {x x' new : Node} (hx : look T qAt = some x) (hg : Good (put new (put x' T))) (hp : x'.place = x.place) (ho : x'.owner = x.owner) (hc : x'.counter = j') (hj : j ≤ j') (hne : new.place ≠ qAt)
    (hf : ∀ i : Int, (j' : Int) ≤ i → (counted P i).2 = 0 → new.at ≠ (counted P i).1) : CountTree P j' (n + 1) (put new (put x' T)) := by
  obtain ⟨hm, hq⟩ := look_mem hx
  obtain ⟨x1, h1, h2, _⟩ := h.above
  rw [hx] at h1
  cases h1
  refine ⟨hg, ⟨x', (look_some_iff hg.sorted).2 ⟨put_mem.2 (.inr ⟨put_mem.2 (.inl rfl), by rw [hp, hq]; exact Ne.symm hne⟩), by rw [hp, hq]⟩, by rw [ho, h2], hc⟩, ?_, ?_⟩
  · have a := @put_len new (put x' T)
    have b := put_len_of hm hp.symm
    have := h.few
    omega
  · intro y hy i hi hci
    rcases put_mem.1 hy with rfl | ⟨hy, _⟩
    · exact hf i hi hci
    rcases put_mem.1 hy with rfl | ⟨hy, _⟩
    · have : y.at = x.at := by unfold Node.at; rw [hp]
      rw [this]
      exact h.free x hm i (by omega) hci
    · exact h.free y hy i (by omega) hci
theorem CountTree.less {P : List UInt8} {j n : Nat} {T : List Node} (h : CountTree P j n T) {q : ByteArray} (hg : Good (del q T)) (hq : q ≠ qAt) : CountTree P j (n + 1) (del q T) := by
  obtain ⟨x, h1, h2, h3⟩ := h.above
  obtain ⟨hm, hp⟩ := look_mem h1
  exact ⟨hg, ⟨x, (look_some_iff hg.sorted).2 ⟨del_mem.2 ⟨hm, by rw [hp]; exact Ne.symm hq⟩, hp⟩, h2, h3⟩, by have := @del_length_le q T; have := h.few; omega, fun y hy => h.free y (del_mem.1 hy).1⟩
theorem play_one (ses st : Int) (T : List Node) (o : OpV) (hn : Nums ses st) : playOf ses st T [o] = if (stepOf ses st T o).code ≠ 0 then ⟨(stepOf ses st T o).code, 0, [], [], T⟩ else ⟨0, 0, [(stepOf ses st T o).res], (stepOf ses st T o).chg, (stepOf ses st T o).T⟩ := by
  unfold playOf
  rw [if_neg (by simp), if_neg (by obtain ⟨a, b, c, d⟩ := hn; omega), if_neg (by simp)]
  unfold playGo
  split
  · rfl
  · simp [playGo]
def q1 : OpV := ⟨1, qAt, ⟨#[]⟩, 0, 0⟩
def dropOp (p : ByteArray) (v : Int) : OpV := ⟨3, p, ⟨#[]⟩, v, 0⟩
def makeOp (p : ByteArray) (f : Int) : OpV := ⟨1, p, ⟨#[]⟩, 0, f⟩
theorem nums12 : Nums 1 2 := ⟨by omega, by omega, by omega, by omega⟩
/-- Where p lies. -/
def PForm (p : ByteArray) (e : Int) : Prop := (e ≠ 0 ∧ p = ⟨#[]⟩) ∨ (e = 0 ∧ ∃ b, isName b = true ∧ p.data.toList = joined [[113], b])
theorem count_drop {P : List UInt8} {j n : Nat} {T : List Node} (h : CountTree P j n T) {q : ByteArray} (hq : q ≠ qAt) : CountTree P j (n + 1) (playOf 1 2 T [dropOp q (-1)]).T := by
  have hg := play_good (ses := 1) (st := 2) h.good [dropOp q (-1)]
  rw [play_one 1 2 T _ nums12] at hg ⊢
  split
  · exact h.still
  · rename_i hc
    rw [if_neg hc] at hg
    simp only [] at hg ⊢
    rw [stepOf_in (by unfold dropOp; simp) (by unfold dropOp; simp)] at hg ⊢
    rcases drop_T 2 T (dropOp q (-1)) rfl with e | e
    · rw [e]; exact h.still
    · rw [e] at hg ⊢
      exact h.less hg hq
theorem count_plain {P : List UInt8} {j n : Nat} {T : List Node} (h : CountTree P j n T) : CountTree P j (n + 1) (playOf 1 2 T [makeOp plainAt 0]).T := by
  have hg := play_good (ses := 1) (st := 2) h.good [makeOp plainAt 0]
  rw [play_one 1 2 T _ nums12] at hg ⊢
  split
  · exact h.still
  · rename_i hc
    rw [if_neg hc] at hg
    simp only [] at hg ⊢
    rw [stepOf_make rfl] at hg ⊢
    rcases make_T 1 2 T (makeOp plainAt 0) with e | ⟨x, hx, e⟩
    · rw [e]; exact h.still
    · rw [e] at hg ⊢
      have e1 : (⟨(parent (makeOp plainAt 0).place.data.toList).1.toArray⟩ : ByteArray) = qAt := by decide
      rw [e1] at hx
      obtain ⟨x1, h1, _, h3⟩ := h.above
      rw [hx] at h1
      cases h1
      have hnp : (newNode 1 2 (makeOp plainAt 0) x).place = plainAt := by
        have hb : bitOf (makeOp plainAt 0).flags 2 = false := show bitOf 0 2 = false by decide
        unfold newNode
        rw [hb]
        rfl
      have hif : (if bitOf (makeOp plainAt 0).flags 2 = true then ({ x with counter := x.counter + 1 } : Node) else x) = x := if_neg (show ¬ bitOf 0 2 = true by decide)
      rw [hif] at hg ⊢
      refine h.more hx hg rfl rfl h3 (Nat.le_refl _) (by rw [hnp]; decide) (fun i _ hi e => ?_)
      obtain ⟨c, hc, _, h57⟩ := counted_digit hi
      have : (newNode 1 2 (makeOp plainAt 0) x).at = plainAt.data.toList := by unfold Node.at; rw [hnp]
      rw [← e, this] at hc
      have h110 : plainAt.data.toList.getLast? = some 110 := by decide
      rw [h110] at hc
      cases hc
      exact absurd h57 (by decide)
/-- A counted make. -/
theorem count_make {p : ByteArray} {j n : Nat} {T : List Node} (h : CountTree p.data.toList j n T) (hn : n < 60) (hj : j ≤ n) {b : List UInt8} (hb : isName b = true) (hp : p.data.toList = joined [[113], b]) (hc : (counted p.data.toList j).2 = 0) :
    ∃ res T' chg, playOf 1 2 T [makeOp p 2] = ⟨0, 0, [res], chg, T'⟩ ∧ res.place = ⟨(counted p.data.toList j).1.toArray⟩ ∧ CountTree p.data.toList (j + 1) (n + 1) T' := by
  have hg := play_good (ses := 1) (st := 2) h.good [makeOp p 2]
  rw [play_one 1 2 T _ nums12, stepOf_make rfl] at hg ⊢
  have hN : Names ([[113]] ++ [b]) := ⟨by simp, fun x hx => by
    rcases List.mem_append.1 hx with hx | hx
    · rw [List.mem_singleton] at hx; rw [hx]; decide
    · rw [List.mem_singleton] at hx; rw [hx]; exact hb⟩
  have hpar : parent (makeOp p 2).place.data.toList = ([47, 113], 0) := by
    show parent p.data.toList = _
    rw [hp, show [[113], b] = [[113]] ++ [b] from rfl, parent_joined hN]
    rfl
  have hc0 : (counted p.data.toList 0).2 = 0 := by
    obtain ⟨l, a, hn', e, ha, _⟩ := counted_ok hc
    unfold counted
    have h2 : ¬ 11 < ((parse p.data.toList).1.getLast?.getD []).length := by
      rw [e, parse_joined hn' (by simp), List.getLast?_concat]
      show ¬ 11 < a.length
      omega
    have hpp : (parse p.data.toList).2 = 0 ∧ (parse p.data.toList).1 ≠ [] := by rw [e, parse_joined hn' (by simp)]; simp
    rw [if_neg (fun h => h hpp.1), if_neg hpp.2, if_neg h2, if_neg (by omega)]
  obtain ⟨x, hx, ho, hxc⟩ := h.above
  obtain ⟨hm, hq⟩ := look_mem hx
  have b2 : bitOf (makeOp p 2).flags 2 = true := show bitOf 2 2 = true by decide
  have b1 : bitOf (makeOp p 2).flags 1 = false := show bitOf 2 1 = false by decide
  have hnp : (newNode 1 2 (makeOp p 2) x).place = ⟨(counted p.data.toList j).1.toArray⟩ := by
    unfold newNode
    simp only []
    rw [if_pos b2, hxc]
    rfl
  have hnone : look T (newNode 1 2 (makeOp p 2) x).place = none := look_none_iff.2 fun y hy e => h.free y hy j (Int.le_refl _) hc (by unfold Node.at; rw [e, hnp])
  have hmk : makeOf 1 2 T (makeOp p 2) = ⟨0, toldOf (newNode 1 2 (makeOp p 2) x), put (newNode 1 2 (makeOp p 2) x) (put { x with counter := x.counter + 1 } T), [⟨1, (newNode 1 2 (makeOp p 2) x).place, ⟨#[]⟩, 0⟩]⟩ := by
    rw [makeOf_in (ct := (counted p.data.toList 0).1) (cc := 0) ⟨by show (0 : Int) ≤ 2; omega, by show (2 : Int) ≤ 3; omega⟩ hpar (by omega) (Prod.ext rfl hc0) (by simp)]
    rw [makeIn_some (by rw [b1]; simp) (by show ¬ 64 < 0; omega) hx]
    rw [madeOn_ok (by omega) (by omega) (by rw [hnone]; simp) (by have := h.few; omega)]
    rw [if_pos b2]
    rfl
  rw [hmk] at hg ⊢
  simp only [] at hg ⊢
  refine ⟨_, _, _, by rw [if_neg (by simp)], ?_, ?_⟩
  · exact hnp
  · rw [if_neg (by simp)] at hg
    refine h.more hx hg rfl rfl (by show x.counter + 1 = _; rw [hxc]; omega) (by omega) ?_ ?_
    · intro e
      have := look_none_iff.1 hnone x hm
      rw [e, hq] at this
      exact this rfl
    · intro i hi hci e
      have hat : (newNode 1 2 (makeOp p 2) x).at = (counted p.data.toList j).1 := by unfold Node.at; rw [hnp]
      rw [hat] at e
      have := counted_inj hc hci e
      omega
/-- Where no counted place can be, the make is refused. -/
theorem count_bad {p : ByteArray} {e : Int} {j : Nat} {T : List Node} (hp : PForm p e) (hj : j ≤ 99999) (hb : e ≠ 0 ∨ (counted p.data.toList j).2 ≠ 0) : ∃ code, code ≠ 0 ∧ stepOf 1 2 T (makeOp p 2) = .no T code := by
  rw [stepOf_make rfl]
  rcases hp with ⟨_, rfl⟩ | ⟨he, b, hb', hq⟩
  · exact ⟨10, by omega, makeOf_bad (up := []) (code := 10) (ct := []) (cc := 10) ⟨by show (0 : Int) ≤ 2; omega, by show (2 : Int) ≤ 3; omega⟩ (by decide) (by omega) (by decide) (by simp)⟩
  · have hN : Names ([[113]] ++ [b]) := ⟨by simp, fun x hx => by
      rcases List.mem_append.1 hx with hx | hx
      · rw [List.mem_singleton] at hx; rw [hx]; decide
      · rw [List.mem_singleton] at hx; rw [hx]; exact hb'⟩
    have hpar : parent (makeOp p 2).place.data.toList = ([47, 113], 0) := by
      show parent p.data.toList = _
      rw [hq, show [[113], b] = [[113]] ++ [b] from rfl, parent_joined hN]
      rfl
    have hc0 : (counted p.data.toList 0).2 ≠ 0 := fun h0 => by
      rcases hb with h | h
      · exact h he
      · exact h (counted_zero h0 (by omega) (by omega))
    exact ⟨10, by omega, makeOf_bad (code := 0) (ct := (counted p.data.toList 0).1) (cc := (counted p.data.toList 0).2) ⟨by show (0 : Int) ≤ 2; omega, by show (2 : Int) ≤ 3; omega⟩ hpar (by omega) rfl (by
      rw [if_pos ⟨rfl, show bitOf 2 2 = true by decide⟩]
      exact hc0)⟩
theorem count_twice (T : List Node) (p : ByteArray) : (playOf 1 2 T [makeOp p 2, dropOp ⟨#[47]⟩ 0]).code ≠ 0 ∧ (playOf 1 2 T [makeOp p 2, dropOp ⟨#[47]⟩ 0]).T = T := by
  have hd : ∀ T' : List Node, stepOf 1 2 T' (dropOp ⟨#[47]⟩ 0) = .no T' 47 := fun T' => by
    rw [stepOf_in (by unfold dropOp; simp) (by unfold dropOp; simp), inTree_root (by decide) ⟨by decide, by decide⟩]
  unfold playOf
  rw [if_neg (by simp), if_neg (by omega), if_neg (by simp)]
  unfold playGo
  split
  · rename_i h; exact ⟨h, rfl⟩
  · unfold playGo
    rw [hd]
    exact ⟨by simp [Made.no], by simp [Made.no]⟩
def qNode : Node := ⟨qAt, ⟨#[]⟩, 0, 1, 1, 0, 0⟩
theorem count_start : ∃ res chg, playOf 1 1 [rootNode] [makeOp qAt 0] = ⟨0, 0, [res], chg, [rootNode, qNode]⟩ ∧ ∀ P : List UInt8, (∀ i, (counted P i).2 = 0 → (counted P i).1 ≠ qAt.data.toList ∧ (counted P i).1 ≠ [47]) → CountTree P 0 0 [rootNode, qNode] := by
  have hT : (stepOf 1 1 [rootNode] (makeOp qAt 0)).T = [rootNode, qNode] := by kernel_rfl
  have hc : (stepOf 1 1 [rootNode] (makeOp qAt 0)).code = 0 := by kernel_rfl
  have hp := play_one 1 1 [rootNode] (makeOp qAt 0) ⟨by omega, by omega, by omega, by omega⟩
  rw [hc, if_neg (by simp), hT] at hp
  have hg := play_good (ses := 1) (st := 1) good_new [makeOp qAt 0]
  rw [hp] at hg
  refine ⟨_, _, hp, fun P hP => ⟨hg, ⟨qNode, by kernel_rfl, rfl, rfl⟩, by simp, fun y hy i _ hi => ?_⟩⟩
  rcases List.mem_cons.1 hy with rfl | hy
  · exact Ne.symm (hP i hi).2
  · rw [List.mem_singleton] at hy
    subst hy
    exact Ne.symm (hP i hi).1
/-- No counted place is /q or the root. -/
theorem counted_apart {P : List UInt8} {i : Int} (h : (counted P i).2 = 0) : (counted P i).1 ≠ qAt.data.toList ∧ (counted P i).1 ≠ [47] := by
  obtain ⟨c, hc, h48, h57⟩ := counted_digit h
  constructor <;> intro e <;> rw [e] at hc
  · have : qAt.data.toList.getLast? = some 113 := by decide
    rw [this] at hc
    cases hc
    exact absurd h57 (by decide)
  · cases hc
    exact absurd h48 (by decide)
end Go.Proofs.YtpmlfpmedbccaaaDoor
