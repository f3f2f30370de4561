/- Nodes in their order: the plain list that stands for a tree. No program in sight. -/
import Derived.Test.YtpmlfpmedbccaaaDoorPlain
namespace Go.Proofs.YtpmlfpmedbccaaaDoor

/-! ### Order is a strict order -/
theorem wt_inj {a b : UInt8} (h : wt a = wt b) : a = b := by
  unfold wt at h
  split at h <;> split at h
  · simp_all
  · have := b.toNat_lt; omega
  · have := a.toNat_lt; omega
  · exact UInt8.toNat_inj.1 (by omega)
theorem ord_cases (s : List UInt8) : ∀ t, ord s t = -1 ∨ ord s t = 0 ∨ ord s t = 1 := by
  induction s with
  | nil => intro t; cases t <;> simp [ord]
  | cons a s ih =>
    intro t
    cases t with
    | nil => simp [ord]
    | cons b t =>
      unfold ord
      split
      · exact .inl rfl
      · split
        · exact .inr (.inr rfl)
        · exact ih t
theorem ord_zero (s : List UInt8) : ∀ t, ord s t = 0 ↔ s = t := by
  induction s with
  | nil => intro t; cases t <;> simp [ord]
  | cons a s ih =>
    intro t
    cases t with
    | nil => simp [ord]
    | cons b t =>
      unfold ord
      split
      · rename_i h; constructor
        · intro e; omega
        · intro e; cases e; omega
      · split
        · rename_i h; constructor
          · intro e; omega
          · intro e; cases e; omega
        · rename_i h1 h2
          have : a = b := wt_inj (by omega)
          subst this
          rw [ih t]
          simp
theorem ord_flip (s : List UInt8) : ∀ t, ord t s = - ord s t := by
  induction s with
  | nil => intro t; cases t <;> simp [ord]
  | cons a s ih =>
    intro t
    cases t with
    | nil => simp [ord]
    | cons b t =>
      unfold ord
      by_cases h1 : wt a < wt b
      · rw [if_pos h1, if_neg (by omega), if_pos h1]; rfl
      · by_cases h2 : wt b < wt a
        · rw [if_pos h2, if_neg h1, if_pos h2]
        · rw [if_neg h2, if_neg h1, if_neg h1, if_neg h2]; exact ih t
theorem ord_trans (s : List UInt8) : ∀ t u, ord s t = -1 → ord t u = -1 → ord s u = -1 := by
  induction s with
  | nil =>
    intro t u h1 h2
    cases u with
    | nil => cases t <;> simp [ord] at h1 h2
    | cons => simp [ord]
  | cons a s ih =>
    intro t u h1 h2
    cases t with
    | nil => simp [ord] at h1
    | cons b t =>
      cases u with
      | nil => simp [ord] at h2
      | cons c u =>
        unfold ord at h1 h2 ⊢
        by_cases hab : wt a < wt b
        · have : wt a < wt c := by
            by_cases hbc : wt b < wt c
            · omega
            · rw [if_neg hbc] at h2
              by_cases hcb : wt c < wt b
              · rw [if_pos hcb] at h2; omega
              · omega
          rw [if_pos this]
        · rw [if_neg hab] at h1
          by_cases hba : wt b < wt a
          · rw [if_pos hba] at h1; omega
          · rw [if_neg hba] at h1
            by_cases hbc : wt b < wt c
            · rw [if_pos (by omega)]
            · rw [if_neg hbc] at h2
              by_cases hcb : wt c < wt b
              · rw [if_pos hcb] at h2; omega
              · rw [if_neg hcb] at h2
                rw [if_neg (by omega), if_neg (by omega)]
                exact ih t u h1 h2
theorem ord_self (s : List UInt8) : ord s s = 0 := (ord_zero s s).2 rfl
/-- What begins with another one, and goes on, comes behind it. -/
theorem ord_prefix (s : List UInt8) : ∀ t, t ≠ [] → ord s (s ++ t) = -1 := by
  induction s with
  | nil => intro t h; cases t with
    | nil => exact absurd rfl h
    | cons => simp [ord]
  | cons a s ih =>
    intro t h
    rw [List.cons_append]
    unfold ord
    rw [if_neg (by omega), if_neg (by omega)]
    exact ih t h

/-! ### nodes -/
structure Node where
  place : ByteArray
  data : ByteArray
  version : Int
  made : Int
  changed : Int
  owner : Int
  counter : Int
abbrev Node.at (x : Node) : List UInt8 := x.place.data.toList
theorem Node.at_inj {x y : Node} (h : x.at = y.at) : x.place = y.place := by
  apply ByteArray.ext
  exact Array.toList_inj.1 h
theorem str_inj {x y : ByteArray} (h : x.data.toList = y.data.toList) : x = y := by
  apply ByteArray.ext
  exact Array.toList_inj.1 h

def Sorted (T : List Node) : Prop := T.Pairwise fun a b => ord a.at b.at = -1
def look (T : List Node) (p : ByteArray) : Option Node := T.find? fun x => decide (x.place = p)
def del (p : ByteArray) (T : List Node) : List Node := T.filter fun x => decide (x.place ≠ p)
def ins (x : Node) : List Node → List Node
  | [] => [x]
  | y :: T => if ord x.at y.at = -1 then x :: y :: T else y :: ins x T
def put (x : Node) (T : List Node) : List Node := ins x (del x.place T)

theorem ins_perm (x : Node) (T : List Node) : (ins x T).Perm (x :: T) := by
  induction T with
  | nil => exact .refl _
  | cons y T ih =>
    unfold ins
    split
    · exact .refl _
    · exact (ih.cons y).trans (.swap x y T)
theorem ins_mem {x y : Node} {T : List Node} : y ∈ ins x T ↔ y = x ∨ y ∈ T := by rw [(ins_perm x T).mem_iff, List.mem_cons]
theorem ins_sorted {x : Node} {T : List Node} (h : Sorted T) (hne : ∀ y ∈ T, y.place ≠ x.place) : Sorted (ins x T) := by
  induction T with
  | nil => simp [ins, Sorted]
  | cons y T ih =>
    have h' := List.pairwise_cons.1 h
    unfold ins
    split
    · rename_i hxy
      refine List.pairwise_cons.2 ⟨fun z hz => ?_, h⟩
      rcases List.mem_cons.1 hz with rfl | hz
      · exact hxy
      · exact ord_trans _ _ _ hxy (h'.1 z hz)
    · rename_i hxy
      refine List.pairwise_cons.2 ⟨fun z hz => ?_, ih h'.2 (fun z hz => hne z (List.mem_cons_of_mem _ hz))⟩
      rcases ins_mem.1 hz with rfl | hz
      · have h0 : ord z.at y.at ≠ 0 := fun e => hne y List.mem_cons_self (Node.at_inj ((ord_zero _ _).1 e)).symm
        have := ord_cases z.at y.at
        have := ord_flip z.at y.at
        omega
      · exact h'.1 z hz
theorem del_sorted {p : ByteArray} {T : List Node} (h : Sorted T) : Sorted (del p T) := List.Pairwise.sublist List.filter_sublist h
theorem del_mem {p : ByteArray} {T : List Node} {y : Node} : y ∈ del p T ↔ y ∈ T ∧ y.place ≠ p := by simp [del]
theorem put_sorted {x : Node} {T : List Node} (h : Sorted T) : Sorted (put x T) := ins_sorted (del_sorted h) (fun _ hy => (del_mem.1 hy).2)
theorem put_mem {x y : Node} {T : List Node} : y ∈ put x T ↔ y = x ∨ (y ∈ T ∧ y.place ≠ x.place) := by
  unfold put
  rw [ins_mem, del_mem]
theorem sorted_apart {T : List Node} (h : Sorted T) : (T.map (·.place)).Nodup := by
  rw [List.Nodup, List.pairwise_map]
  exact h.imp fun {a b} hab e => by
    have : ord a.at b.at = 0 := (ord_zero _ _).2 (by rw [Node.at, e])
    omega
/-- Two lists in order with the same nodes are one. -/
theorem sorted_unique : ∀ {T U : List Node}, Sorted T → Sorted U → T.Perm U → T = U
  | [], U, _, _, h => (List.nil_perm.1 h).symm
  | x :: T, [], _, _, h => absurd h.length_eq (by simp)
  | x :: T, y :: U, hT, hU, h => by
    have hT' := List.pairwise_cons.1 hT
    have hU' := List.pairwise_cons.1 hU
    have e : x = y := by
      have hx : x ∈ y :: U := h.mem_iff.1 List.mem_cons_self
      have hy : y ∈ x :: T := h.mem_iff.2 List.mem_cons_self
      rcases List.mem_cons.1 hx with rfl | hx
      · rfl
      · rcases List.mem_cons.1 hy with rfl | hy
        · rfl
        · have h1 := hU'.1 x hx
          have h2 := hT'.1 y hy
          have := ord_flip x.at y.at
          omega
    subst e
    rw [sorted_unique hT'.2 hU'.2 (List.Perm.cons_inv h)]
theorem look_mem {T : List Node} {p : ByteArray} {x : Node} (h : look T p = some x) : x ∈ T ∧ x.place = p := ⟨List.mem_of_find?_eq_some h, by simpa using List.find?_some h⟩
theorem look_none {T : List Node} {p : ByteArray} (h : look T p = none) : ∀ x ∈ T, x.place ≠ p := by
  simpa [look] using h
theorem look_of_mem {T : List Node} {x : Node} (hT : (T.map (·.place)).Nodup) (hx : x ∈ T) : look T x.place = some x := by
  cases h : look T x.place with
  | none => exact absurd rfl (look_none h x hx)
  | some y =>
    obtain ⟨hy, e⟩ := look_mem h
    have := List.pairwise_map.1 hT
    refine congrArg some ?_
    obtain ⟨i, hi, rfl⟩ := List.getElem_of_mem hx
    obtain ⟨j, hj, rfl⟩ := List.getElem_of_mem hy
    rcases Nat.lt_trichotomy i j with h | h | h
    · exact absurd e.symm (List.pairwise_iff_getElem.1 this i j hi hj h)
    · subst h; rfl
    · exact absurd e (List.pairwise_iff_getElem.1 this j i hj hi h)
end Go.Proofs.YtpmlfpmedbccaaaDoor
