/- A good tree's list: the root first, each place behind the one above it. Plain. -/
import Derived.Test.YtpmlfpmedbccaaaDoorGood
namespace Go.Proofs.YtpmlfpmedbccaaaDoor

theorem root_least {t : List UInt8} (h : (parse t).2 = 0) (hne : t ≠ [47]) : ord [47] t = -1 := by
  rcases place_cases h with e | ⟨l, a, hn, _, e⟩
  · exact absurd e hne
  · have h1 : t = [47] ++ Lib.join (l ++ [a]) [47] := by rw [e]; rfl
    rw [h1]
    refine ord_prefix _ _ fun e2 => hne ?_
    rw [h1, e2]; rfl
theorem sorted_get {T : List Node} (h : Sorted T) {i j : Nat} (hj : j < T.length) (hij : i < j) : ord (T[i]'(by omega)).at T[j].at = -1 :=
  List.pairwise_iff_getElem.1 h i j (by omega) hj hij
theorem sorted_before {T : List Node} (h : Sorted T) {i j : Nat} (hi : i < T.length) (hj : j < T.length) (ho : ord T[i].at T[j].at = -1) : i < j := by
  rcases Nat.lt_trichotomy i j with h1 | h1 | h1
  · exact h1
  · subst h1; rw [ord_self] at ho; cases ho
  · have := sorted_get h hi h1
    have f := ord_flip T[j].at T[i].at
    omega
section
variable {T : List Node}
theorem Good.pos (h : Good T) : 0 < T.length := by
  obtain ⟨x, hx, _⟩ := h.root
  exact List.length_pos_of_mem hx
theorem Good.first (h : Good T) : (T[0]'h.pos).at = [47] ∧ (T[0]'h.pos).owner = 0 := by
  obtain ⟨x, hx, e, o⟩ := h.root
  obtain ⟨i, hi, rfl⟩ := List.getElem_of_mem hx
  have h0 : T[0]'h.pos ∈ T := List.getElem_mem _
  by_cases he : (T[0]'h.pos).at = [47]
  · exact ⟨he, h.rootAt h0 he⟩
  · have h1 := root_least (h.ok _ h0).place he
    rw [← e] at h1
    have := sorted_before h.sorted hi h.pos h1
    omega
theorem Good.later (h : Good T) {i : Nat} (hi : i < T.length) (h0 : 0 < i) : T[i].at ≠ [47] := fun e => by
  have h1 := sorted_get h.sorted hi h0
  rw [h.first.1, e, ord_self] at h1
  cases h1
theorem Good.above (h : Good T) {i : Nat} (hi : i < T.length) (h0 : 0 < i) : (parent T[i].at).2 = 0 ∧ ∃ (k : Nat) (hk : k < i), T[k].at = (parent T[i].at).1 ∧ T[k].owner = 0 := by
  have hne := h.later hi h0
  have hp := h.kid (List.getElem_mem hi) hne
  refine ⟨hp, ?_⟩
  obtain ⟨y, hy, e, o⟩ := h.up _ (List.getElem_mem hi) hne
  obtain ⟨k, hk, rfl⟩ := List.getElem_of_mem hy
  have h1 := parent_before hp
  rw [← e] at h1
  exact ⟨k, sorted_before h.sorted hk hi h1, e, o⟩
end
end Go.Proofs.YtpmlfpmedbccaaaDoor
