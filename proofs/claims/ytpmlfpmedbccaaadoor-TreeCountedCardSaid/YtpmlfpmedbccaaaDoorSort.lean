/- slices.SortFunc at a row of the call's own: from the library's words to ours. Over any program. -/
import Derived.Shelf.SlSortCmp.WholeK
import Derived.Shelf.SlSortCmp.NoneTotal
import Derived.OwnWalk
import Derived.Below
namespace Go.Proofs.YtpmlfpmedbccaaaDoor
open Go.RowKit
open Go.Sort (grow flatK putRowK HoldsK putCells putRow mapBlock PermIn SortedIn onCells)

section
variable {α : Type}
theorem flat_len (enc : α → List Value) (k : Nat) (hk : ∀ x, (enc x).length = k) (l : List α) : (l.flatMap enc).length = l.length * k := by
  induction l with
  | nil => simp
  | cons x l ih => rw [List.flatMap_cons, List.length_append, ih, hk, List.length_cons, Nat.add_mul]; omega
theorem flat_get (enc : α → List Value) (k : Nat) (hk : ∀ x, (enc x).length = k) (l : List α) (i : Nat) (x : α) (hx : l[i]? = some x) (j : Nat) (hj : j < k) : (l.flatMap enc)[i * k + j]? = (enc x)[j]? := by
  induction l generalizing i with
  | nil => simp at hx
  | cons y l ih =>
    rw [List.flatMap_cons]
    cases i with
    | zero =>
      simp at hx
      subst hx
      rw [Nat.zero_mul, Nat.zero_add, List.getElem?_append_left (by rw [hk]; exact hj)]
    | succ i =>
      rw [List.getElem?_append_right (by rw [hk, Nat.succ_mul]; omega), hk, ← ih i (by simpa using hx)]
      congr 1
      rw [Nat.succ_mul]
      omega
variable [Inhabited α]
theorem flatK_list (enc : α → List Value) (k : Nat) (hk : ∀ x, (enc x).length = k) (d : Array α) : (flatK enc k d).toList = d.toList.flatMap enc := by
  apply List.ext_getElem?
  intro t
  by_cases ht : t < d.size * k
  · have k0 : 0 < k := by
      rcases Nat.eq_zero_or_pos k with h | h
      · subst h; simp at ht
      · exact h
    have hi : t / k < d.size := by rw [Nat.div_lt_iff_lt_mul k0]; exact ht
    have hj : t % k < k := Nat.mod_lt _ k0
    have h1 := flat_get enc k hk d.toList (t / k) d[t / k] (by simp [hi]) (t % k) hj
    rw [Nat.mul_comm, Nat.div_add_mod] at h1
    rw [h1]
    have h3 : t < (flatK enc k d).size := by simpa using ht
    have h4 : t % k < (enc d[t / k]).length := by rw [hk]; exact hj
    have a1 : d[t / k]! = d[t / k] := getElem!_pos d (t / k) hi
    have a2 : (enc d[t / k])[t % k]! = (enc d[t / k])[t % k] := getElem!_pos (enc d[t / k]) (t % k) h4
    have a3 : (flatK enc k d)[t]! = (flatK enc k d)[t] := getElem!_pos (flatK enc k d) t h3
    have h2 := Go.Sort.get_flatK enc k d t ht
    rw [a1, a2, a3] at h2
    rw [Array.getElem?_toList, Array.getElem?_eq_getElem h3, h2, List.getElem?_eq_getElem h4]
  · rw [List.getElem?_eq_none (by simp; omega), List.getElem?_eq_none (by rw [flat_len enc k hk]; simp; omega)]

theorem holds_of_own (enc : α → List Value) (k : Nat) (hk : ∀ x, (enc x).length = k) {w : World} {g e n : Nat} {cur : Array Value} {d : Array α} (hg : w.heap[g]? = some (.cells cur e (0, 0))) (ht : cur.toList.take (n * k) = d.toList.flatMap enc) :
    HoldsK enc k w g 0 d := by
  intro j hj
  rw [Nat.zero_add]
  refine ⟨?_, by simp [World.frozen?, hg]⟩
  have h1 : (flatK enc k d).toList[j]? = some (id (flatK enc k d)[j]!) := by rw [Array.getElem?_toList, Array.getElem?_eq_getElem hj, getElem!_pos _ j hj]; rfl
  rw [flatK_list enc k hk, ← ht, List.getElem?_take] at h1
  split at h1
  · simp [World.cell?, hg]
    simpa using h1
  · cases h1

theorem own_sorted (enc : α → List Value) (k : Nat) (hk : ∀ x, (enc x).length = k) {w : World} {base g e cap : Nat} {cur : Array Value} {d d' : Array α} {n q : Nat} {os : Array Obj} (hb : base ≤ g) (hg : w.heap[g]? = some (.cells cur e (0, 0))) (hn : n = d'.size) (hcap : n ≤ cap) (hm : cap ≤ maxLen) (hs : cur.size = cap * k) (_hd : d'.size = d.size) :
    (sortWorldK enc k w g 0 q d' os).ownsRow base e k (.slice (some ⟨g, 0, none⟩) n cap) n (d'.toList.flatMap enc) ∧ w.grownBy (sortWorldK enc k w g 0 q d' os) (some g) := by
  have hlt : g < w.heap.size := (Array.getElem?_eq_some_iff.1 hg).1
  have hheap : (sortWorldK enc k w g 0 q d' os).heap[g]? = some (.cells (putCells id 0 (flatK enc k d') cur) e (0, 0)) := by
    simp only [sortWorldK, putRowK, putRow, mapBlock, grow, Go.Sort.ahead]
    rw [Array.getElem?_append_left (by simpa using hlt), Array.getElem?_modify, if_pos rfl, hg]
    rfl
  have hle : n * k ≤ cap * k := Nat.mul_le_mul_right _ hcap
  refine ⟨⟨by rw [flat_len enc k hk]; simp [hn], .inr ⟨g, cap, _, rfl, hb, hheap, hcap, hm, by simp [putCells, hs], ?_⟩⟩, ⟨rfl, rfl, rfl, by simp [sortWorldK, putRowK, putRow, mapBlock, grow, Go.Sort.ahead], fun i hi hne => ?_⟩⟩
  · rw [← flatK_list enc k hk]
    apply List.ext_getElem?
    intro t
    rw [List.getElem?_take]
    by_cases ht : t < n * k
    · rw [if_pos ht]
      have h1 : t < (flatK enc k d').size := by simp [← hn]; exact ht
      have h2 : t < cur.size := by omega
      have a3 : (flatK enc k d')[t]! = (flatK enc k d')[t] := getElem!_pos (flatK enc k d') t h1
      simp only [putCells, Array.getElem?_toList, Array.getElem?_mapIdx, Array.getElem?_eq_getElem h2, Option.map_some, Nat.zero_le, true_and, Nat.zero_add, Nat.sub_zero]
      rw [if_pos h1, a3, Array.getElem?_eq_getElem h1]
      rfl
    · rw [if_neg ht, List.getElem?_eq_none (by simp [← hn]; omega)]
  · have : ¬ g = i := fun e => hne (by rw [e])
    simp only [sortWorldK, putRowK, putRow, mapBlock, grow, Go.Sort.ahead]
    rw [Array.getElem?_append_left (by simpa using hi), Array.getElem?_modify, if_neg this]
theorem perm_in {d d' : Array α} (h : PermIn 0 d.size d d') : d'.size = d.size ∧ d'.toList.Perm d.toList := by
  refine ⟨h.1, ?_⟩
  have := h.2.2
  rw [Array.extract_size] at this
  have e : d'.extract 0 d.size = d' := by rw [← h.1]; exact Array.extract_size
  rw [e] at this
  exact this
end
end Go.Proofs.YtpmlfpmedbccaaaDoor
