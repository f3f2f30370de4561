/- The walks of package tree, first part: none, New, inOrder, Nodes. -/
import Derived.Test.YtpmlfpmedbccaaaDoorPlaceLast
import Derived.Test.YtpmlfpmedbccaaaDoorMaps
import Derived.Test.YtpmlfpmedbccaaaDoorModel
import Derived.Test.YtpmlfpmedbccaaaDoorSort
import Derived.Test.YtpmlfpmedbccaaaDoorShelf
import Derived.Maps.OwnSet
import Derived.Maps.OwnOps
import Derived.Maps.RangeWalk
namespace Go.Proofs.YtpmlfpmedbccaaaDoor
open Go.RowKit
open Go.Sort (grow PermIn)

theorem und_map : Tryd.prog.underlying 66 = some (.map 9 43) := by kernel_rfl
theorem und_str : Tryd.prog.underlying 9 = some .string := by kernel_rfl
theorem zero_full (w : World) : (zeroValue 43).run Tryd.prog w = .ok zeroNode.val w := by kernel_rfl

/-- A tree: the pointer's block holds the map's reference; the map's block holds T. -/
structure TreeAt (w : World) (p r : Nat) (T : List Node) : Prop where
  top : w.heap[p]? = some (.cells #[.map (some r)] 68 (0, 0))
  map : MapAt w r T
  sorted : Sorted T
theorem TreeAt.lt {w : World} {p r : Nat} {T : List Node} (h : TreeAt w p r T) : p < w.heap.size ∧ r < w.heap.size := ⟨(Array.getElem?_eq_some_iff.1 h.top).1, h.map.lt⟩
theorem TreeAt.cell {w : World} {p r : Nat} {T : List Node} (h : TreeAt w p r T) : w.cell? ⟨p, 0, none⟩ = some (.map (some r)) := by simp [World.cell?, h.top]
theorem TreeAt.free {w : World} {p r : Nat} {T : List Node} (h : TreeAt w p r T) : w.frozen? ⟨p, 0, none⟩ = false := by simp [World.frozen?, h.top]
theorem TreeAt.keep {w w' : World} {p r : Nat} {T : List Node} (h : TreeAt w p r T) (hp : w'.heap[p]? = w.heap[p]?) (hr : w'.heap[r]? = w.heap[r]?) : TreeAt w' p r T := ⟨hp.trans h.top, h.map.of_block hr, h.sorted⟩
theorem TreeAt.below {w w' : World} {p r : Nat} {T : List Node} {B : Nat} (h : TreeAt w p r T) (hb : Below B w w') (hB : w.heap.size ≤ B) : TreeAt w' p r T := h.keep (hb.block p (by have := h.lt; omega)) (hb.block r (by have := h.lt; omega))

/-! ### none -/
theorem none_nil (w : World) : Calls Tryd.prog 24 #[.pointer none] w fun e w' => e = .returned (.bool true) ∧ w = w' := by
  go_enter Tryd.func24, Tryd.ntmps24
  go_wp2
  go_ret
  exact ⟨rfl, rfl⟩
theorem none_zero (w : World) (p : Nat) (h : w.cell? ⟨p, 0, none⟩ = some (.map none)) : Calls Tryd.prog 24 #[.pointer (some ⟨p, 0, none⟩)] w fun e w' => e = .returned (.bool true) ∧ w = w' := by
  have hq := run_eql_map_nil (P := Tryd.prog) w 66 _ _ none und_map
  go_enter Tryd.func24, Tryd.ntmps24
  go_wp2
  go_ret
  exact ⟨rfl, rfl⟩
theorem none_tree (w : World) (p r : Nat) (h : w.cell? ⟨p, 0, none⟩ = some (.map (some r))) : Calls Tryd.prog 24 #[.pointer (some ⟨p, 0, none⟩)] w fun e w' => e = .returned (.bool false) ∧ w = w' := by
  have hq := run_eql_map_nil (P := Tryd.prog) w 66 _ _ (some r) und_map
  go_enter Tryd.func24, Tryd.ntmps24
  go_wp2
  go_ret
  exact ⟨rfl, rfl⟩
/-! ### New -/
/-- A tree of the call's own. -/
def TreePost (T : List Node) (w : World) (e : Ending) (w' : World) : Prop := ∃ p r, e = .returned (.pointer (some ⟨p, 0, none⟩)) ∧ w.heap.size ≤ p ∧ w.heap.size ≤ r ∧ p ≠ r ∧ Below w.heap.size w w' ∧ TreeAt w' p r T
set_option maxHeartbeats 400000 in
theorem new_any (w : World) : Calls Tryd.prog 8 #[] w fun e w' => TreePost [rootNode] w e w' := by
  have hmm := @run_makeMap Tryd.prog
  have hm0 : MapAt (w.alloc (.map #[] 0)) w.heap.size [] := ⟨#[], 0, [], heap_alloc_new w _, MapKept.stamped_empty 0, .refl _, rfl⟩
  have HM := Lib.hid hm0
  clear hm0
  go_enter Tryd.func8, Tryd.ntmps8
  go_wp2_with (with_reducible show wpList _ _ _ (Oper.mk _ (.insert _ _ _ _) _ _ _ _ :: _) _ _; refine wpList_put HM.out und_map und_str rootNode rfl (.tmp 1) (.const (.string ⟨#[47]⟩)) (.tmp 2) (.inr rfl) rfl rfl rfl ?_; intro w1 hm1 hg1 hs1; have HS := Lib.hid hs1; clear hs1)
  go_ret
  have hb1 : Below w.heap.size w w1 := ((Below.refl _ _).alloc (Nat.le_refl _) _).grown hg1 (by simp) (fun k hk => by cases hk; exact Nat.le_refl _)
  have hsz : w1.heap.size = w.heap.size + 1 := by rw [HS.out]; simp
  exact ⟨w1.heap.size, w.heap.size, rfl, by omega, Nat.le_refl _, by omega, hb1.alloc hb1.size _, heap_alloc_new w1 _, (hm1 _ (.refl _)).of_block (Below.heap_alloc w1 _ _ (by omega)), by simp [Sorted]⟩

/-! ### inOrder -/
/-- Nodes whose places are short enough to be compared. -/
abbrev NodeB := { x : Node // x.place.size ≤ maxLen }
def nenc (x : NodeB) : List Value := x.1.cells
def ncmp (x y : NodeB) : Int := ord x.1.at y.1.at
instance : Inhabited NodeB := ⟨⟨zeroNode, Nat.zero_le _⟩⟩
theorem ncmp_lt (x y : NodeB) : ltOf ncmp x y = decide (ord x.1.at y.1.at = -1) := by
  unfold ltOf ncmp
  have := ord_cases x.1.at y.1.at
  by_cases h : ord x.1.at y.1.at = -1
  · rw [h]; rfl
  · rw [decide_eq_false h, decide_eq_false]; omega
theorem ncmp_swo : Go.Sort.SWO (ltOf ncmp) where
  irrefl x := by rw [ncmp_lt, ord_self]; rfl
  trans x y z h1 h2 := by
    rw [ncmp_lt] at h1 h2 ⊢
    exact decide_eq_true (ord_trans _ _ _ (of_decide_eq_true h1) (of_decide_eq_true h2))
  ntrans x y z h1 h2 := by
    rw [ncmp_lt] at h1 h2 ⊢
    have h1 := of_decide_eq_false h1
    have h2 := of_decide_eq_false h2
    refine decide_eq_false fun h => ?_
    have a := ord_cases x.1.at y.1.at
    have b := ord_cases y.1.at z.1.at
    have f1 := ord_flip x.1.at y.1.at
    have f2 := ord_flip y.1.at z.1.at
    rcases a with a | a | a
    · exact h1 a
    · rw [(ord_zero _ _).1 a] at h; exact h2 h
    · rcases b with b | b | b
      · exact h2 b
      · rw [← (ord_zero _ _).1 b] at h; exact h1 h
      · have := ord_trans _ _ _ (show ord z.1.at y.1.at = -1 by omega) (show ord y.1.at x.1.at = -1 by omega)
        have := ord_flip x.1.at z.1.at
        omega
theorem grow_drewN (w : World) (os : Array Obj) (n : Nat) : (grow w os).drewN n = grow (w.drewN n) os := rfl
set_option maxHeartbeats 1000000 in
theorem closure_any (x y : NodeB) (W : World) : Calls Tryd.prog 48 #[.agg (nenc x).toArray, .agg (nenc y).toArray] W fun e w' => e = .returned (.int .i64 (ncmp x y)) ∧ ∃ q os', w' = grow (W.drewN q) os' := by
  have hcon := fun W' => order_any x.1.place y.1.place W' x.2 y.2
  change ∀ W', Calls _ _ _ _ fun e w' => e = .returned (.int .i64 (ncmp x y)) ∧ _ at hcon
  generalize ncmp x y = r at hcon ⊢
  obtain ⟨⟨xp, xd, xv, xm, xc, xo, xn⟩, hx⟩ := x
  obtain ⟨⟨yp, yd, yv, ym, yc, yo, yn⟩, hy⟩ := y
  simp only [nenc, Node.cells] at hcon ⊢
  clear hx hy
  go_enter Tryd.func48, Tryd.ntmps48
  go_wp2_with (go_at_call 30; refine (hcon _).mono ?_; rintro e w' ⟨rfl, n, rfl⟩)
  go_ret
  exact ⟨rfl, n, _, by rw [Go.Sort.alloc_eq_grow, Go.Sort.alloc_eq_grow, Go.Sort.grow_grow]; exact grow_drewN _ _ _⟩
theorem cmp_lays (blk off size : Nat) (w : World) : CmpLays Tryd.prog 48 #[] nenc 7 ncmp blk off size w := fun _ _ _ _ x y => closure_any x y _

theorem flat_enc (l : List NodeB) : l.flatMap nenc = (l.map (·.1)).flatMap Node.cells := by
  induction l with
  | nil => rfl
  | cons x l ih => simp [nenc, ih]
/-- What inOrder hands back: the same row, its nodes in order. -/
def OrderPost (L : List Node) (base : Nat) (v : Value) (n : Nat) (w : World) (e : Ending) (w' : World) : Prop :=
  e = .returned v ∧ ∃ S, S.Perm L ∧ Sorted S ∧ w'.ownsRow base 43 7 v n (S.flatMap Node.cells) ∧ w.grownBy w' v.ownBlock
theorem sort_any (L : List Node) (base : Nat) (v : Value) (n : Nat) (w : World) (hL : ∀ x ∈ L, x.place.size ≤ maxLen) (hN : (L.map (·.place)).Nodup) (hC : L.length < 4611686018427387904) (hv : w.ownsRow base 43 7 v n (L.flatMap Node.cells)) :
    Calls Tryd.prog 47 #[v, .func (.func 48) #[] #[]] w fun e w' => e = .returned (.tuple #[]) ∧ OrderPost L base v n w (.returned v) w' := by
  have hlen : n = L.length := by
    have := hv.1
    rw [flat_len Node.cells 7 (fun _ => rfl)] at this
    omega
  rcases hv.2 with ⟨rfl, h0⟩ | ⟨g, cap, cur, rfl, hb, hg, hcap, hm, hs, ht⟩
  · subst h0
    have hnil : L = [] := List.eq_nil_of_length_eq_zero hlen.symm
    subst hnil
    refine (AnyF.slices_SortFunc_none Tryd.sortFull none 0 _ w).mono ?_
    rintro e w' ⟨rfl, rfl⟩
    exact ⟨rfl, rfl, [], .refl _, by simp [Sorted], hv, .refl _ _⟩
  · have eg : ∀ args w, (callFunc 48 args).run Tryd.prog w = .ok (.enter 48 args) w := enters_of Tryd.func48 (by kernel_rfl) rfl
    let d : Array NodeB := (L.attachWith _ hL).toArray
    have hd : d.size = n := by simp [d, hlen]
    have hdl : d.toList.map (·.1) = L := by simp [d]
    have hlt : g < w.heap.size := (Array.getElem?_eq_some_iff.1 hg).1
    have hH : Go.Sort.HoldsK nenc 7 w g 0 d := holds_of_own nenc 7 (fun _ => rfl) (n := n) hg (by rw [ht, flat_enc, hdl])
    have := AnyQ.slices_SortFunc Tryd.sortFull 7 Tryd.isAgg43 Tryd.sizeOf43 nenc (fun _ => rfl) (fun x u hu => by simp [nenc, Node.cells] at hu; rcases hu with rfl | rfl | rfl | rfl | rfl | rfl | rfl <;> rfl) ncmp ncmp_swo 48 #[] g 0 cap d w eg (cmp_lays g 0 d.size w) hH hlt (by omega)
    rw [hd] at this
    refine this.mono ?_
    rintro e w' ⟨rfl, d', q, os, hp, hso, rfl⟩
    obtain ⟨hsz, hperm⟩ := perm_in (hd ▸ hp)
    have ho := own_sorted nenc 7 (fun _ => rfl) (q := q) (os := os) (d := d) (d' := d') (n := n) hb hg (by omega) hcap hm hs hsz
    refine ⟨rfl, rfl, d'.toList.map (·.1), ?_, ?_, ?_, ho.2⟩
    · rw [← hdl]; exact hperm.map _
    · have hnd : ((d'.toList.map (·.1)).map (·.place)).Nodup := ((hperm.map (·.1)).map (·.place)).nodup_iff.2 (by rw [hdl]; exact hN)
      unfold Sorted
      rw [List.pairwise_iff_getElem]
      intro i j hi hj hij
      have hi' : i < d'.size := by simpa using hi
      have hj' : j < d'.size := by simpa using hj
      have h1 := hso i j (Nat.zero_le _) hij (by omega)
      rw [ncmp_lt, getElem!_pos d' i hi', getElem!_pos d' j hj'] at h1
      have h1 := of_decide_eq_false h1
      have h2 := List.pairwise_iff_getElem.1 hnd i j (by simpa using hi) (by simpa using hj) hij
      simp only [List.getElem_map, Array.getElem_toList] at h2 ⊢
      have h3 := ord_cases d'[i].1.at d'[j].1.at
      have h4 := ord_flip d'[i].1.at d'[j].1.at
      have h5 : ord d'[i].1.at d'[j].1.at ≠ 0 := fun e => h2 (Node.at_inj ((ord_zero _ _).1 e))
      omega
    · have := ho.1
      rw [flat_enc] at this
      exact this
set_option maxHeartbeats 400000 in
theorem inOrder_any (L : List Node) (base : Nat) (v : Value) (n : Nat) (w : World) (hL : ∀ x ∈ L, x.place.size ≤ maxLen) (hN : (L.map (·.place)).Nodup) (hC : L.length < 4611686018427387904) (hv : w.ownsRow base 43 7 v n (L.flatMap Node.cells)) :
    Calls Tryd.prog 28 #[v] w (OrderPost L base v n w) := by
  have hcon := Lib.hid (sort_any L base v n w hL hN hC hv)
  clear hL hN hC hv
  go_enter Tryd.func28, Tryd.ntmps28
  go_wp2_with (go_at_call 47; refine hcon.out.mono ?_; rintro e w' ⟨rfl, hp⟩; replace hp := Lib.hid hp)
  go_ret
  exact hp.out
end Go.Proofs.YtpmlfpmedbccaaaDoor
