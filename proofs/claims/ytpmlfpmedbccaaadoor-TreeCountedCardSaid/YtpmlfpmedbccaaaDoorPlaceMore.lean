/- The walks of package place, second part: what is made of the names. -/
import Derived.Test.YtpmlfpmedbccaaaDoorPlace
namespace Go.Proofs.YtpmlfpmedbccaaaDoor
open Go.RowKit
theorem ret_string {a b : List UInt8} (h : a = b) : Ending.returned (.string ⟨a.toArray⟩) = .returned (.string ⟨b.toArray⟩) := by rw [h]

theorem str_cons (c : UInt8) (j : List UInt8) : (⟨#[c]⟩ ++ ⟨j.toArray⟩ : ByteArray) = ⟨(c :: j).toArray⟩ := by
  apply ByteArray.ext
  simp

set_option maxHeartbeats 400000 in
theorem placed_core (a : Option Addr) (n c : Nat) (j : List UInt8) (w : World) (hj : j.length ≤ 1000)
    (hcon : Hid (Calls Tryd.prog 53 #[.slice a n c, .string ⟨#[47]⟩] w fun e w' => e = .returned (.string ⟨j.toArray⟩) ∧ Below w.heap.size w w')) :
    Calls Tryd.prog 36 #[.slice a n c] w fun e w' => e = .returned (.string ⟨(47 :: j).toArray⟩) ∧ Below w.heap.size w w' := by
  go_enter Tryd.func36, Tryd.ntmps36
  go_wp2_with (go_at_call 53; refine hcon.out.mono ?_; rintro e w' ⟨rfl, hb⟩)
  go_ret
  refine ⟨?_, hb⟩
  exact congrArg (fun b => Ending.returned (.string b)) (str_cons 47 j)

/-- placed of a beginning of what Parse handed out. -/
theorem placed_any (bk c : Nat) (xs : List ByteArray) (w : World) (hl : xs.length ≤ 6) (hx : ∀ x ∈ xs, x.size ≤ 16) (hc : xs.length ≤ c) (hbk : bk < w.heap.size) (hcell : ∀ (j : Nat) x, xs[j]? = some x → w.cell? ⟨bk, j, none⟩ = some (.string x)) :
    Calls Tryd.prog 36 #[.slice (some ⟨bk, 0, none⟩) xs.length c] w fun e w' => e = .returned (.string ⟨(joined (xs.map (·.data.toList))).toArray⟩) ∧ Below w.heap.size w w' := by
  have hj : (Lib.join (xs.map (·.data.toList)) [47]).length ≤ 1000 := by
    have := join_len (xs.map (·.data.toList)) (fun y hy => by
      obtain ⟨x, hm, rfl⟩ := List.mem_map.1 hy
      have := hx x hm
      rw [toList_len]; exact this)
    rw [List.length_map] at this
    omega
  exact placed_core _ _ _ _ w hj (Tryd.strings_Join bk 0 c xs ⟨#[47]⟩ w (fun j x h => by rw [Nat.zero_add]; exact hcell j x h) hbk (by omega) hc (Nat.le_trans hj (by omega)))
/-! ### Parse, by its answer -/
theorem parse_none {s : ByteArray} {w : World} {c : Int} (he : Env w) (hs : s.size ≤ maxLen) (h : parse s.data.toList = ([], c)) :
    Calls Tryd.prog 16 #[.string s] w fun e w' => e = .returned (.tuple #[.slice none 0 0, .int .i64 c]) ∧ Below w.heap.size w w' :=
  (parse_any s w he hs).mono fun e w' ⟨v, h1, h2, h3⟩ => by
    rw [h] at h1 h2
    rcases h2 with ⟨_, rfl⟩ | ⟨h2, _⟩
    · exact ⟨h1, h3⟩
    · exact absurd rfl h2
theorem parse_list {s : ByteArray} {w : World} {l : List (List UInt8)} (he : Env w) (hs : s.size ≤ maxLen) (h : parse s.data.toList = (l, 0)) (hl : l ≠ []) :
    Calls Tryd.prog 16 #[.string s] w fun e w' => e = .returned (.tuple #[.slice (some ⟨w.heap.size, 0, none⟩) l.length l.length, .int .i64 0]) ∧ w.heap.size < w'.heap.size ∧ Below w.heap.size w w' ∧
      ∀ j x, l[j]? = some x → w'.cell? ⟨w.heap.size, j, none⟩ = some (.string ⟨x.toArray⟩) :=
  (parse_any s w he hs).mono fun e w' ⟨v, h1, h2, h3⟩ => by
    rw [h] at h1 h2
    rcases h2 with ⟨h2, _⟩ | ⟨_, xs, hm, rfl, hlt, hc⟩
    · exact absurd h2 hl
    · refine ⟨h1, hlt, h3, fun j x hj => ?_⟩
      have hm' : (xs.map (·.data.toList))[j]? = some x := by rw [hm]; exact hj
      rw [List.getElem?_map] at hm'
      obtain ⟨y, hy, rfl⟩ := Option.map_eq_some_iff.1 hm'
      exact hc j y hy

/-! ### Parent -/
theorem ret2_str {b : List UInt8} {c : Int} {p : List UInt8 × Int} (h : p = (b, c)) : Ending.returned (.tuple #[.string ⟨b.toArray⟩, .int .i64 c]) = .returned (.tuple #[.string ⟨p.1.toArray⟩, .int .i64 p.2]) := by rw [h]

def ParentPost (p : List UInt8 × Int) (w : World) (e : Ending) (w' : World) : Prop := e = .returned (.tuple #[.string ⟨p.1.toArray⟩, .int .i64 p.2]) ∧ Below w.heap.size w w'

set_option maxHeartbeats 400000 in
theorem parent_err (s : ByteArray) (w : World) (c : Int) (hc : (c != 0) = true) (p : List UInt8 × Int) (hp : Hid (p = ([], c))) (hcon : Hid (Calls Tryd.prog 16 #[.string s] w fun e w' => e = .returned (.tuple #[.slice none 0 0, .int .i64 c]) ∧ Below w.heap.size w w')) :
    Calls Tryd.prog 29 #[.string s] w fun e w' => ParentPost p w e w' := by
  go_enter Tryd.func29, Tryd.ntmps29
  go_wp2_with (go_at_call 16; refine hcon.out.mono ?_; rintro e w' ⟨rfl, hb⟩)
  refine bodyPost_ret (v := .tuple #[.string ⟨#[]⟩, .int .i64 c]) (by simp [results, Tryd.results29, go_sem]) rfl ?_
  exact ⟨ret2_str hp.out, hb⟩

set_option maxHeartbeats 400000 in
theorem parent_root (s : ByteArray) (w : World) (p : List UInt8 × Int) (hp : Hid (p = ([], 47))) (hcon : Hid (Calls Tryd.prog 16 #[.string s] w fun e w' => e = .returned (.tuple #[.slice none 0 0, .int .i64 0]) ∧ Below w.heap.size w w')) :
    Calls Tryd.prog 29 #[.string s] w fun e w' => ParentPost p w e w' := by
  go_enter Tryd.func29, Tryd.ntmps29
  go_wp2_with (go_at_call 16; refine hcon.out.mono ?_; rintro e w' ⟨rfl, hb⟩)
  refine bodyPost_ret (v := .tuple #[.string ⟨#[]⟩, .int .i64 47]) (by simp [results, Tryd.results29, go_sem]) rfl ?_
  exact ⟨ret2_str hp.out, hb⟩

set_option maxHeartbeats 400000 in
theorem parent_list (s : ByteArray) (w : World) (n : Nat) (hn : 1 ≤ n) (hn6 : n ≤ 6) (q : List UInt8) (p : List UInt8 × Int) (hp : Hid (p = (q, 0))) (T : World → Prop) (hcon : Hid (Calls Tryd.prog 16 #[.string s] w fun e w' => e = .returned (.tuple #[.slice (some ⟨w.heap.size, 0, none⟩) n n, .int .i64 0]) ∧ T w' ∧ Below w.heap.size w w'))
    (hpl : Hid (∀ W, T W → Below w.heap.size w W → Calls Tryd.prog 36 #[.slice (some ⟨w.heap.size, 0, none⟩) (n - 1) n] W fun e w' => e = .returned (.string ⟨q.toArray⟩) ∧ Below W.heap.size W w')) :
    Calls Tryd.prog 29 #[.string s] w fun e w' => ParentPost p w e w' := by
  go_enter Tryd.func29, Tryd.ntmps29
  go_wp2_with (first | (go_at_call 16; refine hcon.out.mono ?_; rintro e w1 ⟨rfl, ht, hb⟩) | fail)
  refine (hpl.out _ ht hb).mono ?_
  rintro e w2 ⟨rfl, hb2⟩
  go_wp2
  refine bodyPost_ret (v := .tuple #[.string ⟨q.toArray⟩, .int .i64 0]) (by simp [results, Tryd.results29, go_sem]) rfl ?_
  exact ⟨ret2_str hp.out, hb.trans (hb2.mono hb.size)⟩
theorem names_size {t : List UInt8} {l : List (List UInt8)} (h : (parse t).1 = l) : l.length ≤ 6 ∧ ∀ x ∈ l, x.length ≤ 16 := by
  have := parse_names t
  rw [h] at this
  exact ⟨this.1, fun x hx => (isName_len (this.2 x hx)).2⟩

theorem parent_any (s : ByteArray) (w : World) (he : Env w) (hs : s.size ≤ maxLen) :
    Calls Tryd.prog 29 #[.string s] w fun e w' => ParentPost (parent s.data.toList) w e w' := by
  by_cases h0 : (parse s.data.toList).2 = 0
  · by_cases h1 : (parse s.data.toList).1 = []
    · have hp : parse s.data.toList = ([], 0) := Prod.ext h1 h0
      exact parent_root s w _ (by show parent _ = _; unfold parent; rw [if_neg (by simp [h0]), if_pos h1]) (parse_none he hs hp)
    · have hp : parse s.data.toList = ((parse s.data.toList).1, 0) := Prod.ext rfl h0
      obtain ⟨h6, h16⟩ := names_size (t := s.data.toList) rfl
      generalize hl : (parse s.data.toList).1 = l at *
      have hn : 1 ≤ l.length := by
        cases l with
        | nil => exact absurd rfl h1
        | cons a l => simp
      refine parent_list s w l.length hn h6 (joined l.dropLast) _ (by show parent _ = _; unfold parent; rw [if_neg (by simp [h0]), if_neg (by rw [hl]; exact h1), hl]) (fun W => w.heap.size < W.heap.size ∧ ∀ j x, l[j]? = some x → W.cell? ⟨w.heap.size, j, none⟩ = some (.string ⟨x.toArray⟩))
        ((parse_list he hs hp h1).mono fun e w' ⟨a, b, c, d⟩ => ⟨a, ⟨b, d⟩, c⟩) (fun W hT hB => ?_)
      have hpl := placed_any w.heap.size l.length (l.dropLast.map fun x => ⟨x.toArray⟩) W (by simp; omega) (fun x hx => by
        obtain ⟨y, hy, rfl⟩ := List.mem_map.1 hx
        have := h16 y (List.dropLast_subset l hy)
        show y.toArray.size ≤ 16
        simpa using this) (by simp) hT.1 (fun j x hj => by
        rw [List.getElem?_map] at hj
        obtain ⟨y, hy, rfl⟩ := Option.map_eq_some_iff.1 hj
        refine hT.2 j y ?_
        rw [List.getElem?_dropLast] at hy
        split at hy
        · exact hy
        · cases hy)
      rw [List.length_map, List.length_dropLast] at hpl
      refine hpl.mono fun e w' ⟨h, hb⟩ => ⟨?_, hb⟩
      rw [h]
      refine ret_string ?_
      rw [List.map_map]
      have e : ((fun x : ByteArray => x.data.toList) ∘ fun x : List UInt8 => ByteArray.mk x.toArray) = id := by funext x; simp
      rw [e, List.map_id]
  · obtain ⟨c, hc⟩ : ∃ c, (parse s.data.toList).2 = c := ⟨_, rfl⟩
    have h1 : (parse s.data.toList).1 = [] := by
      rcases parse_cases s.data.toList with h | ⟨_, h⟩ | ⟨h, _⟩
      · exact h.2
      · rw [h] at h0; exact absurd rfl h0
      · rw [h] at h0; exact absurd rfl h0
    exact parent_err s w c (by rw [hc] at h0; simpa using h0) _ (by show parent _ = _; unfold parent; rw [if_pos h0, hc]) (parse_none he hs (Prod.ext h1 hc))
/-! ### Name -/
set_option maxHeartbeats 400000 in
theorem name_err (s : ByteArray) (w : World) (c : Int) (hc : (c != 0) = true) (p : List UInt8 × Int) (hp : Hid (p = ([], c))) (hcon : Hid (Calls Tryd.prog 16 #[.string s] w fun e w' => e = .returned (.tuple #[.slice none 0 0, .int .i64 c]) ∧ Below w.heap.size w w')) :
    Calls Tryd.prog 34 #[.string s] w fun e w' => ParentPost p w e w' := by
  go_enter Tryd.func34, Tryd.ntmps34
  go_wp2_with (go_at_call 16; refine hcon.out.mono ?_; rintro e w' ⟨rfl, hb⟩)
  refine bodyPost_ret (v := .tuple #[.string ⟨#[]⟩, .int .i64 c]) (by simp [results, Tryd.results34, go_sem]) rfl ?_
  exact ⟨ret2_str hp.out, hb⟩
set_option maxHeartbeats 400000 in
theorem name_root (s : ByteArray) (w : World) (p : List UInt8 × Int) (hp : Hid (p = ([], 0))) (hcon : Hid (Calls Tryd.prog 16 #[.string s] w fun e w' => e = .returned (.tuple #[.slice none 0 0, .int .i64 0]) ∧ Below w.heap.size w w')) :
    Calls Tryd.prog 34 #[.string s] w fun e w' => ParentPost p w e w' := by
  go_enter Tryd.func34, Tryd.ntmps34
  go_wp2_with (go_at_call 16; refine hcon.out.mono ?_; rintro e w' ⟨rfl, hb⟩)
  refine bodyPost_ret (v := .tuple #[.string ⟨#[]⟩, .int .i64 0]) (by simp [results, Tryd.results34, go_sem]) rfl ?_
  exact ⟨ret2_str hp.out, hb⟩
theorem clone_any (s : ByteArray) (w : World) (h : s.size ≤ 281474976710656) : Calls Tryd.prog 52 #[.string s] w fun e w' => e = .returned (.string s) ∧ Below w.heap.size w w' := by
  have hcon := Lib.hid (Tryd.stringslite_Clone s w h)
  go_enter Tryd.func52, Tryd.ntmps52
  go_wp2_with (go_at_call 66; refine hcon.out.mono ?_; rintro e w' ⟨rfl, hb⟩)
  go_ret
  exact ⟨rfl, hb⟩
set_option maxHeartbeats 400000 in
theorem name_list (s : ByteArray) (w : World) (n : Nat) (hn : 1 ≤ n) (hn6 : n ≤ 6) (q : List UInt8) (hq : q.length ≤ 16) (p : List UInt8 × Int) (hp : Hid (p = (q, 0))) (hcon : Hid (Calls Tryd.prog 16 #[.string s] w fun e w' => e = .returned (.tuple #[.slice (some ⟨w.heap.size, 0, none⟩) n n, .int .i64 0]) ∧ w'.cell? ⟨w.heap.size, n - 1, none⟩ = some (.string ⟨q.toArray⟩) ∧ Below w.heap.size w w')) :
    Calls Tryd.prog 34 #[.string s] w fun e w' => ParentPost p w e w' := by
  have hcl : Hid (∀ W, Calls Tryd.prog 52 #[.string ⟨q.toArray⟩] W fun e w' => e = .returned (.string ⟨q.toArray⟩) ∧ Below W.heap.size W w') := fun W => clone_any _ W (by show q.toArray.size ≤ _; simp; omega)
  go_enter Tryd.func34, Tryd.ntmps34
  go_wp2_with (first | (go_at_call 16; refine hcon.out.mono ?_; rintro e w1 ⟨rfl, ht, hb⟩) | fail)
  refine (hcl.out _).mono ?_
  rintro e w2 ⟨rfl, hb2⟩
  go_wp2
  refine bodyPost_ret (v := .tuple #[.string ⟨q.toArray⟩, .int .i64 0]) (by simp [results, Tryd.results34, go_sem]) rfl ?_
  exact ⟨ret2_str hp.out, hb.trans (hb2.mono hb.size)⟩
theorem parse_err {t : List UInt8} (h0 : (parse t).2 ≠ 0) : (parse t).1 = [] := by
  rcases parse_cases t with h | ⟨_, h⟩ | ⟨h, _⟩
  · exact h.2
  · rw [h] at h0; exact absurd rfl h0
  · rw [h] at h0; exact absurd rfl h0
theorem name_any (s : ByteArray) (w : World) (he : Env w) (hs : s.size ≤ maxLen) :
    Calls Tryd.prog 34 #[.string s] w fun e w' => ParentPost (nameOf s.data.toList) w e w' := by
  by_cases h0 : (parse s.data.toList).2 = 0
  · by_cases h1 : (parse s.data.toList).1 = []
    · exact name_root s w _ (by show nameOf _ = _; unfold nameOf; rw [if_neg (by simp [h0]), h1]; rfl) (parse_none he hs (Prod.ext h1 h0))
    · have hp : parse s.data.toList = ((parse s.data.toList).1, 0) := Prod.ext rfl h0
      obtain ⟨h6, h16⟩ := names_size (t := s.data.toList) rfl
      generalize hl : (parse s.data.toList).1 = l at *
      have hn : 1 ≤ l.length := by
        cases l with
        | nil => exact absurd rfl h1
        | cons a l => simp
      have hq : l[l.length - 1]? = some (l.getLast?.getD []) := by rw [← List.getLast?_eq_getElem?, List.getLast?_eq_some_getLast h1]; rfl
      exact name_list s w l.length hn h6 (l.getLast?.getD []) (h16 _ (List.mem_of_getElem? hq)) _ (by show nameOf _ = _; unfold nameOf; rw [if_neg (by simp [h0]), hl])
        ((parse_list he hs hp h1).mono fun e w' ⟨a, b, c, d⟩ => ⟨a, d _ _ hq, c⟩)
  · obtain ⟨c, hc⟩ : ∃ c, (parse s.data.toList).2 = c := ⟨_, rfl⟩
    exact name_err s w c (by rw [hc] at h0; simpa using h0) _ (by show nameOf _ = _; unfold nameOf; rw [if_pos h0, hc]) (parse_none he hs (Prod.ext (parse_err h0) hc))
end Go.Proofs.YtpmlfpmedbccaaaDoor
