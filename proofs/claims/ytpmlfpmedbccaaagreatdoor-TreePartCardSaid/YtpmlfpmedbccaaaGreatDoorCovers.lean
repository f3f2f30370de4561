/- The walks of package place, last part: begins, Covers. -/
import Derived.Test.YtpmlfpmedbccaaaGreatDoorPlaceLast
namespace Go.Proofs.YtpmlfpmedbccaaaGreatDoor
open Go.RowKit
open Go.Sort (grow)
/-! ### begins -/
/-- A list of names in memory: a slice of n strings. -/
def Strs (w : World) (a : Option Addr) (l : List (List UInt8)) : Prop := l ≠ [] → ∃ b, a = some ⟨b, 0, none⟩ ∧ ∀ (j : Nat) x, l[j]? = some x → w.cell? ⟨b, j, none⟩ = some (.string ⟨x.toArray⟩)
def BeginTo (c w : List (List UInt8)) (k : Nat) : Prop := c.take k = w.take k
theorem begins_yes {c w : List (List UInt8)} (h : BeginTo c w w.length) : begins c w = true := by
  unfold begins
  rw [List.isPrefixOf_iff_prefix, List.prefix_iff_eq_take]
  unfold BeginTo at h
  rw [h, List.take_length]
theorem begins_no {c w : List (List UInt8)} {k : Nat} {x y : List UInt8} (hx : c[k]? = some x) (hy : w[k]? = some y) (hne : x ≠ y) : begins c w = false := by
  cases h : begins c w
  · rfl
  · unfold begins at h
    rw [List.isPrefixOf_iff_prefix] at h
    obtain ⟨t, rfl⟩ := h
    rw [List.getElem?_append_left (List.getElem?_eq_some_iff.1 hy).1] at hx
    rw [hx] at hy
    cases hy
    exact absurd rfl hne
theorem begins_short {c w : List (List UInt8)} (h : c.length < w.length) : begins c w = false := by
  cases hb : begins c w
  · rfl
  · unfold begins at hb
    rw [List.isPrefixOf_iff_prefix] at hb
    have := hb.length_le
    omega
theorem begin_next {c w : List (List UInt8)} {k : Nat} {x : List UInt8} (h : BeginTo c w k) (hx : c[k]? = some x) (hy : w[k]? = some x) : BeginTo c w (k + 1) := by
  unfold BeginTo at h ⊢
  rw [List.take_add_one, List.take_add_one, h, hx, hy]

theorem mk_toList (x : List UInt8) : (ByteArray.mk x.toArray).toList = x := by rw [ByteArray.toList_eq]

set_option maxHeartbeats 400000 in
theorem begins_core (b1 b2 n m c1 c2 : Nat) (C W : List (List UInt8)) (w : World) (hn : Hid (n = C.length)) (hm : Hid (m = W.length)) (_h1 : n ≤ 6) (h2 : m ≤ 6) (r : Bool) (hr : Hid (begins C W = r))
    (hc : Hid (∀ (j : Nat) x, C[j]? = some x → w.cell? ⟨b1, j, none⟩ = some (.string ⟨x.toArray⟩))) (hw : Hid (∀ (j : Nat) x, W[j]? = some x → w.cell? ⟨b2, j, none⟩ = some (.string ⟨x.toArray⟩))) :
    Calls Tryz.prog 75 #[.slice (some ⟨b1, 0, none⟩) n c1, .slice (some ⟨b2, 0, none⟩) m c2] w fun e w' => e = .returned (.bool r) ∧ w = w' := by
  by_cases hlt : n < m
  · have hf : false = r := by rw [← hr.out]; exact (begins_short (by rw [← hn.out, ← hm.out]; exact hlt)).symm
    have HF := Lib.hid hf
    clear hf
    go_enter Tryz.func75, Tryz.ntmps75
    go_wp2
    go_ret
    exact ⟨ret_bool HF.out, rfl⟩
  go_enter Tryz.func75, Tryz.ntmps75
  go_wp2
  go_loopw [5, 6, 14] (fun _ _ i wr => ∃ k : Nat, k ≤ m ∧ i = .int .i64 k ∧ BeginTo C W k ∧ Same w wr) (fun _ _ i _ => m - (intOf i).toNat)
  case atStart => exact ⟨0, by omega, rfl, rfl, rfl⟩
  case round =>
    obtain ⟨k, hk, rfl, hall, rfl⟩ := hrel
    have HA := Lib.hid hall
    clear hall
    by_cases hkm : k < m
    · obtain ⟨x, hx⟩ : ∃ x, C[k]? = some x := ⟨_, List.getElem?_eq_getElem (by rw [← hn.out]; omega)⟩
      obtain ⟨y, hy⟩ : ∃ y, W[k]? = some y := ⟨_, List.getElem?_eq_getElem (by rw [← hm.out]; omega)⟩
      have hcx := hc.out k x hx
      have hcy := hw.out k y hy
      have HX := Lib.hid hx
      have HY := Lib.hid hy
      clear hx hy
      by_cases hxy : x = y
      · subst hxy
        go_wp2
        go_roundw
        case rel => exact ⟨k + 1, by omega, by go_num, begin_next HA.out HX.out HY.out, rfl⟩
        case measure => simp [intOf]; omega
      · have hne : (x == y) = false := by simpa using hxy
        have HF := Lib.hid (begins_no HX.out HY.out hxy)
        go_wp2
        go_ret
        exact ⟨ret_bool (by rw [← hr.out]; exact HF.out.symm), rfl⟩
    · go_wp2
      go_ret
      obtain rfl : k = m := by omega
      exact ⟨ret_bool (by rw [← hr.out]; exact (begins_yes (by rw [← hm.out]; exact HA.out)).symm), rfl⟩
set_option maxHeartbeats 400000 in
theorem begins_zero (a1 a2 : Option Addr) (n c1 c2 : Nat) (w : World) (_h1 : n ≤ 6) :
    Calls Tryz.prog 75 #[.slice a1 n c1, .slice a2 0 c2] w fun e w' => e = .returned (.bool true) ∧ w = w' := by
  go_enter Tryz.func75, Tryz.ntmps75
  go_wp2
  go_loopw [5, 6, 14] (fun _ _ i wr => i = .int .i64 0 ∧ Same w wr) (fun _ _ _ _ => 0)
  case atStart => exact ⟨rfl, rfl⟩
  case round =>
    obtain ⟨rfl, rfl⟩ := hrel
    go_wp2
    go_ret
    exact ⟨rfl, rfl⟩
set_option maxHeartbeats 400000 in
theorem begins_less (a1 a2 : Option Addr) (n m c1 c2 : Nat) (w : World) (h : n < m) :
    Calls Tryz.prog 75 #[.slice a1 n c1, .slice a2 m c2] w fun e w' => e = .returned (.bool false) ∧ w = w' := by
  go_enter Tryz.func75, Tryz.ntmps75
  go_wp2
  go_ret
  exact ⟨rfl, rfl⟩
theorem begins_any (a1 a2 : Option Addr) (c1 c2 : Nat) (C W : List (List UInt8)) (w : World) (h1 : C.length ≤ 6) (h2 : W.length ≤ 6) (hc : Strs w a1 C) (hw : Strs w a2 W) :
    Calls Tryz.prog 75 #[.slice a1 C.length c1, .slice a2 W.length c2] w fun e w' => e = .returned (.bool (begins C W)) ∧ w = w' := by
  rcases Nat.lt_or_ge C.length W.length with h | h
  · rw [begins_short h]
    exact begins_less _ _ _ _ _ _ _ h
  · by_cases h0 : W = []
    · subst h0
      exact begins_zero _ _ _ _ _ _ h1
    · have h3 : C ≠ [] := by
        rintro rfl
        have := List.length_pos_iff.2 h0
        simp at h
        exact h0 h
      obtain ⟨b1, rfl, hc'⟩ := hc h3
      obtain ⟨b2, rfl, hw'⟩ := hw h0
      exact begins_core b1 b2 _ _ c1 c2 C W w rfl rfl h1 h2 _ rfl hc' hw'

/-! ### Covers -/
theorem parse_strs (s : ByteArray) (w : World) (he : Env w) (hs : s.size ≤ maxLen) (l : List (List UInt8)) (c : Int) (h : parse s.data.toList = (l, c)) :
    Calls Tryz.prog 32 #[.string s] w fun e w' => ∃ a, e = .returned (.tuple #[.slice a l.length l.length, .int .i64 c]) ∧ Strs w' a l ∧ Below w.heap.size w w' :=
  (parse_any s w he hs).mono fun e w' ⟨v, h1, h2, h3⟩ => by
    rw [h] at h1 h2
    rcases h2 with ⟨h2, rfl⟩ | ⟨h2, xs, hm, rfl, hlt, hcl⟩
    · simp only at h1 h2
      subst h2
      exact ⟨_, h1, fun h => absurd rfl h, h3⟩
    · refine ⟨_, h1, fun _ => ⟨_, rfl, fun j x hj => ?_⟩, h3⟩
      have hm' : (xs.map (·.data.toList))[j]? = some x := by rw [hm]; exact hj
      rw [List.getElem?_map] at hm'
      obtain ⟨y, hy, rfl⟩ := Option.map_eq_some_iff.1 hm'
      exact hcl j y hy
theorem Strs.below {w w' : World} {a : Option Addr} {l : List (List UInt8)} (h : Strs w a l) (hb : Below w.heap.size w w') : Strs w' a l := fun hl => by
  obtain ⟨b, rfl, hc⟩ := h hl
  exact ⟨b, rfl, fun j x hj => (hb.cell (World.block_lt_of_cell? w _ (hc j x hj))).trans (hc j x hj)⟩
def CoversPost (r : Bool) (w : World) (e : Ending) (w' : World) : Prop := e = .returned (.bool r) ∧ Below w.heap.size w w'

set_option maxHeartbeats 400000 in
theorem covers_bad (kind change : Int) (s t : ByteArray) (w : World) (n m : Nat) (c1 c2 : Int)
    (hbad : ((c1 != 0) = true) ∨ ((c1 != 0) = false ∧ (c2 != 0) = true) ∨ ((c1 != 0) = false ∧ (c2 != 0) = false ∧ change < 1) ∨ ((c1 != 0) = false ∧ (c2 != 0) = false ∧ 1 ≤ change ∧ 3 < change))
    (hp1 : Hid (Calls Tryz.prog 32 #[.string s] w fun e w' => ∃ a, e = .returned (.tuple #[.slice a n n, .int .i64 c1]) ∧ Below w.heap.size w w'))
    (hp2 : Hid (∀ W, Below w.heap.size w W → Calls Tryz.prog 32 #[.string t] W fun e w' => ∃ a, e = .returned (.tuple #[.slice a m m, .int .i64 c2]) ∧ Below W.heap.size W w')) :
    Calls Tryz.prog 34 #[.int .i64 kind, .string s, .int .i64 change, .string t] w fun e w' => CoversPost false w e w' := by
  rcases hbad with h | ⟨h1, h⟩ | ⟨h1, h2, h⟩ | ⟨h1, h2, h3, h⟩
  all_goals
    go_enter Tryz.func34, Tryz.ntmps34
    go_wp2_with fail
    refine hp1.out.mono ?_
    rintro e w1 ⟨a1, rfl, hb1⟩
    go_wp2_with fail
    refine (hp2.out _ hb1).mono ?_
    rintro e w2 ⟨a2, rfl, hb2⟩
    go_wp2_with fail
    go_ret
    exact ⟨rfl, hb1.trans (hb2.mono hb1.size)⟩

theorem int_beq (n m : Nat) : ((n : Int) == (m : Int)) = (n == m) := by
  rw [Bool.eq_iff_iff, beq_iff_eq, beq_iff_eq]
  exact Int.ofNat_inj
def CoverEnd (kind change : Int) (n m : Nat) : Bool := if kind = 1 then n == m else if kind = 2 then change != 2 && decide (n ≤ m + 1) else kind == 3
set_option maxHeartbeats 400000 in
theorem covers_good (kind change : Int) (s t : ByteArray) (w : World) (n m : Nat) (c1 c2 : Int) (T : World → Option Addr → Prop) (U : World → Option Addr → Option Addr → Prop) (h1 : (c1 != 0) = false) (h2 : (c2 != 0) = false) (hc1 : 1 ≤ change) (hc3 : change ≤ 3) (_hn : n ≤ 6) (hm : m ≤ 6) (b r : Bool)
    (hr : Hid ((if b = true then CoverEnd kind change n m else false) = r))
    (hp1 : Hid (Calls Tryz.prog 32 #[.string s] w fun e w' => ∃ a, e = .returned (.tuple #[.slice a m m, .int .i64 c1]) ∧ T w' a ∧ Below w.heap.size w w'))
    (hp2 : Hid (∀ W a1, T W a1 → Below w.heap.size w W → Calls Tryz.prog 32 #[.string t] W fun e w' => ∃ a, e = .returned (.tuple #[.slice a n n, .int .i64 c2]) ∧ U w' a1 a ∧ Below W.heap.size W w'))
    (hbg : Hid (∀ W a1 a2, U W a1 a2 → Calls Tryz.prog 75 #[.slice a2 n n, .slice a1 m m] W fun e w' => e = .returned (.bool b) ∧ W = w')) :
    Calls Tryz.prog 34 #[.int .i64 kind, .string s, .int .i64 change, .string t] w fun e w' => CoversPost r w e w' := by
  cases b with
  | false =>
    go_enter Tryz.func34, Tryz.ntmps34
    go_wp2_with fail
    refine hp1.out.mono ?_
    rintro e w1 ⟨a1, rfl, ht, hb1⟩
    go_wp2_with fail
    refine (hp2.out _ _ ht hb1).mono ?_
    rintro e w2 ⟨a2, rfl, hu, hb2⟩
    go_wp2_with fail
    refine (hbg.out _ _ _ hu).mono ?_
    rintro e w3 ⟨rfl, rfl⟩
    go_wp2
    go_ret
    exact ⟨ret_bool (by rw [← hr.out]; rfl), hb1.trans (hb2.mono hb1.size)⟩
  | true =>
    have hf : r = CoverEnd kind change n m := by rw [← hr.out, if_pos rfl]
    have HF := Lib.hid hf
    clear hr hf
    go_enter Tryz.func34, Tryz.ntmps34
    go_wp2_with fail
    refine hp1.out.mono ?_
    rintro e w1 ⟨a1, rfl, ht, hb1⟩
    go_wp2_with fail
    refine (hp2.out _ _ ht hb1).mono ?_
    rintro e w2 ⟨a2, rfl, hu, hb2⟩
    go_wp2_with fail
    refine (hbg.out _ _ _ hu).mono ?_
    rintro e w3 ⟨rfl, rfl⟩
    go_wp2
    · have hk : (kind == 1) = true := by assumption
      go_ret
      refine ⟨ret_bool ?_, hb1.trans (hb2.mono hb1.size)⟩
      rw [HF.out]
      unfold CoverEnd
      rw [if_pos (by simpa using hk)]
      exact int_beq n m
    · have hk1 : (kind == 1) = false := by assumption
      have hk : (kind == 2) = true := by assumption
      have hc : change = 2 := by assumption
      go_ret
      refine ⟨ret_bool ?_, hb1.trans (hb2.mono hb1.size)⟩
      rw [HF.out]
      unfold CoverEnd
      rw [if_neg (by simpa using hk1), if_pos (by simpa using hk), hc]
      rfl
    · have hk1 : (kind == 1) = false := by assumption
      have hk : (kind == 2) = true := by assumption
      go_ret
      refine ⟨ret_bool ?_, hb1.trans (hb2.mono hb1.size)⟩
      rw [HF.out]
      unfold CoverEnd
      rw [if_neg (by simpa using hk1), if_pos (by simpa using hk)]
      congr 1
      exact decide_eq_decide.2 (by omega)
    · have hk1 : (kind == 1) = false := by assumption
      have hk2 : (kind == 2) = false := by assumption
      have hk : (kind == 3) = true := by assumption
      go_ret
      refine ⟨ret_bool ?_, hb1.trans (hb2.mono hb1.size)⟩
      rw [HF.out]
      unfold CoverEnd
      rw [if_neg (by simpa using hk1), if_neg (by simpa using hk2), hk]
    · have hk1 : (kind == 1) = false := by assumption
      have hk2 : (kind == 2) = false := by assumption
      have hk : (kind == 3) = false := by assumption
      go_ret
      refine ⟨ret_bool ?_, hb1.trans (hb2.mono hb1.size)⟩
      rw [HF.out]
      unfold CoverEnd
      rw [if_neg (by simpa using hk1), if_neg (by simpa using hk2), hk]

theorem covers_any (kind change : Int) (s t : ByteArray) (w : World) (he : Env w) (hs : s.size ≤ maxLen) (ht : t.size ≤ maxLen) :
    Calls Tryz.prog 34 #[.int .i64 kind, .string s, .int .i64 change, .string t] w fun e w' => CoversPost (covers kind s.data.toList change t.data.toList) w e w' := by
  have n1 := names_size (t := s.data.toList) rfl
  have n2 := names_size (t := t.data.toList) rfl
  obtain ⟨W, c1, hW⟩ : ∃ W c1, parse s.data.toList = (W, c1) := ⟨_, _, rfl⟩
  obtain ⟨C, c2, hC⟩ : ∃ C c2, parse t.data.toList = (C, c2) := ⟨_, _, rfl⟩
  have hcv : covers kind s.data.toList change t.data.toList = if c1 ≠ 0 ∨ c2 ≠ 0 ∨ change < 1 ∨ 3 < change ∨ begins C W = false then false else CoverEnd kind change C.length W.length := by
    unfold covers CoverEnd
    rw [hW, hC]
  rw [hcv]
  rw [hW] at n1
  rw [hC] at n2
  by_cases h : c1 ≠ 0 ∨ c2 ≠ 0 ∨ change < 1 ∨ 3 < change
  · rw [if_pos (by rcases h with h | h | h | h <;> simp [h])]
    refine covers_bad kind change s t w W.length C.length c1 c2 ?_ ((parse_strs s w he hs W c1 hW).mono fun e w' ⟨a, h1, _, h2⟩ => ⟨a, h1, h2⟩) (fun X hb => (parse_strs t X (he.after hb) ht C c2 hC).mono fun e w' ⟨a, h1, _, h2⟩ => ⟨a, h1, h2⟩)
    by_cases e1 : c1 = 0
    · by_cases e2 : c2 = 0
      · by_cases e3 : change < 1
        · exact .inr (.inr (.inl ⟨by simp [e1], by simp [e2], e3⟩))
        · exact .inr (.inr (.inr ⟨by simp [e1], by simp [e2], by omega, by omega⟩))
      · exact .inr (.inl ⟨by simp [e1], by simpa using e2⟩)
    · exact .inl (by simpa using e1)
  · have e1 : c1 = 0 := by simp only [not_or] at h; omega
    have e2 : c2 = 0 := by simp only [not_or] at h; omega
    refine covers_good kind change s t w C.length W.length c1 c2 (fun w' a => Strs w' a W) (fun w' a1 a2 => Strs w' a1 W ∧ Strs w' a2 C) (by simp [e1]) (by simp [e2]) (by omega) (by omega) n2.1 n1.1 (begins C W) _ ?_ (parse_strs s w he hs W c1 hW)
      (fun X a1 hT hb => (parse_strs t X (he.after hb) ht C c2 hC).mono fun e w' ⟨a, h1, h2, h3⟩ => ⟨a, h1, ⟨hT.below h3, h2⟩, h3⟩)
      (fun X a1 a2 hU => begins_any a2 a1 _ _ C W X n2.1 n1.1 hU.2 hU.1)
    show (if begins C W = true then CoverEnd kind change C.length W.length else false) = _
    simp only [not_or] at h
    cases hbg : begins C W
    · rw [if_neg (by simp), if_pos (by simp)]
    · rw [if_pos rfl, if_neg (by simp [e1, e2]; omega)]
end Go.Proofs.YtpmlfpmedbccaaaGreatDoor
