/- The walks of package place, third part: Counted. -/
import Derived.Test.YtpmlfpmedbccaaaDoorPlaceMore
namespace Go.Proofs.YtpmlfpmedbccaaaDoor
open Go.RowKit
open Go.Sort (grow)
theorem itoa_any (k : Int) (w : World) (he : Env w) (h0 : 0 ≤ k) (h1 : k ≤ 99999) : Calls Tryd.prog 37 #[.int .i64 k] w fun e w' => e = .returned (.string ⟨(Lib.itoa k).toArray⟩) ∧ Below w.heap.size w w' :=
  (Tryd.strconv_Itoa k (by omega) (by omega) w he.pw).mono fun e w' ⟨h, n, os, hw⟩ => ⟨h, by rw [hw]; exact Lib.below_grow _ w (Nat.le_refl _) n os⟩
theorem zeros_any (m : Nat) (w : World) (hm : m ≤ 5) : Calls Tryd.prog 38 #[.string ⟨#[48]⟩, .int .i64 m] w fun e w' => e = .returned (.string ⟨(List.replicate m 48).toArray⟩) ∧ Below w.heap.size w w' :=
  (Tryd.strings_Repeat ⟨#[48]⟩ m w (by omega) (by show 1 * m ≤ _; omega)).mono fun e w' ⟨h, hb⟩ => ⟨by
    rw [h]
    have := Lib.repeatL_replicate 48 1 m
    rw [Nat.mul_one] at this
    exact congrArg (fun l : List UInt8 => Ending.returned (.string ⟨l.toArray⟩)) this, hb⟩

set_option maxHeartbeats 400000 in
theorem counted_err (s : ByteArray) (k : Int) (w : World) (c : Int) (hc : (c != 0) = true) (p : List UInt8 × Int) (hp : Hid (p = ([], c))) (hcon : Hid (Calls Tryd.prog 16 #[.string s] w fun e w' => e = .returned (.tuple #[.slice none 0 0, .int .i64 c]) ∧ Below w.heap.size w w')) :
    Calls Tryd.prog 21 #[.string s, .int .i64 k] w fun e w' => ParentPost p w e w' := by
  go_enter Tryd.func21, Tryd.ntmps21
  go_wp2_with (go_at_call 16; refine hcon.out.mono ?_; rintro e w' ⟨rfl, hb⟩)
  refine bodyPost_ret (v := .tuple #[.string ⟨#[]⟩, .int .i64 c]) (by simp [results, Tryd.results21, go_sem]) rfl ?_
  exact ⟨ret2_str hp.out, hb⟩
set_option maxHeartbeats 400000 in
theorem counted_root (s : ByteArray) (k : Int) (w : World) (p : List UInt8 × Int) (hp : Hid (p = ([], 47))) (hcon : Hid (Calls Tryd.prog 16 #[.string s] w fun e w' => e = .returned (.tuple #[.slice none 0 0, .int .i64 0]) ∧ Below w.heap.size w w')) :
    Calls Tryd.prog 21 #[.string s, .int .i64 k] w fun e w' => ParentPost p w e w' := by
  go_enter Tryd.func21, Tryd.ntmps21
  go_wp2_with (go_at_call 16; refine hcon.out.mono ?_; rintro e w' ⟨rfl, hb⟩)
  refine bodyPost_ret (v := .tuple #[.string ⟨#[]⟩, .int .i64 47]) (by simp [results, Tryd.results21, go_sem]) rfl ?_
  exact ⟨ret2_str hp.out, hb⟩
set_option maxHeartbeats 400000 in
theorem counted_list (s : ByteArray) (k : Int) (w : World) (n : Nat) (hn : 1 ≤ n) (hn6 : n ≤ 6) (q : ByteArray) (hs : s.size ≤ 102) (p : List UInt8 × Int) (d : List UInt8) (hd : d.length ≤ 5)
    (hp1 : Hid (11 < q.size → p = ([], 10))) (hp2 : Hid (q.size ≤ 11 → (k < 0 ∨ 99999 < k) → p = ([], 1))) (hp3 : Hid (q.size ≤ 11 → 0 ≤ k → k ≤ 99999 → p = (s.data.toList ++ (List.replicate (5 - d.length) 48 ++ d), 0)))
    (hcon : Hid (Calls Tryd.prog 16 #[.string s] w fun e w' => e = .returned (.tuple #[.slice (some ⟨w.heap.size, 0, none⟩) n n, .int .i64 0]) ∧ w'.cell? ⟨w.heap.size, n - 1, none⟩ = some (.string q) ∧ Below w.heap.size w w'))
    (hit : Hid (∀ W, Below w.heap.size w W → 0 ≤ k → k ≤ 99999 → Calls Tryd.prog 37 #[.int .i64 k] W fun e w' => e = .returned (.string ⟨d.toArray⟩) ∧ Below W.heap.size W w')) :
    Calls Tryd.prog 21 #[.string s, .int .i64 k] w fun e w' => ParentPost p w e w' := by
  have hz : Hid (∀ W, Calls Tryd.prog 38 #[.string ⟨#[48]⟩, .int .i64 (5 - (d.length : Int))] W fun e w' => e = .returned (.string ⟨(List.replicate (5 - d.length) 48).toArray⟩) ∧ Below W.heap.size W w') := fun W => by
    have := zeros_any (5 - d.length) W (by omega)
    have e : ((5 - d.length : Nat) : Int) = 5 - (d.length : Int) := by omega
    rw [e] at this
    exact this
  by_cases hlong : 11 < q.size
  · go_enter Tryd.func21, Tryd.ntmps21
    go_wp2_with (go_at_call 16; refine hcon.out.mono ?_; rintro e w' ⟨rfl, ht, hb⟩)
    refine bodyPost_ret (v := .tuple #[.string ⟨#[]⟩, .int .i64 10]) (by simp [results, Tryd.results21, go_sem]) rfl ?_
    exact ⟨ret2_str (hp1.out hlong), hb⟩
  by_cases hneg : k < 0
  · go_enter Tryd.func21, Tryd.ntmps21
    go_wp2_with (go_at_call 16; refine hcon.out.mono ?_; rintro e w' ⟨rfl, ht, hb⟩)
    refine bodyPost_ret (v := .tuple #[.string ⟨#[]⟩, .int .i64 1]) (by simp [results, Tryd.results21, go_sem]) rfl ?_
    exact ⟨ret2_str (hp2.out (by omega) (.inl hneg)), hb⟩
  by_cases hbig : 99999 < k
  · have hneg' : decide (k < 0) = false := by simpa using hneg
    go_enter Tryd.func21, Tryd.ntmps21
    go_wp2_with (go_at_call 16; refine hcon.out.mono ?_; rintro e w' ⟨rfl, ht, hb⟩)
    refine bodyPost_ret (v := .tuple #[.string ⟨#[]⟩, .int .i64 1]) (by simp [results, Tryd.results21, go_sem]) rfl ?_
    exact ⟨ret2_str (hp2.out (by omega) (.inr hbig)), hb⟩
  have h0 : 0 ≤ k := by omega
  have h1 : k ≤ 99999 := by omega
  have h11 : q.size ≤ 11 := by omega
  clear hlong hneg hbig
  go_enter Tryd.func21, Tryd.ntmps21
  go_wp2_with (first | (go_at_call 16; refine hcon.out.mono ?_; rintro e w1 ⟨rfl, ht, hb⟩) | fail)
  refine (hit.out _ hb h0 h1).mono ?_
  rintro e w2 ⟨rfl, hb2⟩
  go_wp2_with fail
  refine (hz.out _).mono ?_
  rintro e w3 ⟨rfl, hb3⟩
  go_wp2
  refine bodyPost_ret (v := .tuple #[.string (s ++ ⟨Array.replicate (5 - d.length) 48⟩ ++ ⟨d.toArray⟩), .int .i64 0]) (by simp [results, Tryd.results21, go_sem]) rfl ?_
  refine ⟨?_, (hb.trans (hb2.mono hb.size)).trans (hb3.mono (Nat.le_trans hb.size hb2.size))⟩
  rw [hp3.out h11 h0 h1]
  have e : (s ++ ⟨Array.replicate (5 - d.length) 48⟩ ++ ⟨d.toArray⟩ : ByteArray) = ⟨(s.data.toList ++ (List.replicate (5 - d.length) 48 ++ d)).toArray⟩ := by
    apply ByteArray.ext
    simp [← List.append_assoc]
  rw [e]

theorem counted_any (s : ByteArray) (k : Int) (w : World) (he : Env w) (hs : s.size ≤ maxLen) :
    Calls Tryd.prog 21 #[.string s, .int .i64 k] w fun e w' => ParentPost (counted s.data.toList k) w e w' := by
  by_cases h0 : (parse s.data.toList).2 = 0
  · by_cases h1 : (parse s.data.toList).1 = []
    · exact counted_root s k w _ (by show counted _ _ = _; unfold counted; rw [if_neg (by simp [h0]), if_pos h1]) (parse_none he hs (Prod.ext h1 h0))
    · have hp : parse s.data.toList = ((parse s.data.toList).1, 0) := Prod.ext rfl h0
      obtain ⟨h6, h16⟩ := names_size (t := s.data.toList) rfl
      have hs2 : s.size ≤ 102 := by
        rcases parse_cases s.data.toList with ⟨h, _⟩ | ⟨h, h2⟩ | ⟨_, h, _⟩
        · exact absurd h0 h
        · rw [h2] at h1; exact absurd rfl h1
        · rw [toList_len] at h; exact h
      have hcd : counted s.data.toList k = if 11 < ((parse s.data.toList).1.getLast?.getD []).length then ([], 10) else if k < 0 ∨ 99999 < k then ([], 1) else (s.data.toList ++ (List.replicate (5 - (Lib.itoa k).length) 48 ++ Lib.itoa k), 0) := by
        unfold counted
        rw [if_neg (by simp [h0]), if_neg h1]
      generalize hl : (parse s.data.toList).1 = l at *
      have hn : 1 ≤ l.length := by
        cases l with
        | nil => exact absurd rfl h1
        | cons a l => simp
      have hq : l[l.length - 1]? = some (l.getLast?.getD []) := by rw [← List.getLast?_eq_getElem?, List.getLast?_eq_some_getLast h1]; rfl
      generalize l.getLast?.getD [] = q at hq hcd
      have hqs : (ByteArray.mk q.toArray).size = q.length := by show q.toArray.size = _; simp
      by_cases hk : 0 ≤ k ∧ k ≤ 99999
      · refine counted_list s k w l.length hn h6 ⟨q.toArray⟩ hs2 _ (Lib.itoa k) (itoa_len hk.1 hk.2) ?_ ?_ ?_ ((parse_list he hs hp h1).mono fun e w' ⟨a, b, c, d⟩ => ⟨a, d _ _ hq, c⟩) (fun W hb _ _ => itoa_any k W (he.after hb) hk.1 hk.2)
        · intro h; rw [hcd, if_pos (by omega)]
        · intro h1 h2; rw [hcd, if_neg (by omega), if_pos h2]
        · intro h1 h2 h3; rw [hcd, if_neg (by omega), if_neg (by omega)]
      · refine counted_list s k w l.length hn h6 ⟨q.toArray⟩ hs2 _ [] (by simp) ?_ ?_ ?_ ((parse_list he hs hp h1).mono fun e w' ⟨a, b, c, d⟩ => ⟨a, d _ _ hq, c⟩) (fun W _ h0 h1 => absurd ⟨h0, h1⟩ hk)
        · intro h; rw [hcd, if_pos (by omega)]
        · intro h1 h2; rw [hcd, if_neg (by omega), if_pos h2]
        · intro h1 h2 h3; exact absurd ⟨h2, h3⟩ hk
  · obtain ⟨c, hc⟩ : ∃ c, (parse s.data.toList).2 = c := ⟨_, rfl⟩
    exact counted_err s k w c (by rw [hc] at h0; simpa using h0) _ (by show counted _ _ = _; unfold counted; rw [if_pos h0, hc]) (parse_none he hs (Prod.ext (parse_err h0) hc))

end Go.Proofs.YtpmlfpmedbccaaaDoor
