/- The walks of package place: what each function answers. -/
import Derived.Test.YtpmlfpmedbccaaaDoorProg
import Derived.Test.YtpmlfpmedbccaaaDoorPlain
import Derived.Test.YtpmlfpmedbccaaaDoorShelf
import Derived.WalkSmall
import Derived.Lib.LaidTab
import Derived.Lib.AppendIntMem
import Derived.WalkKit
import Derived.WalkSpells
import Derived.WalkLawsBesides
import Derived.Deep.QuietTactic
import Derived.BigQuiet
import Derived.Lib.Hide
namespace Go.Proofs.YtpmlfpmedbccaaaDoor
open Go.RowKit
theorem ret_i64 {a b : Int} (h : a = b) : Ending.returned (.int .i64 a) = .returned (.int .i64 b) := by rw [h]
theorem ret_bool {a b : Bool} (h : a = b) : Ending.returned (.bool a) = .returned (.bool b) := by rw [h]

theorem weight_any (c : UInt8) (w : World) :
    Calls Tryd.prog 49 #[.int .u8 (c.toNat : Int)] w fun e w' => e = .returned (.int .i64 (wt c)) ∧ w' = w := by
  go_enter Tryd.func49, Tryd.ntmps49
  unfold wt
  by_cases h : c = 47
  · subst h
    go_wp2
    go_ret
    exact ⟨rfl, rfl⟩
  · rw [if_neg h]
    have h1 : ¬ ((c.toNat : Int) = 47) := fun e => h (UInt8.toNat_inj.1 (by have : (47 : UInt8).toNat = 47 := rfl; omega))
    have := c.toNat_lt
    go_wp2
    go_ret
    exact ⟨rfl, rfl⟩
set_option maxHeartbeats 400000 in
theorem order_any (s t : ByteArray) (w : World) (hs : s.size ≤ maxLen) (ht : t.size ≤ maxLen) :
    Calls Tryd.prog 30 #[.string s, .string t] w fun e w' => e = .returned (.int .i64 (ord s.data.toList t.data.toList)) ∧ ∃ n, w' = w.drewN n := by
  unfold maxLen at hs ht
  go_enter Tryd.func30, Tryd.ntmps30
  go_wp2
  all_goals
    go_loopw [5, 6, 7, 13] (fun _ _ _ i wr => ∃ k : Nat, k ≤ s.size ∧ k ≤ t.size ∧ i = .int .i64 k ∧ ord s.data.toList t.data.toList = ord (s.data.toList.drop k) (t.data.toList.drop k) ∧ ∃ n, wr = w.drewN n) (fun _ _ _ i _ => s.size - (intOf i).toNat)
    case atStart => exact ⟨0, by omega, by omega, rfl, by simp, 0, rfl⟩
    case round =>
      obtain ⟨k, hk, hk2, rfl, ho, n, hw⟩ := hrel
      have HW : Hid (wr = w.drewN n) := hw
      clear hw
      by_cases hlt : k < s.size ∧ k < t.size
      · obtain ⟨h1, h2⟩ := hlt
        have hst := ord_step s.data.toList t.data.toList k (by simpa using h1) (by simpa using h2)
        have HO : Hid (ord s.data.toList t.data.toList = if wt s[k] < wt t[k] then -1 else if wt t[k] < wt s[k] then 1 else ord (s.data.toList.drop (k+1)) (t.data.toList.drop (k+1))) := ho.trans hst
        clear ho hst
        go_wp2
        go_quiet ((go_at_call 49; exact Calls.quiet_of_same (weight_any _ _)))
        go_wp2
        · go_ret
          have h : wt s[k] < wt t[k] := by assumption
          exact ⟨ret_i64 (by rw [HO.out, if_pos h]), n + nq, by rw [HW.out, World.drewN_drewN]⟩
        · go_ret
          have h : wt t[k] < wt s[k] := by assumption
          exact ⟨ret_i64 (by rw [HO.out, if_neg (by omega), if_pos h]), n + nq, by rw [HW.out, World.drewN_drewN]⟩
        · go_roundw
          case rel => exact ⟨k + 1, by omega, by omega, by go_num, by rw [HO.out, if_neg (by omega), if_neg (by omega)], n + nq, by rw [HW.out, World.drewN_drewN]⟩
          case measure => simp [intOf]; omega
      · have hend := ho.trans (ord_end s.data.toList t.data.toList k (by simpa using hk) (by simpa using hk2) (by simpa using hlt))
        have hend' : ord s.data.toList t.data.toList = if s.size < t.size then -1 else if t.size < s.size then 1 else 0 := by simpa using hend
        have HO : Hid (ord s.data.toList t.data.toList = _) := hend'
        clear ho hend hend'
        go_wp2
        all_goals
          go_ret
          refine ⟨ret_i64 ?_, n, HW.out⟩
          rw [HO.out]
          first | rw [if_pos (by omega)] | (rw [if_neg (by omega)]; first | rw [if_pos (by omega)] | rw [if_neg (by omega)])

/-- What the program's own package-level variables hold (no call writes them). -/
structure Env (w : World) : Prop where
  ml : ∃ m, w.cell? ⟨1, 0, none⟩ = some (.int .i64 m)
  nm : ∀ i, i < 128 → w.cell? ⟨0, i, none⟩ = some (.int .u8 (namedTab.getD i 0))
  pw : Lib.TabIs Tryd.prog w "internal/strconv.uint64pow10" .u64 Lib.pow10Tab
  hs : Tryd.prog.globals.size ≤ w.heap.size

theorem named_val (c : UInt8) (h : c.toNat < 128) : namedTab.getD c.toNat 0 = if okb c then 1 else 0 := by
  simp [namedTab, List.getD_eq_getElem?_getD, h]

def allOk (s : ByteArray) : Bool := s.data.toList.all okb
def Same (w w' : World) : Prop := w = w'
def NameTo (s : ByteArray) (k : Nat) : Prop := (s.data.toList.take k).all okb = true
theorem toList_len (s : ByteArray) : s.data.toList.length = s.size := by simp
set_option maxRecDepth 100000 in
set_option maxHeartbeats 400000 in
theorem isName_loop (s : ByteArray) (w : World) (he : Hid (Env w)) (h1 : s.toList.isEmpty = false) (h2 : (s.size : Int) ≤ 16) (h3 : (s.toList == [46]) = false) (h4 : (s.toList == [46, 46]) = false) :
    Calls Tryd.prog 33 #[.string s] w fun e w' => e = .returned (.bool (allOk s)) ∧ w' = w := by
  go_enter Tryd.func33, Tryd.ntmps33
  go_wp2
  go_loopw [3, 21] (fun _ i wr => ∃ k : Nat, k ≤ s.size ∧ i = .int .i64 k ∧ NameTo s k ∧ Same w wr) (fun _ i _ => s.size - (intOf i).toNat)
  case atStart => exact ⟨0, by omega, rfl, rfl, rfl⟩
  case round =>
    obtain ⟨k, hk, rfl, hall, rfl⟩ := hrel
    have HA : Hid ((s.data.toList.take k).all okb = true) := hall
    clear hall
    by_cases hlt : k < s.size
    · have hall2 : (s.data.toList.take (k + 1)).all okb = okb s[k] := by
        rw [List.take_succ_eq_append_getElem (by rw [toList_len]; exact hlt), List.all_append, HA.out]
        simp
        rfl
      have HA2 := Lib.hid hall2
      clear hall2
      have hno : okb s[k] = false → allOk s = false := fun hf => by
        unfold allOk
        cases h : s.data.toList.all okb
        · rfl
        · have := List.all_eq_true.1 h _ (List.getElem_mem (n := k) (by rw [toList_len]; exact hlt))
          rw [← hf]
          exact this.symm
      have HN := Lib.hid hno
      clear hno
      by_cases hc : s[k].toNat < 128
      · have hcell := he.out.nm s[k].toNat hc
        rw [named_val _ hc] at hcell
        by_cases ho : okb s[k] = true
        · rw [if_pos ho] at hcell
          have HO := Lib.hid ho
          clear ho
          go_wp2
          go_roundw
          case rel => exact ⟨k + 1, by omega, by go_num, HA2.out.trans HO.out, rfl⟩
          case measure => simp [intOf]; omega
        · rw [if_neg ho] at hcell
          have HO := Lib.hid ho
          clear ho
          go_wp2
          go_ret
          exact ⟨ret_bool (HN.out (by simpa using HO.out)).symm, rfl⟩
      · go_wp2
        go_ret
        refine ⟨ret_bool (HN.out ?_).symm, rfl⟩
        unfold okb
        simp [UInt8.le_iff_toNat_le, ← UInt8.toNat_inj]
        omega
    · go_wp2
      go_ret
      have hf : allOk s = true := by unfold allOk; rw [← HA.out, List.take_of_length_le (by rw [toList_len]; omega)]
      exact ⟨ret_bool hf.symm, rfl⟩

set_option maxHeartbeats 400000 in
theorem isName_any (s : ByteArray) (w : World) (he : Env w) (hs : s.size ≤ maxLen) :
    Calls Tryd.prog 33 #[.string s] w fun e w' => e = .returned (.bool (isName s.data.toList)) ∧ w' = w := by
  have ez : s.toList = s.data.toList := ByteArray.toList_eq s
  have hsz := toList_len s
  unfold maxLen at hs
  by_cases h : s.toList = [] ∨ (16 : Int) < s.size ∨ s.toList = [46] ∨ s.toList = [46, 46]
  · have hno : isName s.data.toList = false := by
      rw [← ez] at hsz ⊢
      unfold isName
      rcases h with h | h | h | h
      · rw [h]; rfl
      · have : ¬ s.toList.length ≤ 16 := by omega
        simp [this]
      · rw [h]; rfl
      · rw [h]; rfl
    rw [hno]
    clear he hno ez hsz
    by_cases h1 : s.toList.isEmpty = true
    · go_enter Tryd.func33, Tryd.ntmps33
      go_wp2
      go_ret
      exact ⟨rfl, rfl⟩
    by_cases h2 : (16 : Int) < s.size
    · have h1' : s.toList.isEmpty = false := by simpa using h1
      clear h h1
      go_enter Tryd.func33, Tryd.ntmps33
      go_wp2
      go_ret
      exact ⟨rfl, rfl⟩
    have h1' : s.toList.isEmpty = false := by simpa using h1
    have h2' : (s.size : Int) ≤ 16 := by omega
    by_cases h3 : (s.toList == [46]) = true
    · clear h h1 h2
      go_enter Tryd.func33, Tryd.ntmps33
      go_wp2
      go_ret
      exact ⟨rfl, rfl⟩
    have h3' : (s.toList == [46]) = false := by simpa using h3
    have h4 : (s.toList == [46, 46]) = true := by
      rcases h with h | h | h | h
      · exact absurd (by rw [h]; rfl) h1
      · omega
      · exact absurd (by rw [h]; rfl) h3
      · rw [h]; rfl
    clear h h1 h2 h3
    go_enter Tryd.func33, Tryd.ntmps33
    go_wp2
    go_ret
    exact ⟨rfl, rfl⟩
  · have h1 : s.toList.isEmpty = false := by
      cases hh : s.toList with
      | nil => exact absurd (.inl hh) h
      | cons => rfl
    have h3 : (s.toList == [46]) = false := by simp; exact fun e => h (.inr (.inr (.inl e)))
    have h4 : (s.toList == [46, 46]) = false := by simp; exact fun e => h (.inr (.inr (.inr e)))
    have h2 : (s.size : Int) ≤ 16 := by
      by_cases h2 : (16 : Int) < s.size
      · exact absurd (.inr (.inl h2)) h
      · omega
    have hn : isName s.data.toList = allOk s := by
      unfold isName allOk
      rw [hsz, ← ez, h1, h3, h4]
      have e3 : s.size ≤ 16 := by omega
      simp [e3]
    rw [hn]
    exact isName_loop s w he h1 h2 h3 h4
/-! ### what keeps -/
theorem Env.below {w w1 : World} {B : Nat} (he : Env w) (hb : Below B w w1) (hB : Tryd.prog.globals.size ≤ B) : Env w1 :=
  have hg : ∀ g i : Nat, g < Tryd.prog.globals.size → w1.cell? ⟨g, i, none⟩ = w.cell? ⟨g, i, none⟩ := fun g i h => hb.cell (p := ⟨g, i, none⟩) (Nat.lt_of_lt_of_le h hB)
  ⟨by rw [hg _ _ (of_decide_eq_true (by kernel_rfl))]; exact he.ml, fun i hi => by rw [hg _ _ (of_decide_eq_true (by kernel_rfl))]; exact he.nm i hi,
    var?_below hb (g := 2) (by kernel_rfl) (Nat.lt_of_lt_of_le (of_decide_eq_true (by kernel_rfl)) hB) he.pw, Nat.le_trans he.hs hb.size⟩
theorem Env.after {w w1 : World} (he : Env w) (hb : Below w.heap.size w w1) : Env w1 := he.below hb he.hs

/-! ### Parse -/
def pcs (s : ByteArray) : List ByteArray := Lib.splitB ⟨#[47]⟩ 0 (Lib.countB (s.extract 1 s.size) ⟨#[47]⟩) (s.extract 1 s.size)
theorem pcs_cut (s : ByteArray) : (pcs s).map (·.data.toList) = cut s.data.toList.tail := by
  unfold pcs
  rw [Lib.splitB_data, ← split_cut]
  show Lib.splitK [47] 0 (Lib.count _ _) _ = Lib.splitK [47] 0 (Lib.count _ _) _
  have : (s.extract 1 s.size).data.toList = s.data.toList.tail := by rw [Lib.extract_to_end, List.drop_one]
  rw [this]
theorem pcs_len (s : ByteArray) : (pcs s).length = (cut s.data.toList.tail).length := by rw [← pcs_cut, List.length_map]
theorem pcs_count (s : ByteArray) : Lib.countB (s.extract 1 s.size) ⟨#[47]⟩ + 1 = (pcs s).length := (Lib.splitB_all ⟨#[47]⟩ (by decide) 0 _ _ rfl).symm

/-- What Parse hands out: no list, or a list of its own that holds the names. -/
def PNames (w w' : World) (v : Value) (l : List (List UInt8)) : Prop :=
  (l = [] ∧ v = .slice none 0 0) ∨ (l ≠ [] ∧ ∃ xs : List ByteArray, xs.map (·.data.toList) = l ∧ v = .slice (some ⟨w.heap.size, 0, none⟩) l.length l.length ∧ w.heap.size < w'.heap.size ∧
    ∀ j x, xs[j]? = some x → w'.cell? ⟨w.heap.size, j, none⟩ = some (.string x))
def ParsePost (s : ByteArray) (w : World) (e : Ending) (w' : World) : Prop :=
  ∃ v, e = .returned (.tuple #[v, .int .i64 (parse s.data.toList).2]) ∧ PNames w w' v (parse s.data.toList).1 ∧ Below w.heap.size w w'
theorem ret_none {s : ByteArray} {w w' : World} {c : Int} (h : parse s.data.toList = ([], c)) (hb : Below w.heap.size w w') : ParsePost s w (.returned (.tuple #[.slice none 0 0, .int .i64 c])) w' :=
  ⟨_, by rw [h], .inl ⟨by rw [h], rfl⟩, hb⟩
def AllName (xs : List ByteArray) (k : Nat) : Prop := ∀ j x, j < k → xs[j]? = some x → isName x.data.toList = true

set_option maxRecDepth 100000 in
set_option maxHeartbeats 400000 in
theorem parse_core (s : ByteArray) (xs : List ByteArray) (n : Nat) (w : World) (he : Hid (Env w)) (hn : Hid (n = xs.length)) (hn6 : n ≤ 200) (hxl : Hid (∀ x ∈ xs, x.size ≤ maxLen)) (h1 : s.size ≤ 102) (h2 : (s.toList == [47]) = false) (h4 : 1 ≤ s.size)
    (hpre : Hid (∀ W, Calls Tryd.prog 31 #[.string s, .string ⟨#[47]⟩] W fun e w' => e = .returned (.bool true) ∧ W = w'))
    (hsp : Hid (Calls Tryd.prog 32 #[.string (s.extract 1 s.size), .string ⟨#[47]⟩] w fun e w1 => e = .returned (.slice (some ⟨w.heap.size, 0, none⟩) n n) ∧ w.heap.size < w1.heap.size ∧ Below w.heap.size w w1 ∧ ∀ j x, xs[j]? = some x → w1.cell? ⟨w.heap.size, j, none⟩ = some (.string x)))
    (hlong : Hid (6 < n → parse s.data.toList = ([], 10))) (hbad : Hid (∀ x ∈ xs, isName x.data.toList = false → parse s.data.toList = ([], 10))) (hgood : Hid (n ≤ 6 → AllName xs n → parse s.data.toList = (xs.map (·.data.toList), 0))) (hne : Hid (xs ≠ [])) :
    Calls Tryd.prog 16 #[.string s] w fun e w' => ParsePost s w e w' := by
  go_enter Tryd.func16, Tryd.ntmps16
  go_wp2_with (go_at_call 31; refine (hpre.out _).mono ?_; rintro e w' ⟨rfl, rfl⟩)
  refine hsp.out.mono ?_
  rintro e w1 ⟨rfl, hsz, hb, hcell⟩
  have HB := Lib.hid hb
  have HC := Lib.hid hcell
  have HE := Lib.hid (he.out.after hb)
  clear hb hcell
  by_cases h6 : 6 < n
  · go_wp2
    refine bodyPost_ret (v := .tuple #[.slice none 0 0, .int .i64 10]) (by simp [results, Tryd.results16, go_sem]) rfl ?_
    exact ret_none (hlong.out h6) HB.out
  · go_wp2
    go_loopw [6, 23] (fun _ i wr => ∃ k : Nat, k ≤ n ∧ i = .int .i64 k ∧ AllName xs k ∧ Same w1 wr) (fun _ i _ => n - (intOf i).toNat)
    case atStart => exact ⟨0, by omega, rfl, fun j x hj => absurd hj (by omega), rfl⟩
    case round =>
      obtain ⟨k, hk, rfl, hall, rfl⟩ := hrel
      have HA := Lib.hid hall
      clear hall
      by_cases hlt : k < n
      · obtain ⟨x, hx⟩ : ∃ x, xs[k]? = some x := ⟨_, List.getElem?_eq_getElem (by rw [← hn.out]; exact hlt)⟩
        have hcx := HC.out k x hx
        have HX := Lib.hid hx
        have HM := Lib.hid (List.mem_of_getElem? hx)
        clear hx
        cases hnm : isName x.data.toList with
        | true =>
          have hcon := isName_any x w1 HE.out (hxl.out x HM.out)
          rw [hnm] at hcon
          have HCON := Lib.hid hcon
          have HN := Lib.hid hnm
          clear hcon hnm
          go_wp2_with (go_at_call 33; refine HCON.out.mono ?_; rintro e w' ⟨rfl, rfl⟩)
          go_roundw
          case rel =>
            refine ⟨k + 1, by omega, by go_num, fun j y hj hy => ?_, rfl⟩
            rcases Nat.lt_or_ge j k with h | h
            · exact HA.out j y h hy
            · obtain rfl : j = k := by omega
              rw [HX.out] at hy
              cases hy
              exact HN.out
          case measure => simp [intOf]; omega
        | false =>
          have hcon := isName_any x w1 HE.out (hxl.out x HM.out)
          rw [hnm] at hcon
          have HCON := Lib.hid hcon
          have HN := Lib.hid hnm
          clear hcon hnm
          go_wp2_with (go_at_call 33; refine HCON.out.mono ?_; rintro e w' ⟨rfl, rfl⟩)
          refine bodyPost_ret (v := .tuple #[.slice none 0 0, .int .i64 10]) (by simp [results, Tryd.results16, go_sem]) rfl ?_
          exact ret_none (hbad.out x HM.out HN.out) HB.out
      · go_wp2
        refine bodyPost_ret (v := .tuple #[.slice (some ⟨w.heap.size, 0, none⟩) n n, .int .i64 0]) (by simp [results, Tryd.results16, go_sem]) rfl ?_
        have hp := hgood.out (by omega) (fun j x hj hx => HA.out j x (by omega) hx)
        refine ⟨_, by rw [hp], .inr ⟨?_, xs, by rw [hp], by rw [hp]; simp [hn.out], hsz, HC.out⟩, HB.out⟩
        rw [hp]
        simpa using hne.out
theorem Lib_hasPrefix_one (l : List UInt8) : Lib.hasPrefix l [47] = decide (l.head? = some 47) := by
  cases l with
  | nil => rfl
  | cons a l =>
    simp [Lib.hasPrefix, List.isPrefixOf]
    by_cases h : a = 47
    · subst h; simp
    · simp [h]; exact fun e => h e.symm

set_option maxHeartbeats 400000 in
theorem parse_any (s : ByteArray) (w : World) (he : Env w) (hs : s.size ≤ maxLen) :
    Calls Tryd.prog 16 #[.string s] w fun e w' => ParsePost s w e w' := by
  have ez : s.toList = s.data.toList := ByteArray.toList_eq s
  unfold maxLen at hs
  by_cases h1 : 102 < s.size
  · have hp : parse s.data.toList = ([], 2) := by unfold parse; rw [if_pos (by rw [toList_len]; exact h1)]
    have HP := Lib.hid hp
    clear hp ez he
    go_enter Tryd.func16, Tryd.ntmps16
    go_wp2
    refine bodyPost_ret (v := .tuple #[.slice none 0 0, .int .i64 2]) (by simp [results, Tryd.results16, go_sem]) rfl ?_
    exact ret_none HP.out (Below.refl _ _)
  have h1' : s.size ≤ 102 := by omega
  clear h1
  by_cases h2 : s.toList = [47]
  · have hp : parse s.data.toList = ([], 0) := by unfold parse; rw [if_neg (by rw [toList_len]; omega), ← ez, if_pos h2]
    have HP := Lib.hid hp
    have h2' : (s.toList == [47]) = true := by simpa using h2
    clear hp ez he h2
    go_enter Tryd.func16, Tryd.ntmps16
    go_wp2
    refine bodyPost_ret (v := .tuple #[.slice none 0 0, .int .i64 0]) (by simp [results, Tryd.results16, go_sem]) rfl ?_
    exact ret_none HP.out (Below.refl _ _)
  have h2' : (s.toList == [47]) = false := by simpa using h2
  by_cases h3 : s.data.toList.head? = some 47
  · have h4 : 1 ≤ s.size := by
      rw [← toList_len]
      cases hl : s.data.toList with
      | nil => rw [hl] at h3; cases h3
      | cons a l => simp
    have hlen : (pcs s).length ≤ 103 := by
      rw [pcs_len]
      have := cut_len s.data.toList.tail
      rw [List.length_tail, toList_len] at this
      omega
    have hp : parse s.data.toList = if 6 < (pcs s).length then ([], 10) else if (cut s.data.toList.tail).all isName then (cut s.data.toList.tail, 0) else ([], 10) := by
      unfold parse
      rw [if_neg (by rw [toList_len]; omega), if_neg (by rw [← ez]; exact h2), if_pos h3, pcs_len]
    refine parse_core s (pcs s) (pcs s).length w he rfl (by omega) (fun x hx => ?_) h1' h2' h4 (fun W => ?_) ?_ ?_ ?_ ?_ ?_
    · have hm := cut_mem_len s.data.toList.tail x.data.toList (by rw [← pcs_cut]; exact List.mem_map.2 ⟨x, hx, rfl⟩)
      rw [List.length_tail, toList_len, toList_len] at hm
      unfold maxLen
      omega
    · refine (Tryd.strings_HasPrefix s ⟨#[47]⟩ W).mono fun e w' ⟨h, hw⟩ => ⟨?_, hw.symm⟩
      rw [h]
      have := Lib_hasPrefix_one s.data.toList
      rw [h3] at this
      exact congrArg (fun b => Ending.returned (.bool b)) this
    · obtain ⟨m, hm⟩ := he.ml
      refine (Tryd.strings_Split _ ⟨#[47]⟩ m w (by simp; omega) hm (by decide)).mono fun e w' ⟨h, hw⟩ => ⟨?_, ?_, ?_, ?_⟩
      · rw [h, pcs_count]
      · rw [hw]; simp
      · rw [hw]; exact (Below.refl _ _).alloc (Nat.le_refl _) _
      · intro j x hj
        rw [hw, World.cell?_alloc_new]
        simp [pcs] at hj ⊢
        simp [hj]
    · intro h; rw [hp, if_pos h]
    · intro x hx hb
      rw [hp]
      by_cases h6 : 6 < (pcs s).length
      · rw [if_pos h6]
      · rw [if_neg h6, if_neg]
        intro hall
        have := List.all_eq_true.1 hall x.data.toList (by rw [← pcs_cut]; exact List.mem_map.2 ⟨x, hx, rfl⟩)
        rw [hb] at this
        cases this
    · intro h6 hall
      rw [hp, if_neg (by omega), if_pos, pcs_cut]
      rw [← pcs_cut, List.all_eq_true]
      intro y hy
      obtain ⟨x, hx, rfl⟩ := List.mem_map.1 hy
      obtain ⟨j, hj, hjx⟩ := List.getElem_of_mem hx
      exact hall j x hj (by rw [← hjx]; exact List.getElem?_eq_getElem hj)
    · intro h
      have := pcs_len s
      rw [h] at this
      exact cut_ne _ (List.eq_nil_of_length_eq_zero this.symm)
  · have hp : parse s.data.toList = ([], 10) := by
      unfold parse
      rw [if_neg (by rw [toList_len]; omega), if_neg (by rw [← ez]; exact h2), if_neg h3]
    have hpre : ∀ W, Calls Tryd.prog 31 #[.string s, .string ⟨#[47]⟩] W fun e w' => e = .returned (.bool false) ∧ W = w' := fun W =>
      (Tryd.strings_HasPrefix s ⟨#[47]⟩ W).mono fun e w' ⟨h, hw⟩ => ⟨by
        rw [h]
        have := Lib_hasPrefix_one s.data.toList
        rw [decide_eq_false h3] at this
        exact congrArg (fun b => Ending.returned (.bool b)) this, hw.symm⟩
    have HPRE := Lib.hid hpre
    have HP := Lib.hid hp
    clear hp hpre ez he h2 h3
    go_enter Tryd.func16, Tryd.ntmps16
    go_wp2_with (go_at_call 31; refine (HPRE.out _).mono ?_; rintro e w' ⟨rfl, rfl⟩)
    refine bodyPost_ret (v := .tuple #[.slice none 0 0, .int .i64 10]) (by simp [results, Tryd.results16, go_sem]) rfl ?_
    exact ret_none HP.out (Below.refl _ _)
end Go.Proofs.YtpmlfpmedbccaaaDoor
