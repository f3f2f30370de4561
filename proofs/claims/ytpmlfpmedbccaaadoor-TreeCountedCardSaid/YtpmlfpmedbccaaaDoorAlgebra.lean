/- Places and their names: cut and joined are each other's inverse; the place above; counted places. Plain. -/
import Derived.Test.YtpmlfpmedbccaaaDoorNodes
namespace Go.Proofs.YtpmlfpmedbccaaaDoor

theorem okb_slash : okb 47 = false := by decide
theorem name_noslash {x : List UInt8} (h : isName x = true) : ∀ c ∈ x, c ≠ 47 := by
  unfold isName at h
  simp only [Bool.and_eq_true, List.all_eq_true] at h
  intro c hc e
  have := h.2 c hc
  rw [e, okb_slash] at this
  cases this
theorem cut_cons_ne (c : UInt8) (s : List UInt8) (h : c ≠ 47) : ∃ a l, cut s = a :: l ∧ cut (c :: s) = (c :: a) :: l := by
  cases hs : cut s with
  | nil => exact absurd hs (cut_ne s)
  | cons a l => exact ⟨a, l, rfl, by rw [cut, if_neg h, hs]⟩
theorem cut_plain (x : List UInt8) (h : ∀ c ∈ x, c ≠ 47) : cut x = [x] := by
  induction x with
  | nil => rfl
  | cons c x ih =>
    rw [cut, if_neg (h c (by simp)), ih (fun d hd => h d (by simp [hd]))]
theorem cut_sep (x s : List UInt8) (h : ∀ c ∈ x, c ≠ 47) : cut (x ++ 47 :: s) = x :: cut s := by
  induction x with
  | nil => simp [cut]
  | cons c x ih =>
    rw [List.cons_append, cut, if_neg (h c (by simp)), ih (fun d hd => h d (by simp [hd]))]
theorem joinTail_cons (a : List UInt8) (l : List (List UInt8)) : Lib.joinTail [47] (a :: l) = 47 :: Lib.join (a :: l) [47] := by
  rw [Lib.join_cons]; simp [Lib.joinTail]
theorem cut_join (l : List (List UInt8)) (hl : l ≠ []) (h : ∀ x ∈ l, ∀ c ∈ x, c ≠ 47) : cut (Lib.join l [47]) = l := by
  induction l with
  | nil => exact absurd rfl hl
  | cons a l ih =>
    cases l with
    | nil => rw [Lib.join_one]; exact cut_plain a (h a (by simp))
    | cons b l =>
      rw [Lib.join_cons, joinTail_cons, cut_sep a _ (h a (by simp)), ih (by simp) (fun x hx => h x (by simp [hx]))]
theorem join_cut (s : List UInt8) : Lib.join (cut s) [47] = s := by
  induction s with
  | nil => rfl
  | cons c s ih =>
    by_cases hc : c = 47
    · subst hc
      rw [cut, if_pos rfl]
      cases hs : cut s with
      | nil => exact absurd hs (cut_ne s)
      | cons a l =>
        rw [Lib.join_cons, joinTail_cons, ← hs, ih]; rfl
    · obtain ⟨a, l, h1, h2⟩ := cut_cons_ne c s hc
      rw [h2, Lib.join_cons, List.cons_append, ← Lib.join_cons, ← h1, ih]
theorem join_snoc (l : List (List UInt8)) (a : List UInt8) (hl : l ≠ []) : Lib.join (l ++ [a]) [47] = Lib.join l [47] ++ 47 :: a := by
  cases l with
  | nil => exact absurd rfl hl
  | cons b l => rw [List.cons_append, Lib.join_cons, Lib.join_cons]; simp [Lib.joinTail]
theorem join_tight (l : List (List UInt8)) (h : ∀ x ∈ l, x.length ≤ 16) : (Lib.join l [47]).length + 1 ≤ 17 * l.length + (if l = [] then 1 else 0) := by
  cases l with
  | nil => simp [Lib.join_nil]
  | cons a l =>
    rw [Lib.join_cons]
    have h1 := h a (by simp)
    have h2 := joinTail_len l (fun x hx => h x (by simp [hx]))
    rw [if_neg (by simp)]
    simp [Lib.joinTail] at h2 ⊢
    omega
/-- Names below the root. -/
def Names (l : List (List UInt8)) : Prop := l.length ≤ 6 ∧ ∀ x ∈ l, isName x = true
theorem Names.noslash {l : List (List UInt8)} (h : Names l) : ∀ x ∈ l, ∀ c ∈ x, c ≠ 47 := fun x hx => name_noslash (h.2 x hx)
theorem parse_is (t : List UInt8) : Names (parse t).1 := parse_names t
theorem joined_ne_root {l : List (List UInt8)} (h : Names l) (hl : l ≠ []) : joined l ≠ [47] := by
  cases l with
  | nil => exact absurd rfl hl
  | cons a l =>
    have := (isName_len (h.2 a (by simp))).1
    unfold joined
    rw [Lib.join_cons]
    intro e
    simp at e
    rw [e.1] at this
    simp at this
theorem parse_joined {l : List (List UInt8)} (h : Names l) (hl : l ≠ []) : parse (joined l) = (l, 0) := by
  have hlen : (joined l).length ≤ 102 := by
    have := join_tight l (fun x hx => (isName_len (h.2 x hx)).2)
    rw [if_neg hl] at this
    have := h.1
    unfold joined
    simp
    omega
  unfold parse
  rw [if_neg (by omega), if_neg (joined_ne_root h hl), if_pos (by simp [joined])]
  have hc : cut (joined l).tail = l := cut_join l hl h.noslash
  rw [hc, if_neg (by have := h.1; omega), if_pos (List.all_eq_true.2 h.2)]
theorem parse_root : parse [47] = ([], 0) := by decide
theorem joined_nil : joined [] = [47] := rfl
theorem parse_joined' {l : List (List UInt8)} (h : Names l) : parse (joined l) = (l, 0) := by
  by_cases hl : l = []
  · subst hl; rw [joined_nil]; exact parse_root
  · exact parse_joined h hl
theorem joined_parse {t : List UInt8} (h : (parse t).2 = 0) : joined (parse t).1 = t := by
  rcases parse_cases t with ⟨h1, _⟩ | ⟨h1, h2⟩ | ⟨h1, _, h3, _⟩
  · exact absurd h h1
  · rw [h2, h1]; rfl
  · rw [h1]
    unfold joined
    simp only []
    rw [join_cut]
    cases t with
    | nil => simp at h3
    | cons c t => simp at h3; rw [h3]; rfl
theorem parse_nil_iff {t : List UInt8} (h : (parse t).2 = 0) : (parse t).1 = [] ↔ t = [47] := by
  constructor
  · intro e
    have := joined_parse h
    rw [e] at this
    exact this.symm
  · intro e
    rw [e, parse_root]
/-- What a place is: the root, or a name below a place. -/
theorem place_cases {t : List UInt8} (h : (parse t).2 = 0) : t = [47] ∨ ∃ l a, Names (l ++ [a]) ∧ parse t = (l ++ [a], 0) ∧ t = joined (l ++ [a]) := by
  have hn := parse_is t
  have hj := joined_parse h
  rcases List.eq_nil_or_concat (parse t).1 with e | ⟨l, a, e⟩
  · exact .inl ((parse_nil_iff h).1 e)
  · rw [List.concat_eq_append] at e
    refine .inr ⟨l, a, e ▸ hn, ?_, by rw [← e]; exact hj.symm⟩
    rw [← e, ← h]
theorem Names.init {l : List (List UInt8)} {a : List UInt8} (h : Names (l ++ [a])) : Names l := ⟨by have := h.1; simp at this; omega, fun x hx => h.2 x (by simp [hx])⟩
theorem parent_joined {l : List (List UInt8)} {a : List UInt8} (h : Names (l ++ [a])) : parent (joined (l ++ [a])) = (joined l, 0) := by
  unfold parent
  rw [parse_joined h (by simp)]
  simp
theorem parent_root' : parent [47] = ([], 47) := by decide
theorem parent_ok {t : List UInt8} (h : (parent t).2 = 0) : ∃ l a, Names (l ++ [a]) ∧ t = joined (l ++ [a]) ∧ parent t = (joined l, 0) := by
  have h0 : (parse t).2 = 0 := by
    apply Classical.byContradiction
    intro h1
    unfold parent at h
    rw [if_pos h1] at h
    exact h1 h
  rcases place_cases h0 with e | ⟨l, a, hn, _, e⟩
  · rw [e, parent_root'] at h; cases h
  · exact ⟨l, a, hn, e, by rw [e]; exact parent_joined hn⟩
theorem joined_snoc (l : List (List UInt8)) (a : List UInt8) : joined (l ++ [a]) = joined l ++ (if l = [] then a else 47 :: a) := by
  by_cases hl : l = []
  · subst hl; simp [joined, Lib.join_one, Lib.join_nil]
  · rw [if_neg hl]; unfold joined; rw [join_snoc l a hl]; rfl
/-- The place above comes ahead. -/
theorem parent_before {t : List UInt8} (h : (parent t).2 = 0) : ord (parent t).1 t = -1 := by
  obtain ⟨l, a, hn, e, hp⟩ := parent_ok h
  rw [hp, e, joined_snoc]
  refine ord_prefix _ _ ?_
  have := (isName_len (hn.2 a (by simp))).1
  split
  · intro e; rw [e] at this; simp at this
  · simp
theorem parent_parse {t : List UInt8} (h : (parent t).2 = 0) : (parse t).2 = 0 ∧ (parse (parent t).1).2 = 0 ∧ t ≠ [47] := by
  obtain ⟨l, a, hn, e, hp⟩ := parent_ok h
  rw [hp, e, parse_joined hn (by simp), parse_joined' hn.init]
  exact ⟨rfl, rfl, joined_ne_root hn (by simp)⟩
theorem parent_of_parse {t : List UInt8} (h : (parse t).2 = 0) (hne : t ≠ [47]) : (parent t).2 = 0 := by
  rcases place_cases h with e | ⟨l, a, hn, _, e⟩
  · exact absurd e hne
  · rw [e, parent_joined hn]
theorem parent_code {t : List UInt8} : (parent t).2 = if (parse t).2 ≠ 0 then (parse t).2 else if t = [47] then 47 else 0 := by
  unfold parent
  by_cases h : (parse t).2 ≠ 0
  · rw [if_pos h, if_pos h]
  · rw [if_neg h, if_neg h]
    have h0 : (parse t).2 = 0 := by omega
    by_cases e : (parse t).1 = []
    · rw [if_pos e, if_pos ((parse_nil_iff h0).1 e)]
    · rw [if_neg e, if_neg (fun h2 => e ((parse_nil_iff h0).2 h2))]
theorem name_joined {l : List (List UInt8)} {a : List UInt8} (h : Names (l ++ [a])) : nameOf (joined (l ++ [a])) = (a, 0) := by
  unfold nameOf
  rw [parse_joined h (by simp)]
  simp

/-! ### digits -/
theorem decDigits_digit (u : Nat) : ∀ c ∈ Lib.decDigits u, 48 ≤ c.toNat ∧ c.toNat ≤ 57 := by
  induction u using Nat.strongRecOn with
  | _ u ih =>
    rw [Lib.decDigits]
    split
    · rename_i h
      intro c hc
      rw [List.mem_singleton] at hc
      subst hc
      simp [UInt8.toNat_ofNat']
      omega
    · rename_i h
      intro c hc
      rw [List.mem_append] at hc
      rcases hc with hc | hc
      · exact ih (u / 10) (by omega) c hc
      · rw [List.mem_singleton] at hc
        subst hc
        simp [UInt8.toNat_ofNat']
        omega
/-- What a text of digits says. -/
def val10 : List UInt8 → Nat := fun l => l.foldl (fun n c => 10 * n + (c.toNat - 48)) 0
theorem val10_append_one (l : List UInt8) (c : UInt8) : val10 (l ++ [c]) = 10 * val10 l + (c.toNat - 48) := by simp [val10]
theorem val10_dec (u : Nat) : val10 (Lib.decDigits u) = u := by
  induction u using Nat.strongRecOn with
  | _ u ih =>
    rw [Lib.decDigits]
    split
    · rename_i h
      simp [val10, UInt8.toNat_ofNat']
      omega
    · rename_i h
      rw [val10_append_one, ih (u / 10) (by omega)]
      simp [UInt8.toNat_ofNat']
      omega
theorem val10_zeros (n : Nat) (l : List UInt8) : val10 (List.replicate n 48 ++ l) = val10 l := by
  induction n with
  | zero => simp
  | succ n ih =>
    rw [List.replicate_succ, List.cons_append]
    unfold val10 at ih ⊢
    rw [List.foldl_cons]
    simpa using ih
/-- The five digits of a counter. -/
def five (k : Int) : List UInt8 := List.replicate (5 - (Lib.itoa k).length) 48 ++ Lib.itoa k
theorem itoa_dec {k : Int} (h : 0 ≤ k) : Lib.itoa k = Lib.decDigits k.toNat := by unfold Lib.itoa; rw [if_neg (by omega)]
theorem five_len {k : Int} (h0 : 0 ≤ k) (h : k ≤ 99999) : (five k).length = 5 := by
  have := itoa_len h0 h
  simp [five]
  omega
theorem five_digit {k : Int} (h0 : 0 ≤ k) : ∀ c ∈ five k, 48 ≤ c.toNat ∧ c.toNat ≤ 57 := by
  intro c hc
  unfold five at hc
  rw [List.mem_append] at hc
  rcases hc with hc | hc
  · rw [(List.mem_replicate.1 hc).2]; decide
  · rw [itoa_dec h0] at hc; exact decDigits_digit _ c hc
theorem five_val {k : Int} (h0 : 0 ≤ k) : (val10 (five k) : Int) = k := by
  unfold five
  rw [val10_zeros, itoa_dec h0, val10_dec]
  omega
theorem digit_okb {c : UInt8} (h : 48 ≤ c.toNat ∧ c.toNat ≤ 57) : okb c = true := by
  unfold okb
  have h1 : (48 : UInt8) ≤ c := by rw [UInt8.le_iff_toNat_le]; exact h.1
  have h2 : c ≤ 57 := by rw [UInt8.le_iff_toNat_le]; exact h.2
  simp [h1, h2]
theorem name_five {a : List UInt8} (ha : isName a = true) (hl : a.length ≤ 11) {k : Int} (h0 : 0 ≤ k) (h : k ≤ 99999) : isName (a ++ five k) = true := by
  have hf := five_len h0 h
  unfold isName at ha ⊢
  simp only [Bool.and_eq_true, List.all_eq_true, Bool.not_eq_true', decide_eq_true_eq] at ha ⊢
  refine ⟨⟨⟨⟨?_, by simp; omega⟩, ?_⟩, ?_⟩, fun c hc => ?_⟩
  · cases hh : a ++ five k with
    | nil => have := congrArg List.length hh; rw [List.length_append, hf] at this; simp at this
    | cons => rfl
  · rw [beq_eq_false_iff_ne]; intro e; have := congrArg List.length e; rw [List.length_append, hf] at this; simp at this; try omega
  · rw [beq_eq_false_iff_ne]; intro e; have := congrArg List.length e; rw [List.length_append, hf] at this; simp at this; try omega
  · rw [List.mem_append] at hc
    rcases hc with hc | hc
    · exact ha.2 c hc
    · exact digit_okb (five_digit h0 c hc)
/-- A counted place: the same place above, the digits behind the name. -/
theorem counted_ok {t : List UInt8} {k : Int} (h : (counted t k).2 = 0) : ∃ l a, Names (l ++ [a]) ∧ t = joined (l ++ [a]) ∧ a.length ≤ 11 ∧ 0 ≤ k ∧ k ≤ 99999 ∧ counted t k = (joined (l ++ [a ++ five k]), 0) ∧ Names (l ++ [a ++ five k]) := by
  unfold counted at h
  by_cases h0 : (parse t).2 ≠ 0
  · rw [if_pos h0] at h; exact absurd h h0
  rw [if_neg h0] at h
  have h0' : (parse t).2 = 0 := by omega
  by_cases h1 : (parse t).1 = []
  · rw [if_pos h1] at h; cases h
  rw [if_neg h1] at h
  by_cases h2 : 11 < ((parse t).1.getLast?.getD []).length
  · rw [if_pos h2] at h; cases h
  rw [if_neg h2] at h
  by_cases h3 : k < 0 ∨ 99999 < k
  · rw [if_pos h3] at h; cases h
  rcases place_cases h0' with e | ⟨l, a, hn, hp, e⟩
  · exact absurd ((parse_nil_iff h0').2 e) h1
  · have ha : a.length ≤ 11 := by rw [hp] at h2; simp at h2; omega
    have hnew : Names (l ++ [a ++ five k]) := by
      refine ⟨by have := hn.1; simpa using this, fun x hx => ?_⟩
      rw [List.mem_append, List.mem_singleton] at hx
      rcases hx with hx | hx
      · exact hn.2 x (by simp [hx])
      · rw [hx]; exact name_five (hn.2 a (by simp)) ha (by omega) (by omega)
    refine ⟨l, a, hn, e, ha, by omega, by omega, ?_, hnew⟩
    unfold counted
    rw [if_neg h0, if_neg h1, if_neg h2, if_neg h3]
    have : t ++ (List.replicate (5 - (Lib.itoa k).length) 48 ++ Lib.itoa k) = joined (l ++ [a ++ five k]) := by
      rw [e, joined_snoc, joined_snoc]
      unfold five
      split <;> simp
    rw [this]
theorem counted_zero {t : List UInt8} {k : Int} (h : (counted t 0).2 = 0) (h0 : 0 ≤ k) (h1 : k ≤ 99999) : (counted t k).2 = 0 := by
  obtain ⟨l, a, hn, e, ha, _⟩ := counted_ok h
  unfold counted
  have h2 : ¬ 11 < ((parse t).1.getLast?.getD []).length := by
    rw [e, parse_joined hn (by simp), List.getLast?_concat]
    show ¬ 11 < a.length
    omega
  have h3 : ¬ (k < 0 ∨ 99999 < k) := by omega
  have hp : (parse t).2 = 0 ∧ (parse t).1 ≠ [] := by rw [e, parse_joined hn (by simp)]; simp
  rw [if_neg (fun h => h hp.1), if_neg hp.2, if_neg h2, if_neg h3]
theorem counted_parent {t : List UInt8} {k : Int} (h : (counted t k).2 = 0) : parent (counted t k).1 = parent t ∧ (parse (counted t k).1).2 = 0 := by
  obtain ⟨l, a, hn, e, _, _, _, hc, hn2⟩ := counted_ok h
  rw [hc, e]
  exact ⟨by rw [parent_joined hn, parent_joined hn2], by rw [parse_joined hn2 (by simp)]⟩
end Go.Proofs.YtpmlfpmedbccaaaDoor
