/- Plain laws on bytes, names and places (chapter 1): no program in sight. -/
import Derived.Lib.SplitLaws
import Derived.Lib.Join
import Derived.Lib.ItoaNum
namespace Go.Proofs.YtpmlfpmedbccaaaDoor

/-! ### bytes between slashes -/
def cut : List UInt8 → List (List UInt8)
  | [] => [[]]
  | c :: s => if c = 47 then [] :: cut s else match cut s with
    | [] => [[c]]
    | h :: t => (c :: h) :: t
theorem cut_ne (s : List UInt8) : cut s ≠ [] := by
  cases s with
  | nil => simp [cut]
  | cons c s =>
    unfold cut
    split
    · simp
    · split <;> simp
theorem index_cons_ne (c : UInt8) (s : List UInt8) (h : c ≠ 47) : Lib.index (c :: s) [47] = if Lib.index s [47] == -1 then -1 else Lib.index s [47] + 1 := by
  rw [Lib.index]
  have : List.isPrefixOf [47] (c :: s) = false := by
    simp [List.isPrefixOf, beq_eq_false_iff_ne]
    exact fun e => h e.symm
  simp [this]
theorem split_cut (s : List UInt8) : Lib.split s [47] = cut s := by
  unfold Lib.split
  induction s with
  | nil => rfl
  | cons c s ih =>
    by_cases hc : c = 47
    · subst hc
      rw [Lib.count_cons_eq, Nat.add_comm, Lib.splitK]
      have h0 : Lib.index (47 :: s) [47] = 0 := by simp [Lib.index]
      rw [h0]
      simp [cut, ih]
    · rw [Lib.count_cons_ne _ _ _ hc]
      have hx := index_cons_ne c s hc
      by_cases hi : Lib.index s [47] = -1
      · rw [Lib.count_miss hi] at ih ⊢
        simp only [Lib.splitK] at ih ⊢
        rw [cut, if_neg hc, ← ih]
      · obtain ⟨i, hi'⟩ : ∃ i : Nat, Lib.index s [47] = i := by
          have := Lib.index_ge s [47]
          exact ⟨(Lib.index s [47]).toNat, by omega⟩
        rw [Lib.count_hit (by simp) hi'] at ih ⊢
        rw [Nat.add_comm, Lib.splitK] at ih ⊢
        have hm : ¬ (Lib.index s [47] == -1) = true := by simpa using hi
        rw [if_neg hm] at hx
        have hm' : ¬ (Lib.index (c :: s) [47] == -1) = true := by rw [hx, hi']; simp; omega
        rw [if_neg hm] at ih
        rw [if_neg hm', cut, if_neg hc, ← ih, hx, hi']
        have e1 : ((i : Int) + 1).toNat = i + 1 := by omega
        have e2 : ((i : Int)).toNat = i := by omega
        rw [e1, e2]
        simp [List.take_succ_cons, List.drop_succ_cons]
theorem cut_mem_len (s : List UInt8) : ∀ x ∈ cut s, x.length ≤ s.length := by
  induction s with
  | nil => intro x hx; simp [cut] at hx; subst hx; exact Nat.le_refl _
  | cons c s ih =>
    intro x hx
    unfold cut at hx
    split at hx
    · rcases List.mem_cons.1 hx with rfl | h
      · simp
      · have := ih x h; simp; omega
    · split at hx
      · simp at hx; subst hx; simp
      · rename_i h t he
        rw [he] at ih
        rcases List.mem_cons.1 hx with rfl | h2
        · have := ih h (by simp); simp; omega
        · have := ih x (by simp [h2]); simp; omega
theorem cut_len (s : List UInt8) : (cut s).length ≤ s.length + 1 := by
  induction s with
  | nil => simp [cut]
  | cons c s ih =>
    unfold cut
    split
    · simp; omega
    · split
      · simp
      · rename_i h t he; rw [he] at ih; simp at ih ⊢; omega

/-! ### names -/
def okb (c : UInt8) : Bool := (48 ≤ c && c ≤ 57) || (65 ≤ c && c ≤ 90) || (97 ≤ c && c ≤ 122) || c == 95 || c == 45 || c == 46
def namedTab : List Int := (List.range 128).map fun i => if okb (UInt8.ofNat i) then 1 else 0
def isName (s : List UInt8) : Bool := !s.isEmpty && decide (s.length ≤ 16) && !(s == [46]) && !(s == [46, 46]) && s.all okb

/-! ### places -/
def parse (t : List UInt8) : List (List UInt8) × Int :=
  if 102 < t.length then ([], 2) else if t = [47] then ([], 0) else if t.head? = some 47 then
    (if 6 < (cut t.tail).length then ([], 10) else if (cut t.tail).all isName then (cut t.tail, 0) else ([], 10))
  else ([], 10)
def joined (l : List (List UInt8)) : List UInt8 := 47 :: Lib.join l [47]
def parent (t : List UInt8) : List UInt8 × Int :=
  if (parse t).2 ≠ 0 then ([], (parse t).2) else if (parse t).1 = [] then ([], 47) else (joined (parse t).1.dropLast, 0)
def counted (t : List UInt8) (k : Int) : List UInt8 × Int :=
  if (parse t).2 ≠ 0 then ([], (parse t).2) else if (parse t).1 = [] then ([], 47) else if 11 < ((parse t).1.getLast?.getD []).length then ([], 10)
  else if k < 0 ∨ 99999 < k then ([], 1) else (t ++ (List.replicate (5 - (Lib.itoa k).length) 48 ++ Lib.itoa k), 0)
def begins (c w : List (List UInt8)) : Bool := w.isPrefixOf c
def covers (kind : Int) (watched : List UInt8) (change : Int) (changed : List UInt8) : Bool :=
  if (parse watched).2 ≠ 0 ∨ (parse changed).2 ≠ 0 ∨ change < 1 ∨ 3 < change ∨ begins (parse changed).1 (parse watched).1 = false then false
  else if kind = 1 then (parse changed).1.length == (parse watched).1.length
  else if kind = 2 then change != 2 && decide ((parse changed).1.length ≤ (parse watched).1.length + 1)
  else kind == 3
def nameOf (t : List UInt8) : List UInt8 × Int :=
  if (parse t).2 ≠ 0 then ([], (parse t).2) else ((parse t).1.getLast?.getD [], 0)
theorem parse_cases (t : List UInt8) : ((parse t).2 ≠ 0 ∧ (parse t).1 = []) ∨ (t = [47] ∧ parse t = ([], 0)) ∨ (parse t = (cut t.tail, 0) ∧ t.length ≤ 102 ∧ t.head? = some 47 ∧ (cut t.tail).length ≤ 6 ∧ (cut t.tail).all isName = true) := by
  unfold parse
  by_cases h1 : 102 < t.length
  · rw [if_pos h1]; exact .inl ⟨by simp, rfl⟩
  rw [if_neg h1]
  by_cases h2 : t = [47]
  · rw [if_pos h2]; exact .inr (.inl ⟨h2, rfl⟩)
  rw [if_neg h2]
  by_cases h3 : t.head? = some 47
  · rw [if_pos h3]
    by_cases h4 : 6 < (cut t.tail).length
    · rw [if_pos h4]; exact .inl ⟨by simp, rfl⟩
    · rw [if_neg h4]
      by_cases h5 : (cut t.tail).all isName = true
      · rw [if_pos h5]; exact .inr (.inr ⟨rfl, by omega, h3, by omega, h5⟩)
      · rw [if_neg h5]; exact .inl ⟨by simp, rfl⟩
  · rw [if_neg h3]; exact .inl ⟨by simp, rfl⟩
theorem isName_len {s : List UInt8} (h : isName s = true) : 1 ≤ s.length ∧ s.length ≤ 16 := by
  unfold isName at h
  simp at h
  have : s.length ≠ 0 := fun e => h.1.1.1.1 (List.eq_nil_of_length_eq_zero e)
  omega
theorem parse_names (t : List UInt8) : (parse t).1.length ≤ 6 ∧ ∀ x ∈ (parse t).1, isName x = true := by
  rcases parse_cases t with ⟨_, h⟩ | ⟨_, h⟩ | ⟨h, _, _, h4, h5⟩
  · rw [h]; simp
  · rw [h]; simp
  · rw [h]; exact ⟨h4, fun x hx => List.all_eq_true.1 h5 x hx⟩
theorem joinTail_len (l : List (List UInt8)) (h : ∀ x ∈ l, x.length ≤ 16) : (Lib.joinTail [47] l).length ≤ 17 * l.length := by
  induction l with
  | nil => simp [Lib.joinTail]
  | cons a l ih =>
    have h1 := h a (by simp)
    have h2 := ih (fun x hx => h x (by simp [hx]))
    simp [Lib.joinTail] at h2 ⊢
    omega
theorem join_len (l : List (List UInt8)) (h : ∀ x ∈ l, x.length ≤ 16) : (Lib.join l [47]).length ≤ 17 * l.length := by
  cases l with
  | nil => simp [Lib.join_nil]
  | cons a l =>
    rw [Lib.join_cons]
    have h1 := h a (by simp)
    have h2 := joinTail_len l (fun x hx => h x (by simp [hx]))
    simp
    omega
theorem nDigits_five {u : Nat} (h : u ≤ 99999) : Lib.nDigits u ≤ 5 := by
  have h1 : ∀ v, v < 10 → Lib.nDigits v ≤ 1 := fun v hv => by rw [Lib.nDigits_small hv]; exact Nat.le_refl _
  have step : ∀ m k : Nat, (∀ v, v < m → Lib.nDigits v ≤ k) → ∀ v, v < 10 * m → Lib.nDigits v ≤ k + 1 := fun m k hm v hv => by
    by_cases h10 : v < 10
    · rw [Lib.nDigits_small h10]; omega
    · rw [Lib.nDigits_big h10]
      have := hm (v / 10) (by omega)
      omega
  exact step 10000 4 (step 1000 3 (step 100 2 (step 10 1 h1))) u (by omega)
theorem itoa_len {k : Int} (h0 : 0 ≤ k) (h : k ≤ 99999) : (Lib.itoa k).length ≤ 5 := by
  unfold Lib.itoa
  rw [if_neg (by omega), Lib.decDigits_length]
  exact nDigits_five (by omega)

/-! ### order -/
def wt (c : UInt8) : Int := if c = 47 then -1 else c.toNat
def ord : List UInt8 → List UInt8 → Int
  | [], [] => 0
  | [], _ => -1
  | _, [] => 1
  | a :: s, b :: t => if wt a < wt b then -1 else if wt b < wt a then 1 else ord s t
theorem ord_nil_left (t : List UInt8) : ord [] t = if 0 < t.length then -1 else 0 := by cases t <;> simp [ord]
theorem ord_nil_right (s : List UInt8) : ord s [] = if 0 < s.length then 1 else 0 := by cases s <;> simp [ord]
theorem ord_end (s t : List UInt8) (k : Nat) (hs : k ≤ s.length) (ht : k ≤ t.length) (h : ¬ (k < s.length ∧ k < t.length)) : ord (s.drop k) (t.drop k) = if s.length < t.length then -1 else if t.length < s.length then 1 else 0 := by
  by_cases e : k = s.length
  · subst e
    rw [List.drop_length, ord_nil_left, List.length_drop]
    by_cases h2 : s.length < t.length
    · rw [if_pos (by omega), if_pos h2]
    · rw [if_neg (by omega), if_neg h2, if_neg (by omega)]
  · have e2 : k = t.length := by omega
    subst e2
    rw [List.drop_length, ord_nil_right, List.length_drop, if_pos (by omega), if_neg (by omega), if_pos (by omega)]
theorem ord_step (s t : List UInt8) (k : Nat) (hs : k < s.length) (ht : k < t.length) : ord (s.drop k) (t.drop k) = if wt s[k] < wt t[k] then -1 else if wt t[k] < wt s[k] then 1 else ord (s.drop (k+1)) (t.drop (k+1)) := by
  rw [List.drop_eq_getElem_cons hs, List.drop_eq_getElem_cons ht]; rfl
end Go.Proofs.YtpmlfpmedbccaaaDoor
