/- The laws' own comparisons, walked where both lists are one: same, texts. -/
import Derived.Test.YtpmlfpmedbccaaaDoorFind
namespace Go.Proofs.YtpmlfpmedbccaaaDoor
open Go.RowKit
attribute [local go_sem ↓] Go.wp_at_zero Go.wp_at_succ

theorem text_at {w : World} {B n g c : Nat} {l : List ByteArray} {k : Nat} {s : ByteArray} (h : KidsAt B w (.slice (some ⟨g, 0, none⟩) n c) l) (hk : l[k]? = some s) : w.cell? ⟨g, k, none⟩ = some (.string s) := by
  have := World.ownsRow.cells (g := g) h rfl k (.string s) (by rw [List.getElem?_map, hk]; rfl)
  rwa [add_off] at this
set_option maxRecDepth 100000 in
set_option maxHeartbeats 1000000 in
theorem same_same (w : World) (b1 b2 : Nat) (v1 v2 : Value) (L : List Node) (h1 : w.ownsRow b1 43 7 v1 L.length (L.flatMap Node.cells)) (h2 : w.ownsRow b2 43 7 v2 L.length (L.flatMap Node.cells)) (hL : L.length ≤ 1000000000) :
    Calls Tryd.prog 19 #[v1, v2] w fun e w' => e = .returned (.bool true) ∧ ∃ m, w' = w.drewN m := by
  obtain ⟨a1, c1, rfl, _⟩ := own_form h1
  obtain ⟨a2, c2, rfl, _⟩ := own_form h2
  have H1 := Lib.hid h1
  have H2 := Lib.hid h2
  clear h1 h2
  go_enter Tryd.func19, Tryd.ntmps19
  go_wp2_with fail
  go_simp
  go_loopg [5] L.length (fun g s5 wr => ∃ k : Nat, s5 = .int .i64 k ∧ k + g = L.length ∧ ∃ m, wr = w.drewN m)
  case atStart => exact ⟨0, rfl, by omega, 0, rfl⟩
  case round =>
    obtain ⟨k, rfl, hkg, m, rfl⟩ := hrel
    have HKg := Lib.hid hkg
    clear hkg
    by_cases hlt : k < L.length
    · obtain ⟨s, hs⟩ : ∃ s, L[k]? = some s := ⟨_, List.getElem?_eq_getElem hlt⟩
      obtain ⟨g1, cap1, he1, _⟩ := H1.out.form (by omega)
      injection he1 with e1 e2 e3
      subst e1
      subst e3
      clear e2
      obtain ⟨g2, cap2, he2, _⟩ := H2.out.form (by omega)
      injection he2 with e1 e2 e3
      subst e1
      subst e3
      clear e2
      obtain ⟨x0, x1, x2, x3, x4, x5, x6⟩ := NodeRow.of H1.out hs
      obtain ⟨y0, y1, y2, y3, y4, y5, y6⟩ := NodeRow.of H2.out hs
      obtain ⟨sp, sd, sv, sm, sc, so, sn⟩ := s
      simp only [] at x0 x1 x2 x3 x4 x5 x6 y0 y1 y2 y3 y4 y5 y6
      clear hs
      have i0 : (0 : Int) ≤ (k : Int) := by omega
      have i1 : (k : Int) < (L.length : Int) := by omega
      go_upto_region 6 with fail
      generalize hw1 : w.drewN m = w1
      have q : ∀ {a : Addr} {u : Value}, w.cell? a = some u → w1.cell? a = some u := fun hc => by rw [← hw1]; exact hc
      replace x0 := q x0
      replace x1 := q x1
      replace x2 := q x2
      replace x3 := q x3
      replace x4 := q x4
      replace x5 := q x5
      replace x6 := q x6
      replace y0 := q y0
      replace y1 := q y1
      replace y2 := q y2
      replace y3 := q y3
      replace y4 := q y4
      replace y5 := q y5
      replace y6 := q y6
      have HW1 := Lib.hid hw1
      clear q hw1
      go_quiet (fail)
      simp only [Exit.then]
      go_step
      go_wp2_with fail
      go_roundg (gk - 1)
      case measure => have := HKg.out; omega
      case rel => exact ⟨k + 1, by go_num, by have := HKg.out; omega, m + nq, by rw [← HW1.out, World.drewN_drewN]⟩
    · have hge : ¬ (k : Int) < (L.length : Int) := by omega
      go_wp2_with fail
      go_ret
      exact ⟨rfl, m, rfl⟩
set_option maxRecDepth 100000 in
set_option maxHeartbeats 1000000 in
theorem texts_same (w : World) (b1 b2 : Nat) (v1 v2 : Value) (L : List ByteArray) (h1 : KidsAt b1 w v1 L) (h2 : KidsAt b2 w v2 L) (hL : L.length ≤ 1000000000) :
    Calls Tryd.prog 35 #[v1, v2] w fun e w' => e = .returned (.bool true) ∧ ∃ m, w' = w.drewN m := by
  obtain ⟨a1, c1, rfl, _⟩ := own_form h1
  obtain ⟨a2, c2, rfl, _⟩ := own_form h2
  have H1 := Lib.hid h1
  have H2 := Lib.hid h2
  clear h1 h2
  go_enter Tryd.func35, Tryd.ntmps35
  go_wp2_with fail
  go_simp
  go_loopg [5] L.length (fun g s5 wr => ∃ k : Nat, s5 = .int .i64 k ∧ k + g = L.length ∧ ∃ m, wr = w.drewN m)
  case atStart => exact ⟨0, rfl, by omega, 0, rfl⟩
  case round =>
    obtain ⟨k, rfl, hkg, m, rfl⟩ := hrel
    have HKg := Lib.hid hkg
    clear hkg
    by_cases hlt : k < L.length
    · obtain ⟨s, hs⟩ : ∃ s, L[k]? = some s := ⟨_, List.getElem?_eq_getElem hlt⟩
      obtain ⟨g1, cap1, he1, _⟩ := H1.out.form (by omega)
      injection he1 with e1 e2 e3
      subst e1
      subst e3
      clear e2
      obtain ⟨g2, cap2, he2, _⟩ := H2.out.form (by omega)
      injection he2 with e1 e2 e3
      subst e1
      subst e3
      clear e2
      have x0 := text_at H1.out hs
      have y0 := text_at H2.out hs
      clear hs
      have i0 : (0 : Int) ≤ (k : Int) := by omega
      have i1 : (k : Int) < (L.length : Int) := by omega
      go_upto_region 6 with fail
      generalize hw1 : w.drewN m = w1
      have q : ∀ {a : Addr} {u : Value}, w.cell? a = some u → w1.cell? a = some u := fun hc => by rw [← hw1]; exact hc
      replace x0 := q x0
      replace y0 := q y0
      have HW1 := Lib.hid hw1
      clear q hw1
      go_quiet (fail)
      simp only [Exit.then]
      go_step
      go_wp2_with fail
      go_roundg (gk - 1)
      case measure => have := HKg.out; omega
      case rel => exact ⟨k + 1, by go_num, by have := HKg.out; omega, m + nq, by rw [← HW1.out, World.drewN_drewN]⟩
    · have hge : ¬ (k : Int) < (L.length : Int) := by omega
      go_wp2_with fail
      go_ret
      exact ⟨rfl, m, rfl⟩
end Go.Proofs.YtpmlfpmedbccaaaDoor
