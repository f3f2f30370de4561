/- The laws' own comparisons, walked where both lists are one: seen. -/
import Derived.Test.YtpmlfpmedbccaaaGreatDoorTreeJ
namespace Go.Proofs.YtpmlfpmedbccaaaGreatDoor
open Go.RowKit
attribute [local go_sem ↓] Go.wp_at_zero Go.wp_at_succ

/-- The k-th of a row of what is seen. -/
structure SeenRow (w : World) (g o : Nat) (s : SeenV) : Prop where
  c0 : w.cell? ⟨g, o, none⟩ = some (.string s.place)
  c1 : w.cell? ⟨g, o + 1, none⟩ = some (.string s.data)
  c2 : w.cell? ⟨g, o + 2, none⟩ = some (.int .i64 s.version)
theorem SeenRow.of {w : World} {base n g c : Nat} {L : List SeenV} {k : Nat} {s : SeenV} (h : w.ownsRow base 63 3 (.slice (some ⟨g, 0, none⟩) n c) n (L.flatMap SeenV.cells)) (hk : L[k]? = some s) : SeenRow w g (k * 3) s := by
  have key : ∀ j u, s.cells[j]? = some u → w.cell? ⟨g, k * 3 + j, none⟩ = some u := fun j u hu => by
    have hj : j < 3 := (List.getElem?_eq_some_iff.1 hu).1
    have := h.cells (g := g) rfl (k * 3 + j) u (by rw [flat_get SeenV.cells 3 (fun _ => rfl) L k s hk j hj]; exact hu)
    rwa [add_off] at this
  exact ⟨key 0 _ rfl, key 1 _ rfl, key 2 _ rfl⟩
set_option maxRecDepth 100000 in
set_option maxHeartbeats 1000000 in
theorem seen_same (w : World) (b1 b2 : Nat) (v1 v2 : Value) (L : List SeenV) (h1 : w.ownsRow b1 63 3 v1 L.length (L.flatMap SeenV.cells)) (h2 : w.ownsRow b2 63 3 v2 L.length (L.flatMap SeenV.cells)) (hL : L.length ≤ 1000000000) :
    Calls Tryz.prog 35 #[v1, v2] w fun e w' => e = .returned (.bool true) ∧ ∃ m, w' = w.drewN m := by
  obtain ⟨a1, c1, rfl, _⟩ := own_form h1
  obtain ⟨a2, c2, rfl, _⟩ := own_form h2
  have H1 := Lib.hid h1
  have H2 := Lib.hid h2
  clear h1 h2
  go_enter Tryz.func35, Tryz.ntmps35
  go_wp2_with fail
  go_simp
  go_loopg [5] L.length (fun g s5 wr => ∃ k : Nat, s5 = .int .i64 k ∧ k + g = L.length ∧ ∃ m, wr = w.drewN m)
  case atStart => exact ⟨0, rfl, by omega, 0, rfl⟩
  case round =>
    obtain ⟨k, rfl, hkg, m, rfl⟩ := hrel
    have HKg := Lib.hid hkg
    clear hkg
    by_cases hlt : k < L.length
    · obtain ⟨s, hs⟩ : ∃ s, L[k]? = some s := ⟨_, List.getElem?_eq_getElem hlt⟩
      obtain ⟨g1, cap1, he1, _⟩ := H1.out.form (by omega)
      injection he1 with e1 e2 e3
      subst e1
      subst e3
      clear e2
      obtain ⟨g2, cap2, he2, _⟩ := H2.out.form (by omega)
      injection he2 with e1 e2 e3
      subst e1
      subst e3
      clear e2
      obtain ⟨x0, x1, x2⟩ := SeenRow.of H1.out hs
      obtain ⟨y0, y1, y2⟩ := SeenRow.of H2.out hs
      obtain ⟨sp, sd, sv⟩ := s
      simp only [] at x0 x1 x2 y0 y1 y2
      clear hs
      have i0 : (0 : Int) ≤ (k : Int) := by omega
      have i1 : (k : Int) < (L.length : Int) := by omega
      go_upto_region 6 with fail
      generalize hw1 : w.drewN m = w1
      have q : ∀ {a : Addr} {u : Value}, w.cell? a = some u → w1.cell? a = some u := fun hc => by rw [← hw1]; exact hc
      replace x0 := q x0
      replace x1 := q x1
      replace x2 := q x2
      replace y0 := q y0
      replace y1 := q y1
      replace y2 := q y2
      have HW1 := Lib.hid hw1
      clear q hw1
      go_quiet (fail)
      simp only [Exit.then]
      go_step
      go_wp2_with fail
      go_roundg (gk - 1)
      case measure => have := HKg.out; omega
      case rel => exact ⟨k + 1, by go_num, by have := HKg.out; omega, m + nq, by rw [← HW1.out, World.drewN_drewN]⟩
    · have hge : ¬ (k : Int) < (L.length : Int) := by omega
      go_wp2_with fail
      go_ret
      exact ⟨rfl, m, rfl⟩
end Go.Proofs.YtpmlfpmedbccaaaGreatDoor
