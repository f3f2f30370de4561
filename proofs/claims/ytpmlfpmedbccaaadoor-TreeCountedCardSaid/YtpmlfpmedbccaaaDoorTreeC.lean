/- The walks of package tree, third part: needs, told, gone; what a request's work is in memory. -/
import Derived.Test.YtpmlfpmedbccaaaDoorTreeB
namespace Go.Proofs.YtpmlfpmedbccaaaDoor
open Go.RowKit

/-! ### values -/
/-! ### needs, told, gone -/
def NeedPost (k : Int) (w : World) (e : Ending) (w' : World) : Prop := e = .returned (.agg #[.bool (needRoot k), .bool (needData k), .bool (needVersion k)]) ∧ Below w.heap.size w w'
theorem needs_any (k : Int) (w : World) : Calls Tryd.prog 42 #[.int .i64 k] w (NeedPost k w) := by
  rcases Bool.eq_false_or_eq_true (k == 1) with t1 | t1 <;> rcases Bool.eq_false_or_eq_true (k == 2) with t2 | t2 <;> rcases Bool.eq_false_or_eq_true (k == 3) with t3 | t3 <;> rcases Bool.eq_false_or_eq_true (k == 4) with t4 | t4
  all_goals first
    | (exfalso; have := t1; have := t2; have := t3; have := t4; simp_all; done)
    | skip
  all_goals
    have hv : needRoot k = (k == 1 || k == 3) ∧ needData k = (k == 1 || k == 2) ∧ needVersion k = (k == 2 || k == 3 || k == 4) := ⟨rfl, rfl, rfl⟩
    simp only [t1, t2, t3, t4, Bool.or_false, Bool.or_true] at hv
    unfold NeedPost
    rw [hv.1, hv.2.1, hv.2.2]
    clear hv
    go_enter Tryd.func42, Tryd.ntmps42
    go_wp2
    refine bodyPost_ret (by simp [results, Tryd.results42, go_sem]; rfl) rfl ?_
    exact ⟨rfl, ((Below.refl _ _).alloc (Nat.le_refl _) _)⟩

def ToldPost (r : Res) (w : World) (e : Ending) (w' : World) : Prop := e = .returned (r.val (.slice none 0 0)) ∧ Below w.heap.size w w'
def GonePost (c : Chg) (w : World) (e : Ending) (w' : World) : Prop := e = .returned c.val ∧ Below w.heap.size w w'
set_option maxHeartbeats 1000000 in
theorem told_any (x : Node) (w : World) : Calls Tryd.prog 45 #[x.val] w (ToldPost (toldOf x) w) := by
  obtain ⟨xp, xd, xv, xm, xc, xo, xn⟩ := x
  unfold ToldPost
  simp only [Node.val, Node.cells, toldOf, Res.val, noText]
  go_enter Tryd.func45, Tryd.ntmps45
  go_wp2
  refine bodyPost_ret (by simp [results, Tryd.results45, go_sem]; rfl) rfl ?_
  exact ⟨rfl, ((Below.refl _ _).alloc (Nat.le_refl _) _).alloc (by simp) _⟩
set_option maxHeartbeats 1000000 in
theorem gone_any (x : Node) (w : World) : Calls Tryd.prog 27 #[x.val] w (GonePost (goneOf x) w) := by
  obtain ⟨xp, xd, xv, xm, xc, xo, xn⟩ := x
  unfold GonePost
  simp only [Node.val, Node.cells, goneOf, Chg.val, Chg.cells, noText]
  go_enter Tryd.func27, Tryd.ntmps27
  go_wp2
  refine bodyPost_ret (by simp [results, Tryd.results27, go_sem]; rfl) rfl ?_
  exact ⟨rfl, ((Below.refl _ _).alloc (Nat.le_refl _) _).alloc (by simp) _⟩
end Go.Proofs.YtpmlfpmedbccaaaDoor
