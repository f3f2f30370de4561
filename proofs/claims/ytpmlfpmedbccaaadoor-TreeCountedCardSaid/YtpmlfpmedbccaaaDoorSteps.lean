/- Scripts in memory; what a step of a script does to a tree. -/
import Derived.Test.YtpmlfpmedbccaaaDoorKnown
namespace Go.Proofs.YtpmlfpmedbccaaaDoor
open Go.RowKit
attribute [local go_sem ↓] Go.wp_at_zero Go.wp_at_succ

structure StepV where
  kind : Int
  session : Int
  stamp : Int
  ops : List OpV
  place : ByteArray
  n : Int
/-- A step's six cells from an address on. -/
structure StepAt (w : World) (A : Addr) (s : StepV) (ov : Value) : Prop where
  c0 : w.cell? A = some (.int .i64 s.kind)
  c1 : w.cell? ⟨A.block, A.off + 1, none⟩ = some (.int .i64 s.session)
  c2 : w.cell? ⟨A.block, A.off + 2, none⟩ = some (.int .i64 s.stamp)
  c3 : w.cell? ⟨A.block, A.off + 3, none⟩ = some ov
  c4 : w.cell? ⟨A.block, A.off + 4, none⟩ = some (.string s.place)
  c5 : w.cell? ⟨A.block, A.off + 5, none⟩ = some (.int .i64 s.n)
  ops : OpsAt w ov s.ops
  place : s.place.size ≤ maxLen
theorem StepAt.after {w w' : World} {A : Addr} {s : StepV} {ov : Value} (h : StepAt w A s ov) (hb : Below w.heap.size w w') : StepAt w' A s ov :=
  have q : ∀ {a : Addr} {u : Value}, w.cell? a = some u → w'.cell? a = some u := fun hc => (hb.cell (World.block_lt_of_cell? w _ hc)).trans hc
  ⟨q h.c0, q h.c1, q h.c2, q h.c3, q h.c4, q h.c5, h.ops.after hb, h.place⟩
def StepsAt (w : World) (v : Value) (steps : List StepV) : Prop :=
  ∃ a c, v = .slice a steps.length c ∧ steps.length ≤ maxLen ∧ (steps ≠ [] → ∃ ad, a = some ad ∧ ∀ (k : Nat) s, steps[k]? = some s → ∃ ov, StepAt w (ad.add (k * 6)) s ov)
theorem StepsAt.after {w w' : World} {v : Value} {steps : List StepV} (h : StepsAt w v steps) (hb : Below w.heap.size w w') : StepsAt w' v steps := by
  obtain ⟨a, c, h1, h2, h3⟩ := h
  refine ⟨a, c, h1, h2, fun hne => ?_⟩
  obtain ⟨ad, h4, h5⟩ := h3 hne
  exact ⟨ad, h4, fun k s hs => (h5 k s hs).imp fun ov hov => hov.after hb⟩

def afterStep (s : StepV) (T : List Node) : List Node := if s.kind = 1 then (playOf s.session s.stamp T s.ops).T else if s.kind = 2 then endOf T s.session else T
theorem afterStep_good {s : StepV} {T : List Node} (h : Good T) : Good (afterStep s T) := by
  unfold afterStep
  split
  · exact play_good h _
  split
  · exact h.ended
  · exact h
/-- A tree of the call's own, behind some steps. -/
def TreeNow (w : World) (p : Nat) (T : List Node) (wr : World) : Prop := (∃ r, TreeAt wr p r T ∧ w.heap.size ≤ r) ∧ Good T ∧ Below w.heap.size w wr ∧ w.heap.size ≤ p
theorem TreeNow.after {w wr wd : World} {p : Nat} {T : List Node} (h : TreeNow w p T wr) (hb : Below wr.heap.size wr wd) : TreeNow w p T wd := by
  obtain ⟨⟨r, h1, h2⟩, h3, h4, h5⟩ := h
  exact ⟨⟨r, h1.below hb (Nat.le_refl _), h2⟩, h3, h4.trans (hb.mono h4.size), h5⟩
theorem TreeNow.drew {w wr : World} {p : Nat} {T : List Node} (h : TreeNow w p T wr) : TreeNow w p T wr.drew := h.after (Below.refl _ _).drew
theorem TreeNow.env {w wr : World} {p : Nat} {T : List Node} (h : TreeNow w p T wr) (he : Env w) : Env wr := he.after h.2.2.1
/-- What a request leaves of a tree of the call's own. -/
def PlayNow (w : World) (p : Nat) (st : Int) (m : Played) (wr : World) (e : Ending) (w' : World) : Prop :=
  ∃ rv cv, e = .returned (.tuple #[replyVal st m.code m.at_ rv, cv]) ∧ ResRow wr.heap.size w' rv m.res ∧ w'.ownsRow wr.heap.size 58 4 cv m.chg.length (m.chg.flatMap Chg.cells) ∧ TreeNow w p m.T w' ∧ (∀ e, e ≠ 68 → Keeps e wr w') ∧ But (fun i => i = p) wr w'
theorem Play_now (w : World) (p : Nat) (T : List Node) (wr : World) (h : TreeNow w p T wr) (he : Env w) (ses st : Int) (ov : Value) (ops : List OpV) (ho : OpsAt wr ov ops) :
    Calls Tryd.prog 9 #[.pointer (some ⟨p, 0, none⟩), .int .i64 ses, .int .i64 st, ov] wr (PlayNow w p st (playOf ses st T ops) wr) := by
  obtain ⟨⟨r, hT, hr⟩, hG, hb, hp⟩ := h
  refine (Play_tree wr p r T hT (he.after hb) hG ses st ov ops ho).mono ?_
  rintro e w' ⟨rv, cv, r', he', hres, hcv, hT', hr', hB⟩
  have hb' : Below w.heap.size w w' := hb.trans (hB.below (fun i hi => hi ▸ hp) hb.size)
  refine ⟨rv, cv, he', hres, hcv, ⟨⟨r', hT', ?_⟩, play_good hG ops, hb', hp⟩, fun e he => keepsPlay hT hB he, hB⟩
  rcases hr' with h | h
  · exact h ▸ hr
  · exact Nat.le_trans hb.size h
def EndNow (w : World) (p : Nat) (T : List Node) (ses : Int) (wr : World) (e : Ending) (w' : World) : Prop :=
  ∃ cv, e = .returned cv ∧ w'.ownsRow wr.heap.size 58 4 cv (endChg T ses).length ((endChg T ses).flatMap Chg.cells) ∧ TreeNow w p (endOf T ses) w' ∧ (∀ e, Keeps e wr w')
theorem keepsEnd {w w' : World} {r : Nat} {T : List Node} (hm : MapAt w r T) (hB : But (fun i => i = r) w w') (e : TypeId) : Keeps e w w' := fun g cur hc => hB.block g (Array.getElem?_eq_some_iff.1 hc).1 fun hg => by
  obtain ⟨es, clock, L, h1, _⟩ := hm
  rw [hg, h1] at hc
  cases hc
theorem End_now (w : World) (p : Nat) (T : List Node) (wr : World) (h : TreeNow w p T wr) (ses : Int) :
    Calls Tryd.prog 10 #[.pointer (some ⟨p, 0, none⟩), .int .i64 ses] wr (EndNow w p T ses wr) := by
  obtain ⟨⟨r, hT, hr⟩, hG, hb, hp⟩ := h
  refine (End_tree wr p r T hT hG ses).mono ?_
  rintro e w' ⟨cv, he, hcv, hT', hB⟩
  have hb' : Below w.heap.size w w' := hb.trans (hB.below (fun i hi => hi ▸ hr) hb.size)
  exact ⟨cv, he, hcv, ⟨⟨r, hT', hr⟩, hG.ended, hb', hp⟩, keepsEnd hT.map hB⟩
def NodesNow (w : World) (p : Nat) (T : List Node) (wr : World) (e : Ending) (w' : World) : Prop :=
  ∃ v, e = .returned v ∧ w'.ownsRow wr.heap.size 43 7 v T.length (T.flatMap Node.cells) ∧ Below wr.heap.size wr w' ∧ TreeNow w p T w'
theorem Nodes_now (w : World) (p : Nat) (T : List Node) (wr : World) (h : TreeNow w p T wr) :
    Calls Tryd.prog 11 #[.pointer (some ⟨p, 0, none⟩)] wr (NodesNow w p T wr) := by
  have hG := h.2.1
  obtain ⟨r, hT, hr⟩ := h.1
  refine (nodes_tree wr p r T hT (fun x hx => by have := hG.size x hx; simp only [maxLen]; omega) (by have := hG.few; omega)).mono ?_
  rintro e w' ⟨v, he, ho, hb⟩
  exact ⟨v, he, ho, hb, h.after hb⟩
theorem New_now (w : World) : Calls Tryd.prog 8 #[] w fun e w' => ∃ p, e = .returned (.pointer (some ⟨p, 0, none⟩)) ∧ TreeNow w p [rootNode] w' :=
  (new_any w).mono fun e w' ⟨p, r, h1, h2, h3, _, h5, h6⟩ => ⟨p, h1, ⟨r, h6, h3⟩, good_new, h5, h2⟩
end Go.Proofs.YtpmlfpmedbccaaaDoor
