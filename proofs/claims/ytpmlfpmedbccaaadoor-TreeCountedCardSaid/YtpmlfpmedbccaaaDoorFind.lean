/- The law's own 'find', walked: a node of a list, or none. -/
import Derived.Test.YtpmlfpmedbccaaaDoorSteps
namespace Go.Proofs.YtpmlfpmedbccaaaDoor
open Go.RowKit
attribute [local go_sem ↓] Go.wp_at_zero Go.wp_at_succ

theorem info_full7 : (Tryd.prog.info? 43).map (·.size) = some 7 := by kernel_rfl
theorem results_full {fn : Func} {p u : Tmp} (h : fn.results = #[.cell p 43, .tmp u]) (tmps : Array Value) (w : World) (g : Nat) (cs : Array Value) (t : TypeId) (hp : tmps.getD p undef = .pointer (some ⟨g, 0, none⟩)) (hg : w.heap[g]? = some (.cells cs t (0, 0))) (hs : cs.size = 7) :
    (results fn tmps).run Tryd.prog w = .ok (.tuple #[.agg cs, tmps.getD u undef]) w := by
  rw [results_cell_tmp h, hp]
  simp [asAddr, run_loadVar_row w g t _ cs (0, 0) _ hg Tryd.underlying43 rfl (by rw [info_full7, hs]), Result.andThen]
def FindPost (T : List Node) (p : ByteArray) (w : World) (e : Ending) (w' : World) : Prop :=
  e = .returned (.tuple #[((look T p).getD zeroNode).val, .bool (look T p).isSome]) ∧ Below w.heap.size w w'
set_option maxRecDepth 100000 in
set_option maxHeartbeats 1000000 in
theorem find_any (w : World) (base : Nat) (v : Value) (T : List Node) (p : ByteArray) (hv : w.ownsRow base 43 7 v T.length (T.flatMap Node.cells)) (hS : Sorted T) (hT : T.length ≤ 1000000000) :
    Calls Tryd.prog 15 #[v, .string p] w (FindPost T p w) := by
  obtain ⟨a1, c1, rfl, _⟩ := own_form hv
  have HV := Lib.hid hv
  have HS := Lib.hid hS
  clear hv hS
  obtain ⟨r, hr⟩ : ∃ r, look T p = r := ⟨_, rfl⟩
  unfold FindPost
  rw [hr]
  have HR := Lib.hid hr
  clear hr
  go_enter Tryd.func15, Tryd.ntmps15
  go_upto_region 1 with fail
  obtain ⟨fb, hfb⟩ : ∃ fb, w.heap.size = fb := ⟨_, rfl⟩
  generalize hw1 : World.alloc w (Obj.cells _ _) = w1
  have hb1 : Below w.heap.size w w1 := hw1 ▸ ((Below.refl _ _).alloc (Nat.le_refl _) _)
  have hz1 : w1.heap[fb]? = some (.cells zeroNode.cells.toArray 43 (0, 0)) := by rw [← hw1, ← hfb]; exact heap_alloc_new w _
  try rw [hfb]
  have HB1 := Lib.hid hb1
  have HZ1 := Lib.hid hz1
  have HV1 := Lib.hid (own_after HV.out hb1)
  have HFb : Hid (w.heap.size ≤ fb) := Nat.le_of_eq hfb
  clear hw1 hfb hb1 hz1
  go_wp2_with fail
  go_simp
  go_loopg [6] T.length (fun g s6 wr => wr = w1 ∧ ∃ k : Nat, s6 = .int .i64 k ∧ k + g = T.length ∧ ∀ y ∈ T.take k, y.place ≠ p)
  case atStart => exact ⟨rfl, 0, rfl, by omega, by simp⟩
  case round =>
    obtain ⟨rfl, k, rfl, hkg, hno⟩ := hrel
    have HKg := Lib.hid hkg
    have HNo := Lib.hid hno
    clear hkg hno
    by_cases hlt : k < T.length
    · obtain ⟨x, hx⟩ : ∃ x, T[k]? = some x := ⟨_, List.getElem?_eq_getElem hlt⟩
      obtain ⟨g1, cap1, he1, _⟩ := HV1.out.form (by omega)
      injection he1 with e1 e2 e3
      subst e1
      subst e3
      clear e2
      have hnr := NodeRow.of (k := k) HV1.out hx
      have HX := Lib.hid hx
      clear hx
      obtain ⟨xp, xd, xv, xm, xc, xo, xn⟩ := x
      obtain ⟨a0, a1, a2, a3, a4, a5, a6⟩ := hnr
      simp only [] at a0 a1 a2 a3 a4 a5 a6
      have i0 : (0 : Int) ≤ (k : Int) := by omega
      have i1 : (k : Int) < (T.length : Int) := by omega
      rcases Bool.eq_false_or_eq_true (xp.toList == p.toList) with t1 | t1
      · have hp : xp = p := by simp only [ByteArray.toList_eq] at t1; exact str_inj (by simpa using t1)
        have hr : r = some ⟨xp, xd, xv, xm, xc, xo, xn⟩ := HR.out.symm.trans ((look_some_iff HS.out).2 ⟨List.mem_of_getElem? HX.out, hp⟩)
        have HR2 := Lib.hid hr
        clear hr hp
        go_wp2_with (with_reducible show wpList _ _ _ (Oper.mk _ (.store 43 _ _) _ _ _ _ :: _) _ _; refine stop ?_)
        unfold Stop
        refine wpList_store_row rfl _ (.tmp 4) (.tmp 23) rfl fb _ rfl rfl _ _ HZ1.out info_full7 rfl (by simp [Value.oneCell']) ?_
        go_wp2_with fail
        have hr := HR2.out
        subst hr
        refine bodyPost_ret (v := .tuple #[(⟨xp, xd, xv, xm, xc, xo, xn⟩ : Node).val, .bool true]) ?_ rfl ?_
        · refine results_full (p := 4) (u := 5) ?_ _ _ fb _ _ ?_ (setRow_heap _ _ _ _ _ _ HZ1.out) ?_ <;> rfl
        exact ⟨rfl, below_row HB1.out HFb.out _⟩
      · have hp : xp ≠ p := fun e => by rw [e] at t1; simp at t1
        have HP := Lib.hid hp
        clear hp
        go_wp2_with fail
        go_roundg (gk - 1)
        case measure => have := HKg.out; omega
        case rel =>
          refine ⟨rfl, k + 1, by go_num, by have := HKg.out; omega, fun y hy => ?_⟩
          rw [List.take_add_one, HX.out, List.mem_append] at hy
          rcases hy with hy | hy
          · exact HNo.out y hy
          · simp at hy
            rw [hy]
            exact HP.out
    · have hke : k = T.length := by have := HKg.out; omega
      have hge : ¬ (k : Int) < (T.length : Int) := by omega
      have hr : r = none := HR.out.symm.trans (look_none_iff.2 fun y hy => HNo.out y (by rw [hke, List.take_length]; exact hy))
      have HR2 := Lib.hid hr
      clear hr hke
      go_wp2_with (with_reducible show wpList _ _ _ (Oper.mk _ (.store 43 _ _) _ _ _ _ :: _) _ _; refine stop ?_)
      unfold Stop
      refine wpList_store_row rfl _ (.tmp 4) (.tmp 24) rfl fb _ rfl rfl _ _ HZ1.out info_full7 rfl (by simp [Value.oneCell']) ?_
      go_wp2_with fail
      have hr := HR2.out
      subst hr
      refine bodyPost_ret (v := .tuple #[zeroNode.val, .bool false]) ?_ rfl ?_
      · refine results_full (p := 4) (u := 5) ?_ _ _ fb _ _ ?_ (setRow_heap _ _ _ _ _ _ HZ1.out) ?_ <;> rfl
      exact ⟨rfl, below_row HB1.out HFb.out _⟩
end Go.Proofs.YtpmlfpmedbccaaaDoor
