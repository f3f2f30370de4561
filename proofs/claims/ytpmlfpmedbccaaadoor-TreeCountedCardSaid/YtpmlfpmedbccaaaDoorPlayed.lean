/- The laws' own helper 'played', walked: a new tree behind the requests and ends of a script. -/
import Derived.Test.YtpmlfpmedbccaaaDoorSteps
namespace Go.Proofs.YtpmlfpmedbccaaaDoor
open Go.RowKit
attribute [local go_sem ↓] Go.wp_at_zero Go.wp_at_succ

def PlayedPost (w : World) (e : Ending) (w' : World) : Prop := ∃ p T, e = .returned (.pointer (some ⟨p, 0, none⟩)) ∧ TreeNow w p T w'
set_option maxRecDepth 100000 in
set_option maxHeartbeats 2000000 in
theorem played_any (w : World) (he : Env w) (v : Value) (steps : List StepV) (hs : StepsAt w v steps) : Calls Tryd.prog 14 #[v] w (PlayedPost w) := by
  have HE := Lib.hid he
  obtain ⟨a, c, rfl, hmax, hcell⟩ := hs
  have HCell := Lib.hid hcell
  unfold maxLen at hmax
  clear he hcell
  go_enter Tryd.func14, Tryd.ntmps14
  go_wp2_with (go_at_call 8; refine (New_now w).mono ?_; rintro e w1 ⟨p, rfl, hN1⟩; replace hN1 := Lib.hid hN1)
  go_simp
  go_loopg [4] steps.length (fun g s4 wr => ∃ (k : Nat) (T : List Node), s4 = .int .i64 k ∧ k + g = steps.length ∧ TreeNow w p T wr)
  case atStart => exact ⟨0, _, rfl, by omega, hN1.out⟩
  case round =>
    obtain ⟨k, T, rfl, hkg, hN⟩ := hrel
    have HKg := Lib.hid hkg
    have HN := Lib.hid hN
    clear hkg hN hN1
    by_cases hlt : k < steps.length ∧ k < 120
    · --[
      obtain ⟨hl1, hl2⟩ := hlt
      obtain ⟨s, hsk⟩ : ∃ s, steps[k]? = some s := ⟨_, List.getElem?_eq_getElem hl1⟩
      obtain ⟨ad, had, hst⟩ := HCell.out (fun e => by rw [e] at hl1; simp at hl1)
      subst had
      obtain ⟨ov, hov⟩ := hst k s hsk
      have hov := hov.after HN.out.2.2.1
      obtain ⟨c0, c1, c2, c3, c4, c5, hops, _⟩ := hov
      have HOps := Lib.hid hops
      clear hst hsk hops c4 c5
      have i0 : (0 : Int) ≤ (k : Int) := by omega
      have i1 : (k : Int) < (steps.length : Int) := by omega
      have i2 : decide ((k : Int) < (steps.length : Int)) = true := by simp; omega
      have i3 : decide ((k : Int) < 120) = true := by simp; omega
      go_upto_region 6 with fail
      rcases Bool.eq_false_or_eq_true (s.kind == 1) with t1 | t1
      · have hplay := Play_now w p T wr.drew HN.out.drew HE.out s.session s.stamp ov s.ops (HOps.out.after (Below.refl _ _).drew)
        go_upto_region 7 with fail
        go_still_tail 16, (by kernel_rfl)
        change wpList _ _ _ _ _ (World.drew wr)
        go_wp2_with (go_at_call 9; refine hplay.mono ?_; rintro e w2 ⟨rv, cv, rfl, _, _, hT2, _, _⟩; replace hT2 := Lib.hid hT2)
        go_roundg (gk - 1)
        case measure => have := HKg.out; omega
        case rel => exact ⟨k + 1, _, by go_num, by have := HKg.out; omega, hT2.out⟩
      · rcases Bool.eq_false_or_eq_true (s.kind == 2) with t2 | t2
        · have hend := End_now w p T wr HN.out s.session
          go_wp2_with (go_at_call 10; refine hend.mono ?_; rintro e w2 ⟨cv, rfl, _, hT2, _⟩; replace hT2 := Lib.hid hT2)
          go_roundg (gk - 1)
          case measure => have := HKg.out; omega
          case rel => exact ⟨k + 1, _, by go_num, by have := HKg.out; omega, hT2.out⟩
        · go_wp2_with fail
          go_roundg (gk - 1)
          case measure => have := HKg.out; omega
          case rel => exact ⟨k + 1, _, by go_num, by have := HKg.out; omega, HN.out⟩
      --]
    · --[
      by_cases hl1 : k < steps.length
      · have i2 : decide ((k : Int) < (steps.length : Int)) = true := by simp; omega
        have i3 : decide ((k : Int) < 120) = false := by simp; omega
        go_wp2_with fail
        go_ret
        exact ⟨p, T, rfl, HN.out⟩
      · have i2 : decide ((k : Int) < (steps.length : Int)) = false := by simp; omega
        go_wp2_with fail
        go_ret
        exact ⟨p, T, rfl, HN.out⟩
      --]
end Go.Proofs.YtpmlfpmedbccaaaDoor
