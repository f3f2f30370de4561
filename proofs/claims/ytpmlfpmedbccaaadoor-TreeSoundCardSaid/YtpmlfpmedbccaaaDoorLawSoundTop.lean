/- The law TreeSound, walked whole: for every script it answers true. -/
import Derived.Test.YtpmlfpmedbccaaaDoorLawSound
namespace Go.Proofs.YtpmlfpmedbccaaaDoor
open Go.RowKit
attribute [local go_sem ↓] Go.wp_at_zero Go.wp_at_succ

def LawPost (w : World) (e : Ending) (w' : World) : Prop := e = .returned (.bool true) ∧ Below w.heap.size w w'
set_option maxRecDepth 100000 in
set_option maxHeartbeats 2000000 in
theorem TreeSound_any (w : World) (he : Env w) (v : Value) (steps : List StepV) (hs : StepsAt w v steps) : Calls Tryd.prog 3 #[v] w (LawPost w) := by
  have HE := Lib.hid he
  have HS := Lib.hid hs
  obtain ⟨a, c, rfl, hmax, hcell⟩ := hs
  have HCell := Lib.hid hcell
  unfold maxLen at hmax
  clear he hcell
  go_enter Tryd.func3, Tryd.ntmps3
  go_wp2_with (go_at_call 8; refine (New_now w).mono ?_; rintro e w1 ⟨p, rfl, hN1⟩; replace hN1 := Lib.hid hN1)
  go_simp
  go_loopg [4] steps.length (fun g s4 wr => ∃ (k : Nat) (T : List Node), s4 = .int .i64 k ∧ k + g = steps.length ∧ TreeNow w p T wr)
  case atStart => exact ⟨0, _, rfl, by omega, hN1.out⟩
  case round =>
    obtain ⟨k, T, rfl, hkg, hN⟩ := hrel
    have HKg := Lib.hid hkg
    have HN := Lib.hid hN
    clear hkg hN hN1
    by_cases hlt : k < steps.length ∧ k < 120
    · --[
      obtain ⟨hl1, hl2⟩ := hlt
      obtain ⟨s, hsk⟩ : ∃ s, steps[k]? = some s := ⟨_, List.getElem?_eq_getElem hl1⟩
      obtain ⟨ad, had, hst⟩ := HCell.out (fun e => by rw [e] at hl1; simp at hl1)
      subst had
      obtain ⟨ov, hov⟩ := hst k s hsk
      have hov := hov.after HN.out.2.2.1
      have HOv := Lib.hid hov
      obtain ⟨c0, c1, c2, c3, c4, c5, hops, _⟩ := hov
      have HOps := Lib.hid hops
      clear hst hsk hops hov c4 c5
      have i0 : (0 : Int) ≤ (k : Int) := by omega
      have i1 : (k : Int) < (steps.length : Int) := by omega
      have i2 : decide ((k : Int) < (steps.length : Int)) = true := by simp; omega
      have i3 : decide ((k : Int) < 120) = true := by simp; omega
      go_upto_block 2 with fail
      go_cut [] from 25 to 52 (fun wd => TreeNow w p (afterStep s T) wd)
      case first =>
        rcases Bool.eq_false_or_eq_true (s.kind == 1) with t1 | t1
        · have e1 : afterStep s T = (playOf s.session s.stamp T s.ops).T := if_pos (by simpa using t1)
          have E1 := Lib.hid e1
          have hplay := Play_now w p T wr.drew HN.out.drew HE.out s.session s.stamp ov s.ops (HOps.out.after (Below.refl _ _).drew)
          clear e1
          go_upto_region 9 with fail
          go_still_tail 16, (by kernel_rfl)
          change wpList _ _ _ _ _ (World.drew wr)
          go_wp2_with (go_at_call 9; refine hplay.mono ?_; rintro e w2 ⟨rv, cv, rfl, _, _, hT2, _, _⟩; replace hT2 := Lib.hid hT2)
          go_meet
          case rel => rw [E1.out]; exact hT2.out
        · rcases Bool.eq_false_or_eq_true (s.kind == 2) with t2 | t2
          · have e1 : afterStep s T = endOf T s.session := by
              unfold afterStep
              rw [if_neg (by simpa using t1), if_pos (by simpa using t2)]
            have E1 := Lib.hid e1
            have hend := End_now w p T wr HN.out s.session
            clear e1
            go_wp2_with (go_at_call 10; refine hend.mono ?_; rintro e w2 ⟨cv, rfl, _, hT2, _⟩; replace hT2 := Lib.hid hT2)
            go_meet
            case rel => rw [E1.out]; exact hT2.out
          · have e1 : afterStep s T = T := by
              unfold afterStep
              rw [if_neg (by simpa using t1), if_neg (by simpa using t2)]
            have E1 := Lib.hid e1
            clear e1
            go_wp2_with fail
            go_meet
            case rel => rw [E1.out]; exact HN.out
      case rest =>
        have HC := Lib.hid hcut
        clear hcut c0 c1 c2 c3 HN HOv HOps
        have hnodes := Nodes_now w p (afterStep s T) wc HC.out
        go_upto_region 13 with (go_at_call 11; refine hnodes.mono ?_; rintro e w3 ⟨nv, rfl, ho3, _, hT3⟩; replace ho3 := Lib.hid ho3; replace hT3 := Lib.hid hT3)
        have hsound := sound_any w3 wc.heap.size nv (afterStep s T) ho3.out hT3.out.2.1 (hT3.out.env HE.out)
        clear hnodes
        go_wp2_with (go_at_call 12; refine hsound.mono ?_; rintro e w4 ⟨rfl, hb4⟩; replace hb4 := Lib.hid hb4)
        go_roundg (gk - 1)
        case measure => have := HKg.out; omega
        case rel => exact ⟨k + 1, _, by go_num, by have := HKg.out; omega, hT3.out.after hb4.out⟩
      --]
    · --[
      have hkn := known_any wr (HN.out.env HE.out)
      have hz : Hid (Below w.heap.size w wr) := HN.out.2.2.1
      by_cases hl1 : k < steps.length
      · have i2 : decide ((k : Int) < (steps.length : Int)) = true := by simp; omega
        have i3 : decide ((k : Int) < 120) = false := by simp; omega
        go_wp2_with (go_at_call 13; refine hkn.mono ?_; rintro e w2 ⟨rfl, hb2⟩; replace hb2 := Lib.hid hb2)
        go_ret
        exact ⟨rfl, hz.out.trans (hb2.out.mono hz.out.size)⟩
      · have i2 : decide ((k : Int) < (steps.length : Int)) = false := by simp; omega
        go_wp2_with (go_at_call 13; refine hkn.mono ?_; rintro e w2 ⟨rfl, hb2⟩; replace hb2 := Lib.hid hb2)
        go_ret
        exact ⟨rfl, hz.out.trans (hb2.out.mono hz.out.size)⟩
      --]
end Go.Proofs.YtpmlfpmedbccaaaDoor
