/- TreePart: the claim, by the frame that ClaimXA laid. -/
import Derived.Test.YtpmlfpmedbccaaaGreatDoorClaimPartA
import Derived.Test.YtpmlfpmedbccaaaGreatDoorClaimPartJ
namespace Go.Proofs.YtpmlfpmedbccaaaGreatDoor
namespace LawPartRow
open Go.ChangeShapes Go.WideShapes Go.ChangeAt Go.RowKit
theorem over : Rows.TreePartSaid :=
  OpenClaim.holds_of_wide 5 Tryz.f5 rfl rfl rfl rfl rfl rfl rfl ⟨rfl, rfl, rfl, rfl, rfl⟩ rfl rfl rfl rfl rfl (by kernel_rfl) Tryz.func5 joined
    (of_decide_eq_true (by kernel_rfl)) (by unfold Func.isWrapper; first | (rw [if_pos (by decide +kernel)]; kernel_rfl) | (rw [if_neg (by decide +kernel)]; exact ⟨rfl, rfl⟩))
    (fun os started H enc _ => lifted os started H enc)
end LawPartRow
theorem treePart_holds : Rows.TreePartCardSaid :=
  Claim7.holds_tied_plain_at .later [] [.data, .data, .data, .data, .data, .pinned] true Rows.treePartCard.stood.harness true
    LawPartRow.over (fun _ h => by cases h) (by kernel_rfl) (fun _ h => by cases h) treePart_row_tie rfl ⟨rfl, rfl⟩ (by kernel_rfl) rfl
    (fun f fn hf hfn => by
      obtain rfl : f = 5 := Option.some.inj ((show Tryz.prog.funcNamed "herald/heraldlaw4.TreePart" = some 5 by kernel_rfl).symm.trans hf) |>.symm
      obtain rfl : fn = Tryz.f5 := (Option.some.inj (Tryz.func5.symm.trans hfn)).symm
      exact ⟨by kernel_rfl, fun j t ht => by
        rw [Tryz.params5] at ht
        have h3 : t = 22 ∨ t = 9 := by
          rcases j with _ | _ | j
          · exact .inl (by simpa using ht.symm)
          · exact .inr (by simpa using ht.symm)
          · simp at ht
        rcases h3 with rfl | rfl
        · exact (show Tryz.prog.wantsStandIn 22 = false by kernel_rfl)
        · exact (show Tryz.prog.wantsStandIn 9 = false by kernel_rfl)⟩)
    (by kernel_rfl)
#print axioms treePart_holds
end Go.Proofs.YtpmlfpmedbccaaaGreatDoor
