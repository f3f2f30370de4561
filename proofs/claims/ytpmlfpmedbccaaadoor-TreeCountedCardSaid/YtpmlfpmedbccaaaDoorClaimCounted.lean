/- TreeCounted: the claim, by the frame that ClaimXA laid. -/
import Derived.Test.YtpmlfpmedbccaaaDoorClaimCountedA
import Derived.Test.YtpmlfpmedbccaaaDoorClaimCountedJ
namespace Go.Proofs.YtpmlfpmedbccaaaDoor
namespace LawCountedRow
open Go.ChangeShapes Go.WideShapes Go.ChangeAt Go.RowKit
theorem over : Rows.TreeCountedSaid :=
  OpenClaim.holds_of_wide 6 Tryd.f6 rfl rfl rfl rfl rfl rfl rfl ⟨rfl, rfl, rfl, rfl, rfl⟩ rfl rfl rfl rfl rfl (by kernel_rfl) Tryd.func6 joined
    (of_decide_eq_true (by kernel_rfl)) (by unfold Func.isWrapper; first | (rw [if_pos (by decide +kernel)]; kernel_rfl) | (rw [if_neg (by decide +kernel)]; exact ⟨rfl, rfl⟩))
    (fun os started H enc _ => lifted os started H enc)
end LawCountedRow
theorem treeCounted_holds : Rows.TreeCountedCardSaid :=
  Claim7.holds_tied_plain_at .later [] [.data, .data, .data, .data, .data, .pinned] true Rows.treeCountedCard.stood.harness true
    LawCountedRow.over (fun _ h => by cases h) (by kernel_rfl) (fun _ h => by cases h) treeCounted_row_tie rfl ⟨rfl, rfl⟩ (by kernel_rfl) rfl
    (fun f fn hf hfn => by
      obtain rfl : f = 6 := Option.some.inj ((show Tryd.prog.funcNamed "herald/heraldlaw4.TreeCounted" = some 6 by kernel_rfl).symm.trans hf) |>.symm
      obtain rfl : fn = Tryd.f6 := (Option.some.inj (Tryd.func6.symm.trans hfn)).symm
      exact ⟨by kernel_rfl, fun j t ht => by
        rw [Tryd.params6] at ht
        have h3 : t = 9 ∨ t = 60 := by
          rcases j with _ | _ | j
          · exact .inl (by simpa using ht.symm)
          · exact .inr (by simpa using ht.symm)
          · simp at ht
        rcases h3 with rfl | rfl
        · exact (show Tryd.prog.wantsStandIn 9 = false by kernel_rfl)
        · exact (show Tryd.prog.wantsStandIn 60 = false by kernel_rfl)⟩)
    (by kernel_rfl)
#print axioms treeCounted_holds
end Go.Proofs.YtpmlfpmedbccaaaDoor
