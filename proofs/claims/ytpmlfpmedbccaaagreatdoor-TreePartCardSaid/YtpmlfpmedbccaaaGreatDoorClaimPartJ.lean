/- TreePart: what the row's form asks of the program, each a closed fact of its own (the kernel gives its memory back behind each). -/
import Derived.Test.YtpmlfpmedbccaaaGreatDoorLawPart
import Derived.Test.YtpmlfpmedbccaaaGreatDoorCards
import Derived.Test.YtpmlfpmedbccaaaGreatDoorTie
namespace Go.Proofs.YtpmlfpmedbccaaaGreatDoor
namespace LawPartRow
theorem and2 {a b : Bool} (ha : a = true) (hb : b = true) : (a && b) = true := by rw [ha, hb]; rfl
set_option maxHeartbeats 40000000 in
theorem joined : joinedFacts Tryz.prog 5 Tryz.f5 Rows.treePartSpec Rows.treePartRow = true := by
  unfold joinedFacts
  refine and2 (and2 (and2 (and2 (and2 (and2 (and2 (and2 (and2 (and2 (and2 (and2 (and2 (and2 (and2 (and2 (and2 (and2 (and2 (and2 (and2 (and2 (and2 (and2 (and2 (and2 (and2 (and2 (and2 (and2 (and2 ?_ ?_) ?_) ?_) ?_) ?_) ?_) ?_) ?_) ?_) ?_) ?_) ?_) ?_) ?_) ?_) ?_) ?_) ?_) ?_) ?_) ?_) ?_) ?_) ?_) ?_) ?_) ?_) ?_) ?_) ?_) ?_
  all_goals (as_aux_lemma => kernel_rfl)
end LawPartRow
end Go.Proofs.YtpmlfpmedbccaaaGreatDoor
