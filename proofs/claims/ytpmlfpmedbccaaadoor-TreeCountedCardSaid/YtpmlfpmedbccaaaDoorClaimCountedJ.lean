/- TreeCounted: what the row's form asks of the program, each a closed fact of its own (the kernel gives its memory back behind each). -/
import Derived.Test.YtpmlfpmedbccaaaDoorLawCounted
import Derived.Test.YtpmlfpmedbccaaaDoorCards
import Derived.Test.YtpmlfpmedbccaaaDoorTie
namespace Go.Proofs.YtpmlfpmedbccaaaDoor
namespace LawCountedRow
theorem and2 {a b : Bool} (ha : a = true) (hb : b = true) : (a && b) = true := by rw [ha, hb]; rfl
set_option maxHeartbeats 40000000 in
theorem joined : joinedFacts Tryd.prog 6 Tryd.f6 Rows.treeCountedSpec Rows.treeCountedRow = true := by
  unfold joinedFacts
  refine and2 (and2 (and2 (and2 (and2 (and2 (and2 (and2 (and2 (and2 (and2 (and2 (and2 (and2 (and2 (and2 (and2 (and2 (and2 (and2 (and2 (and2 (and2 (and2 (and2 (and2 (and2 (and2 (and2 (and2 (and2 ?_ ?_) ?_) ?_) ?_) ?_) ?_) ?_) ?_) ?_) ?_) ?_) ?_) ?_) ?_) ?_) ?_) ?_) ?_) ?_) ?_) ?_) ?_) ?_) ?_) ?_) ?_) ?_) ?_) ?_) ?_) ?_
  all_goals (as_aux_lemma => kernel_rfl)
end LawCountedRow
end Go.Proofs.YtpmlfpmedbccaaaDoor
