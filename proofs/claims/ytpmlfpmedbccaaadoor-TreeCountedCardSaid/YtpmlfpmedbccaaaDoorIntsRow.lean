/- A list of whole numbers that came in, opened. -/
import Derived.Test.YtpmlfpmedbccaaaDoorLawCounted
import Derived.Test.YtpmlfpmedbccaaaDoorRow
import Derived.ChangeSlices
namespace Go.Proofs.YtpmlfpmedbccaaaDoor
open Go.RowKit Go.ChangeShapes
theorem ints_of_trod {H : Type} {enc : TypeId × Value → H} {W : World} {fuel : Nat} {cs : List Value} {x : DataW H × List MemPlace} (h : DataW.trod enc Tryd.prog W 0 (fun _ => true) true fuel 60 cs = some x) : ∃ v zs, cs = [v] ∧ IntsAt W v zs := by
  rcases open_ints Tryd.underlying60 Tryd.underlying3 (by kernel_rfl) h with ⟨rfl, _⟩ | ⟨a, len, cap, zs, rfl, _, hl, hm, hzl, _, hcell, _⟩
  · exact ⟨_, [], rfl, none, 0, rfl, by simp [maxLen], fun h => absurd rfl h⟩
  · rw [if_pos rfl] at hzl
    have hlen : (zs.take len).length = len := by rw [List.length_take]; omega
    refine ⟨_, zs.take len, rfl, some a, cap, by rw [hlen], by omega, fun _ => ⟨a, rfl, fun k z hk => ?_⟩⟩
    have hkl := (List.getElem?_eq_some_iff.1 hk).1
    rw [hlen] at hkl
    rw [hcell k (by omega)]
    rw [List.getElem?_take_of_lt hkl] at hk
    rw [List.getD_eq_getElem?_getD, hk]
    rfl
end Go.Proofs.YtpmlfpmedbccaaaDoor
