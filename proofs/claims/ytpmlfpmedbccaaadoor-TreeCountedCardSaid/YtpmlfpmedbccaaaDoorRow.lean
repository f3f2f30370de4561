/- What the rows of this seat share: the script opened, the variables' contents, a world that meets the rows' condition. -/
import Derived.Test.YtpmlfpmedbccaaaDoorRows
import Derived.Test.YtpmlfpmedbccaaaDoorSteps
import Derived.ProofKit
import Derived.LaidMore
import Derived.OpenShut
import Derived.Stop.Joined
import Derived.Lib.LaidTab
import Derived.Shelf.Vars
import Derived.Handed
import Derived.Deep.Slices
import Derived.Stop.LaidErr
namespace Go.Proofs.YtpmlfpmedbccaaaDoor
open Go.ChangeShapes Go.WideShapes Go.ChangeAt Go.RowKit

/-! ### the data opened -/
instance : Inhabited OpV := ⟨⟨0, noText, noText, 0, 0⟩⟩
instance : Inhabited StepV := ⟨⟨0, 0, 0, [], noText, 0⟩⟩
section
variable {H : Type} {enc : TypeId × Value → H} {P : Program} {w : World} {base : Nat} {sp : Nat → Bool} {held : Bool}
theorem trod_int_cell {t : TypeId} {k : IntKind} {n : Nat} {cs : List Value} {x : DataW H × List MemPlace} (ht : P.underlying t = some (.int k)) (h : DataW.trod enc P w base sp held n t cs = some x) : ∃ z, cs = [.int k z] := by
  obtain ⟨z, h1, _⟩ := DataW.trod_int ht h
  exact ⟨z, h1⟩
theorem trod_str_cell {t : TypeId} {n : Nat} {cs : List Value} {x : DataW H × List MemPlace} (ht : P.underlying t = some .string) (h : DataW.trod enc P w base sp held n t cs = some x) : ∃ s : ByteArray, cs = [.string s] ∧ s.size ≤ maxLen := by
  cases n with
  | zero => simp [DataW.trod] at h
  | succ n =>
    unfold DataW.trod at h
    rw [ht] at h
    split at h <;> simp_all
theorem trod_slice_cell {t e : TypeId} {n : Nat} {cs : List Value} {x : DataW H × List MemPlace} (ht : P.underlying t = some (.slice e)) (h : DataW.trod enc P w base sp held n t cs = some x) :
    (cs = [.slice none 0 0]) ∨ ∃ a len cap m, cs = [.slice (some a) len cap] ∧ len ≤ maxLen ∧ ∀ i, i < len → ∃ cs', w.cells? base (a.add (i * P.cellsOf e)) (P.cellsOf e) = some cs' ∧ ∃ y, DataW.trod enc P w base sp held m e cs' = some y := by
  rcases DataW.trod_slice ht h with ⟨h1, _⟩ | ⟨a, len, cap, elems, rest, m, _, rfl, _, _, hl, hm, hlen, hel, _⟩
  · exact .inl h1
  · refine .inr ⟨a, len, cap, m, rfl, Nat.le_trans hl hm, fun i hi => ?_⟩
    have := hel i hi
    rw [List.getElem?_eq_getElem (by omega)] at this
    obtain ⟨cs', h1, h2⟩ := Option.bind_eq_some_iff.1 this
    exact ⟨cs', h1, _, h2⟩
end
theorem take_one {cs : List Value} {o : Nat} {v : Value} (h : (cs.drop o).take 1 = [v]) : cs[o]? = some v := by
  have := congrArg (·[0]?) h
  simpa [List.getElem?_take, List.getElem?_drop] using this
theorem cells_at {w : World} {base n : Nat} {a : Addr} {cs : List Value} (h : w.cells? base a n = some cs) : cs.length = n ∧ ∀ j u, cs[j]? = some u → w.cell? (a.add j) = some u := by
  obtain ⟨_, hl, hc⟩ := World.cells?_some h
  refine ⟨hl, fun j u hj => ?_⟩
  have := hc j (by have := (List.getElem?_eq_some_iff.1 hj).1; omega)
  rw [this]
  exact hj
theorem c_int : Tryd.prog.cellsOf 3 = 1 := by kernel_rfl
theorem c_str : Tryd.prog.cellsOf 9 = 1 := by kernel_rfl
theorem c_ops : Tryd.prog.cellsOf 25 = 1 := by kernel_rfl
theorem c_op : Tryd.prog.cellsOf 50 = 5 := by kernel_rfl
theorem c_step : Tryd.prog.cellsOf 27 = 6 := by kernel_rfl
section
variable {H : Type} {enc : TypeId × Value → H} {w : World} {base : Nat} {sp : Nat → Bool} {held : Bool}
theorem op_of_trod {n : Nat} {cs : List Value} {x : DataW H × List MemPlace} (h : DataW.trod enc Tryd.prog w base sp held n 50 cs = some x) : ∃ o : OpV, cs = o.cells ∧ o.place.size ≤ maxLen := by
  obtain ⟨xs, m, _, _, hl, hn, hf⟩ := DataW.trod_struct Tryd.underlying50 h
  rw [c_op] at hl
  have f0 : DataW.trod enc Tryd.prog w base sp held m 3 ((cs.drop 0).take (Tryd.prog.cellsOf 3)) = xs[0]? := hf 0 _ rfl
  have f1 : DataW.trod enc Tryd.prog w base sp held m 9 ((cs.drop 1).take (Tryd.prog.cellsOf 9)) = xs[1]? := hf 1 _ rfl
  have f2 : DataW.trod enc Tryd.prog w base sp held m 9 ((cs.drop 2).take (Tryd.prog.cellsOf 9)) = xs[2]? := hf 2 _ rfl
  have f3 : DataW.trod enc Tryd.prog w base sp held m 3 ((cs.drop 3).take (Tryd.prog.cellsOf 3)) = xs[3]? := hf 3 _ rfl
  have f4 : DataW.trod enc Tryd.prog w base sp held m 3 ((cs.drop 4).take (Tryd.prog.cellsOf 3)) = xs[4]? := hf 4 _ rfl
  have hn : xs.length = 5 := hn
  rw [List.getElem?_eq_getElem (by omega)] at f0 f1 f2 f3 f4
  simp only [c_int, c_str] at f0 f1 f2 f3 f4
  obtain ⟨z0, e0⟩ := trod_int_cell Tryd.underlying3 f0
  obtain ⟨z1, e1, b1⟩ := trod_str_cell Tryd.underlying9 f1
  obtain ⟨z2, e2, _⟩ := trod_str_cell Tryd.underlying9 f2
  obtain ⟨z3, e3⟩ := trod_int_cell Tryd.underlying3 f3
  obtain ⟨z4, e4⟩ := trod_int_cell Tryd.underlying3 f4
  refine ⟨⟨z0, z1, z2, z3, z4⟩, ?_, b1⟩
  have g0 := take_one e0
  have g1 := take_one e1
  have g2 := take_one e2
  have g3 := take_one e3
  have g4 := take_one e4
  clear e0 e1 e2 e3 e4 f0 f1 f2 f3 f4 hf h
  match cs, hl, g0, g1, g2, g3, g4 with
  | [a0, a1, a2, a3, a4], _, g0, g1, g2, g3, g4 =>
    rw [show a0 = _ from Option.some.inj g0, show a1 = _ from Option.some.inj g1, show a2 = _ from Option.some.inj g2, show a3 = _ from Option.some.inj g3, show a4 = _ from Option.some.inj g4]
    rfl
theorem ops_of_trod {n : Nat} {cs : List Value} {x : DataW H × List MemPlace} (h : DataW.trod enc Tryd.prog w base sp held n 25 cs = some x) : ∃ v ops, cs = [v] ∧ OpsAt w v ops := by
  rcases trod_slice_cell Tryd.underlying25 h with rfl | ⟨a, len, cap, m, rfl, hm, hel⟩
  · exact ⟨_, [], rfl, _, _, rfl, by simp, fun h => absurd rfl h⟩
  · have key : ∀ i, i < len → ∃ o : OpV, o.place.size ≤ maxLen ∧ ∀ j u, o.cells[j]? = some u → w.cell? ((a.add (i * 5)).add j) = some u := fun i hi => by
      obtain ⟨cs', h1, y, h2⟩ := hel i hi
      rw [c_op] at h1
      obtain ⟨o, rfl, ho⟩ := op_of_trod h2
      exact ⟨o, ho, (cells_at h1).2⟩
    obtain ⟨f, hf⟩ := Go.Deep.choose_lt key
    refine ⟨_, (List.range len).map f, rfl, some a, cap, by simp, fun o ho => ?_, fun _ => ⟨a, rfl, fun k o hk j u hu => ?_⟩⟩
    · obtain ⟨i, hi, rfl⟩ := List.mem_map.1 ho
      exact (hf i (List.mem_range.1 hi)).1
    · rw [List.getElem?_map] at hk
      obtain ⟨i, hi, rfl⟩ := Option.map_eq_some_iff.1 hk
      have hkl : k < len := by have := (List.getElem?_eq_some_iff.1 hi).1; simpa using this
      have : i = k := by rw [List.getElem?_range hkl] at hi; exact (Option.some.inj hi).symm
      subst this
      exact (hf i hkl).2 j u hu
theorem step_of_trod {n : Nat} {a : Addr} {cs : List Value} {x : DataW H × List MemPlace} (hc : w.cells? base a 6 = some cs) (h : DataW.trod enc Tryd.prog w base sp held n 27 cs = some x) : ∃ s ov, StepAt w a s ov := by
  obtain ⟨xs, m, _, _, hl, hn, hf⟩ := DataW.trod_struct Tryd.underlying27 h
  rw [c_step] at hl
  have f0 : DataW.trod enc Tryd.prog w base sp held m 3 ((cs.drop 0).take (Tryd.prog.cellsOf 3)) = xs[0]? := hf 0 _ rfl
  have f1 : DataW.trod enc Tryd.prog w base sp held m 3 ((cs.drop 1).take (Tryd.prog.cellsOf 3)) = xs[1]? := hf 1 _ rfl
  have f2 : DataW.trod enc Tryd.prog w base sp held m 3 ((cs.drop 2).take (Tryd.prog.cellsOf 3)) = xs[2]? := hf 2 _ rfl
  have f3 : DataW.trod enc Tryd.prog w base sp held m 25 ((cs.drop 3).take (Tryd.prog.cellsOf 25)) = xs[3]? := hf 3 _ rfl
  have f4 : DataW.trod enc Tryd.prog w base sp held m 9 ((cs.drop 4).take (Tryd.prog.cellsOf 9)) = xs[4]? := hf 4 _ rfl
  have f5 : DataW.trod enc Tryd.prog w base sp held m 3 ((cs.drop 5).take (Tryd.prog.cellsOf 3)) = xs[5]? := hf 5 _ rfl
  have hn : xs.length = 6 := hn
  rw [List.getElem?_eq_getElem (by omega)] at f0 f1 f2 f3 f4 f5
  simp only [c_int, c_str, c_ops] at f0 f1 f2 f3 f4 f5
  obtain ⟨z0, e0⟩ := trod_int_cell Tryd.underlying3 f0
  obtain ⟨z1, e1⟩ := trod_int_cell Tryd.underlying3 f1
  obtain ⟨z2, e2⟩ := trod_int_cell Tryd.underlying3 f2
  obtain ⟨ov, ops, e3, hops⟩ := ops_of_trod f3
  obtain ⟨z4, e4, b4⟩ := trod_str_cell Tryd.underlying9 f4
  obtain ⟨z5, e5⟩ := trod_int_cell Tryd.underlying3 f5
  have q := (cells_at hc).2
  exact ⟨⟨z0, z1, z2, ops, z4, z5⟩, ov, q 0 _ (take_one e0), q 1 _ (take_one e1), q 2 _ (take_one e2), q 3 _ (take_one e3), q 4 _ (take_one e4), q 5 _ (take_one e5), hops, b4⟩
theorem steps_of_trod {n : Nat} {cs : List Value} {x : DataW H × List MemPlace} (h : DataW.trod enc Tryd.prog w base sp held n 22 cs = some x) : ∃ v steps, cs = [v] ∧ StepsAt w v steps := by
  rcases trod_slice_cell Tryd.underlying22 h with rfl | ⟨a, len, cap, m, rfl, hm, hel⟩
  · exact ⟨_, [], rfl, _, _, rfl, Nat.zero_le _, fun h => absurd rfl h⟩
  · have key : ∀ i, i < len → ∃ s : StepV, ∃ ov, StepAt w (a.add (i * 6)) s ov := fun i hi => by
      obtain ⟨cs', h1, y, h2⟩ := hel i hi
      rw [c_step] at h1
      exact step_of_trod h1 h2
    obtain ⟨f, hf⟩ := Go.Deep.choose_lt key
    refine ⟨_, (List.range len).map f, rfl, some a, cap, by simp, by simpa using hm, fun _ => ⟨a, rfl, fun k s hk => ?_⟩⟩
    rw [List.getElem?_map] at hk
    obtain ⟨i, hi, rfl⟩ := Option.map_eq_some_iff.1 hk
    have hkl : k < len := by have := (List.getElem?_eq_some_iff.1 hi).1; simpa using this
    have : i = k := by rw [List.getElem?_range hkl] at hi; exact (Option.some.inj hi).symm
    subst this
    exact hf i hkl
end

/-! ### the variables -/
def laidAll : List (String × DataW Unit) := [("math/bits.deBruijn32tab", Rows.laid_math_bits_deBruijn32tab), ("math/bits.deBruijn64tab", Rows.laid_math_bits_deBruijn64tab), ("internal/strconv.uint64pow10", Rows.laid_internal_strconv_uint64pow10), ("unicode/utf8.acceptRanges", Rows.laid_unicode_utf8_acceptRanges), ("herald/place.named", Rows.laid_herald_place_named), ("unicode/utf8.first", Rows.laid_unicode_utf8_first)]
theorem own : ownKnob Tryd.prog.godebug = none := by kernel_rfl
theorem laidOut : laidOutB Tryd.prog = true := by kernel_rfl
theorem env_of {W : World} (h : laidMetH Tryd.prog laidAll W) (hs : W.ShapedOpen Tryd.prog) : Env W := by
  rw [MakeChecks.laidMetH_plain _ _ _ (by kernel_rfl)] at h
  have h3 := h.tail.tail
  have h5 := h3.tail.tail
  have e3 : Rows.laid_internal_strconv_uint64pow10 = (Lib.tabData .u64 Lib.pow10Tab : DataW Unit) := by kernel_rfl
  have e5 : Rows.laid_herald_place_named = (Lib.tabData .u8 namedTab : DataW Unit) := by kernel_rfl
  rw [e3] at h3
  rw [e5] at h5
  have t3 := Lib.tabIs_of_head (g := 2) (by kernel_rfl) (by kernel_rfl) Tryd.underlying159 Tryd.underlying126 (by kernel_rfl) (by kernel_rfl) h3
  have t5 := Lib.tabIs_of_head (g := 0) (by kernel_rfl) (by kernel_rfl) Tryd.underlying102 Tryd.underlying5 (by kernel_rfl) (by kernel_rfl) h5
  have hsz : Tryd.prog.globals.size ≤ W.heap.size := by
    obtain ⟨⟨zero, t⟩, hzt⟩ := Option.isSome_iff_exists.1 (show (((begin Tryd.prog (fun _ _ => 0) default).world.heap[Tryd.prog.globals.size - 1]?).bind Obj.row?).isSome = true by kernel_rfl)
    obtain ⟨cs, hh, _⟩ := hs.1 (Tryd.prog.globals.size - 1) zero t (of_decide_eq_true (by kernel_rfl)) hzt
    have := (Array.getElem?_eq_some_iff.1 hh).1
    omega
  exact ⟨cell_of_shapedOpen_int hs (g := 1) (t := 3) (zero := #[.int .i64 0]) (of_decide_eq_true (by kernel_rfl)) (by kernel_rfl) rfl (by kernel_rfl) (by kernel_rfl) Tryd.underlying3,
    fun i hi => t5.cell (g := 0) (by kernel_rfl) i (by rw [show namedTab.length = 128 from by simp [namedTab]]; exact hi), t3, hsz⟩

/-! ### a world that meets the rows' condition -/
def firstTab : List Int := (List.replicate 128 240) ++ (List.replicate 66 241) ++ (List.replicate 30 2) ++ [19] ++ (List.replicate 12 3) ++ [35, 3, 3, 52, 4, 4, 4, 68] ++ (List.replicate 11 241)
noncomputable def laidWorld (os : Os) : World :=
  let w0 := World.doorLaid Tryd.prog 39 os
  { w0 with heap := w0.heap.modify 3 fun
      | .cells _ t frozen => .cells (firstTab.map fun z => Value.int .u8 z).toArray t frozen
      | o => o }
theorem laid_met (os : Os) (args : Array Value) : laidMetH Tryd.prog laidAll ((laidWorld os).forCall (fun _ _ => 0) ⟨#[], args, []⟩).memory :=
  laidMetH_of_parts3 (fuel := 8) (laidMet_of_run' 8 (by kernel_rfl) (by kernel_rfl)) (by kernel_rfl) (by kernel_rfl)

section
variable {H : Type} {enc : TypeId × Value → H}
/-- The wrap: the row's condition, its reach and the world's shape are handed on. -/
theorem handed_shaped {a : Assume} {C : Checked} {os : Os} {f : FuncId} {fn : Func} {s : ChangeSpec} {conds : List PathCond} {apart fresh handsOn again : Bool} {X : World → Array Value → Prop}
    (hX : ∀ (w w' : World) (args : Array Value), w.heap = w'.heap → X w args → X w' args)
    (own : ownKnob C.prog.godebug = none) (started : os.Started) (noInit : C.prog.inits.idxOf? f = none) (hfn : C.prog.funcs[f]? = some fn)
    (witness : ∃ (w : World) (tape : Tape) (i : Input), w.os = os ∧ (w.forCall tape i).Shaped C.prog ∧ i.vars = [] ∧ Input.okWide C.prog (w.forCall tape i) .any w.heap.size f i ∧
      ((s.pre enc C.prog fn conds apart (w.forCall tape i).memory i.args ∧ X (w.forCall tape i).memory i.args) ∧ sizedMet enc C.prog fn (OpenSpec.ofChange s) apart (w.forCall tape i).memory i.args) ∧ a.holds C.prog (lone (Frame.enter C.prog f i.args .normal) [] (w.forCall tape i)))
    (contract : ∀ (W : World) (base : Nat) (args : Array Value) (ds gs : List (DataW H)) (before : List MemPlace),
      (∀ (j : Nat) t v, fn.params[j]? = some t → args[j]? = some v → Value.okWide C.prog W .any base t v) →
      DataW.Whole enc C.prog fn.params.toList s.vars apart W args.toList ds gs before → X W args → W.ShapedOpen C.prog →
      Calls C.prog f args W fun e W' => ∃ v, e = .returned v ∧ s.post enc C.prog fn apart fresh handsOn again W args v W') :
    ReturnsInHanded a C os f .any (fun w args => (s.pre enc C.prog fn conds apart w args ∧ X w args) ∧ sizedMet enc C.prog fn (OpenSpec.ofChange s) apart w args) (s.post enc C.prog fn apart fresh handsOn again) := by
  refine returnsInHanded_of_calls own started noInit witness ?_
  intro w tape i _ hsh _ hok hpre _
  obtain ⟨_, _, _, fn', hfn', _, _, _, _, hval⟩ := hok
  have e : fn' = fn := Option.some.inj (hfn'.symm.trans hfn)
  subst e
  obtain ⟨⟨⟨ds, gs, before, hw, hc⟩, hx⟩, hz⟩ := hpre
  have hw' := DataW.Whole.of_heap (w' := w.forCall tape i) (by rfl) hw
  refine (contract (w.forCall tape i) w.heap.size i.args ds gs before hval hw' (hX _ _ _ (by rfl) hx) hsh).mono fun e W' ⟨v, he, hp⟩ => ?_
  subst he
  exact ChangeSpec.post_blind hp
end
end Go.Proofs.YtpmlfpmedbccaaaDoor
