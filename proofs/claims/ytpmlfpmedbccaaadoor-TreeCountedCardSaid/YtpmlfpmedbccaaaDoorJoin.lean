/- The walk of place.Join at /q and one name more. -/
import Derived.Test.YtpmlfpmedbccaaaDoorPlainCounted
import Derived.ArgAppend
namespace Go.Proofs.YtpmlfpmedbccaaaDoor
open Go.RowKit
attribute [local go_sem ↓] Go.wp_at_zero Go.wp_at_succ

def joinQ (b : ByteArray) : List UInt8 × Int := if isName b.data.toList = true then (joined [[113], b.data.toList], 0) else ([], 10)
theorem joinQ_form (b : ByteArray) : PForm ⟨(joinQ b).1.toArray⟩ (joinQ b).2 := by
  unfold joinQ
  by_cases h : isName b.data.toList = true
  · rw [if_pos h]; exact .inr ⟨rfl, b.data.toList, h, by simp⟩
  · rw [if_neg h]; exact .inl ⟨by simp, rfl⟩
theorem info_str' : ∃ i, Tryd.prog.info? 9 = some i ∧ i.zero = some (.string ⟨#[]⟩) ∧ i.size = 1 ∧ i.bytes = 16 := info_parts info_str
set_option maxRecDepth 100000 in
set_option maxHeartbeats 1000000 in
theorem join_any (b : ByteArray) (w : World) (he : Env w) (hb : b.size ≤ maxLen) (gb : Nat) (hc : w.cell? ⟨gb, 0, none⟩ = some (.string b)) :
    Calls Tryd.prog 20 #[.string ⟨#[47, 113]⟩, .slice (some ⟨gb, 0, none⟩) 1 1] w fun e w' => ParentPost (joinQ b) w e w' := by
  have hpar := parse_list (s := ⟨#[47, 113]⟩) he (by show 2 ≤ maxLen; decide) (show parse [47, 113] = ([[113]], 0) by decide) (by simp)
  simp only [List.length_singleton] at hpar
  have HE := Lib.hid he
  have HB := Lib.hid hb
  clear he hb
  go_enter Tryd.func20, Tryd.ntmps20
  go_upto_region 5 with (go_at_call 16; refine hpar.mono ?_; rintro e w1 ⟨rfl, hlt, hb1, hcs⟩; replace hlt := Lib.hid hlt; replace hb1 := Lib.hid hb1; replace hcs := Lib.hid hcs)
  have hc1 := (hb1.out.cell (World.block_lt_of_cell? w _ hc)).trans hc
  have hq1 := hcs.out 0 _ rfl
  obtain ⟨bk, hbk⟩ : ∃ bk, w.heap.size = bk := ⟨_, rfl⟩
  rw [hbk] at hq1
  try rw [hbk]
  have HBk := Lib.hid hbk
  clear hbk hpar hc hcs hlt
  obtain ⟨sq, hsq⟩ : ∃ sq : ByteArray, (⟨[113].toArray⟩ : ByteArray) = sq := ⟨_, rfl⟩
  rw [hsq] at hq1
  have HSq := Lib.hid hsq
  clear hsq
  obtain ⟨nm, hnm⟩ : ∃ nm, isName b.data.toList = nm := ⟨_, rfl⟩
  have hjq : joinQ b = if nm = true then (joined [[113], b.data.toList], 0) else ([], 10) := by unfold joinQ; rw [hnm]
  have hlen : nm = true → b.size ≤ 16 := fun h => by have := (isName_len (hnm.trans h)).2; rwa [toList_len] at this
  have HJ := Lib.hid hjq
  have HLen := Lib.hid hlen
  have hisn := isName_any b w1 (HE.out.after hb1.out) HB.out
  rw [hnm] at hisn
  clear hnm hjq hlen
  go_wp2_with fail
  go_simp
  go_loopg [6, 20] 1 (fun gg s6 s20 wr => (gg = 1 ∧ s20 = .int .i64 0 ∧ s6 = .slice (some ⟨bk, 0, none⟩) 1 1 ∧ wr = w1) ∨ (gg = 0 ∧ s20 = .int .i64 1 ∧ nm = true ∧ wr.ownsRow w1.heap.size 9 1 s6 2 [.string sq, .string b] ∧ Below w1.heap.size w1 wr))
  case atStart => exact .inl ⟨rfl, rfl, rfl, rfl⟩
  case round =>
    rcases hrel with ⟨rfl, rfl, rfl, rfl⟩ | ⟨rfl, rfl, rfl, ho, hbr⟩
    · cases nm
      · go_wp2_with (go_at_call 33; refine hisn.mono ?_; rintro e w2 ⟨rfl, rfl⟩)
        refine bodyPost_ret (v := .tuple #[.string ⟨#[]⟩, .int .i64 10]) (by simp [results, Tryd.results20, go_sem]) rfl ?_
        exact ⟨ret2_str (p := joinQ b) (by rw [HJ.out]; rfl), hb1.out⟩
      · obtain ⟨i0, hi0, hz0, hz1, hz2⟩ := info_parts info_str
        have hb2 : Below wr.heap.size wr (wr.alloc (.cells #[.string b] 9 (0, 0))) := (Below.refl _ _).alloc (Nat.le_refl _) _
        have hq2 := (hb2.cell (World.block_lt_of_cell? wr _ hq1)).trans hq1
        have hn2 := heap_alloc_new wr (.cells #[.string b] 9 (0, 0))
        have HQ2 := Lib.hid hq2
        have HN2 := Lib.hid hn2
        have HB2 := Lib.hid hb2
        clear hq2 hn2 hb2
        go_wp2_with (first | (go_at_call 33; refine hisn.mono ?_; rintro e w2 ⟨rfl, rfl⟩) | (at_builtin; go_loud (refine wpList_append_grows _ rfl (.tmp 30) (.tmp 32) 46 rfl 9 i0 _ 1 16 und_strs hi0 hz0 hz1 hz2 rfl (by decide) (some ⟨bk, 0, none⟩) 1 1 [.string sq] rfl (fun h => by cases h) rfl ?holds ⟨w2.heap.size, 0, none⟩ 1 1 [.string b] rfl rfl ?hc (by simp [Value.oneCell']) (by omega) (by decide) (by decide) ?_; rotate_right; intro v' w3 ho3 hg3; replace ho3 := Lib.hid ho3; replace hg3 := Lib.hid hg3)))
        case holds =>
          intro bb e j u hj
          cases e
          cases j with
          | zero => cases hj; exact HQ2.out
          | succ j => simp at hj
        case hc =>
          intro j u hj
          cases j with
          | zero =>
            cases hj
            rw [add_off, cell_of_row _ _ _ _ _ _ HN2.out]
            rfl
          | succ j => simp at hj
        go_roundg 0
        case measure => omega
        case rel =>
          refine .inr ⟨by simp, by first | trivial | go_num, by simp, own_lower ho3.out HB2.out.size, HB2.out.trans (Below.grown (Below.refl _ _) hg3.out (Nat.le_refl _) (fun k h => by cases h) |>.mono HB2.out.size)⟩
    · obtain ⟨jad, jcc, rfl, hjc⟩ := own_form ho
      obtain ⟨jg, jcap, ej, _, _⟩ := ho.form (by omega)
      cases ej
      have hcells := fun j u hu => ho.cells (g := jg) rfl j u hu
      have hxs : ([sq, b] : List ByteArray).map (·.data.toList) = [[113], b.data.toList] := by rw [← HSq.out]; rfl
      have hpl := placed_any jg jcc [sq, b] wr (by simp) (fun x hx => by
        rcases List.mem_cons.1 hx with rfl | hx
        · rw [← HSq.out]; decide
        · rw [List.mem_singleton] at hx; rw [hx]; exact HLen.out rfl) (by show 2 ≤ jcc; omega) (ho.lt jg (by simp [Value.ownBlock])).2 (fun j x hj => by
        have := hcells j (.string x) (by
          cases j with
          | zero => cases hj; rfl
          | succ j =>
            cases j with
            | zero => cases hj; rfl
            | succ j => simp at hj)
        rwa [add_off] at this)
      rw [hxs] at hpl
      simp only [List.length_cons, List.length_nil] at hpl
      have HBr := Lib.hid hbr
      clear ho hcells hxs hbr
      go_wp2_with (go_at_call 36; refine hpl.mono ?_; rintro e w4 ⟨rfl, hb4⟩; replace hb4 := Lib.hid hb4)
      refine bodyPost_ret (v := .tuple #[.string ⟨(joined [[113], b.data.toList]).toArray⟩, .int .i64 0]) (by simp [results, Tryd.results20, go_sem]) rfl ?_
      have hb14 := hb1.out.trans (HBr.out.mono hb1.out.size)
      exact ⟨ret2_str (p := joinQ b) (by rw [HJ.out]; rfl), hb14.trans (hb4.out.mono hb14.size)⟩
end Go.Proofs.YtpmlfpmedbccaaaDoor
