/- The walks of package tree, tenth part: Part. -/
import Derived.Test.YtpmlfpmedbccaaaGreatDoorTreeI
import Derived.Test.YtpmlfpmedbccaaaGreatDoorCovers
namespace Go.Proofs.YtpmlfpmedbccaaaGreatDoor
open Go.RowKit
attribute [local go_sem ↓] Go.wp_at_zero Go.wp_at_succ

structure SeenV where
  place : ByteArray
  data : ByteArray
  version : Int
def SeenV.cells (s : SeenV) : List Value := [.string s.place, .string s.data, .int .i64 s.version]
def seenOf (kind : Int) (x : Node) : SeenV := if kind = 2 then ⟨x.place, noText, 0⟩ else ⟨x.place, x.data, x.version⟩
def inPart (kind : Int) (at_ : ByteArray) (x : Node) : Bool := covers kind at_.data.toList 1 x.at
def partTo (T : List Node) (at_ : ByteArray) (kind : Int) (k : Nat) : List SeenV := ((T.take k).filter (inPart kind at_)).map (seenOf kind)
def partOf (T : List Node) (at_ : ByteArray) (kind : Int) : List SeenV × Int :=
  if (parse at_.data.toList).2 ≠ 0 then ([], 10) else if kind < 1 ∨ 3 < kind then ([], 1) else ((T.filter (inPart kind at_)).map (seenOf kind), 0)
theorem partTo_len (T : List Node) (at_ : ByteArray) (kind : Int) (k : Nat) : (partTo T at_ kind k).length ≤ T.length := by
  unfold partTo
  rw [List.length_map]
  refine Nat.le_trans (List.length_filter_le _ _) ?_
  rw [List.length_take]
  omega
theorem part_stays {T : List Node} {at_ : ByteArray} {kind : Int} {k : Nat} {x : Node} (hx : T[k]? = some x) (h : inPart kind at_ x = false) : partTo T at_ kind (k + 1) = partTo T at_ kind k := by
  unfold partTo
  rw [List.take_add_one, hx, List.filter_append]
  simp [h]
theorem part_goes {T : List Node} {at_ : ByteArray} {kind : Int} {k : Nat} {x : Node} (hx : T[k]? = some x) (h : inPart kind at_ x = true) : partTo T at_ kind (k + 1) = partTo T at_ kind k ++ [seenOf kind x] := by
  unfold partTo
  rw [List.take_add_one, hx, List.filter_append]
  simp [h]
theorem und_seens : Tryz.prog.underlying 46 = some (.slice 63) := by kernel_rfl
theorem info_seen : (Tryz.prog.info? 63).map (fun i => (i.zero, i.size, i.bytes)) = some (some (.agg #[.string ⟨#[]⟩, .string ⟨#[]⟩, .int .i64 0]), 3, 40) := by kernel_rfl
def PartPost (q : List SeenV × Int) (w : World) (e : Ending) (w' : World) : Prop :=
  ∃ v, e = .returned (.tuple #[v, .int .i64 q.2]) ∧ w'.ownsRow w.heap.size 63 3 v q.1.length (q.1.flatMap SeenV.cells) ∧ Below w.heap.size w w'
def PartAt (w : World) (T : List Node) (nl : Value) (at_ : ByteArray) (kind : Int) (k : Nat) (lv : Value) (wr : World) : Prop :=
  wr.ownsRow w.heap.size 58 7 nl T.length (T.flatMap Node.cells) ∧ wr.ownsRow w.heap.size 63 3 lv (partTo T at_ kind k).length ((partTo T at_ kind k).flatMap SeenV.cells) ∧ Below w.heap.size w wr
theorem filled3 {w : World} {b : Nat} {t : TypeId} {c0 c1 c2 : Value} (v0 v1 v2 : Value) (h : w.heap[b]? = some (.cells #[c0, c1, c2] t (0, 0))) :
    (((w.setCell ⟨b, 0, none⟩ v0).setCell ⟨b, 1, none⟩ v1).setCell ⟨b, 2, none⟩ v2).heap[b]? = some (.cells #[v0, v1, v2] t (0, 0)) ∧ w.grownBy (((w.setCell ⟨b, 0, none⟩ v0).setCell ⟨b, 1, none⟩ v1).setCell ⟨b, 2, none⟩ v2) (some b) := by
  have e0 : (w.setCell ⟨b, 0, none⟩ v0).heap[b]? = some (.cells #[v0, c1, c2] t (0, 0)) := by rw [heap_setCell_same w b 0 _ _ _ h]; rfl
  have e1 : ((w.setCell ⟨b, 0, none⟩ v0).setCell ⟨b, 1, none⟩ v1).heap[b]? = some (.cells #[v0, v1, c2] t (0, 0)) := by rw [heap_setCell_same _ b 1 _ _ _ e0]; rfl
  refine ⟨by rw [heap_setCell_same _ b 2 _ _ _ e1]; rfl, rfl, rfl, rfl, by simp, fun i _ hne => ?_⟩
  have hi : i ≠ b := fun e => hne (by rw [e])
  rw [Below.heap_setCell _ _ _ _ hi, Below.heap_setCell _ _ _ _ hi, Below.heap_setCell _ _ _ _ hi]
theorem own_seen_ne {w : World} {base sb n : Nat} {v : Value} {xs : List Value} {cs : Array Value} {fr : Nat × Nat} (h : w.ownsRow base 58 7 v n xs) (hs : w.heap[sb]? = some (.cells cs 63 fr)) (e : v.ownBlock = some sb) : False := by
  obtain ⟨cur, hc⟩ := own_block h e
  rw [hs] at hc
  injection hc with hc
  injection hc with _ h2
  exact absurd h2 (by decide)
/-- What is seen of a node lies in a block of its own. -/
def SeenAt (w : World) (T : List Node) (g cc : Nat) (at_ : ByteArray) (kind : Int) (k : Nat) (lv : Value) (sb : Nat) (s : SeenV) (wd : World) : Prop :=
  Below w.heap.size w wd ∧ wd.heap[sb]? = some (.cells s.cells.toArray 63 (0, 0)) ∧ w.heap.size ≤ sb ∧ wd.ownsRow w.heap.size 63 3 lv (partTo T at_ kind k).length ((partTo T at_ kind k).flatMap SeenV.cells) ∧ wd.ownsRow w.heap.size 58 7 (.slice (some ⟨g, 0, none⟩) T.length cc) T.length (T.flatMap Node.cells)
set_option maxRecDepth 100000 in
set_option maxHeartbeats 2000000 in
theorem Part_tree (w : World) (p r : Nat) (T : List Node) (h : TreeAt w p r T) (hG : Good T) (he : Env w) (at_ : ByteArray) (kind : Int) (hat : at_.size ≤ maxLen) :
    Calls Tryz.prog 28 #[.pointer (some ⟨p, 0, none⟩), .string at_, .int .i64 kind] w (PartPost (partOf T at_ kind) w) := by
  have H := Lib.hid h
  have HG := Lib.hid hG
  have HE := Lib.hid he
  have HAt := Lib.hid hat
  have hc0 := h.cell
  have hnone := none_tree w p r hc0
  have hpar := parse_any at_ w he hat
  obtain ⟨q, hq⟩ : ∃ q, partOf T at_ kind = q := ⟨_, rfl⟩
  obtain ⟨⟨pl, pc⟩, hpc⟩ : ∃ c, parse at_.data.toList = c := ⟨_, rfl⟩
  unfold ParsePost at hpar
  rw [hpc] at hpar
  rw [hq]
  simp only [] at hpar
  have HQ := Lib.hid hq
  have HPc := Lib.hid hpc
  have hT64 := hG.few
  clear h hG he hat hq hpc
  go_enter Tryz.func28, Tryz.ntmps28
  go_upto_region 4 with (first
    | (go_at_call 64; refine hnone.mono ?_; rintro e w' ⟨rfl, rfl⟩)
    | (go_at_call 32; refine hpar.mono ?_; rintro e w1 ⟨v1, rfl, hpn, hb1⟩; clear hpn; replace hb1 := Lib.hid hb1))
  clear hpar hnone hc0
  rcases Bool.eq_false_or_eq_true (pc != 0) with t9 | t9
  · have hq : q = ([], 10) := HQ.out.symm.trans (if_pos (by rw [HPc.out]; simpa using t9))
    go_wp2_with fail
    go_ret2
    subst hq
    exact ⟨_, rfl, World.ownsRow_nil _ _ _ _, hb1.out⟩
  have hp9 : ¬ (parse at_.data.toList).2 ≠ 0 := by rw [HPc.out]; simpa using t9
  have HP9 := Lib.hid hp9
  clear hp9 HPc
  by_cases hk1 : kind < 1
  · have hq : q = ([], 1) := HQ.out.symm.trans (by unfold partOf; rw [if_neg HP9.out, if_pos (.inl hk1)])
    have HQ2 := Lib.hid hq
    clear hq
    go_wp2_with fail
    go_ret2
    have hq := HQ2.out
    subst hq
    exact ⟨_, rfl, World.ownsRow_nil _ _ _ _, hb1.out⟩
  by_cases hk3 : 3 < kind
  · have hq : q = ([], 1) := HQ.out.symm.trans (by unfold partOf; rw [if_neg HP9.out, if_pos (.inr hk3)])
    have HQ2 := Lib.hid hq
    clear hq
    go_wp2_with fail
    go_ret2
    have hq := HQ2.out
    subst hq
    exact ⟨_, rfl, World.ownsRow_nil _ _ _ _, hb1.out⟩
  have hq : q = ((T.filter (inPart kind at_)).map (seenOf kind), 0) := HQ.out.symm.trans (by unfold partOf; rw [if_neg HP9.out, if_neg (by omega)])
  have HQ2 := Lib.hid hq
  clear hq HQ HP9
  have hnodes := nodes_tree w1 p r T (H.out.below hb1.out (Nat.le_refl _)) (fun x hx => by have := HG.out.size x hx; simp only [maxLen]; omega) (by omega)
  go_wp2_with (first
    | (go_at_call 20; refine hnodes.mono ?_; rintro e w2 ⟨nv, rfl, ho2, hb2⟩; obtain ⟨ad, cc, rfl, _⟩ := own_form ho2; replace ho2 := Lib.hid ho2; replace hb2 := Lib.hid hb2)
    | (at_builtin; refine wpList_len rfl (.tmp 30) _ _ rfl und_fulls rfl ?_))
  go_simp
  have hst : PartAt w T (.slice ad T.length cc) at_ kind 0 (.slice none 0 0) w2 := ⟨own_lower ho2.out hb1.out.size, World.ownsRow_nil _ _ _ _, hb1.out.trans (hb2.out.mono hb1.out.size)⟩
  have HSt := Lib.hid hst
  clear hst ho2 hb2 hnodes
  go_loopg [10, 32] T.length (fun g lv i wr => ∃ k : Nat, i = .int .i64 k ∧ k + g = T.length ∧ PartAt w T (.slice ad T.length cc) at_ kind k lv wr)
  case atStart => exact ⟨0, rfl, by omega, HSt.out⟩
  case round =>
    obtain ⟨k, rfl, hkg, ho, hl, hb⟩ := hrel
    have HKg := Lib.hid hkg
    have HO := Lib.hid ho
    have HL := Lib.hid hl
    have HB := Lib.hid hb
    clear hkg ho hl hb HSt
    by_cases hlt : k < T.length
    · --[
      obtain ⟨x, hx⟩ : ∃ x, T[k]? = some x := ⟨_, List.getElem?_eq_getElem hlt⟩
      obtain ⟨g, cap, he, _⟩ := HO.out.form (by omega)
      injection he with e1 e2 e3
      subst e1
      subst e3
      clear e2
      have hnr := NodeRow.of (k := k) HO.out hx
      have hsx := HG.out.size x (List.mem_of_getElem? hx)
      have hcov : ∀ W, Below w.heap.size w W → Calls Tryz.prog 34 #[.int .i64 kind, .string at_, .int .i64 1, .string x.place] W fun e w' => e = .returned (.bool (inPart kind at_ x)) ∧ Below W.heap.size W w' := fun W hW => covers_any kind 1 at_ x.place W (HE.out.after hW) HAt.out (by simp only [maxLen]; omega)
      obtain ⟨cv, hcv⟩ : ∃ cv, inPart kind at_ x = cv := ⟨_, rfl⟩
      rw [hcv] at hcov
      have HCv := Lib.hid hcv
      have HX := Lib.hid hx
      clear hx hcv
      obtain ⟨xp, xd, xv, xm, xc, xo, xn⟩ := x
      obtain ⟨a0, a1, a2, a3, a4, a5, a6⟩ := hnr
      simp only [] at a0 a1 a2 a3 a4 a5 a6 hcov
      have i0 : (0 : Int) ≤ (k : Int) := by omega
      have i1 : (k : Int) < (T.length : Int) := by omega
      obtain ⟨xb, hxb⟩ : ∃ xb, wr.heap.size = xb := ⟨_, rfl⟩
      have hal : Below wr.heap.size wr (wr.alloc (.cells #[.string xp, .string xd, .int .i64 xv, .int .i64 xm, .int .i64 xc, .int .i64 xo, .int .i64 xn] 58)) := (Below.refl _ _).alloc (Nat.le_refl _) _
      have hnew := heap_alloc_new wr (.cells #[.string xp, .string xd, .int .i64 xv, .int .i64 xm, .int .i64 xc, .int .i64 xo, .int .i64 xn] 58)
      have hcov' := hcov _ (HB.out.trans (hal.mono HB.out.size))
      have HAl := Lib.hid hal
      have HNew := Lib.hid hnew
      clear hal hnew hcov hxb xb
      cases cv
      · go_wp2_with (go_at_call 34; refine hcov'.mono ?_; rintro e w3 ⟨rfl, hb3⟩; replace hb3 := Lib.hid hb3)
        have hb3' : Below wr.heap.size wr w3 := HAl.out.trans (hb3.out.mono HAl.out.size)
        have HB3 := Lib.hid hb3'
        clear hb3' hcov'
        go_roundg (gk - 1)
        case measure => have := HKg.out; omega
        case rel => exact ⟨k + 1, by go_num, by have := HKg.out; omega, own_after HO.out HB3.out, by rw [part_stays HX.out HCv.out]; exact own_after HL.out HB3.out, HB.out.trans (HB3.out.mono HB.out.size)⟩
      · go_upto_region 13 with (go_at_call 34; refine hcov'.mono ?_; rintro e w3 ⟨rfl, hb3⟩; replace hb3 := Lib.hid hb3)
        have hb3' : Below wr.heap.size wr w3 := HAl.out.trans (hb3.out.mono HAl.out.size)
        have HB3 := Lib.hid hb3'
        have hx3 := (hb3.out.block _ (Array.getElem?_eq_some_iff.1 HNew.out).1).trans HNew.out
        obtain ⟨c0, c1, c2, c3, c4, c5, c6⟩ := NodeAt.of hx3
        obtain ⟨lad, lcc, rfl, _⟩ := own_form HL.out
        have HL3 := Lib.hid (own_after HL.out HB3.out)
        have hbw : Below w.heap.size w w3 := HB.out.trans (HB3.out.mono HB.out.size)
        have HBw := Lib.hid hbw
        have HO3 := Lib.hid (own_after HO.out HB3.out)
        have hl64 : (partTo T at_ kind k).length ≤ 64 := Nat.le_trans (partTo_len T at_ kind k) hT64
        clear hb3' hcov' hx3 hbw a0 a1 a2 a3 a4 a5 a6 c3 c4 c5 c6
        go_upto_region 14 with fail
        obtain ⟨sb, hsb⟩ : ∃ sb, w3.heap.size = sb := ⟨_, rfl⟩
        generalize hw4 : World.alloc w3 (Obj.cells _ _) = w4
        have hb4 : Below w3.heap.size w3 w4 := hw4 ▸ ((Below.refl _ _).alloc (Nat.le_refl _) _)
        have hs4 : w4.heap[sb]? = some (.cells #[.string xp, .string xd, .int .i64 xv] 63 (0, 0)) := by rw [← hw4, ← hsb]; exact heap_alloc_new w3 _
        have hlt4 : w.heap.size ≤ sb := hsb ▸ HBw.out.size
        have c0' := (World.cell?_of_block (a := ⟨wr.heap.size, 0, none⟩) (hb4.block wr.heap.size (World.block_lt_of_cell? w3 _ c0))).trans c0
        have y0 := cell_of_row w4 sb 0 _ _ _ hs4
        have y1 := cell_of_row w4 sb 1 _ _ _ hs4
        have y2 := cell_of_row w4 sb 2 _ _ _ hs4
        have z0 := frozen_of_row w4 sb 0 _ _ hs4
        have z1 := frozen_of_row w4 sb 1 _ _ hs4
        have z2 := frozen_of_row w4 sb 2 _ _ hs4
        simp only [List.getElem?_toArray, List.getElem?_cons_succ, List.getElem?_cons_zero] at y0 y1 y2
        try rw [hsb]
        have HS4 := Lib.hid hs4
        have HB4 := Lib.hid (HBw.out.trans (hb4.mono HBw.out.size))
        have HLt4 := Lib.hid hlt4
        have HL4 := Lib.hid (own_after HL3.out hb4)
        have HO4 := Lib.hid (own_after HO3.out hb4)
        have hne : ∀ q, (Value.slice lad (partTo T at_ kind k).length lcc).ownBlock = some q → q ≠ sb := fun q hq e => by have := (own_lt' HL3.out hq).2; omega
        have HNe := Lib.hid hne
        clear hw4 hsb hb4 hs4 hlt4 hne c0 c1 c2 HL3 HBw HO3 hb3
        go_upto_if 50 with fail
        go_cut [] from 51 to 53 (fun wd => SeenAt w T g cc at_ kind k (.slice lad (partTo T at_ kind k).length lcc) sb (seenOf kind ⟨xp, xd, xv, xm, xc, xo, xn⟩) wd)
        case first =>
          rcases Bool.eq_false_or_eq_true (kind == 2) with t2 | t2
          · have hs : seenOf kind ⟨xp, xd, xv, xm, xc, xo, xn⟩ = ⟨xp, noText, 0⟩ := if_pos (by simpa using t2)
            have HSe := Lib.hid hs
            clear hs
            go_wp2_with fail
            go_meet
            case rel =>
              rw [HSe.out]
              obtain ⟨f1, f2⟩ := filled3 (.string xp) (.string noText) (.int .i64 0) HS4.out
              exact ⟨(HB4.out.grown f2 HB4.out.size (fun k hk => by injection hk with hk; have := HLt4.out; omega)), f1, HLt4.out, HL4.out.kept f2 (.inr (fun e => HNe.out _ e rfl)), HO4.out.kept f2 (.inr (fun e => own_seen_ne HO4.out HS4.out e))⟩
          · have hs : seenOf kind ⟨xp, xd, xv, xm, xc, xo, xn⟩ = ⟨xp, xd, xv⟩ := if_neg (by simpa using t2)
            have HSe := Lib.hid hs
            clear hs
            go_wp2_with fail
            go_meet
            case rel => rw [HSe.out]; exact ⟨HB4.out, HS4.out, HLt4.out, HL4.out, HO4.out⟩
        case rest =>
          clear c0' y0 y1 y2 z0 z1 z2 HS4 HB4 HLt4 HL4 HO4 HNe
          obtain ⟨hb5, hs5, hlt5, hl5, ho5⟩ := hcut
          obtain ⟨sv, hsv⟩ : ∃ sv, seenOf kind ⟨xp, xd, xv, xm, xc, xo, xn⟩ = sv := ⟨_, rfl⟩
          rw [hsv] at hs5
          have HSv := Lib.hid hsv
          clear hsv
          obtain ⟨sp1, sd1, sv1⟩ := sv
          have y0 := cell_of_row wc sb 0 _ _ _ hs5
          have y1 := cell_of_row wc sb 1 _ _ _ hs5
          have y2 := cell_of_row wc sb 2 _ _ _ hs5
          simp only [SeenV.cells, List.getElem?_toArray, List.getElem?_cons_succ, List.getElem?_cons_zero] at y0 y1 y2
          have HB5 := Lib.hid hb5
          have HL5 := Lib.hid hl5
          have HO5 := Lib.hid ho5
          clear hb5 hs5 hlt5 hl5 ho5
          go_wp2_with (at_builtin; refine wpList_push (W := wc) rfl (.tmp 54) (.tmp 56) 46 rfl w.heap.size 63 _ 3 40 und_seens info_seen rfl (by decide) _ (partTo T at_ kind k).length _ rfl HL5.out wc.heap.size rfl rfl rfl (by simp [Value.oneCell']) ?h63 ?hbytes HB5.out.size ?_; rotate_right; intro v' w6 ho6 hg6; replace ho6 := Lib.hid ho6; replace hg6 := Lib.hid hg6)
          case h63 => simp only [maxLen]; omega
          case hbytes => omega
          have hfin : PartAt w T (.slice (some ⟨g, 0, none⟩) T.length cc) at_ kind (k + 1) v' w6 := by
            refine ⟨(Keeps.grown HL5.out hg6.out (by decide)).own HO5.out, ?_, own_below HB5.out HL5.out hg6.out (Nat.le_refl _) HB5.out.size⟩
            have := ho6.out
            rw [part_goes HX.out HCv.out, HSv.out, List.flatMap_append, List.length_append]
            simpa [SeenV.cells] using this
          have HFin := Lib.hid hfin
          clear hfin y0 y1 y2
          go_roundg (gk - 1)
          case measure => have := HKg.out; omega
          case rel => exact ⟨k + 1, by go_num, by have := HKg.out; omega, HFin.out⟩
      --]
    · --[
      have hke : k = T.length := by have := HKg.out; omega
      have hge : ¬ (k : Int) < (T.length : Int) := by omega
      have HKe := Lib.hid hke
      clear hke
      go_wp2_with fail
      go_ret2
      have hq := HQ2.out
      subst hq
      have e1 : partTo T at_ kind k = (T.filter (inPart kind at_)).map (seenOf kind) := by rw [HKe.out]; unfold partTo; rw [List.take_length]
      exact ⟨_, rfl, by rw [← e1]; exact HL.out, HB.out⟩
      --]
end Go.Proofs.YtpmlfpmedbccaaaGreatDoor
