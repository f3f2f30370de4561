/- The law TreePart, walked: a part is what Nodes says. -/
import Derived.Test.YtpmlfpmedbccaaaGreatDoorPlayed
import Derived.Test.YtpmlfpmedbccaaaGreatDoorFind
import Derived.Test.YtpmlfpmedbccaaaGreatDoorSame
namespace Go.Proofs.YtpmlfpmedbccaaaGreatDoor
open Go.RowKit
attribute [local go_sem ↓] Go.wp_at_zero Go.wp_at_succ

/-! ### plain -/
theorem closed_up {T : List Node} (h : Good T) (l : List (List UInt8)) : ∀ (s : List (List UInt8)), Names (l ++ s) → (∃ x ∈ T, x.at = joined (l ++ s)) → ∃ y ∈ T, y.at = joined l := by
  intro s
  induction hn : s.length generalizing s with
  | zero =>
    intro _ hx
    obtain rfl := List.eq_nil_of_length_eq_zero hn
    simpa using hx
  | succ n ih =>
    rintro hN ⟨x, hx, e⟩
    rcases List.eq_nil_or_concat s with rfl | ⟨s', a, rfl⟩
    · simp at hn
    · rw [List.concat_eq_append] at *
      rw [← List.append_assoc] at hN e
      have hne : x.at ≠ [47] := by rw [e]; exact joined_ne_root hN (by simp)
      obtain ⟨y, hy, ey, _⟩ := h.up x hx hne
      rw [e, parent_joined hN] at ey
      exact ih s' (by simp at hn; omega) hN.init ⟨y, hy, ey⟩
theorem part_none {T : List Node} (h : Good T) {p : ByteArray} (hp : (parse p.data.toList).2 = 0) (hl : look T p = none) (kind : Int) : T.filter (inPart kind p) = [] := by
  rw [List.filter_eq_nil_iff]
  intro x hx hin
  have hb : begins (parse x.at).1 (parse p.data.toList).1 = true := by
    cases hbb : begins (parse x.at).1 (parse p.data.toList).1 with
    | true => rfl
    | false =>
      unfold inPart covers at hin
      rw [if_pos (.inr (.inr (.inr (.inr hbb))))] at hin
      cases hin
  unfold begins at hb
  obtain ⟨s, hs⟩ := List.isPrefixOf_iff_prefix.1 hb
  have hN := parse_is x.at
  have hj := joined_parse (h.ok x hx).place
  rw [← hs] at hN hj
  obtain ⟨y, hy, ey⟩ := closed_up h _ s hN ⟨x, hx, hj.symm⟩
  rw [joined_parse hp] at ey
  exact look_none hl y hy (str_inj ey)
/-- What the law lists. -/
def wantOf (T : List Node) (p : ByteArray) (kind : Int) (k : Nat) : List SeenV := if (look T p).isSome = true then partTo T p kind k else []
theorem want_is {T : List Node} (h : Good T) {p : ByteArray} (hp : (parse p.data.toList).2 = 0) {kind : Int} (hk : 1 ≤ kind ∧ kind ≤ 3) : partOf T p kind = (wantOf T p kind T.length, 0) := by
  unfold partOf wantOf
  rw [if_neg (fun e => e hp), if_neg (by omega)]
  cases hl : look T p with
  | none => rw [part_none h hp hl]; rfl
  | some x => simp [partTo]
theorem want_bad {T : List Node} (h : Good T) {p : ByteArray} (hp : (parse p.data.toList).2 ≠ 0) (kind : Int) (k : Nat) : wantOf T p kind k = [] ∧ partOf T p kind = ([], 10) := by
  have hl : look T p = none := look_none_iff.2 fun x hx e => hp (by rw [← e]; exact (h.ok x hx).place)
  unfold wantOf partOf
  rw [if_pos hp, hl]
  exact ⟨rfl, rfl⟩
theorem Part_now (w : World) (p : Nat) (T : List Node) (wr : World) (h : TreeNow w p T wr) (he : Env w) (at_ : ByteArray) (kind : Int) (hat : at_.size ≤ maxLen) :
    Calls Tryz.prog 28 #[.pointer (some ⟨p, 0, none⟩), .string at_, .int .i64 kind] wr (PartPost (partOf T at_ kind) wr) := by
  obtain ⟨r, hT, _⟩ := h.1
  exact Part_tree wr p r T hT h.2.1 (h.env he) at_ kind hat
def LawPost (w : World) (e : Ending) (w' : World) : Prop := e = .returned (.bool true) ∧ Below w.heap.size w w'
/-- The tree, and the list that Nodes handed out. -/
def Held (w : World) (p : Nat) (T : List Node) (g cc : Nat) (wr : World) : Prop := TreeNow w p T wr ∧ wr.ownsRow w.heap.size 58 7 (.slice (some ⟨g, 0, none⟩) T.length cc) T.length (T.flatMap Node.cells)
theorem Held.after {w wr wd : World} {p : Nat} {T : List Node} {g cc : Nat} (h : Held w p T g cc wr) (hb : Below wr.heap.size wr wd) : Held w p T g cc wd := ⟨h.1.after hb, own_after h.2 hb⟩
/-- A row of another type grows. -/
theorem Held.pushed {w wr wd : World} {p : Nat} {T : List Node} {g cc : Nat} (h : Held w p T g cc wr) {v : Value} {n : Nat} {xs : List Value} (ho : wr.ownsRow w.heap.size 63 3 v n xs) (hg : wr.grownBy wd v.ownBlock) : Held w p T g cc wd := by
  obtain ⟨⟨⟨r, hT, hr⟩, hG, hb, hp⟩, hrow⟩ := h
  have hk := Keeps.grown (e := 93) ho hg (by decide)
  refine ⟨⟨⟨r, ⟨(hk _ _ hT.top).trans hT.top, hT.map.grown ho hg, hT.sorted⟩, hr⟩, hG, own_below hb ho hg (Nat.le_refl _) hb.size, hp⟩, (Keeps.grown ho hg (by decide)).own hrow⟩
def SeenHere (w : World) (p : Nat) (T : List Node) (g cc : Nat) (lv : Value) (L : List SeenV) (sb : Nat) (s : SeenV) (wd : World) : Prop :=
  Held w p T g cc wd ∧ wd.heap[sb]? = some (.cells s.cells.toArray 63 (0, 0)) ∧ w.heap.size ≤ sb ∧ wd.ownsRow w.heap.size 63 3 lv L.length (L.flatMap SeenV.cells)
theorem SeenHere.filled {w wc wd : World} {p : Nat} {T : List Node} {g cc : Nat} {lv : Value} {L : List SeenV} {sb : Nat} {s : SeenV} {cs : Array Value} (h : Held w p T g cc wc) (hs : wc.heap[sb]? = some (.cells cs 63 (0, 0))) (hlt : w.heap.size ≤ sb) (hl : wc.ownsRow w.heap.size 63 3 lv L.length (L.flatMap SeenV.cells)) (hne : ∀ q, lv.ownBlock = some q → q ≠ sb)
    (hg : wc.grownBy wd (some sb)) (hs2 : wd.heap[sb]? = some (.cells s.cells.toArray 63 (0, 0))) : SeenHere w p T g cc lv L sb s wd := by
  obtain ⟨⟨⟨r, hT, hr⟩, hG, hb, hp⟩, hrow⟩ := h
  have hk : ∀ e, e ≠ 63 → Keeps e wc wd := fun e he => Keeps.at_ hg hs (Ne.symm he)
  have hmr : wd.heap[r]? = wc.heap[r]? := hg.block r hT.lt.2 fun e => by
    injection e with e
    obtain ⟨_, _, _, h1, _⟩ := hT.map
    rw [e, hs] at h1
    cases h1
  exact ⟨⟨⟨⟨r, ⟨(hk _ (by decide) _ _ hT.top).trans hT.top, hT.map.of_block hmr, hT.sorted⟩, hr⟩, hG, hb.grown hg hb.size (fun k hk => by injection hk with hk; omega), hp⟩, (hk _ (by decide)).own hrow⟩, hs2, hlt, hl.kept hg (.inr (fun e => hne _ e rfl))⟩
/-- The list that is wanted, so far. -/
def Wants (w : World) (T : List Node) (at_ : ByteArray) (kind : Int) (k : Nat) (lv : Value) (wr : World) : Prop := wr.ownsRow w.heap.size 63 3 lv (wantOf T at_ kind k).length ((wantOf T at_ kind k).flatMap SeenV.cells)
set_option maxRecDepth 100000 in
set_option maxHeartbeats 4000000 in
theorem TreePart_any (w : World) (he : Env w) (v : Value) (steps : List StepV) (hs : StepsAt w v steps) (at_ : ByteArray) (hat : at_.size ≤ maxLen) : Calls Tryz.prog 5 #[v, .string at_] w (LawPost w) := by
  have HE := Lib.hid he
  have HAt := Lib.hid hat
  have hplayed := played_any w he v steps hs
  obtain ⟨a, c, rfl, hmax, _⟩ := hs
  clear he hat hmax
  go_enter Tryz.func5, Tryz.ntmps5
  go_upto_region 4 with (go_at_call 31; refine hplayed.mono ?_; rintro e w1 ⟨p, T, rfl, hN1⟩; replace hN1 := Lib.hid hN1)
  have hnodes := Nodes_now w p T w1 hN1.out
  go_upto_region 5 with (go_at_call 20; refine hnodes.mono ?_; rintro e w2 ⟨nv, rfl, ho2, _, hT2⟩; obtain ⟨g, cc, rfl, _, _⟩ := ho2.form hT2.2.1.pos; replace ho2 := Lib.hid ho2; replace hT2 := Lib.hid hT2)
  have hT64 := hT2.out.2.1.few
  have hH2 : Held w p T g cc w2 := ⟨hT2.out, own_lower ho2.out hN1.out.2.2.1.size⟩
  have HH2 := Lib.hid hH2
  have HG := Lib.hid hT2.out.2.1
  clear hH2 hnodes hplayed ho2 hN1
  have hpar := parse_any at_ w2 (hT2.out.env HE.out) HAt.out
  obtain ⟨⟨pl, pc⟩, hpc⟩ : ∃ c, parse at_.data.toList = c := ⟨_, rfl⟩
  unfold ParsePost at hpar
  rw [hpc] at hpar
  simp only [] at hpar
  have HPc := Lib.hid hpc
  clear hpc hT2
  go_upto_region 6 with (go_at_call 32; refine hpar.mono ?_; rintro e w3 ⟨v1, rfl, hpn, hb3⟩; clear hpn; replace hb3 := Lib.hid hb3)
  have HH3 := Lib.hid (HH2.out.after hb3.out)
  have hfind := find_any w3 w.heap.size _ T at_ HH3.out.2 HG.out.sorted (by omega)
  unfold FindPost at hfind
  obtain ⟨x0, hx0⟩ : ∃ x0, (look T at_).getD zeroNode = x0 := ⟨_, rfl⟩
  obtain ⟨is, his⟩ : ∃ is, (look T at_).isSome = is := ⟨_, rfl⟩
  rw [hx0, his] at hfind
  have HIs := Lib.hid his
  clear hx0 his HH2 hb3 hpar
  obtain ⟨xp, xd, xv, xm, xc, xo, xn⟩ := x0
  simp only [Node.val, Node.cells] at hfind
  go_upto_region 7 with (go_at_call 33; refine hfind.mono ?_; rintro e w4 ⟨rfl, hb4⟩; replace hb4 := Lib.hid hb4)
  generalize hw5 : World.alloc w4 (Obj.cells _ _) = w5
  have hb5 : Below w3.heap.size w3 w5 := hb4.out.trans (hw5 ▸ ((Below.refl w4.heap.size w4).alloc (Nat.le_refl _) _).mono hb4.out.size)
  have HH5 := Lib.hid (HH3.out.after hb5)
  clear hw5 hb5 hb4 hfind HH3
  go_wp2_with fail
  go_simp
  go_loopg [11] 3 (fun gg s11 wr => ∃ kind : Int, s11 = .int .i64 kind ∧ 1 ≤ kind ∧ kind + gg = 4 ∧ Held w p T g cc wr)
  case atStart => exact ⟨1, rfl, by omega, by omega, HH5.out⟩
  case round =>
    obtain ⟨kind, rfl, hk1, hkg, hH⟩ := hrel
    obtain ⟨gq, hgq⟩ : ∃ gq, gq = gk := ⟨_, rfl⟩
    have HGq := Lib.hid hgq
    have HKg := Lib.hid hkg
    have HH := Lib.hid hH
    clear hkg hH hgq HH5
    by_cases hk3 : kind ≤ 3
    · --[
      go_upto_block 2 with fail
      go_cut [12, 13, 14] from 42 to 87 (fun s12 _ _ wd => Held w p T g cc wd ∧ Wants w T at_ kind T.length s12 wd)
      case first =>
        go_wp2_with fail
        go_simp
        go_loopg [12, 13] T.length (fun gg s12 s13 wr => ∃ k : Nat, s13 = .int .i64 k ∧ k + gg = T.length ∧ (is = false → k = 0) ∧ Held w p T g cc wr ∧ Wants w T at_ kind k s12 wr)
        case atStart => exact ⟨0, rfl, by omega, fun _ => rfl, HH.out, by
          have e : wantOf T at_ kind 0 = [] := by unfold wantOf partTo; simp
          unfold Wants
          rw [e]
          exact World.ownsRow_nil _ _ _ _⟩
        case round =>
          obtain ⟨k, rfl, hkg, hk0, hH, hW⟩ := hrel
          have HKg2 := Lib.hid hkg
          have HK0 := Lib.hid hk0
          have HH' := Lib.hid hH
          have HW := Lib.hid hW
          have hpos := HG.out.pos
          clear hkg hk0 hH hW HH
          cases is
          · have hk00 := HK0.out rfl
            subst hk00
            have hl : (0 : Int) < (T.length : Int) := by omega
            have hw : wantOf T at_ kind 0 = wantOf T at_ kind T.length := by
              unfold wantOf
              rw [HIs.out]
              rfl
            have HWt : Hid (Wants w T at_ kind T.length u12 wr) := by
              have := HW.out
              unfold Wants at this ⊢
              rwa [hw] at this
            clear hw
            go_wp2_with fail
            go_meet
            case rel => exact ⟨HH'.out, HWt.out⟩
          · by_cases hl1 : k < T.length
            · --(
              have hwt : ∀ k, wantOf T at_ kind k = partTo T at_ kind k := fun k => by unfold wantOf; rw [if_pos HIs.out]
              have hw0 := HW.out
              unfold Wants at hw0
              rw [hwt] at hw0
              obtain ⟨x, hx⟩ : ∃ x, T[k]? = some x := ⟨_, List.getElem?_eq_getElem hl1⟩
              have hnr := NodeRow.of (k := k) HH'.out.2 hx
              have hsx := HG.out.size x (List.mem_of_getElem? hx)
              have hcov := covers_any kind 1 at_ x.place wr (HH'.out.1.env HE.out) HAt.out (by simp only [maxLen]; omega)
              unfold CoversPost at hcov
              change Calls _ _ _ _ fun e w' => e = .returned (.bool (inPart kind at_ x)) ∧ _ at hcov
              obtain ⟨cv, hcv⟩ : ∃ cv, inPart kind at_ x = cv := ⟨_, rfl⟩
              rw [hcv] at hcov
              have HCv := Lib.hid hcv
              have HX := Lib.hid hx
              obtain ⟨lad, lcc, rfl, _⟩ := own_form hw0
              have HL := Lib.hid hw0
              have HWt := Lib.hid hwt
              clear hx hcv hw0 hwt
              obtain ⟨xp, xd, xv, xm, xc, xo, xn⟩ := x
              obtain ⟨a0, a1, a2, a3, a4, a5, a6⟩ := hnr
              simp only [] at a0 a1 a2 hcov
              have i0 : (0 : Int) ≤ (k : Int) := by omega
              have i1 : (k : Int) < (T.length : Int) := by omega
              clear a3 a4 a5 a6
              cases cv
              · go_wp2_with (go_at_call 34; refine hcov.mono ?_; rintro e w6 ⟨rfl, hb6⟩; replace hb6 := Lib.hid hb6)
                have hfin : Wants w T at_ kind (k + 1) (.slice lad (partTo T at_ kind k).length lcc) w6 := by
                  unfold Wants
                  rw [HWt.out, part_stays HX.out HCv.out]
                  exact own_after HL.out hb6.out
                have HFin := Lib.hid hfin
                clear hfin
                go_roundg (gk - 1)
                case measure => have := HKg2.out; omega
                case rel => exact ⟨k + 1, by go_num, by have := HKg2.out; omega, (fun h => by cases h), HH'.out.after hb6.out, HFin.out⟩
              · go_upto_region 15 with (go_at_call 34; refine hcov.mono ?_; rintro e w6 ⟨rfl, hb6⟩; replace hb6 := Lib.hid hb6)
                have q : ∀ {a : Addr} {u : Value}, wr.cell? a = some u → w6.cell? a = some u := fun hc => (hb6.out.cell (World.block_lt_of_cell? wr _ hc)).trans hc
                replace a0 := q a0
                replace a1 := q a1
                replace a2 := q a2
                have HH6 := Lib.hid (HH'.out.after hb6.out)
                have HL6 := Lib.hid (own_after HL.out hb6.out)
                have n0 := World.new_ne w6 _ a0
                have n1 := World.new_ne w6 _ a1
                have n2 := World.new_ne w6 _ a2
                simp only [] at n0 n1 n2
                clear q hcov HH' HL hb6
                go_region_held3 (fun W => W.cell? ⟨g, k * 7, none⟩ = some (.string xp) ∧ W.cell? ⟨g, k * 7 + 1, none⟩ = some (.string xd) ∧ W.cell? ⟨g, k * 7 + 2, none⟩ = some (.int .i64 xv)) (go_keep) (fail)
                simp only [Exit.then]
                go_step
                go_upto_region 16 with fail
                obtain ⟨sb, hsb⟩ : ∃ sb, w6.heap.size = sb := ⟨_, rfl⟩
                generalize hw7 : World.drew (World.alloc w6 (Obj.cells _ _)) = w7
                have hb7 : Below w6.heap.size w6 w7 := hw7 ▸ ((Below.refl _ _).alloc (Nat.le_refl _) _).drew
                have hs7 : w7.heap[sb]? = some (.cells #[.string xp, .string xd, .int .i64 xv] 63 (0, 0)) := by rw [← hw7, ← hsb]; exact heap_alloc_new w6 _
                have hlt7 : w.heap.size ≤ sb := hsb ▸ HH6.out.1.2.2.1.size
                have hne : ∀ q, (Value.slice lad (partTo T at_ kind k).length lcc).ownBlock = some q → q ≠ sb := fun q hq e => by have := (own_lt' HL6.out hq).2; omega
                have q : ∀ {a : Addr} {u : Value}, w6.cell? a = some u → w7.cell? a = some u := fun hc => (hb7.cell (World.block_lt_of_cell? w6 _ hc)).trans hc
                replace a0 := q a0
                have y0 := cell_of_row w7 sb 0 _ _ _ hs7
                have y1 := cell_of_row w7 sb 1 _ _ _ hs7
                have y2 := cell_of_row w7 sb 2 _ _ _ hs7
                have z0 := frozen_of_row w7 sb 0 _ _ hs7
                have z1 := frozen_of_row w7 sb 1 _ _ hs7
                have z2 := frozen_of_row w7 sb 2 _ _ hs7
                simp only [List.getElem?_toArray, List.getElem?_cons_succ, List.getElem?_cons_zero] at y0 y1 y2
                try rw [hsb]
                have HS7 := Lib.hid hs7
                have HLt7 := Lib.hid hlt7
                have HNe := Lib.hid hne
                have HH7 := Lib.hid (HH6.out.after hb7)
                have HL7 := Lib.hid (own_after HL6.out hb7)
                clear q hw7 hsb hb7 hs7 hlt7 hne a1 a2 n0 n1 n2 HH6 HL6
                go_upto_if 77 with fail
                go_cut [] from 78 to 83 (fun wd => SeenHere w p T g cc (.slice lad (partTo T at_ kind k).length lcc) (partTo T at_ kind k) sb (seenOf kind ⟨xp, xd, xv, xm, xc, xo, xn⟩) wd)
                case first =>
                  rcases Bool.eq_false_or_eq_true (kind == 2) with t2 | t2
                  · have hs : seenOf kind ⟨xp, xd, xv, xm, xc, xo, xn⟩ = ⟨xp, noText, 0⟩ := if_pos (by simpa using t2)
                    have HSe := Lib.hid hs
                    clear hs
                    go_wp2_with fail
                    go_meet
                    case rel =>
                      rw [HSe.out]
                      obtain ⟨f1, f2⟩ := filled3 (.string xp) (.string noText) (.int .i64 0) HS7.out
                      exact SeenHere.filled HH7.out HS7.out HLt7.out HL7.out HNe.out f2 f1
                  · have hs : seenOf kind ⟨xp, xd, xv, xm, xc, xo, xn⟩ = ⟨xp, xd, xv⟩ := if_neg (by simpa using t2)
                    have HSe := Lib.hid hs
                    clear hs
                    go_wp2_with fail
                    go_meet
                    case rel => rw [HSe.out]; exact ⟨HH7.out, HS7.out, HLt7.out, HL7.out⟩
                case rest =>
                  clear a0 y0 y1 y2 z0 z1 z2 HS7 HLt7 HNe HH7 HL7
                  obtain ⟨hh8, hs8, hlt8, hl8⟩ := hcut
                  obtain ⟨sv, hsv⟩ : ∃ sv, seenOf kind ⟨xp, xd, xv, xm, xc, xo, xn⟩ = sv := ⟨_, rfl⟩
                  rw [hsv] at hs8
                  have HSv := Lib.hid hsv
                  clear hsv
                  obtain ⟨sp1, sd1, sv1⟩ := sv
                  have y0 := cell_of_row wc sb 0 _ _ _ hs8
                  have y1 := cell_of_row wc sb 1 _ _ _ hs8
                  have y2 := cell_of_row wc sb 2 _ _ _ hs8
                  simp only [SeenV.cells, List.getElem?_toArray, List.getElem?_cons_succ, List.getElem?_cons_zero] at y0 y1 y2
                  have HH8 := Lib.hid hh8
                  have HL8 := Lib.hid hl8
                  have hl64 : (partTo T at_ kind k).length ≤ 64 := Nat.le_trans (partTo_len T at_ kind k) hT64
                  clear hh8 hs8 hlt8 hl8
                  go_wp2_with (at_builtin; refine wpList_push (W := wc) rfl (.tmp 84) (.tmp 86) 46 rfl w.heap.size 63 _ 3 40 und_seens info_seen rfl (by decide) _ (partTo T at_ kind k).length _ rfl HL8.out wc.heap.size rfl rfl rfl (by simp [Value.oneCell']) ?h63 ?hbytes HH8.out.1.2.2.1.size ?_; rotate_right; intro v' w9 ho9 hg9; replace ho9 := Lib.hid ho9; replace hg9 := Lib.hid hg9)
                  case h63 => simp only [maxLen]; omega
                  case hbytes => omega
                  have hfin : Held w p T g cc w9 ∧ Wants w T at_ kind (k + 1) v' w9 := by
                    refine ⟨HH8.out.pushed HL8.out hg9.out, ?_⟩
                    unfold Wants
                    have := ho9.out
                    rw [HWt.out, part_goes HX.out HCv.out, HSv.out, List.flatMap_append, List.length_append]
                    simpa [SeenV.cells] using this
                  have HFin := Lib.hid hfin
                  clear hfin y0 y1 y2
                  go_roundg (gk - 1)
                  case measure => have := HKg2.out; omega
                  case rel => exact ⟨k + 1, by go_num, by have := HKg2.out; omega, (fun h => by cases h), HFin.out.1, HFin.out.2⟩
            · have hke : k = T.length := by have := HKg2.out; omega
              subst hke
              have hl : ¬ (T.length : Int) < (T.length : Int) := by omega
              go_wp2_with fail
              go_meet
              case rel => exact ⟨HH'.out, HW.out⟩
      case rest =>
        obtain ⟨hH6, hW6⟩ := hcut
        have HH6 := Lib.hid hH6
        have hpart := Part_now w p T wc hH6.1 HE.out at_ kind HAt.out
        have hpc : ∃ f : Int, partOf T at_ kind = (wantOf T at_ kind T.length, f) ∧ ((pc = 0 ∧ f = 0) ∨ (pc ≠ 0 ∧ f = 10)) := by
          by_cases h0 : pc = 0
          · exact ⟨0, want_is HG.out (by rw [HPc.out]; exact h0) ⟨hk1, hk3⟩, .inl ⟨h0, rfl⟩⟩
          · have := want_bad HG.out (by rw [HPc.out]; exact h0) kind T.length
            exact ⟨10, by rw [this.2, this.1], .inr ⟨h0, rfl⟩⟩
        obtain ⟨f, hpo, hf⟩ := hpc
        rw [hpo] at hpart
        unfold PartPost at hpart
        unfold Wants at hW6
        simp only [] at hpart
        obtain ⟨L, hL⟩ : ∃ L, wantOf T at_ kind T.length = L := ⟨_, rfl⟩
        have hL64 : L.length ≤ 64 := by
          rw [← hL]
          unfold wantOf
          split
          · exact Nat.le_trans (partTo_len T at_ kind T.length) hT64
          · simp
        rw [hL] at hpart hW6
        obtain ⟨wad, wcc, rfl, _⟩ := own_form hW6
        have HW6 := Lib.hid hW6
        have HF := Lib.hid hf
        clear hpo hW6 hf hL hH6 HH
        go_upto_region 20 with (go_at_call 28; refine hpart.mono ?_; rintro e w6 ⟨gv, rfl, hgv, hb6⟩; obtain ⟨gad, gcc, rfl, _⟩ := own_form hgv; replace hgv := Lib.hid hgv; replace hb6 := Lib.hid hb6)
        have hseen := seen_same w6 wc.heap.size w.heap.size _ _ L hgv.out (own_after HW6.out hb6.out) (by omega)
        have HHe := Lib.hid (HH6.out.after hb6.out)
        rcases HF.out with ⟨rfl, rfl⟩ | ⟨h0, rfl⟩
        · go_wp2_with (first
            | (go_at_call 21; refine (num_any _ _).mono ?_; rintro e w' ⟨rfl, rfl⟩)
            | (go_at_call 35; refine hseen.mono ?_; rintro e w7 ⟨rfl, hm⟩; replace hm := Lib.hid hm))
          obtain ⟨m, hm⟩ := hm.out
          subst hm
          go_roundg (gq - 1)
          case measure => have := HKg.out; have := HGq.out; omega
          case rel => exact ⟨kind + 1, by go_num, by omega, by have := HKg.out; have := HGq.out; omega, HHe.out.after ⟨rfl, rfl, rfl, Nat.le_refl _, fun _ _ => rfl⟩⟩
        · have t0 : (pc == 0) = false := by simpa using h0
          clear h0
          go_wp2_with (first
            | (go_at_call 21; refine (num_any _ _).mono ?_; rintro e w' ⟨rfl, rfl⟩)
            | (go_at_call 35; refine hseen.mono ?_; rintro e w7 ⟨rfl, hm⟩; replace hm := Lib.hid hm))
          obtain ⟨m, hm⟩ := hm.out
          subst hm
          go_roundg (gq - 1)
          case measure => have := HKg.out; have := HGq.out; omega
          case rel => exact ⟨kind + 1, by go_num, by omega, by have := HKg.out; have := HGq.out; omega, HHe.out.after ⟨rfl, rfl, rfl, Nat.le_refl _, fun _ _ => rfl⟩⟩
      --]
    · --[
      have hge : ¬ kind ≤ 3 := hk3
      have hk4 : kind = 4 := by have := HKg.out; omega
      subst hk4
      have hp0 : partOf T ⟨#[47]⟩ 0 = ([], 1) := rfl
      have hp4 : partOf T ⟨#[47]⟩ 4 = ([], 1) := rfl
      have hpart := fun W (h : Held w p T g cc W) (k : Int) => Part_now w p T W h.1 HE.out ⟨#[47]⟩ k (by show 1 ≤ maxLen; decide)
      have hpart0 := hpart wr HH.out 0
      rw [hp0] at hpart0
      unfold PartPost at hpart0
      simp only [List.length_nil, List.flatMap_nil] at hpart0
      go_upto_region 23 with (go_at_call 28; refine hpart0.mono ?_; rintro e w6 ⟨gv, rfl, hgv, hb6⟩; clear hgv; replace hb6 := Lib.hid hb6)
      have HH6 := Lib.hid (HH.out.after hb6.out)
      have hpart4 := hpart w6 HH6.out 4
      rw [hp4] at hpart4
      unfold PartPost at hpart4
      simp only [List.length_nil, List.flatMap_nil] at hpart4
      clear hpart0 hpart
      go_upto_region 24 with (go_at_call 28; refine hpart4.mono ?_; rintro e w7 ⟨gv7, rfl, hgv, hb7⟩; clear hgv; replace hb7 := Lib.hid hb7)
      have HH7 := Lib.hid (HH6.out.after hb7.out)
      have hkn := known_any w7 (HH7.out.1.env HE.out)
      clear hpart4
      go_wp2_with (first
        | (go_at_call 21; refine (num_any _ _).mono ?_; rintro e w' ⟨rfl, rfl⟩)
        | (go_at_call 26; refine hkn.mono ?_; rintro e w8 ⟨rfl, hb8⟩; replace hb8 := Lib.hid hb8))
      go_ret
      exact ⟨rfl, HH7.out.1.2.2.1.trans (hb8.out.mono HH7.out.1.2.2.1.size)⟩
      --]
end Go.Proofs.YtpmlfpmedbccaaaGreatDoor
