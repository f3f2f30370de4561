/- The walks of package tree, ninth part: End. -/
import Derived.Test.YtpmlfpmedbccaaaDoorTreeH
namespace Go.Proofs.YtpmlfpmedbccaaaDoor
open Go.RowKit
attribute [local go_sem ↓] Go.wp_at_zero Go.wp_at_succ

/-- The nodes behind k looked at: those of the session are gone. -/
def stillAt (T : List Node) (ses : Int) (k : Nat) : List Node := (T.take k).filter (fun x => decide (x.owner ≠ ses)) ++ T.drop k
def goneTo (T : List Node) (ses : Int) (k : Nat) : List Chg := ((T.take k).filter fun x => decide (x.owner = ses)).map goneOf
theorem stillAt_zero (T : List Node) (ses : Int) : stillAt T ses 0 = T := by simp [stillAt]
theorem stillAt_all (T : List Node) (ses : Int) : stillAt T ses T.length = T.filter fun x => decide (x.owner ≠ ses) := by simp [stillAt]
theorem goneTo_all (T : List Node) (ses : Int) : goneTo T ses T.length = (T.filter fun x => decide (x.owner = ses)).map goneOf := by simp [goneTo]
theorem goneTo_len (T : List Node) (ses : Int) (k : Nat) : (goneTo T ses k).length ≤ T.length := by
  unfold goneTo
  rw [List.length_map]
  refine Nat.le_trans (List.length_filter_le _ _) ?_
  rw [List.length_take]
  omega
section
variable {T : List Node} {ses : Int} {k : Nat} {x : Node}
theorem still_drop (hx : T[k]? = some x) : T.drop k = x :: T.drop (k + 1) := by
  have h := (List.getElem?_eq_some_iff.1 hx)
  rw [List.drop_eq_getElem_cons h.1, h.2]
theorem still_stays (hx : T[k]? = some x) (ho : x.owner ≠ ses) : stillAt T ses (k + 1) = stillAt T ses k := by
  unfold stillAt
  rw [still_drop hx, List.take_add_one, hx, List.filter_append]
  simp [ho]
theorem still_goes (hT : Sorted T) (hx : T[k]? = some x) (ho : x.owner = ses) : del x.place (stillAt T ses k) = stillAt T ses (k + 1) := by
  have hn := List.pairwise_map.1 (sorted_apart hT)
  have hk := (List.getElem?_eq_some_iff.1 hx)
  have ha : ∀ y ∈ T.take k, y.place ≠ x.place := fun y hy => by
    obtain ⟨i, hi, rfl⟩ := List.getElem_of_mem hy
    have hi2 : i < k ∧ i < T.length := by rw [List.length_take] at hi; omega
    have := List.pairwise_iff_getElem.1 hn i k hi2.2 hk.1 hi2.1
    rw [hk.2] at this
    rwa [List.getElem_take]
  have hb : ∀ y ∈ T.drop (k + 1), y.place ≠ x.place := fun y hy => by
    obtain ⟨i, hi, rfl⟩ := List.getElem_of_mem hy
    have hi2 : k + 1 + i < T.length := by rw [List.length_drop] at hi; omega
    have := List.pairwise_iff_getElem.1 hn k (k + 1 + i) hk.1 hi2 (by omega)
    rw [hk.2] at this
    rw [List.getElem_drop]
    exact Ne.symm this
  unfold stillAt del
  rw [still_drop hx, List.take_add_one, hx, List.filter_append, List.filter_append]
  have e1 : (List.filter (fun x => decide (x.owner ≠ ses)) (T.take k)).filter (fun y => decide (y.place ≠ x.place)) = List.filter (fun x => decide (x.owner ≠ ses)) (T.take k) :=
    List.filter_eq_self.2 fun y hy => by simpa using ha y (List.mem_filter.1 hy).1
  have e2 : (T.drop (k + 1)).filter (fun y => decide (y.place ≠ x.place)) = T.drop (k + 1) := List.filter_eq_self.2 fun y hy => by simpa using hb y hy
  rw [e1, List.filter_cons, if_neg (by simp), e2]
  simp [ho]
theorem gone_stays (hx : T[k]? = some x) (ho : x.owner ≠ ses) : goneTo T ses (k + 1) = goneTo T ses k := by
  unfold goneTo
  rw [List.take_add_one, hx, List.filter_append]
  simp [ho]
theorem gone_goes (hx : T[k]? = some x) (ho : x.owner = ses) : goneTo T ses (k + 1) = goneTo T ses k ++ [goneOf x] := by
  unfold goneTo
  rw [List.take_add_one, hx, List.filter_append]
  simp [ho]
end
theorem own_base_le {w : World} {base : Nat} {e : TypeId} {size : Nat} {v : Value} {n : Nat} {xs : List Value} (h : w.ownsRow base e size v n xs) {k : Nat} (hk : v.ownBlock = some k) : base ≤ k := (h.lt k hk).1
def EndPost (p r : Nat) (T : List Node) (ses : Int) (w : World) (e : Ending) (w' : World) : Prop :=
  ∃ cv, e = .returned cv ∧ w'.ownsRow w.heap.size 58 4 cv (endChg T ses).length ((endChg T ses).flatMap Chg.cells) ∧ TreeAt w' p r (endOf T ses) ∧ But (fun i => i = r) w w'
/-- While the nodes are being looked at. -/
def EndAt (w : World) (p r : Nat) (T : List Node) (ses : Int) (nl : Value) (k : Nat) (cv : Value) (wr : World) : Prop :=
  wr.ownsRow w.heap.size 43 7 nl T.length (T.flatMap Node.cells) ∧ wr.heap[p]? = some (.cells #[.map (some r)] 68 (0, 0)) ∧ MapAt wr r (stillAt T ses k) ∧
    wr.ownsRow w.heap.size 58 4 cv (goneTo T ses k).length ((goneTo T ses k).flatMap Chg.cells) ∧ But (fun i => i = r) w wr
set_option maxRecDepth 100000 in
set_option maxHeartbeats 2000000 in
theorem End_tree (w : World) (p r : Nat) (T : List Node) (h : TreeAt w p r T) (hG : Good T) (ses : Int) :
    Calls Tryd.prog 10 #[.pointer (some ⟨p, 0, none⟩), .int .i64 ses] w (EndPost p r T ses w) := by
  have H := Lib.hid h
  have HG := Lib.hid hG
  have hc0 := h.cell
  have hnone := none_tree w p r hc0
  have hnodes := nodes_tree w p r T h (fun x hx => by have := hG.size x hx; simp only [maxLen]; omega) (by have := hG.few; omega)
  clear h hG
  by_cases h1 : ses < 1
  · have H1 := Lib.hid h1
    go_enter Tryd.func10, Tryd.ntmps10
    go_wp2_with (go_at_call 24; refine hnone.mono ?_; rintro e w' ⟨rfl, rfl⟩)
    go_ret
    have e1 : endChg T ses = [] := if_pos H1.out
    have e2 : endOf T ses = T := if_pos H1.out
    exact ⟨_, rfl, by rw [e1]; exact World.ownsRow_nil _ _ _ _, by rw [e2]; exact H.out, But.refl _ _⟩
  · have H1 := Lib.hid h1
    have hT64 := HG.out.few
    have hd : decide (ses < 1) = false := by simpa using h1
    go_enter Tryd.func10, Tryd.ntmps10
    go_upto_region 4 with (go_at_call 24; refine hnone.mono ?_; rintro e w' ⟨rfl, rfl⟩)
    go_wp2_with (first
      | (go_at_call 11; refine hnodes.mono ?_; rintro e w1 ⟨nv, rfl, ho1, hb1⟩; obtain ⟨ad, cc, rfl, _⟩ := own_form ho1; replace ho1 := Lib.hid ho1; replace hb1 := Lib.hid hb1)
      | (at_builtin; refine wpList_len rfl (.tmp 15) _ _ rfl und_fulls rfl ?_))
    go_simp
    have hst : EndAt w p r T ses (.slice ad T.length cc) 0 (.slice none 0 0) w1 :=
      ⟨ho1.out, (hb1.out.block p H.out.lt.1).trans H.out.top, by rw [stillAt_zero]; exact H.out.map.of_block (hb1.out.block r H.out.lt.2), World.ownsRow_nil _ _ _ _, (But.refl _ _).after hb1.out⟩
    have HSt := Lib.hid hst
    clear hst ho1 hb1 hnone hnodes hc0
    go_loopg [5, 17] T.length (fun g cv i wr => ∃ k : Nat, i = .int .i64 k ∧ k + g = T.length ∧ EndAt w p r T ses (.slice ad T.length cc) k cv wr)
    case atStart => exact ⟨0, rfl, by omega, HSt.out⟩
    case round =>
      obtain ⟨k, rfl, hkg, ho, htop, hm, hcv, hB⟩ := hrel
      have HKg := Lib.hid hkg
      have HO := Lib.hid ho
      have HTop := Lib.hid htop
      have HM := Lib.hid hm
      have HCv := Lib.hid hcv
      have HB := Lib.hid hB
      clear hkg ho htop hm hcv hB HSt
      by_cases hlt : k < T.length
      · --[
        obtain ⟨x, hx⟩ : ∃ x, T[k]? = some x := ⟨_, List.getElem?_eq_getElem hlt⟩
        obtain ⟨g, cap, he, _⟩ := HO.out.form (by omega)
        injection he with e1 e2 e3
        subst e1
        subst e3
        clear e2
        have hnr := NodeRow.of (k := k) HO.out hx
        have hgone := fun W => gone_any x W
        have HX := Lib.hid hx
        clear hx
        obtain ⟨xp, xd, xv, xm, xc, xo, xn⟩ := x
        obtain ⟨a0, a1, a2, a3, a4, a5, a6⟩ := hnr
        unfold GonePost at hgone
        simp only [Node.val, Node.cells, goneOf, Chg.val, Chg.cells] at a0 a1 a2 a3 a4 a5 a6 hgone
        have i0 : (0 : Int) ≤ (k : Int) := by omega
        have i1 : (k : Int) < (T.length : Int) := by omega
        have htc : wr.cell? ⟨p, 0, none⟩ = some (.map (some r)) := by simp [World.cell?, HTop.out]
        rcases Bool.eq_false_or_eq_true (xo == ses) with t | t
        · have ho : xo = ses := by simpa using t
          have HOw := Lib.hid ho
          clear ho
          go_upto_region 8 with fail
          generalize hw2 : World.alloc wr (Obj.cells _ _) = w2
          obtain ⟨xb, hxb⟩ : ∃ xb, wr.heap.size = xb := ⟨_, rfl⟩
          try rw [hxb]
          have hb2 : Below wr.heap.size wr w2 := hw2 ▸ ((Below.refl _ _).alloc (Nat.le_refl _) _)
          have hx2 : w2.heap[xb]? = some (.cells #[.string xp, .string xd, .int .i64 xv, .int .i64 xm, .int .i64 xc, .int .i64 xo, .int .i64 xn] 43 (0, 0)) := by rw [← hw2, ← hxb]; exact heap_alloc_new wr _
          have htop2 := (hb2.block p (Array.getElem?_eq_some_iff.1 HTop.out).1).trans HTop.out
          have hm2 := HM.out.of_block (hb2.block r HM.out.lt)
          have hlx : w.heap.size ≤ xb := hxb ▸ HB.out.size
          have c0 := cell_of_row w2 xb 0 _ _ _ hx2
          have p0 : w2.cell? ⟨p, 0, none⟩ = some (.map (some r)) := by simp [World.cell?, htop2]
          simp only [List.getElem?_toArray, List.getElem?_cons_zero] at c0
          have HO2 := Lib.hid (own_after HO.out hb2)
          have HTop2 := Lib.hid htop2
          have HM2 := Lib.hid hm2
          have HCv2 := Lib.hid (own_after HCv.out hb2)
          have HB2 := Lib.hid (HB.out.after hb2)
          have HX2 := Lib.hid hx2
          have HLx := Lib.hid hlx
          clear hw2 hxb hb2 hx2 htop2 hm2 hlx a0 a1 a2 a3 a4 a5 a6 htc HO HTop HM HCv HB
          go_still_tail 6, (by kernel_rfl)
          change wpList _ _ _ _ _ (World.drew w2)
          refine wpList_strike (w := World.drew w2) (T := stillAt T ses k) HM2.out und_map und_str xp rfl (.tmp 28) (.tmp 30) rfl rfl rfl ?_
          intro w3 hm3 hg3 hs3
          have hkt : ∀ e, Keeps e w2 w3 := fun e g cur hc => hg3.block g (Array.getElem?_eq_some_iff.1 hc).1 (fun he => by
            obtain ⟨es, clock, L, h1, _⟩ := HM2.out
            injection he with he
            rw [he] at hc
            rw [hc] at h1
            cases h1)
          have hm3' : MapAt w3 r (stillAt T ses (k + 1)) := hm3 _ (by rw [still_goes HG.out.sorted HX.out HOw.out])
          have hx3 := (hkt _ _ _ HX2.out).trans HX2.out
          have htop3 := (hkt _ _ _ HTop2.out).trans HTop2.out
          have c0 := cell_of_row w3 xb 0 _ _ _ hx3
          have c1 := cell_of_row w3 xb 1 _ _ _ hx3
          have c2 := cell_of_row w3 xb 2 _ _ _ hx3
          have c3 := cell_of_row w3 xb 3 _ _ _ hx3
          have c4 := cell_of_row w3 xb 4 _ _ _ hx3
          have c5 := cell_of_row w3 xb 5 _ _ _ hx3
          have c6 := cell_of_row w3 xb 6 _ _ _ hx3
          simp only [List.getElem?_toArray, List.getElem?_cons_succ, List.getElem?_cons_zero] at c0 c1 c2 c3 c4 c5 c6
          have HM3 := Lib.hid hm3'
          have HO3 := Lib.hid ((hkt _).own HO2.out)
          have HCv3 := Lib.hid ((hkt _).own HCv2.out)
          have HTop3 := Lib.hid htop3
          have HB3 : Hid (But (fun i => i = r) w w3) := HB2.out.drew.grown hg3 (fun i _ hn e => hn (by injection e))
          have HBs : Hid (w.heap.size ≤ w3.heap.size) := HB3.out.size
          clear hm3 hg3 hs3 hkt hm3' hx3 htop3 p0 HO2 HTop2 HM2 HCv2 HB2 HX2
          obtain ⟨cvad, cvcc, rfl, _⟩ := own_form HCv3.out
          go_wp2_with (first
            | (go_at_call 27; refine (hgone _).mono ?_; rintro e w4 ⟨rfl, hb4⟩; replace hb4 := Lib.hid hb4)
            | (at_builtin; refine wpList_push (W := w4) rfl (.tmp 31) (.tmp 34) 32 rfl w.heap.size 58 _ 4 48 und_chgs info_chg rfl (by decide) _ (goneTo T ses k).length _ rfl (own_after HCv3.out hb4.out) w4.heap.size rfl rfl rfl (by simp [Value.oneCell']) ?h63 ?hbytes (Nat.le_trans HBs.out hb4.out.size) ?_; rotate_right; intro v' w5 ho5 hg5; replace ho5 := Lib.hid ho5; replace hg5 := Lib.hid hg5))
          case h63 => have := goneTo_len T ses k; simp only [maxLen]; omega
          case hbytes => have := goneTo_len T ses k; omega
          have hk5 : ∀ e, e ≠ 58 → Keeps e w3 w5 := fun e he => (Keeps.below hb4.out).trans (Keeps.grown (own_after HCv3.out hb4.out) hg5.out (Ne.symm he))
          have hcv5 : w5.ownsRow w.heap.size 58 4 v' (goneTo T ses (k + 1)).length ((goneTo T ses (k + 1)).flatMap Chg.cells) := by
            have := ho5.out
            rw [gone_goes HX.out HOw.out, List.flatMap_append, List.length_append]
            simpa [goneOf, Chg.cells] using this
          have hmr : w5.heap[r]? = w3.heap[r]? := by
            obtain ⟨es, clock, L, h1, _⟩ := HM3.out
            have h4 := (hb4.out.block r HM3.out.lt).trans h1
            exact (hg5.out.block r (Array.getElem?_eq_some_iff.1 h4).1 (own_ne (own_after HCv3.out hb4.out) (fun cur e => by rw [h4] at e; cases e))).trans (hb4.out.block r HM3.out.lt)
          have hfin : EndAt w p r T ses (.slice (some ⟨g, 0, none⟩) T.length cc) (k + 1) v' w5 :=
            ⟨(hk5 _ (by decide)).own HO3.out, (hk5 _ (by decide) _ _ HTop3.out).trans HTop3.out, HM3.out.of_block hmr, hcv5, ((HB3.out.after hb4.out).grown hg5.out (fun i hi _ e => by have := own_base_le HCv3.out e.symm; omega))⟩
          have HFin := Lib.hid hfin
          clear hfin hmr hcv5 hk5
          go_roundg (gk - 1)
          case measure => have := HKg.out; omega
          case rel => exact ⟨k + 1, by go_num, by have := HKg.out; omega, HFin.out⟩
        · have ho : xo ≠ ses := by intro e; rw [e] at t; simp at t
          have HOw := Lib.hid ho
          clear ho
          go_wp2_with fail
          go_roundg (gk - 1)
          case measure => have := HKg.out; omega
          case rel =>
            have hb2 : Below wr.heap.size wr (wr.alloc (.cells #[.string xp, .string xd, .int .i64 xv, .int .i64 xm, .int .i64 xc, .int .i64 xo, .int .i64 xn] 43)) := (Below.refl _ _).alloc (Nat.le_refl _) _
            exact ⟨k + 1, by go_num, by have := HKg.out; omega, own_after HO.out hb2, (hb2.block p (Array.getElem?_eq_some_iff.1 HTop.out).1).trans HTop.out, by rw [still_stays HX.out HOw.out]; exact HM.out.of_block (hb2.block r HM.out.lt), by rw [gone_stays HX.out HOw.out]; exact own_after HCv.out hb2, HB.out.after hb2⟩
        --]
      · --[
        have hke : k = T.length := by have := HKg.out; omega
        have hge : ¬ (k : Int) < (T.length : Int) := by omega
        have HKe := Lib.hid hke
        clear hke
        go_wp2_with fail
        go_ret
        have e1 : endChg T ses = goneTo T ses k := by rw [HKe.out, goneTo_all]; exact if_neg (by have := H1.out; omega)
        have e2 : endOf T ses = stillAt T ses k := by rw [HKe.out, stillAt_all]; exact if_neg (by have := H1.out; omega)
        exact ⟨_, rfl, by rw [e1]; exact HCv.out, ⟨HTop.out, by rw [e2]; exact HM.out, HG.out.ended.sorted⟩, HB.out⟩
        --]
end Go.Proofs.YtpmlfpmedbccaaaDoor
