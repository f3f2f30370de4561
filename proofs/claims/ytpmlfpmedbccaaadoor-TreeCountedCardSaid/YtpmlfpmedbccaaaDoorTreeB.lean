/- The walks of package tree, second part: Nodes, kids. -/
import Derived.Test.YtpmlfpmedbccaaaDoorTreeA
import Derived.Test.YtpmlfpmedbccaaaDoorPush
import Derived.Deep.LoopGhost
namespace Go.Proofs.YtpmlfpmedbccaaaDoor
open Go.RowKit
theorem und_fulls : Tryd.prog.underlying 36 = some (.slice 43) := by kernel_rfl
theorem info_full : (Tryd.prog.info? 43).map (fun i => (i.zero, i.size, i.bytes)) = some (some zeroNode.val, 7, 72) := by kernel_rfl
/-- The list so far: the nodes that have come are in a row of the call's own; at most g are still to come. -/
def GotTo (w : World) (q r : Nat) (T : List Node) (g : Nat) (v : Value) (wr : World) : Prop :=
  ∃ done, done.length + g = T.length ∧ Ranging wr q r T done ∧ wr.ownsRow w.heap.size 43 7 v done.length (done.flatMap Node.cells) ∧ Below w.heap.size w wr ∧ q < wr.heap.size
set_option maxRecDepth 100000 in
set_option maxHeartbeats 1000000 in
theorem nodes_tree (w : World) (p r : Nat) (T : List Node) (h : TreeAt w p r T) (hb : ∀ x ∈ T, x.place.size ≤ maxLen) (hn : T.length ≤ 1000000000) :
    Calls Tryd.prog 11 #[.pointer (some ⟨p, 0, none⟩)] w fun e w' => ∃ v, e = .returned v ∧ w'.ownsRow w.heap.size 43 7 v T.length (T.flatMap Node.cells) ∧ Below w.heap.size w w' := by
  have hcell := h.cell
  have hnone := none_tree w p r hcell
  have H := Lib.hid h
  have HB := Lib.hid hb
  have HN := Lib.hid hn
  clear h hb hn
  go_enter Tryd.func11, Tryd.ntmps11
  go_wp2_with (first | (go_at_call 24; refine hnone.mono ?_; rintro e w' ⟨rfl, rfl⟩) | (at_range; refine wpList_range H.out.map und_map rfl (.tmp 11) rfl rfl ?_; intro w1 hr1 hb1 hs1; replace hr1 := Lib.hid hr1; replace hs1 := Lib.hid hs1; replace hb1 := Lib.hid hb1))
  go_simp
  go_loopg [3] T.length (fun g v wr => GotTo w w.heap.size r T g v wr)
  case atStart => exact ⟨[], by simp, hr1.out, World.ownsRow_nil _ _ _ _, hb1.out, by have := hs1.out; omega⟩
  case round =>
    obtain ⟨done, hd, hr, ho, hbw, hq⟩ := hrel
    have HR := Lib.hid hr
    have HO := Lib.hid ho
    have HBW := Lib.hid hbw
    have HQ := Lib.hid hq
    have HD := Lib.hid hd
    clear hr ho hbw hq hd
    go_wp2_with (at_next; refine wpList_next HR.out rfl (.tmp 12) rfl rfl ?_ ?_)
    · intro hperm
      have hi := inOrder_any done w.heap.size u3 done.length wr (fun x hx => HB.out x (hperm.mem_iff.1 hx)) ((hperm.map _).nodup_iff.2 HR.out.map.nodup) (by have := hperm.length_eq; have := HN.out; omega) HO.out
      have HI := Lib.hid hi
      have HP := Lib.hid hperm
      clear hi hperm
      go_wp2_with (go_at_call 28; refine HI.out.mono ?_; rintro e w' ⟨rfl, S, hs1, hs2, hs3, hs4⟩; replace hs1 := Lib.hid hs1; replace hs2 := Lib.hid hs2; replace hs3 := Lib.hid hs3; replace hs4 := Lib.hid hs4)
      go_ret
      have e : S = T := sorted_unique hs2.out H.out.sorted (hs1.out.trans HP.out)
      have e2 := HP.out.length_eq
      subst e
      exact ⟨_, rfl, e2 ▸ hs3.out, own_below HBW.out HO.out hs4.out (Nat.le_refl _) (Nat.le_of_lt HQ.out)⟩
    · intro x w2 hx hnew hr2 hlt hg2 hs2 hent
      replace hx := Lib.hid hx
      replace hr2 := Lib.hid hr2
      replace hlt := Lib.hid hlt
      replace hg2 := Lib.hid hg2
      replace hs2 := Lib.hid hs2
      clear hnew
      obtain ⟨xp, xd, xv, xm, xc, xo, xn⟩ := x
      simp only [Node.val, Node.cells] at hent ⊢
      have HO2 : Hid (∀ o, (w2.alloc o).ownsRow w.heap.size 43 7 u3 done.length (done.flatMap Node.cells)) := fun o => (HO.out.kept hg2.out (.inr fun e => own_ne HO.out (q := w.heap.size) (HR.out.not_row _) e.symm)).alloc o
      have hB2 : Below w.heap.size w w2 := HBW.out.grown hg2.out (Nat.le_of_lt HQ.out) (fun k hk => by cases hk; exact Nat.le_refl _)
      have HB2 := Lib.hid hB2
      have hS2 : w.heap.size ≤ w2.heap.size := by have := HQ.out; have := hs2.out; omega
      have HS2 := Lib.hid hS2
      clear hB2 hS2
      go_wp2_with (at_builtin; refine wpList_push rfl (.tmp 17) (.tmp 19) 36 rfl w.heap.size 43 _ 7 72 und_fulls info_full rfl (by decide) _ done.length _ rfl (HO2.out _) (w2.heap.size + 1) (by simp) rfl rfl (by simp [Value.oneCell']) ?h63 ?hbytes (by have := HS2.out; simp; omega) ?_; rotate_right; intro v' w3 ho3 hg3; replace ho3 := Lib.hid ho3; replace hg3 := Lib.hid hg3)
      case h63 => have := HN.out; have := hlt.out; simp only [maxLen]; omega
      case hbytes => have := HN.out; have := hlt.out; omega
      go_roundg (gk - 1)
      case measure => have := HD.out; have := hlt.out; omega
      case rel =>
        refine ⟨done ++ [_], ?_, (hr2.out.alloc _).grown (HO2.out _) hg3.out, ?_, own_below (HB2.out.alloc HS2.out _) (HO2.out _) hg3.out (Nat.le_refl _) (by have := HS2.out; simp; omega), ?_⟩
        · have := HD.out; have := hlt.out; simp; omega
        · have := ho3.out; simpa [Node.cells] using this
        · have a := hg3.out.size; have := HQ.out; have := hs2.out; simp at a; omega

/-! ### kids -/
def KidsTo (w : World) (q r : Nat) (T : List Node) (above : ByteArray) (g : Nat) (v : Value) (wr : World) : Prop :=
  ∃ done, done.length + g = T.length ∧ Ranging wr q r T done ∧ wr.ownsRow w.heap.size 43 7 v (kidsOf done above).length ((kidsOf done above).flatMap Node.cells) ∧ Below w.heap.size w wr ∧ q < wr.heap.size
set_option maxRecDepth 100000 in
set_option maxHeartbeats 1000000 in
theorem kids_any (w : World) (r : Nat) (T : List Node) (above : ByteArray) (he : Env w) (h : MapAt w r T) (hst : Sorted T) (hb : ∀ x ∈ T, x.place.size ≤ maxLen) (hn : T.length ≤ 1000000000) :
    Calls Tryd.prog 46 #[.map (some r), .string above] w fun e w' => ∃ v, e = .returned v ∧ w'.ownsRow w.heap.size 43 7 v (kidsOf T above).length ((kidsOf T above).flatMap Node.cells) ∧ Below w.heap.size w w' := by
  have H := Lib.hid h
  have HB := Lib.hid hb
  have HN := Lib.hid hn
  have HE := Lib.hid he
  have HS := Lib.hid hst
  clear h hb hn he hst
  go_enter Tryd.func46, Tryd.ntmps46
  go_wp2_with (at_range; refine wpList_range H.out und_map rfl (.tmp 10) rfl rfl ?_; intro w1 hr1 hb1 hs1; replace hr1 := Lib.hid hr1; replace hs1 := Lib.hid hs1; replace hb1 := Lib.hid hb1)
  go_simp
  go_loopg [5] T.length (fun g v wr => KidsTo w w.heap.size r T above g v wr)
  case atStart => exact ⟨[], by simp, hr1.out, World.ownsRow_nil _ _ _ _, hb1.out, by have := hs1.out; omega⟩
  case round =>
    obtain ⟨done, hd, hr, ho, hbw, hq⟩ := hrel
    have HR := Lib.hid hr
    have HO := Lib.hid ho
    have HBW := Lib.hid hbw
    have HQ := Lib.hid hq
    have HD := Lib.hid hd
    clear hr ho hbw hq hd
    go_wp2_with (at_next; refine wpList_next HR.out rfl (.tmp 11) rfl rfl ?_ ?_)
    · intro hperm
      have hsub : ∀ x ∈ kidsOf done above, x ∈ T := fun x hx => hperm.mem_iff.1 (List.mem_filter.1 hx).1
      have hi := inOrder_any (kidsOf done above) w.heap.size u5 _ wr (fun x hx => HB.out x (hsub x hx)) (List.Nodup.sublist (List.filter_sublist.map _) ((hperm.map _).nodup_iff.2 HR.out.map.nodup)) (by have h1 := hperm.length_eq; have := HN.out; have h2 : (kidsOf done above).length ≤ done.length := List.length_filter_le _ _; omega) HO.out
      have HI := Lib.hid hi
      have HP := Lib.hid hperm
      clear hi hperm hsub
      go_wp2_with (go_at_call 28; refine HI.out.mono ?_; rintro e w' ⟨rfl, S, hs1, hs2, hs3, hs4⟩; replace hs1 := Lib.hid hs1; replace hs2 := Lib.hid hs2; replace hs3 := Lib.hid hs3; replace hs4 := Lib.hid hs4)
      go_ret
      have e1 : S.Perm (kidsOf T above) := hs1.out.trans (HP.out.filter _)
      have e : S = kidsOf T above := sorted_unique hs2.out (List.Pairwise.sublist List.filter_sublist HS.out) e1
      have e2 := (HP.out.filter (isKid above)).length_eq
      subst e
      exact ⟨_, rfl, e2 ▸ hs3.out, own_below HBW.out HO.out hs4.out (Nat.le_refl _) (Nat.le_of_lt HQ.out)⟩
    · intro x w2 hx hnew hr2 hlt hg2 hs2 hent
      have hpar := fun W h1 => parent_any x.place W h1 (HB.out x hx)
      have hkd : isKid above x = true ↔ ((parent x.at).2 == 0) = true ∧ ((parent x.at).1 == above.toList) = true := by unfold isKid; simp
      have hdk : kidsOf (done ++ [x]) above = if isKid above x = true then kidsOf done above ++ [x] else kidsOf done above := by
        unfold kidsOf
        rw [List.filter_append, List.filter_cons]
        split <;> simp
      have HDK := Lib.hid hdk
      clear hdk
      obtain ⟨⟨up, code⟩, hpc⟩ : ∃ pc, parent x.at = pc := ⟨_, rfl⟩
      change ∀ W h1, Calls _ _ _ _ fun e w' => ParentPost (parent x.at) W e w' at hpar
      rw [hpc] at hpar hkd
      have HX := Lib.hid hx
      clear hpc hx
      replace hr2 := Lib.hid hr2
      replace hlt := Lib.hid hlt
      replace hg2 := Lib.hid hg2
      replace hs2 := Lib.hid hs2
      clear hnew
      have hxc : x.cells.length = 7 := rfl
      obtain ⟨cs, hcs⟩ : ∃ cs, x.cells = cs := ⟨_, rfl⟩
      obtain ⟨xp, xd, xv, xm, xc, xo, xn⟩ := x
      simp only [Node.val, Node.cells] at hent hpar ⊢
      have HO2 : Hid (w2.ownsRow w.heap.size 43 7 u5 (kidsOf done above).length ((kidsOf done above).flatMap Node.cells)) := HO.out.kept hg2.out (.inr fun e => own_ne HO.out (q := w.heap.size) (HR.out.not_row _) e.symm)
      have hB2 : Below w.heap.size w w2 := HBW.out.grown hg2.out (Nat.le_of_lt HQ.out) (fun k hk => by cases hk; exact Nat.le_refl _)
      have HB2 := Lib.hid hB2
      have hS2 : w.heap.size ≤ w2.heap.size := by have := HQ.out; have := hs2.out; omega
      have HS2 := Lib.hid hS2
      clear hB2 hS2
      go_wp2_with (go_at_call 29; refine (hpar _ (HE.out.below (HB2.out.alloc HS2.out _) HE.out.hs)).mono ?_; rintro e w3 ⟨rfl, hb3⟩; have hx3 := NodeAt.of ((hb3.block w2.heap.size (by simp)).trans (heap_alloc_new w2 _)); replace hb3 := Lib.hid hb3; refine stop ?_)
      unfold Stop
      obtain ⟨c0, c1, c2, c3, c4, c5, c6⟩ := hx3
      have ho3 := own_after (HO2.out.alloc _) hb3.out
      have hr3 := (hr2.out.alloc _).keep (hb3.out.block _ (by have := hr2.out.lt; simp; omega)) (hb3.out.block _ (by have := hr2.out.lt; simp; omega))
      have hB3 : Below w.heap.size w w3 := (HB2.out.alloc HS2.out _).trans (hb3.out.mono (by have := HS2.out; simp; omega))
      have hS3 : w2.heap.size + 1 ≤ w3.heap.size := by have := hb3.out.size; simp at this; omega
      replace ho3 := Lib.hid ho3
      replace hr3 := Lib.hid hr3
      have HB3 := Lib.hid hB3
      replace hS3 := Lib.hid hS3
      clear hB3
      rcases Bool.eq_false_or_eq_true (code == 0) with t1 | t1
      · rcases Bool.eq_false_or_eq_true (up == above.toList) with t2 | t2
        · have hk : isKid above ⟨xp, xd, xv, xm, xc, xo, xn⟩ = true := hkd.2 ⟨t1, t2⟩
          have HK := Lib.hid hk
          clear hk
          go_wp2_with (at_builtin; refine wpList_push rfl (.tmp 29) (.tmp 31) 36 rfl w.heap.size 43 _ 7 72 und_fulls info_full rfl (by decide) _ (kidsOf done above).length _ rfl ho3.out w3.heap.size (by simp) rfl rfl (by simp [Value.oneCell']) ?h63 ?hbytes (by have := HS2.out; have := hS3.out; omega) ?_; rotate_right; intro v' w4 ho4 hg4; replace ho4 := Lib.hid ho4; replace hg4 := Lib.hid hg4)
          case h63 => have := HN.out; have := hlt.out; have h2 : (kidsOf done above).length ≤ done.length := List.length_filter_le _ _; simp only [maxLen]; omega
          case hbytes => have := HN.out; have := hlt.out; have h2 : (kidsOf done above).length ≤ done.length := List.length_filter_le _ _; omega
          go_roundg (gk - 1)
          case measure => have := HD.out; have := hlt.out; omega
          case rel =>
            refine ⟨done ++ [_], ?_, hr3.out.grown ho3.out hg4.out, ?_, own_below HB3.out ho3.out hg4.out (Nat.le_refl _) (by have := HS2.out; have := hS3.out; omega), ?_⟩
            · have := HD.out; have := hlt.out; simp; omega
            · have := ho4.out
              rw [HDK.out, if_pos HK.out]
              simpa [Node.cells] using this
            · have := hg4.out.size; have := hS3.out; have := HS2.out; omega
        · have hk : ¬ isKid above ⟨xp, xd, xv, xm, xc, xo, xn⟩ = true := fun h => by have := (hkd.1 h).2; rw [t2] at this; cases this
          have HK := Lib.hid hk
          clear hk
          go_wp2_with fail
          go_roundg (gk - 1)
          case measure => have := HD.out; have := hlt.out; omega
          case rel =>
            refine ⟨done ++ [_], ?_, hr3.out, ?_, HB3.out, ?_⟩
            · have := HD.out; have := hlt.out; simp; omega
            · rw [HDK.out, if_neg HK.out]; exact ho3.out
            · have := hS3.out; have := HS2.out; omega
      · have hk : ¬ isKid above ⟨xp, xd, xv, xm, xc, xo, xn⟩ = true := fun h => by have := (hkd.1 h).1; rw [t1] at this; cases this
        have HK := Lib.hid hk
        clear hk
        go_wp2_with fail
        go_roundg (gk - 1)
        case measure => have := HD.out; have := hlt.out; omega
        case rel =>
          refine ⟨done ++ [_], ?_, hr3.out, ?_, HB3.out, ?_⟩
          · have := HD.out; have := hlt.out; simp; omega
          · rw [HDK.out, if_neg HK.out]; exact ho3.out
          · have := hS3.out; have := HS2.out; omega
end Go.Proofs.YtpmlfpmedbccaaaDoor
