/- The walks of package tree, fifth part: drop. -/
import Derived.Test.YtpmlfpmedbccaaaDoorWork
namespace Go.Proofs.YtpmlfpmedbccaaaDoor
open Go.RowKit
attribute [local go_sem ↓] Go.wp_at_zero Go.wp_at_succ

theorem wpList_len {P : Program} {w : World} {ops : Array Oper} {rest : List Oper} {o : Oper} {a : Act} {Q : Exit → Act → World → Prop} (hgd : o.guard = none) (x : Operand) (t e : TypeId) (ho : o.op = .call { callee := .builtin .len, args := #[x], argTypes := #[t] }) (ht : P.underlying t = some (.slice e)) {ad : Option Addr} {n c : Nat} (hx : a.eval x = .slice ad n c)
    (h : wpList P ops Q rest (a.put o.dst (.int .i64 n)) w) : wpList P ops Q (o :: rest) a w := by
  refine wpList_plain hgd fun K hK => ?_
  unfold Oper.wp
  simp [execOp, ho, resolve, invoke, builtin, hx, Builtin.len_, run_underlying ht, Result.andThen, goInt]
  exact hK _ _ h
/-- What a row looks like. -/
theorem own_form {w : World} {base : Nat} {e : TypeId} {size : Nat} {v : Value} {n : Nat} {xs : List Value} (h : w.ownsRow base e size v n xs) : ∃ ad c, v = .slice ad n c ∧ n ≤ c := by
  rcases h.2 with ⟨rfl, rfl⟩ | ⟨g, cap, cur, rfl, _, _, hc, _⟩
  · exact ⟨_, _, rfl, Nat.le_refl _⟩
  · exact ⟨_, _, rfl, hc⟩

set_option maxRecDepth 100000 in
set_option maxHeartbeats 1000000 in
theorem drop_full (w : World) (B b r : Nat) (T : List Node) (ses st : Int) (cv : Value) (C : List Chg) (x : Node) (h : WorkAt w B b r T ses st cv C) (he : Env w) (hp : ∀ y ∈ T, y.place.size ≤ maxLen) (hT : T.length ≤ 1000000000) (hk : kidsOf T x.place ≠ []) :
    Calls Tryd.prog 44 #[.pointer (some ⟨b, 0, none⟩), x.val] w (StepPost B b r ses st 43 zeroRes T C w) := by
  obtain ⟨k0, k1, k2, k3, k3f⟩ := h.cells
  have n0 := World.new_ne w _ k0
  have HW := Lib.hid h
  have HE := Lib.hid he
  have HP := Lib.hid hp
  have hpos : 0 < (kidsOf T x.place).length := List.length_pos_iff.2 hk
  have hpz : (0 : Int) < ((kidsOf T x.place).length : Int) := by omega
  have hcon := fun W (h1 : WorkAt W B b r T ses st cv C) (h2 : Env W) => kids_any W r T x.place h2 h1.map h1.sorted hp hT
  change ∀ W h1 h2, Calls _ _ _ _ fun e w' => _ at hcon
  generalize kidsOf T x.place = K at hcon hpos hpz
  have HCon := Lib.hid hcon
  clear h he hp hk hcon
  obtain ⟨xp, xd, xv, xm, xc, xo, xn⟩ := x
  simp only [Node.val, Node.cells] at HCon ⊢
  go_enter Tryd.func44, Tryd.ntmps44
  go_wp2_with fail
  generalize hw2 : World.alloc (World.alloc w (Obj.cells _ _)) (Obj.cells _ _) = w2
  obtain ⟨hb2, hx2, hr2, hs2⟩ := two_blocks hw2
  have hW2 := HW.out.after hb2
  have hcon := HCon.out w2.drew hW2.drew (HE.out.after hb2.drew)
  obtain ⟨k0, k1, k2, k3, k3f⟩ := hW2.cells
  obtain ⟨c0, c1, c2, c3, c4, c5, c6⟩ := NodeAt.of hx2
  have HW2 := Lib.hid hW2
  have HB2 := Lib.hid hb2
  have HR2 := Lib.hid hr2
  clear hw2 hb2 hx2 hr2 hs2 hW2 HCon
  go_still_tail 6, (by kernel_rfl)
  change wpList _ _ _ _ _ (World.drew w2)
  go_wp2_with (first
    | (go_at_call 46; refine hcon.mono ?_; rintro e w3 ⟨v, rfl, ho, hb3⟩; obtain ⟨ad, cc, rfl, hcc⟩ := own_form ho; replace ho := Lib.hid ho; replace hb3 := Lib.hid hb3)
    | (at_builtin; refine wpList_len rfl (.tmp 12) _ _ rfl und_fulls rfl ?_)
    | (with_reducible show wpList _ _ _ (Oper.mk _ (.store 54 _ _) _ _ _ _ :: _) _ _; refine stop ?_))
  unfold Stop
  have hr3 := (hb3.out.block _ (show w.heap.size + 1 < w2.drew.heap.size from (Array.getElem?_eq_some_iff.1 HR2.out).1)).trans HR2.out
  have HR3 := Lib.hid hr3
  clear hr3
  refine wpList_store_row rfl _ (.tmp 4) (.tmp 15) rfl (w.heap.size + 1) _ rfl rfl _ _ HR3.out info_res rfl (by simp [Value.oneCell']) ?_
  go_wp2_with fail
  refine bodyPost_ret (v := .tuple #[zeroRes.val (.slice none 0 0), .int .i64 43]) ?_ rfl ?_
  · refine results_res (p := 4) (u := 5) ?_ _ _ (w.heap.size + 1) _ _ ?_ (setRow_heap _ _ _ _ _ _ HR3.out) ?_ <;> rfl
  have hb : Below w.heap.size w w3 := HB2.out.drew.trans (hb3.out.mono HB2.out.size)
  exact ⟨.slice none 0 0, cv, rfl, kids_none _ _, (HW.out.after hb).set_row HR3.out (by decide) _, ((But.refl _ _).after hb).grown (row_grown _ _ _) (fun i hi _ e => by injection e with e; omega)⟩

/-- Behind the deletion and its change. -/
def DropMid (w : World) (B b r : Nat) (T : List Node) (ses st : Int) (C : List Chg) (x : Node) (bx br : Nat) (wc : World) : Prop :=
  ∃ cv', WorkAt wc B b r T ses st cv' C ∧ But (Touch B b r w) w wc ∧ wc.heap[bx]? = some (.cells x.cells.toArray 43 (0, 0)) ∧ wc.heap[br]? = some (.cells (zeroRes.val (.slice none 0 0)).cells 54 (0, 0))
set_option maxRecDepth 100000 in
set_option maxHeartbeats 1000000 in
theorem drop_ok (w : World) (B b r : Nat) (T : List Node) (ses st : Int) (cv : Value) (C : List Chg) (x : Node) (h : WorkAt w B b r T ses st cv C) (he : Env w) (hp : ∀ y ∈ T, y.place.size ≤ maxLen) (hT : T.length ≤ 1000000000) (hk : kidsOf T x.place = []) (hC : C.length ≤ 1000000000) :
    Calls Tryd.prog 44 #[.pointer (some ⟨b, 0, none⟩), x.val] w (StepPost B b r ses st 0 { zeroRes with place := x.place } (del x.place T) (C ++ [goneOf x]) w) := by
  obtain ⟨k0, k1, k2, k3, k3f⟩ := h.cells
  have n0 := World.new_ne w _ k0
  have HW := Lib.hid h
  have HE := Lib.hid he
  have hcon := fun W (h1 : WorkAt W B b r T ses st cv C) (h2 : Env W) => kids_any W r T x.place h2 h1.map h1.sorted hp hT
  change ∀ W h1 h2, Calls _ _ _ _ fun e w' => _ at hcon
  have hgon := fun W => gone_any x W
  rw [hk] at hcon
  have HCon := Lib.hid hcon
  clear h he hp hk hcon
  obtain ⟨xp, xd, xv, xm, xc, xo, xn⟩ := x
  simp only [Node.val, Node.cells] at HCon hgon ⊢
  go_enter Tryd.func44, Tryd.ntmps44
  go_wp2_with fail
  generalize hw2 : World.alloc (World.alloc w (Obj.cells _ _)) (Obj.cells _ _) = w2
  obtain ⟨hb2, hx2, hr2, hs2⟩ := two_blocks hw2
  have hW2 := HW.out.after hb2
  have hcon := HCon.out w2.drew hW2.drew (HE.out.after hb2.drew)
  obtain ⟨k0, k1, k2, k3, k3f⟩ := hW2.cells
  obtain ⟨c0, c1, c2, c3, c4, c5, c6⟩ := NodeAt.of hx2
  have HW2 := Lib.hid hW2
  have HB2 := Lib.hid hb2
  have HR2 := Lib.hid hr2
  have HX2 := Lib.hid hx2
  clear hw2 hb2 hx2 hr2 hs2 hW2 HCon
  go_still_tail 6, (by kernel_rfl)
  change wpList _ _ _ _ _ (World.drew w2)
  go_wp2_with (first
    | (go_at_call 46; refine hcon.mono ?_; rintro e w3 ⟨v, rfl, ho, hb3⟩; obtain ⟨ad, cc, rfl, hcc⟩ := own_form ho; replace hb3 := Lib.hid hb3; clear ho hcc)
    | (at_builtin; refine wpList_len rfl (.tmp 12) _ _ rfl und_fulls rfl ?_))
  clear k0 k1 k2 k3 k3f c0 c1 c2 c3 c4 c5 c6
  have hbw : Below w.heap.size w w3 := HB2.out.drew.trans (hb3.out.mono HB2.out.size)
  have hW3 := HW.out.after hbw
  have hr3 := (hb3.out.block _ (show w.heap.size + 1 < w2.drew.heap.size from (Array.getElem?_eq_some_iff.1 HR2.out).1)).trans HR2.out
  have hx3 := (hb3.out.block _ (show w.heap.size < w2.drew.heap.size from (Array.getElem?_eq_some_iff.1 HX2.out).1)).trans HX2.out
  obtain ⟨k0, k1, k2, k3, k3f⟩ := hW3.cells
  obtain ⟨c0, c1, c2, c3, c4, c5, c6⟩ := NodeAt.of hx3
  have HW3 := Lib.hid hW3
  have HR3 := Lib.hid hr3
  have HX3 := Lib.hid hx3
  have HBW := Lib.hid hbw
  clear hbw hW3 hr3 hx3 hcon
  go_still_tail 6, (by kernel_rfl)
  change wpList _ _ _ _ _ (World.drew w3)
  clear k0 k1 k2 k3 k3f c0 c1 c2 c3 c4 c5 c6
  refine wpList_strike HW3.out.drew.map und_map und_str xp rfl (.tmp 19) (.tmp 21) rfl rfl rfl ?_
  intro w4 hm4 hg4 hs4
  have hW4 := HW3.out.drew.turned (hm4 _ (.refl _)) (del_sorted HW3.out.sorted) hg4
  have hlt := HW.out.lt
  have hX4 := (hg4.block w.heap.size (Array.getElem?_eq_some_iff.1 HX3.out).1 (by simp; omega)).trans HX3.out
  have hR4 := (hg4.block (w.heap.size + 1) (Array.getElem?_eq_some_iff.1 HR3.out).1 (by simp; omega)).trans HR3.out
  have hB4 : But (Touch B b r w) w w4 := (((But.refl _ _).after HBW.out).drew).grown hg4 (fun i _ hn e => hn (.inr (.inl (by injection e))))
  obtain ⟨k0, k1, k2, k3, k3f⟩ := hW4.cells
  obtain ⟨c0, c1, c2, c3, c4, c5, c6⟩ := NodeAt.of hX4
  have HW4 := Lib.hid hW4
  have HR4 := Lib.hid hR4
  have HX4 := Lib.hid hX4
  have HB4 := Lib.hid hB4
  have own4 := hW4.row
  have ag := hW4.row_ne.1
  have l0 := hW4.base.1
  have lb := hW4.lt.1
  obtain ⟨i0, hi0, hz0, hz1, hz2⟩ := info_parts info_chg
  have m0 := World.new_ne w4 _ k0
  clear hm4 hg4 hs4 hW4 hX4 hR4 hB4 HW3 HR3 HX3 hlt
  go_wp2_with fail
  go_cut [] from 22 (fun wc => DropMid w B b r (del xp T) ses st (C ++ [⟨3, xp, noText, xv⟩]) ⟨xp, xd, xv, xm, xc, xo, xn⟩ w.heap.size (w.heap.size + 1) wc)
  case first =>
    go_region_law (first
      | (refine step_append_lies _ (by rfl) _ _ _ (by rfl) B 58 i0 _ 4 48 und_chgs hi0 hz0 hz1 hz2 rfl (by omega) cv C.length _ (by rfl) (own5.out.alloc _)
          ⟨w5.heap.size, 0, none⟩ 1 1 [.int .i64 3, .string xp, .string noText, .int .i64 xv] (by rfl) (by rfl) (World.news_of_block (cs := #[.int .i64 3, .string xp, .string noText, .int .i64 xv]) (t := 58) (fr := (0, 0)) (heap_alloc_new w5 _)) (by simp [Value.oneCell'])
          (by omega) (by simp only [maxLen]; omega) (by omega) (by simp; have := l5.out; omega) (w5.heap.size + 1) (by simp) ?_; intro gg cap w6 hown6 hgrow hat hlt; have z3 := (World.cell?_of_block (far_block' hgrow (lb5.out) (Ne.symm ag))).trans y3; have z4 := (World.frozen?_of_block (a := ⟨b, 3, none⟩) (far_block' hgrow (lb5.out) (Ne.symm ag))).trans y4; replace hown6 := Lib.hid hown6; replace hgrow := Lib.hid hgrow; replace hat := Lib.hid hat; replace hlt := Lib.hid hlt)
      | (go_simp; go_at_call 27; refine (hgon _).mono ?_; rintro e w5 ⟨rfl, hb5⟩; have y3 := (World.cell?_of_block (a := ⟨b, 3, none⟩) (hb5.block b lb)).trans k3; have y4 := (World.frozen?_of_block (a := ⟨b, 3, none⟩) (hb5.block b lb)).trans k3f; have m5 : w5.heap.size ≠ b := Nat.ne_of_gt (Nat.lt_of_lt_of_le lb hb5.size); have m6 : b ≠ w5.heap.size := Ne.symm m5; have m7 : ∀ o, (w5.alloc o).cell? ⟨b, 3, none⟩ = some cv := fun o => (World.cell?_of_block (a := ⟨b, 3, none⟩) (Below.heap_alloc w5 o b (Nat.lt_of_lt_of_le lb hb5.size))).trans y3; have lb5 : Hid (b < w5.heap.size) := Nat.lt_of_lt_of_le lb hb5.size; have l5 : Hid (B ≤ w5.heap.size) := Nat.le_trans l0 hb5.size; have own5 := Lib.hid (own_after (World.ownsRow.drew own4) hb5); have c05 := (World.cell?_of_block (a := ⟨w.heap.size, 0, none⟩) (hb5.block w.heap.size (Array.getElem?_eq_some_iff.1 HX4.out).1)).trans c0; replace hb5 := Lib.hid hb5; simp only [goneOf, Chg.val, Chg.cells]))
    all_goals
      simp only [Exit.then]
      go_step
      go_meet
      case rel =>
        have hb := hb5.out
        have hW5 := HW4.out.drew.after hb
        have hl := hW5.laid' (c := ⟨3, xp, noText, xv⟩) hown6.out hgrow.out (by have := hat.out; simpa using this)
        have hB5 := HB4.out.drew.after hb
        have hx := (hb.block _ (Array.getElem?_eq_some_iff.1 HX4.out).1).trans HX4.out
        have hr := (hb.block _ (Array.getElem?_eq_some_iff.1 HR4.out).1).trans HR4.out
        exact ⟨_, hl.1, hB5.next hl.2, hW5.keeps hl.2 hx (by decide), hW5.keeps hl.2 hr (by decide)⟩
  case rest =>
    obtain ⟨cv', hW5, hB5, hx5, hr5⟩ := hcut
    obtain ⟨c0, c1, c2, c3, c4, c5, c6⟩ := NodeAt.of hx5
    have HW5 := Lib.hid hW5
    have HB5 := Lib.hid hB5
    have HR5 := Lib.hid hr5
    clear hW5 hB5 hx5 hr5
    go_wp2_with (with_reducible show wpList _ _ _ (Oper.mk _ (.store 54 _ _) _ _ _ _ :: _) _ _; refine stop ?_)
    unfold Stop
    refine wpList_store_row rfl _ (.tmp 4) (.tmp 35) rfl (w.heap.size + 1) _ rfl rfl _ _ HR5.out info_res rfl (by simp [Value.oneCell']) ?_
    go_wp2_with fail
    refine bodyPost_ret (v := .tuple #[.agg #[.string xp, .string noText, .int .i64 0, .int .i64 0, .int .i64 0, .int .i64 0, .slice none 0 0], .int .i64 0]) ?_ rfl ?_
    · refine results_res (p := 4) (u := 5) ?_ _ _ (w.heap.size + 1) _ _ ?_ (setRow_heap _ _ _ _ _ _ HR5.out) ?_ <;> rfl
    exact ⟨.slice none 0 0, cv', rfl, kids_none _ _, HW5.out.set_row HR5.out (by decide) _, HB5.out.grown (row_grown _ _ _) (fun i hi _ e => by injection e with e; omega)⟩
end Go.Proofs.YtpmlfpmedbccaaaDoor
