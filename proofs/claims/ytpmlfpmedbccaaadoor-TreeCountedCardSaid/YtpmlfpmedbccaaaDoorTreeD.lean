/- The walks of package tree, fourth part: set. -/
import Derived.Test.YtpmlfpmedbccaaaDoorWork
namespace Go.Proofs.YtpmlfpmedbccaaaDoor
open Go.RowKit
attribute [local go_sem ↓] Go.wp_at_zero Go.wp_at_succ

/-! ### set -/
theorem set_full (w : World) (B b r : Nat) (T : List Node) (ses st : Int) (cv : Value) (C : List Chg) (x : Node) (data : ByteArray) (h : WorkAt w B b r T ses st cv C) (hx : 2147483647 ≤ x.version) :
    Calls Tryd.prog 43 #[.pointer (some ⟨b, 0, none⟩), x.val, .string data] w (StepPost B b r ses st 46 zeroRes T C w) := by
  have HW := Lib.hid h
  clear h
  obtain ⟨xp, xd, xv, xm, xc, xo, xn⟩ := x
  simp only [Node.val, Node.cells] at hx ⊢
  go_enter Tryd.func43, Tryd.ntmps43
  go_wp2
  refine bodyPost_ret (v := .tuple #[zeroRes.val (.slice none 0 0), .int .i64 46]) (by simp [results, Tryd.results43, go_sem]; rfl) rfl ?_
  have hb : Below w.heap.size w ((w.alloc (.cells #[.string xp, .string xd, .int .i64 xv, .int .i64 xm, .int .i64 xc, .int .i64 xo, .int .i64 xn] 43)).alloc (.cells (zeroRes.val (.slice none 0 0)).cells 54)) := ((Below.refl _ _).alloc (Nat.le_refl _) _).alloc (by simp) _
  exact ⟨_, cv, rfl, kids_none _ _, HW.out.after hb, (But.refl _ _).after hb⟩

set_option maxRecDepth 100000 in
set_option maxHeartbeats 1000000 in
theorem set_ok (w : World) (B b r : Nat) (T : List Node) (ses st : Int) (cv : Value) (C : List Chg) (x : Node) (data : ByteArray) (h : WorkAt w B b r T ses st cv C) (hx : x.version < 2147483647) (hx0 : 0 ≤ x.version) (hC : C.length ≤ 1000000000) :
    Calls Tryd.prog 43 #[.pointer (some ⟨b, 0, none⟩), x.val, .string data] w (StepPost B b r ses st 0 (toldOf { x with data := data, version := x.version + 1, changed := st }) (put { x with data := data, version := x.version + 1, changed := st } T) (C ++ [⟨2, x.place, data, x.version + 1⟩]) w) := by
  obtain ⟨k0, k1, k2, k3, k3f⟩ := h.cells
  have n0 := World.new_ne w _ k0
  have n2 := World.new_ne w _ k2
  have n3 := World.new_ne w _ k3
  have HW := Lib.hid h
  clear h
  obtain ⟨xp, xd, xv, xm, xc, xo, xn⟩ := x
  simp only [Node.val, Node.cells] at hx hx0 ⊢
  go_enter Tryd.func43, Tryd.ntmps43
  go_wp2_with fail
  go_region_held3 (fun w' => w'.cell? ⟨b, 2, none⟩ = some (.int .i64 st)) (go_keep) (fail)
  go_wp2_with fail
  have hb2 : Below w.heap.size w ((w.alloc (.cells #[.string xp, .string data, .int .i64 (xv + 1), .int .i64 xm, .int .i64 st, .int .i64 xo, .int .i64 xn] 43)).alloc (.cells (zeroRes.val (.slice none 0 0)).cells 54)).drew := (((Below.refl _ _).alloc (Nat.le_refl _) _).alloc (by simp) _).drew
  have hx2 : ((w.alloc (.cells #[.string xp, .string data, .int .i64 (xv + 1), .int .i64 xm, .int .i64 st, .int .i64 xo, .int .i64 xn] 43)).alloc (.cells (zeroRes.val (.slice none 0 0)).cells 54)).drew.heap[w.heap.size]? = some (.cells #[.string xp, .string data, .int .i64 (xv + 1), .int .i64 xm, .int .i64 st, .int .i64 xo, .int .i64 xn] 43) := (Below.heap_alloc _ _ _ (by simp)).trans (heap_alloc_new w _)
  have hr2 : ((w.alloc (.cells #[.string xp, .string data, .int .i64 (xv + 1), .int .i64 xm, .int .i64 st, .int .i64 xo, .int .i64 xn] 43)).alloc (.cells (zeroRes.val (.slice none 0 0)).cells 54)).drew.heap.size = w.heap.size + 1 + 1 := by simp
  have hres2 : ((w.alloc (.cells #[.string xp, .string data, .int .i64 (xv + 1), .int .i64 xm, .int .i64 st, .int .i64 xo, .int .i64 xn] 43)).alloc (.cells (zeroRes.val (.slice none 0 0)).cells 54)).drew.heap[w.heap.size + 1]? = some (.cells (zeroRes.val (.slice none 0 0)).cells 54) := by
    have e : (w.alloc (.cells #[.string xp, .string data, .int .i64 (xv + 1), .int .i64 xm, .int .i64 st, .int .i64 xo, .int .i64 xn] 43)).heap.size = w.heap.size + 1 := by simp
    rw [← e]
    exact heap_alloc_new _ _
  simp only [zeroRes, noText, Res.val, Value.cells] at hb2 hx2 hr2 hres2
  generalize World.drew _ = w2 at hb2 hx2 hr2 hres2 ⊢
  have HRes2 := Lib.hid hres2
  clear hres2
  obtain ⟨q0, q1, q2, q3, q3f⟩ := (HW.out.after hb2).cells
  have hN := NodeAt.of hx2
  obtain ⟨c0, c1, c2, c3, c4, c5, c6⟩ := hN
  have HW2 := Lib.hid (HW.out.after hb2)
  have HB2 := Lib.hid hb2
  have HX2 := Lib.hid hx2
  have HR2 := Lib.hid hr2
  clear hb2 hx2 hr2 k0 k1 k2 k3 k3f
  go_still_tail 7, (by kernel_rfl)
  change wpList _ _ _ _ _ w2.drew
  refine wpList_put HW2.out.drew.map und_map und_str ⟨xp, data, xv + 1, xm, st, xo, xn⟩ rfl (.tmp 26) (.tmp 28) (.tmp 29) (.inl rfl) rfl rfl rfl ?_
  intro w3 hm3 hg3 hs3
  have hW3 := HW2.out.drew.turned (hm3 _ (ins_perm _ _)) (put_sorted HW2.out.sorted) hg3
  have hX3 : w3.heap[w.heap.size]? = _ := (hg3.block w.heap.size (by have := HR2.out; simp; omega) (by simp; have := HW.out.lt; omega)).trans HX2.out
  have hR3 : w3.heap.size = w.heap.size + 1 + 1 := hs3.trans HR2.out
  have hB3 : But (Touch B b r w) w w3 := (((But.refl _ _).after HB2.out).drew).grown hg3 (fun i _ hn e => hn (.inr (.inl (by injection e))))
  have hRes3 : w3.heap[w.heap.size + 1]? = w2.heap[w.heap.size + 1]? := hg3.block _ (by have := HR2.out; simp; omega) (by simp; have := HW.out.lt; omega)
  rw [HRes2.out] at hRes3
  clear hm3 hg3 hs3 q0 q1 q2 q3 q3f c0 c1 c2 c3 c4 c5 c6 HW2 HB2 HX2 HR2
  obtain ⟨q0, q1, q2, q3, q3f⟩ := hW3.cells
  obtain ⟨c0, c1, c2, c3, c4, c5, c6⟩ := NodeAt.of hX3
  have own3 := hW3.row
  have ag := hW3.row_ne.1
  have ax : cv.ownBlock ≠ some w.heap.size := fun e => by have := HW.out.row.lt _ e; omega
  have l0 := hW3.base.1
  have lb := hW3.lt.1
  have lx : w.heap.size < w3.heap.size := by omega
  have HW3 := Lib.hid hW3
  have HX3 := Lib.hid hX3
  have HR3 := Lib.hid hR3
  have HB3 := Lib.hid hB3
  have HRes3 := Lib.hid hRes3
  have HWi := HW
  clear hW3 hX3 hB3 hRes3 hR3
  obtain ⟨i0, hi0, hz0, hz1, hz2⟩ := info_parts info_chg
  have m0 := World.new_ne w3 _ q0
  have m3 := World.new_ne w3 _ c0
  simp only [] at m0 m3
  go_wp2_with fail
  go_cut [] from 30 (fun wc => SetMid w B b r (put ⟨xp, data, xv + 1, xm, st, xo, xn⟩ T) ses st (C ++ [⟨2, xp, data, xv + 1⟩]) ⟨xp, data, xv + 1, xm, st, xo, xn⟩ w.heap.size (w.heap.size + 1) wc)
  case first =>
    go_region_law
      ((refine step_append_lies _ (by rfl) _ _ _ (by rfl) B 58 i0 _ 4 48 und_chgs hi0 hz0 hz1 hz2 rfl (by omega) cv C.length _ (by rfl) ((own3.alloc _).drew)
          ⟨w3.heap.size, 0, none⟩ 1 1 [.int .i64 2, .string xp, .string data, .int .i64 (xv + 1)] (by rfl) (by rfl) (World.news_of_block (cs := #[.int .i64 2, .string xp, .string data, .int .i64 (xv + 1)]) (t := 58) (fr := (0, 0)) (heap_alloc_new w3 _)) (by simp [Value.oneCell'])
          (by omega) (by simp only [maxLen]; omega) (by omega) (by simp; omega) (w3.heap.size + 1) (by simp) ?_; intro gg cap w4 hown4 hgrow hat hlt; have z3 := (World.cell?_of_block (far_block hgrow lb (Ne.symm ag))).trans q3; have z4 := (World.frozen?_of_block (a := ⟨b, 3, none⟩) (far_block hgrow lb (Ne.symm ag))).trans q3f; replace hown4 := Lib.hid hown4; replace hgrow := Lib.hid hgrow; replace hat := Lib.hid hat; replace hlt := Lib.hid hlt))
    all_goals
      simp only [Exit.then]
      go_step
      go_meet
      case rel =>
        have hl := HW3.out.laid (c := ⟨2, xp, data, xv + 1⟩) hown4.out hgrow.out (by have := hat.out; simpa using this)
        exact ⟨_, hl.1, HB3.out.next hl.2, HW3.out.keeps hl.2 HX3.out (by decide), HW3.out.keeps hl.2 HRes3.out (by decide)⟩
  case rest =>
    obtain ⟨cv', hW4, hB4, hx4, hr4⟩ := hcut
    obtain ⟨c0, c1, c2, c3, c4, c5, c6⟩ := NodeAt.of hx4
    have hcon := told_any ⟨xp, data, xv + 1, xm, st, xo, xn⟩ wc
    simp only [Node.val, Node.cells] at hcon
    have HW4 := Lib.hid hW4
    have HB4 := Lib.hid hB4
    have HR4 := Lib.hid hr4
    clear hW4 hB4 hx4 hr4 q3 q3f own3
    go_wp2_with (go_at_call 45; refine hcon.mono ?_; rintro e w5 ⟨rfl, hb5⟩; refine stop ?_)
    unfold Stop
    have hr5 := (hb5.block _ (Array.getElem?_eq_some_iff.1 HR4.out).1).trans HR4.out
    have HB5 := Lib.hid hb5
    have HR5 := Lib.hid hr5
    clear hb5 hr5 c0 c1 c2 c3 c4 c5 c6 hcon
    simp only [toldOf, Res.val, noText]
    go_wp2_with (with_reducible show wpList _ _ _ (Oper.mk _ (.store 54 _ _) _ _ _ _ :: _) _ _; refine stop ?_)
    unfold Stop
    refine wpList_store_row rfl _ (.tmp 6) (.tmp 46) rfl (w.heap.size + 1) _ rfl rfl _ _ HR5.out info_res rfl (by simp [Value.oneCell']) ?_
    go_wp2_with fail
    refine bodyPost_ret (v := .tuple #[.agg #[.string xp, .string noText, .int .i64 (xv + 1), .int .i64 xm, .int .i64 st, .int .i64 xo, .slice none 0 0], .int .i64 0]) ?_ rfl ?_
    · refine results_res (p := 6) (u := 7) ?_ _ _ (w.heap.size + 1) _ _ ?_ (setRow_heap _ _ _ _ _ _ HR5.out) ?_ <;> rfl
    exact ⟨.slice none 0 0, cv', rfl, kids_none _ _, (HW4.out.after HB5.out).set_row HR5.out (by decide) _, (HB4.out.after HB5.out).grown (row_grown _ _ _) (fun i hi _ e => by injection e with e; omega)⟩
end Go.Proofs.YtpmlfpmedbccaaaDoor
