/- The walks of package tree, sixth part: make. -/
import Derived.Test.YtpmlfpmedbccaaaDoorWork
import Derived.Test.YtpmlfpmedbccaaaDoorMapEntry
namespace Go.Proofs.YtpmlfpmedbccaaaDoor
open Go.RowKit
attribute [local go_sem ↓] Go.wp_at_zero Go.wp_at_succ

/-- An op's five cells, in a block of its own. -/
structure OpAt (w : World) (b : Nat) (k : Int) (p d : ByteArray) (v f : Int) : Prop where
  c0 : w.cell? ⟨b, 0, none⟩ = some (.int .i64 k)
  c1 : w.cell? ⟨b, 1, none⟩ = some (.string p)
  c2 : w.cell? ⟨b, 2, none⟩ = some (.string d)
  c3 : w.cell? ⟨b, 3, none⟩ = some (.int .i64 v)
  c4 : w.cell? ⟨b, 4, none⟩ = some (.int .i64 f)
theorem OpAt.of {w : World} {b : Nat} {k : Int} {p d : ByteArray} {v f : Int} {E : TypeId} (h : w.heap[b]? = some (.cells #[.int .i64 k, .string p, .string d, .int .i64 v, .int .i64 f] E)) : OpAt w b k p d v f := by
  constructor <;> simp [World.cell?, h]

/-- While an op is being played: the work, the boxed op, the result's block. -/
def MakeAt (w : World) (B b r : Nat) (T : List Node) (ses st : Int) (cv : Value) (C : List Chg) (o : OpV) (wc : World) : Prop :=
  WorkAt wc B b r T ses st cv C ∧ Below w.heap.size w wc ∧ wc.heap[w.heap.size]? = some (.cells o.cells.toArray 50) ∧ wc.heap[w.heap.size + 1]? = some (.cells (zeroRes.val (.slice none 0 0)).cells 54)
section
variable {w wc wd : World} {B b r : Nat} {T : List Node} {ses st : Int} {cv : Value} {C : List Chg} {o : OpV}
theorem MakeAt.start {w2 : World} (h : WorkAt w B b r T ses st cv C) (h2 : (w.alloc (.cells o.cells.toArray 50)).alloc (.cells (zeroRes.val (.slice none 0 0)).cells 54) = w2) : MakeAt w B b r T ses st cv C o w2 :=
  have q := two_blocks h2
  ⟨h.after q.1, q.1, q.2.1, q.2.2.1⟩
theorem MakeAt.drewN (h : MakeAt w B b r T ses st cv C o wc) (n : Nat) : MakeAt w B b r T ses st cv C o (wc.drewN n) :=
  ⟨⟨h.1.top, h.1.map, h.1.sorted, h.1.row, h.1.base⟩, ⟨h.2.1.os, h.2.1.tape, h.2.1.output, h.2.1.size, h.2.1.block⟩, h.2.2⟩
theorem MakeAt.drew (h : MakeAt w B b r T ses st cv C o wc) : MakeAt w B b r T ses st cv C o wc.drew := h.drewN 1
theorem MakeAt.after (h : MakeAt w B b r T ses st cv C o wc) (k : Below wc.heap.size wc wd) : MakeAt w B b r T ses st cv C o wd :=
  ⟨h.1.after k, h.2.1.trans (k.mono h.2.1.size), (k.block _ (Array.getElem?_eq_some_iff.1 h.2.2.1).1).trans h.2.2.1, (k.block _ (Array.getElem?_eq_some_iff.1 h.2.2.2).1).trans h.2.2.2⟩
theorem MakeAt.op (h : MakeAt w B b r T ses st cv C o wc) : OpAt wc w.heap.size o.kind o.place o.data o.version o.flags := OpAt.of h.2.2.1
/-- Where nothing is turned. -/
theorem MakeAt.refused (h : MakeAt w B b r T ses st cv C o wc) (code : Int) : StepPost B b r ses st code zeroRes T C w (.returned (.tuple #[zeroRes.val (.slice none 0 0), .int .i64 code])) (wc.setRow (w.heap.size + 1) (zeroRes.val (.slice none 0 0)).cells) :=
  ⟨_, cv, rfl, kids_none _ _, h.1.set_row h.2.2.2 (by decide) _, ((But.refl _ _).after h.2.1).grown (row_grown _ _ _) (fun i hi _ e => by injection e with e; omega)⟩
end
/-- Behind the look-up of what lies above. -/
def LookMid (w : World) (B b r : Nat) (T : List Node) (ses st : Int) (cv : Value) (C : List Chg) (o : OpV) (up : List UInt8) (s10 s11 : Value) (wd : World) : Prop :=
  ∃ (ba : Nat) (x0 : Node) (is : Bool), s10 = .pointer (some ⟨ba, 0, none⟩) ∧ s11 = .bool is ∧ (is = true → look T ⟨up.toArray⟩ = some x0) ∧ (is = false → look T ⟨up.toArray⟩ = none) ∧ MakeAt w B b r T ses st cv C o wd ∧
    wd.heap[ba]? = some (.cells x0.cells.toArray 43) ∧ w.heap.size + 1 < ba
theorem MakeAt.looked {w wc : World} {B b r : Nat} {T : List Node} {ses st : Int} {cv : Value} {C : List Chg} {o : OpV} (h : MakeAt w B b r T ses st cv C o wc) {up : List UInt8} {x0 : Node} {is : Bool} (h1 : is = true → look T ⟨up.toArray⟩ = some x0) (h2 : is = false → look T ⟨up.toArray⟩ = none) :
    LookMid w B b r T ses st cv C o up (.pointer (some ⟨wc.heap.size, 0, none⟩)) (.bool is) (wc.alloc (.cells x0.cells.toArray 43)) :=
  ⟨wc.heap.size, x0, is, rfl, rfl, h1, h2, h.after ((Below.refl _ _).alloc (Nat.le_refl _) _), heap_alloc_new wc _, (Array.getElem?_eq_some_iff.1 h.2.2.2).1⟩
/-- The node above and the new one, each in a block of its own. -/
def PairAt (w : World) (B b r : Nat) (T : List Node) (ses st : Int) (cv : Value) (C : List Chg) (o : OpV) (ba bx : Nat) (A X : Node) (wd : World) : Prop :=
  MakeAt w B b r T ses st cv C o wd ∧ wd.heap[ba]? = some (.cells A.cells.toArray 43) ∧ wd.heap[bx]? = some (.cells X.cells.toArray 43) ∧ w.heap.size + 1 < ba ∧ ba < bx
section
variable {w wc wd : World} {B b r : Nat} {T : List Node} {ses st : Int} {cv : Value} {C : List Chg} {o : OpV} {ba bx : Nat} {A X : Node}
theorem PairAt.start (h : MakeAt w B b r T ses st cv C o wc) (ha : wc.heap[ba]? = some (.cells A.cells.toArray 43)) (hl : w.heap.size + 1 < ba) (hd : (wc.alloc (.cells X.cells.toArray 43)).drew = wd) : PairAt w B b r T ses st cv C o ba wc.heap.size A X wd := by
  subst hd
  have hlt := (Array.getElem?_eq_some_iff.1 ha).1
  exact ⟨(h.after ((Below.refl _ _).alloc (Nat.le_refl _) _)).drew, (Below.heap_alloc wc _ ba hlt).trans ha, heap_alloc_new wc _, hl, hlt⟩
theorem PairAt.after (h : PairAt w B b r T ses st cv C o ba bx A X wc) (k : Below wc.heap.size wc wd) : PairAt w B b r T ses st cv C o ba bx A X wd :=
  ⟨h.1.after k, (k.block _ (Array.getElem?_eq_some_iff.1 h.2.1).1).trans h.2.1, (k.block _ (Array.getElem?_eq_some_iff.1 h.2.2.1).1).trans h.2.2.1, h.2.2.2⟩
theorem PairAt.drew (h : PairAt w B b r T ses st cv C o ba bx A X wc) : PairAt w B b r T ses st cv C o ba bx A X wc.drew := ⟨h.1.drew, h.2⟩
/-- A cell of one of the two is written. -/
theorem PairAt.set (hw : WorkAt w B b r T ses st cv C) (h : PairAt w B b r T ses st cv C o ba bx A X wc) {p : Addr} {u : Value} {A' X' : Node}
    (hA : (wc.setCell p u).heap[ba]? = some (.cells A'.cells.toArray 43)) (hX : (wc.setCell p u).heap[bx]? = some (.cells X'.cells.toArray 43)) (hp : w.heap.size + 1 < p.block) : PairAt w B b r T ses st cv C o ba bx A' X' (wc.setCell p u) := by
  have hb : Below w.heap.size w (wc.setCell p u) := h.1.2.1.setCell (by omega) u
  exact ⟨⟨hw.after hb, hb, (Below.heap_setCell wc p u _ (by omega)).trans h.1.2.2.1, (Below.heap_setCell wc p u _ (by omega)).trans h.1.2.2.2⟩, hA, hX, h.2.2.2⟩
theorem PairAt.nodes (h : PairAt w B b r T ses st cv C o ba bx A X wc) : NodeAt wc ba A.place A.data A.version A.made A.changed A.owner A.counter ∧ NodeAt wc bx X.place X.data X.version X.made X.changed X.owner X.counter := ⟨NodeAt.of h.2.1, NodeAt.of h.2.2.1⟩
theorem PairAt.owner (hw : WorkAt w B b r T ses st cv C) (h : PairAt w B b r T ses st cv C o ba bx A X wc) (s : Int) : PairAt w B b r T ses st cv C o ba bx A { X with owner := s } (wc.setCell ⟨bx, 5, none⟩ (.int .i64 s)) :=
  h.set hw ((Below.heap_setCell wc _ _ ba (by have := h.2.2.2; simp; omega)).trans h.2.1) (by rw [heap_setCell_same wc bx 5 _ _ _ h.2.2.1]; simp [Node.cells]) (by have := h.2.2.2; simp; omega)
theorem PairAt.place (hw : WorkAt w B b r T ses st cv C) (h : PairAt w B b r T ses st cv C o ba bx A X wc) (s : ByteArray) : PairAt w B b r T ses st cv C o ba bx A { X with place := s } (wc.setCell ⟨bx, 0, none⟩ (.string s)) :=
  h.set hw ((Below.heap_setCell wc _ _ ba (by have := h.2.2.2; simp; omega)).trans h.2.1) (by rw [heap_setCell_same wc bx 0 _ _ _ h.2.2.1]; simp [Node.cells]) (by have := h.2.2.2; simp; omega)
theorem PairAt.counter (hw : WorkAt w B b r T ses st cv C) (h : PairAt w B b r T ses st cv C o ba bx A X wc) (s : Int) : PairAt w B b r T ses st cv C o ba bx { A with counter := s } X (wc.setCell ⟨ba, 6, none⟩ (.int .i64 s)) :=
  h.set hw (by rw [heap_setCell_same wc ba 6 _ _ _ h.2.1]; simp [Node.cells]) ((Below.heap_setCell wc _ _ bx (by have := h.2.2.2; simp; omega)).trans h.2.2.1) (by have := h.2.2.2; simp; omega)
theorem PairAt.free (h : PairAt w B b r T ses st cv C o ba bx A X wc) : (∀ i, wc.frozen? ⟨ba, i, none⟩ = false) ∧ ∀ i, wc.frozen? ⟨bx, i, none⟩ = false := ⟨fun i => frozen_of_row wc ba i _ _ h.2.1, fun i => frozen_of_row wc bx i _ _ h.2.2.1⟩
end
set_option maxRecDepth 100000 in
set_option maxHeartbeats 2000000 in
theorem make_any (w : World) (B b r : Nat) (T : List Node) (ses st : Int) (cv : Value) (C : List Chg) (o : OpV) (h : WorkAt w B b r T ses st cv C) (he : Env w) (hsz : o.place.size ≤ maxLen) (hT : T.length ≤ 1000000000) (hC : C.length ≤ 1000000000) (hcn : ∀ y ∈ T, 0 ≤ y.counter) :
    Calls Tryd.prog 41 #[.pointer (some ⟨b, 0, none⟩), .agg o.cells.toArray] w (StepPost B b r ses st (makeOf ses st T o).code (makeOf ses st T o).res (makeOf ses st T o).T (C ++ (makeOf ses st T o).chg) w) := by
  have HW := Lib.hid h
  have HE := Lib.hid he
  have HS := Lib.hid hsz
  have HT := Lib.hid hT
  have HC := Lib.hid hC
  have HCn := Lib.hid hcn
  have hmk : ∃ m, makeOf ses st T o = m := ⟨_, rfl⟩
  obtain ⟨m, hmk⟩ := hmk
  rw [hmk]
  have hpar := fun W (h1 : Env W) => parent_any o.place W h1 hsz
  have hcou := fun k W (h1 : Env W) => counted_any o.place k W h1 hsz
  obtain ⟨⟨up, code⟩, hpc⟩ : ∃ pc, parent o.place.data.toList = pc := ⟨_, rfl⟩
  obtain ⟨⟨ct, cc⟩, hcc⟩ : ∃ pc, counted o.place.data.toList 0 = pc := ⟨_, rfl⟩
  have hcou0 := hcou 0
  rw [hpc] at hpar
  rw [hcc] at hcou0
  have HMk := Lib.hid hmk
  have HPc := Lib.hid hpc
  have HCc := Lib.hid hcc
  have HCou := Lib.hid hcou
  clear h he hsz hT hC hcn hmk hpc hcc hcou
  obtain ⟨ok, op, od, ov, ofl⟩ := o
  simp only [OpV.cells] at HPc HCc hpar hcou0 ⊢
  go_enter Tryd.func41, Tryd.ntmps41
  go_wp2_with fail
  generalize hw2 : World.alloc (World.alloc w (Obj.cells _ _)) (Obj.cells _ _) = w2
  have hM := MakeAt.start (o := ⟨ok, op, od, ov, ofl⟩) HW.out hw2
  obtain ⟨c0, c1, c2, c3, c4⟩ := hM.op
  have HM := Lib.hid hM
  clear hw2 hM
  simp only [] at c0 c1 c2 c3 c4
  go_quiet (fail)
  go_simp
  generalize hw3 : World.drewN w2 _ = w3
  have hM3 := hw3 ▸ HM.out.drewN _
  clear hw3 HM c0 c1 c2 c3 c4
  obtain ⟨c0, c1, c2, c3, c4⟩ := hM3.op
  simp only [] at c0 c1 c2 c3 c4
  have HM := Lib.hid hM3
  clear hM3 w2
  generalize hbr : (bits BinOp.and IntKind.i64 ofl 1 != 0) = brief
  generalize hct : (bits BinOp.and IntKind.i64 ofl 2 != 0) = cnt
  have HBr : Hid (bitOf ofl 1 = brief) := hbr
  have HCt : Hid (bitOf ofl 2 = cnt) := hct
  clear hbr hct
  by_cases hf0 : ofl < 0
  · go_wp2_with (with_reducible show wpList _ _ _ (Oper.mk _ (.store 54 _ _) _ _ _ _ :: _) _ _; refine stop ?_)
    --[
    unfold Stop
    have hm : m = .no T 48 := HMk.out.symm.trans (makeOf_flags (.inl hf0))
    subst hm
    refine wpList_store_row rfl _ (.tmp 4) (.tmp 31) rfl (w.heap.size + 1) _ rfl rfl _ _ HM.out.2.2.2 info_res rfl (by simp [Value.oneCell']) ?_
    go_wp2_with fail
    refine bodyPost_ret (v := .tuple #[zeroRes.val (.slice none 0 0), .int .i64 48]) ?_ rfl ?_
    · refine results_res (p := 4) (u := 5) ?_ _ _ (w.heap.size + 1) _ _ ?_ (setRow_heap _ _ _ _ _ _ HM.out.2.2.2) ?_ <;> rfl
    show StepPost B b r ses st 48 zeroRes T (C ++ []) w _ _
    rw [List.append_nil]
    exact HM.out.refused 48
    --]
  by_cases hf3 : 3 < ofl
  · go_wp2_with (with_reducible show wpList _ _ _ (Oper.mk _ (.store 54 _ _) _ _ _ _ :: _) _ _; refine stop ?_)
    --[
    unfold Stop
    have hm : m = .no T 48 := HMk.out.symm.trans (makeOf_flags (.inr hf3))
    subst hm
    refine wpList_store_row rfl _ (.tmp 4) (.tmp 31) rfl (w.heap.size + 1) _ rfl rfl _ _ HM.out.2.2.2 info_res rfl (by simp [Value.oneCell']) ?_
    go_wp2_with fail
    refine bodyPost_ret (v := .tuple #[zeroRes.val (.slice none 0 0), .int .i64 48]) ?_ rfl ?_
    · refine results_res (p := 4) (u := 5) ?_ _ _ (w.heap.size + 1) _ _ ?_ (setRow_heap _ _ _ _ _ _ HM.out.2.2.2) ?_ <;> rfl
    show StepPost B b r ses st 48 zeroRes T (C ++ []) w _ _
    rw [List.append_nil]
    exact HM.out.refused 48
    --]
  have HFl : Hid (0 ≤ ofl ∧ ofl ≤ 3) := ⟨by omega, by omega⟩
  go_wp2_with (first
    | (go_at_call 29; refine (hpar w3 (HE.out.after HM.out.2.1)).mono ?_; rintro e w4 ⟨rfl, hb4⟩; replace hb4 := Lib.hid hb4; refine stop ?_))
  unfold Stop
  have HM4 := Lib.hid (HM.out.after hb4.out)
  clear c0 c1 c2 c3 c4 HM hb4
  obtain ⟨c0, c1, c2, c3, c4⟩ := HM4.out.op
  simp only [] at c0 c1 c2 c3 c4
  rcases Bool.eq_false_or_eq_true (code == 47) with t47 | t47
  · have e47 : code = 47 := by simpa using t47
    go_wp2_with (with_reducible show wpList _ _ _ (Oper.mk _ (.store 54 _ _) _ _ _ _ :: _) _ _; refine stop ?_)
    --[
    unfold Stop
    have hm : m = .no T 47 := HMk.out.symm.trans (makeOf_root HFl.out (HPc.out.trans (by rw [e47])))
    subst hm
    refine wpList_store_row rfl _ (.tmp 4) (.tmp 40) rfl (w.heap.size + 1) _ rfl rfl _ _ HM4.out.2.2.2 info_res rfl (by simp [Value.oneCell']) ?_
    go_wp2_with fail
    refine bodyPost_ret (v := .tuple #[zeroRes.val (.slice none 0 0), .int .i64 47]) ?_ rfl ?_
    · refine results_res (p := 4) (u := 5) ?_ _ _ (w.heap.size + 1) _ _ ?_ (setRow_heap _ _ _ _ _ _ HM4.out.2.2.2) ?_ <;> rfl
    show StepPost B b r ses st 47 zeroRes T (C ++ []) w _ _
    rw [List.append_nil]
    exact HM4.out.refused 47
    --]
  have n47 : code ≠ 47 := by intro e; rw [e] at t47; cases t47
  have HN47 := Lib.hid n47
  clear n47
  go_upto_region 7 with fail
  go_cut [45] from 41 (fun s45 wc => MakeAt w B b r T ses st cv C ⟨ok, op, od, ov, ofl⟩ wc ∧ s45 = .bool (code == 0 && cnt))
  case first =>
    --[
    rcases Bool.eq_false_or_eq_true (code == 0) with t0 | t0
    · have T0 := Lib.hid t0
      go_wp2_with fail
      go_meet
      case rel => exact ⟨HM4.out, by rw [T0.out]; rfl⟩
    · have T0 := Lib.hid t0
      go_wp2_with fail
      go_meet
      case rel => exact ⟨HM4.out, by rw [T0.out]; rfl⟩
    --]
  case rest =>
  obtain ⟨hM5, rfl⟩ := hcut
  have HM5 := Lib.hid hM5
  clear hM5 c0 c1 c2 c3 c4 HM4
  obtain ⟨c0, c1, c2, c3, c4⟩ := HM5.out.op
  simp only [] at c0 c1 c2 c3 c4
  obtain ⟨both, hbo⟩ : ∃ both, (code == 0 && cnt) = both := ⟨_, rfl⟩
  rw [hbo]
  have HBo := Lib.hid hbo
  clear hbo
  go_upto_if 45 with fail
  go_cut [9] from 43 (fun s9 wc => MakeAt w B b r T ses st cv C ⟨ok, op, od, ov, ofl⟩ wc ∧ s9 = .int .i64 (if both = true then cc else code))
  case first =>
    --[
    cases both
    · go_wp2_with fail
      go_meet
      case rel => exact ⟨HM5.out, rfl⟩
    · go_wp2_with (go_at_call 21; refine (hcou0 _ (HE.out.after HM5.out.2.1)).mono ?_; rintro e w5 ⟨rfl, hb5⟩; replace hb5 := Lib.hid hb5)
      go_meet
      case rel => exact ⟨HM5.out.after hb5.out, rfl⟩
    --]
  case rest =>
    clear HM5
    obtain ⟨hM5, rfl⟩ := hcut
    have HM5 := Lib.hid hM5
    clear hM5 c0 c1 c2 c3 c4
    obtain ⟨c0, c1, c2, c3, c4⟩ := HM5.out.op
    simp only [] at c0 c1 c2 c3 c4
    obtain ⟨c9, hc9⟩ : ∃ c9, (if both = true then cc else code) = c9 := ⟨_, rfl⟩
    rw [hc9]
    have HC9 := Lib.hid hc9
    clear hc9
    rcases Bool.eq_false_or_eq_true (c9 != 0) with t9 | t9
    · have e9 : (if code = 0 ∧ bitOf ofl 2 = true then cc else code) ≠ 0 := by rw [nine HCt.out HBo.out, HC9.out]; simpa using t9
      have E9 := Lib.hid e9
      clear e9
      go_wp2_with (with_reducible show wpList _ _ _ (Oper.mk _ (.store 54 _ _) _ _ _ _ :: _) _ _; refine stop ?_)
      --[
      unfold Stop
      have hm : m = .no T 10 := HMk.out.symm.trans (makeOf_bad HFl.out HPc.out HN47.out HCc.out E9.out)
      subst hm
      refine wpList_store_row rfl _ (.tmp 4) (.tmp 54) rfl (w.heap.size + 1) _ rfl rfl _ _ HM5.out.2.2.2 info_res rfl (by simp [Value.oneCell']) ?_
      go_wp2_with fail
      refine bodyPost_ret (v := .tuple #[zeroRes.val (.slice none 0 0), .int .i64 10]) ?_ rfl ?_
      · refine results_res (p := 4) (u := 5) ?_ _ _ (w.heap.size + 1) _ _ ?_ (setRow_heap _ _ _ _ _ _ HM5.out.2.2.2) ?_ <;> rfl
      show StepPost B b r ses st 10 zeroRes T (C ++ []) w _ _
      rw [List.append_nil]
      exact HM5.out.refused 10
      --]
    · have e9 : (if code = 0 ∧ bitOf ofl 2 = true then cc else code) = 0 := by rw [nine HCt.out HBo.out, HC9.out]; simpa using t9
      have hin : m = makeIn ses st T ⟨ok, op, od, ov, ofl⟩ up := HMk.out.symm.trans (makeOf_in HFl.out HPc.out HN47.out HCc.out e9)
      have HIn := Lib.hid hin
      clear hin e9 HC9 hpar hcou0 HMk HPc HCc HN47 HFl HBo t47
      obtain ⟨k0, k1, k2, k3, k3f⟩ := HM5.out.1.cells
      go_upto_region 11 with fail
      go_cut [10, 11] from 55 (fun s10 s11 wd => LookMid w B b r T ses st cv C ⟨ok, op, od, ov, ofl⟩ up s10 s11 wd)
      case first =>
        --[
        go_wp2_with (at_lookup; refine wpList_look HM5.out.1.map und_map und_str (zero_full _) ⟨up.toArray⟩ rfl (.tmp 59) (.tmp 60) rfl rfl rfl ?_ ?_)
        · intro above hlook
          have HL := Lib.hid hlook
          clear hlook
          obtain ⟨xp, xd, xv, xm, xc, xo, xn⟩ := above
          simp only [Node.val, Node.cells]
          go_wp2_with fail
          go_meet
          case rel => exact HM5.out.looked (x0 := ⟨xp, xd, xv, xm, xc, xo, xn⟩) (is := true) (fun _ => HL.out) (fun h => by cases h)
        · intro hlook
          have HL := Lib.hid hlook
          clear hlook
          simp only [zeroNode, Node.val, Node.cells]
          go_wp2_with fail
          go_meet
          case rel => exact HM5.out.looked (x0 := zeroNode) (is := false) (fun h => by cases h) (fun _ => HL.out)
        --]
      case rest =>
        obtain ⟨ba, x0, is, rfl, rfl, hyes, hno, hM6, hab, hlt⟩ := hcut
        have HYes := Lib.hid hyes
        have HNo := Lib.hid hno
        have HM6 := Lib.hid hM6
        have HAb := Lib.hid hab
        have HLt := Lib.hid hlt
        clear hyes hno hM6 hab hlt c0 c1 c2 c3 c4 k0 k1 k2 k3 k3f
        obtain ⟨c0, c1, c2, c3, c4⟩ := HM6.out.op
        obtain ⟨k0, k1, k2, k3, k3f⟩ := HM6.out.1.cells
        simp only [] at c0 c1 c2 c3 c4
        go_upto_region 12 with fail
        go_cut [64] from 65 (fun s64 we => we = wc ∧ s64 = .bool (brief && ses == 0))
        case first =>
          --[
          cases brief
          · go_wp2_with fail
            go_meet
            case rel => exact ⟨rfl, rfl⟩
          · rcases Bool.eq_false_or_eq_true (ses == 0) with t0 | t0
            · have T0 := Lib.hid t0
              go_wp2_with fail
              go_meet
              case rel => exact ⟨rfl, by rw [T0.out]; rfl⟩
            · have T0 := Lib.hid t0
              go_wp2_with fail
              go_meet
              case rel => exact ⟨rfl, by rw [T0.out]; rfl⟩
          --]
        case rest =>
        obtain ⟨rfl, rfl⟩ := hcut
        obtain ⟨bz, hbz⟩ : ∃ bz, (brief && ses == 0) = bz := ⟨_, rfl⟩
        rw [hbz]
        have HBz := Lib.hid hbz
        clear hbz
        cases bz
        · have nb : ¬ (bitOf ofl 1 = true ∧ ses = 0) := fun h => by
            have := HBz.out
            rw [← HBr.out, h.1, h.2] at this
            cases this
          have NB := Lib.hid nb
          clear nb
          by_cases h64 : (64 : Int) < (od.size : Int)
          · have H64 : Hid (64 < od.size) := by show 64 < od.size; omega
            go_wp2_with (with_reducible show wpList _ _ _ (Oper.mk _ (.store 54 _ _) _ _ _ _ :: _) _ _; refine stop ?_)
            --[
            unfold Stop
            have hm : m = .no T 45 := HIn.out.trans (makeIn_large NB.out H64.out)
            subst hm
            refine wpList_store_row rfl _ (.tmp 4) (.tmp 79) rfl (w.heap.size + 1) _ rfl rfl _ _ HM6.out.2.2.2 info_res rfl (by simp [Value.oneCell']) ?_
            go_wp2_with fail
            refine bodyPost_ret (v := .tuple #[zeroRes.val (.slice none 0 0), .int .i64 45]) ?_ rfl ?_
            · refine results_res (p := 4) (u := 5) ?_ _ _ (w.heap.size + 1) _ _ ?_ (setRow_heap _ _ _ _ _ _ HM6.out.2.2.2) ?_ <;> rfl
            show StepPost B b r ses st 45 zeroRes T (C ++ []) w _ _
            rw [List.append_nil]
            exact HM6.out.refused 45
            --]
          · have H64 : Hid (¬ 64 < od.size) := by show ¬ 64 < od.size; omega
            cases is
            · have HL := Lib.hid (HNo.out rfl)
              go_wp2_with (with_reducible show wpList _ _ _ (Oper.mk _ (.store 54 _ _) _ _ _ _ :: _) _ _; refine stop ?_)
              --[
              unfold Stop
              have hm : m = .no T 40 := HIn.out.trans (makeIn_none NB.out H64.out HL.out)
              subst hm
              refine wpList_store_row rfl _ (.tmp 4) (.tmp 83) rfl (w.heap.size + 1) _ rfl rfl _ _ HM6.out.2.2.2 info_res rfl (by simp [Value.oneCell']) ?_
              go_wp2_with fail
              refine bodyPost_ret (v := .tuple #[zeroRes.val (.slice none 0 0), .int .i64 40]) ?_ rfl ?_
              · refine results_res (p := 4) (u := 5) ?_ _ _ (w.heap.size + 1) _ _ ?_ (setRow_heap _ _ _ _ _ _ HM6.out.2.2.2) ?_ <;> rfl
              show StepPost B b r ses st 40 zeroRes T (C ++ []) w _ _
              rw [List.append_nil]
              exact HM6.out.refused 40
              --]
            · have HL := Lib.hid (HYes.out rfl)
              have hon : m = madeOn ses st T ⟨ok, op, od, ov, ofl⟩ x0 := HIn.out.trans (makeIn_some NB.out H64.out HL.out)
              have HOn := Lib.hid hon
              have hx0 := HCn.out x0 (look_mem HL.out).1
              clear hon HIn HYes HNo
              obtain ⟨xp, xd, xv, xm, xc, xo, xn⟩ := x0
              have hab := HAb.out
              simp only [Node.cells] at hab hx0
              obtain ⟨a0, a1, a2, a3, a4, a5, a6⟩ := NodeAt.of hab
              clear hab
              rcases Bool.eq_false_or_eq_true (xo != 0) with t8 | t8
              · go_wp2_with (with_reducible show wpList _ _ _ (Oper.mk _ (.store 54 _ _) _ _ _ _ :: _) _ _; refine stop ?_)
                --[
                unfold Stop
                have hm : m = .no T 44 := HOn.out.trans (if_pos (by simpa using t8))
                subst hm
                refine wpList_store_row rfl _ (.tmp 4) (.tmp 88) rfl (w.heap.size + 1) _ rfl rfl _ _ HM6.out.2.2.2 info_res rfl (by simp [Value.oneCell']) ?_
                go_wp2_with fail
                refine bodyPost_ret (v := .tuple #[zeroRes.val (.slice none 0 0), .int .i64 44]) ?_ rfl ?_
                · refine results_res (p := 4) (u := 5) ?_ _ _ (w.heap.size + 1) _ _ ?_ (setRow_heap _ _ _ _ _ _ HM6.out.2.2.2) ?_ <;> rfl
                show StepPost B b r ses st 44 zeroRes T (C ++ []) w _ _
                rw [List.append_nil]
                exact HM6.out.refused 44
                --]
              · have no : ¬ xo ≠ 0 := fun h => by simp at t8; exact h t8
                have NO := Lib.hid no
                clear no
                have n1 := World.new_ne wc _ c1
                have n2 := World.new_ne wc _ k2
                simp only [] at n1 n2
                go_upto_region 20 with fail
                go_region_held3 (fun w' => w'.cell? ⟨w.heap.size, 1, none⟩ = some (.string op) ∧ w'.cell? ⟨w.heap.size, 2, none⟩ = some (.string od) ∧ w'.cell? ⟨b, 2, none⟩ = some (.int .i64 st)) (go_keep) (fail)
                go_upto_region 21 with fail
                generalize hw7 : World.drew (World.alloc wc (Obj.cells _ _)) = w7
                have hP := PairAt.start (X := ⟨op, od, 0, st, st, 0, 0⟩) HM6.out HAb.out HLt.out hw7
                obtain ⟨bx, hbx⟩ : ∃ bx, wc.heap.size = bx := ⟨_, rfl⟩
                rw [hbx] at hP
                rw [hbx]
                have HP := Lib.hid hP
                clear hbx HM6 HAb HLt hP hw7 a0 a1 a2 a3 a4 a5 a6 c0 c1 c2 c3 c4 k0 k1 k2 k3 k3f n1 n2
                -- the owner
                go_upto_if 102 with fail
                go_cut [] from 103 (fun we => PairAt w B b r T ses st cv C ⟨ok, op, od, ov, ofl⟩ ba bx ⟨xp, xd, xv, xm, xc, xo, xn⟩ ⟨op, od, 0, st, st, if brief = true then ses else 0, 0⟩ we)
                case first =>
                  --[
                  cases brief
                  · go_wp2_with fail
                    go_meet
                    case rel => exact HP.out
                  · obtain ⟨k0, k1, k2, k3, k3f⟩ := HP.out.1.1.cells
                    obtain ⟨x0, x1, x2, x3, x4, x5, x6⟩ := HP.out.nodes.2
                    have f5 := HP.out.free.2 5
                    simp only [] at x0 x1 x2 x3 x4 x5 x6
                    go_wp2_with fail
                    go_meet
                    case rel => exact HP.out.owner HW.out ses
                  --]
                case rest =>
                replace HP := Lib.hid hcut
                clear hcut
                obtain ⟨ow, how⟩ : ∃ ow, (if brief = true then ses else 0) = ow := ⟨_, rfl⟩
                rw [how] at HP
                have HOw := Lib.hid how
                clear how
                -- the counter
                go_upto_if 108 with fail
                go_cut [] from 109 (fun we => PairAt w B b r T ses st cv C ⟨ok, op, od, ov, ofl⟩ ba bx (if cnt = true then ⟨xp, xd, xv, xm, xc, xo, xn + 1⟩ else ⟨xp, xd, xv, xm, xc, xo, xn⟩) ⟨if cnt = true then ⟨(counted op.data.toList xn).1.toArray⟩ else op, od, 0, st, st, ow, 0⟩ we ∧ ¬ (bitOf ofl 2 = true ∧ 99999 < xn))
                case first =>
                  --[
                  cases cnt
                  · go_wp2_with fail
                    go_meet
                    case rel => exact ⟨HP.out, fun h => by rw [HCt.out] at h; cases h.1⟩
                  · obtain ⟨y0, y1, y2, y3, y4, y5, y6⟩ := HP.out.nodes.1
                    simp only [] at y0 y1 y2 y3 y4 y5 y6
                    by_cases hcx : 99999 < xn
                    · have HCx := Lib.hid hcx
                      go_wp2_with (with_reducible show wpList _ _ _ (Oper.mk _ (.store 54 _ _) _ _ _ _ :: _) _ _; refine stop ?_)
                      unfold Stop
                      have hm : m = .no T 46 := HOn.out.trans (madeOn_full NO.out HCt.out HCx.out)
                      subst hm
                      refine wpList_store_row rfl _ (.tmp 4) (.tmp 112) rfl (w.heap.size + 1) _ rfl rfl _ _ HP.out.1.2.2.2 info_res rfl (by simp [Value.oneCell']) ?_
                      go_wp2_with fail
                      refine bodyPost_ret (v := .tuple #[zeroRes.val (.slice none 0 0), .int .i64 46]) ?_ rfl ?_
                      · refine results_res (p := 4) (u := 5) ?_ _ _ (w.heap.size + 1) _ _ ?_ (setRow_heap _ _ _ _ _ _ HP.out.1.2.2.2) ?_ <;> rfl
                      show StepPost B b r ses st 46 zeroRes T (C ++ []) w _ _
                      rw [List.append_nil]
                      exact HP.out.1.refused 46
                    · obtain ⟨c0, c1, c2, c3, c4⟩ := HP.out.1.op
                      simp only [] at c0 c1 c2 c3 c4
                      have hcon := HCou.out xn _ (HE.out.after HP.out.1.2.1)
                      have HCx : Hid (¬ 99999 < xn) := hcx
                      go_wp2_with (go_at_call 21; refine hcon.mono ?_; rintro e w8 ⟨rfl, hb8⟩; replace hb8 := Lib.hid hb8; refine stop ?_)
                      unfold Stop
                      have HP8 := Lib.hid (HP.out.after hb8.out)
                      clear c0 c1 c2 c3 c4 y0 y1 y2 y3 y4 y5 y6 hcon
                      obtain ⟨y0, y1, y2, y3, y4, y5, y6⟩ := HP8.out.nodes.1
                      obtain ⟨x0, x1, x2, x3, x4, x5, x6⟩ := HP8.out.nodes.2
                      have f0 := HP8.out.free.2 0
                      have f6 := HP8.out.free.1 6
                      have hne : bx ≠ ba := by have := HP8.out.2.2.2; omega
                      have hne' : ba ≠ bx := Ne.symm hne
                      simp only [] at x0 x1 x2 x3 x4 x5 x6 y0 y1 y2 y3 y4 y5 y6
                      go_wp2_with fail
                      go_meet
                      case rel => exact ⟨(HP8.out.place HW.out _).counter HW.out (xn + 1), fun h => by (have a := HCx.out); (have b := h.2); (try simp only [] at b); omega⟩
                  --]
                case rest =>
                obtain ⟨hP, hbound⟩ := hcut
                obtain ⟨A, hA⟩ : ∃ A, (if cnt = true then (⟨xp, xd, xv, xm, xc, xo, xn + 1⟩ : Node) else ⟨xp, xd, xv, xm, xc, xo, xn⟩) = A := ⟨_, rfl⟩
                obtain ⟨X, hX⟩ : ∃ X, (⟨if cnt = true then ⟨(counted op.data.toList xn).1.toArray⟩ else op, od, 0, st, st, ow, 0⟩ : Node) = X := ⟨_, rfl⟩
                rw [hA, hX] at hP
                have hnew : newNode ses st ⟨ok, op, od, ov, ofl⟩ ⟨xp, xd, xv, xm, xc, xo, xn⟩ = X := by
                  rw [← hX, ← HOw.out, ← HCt.out, ← HBr.out]
                  rfl
                have habove : (if bitOf ofl 2 = true then { (⟨xp, xd, xv, xm, xc, xo, xn⟩ : Node) with counter := xn + 1 } else ⟨xp, xd, xv, xm, xc, xo, xn⟩) = A := by rw [HCt.out]; exact hA
                have hAp : (⟨up.toArray⟩ : ByteArray) = A.place := by
                  have h1 := (look_mem HL.out).2
                  rw [← hA]
                  cases cnt <;> exact h1.symm
                have HNew := Lib.hid hnew
                have HAbove := Lib.hid habove
                have HAp := Lib.hid hAp
                have HXd : Hid (X.data = od) := by rw [← hX]; rfl
                have HBo := Lib.hid hbound
                replace HP := Lib.hid hP
                clear hP hbound hnew habove hAp hA hX HOw HBr HCt
                -- the look-up of the new place
                obtain ⟨k0, k1, k2, k3, k3f⟩ := HP.out.1.1.cells
                obtain ⟨np, nd, nv, nm, nc, no, nn⟩ := X
                obtain ⟨x0, x1, x2, x3, x4, x5, x6⟩ := HP.out.nodes.2
                simp only [] at x0 x1 x2 x3 x4 x5 x6
                go_upto_region 28 with fail
                go_cut [14] from 126 (fun s14 we => ∃ there, s14 = .bool there ∧ (there = true → look T np ≠ none) ∧ (there = false → ¬ look T np ≠ none) ∧ PairAt w B b r T ses st cv C ⟨ok, op, od, ov, ofl⟩ ba bx A ⟨np, nd, nv, nm, nc, no, nn⟩ we)
                case first =>
                  --[
                  have hka : ∀ W, Below wc.heap.size wc W → W.cell? ⟨b, 0, none⟩ = some (.map (some r)) ∧ W.cell? ⟨bx, 0, none⟩ = some (.string np) := fun W hb =>
                    ⟨(hb.cell (p := ⟨b, 0, none⟩) HP.out.1.1.lt.1).trans k0, (hb.cell (p := ⟨bx, 0, none⟩) (Array.getElem?_eq_some_iff.1 HP.out.2.2.1).1).trans x0⟩
                  cases hl : look T np with
                  | some y =>
                    have hlk : ∀ W, Below wc.heap.size wc W → (Instr.lookup 66 (.map (some r)) (.string np) true).run Tryd.prog W = .ok (.tuple #[y.val, .bool true]) W := fun W hb => (HP.out.1.1.after hb).map.look_some und_map und_str hl
                    obtain ⟨yp, yd, yv, ym, yc, yo, yn⟩ := y
                    simp only [Node.val, Node.cells] at hlk
                    have HL2 := Lib.hid hl
                    clear hl
                    go_region_held3 (fun w' => w'.cell? ⟨b, 0, none⟩ = some (.map (some r)) ∧ w'.cell? ⟨bx, 0, none⟩ = some (.string np) ∧ (Instr.lookup 66 (.map (some r)) (.string np) true).run Tryd.prog w' = .ok (.tuple #[.agg #[.string yp, .string yd, .int .i64 yv, .int .i64 ym, .int .i64 yc, .int .i64 yo, .int .i64 yn], .bool true]) w')
                      (first
                        | exact ⟨(hka _ (Below.refl _ _).drew).1, (hka _ (Below.refl _ _).drew).2, hlk _ (Below.refl _ _).drew⟩
                        | exact ⟨(hka _ (((Below.refl _ _).alloc (Nat.le_refl _) _).drew)).1, (hka _ (((Below.refl _ _).alloc (Nat.le_refl _) _).drew)).2, hlk _ (((Below.refl _ _).alloc (Nat.le_refl _) _).drew)⟩)
                      (fail)
                    all_goals
                      simp only [Exit.then]
                      go_step
                      go_meet
                      case rel => exact ⟨true, rfl, (fun _ => by rw [HL2.out]; simp), (fun h => by cases h), HP.out.after (((Below.refl _ _).alloc (Nat.le_refl _) _).drew)⟩
                  | none =>
                    have hlk : ∀ W, Below wc.heap.size wc W → (Instr.lookup 66 (.map (some r)) (.string np) true).run Tryd.prog W = .ok (.tuple #[zeroNode.val, .bool false]) W := fun W hb => (HP.out.1.1.after hb).map.look_none und_map und_str hl (zero_full W)
                    simp only [zeroNode, Node.val, Node.cells] at hlk
                    have HL2 := Lib.hid hl
                    clear hl
                    go_region_held3 (fun w' => w'.cell? ⟨b, 0, none⟩ = some (.map (some r)) ∧ w'.cell? ⟨bx, 0, none⟩ = some (.string np) ∧ (Instr.lookup 66 (.map (some r)) (.string np) true).run Tryd.prog w' = .ok (.tuple #[.agg #[.string ⟨#[]⟩, .string ⟨#[]⟩, .int .i64 0, .int .i64 0, .int .i64 0, .int .i64 0, .int .i64 0], .bool false]) w')
                      (first
                        | exact ⟨(hka _ (Below.refl _ _).drew).1, (hka _ (Below.refl _ _).drew).2, hlk _ (Below.refl _ _).drew⟩
                        | exact ⟨(hka _ (((Below.refl _ _).alloc (Nat.le_refl _) _).drew)).1, (hka _ (((Below.refl _ _).alloc (Nat.le_refl _) _).drew)).2, hlk _ (((Below.refl _ _).alloc (Nat.le_refl _) _).drew)⟩)
                      (fail)
                    all_goals
                      simp only [Exit.then]
                      go_step
                      go_meet
                      case rel => exact ⟨false, rfl, (fun h => by cases h), (fun _ => by rw [HL2.out]; exact fun h => h rfl), HP.out.after (((Below.refl _ _).alloc (Nat.le_refl _) _).drew)⟩
                  --]
                case rest =>
                obtain ⟨there, rfl, hth, hnt, hP⟩ := hcut
                replace HP := Lib.hid hP
                have HTh := Lib.hid hth
                have HNt := Lib.hid hnt
                clear hP hth hnt k0 k1 k2 k3 k3f x0 x1 x2 x3 x4 x5 x6
                obtain ⟨k0, k1, k2, k3, k3f⟩ := HP.out.1.1.cells
                cases there
                · have hnth : ¬ look T (newNode ses st ⟨ok, op, od, ov, ofl⟩ ⟨xp, xd, xv, xm, xc, xo, xn⟩).place ≠ none := by rw [HNew.out]; exact HNt.out rfl
                  have HNth := Lib.hid hnth
                  clear hnth HNt HTh
                  by_cases hmany : (64 : Int) ≤ (T.length : Int)
                  · have HMany : Hid (64 ≤ T.length) := by show 64 ≤ T.length; omega
                    go_wp2_with (first | (at_len; refine wpList_size HP.out.1.1.map und_map rfl (.tmp 141) rfl rfl ?_) | (with_reducible show wpList _ _ _ (Oper.mk _ (.store 54 _ _) _ _ _ _ :: _) _ _; refine stop ?_))
                    --[
                    unfold Stop
                    have hm : m = .no T 46 := HOn.out.trans (madeOn_many NO.out HBo.out HNth.out HMany.out)
                    subst hm
                    refine wpList_store_row rfl _ (.tmp 4) (.tmp 144) rfl (w.heap.size + 1) _ rfl rfl _ _ HP.out.1.2.2.2 info_res rfl (by simp [Value.oneCell']) ?_
                    go_wp2_with fail
                    refine bodyPost_ret (v := .tuple #[zeroRes.val (.slice none 0 0), .int .i64 46]) ?_ rfl ?_
                    · refine results_res (p := 4) (u := 5) ?_ _ _ (w.heap.size + 1) _ _ ?_ (setRow_heap _ _ _ _ _ _ HP.out.1.2.2.2) ?_ <;> rfl
                    show StepPost B b r ses st 46 zeroRes T (C ++ []) w _ _
                    rw [List.append_nil]
                    exact HP.out.1.refused 46
                    --]
                  · have HFew : Hid (¬ 64 ≤ T.length) := by show ¬ 64 ≤ T.length; omega
                    go_upto_region 33 with (at_len; refine wpList_size HP.out.1.1.map und_map rfl (.tmp 141) rfl rfl ?_)
                    have hok := HOn.out.trans (madeOn_ok NO.out HBo.out HNth.out HFew.out)
                    rw [HNew.out] at hok
                    change m = ⟨0, toldOf ⟨np, nd, nv, nm, nc, no, nn⟩, put ⟨np, nd, nv, nm, nc, no, nn⟩ (put (if bitOf ofl 2 = true then { (⟨xp, xd, xv, xm, xc, xo, xn⟩ : Node) with counter := xn + 1 } else ⟨xp, xd, xv, xm, xc, xo, xn⟩) T), [⟨1, np, od, 0⟩]⟩ at hok
                    rw [HAbove.out] at hok
                    have HOk := Lib.hid hok
                    clear hok HNth HFew HOn NO HBo HNew HAbove
                    obtain ⟨ap, ad, av, am, ac, ao, an⟩ := A
                    have eap := HAp.out
                    simp only [] at eap
                    subst eap
                    have ed := HXd.out
                    simp only [] at ed
                    subst ed
                    obtain ⟨y0, y1, y2, y3, y4, y5, y6⟩ := HP.out.nodes.1
                    obtain ⟨x0, x1, x2, x3, x4, x5, x6⟩ := HP.out.nodes.2
                    simp only [] at x0 x1 x2 x3 x4 x5 x6 y0 y1 y2 y3 y4 y5 y6
                    have hWd := HP.out.1.1.drew
                    obtain ⟨v1, n1, w5, es5, cl5, r1, r2, hall1, hg1, hs1⟩ := hWd.map.entry und_map und_str (zero_full _) ⟨⟨up.toArray⟩, ad, av, am, ac, ao, an⟩
                    have hg2 := grown_setBlock wc.drew r (.map es5 cl5)
                    have hm6 := hall1 _ (ins_perm _ _)
                    have hs2 : (Go.ChangeMaps.setBlock wc.drew r (.map es5 cl5)).heap.size = wc.drew.heap.size := by simp [Go.ChangeMaps.setBlock]
                    generalize Go.ChangeMaps.setBlock wc.drew r (.map es5 cl5) = w6 at r2 hg2 hm6 hs2 hall1
                    have hW6 := hWd.turned hm6 (put_sorted hWd.sorted) hg2
                    obtain ⟨v2, n2, w7, es7, cl7, r3, r4, hall2, hg3, hs3⟩ := hW6.map.entry und_map und_str (zero_full _) ⟨np, nd, nv, nm, nc, no, nn⟩
                    have hg4 := grown_setBlock w6 r (.map es7 cl7)
                    have hm8 := hall2 _ (ins_perm _ _)
                    have hs4 : (Go.ChangeMaps.setBlock w6 r (.map es7 cl7)).heap.size = w6.heap.size := by simp [Go.ChangeMaps.setBlock]
                    generalize Go.ChangeMaps.setBlock w6 r (.map es7 cl7) = w8 at r4 hg4 hm8 hs4 hall2
                    have hW8 := hW6.turned hm8 (put_sorted hW6.sorted) hg4
                    simp only [goInt, Node.val, Node.cells] at r1 r2 r3 r4
                    have hbr : b ≠ r := HP.out.1.1.ne
                    have hlr := HP.out.1.1.lt
                    have har : ba ≠ r := fun e => by have h1 := HP.out.2.1; obtain ⟨_, _, _, h2, _⟩ := HP.out.1.1.map; rw [e, h2] at h1; cases h1
                    have hxr : bx ≠ r := fun e => by have h1 := HP.out.2.2.1; obtain ⟨_, _, _, h2, _⟩ := HP.out.1.1.map; rw [e, h2] at h1; cases h1
                    have hla := (Array.getElem?_eq_some_iff.1 HP.out.2.1).1
                    have hlx := (Array.getElem?_eq_some_iff.1 HP.out.2.2.1).1
                    have hfar : ∀ W : World, (∀ i, i < wc.heap.size → i ≠ r → W.heap[i]? = wc.heap[i]?) → ∀ a : Addr, a.block = b ∨ a.block = ba ∨ a.block = bx → W.cell? a = wc.cell? a := fun W hW a ha => World.cell?_of_block (hW _ (by omega) (by omega))
                    have f0 : ∀ i, i < wc.heap.size → i ≠ r → wc.drew.heap[i]? = wc.heap[i]? := fun _ _ _ => rfl
                    have f5 : ∀ i, i < wc.heap.size → i ≠ r → w5.heap[i]? = wc.heap[i]? := fun i hi hn => hg1.block i hi (fun e => hn (by injection e))
                    have f6 : ∀ i, i < wc.heap.size → i ≠ r → w6.heap[i]? = wc.heap[i]? := fun i hi hn => hg2.block i hi (fun e => hn (by injection e))
                    have f7 : ∀ i, i < wc.heap.size → i ≠ r → w7.heap[i]? = wc.heap[i]? := fun i hi hn => (hg3.block i (Nat.lt_of_lt_of_le hi hg2.size) (fun e => hn (by injection e))).trans (f6 i hi hn)
                    have f8 : ∀ i, i < wc.heap.size → i ≠ r → w8.heap[i]? = wc.heap[i]? := fun i hi hn => (hg4.block i (Nat.lt_of_lt_of_le hi hg2.size) (fun e => hn (by injection e))).trans (f6 i hi hn)
                    have hS : ∀ W : World, (∀ i, i < wc.heap.size → i ≠ r → W.heap[i]? = wc.heap[i]?) → W.cell? ⟨b, 0, none⟩ = some (.map (some r)) ∧ W.cell? ⟨ba, 0, none⟩ = some (.string ⟨up.toArray⟩) ∧ W.cell? ⟨ba, 1, none⟩ = some (.string ad) ∧ W.cell? ⟨ba, 2, none⟩ = some (.int .i64 av) ∧ W.cell? ⟨ba, 3, none⟩ = some (.int .i64 am) ∧ W.cell? ⟨ba, 4, none⟩ = some (.int .i64 ac) ∧ W.cell? ⟨ba, 5, none⟩ = some (.int .i64 ao) ∧ W.cell? ⟨ba, 6, none⟩ = some (.int .i64 an) ∧
                        W.cell? ⟨bx, 0, none⟩ = some (.string np) ∧ W.cell? ⟨bx, 1, none⟩ = some (.string nd) ∧ W.cell? ⟨bx, 2, none⟩ = some (.int .i64 nv) ∧ W.cell? ⟨bx, 3, none⟩ = some (.int .i64 nm) ∧ W.cell? ⟨bx, 4, none⟩ = some (.int .i64 nc) ∧ W.cell? ⟨bx, 5, none⟩ = some (.int .i64 no) ∧ W.cell? ⟨bx, 6, none⟩ = some (.int .i64 nn) := fun W hW =>
                      have q := hfar W hW
                      ⟨(q _ (.inl rfl)).trans k0, (q _ (.inr (.inl rfl))).trans y0, (q _ (.inr (.inl rfl))).trans y1, (q _ (.inr (.inl rfl))).trans y2, (q _ (.inr (.inl rfl))).trans y3, (q _ (.inr (.inl rfl))).trans y4, (q _ (.inr (.inl rfl))).trans y5, (q _ (.inr (.inl rfl))).trans y6,
                        (q _ (.inr (.inr rfl))).trans x0, (q _ (.inr (.inr rfl))).trans x1, (q _ (.inr (.inr rfl))).trans x2, (q _ (.inr (.inr rfl))).trans x3, (q _ (.inr (.inr rfl))).trans x4, (q _ (.inr (.inr rfl))).trans x5, (q _ (.inr (.inr rfl))).trans x6⟩
                    have HS0 := Lib.hid (hS _ f0)
                    have HS5 := Lib.hid (hS _ f5)
                    have HS6 := Lib.hid (hS _ f6)
                    have HS7 := Lib.hid (hS _ f7)
                    have HS8 := Lib.hid (hS _ f8)
                    have HW8 := Lib.hid hW8
                    have HB8 : Hid (But (Touch B b r w) w w8) := ((((But.refl _ _).after HP.out.1.2.1).drew).grown hg2 (fun i _ hn e => hn (.inr (.inl (by injection e))))).grown hg4 (fun i _ hn e => hn (.inr (.inl (by injection e))))
                    have HX8 : Hid (w8.heap[bx]? = some (.cells #[.string np, .string nd, .int .i64 nv, .int .i64 nm, .int .i64 nc, .int .i64 no, .int .i64 nn] 43)) := (f8 bx hlx hxr).trans HP.out.2.2.1
                    have HR8 : Hid (w8.heap[w.heap.size + 1]? = some (.cells (zeroRes.val (.slice none 0 0)).cells 54)) := (f8 _ (Array.getElem?_eq_some_iff.1 HP.out.1.2.2.2).1 (by have := HW.out.lt; omega)).trans HP.out.1.2.2.2
                    clear hS f0 f5 f6 f7 f8 hfar hW8 hW6 hWd hall1 hall2 hm6 hm8 hg1 hg2 hg3 hg4 hs1 hs2 hs3 hs4 k0 k1 k2 k3 k3f x0 x1 x2 x3 x4 x5 x6 y0 y1 y2 y3 y4 y5 y6 hbr hlr har hxr hla hlx
                    go_region_held3 (fun W => W.cell? ⟨b, 0, none⟩ = some (.map (some r)) ∧ W.cell? ⟨ba, 0, none⟩ = some (.string ⟨up.toArray⟩) ∧ W.cell? ⟨ba, 1, none⟩ = some (.string ad) ∧ W.cell? ⟨ba, 2, none⟩ = some (.int .i64 av) ∧ W.cell? ⟨ba, 3, none⟩ = some (.int .i64 am) ∧ W.cell? ⟨ba, 4, none⟩ = some (.int .i64 ac) ∧ W.cell? ⟨ba, 5, none⟩ = some (.int .i64 ao) ∧ W.cell? ⟨ba, 6, none⟩ = some (.int .i64 an) ∧
                        W.cell? ⟨bx, 0, none⟩ = some (.string np) ∧ W.cell? ⟨bx, 1, none⟩ = some (.string nd) ∧ W.cell? ⟨bx, 2, none⟩ = some (.int .i64 nv) ∧ W.cell? ⟨bx, 3, none⟩ = some (.int .i64 nm) ∧ W.cell? ⟨bx, 4, none⟩ = some (.int .i64 nc) ∧ W.cell? ⟨bx, 5, none⟩ = some (.int .i64 no) ∧ W.cell? ⟨bx, 6, none⟩ = some (.int .i64 nn))
                      (first | exact HS0.out | exact HS5.out | exact HS6.out | exact HS7.out | exact HS8.out) (fail)
                    clear r1 r2 r3 r4 HS0 HS5 HS6 HS7 HS8
                    go_upto_region 34 with fail
                    obtain ⟨k0, k1, k2, k3, k3f⟩ := HW8.out.cells
                    obtain ⟨x0, x1, x2, x3, x4, x5, x6⟩ := NodeAt.of HX8.out
                    have own8 := HW8.out.row
                    have ag := HW8.out.row_ne.1
                    have l0 := HW8.out.base.1
                    have lb := HW8.out.lt.1
                    have hCC := HC.out
                    have hk8 : ∀ o, ((w8.alloc o).drew).cell? ⟨b, 3, none⟩ = some cv := fun o => (World.cell?_of_block (a := ⟨b, 3, none⟩) (Below.heap_alloc w8 o b lb)).trans k3
                    obtain ⟨i0, hi0, hz0, hz1, hz2⟩ := info_parts info_chg
                    have m0 := World.new_ne w8 _ k0
                    have m3 := World.new_ne w8 _ x0
                    simp only [] at m0 m3
                    go_cut [] from 162 (fun we => SetMid w B b r (put ⟨np, nd, nv, nm, nc, no, nn⟩ (put ⟨⟨up.toArray⟩, ad, av, am, ac, ao, an⟩ T)) ses st (C ++ [⟨1, np, nd, 0⟩]) ⟨np, nd, nv, nm, nc, no, nn⟩ bx (w.heap.size + 1) we)
                    case first =>
                      go_region_law
                        ((refine step_append_lies _ (by rfl) _ _ _ (by rfl) B 58 i0 _ 4 48 und_chgs hi0 hz0 hz1 hz2 rfl (by omega) cv C.length _ (by rfl) ((own8.alloc _).drew)
                            ⟨w8.heap.size, 0, none⟩ 1 1 [.int .i64 1, .string np, .string nd, .int .i64 0] (by rfl) (by rfl) (World.news_of_block (cs := #[.int .i64 1, .string np, .string nd, .int .i64 0]) (t := 58) (fr := (0, 0)) (heap_alloc_new w8 _)) (by simp [Value.oneCell'])
                            (by omega) (by simp only [maxLen]; omega) (by omega) (by simp; omega) (w8.heap.size + 1) (by simp) ?_; intro gg cap w9 hown9 hgrow hat hlt; have z3 := (World.cell?_of_block (far_block hgrow lb (Ne.symm ag))).trans k3; have z4 := (World.frozen?_of_block (a := ⟨b, 3, none⟩) (far_block hgrow lb (Ne.symm ag))).trans k3f; replace hown9 := Lib.hid hown9; replace hgrow := Lib.hid hgrow; replace hat := Lib.hid hat; replace hlt := Lib.hid hlt))
                      all_goals
                        simp only [Exit.then]
                        go_step
                        go_meet
                        case rel =>
                          have hl := HW8.out.laid (c := ⟨1, np, nd, 0⟩) hown9.out hgrow.out (by have := hat.out; simpa using this)
                          exact ⟨_, hl.1, HB8.out.next hl.2, HW8.out.keeps hl.2 HX8.out (by decide), HW8.out.keeps hl.2 HR8.out (by decide)⟩
                    case rest =>
                      have hm := HOk.out
                      subst hm
                      obtain ⟨cv', hW9, hB9, hx9, hr9⟩ := hcut
                      clear k0 k1 k2 k3 k3f x0 x1 x2 x3 x4 x5 x6 own8 ag l0 lb hk8 m0 m3
                      obtain ⟨x0, x1, x2, x3, x4, x5, x6⟩ := NodeAt.of hx9
                      have hcon := told_any ⟨np, nd, nv, nm, nc, no, nn⟩ wc
                      simp only [Node.val, Node.cells] at hcon
                      have HW9 := Lib.hid hW9
                      have HB9 := Lib.hid hB9
                      have HR9 := Lib.hid hr9
                      clear hW9 hB9 hx9 hr9
                      go_wp2_with (go_at_call 45; refine hcon.mono ?_; rintro e w10 ⟨rfl, hb10⟩; refine stop ?_)
                      unfold Stop
                      have hr10 := (hb10.block _ (Array.getElem?_eq_some_iff.1 HR9.out).1).trans HR9.out
                      have HB10 := Lib.hid hb10
                      have HR10 := Lib.hid hr10
                      clear hb10 hr10 x0 x1 x2 x3 x4 x5 x6 hcon
                      simp only [toldOf, Res.val, noText]
                      go_wp2_with (with_reducible show wpList _ _ _ (Oper.mk _ (.store 54 _ _) _ _ _ _ :: _) _ _; refine stop ?_)
                      unfold Stop
                      refine wpList_store_row rfl _ (.tmp 4) (.tmp 177) rfl (w.heap.size + 1) _ rfl rfl _ _ HR10.out info_res rfl (by simp [Value.oneCell']) ?_
                      go_wp2_with fail
                      refine bodyPost_ret (v := .tuple #[.agg #[.string np, .string noText, .int .i64 nv, .int .i64 nm, .int .i64 nc, .int .i64 no, .slice none 0 0], .int .i64 0]) ?_ rfl ?_
                      · refine results_res (p := 4) (u := 5) ?_ _ _ (w.heap.size + 1) _ _ ?_ (setRow_heap _ _ _ _ _ _ HR10.out) ?_ <;> rfl
                      exact ⟨.slice none 0 0, cv', rfl, kids_none _ _, (HW9.out.after HB10.out).set_row HR10.out (by decide) _, (HB9.out.after HB10.out).grown (row_grown _ _ _) (fun i hi _ e => by injection e with e; omega)⟩
                · have hth : look T (newNode ses st ⟨ok, op, od, ov, ofl⟩ ⟨xp, xd, xv, xm, xc, xo, xn⟩).place ≠ none := by rw [HNew.out]; exact HTh.out rfl
                  have HTh2 := Lib.hid hth
                  clear hth HNt HTh
                  go_wp2_with (with_reducible show wpList _ _ _ (Oper.mk _ (.store 54 _ _) _ _ _ _ :: _) _ _; refine stop ?_)
                  --[
                  unfold Stop
                  have hm : m = .no T 41 := HOn.out.trans (madeOn_there NO.out HBo.out HTh2.out)
                  subst hm
                  refine wpList_store_row rfl _ (.tmp 4) (.tmp 137) rfl (w.heap.size + 1) _ rfl rfl _ _ HP.out.1.2.2.2 info_res rfl (by simp [Value.oneCell']) ?_
                  go_wp2_with fail
                  refine bodyPost_ret (v := .tuple #[zeroRes.val (.slice none 0 0), .int .i64 41]) ?_ rfl ?_
                  · refine results_res (p := 4) (u := 5) ?_ _ _ (w.heap.size + 1) _ _ ?_ (setRow_heap _ _ _ _ _ _ HP.out.1.2.2.2) ?_ <;> rfl
                  show StepPost B b r ses st 41 zeroRes T (C ++ []) w _ _
                  rw [List.append_nil]
                  exact HP.out.1.refused 41
                  --]
        · have yb : bitOf ofl 1 = true ∧ ses = 0 := by
            have := HBz.out
            rw [← HBr.out] at this
            simpa using this
          have YB := Lib.hid yb
          clear yb
          go_wp2_with (with_reducible show wpList _ _ _ (Oper.mk _ (.store 54 _ _) _ _ _ _ :: _) _ _; refine stop ?_)
          --[
          unfold Stop
          have hm : m = .no T 44 := HIn.out.trans (makeIn_brief YB.out.1 YB.out.2)
          subst hm
          refine wpList_store_row rfl _ (.tmp 4) (.tmp 73) rfl (w.heap.size + 1) _ rfl rfl _ _ HM6.out.2.2.2 info_res rfl (by simp [Value.oneCell']) ?_
          go_wp2_with fail
          refine bodyPost_ret (v := .tuple #[zeroRes.val (.slice none 0 0), .int .i64 44]) ?_ rfl ?_
          · refine results_res (p := 4) (u := 5) ?_ _ _ (w.heap.size + 1) _ _ ?_ (setRow_heap _ _ _ _ _ _ HM6.out.2.2.2) ?_ <;> rfl
          show StepPost B b r ses st 44 zeroRes T (C ++ []) w _ _
          rw [List.append_nil]
          exact HM6.out.refused 44
          --]
end Go.Proofs.YtpmlfpmedbccaaaDoor
