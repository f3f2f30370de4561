/- The law's own small question whose answer the document fixes: 'known' is true. -/
import Derived.Test.YtpmlfpmedbccaaaDoorTreeI
import Derived.Test.YtpmlfpmedbccaaaDoorGoodMore
import Derived.Laws.BytesArg
import Derived.Deep.OwnRows
namespace Go.Proofs.YtpmlfpmedbccaaaDoor
open Go.RowKit
attribute [local go_sem ↓] Go.wp_at_zero Go.wp_at_succ

theorem OpsAt.of_block {w : World} {g c : Nat} {o : OpV} {t : TypeId} {fr : Nat × Nat} (h : w.heap[g]? = some (.cells o.cells.toArray t fr)) (hs : o.place.size ≤ maxLen) : OpsAt w (.slice (some ⟨g, 0, none⟩) 1 c) [o] := by
  refine ⟨_, _, rfl, fun o' ho => by rw [List.mem_singleton] at ho; rw [ho]; exact hs, fun _ => ⟨⟨g, 0, none⟩, rfl, fun k o' hk j u hu => ?_⟩⟩
  have hk0 : k = 0 := by have := (List.getElem?_eq_some_iff.1 hk).1; simp at this; exact this
  subst hk0
  simp at hk
  subst hk
  have e : ((⟨g, 0, none⟩ : Addr).add (0 * 5)).add j = ⟨g, j, none⟩ := add_off g j
  rw [e, cell_of_row w g j _ _ _ h]
  simpa using hu
def knownA : OpV := ⟨1, ⟨#[47, 97]⟩, ⟨#[120]⟩, 0, 0⟩
def knownB (d : ByteArray) : OpV := ⟨2, ⟨#[47, 98]⟩, d, -1, 0⟩
def nodeA : Node := ⟨⟨#[47, 97]⟩, ⟨#[120]⟩, 0, 1, 1, 0, 0⟩
theorem known_first : playOf 5 1 [rootNode] [knownA] = ⟨0, 0, [⟨⟨#[47, 97]⟩, noText, 0, 1, 1, 0, []⟩], [⟨1, ⟨#[47, 97]⟩, ⟨#[120]⟩, 0⟩], [rootNode, nodeA]⟩ := by kernel_rfl
theorem known_second (d : ByteArray) (h : 64 < d.size) : playOf 0 2 [rootNode, nodeA] [knownB d] = ⟨45, 0, [], [], [rootNode, nodeA]⟩ := by
  have hs : stepOf 0 2 [rootNode, nodeA] (knownB d) = .no [rootNode, nodeA] 45 := by
    have k2 : (knownB d).kind = 2 := rfl
    rw [stepOf_in (by rw [k2]; decide) (by rw [k2]; decide)]
    exact inTree_large (by show ¬ (parse [47, 98]).2 ≠ 0; decide) (by rw [k2]; show ¬ (needRoot 2 = true ∧ ([47, 98] : List UInt8) = [47]); decide) ⟨by rw [k2]; decide, h⟩
  unfold playOf
  rw [if_neg (by simp), if_neg (by decide), if_neg (by simp)]
  unfold playGo
  rw [hs]
  rfl
theorem good_known : Good [rootNode, nodeA] := by
  have h := play_good (ses := 5) (st := 1) good_new [knownA]
  rw [known_first] at h
  exact h
theorem madeCells_get (z : Value) (n i : Nat) (h : i < n) : (madeCells #[z] n)[i]? = some z := by
  unfold madeCells
  rw [Array.getElem?_map, Array.getElem?_range, if_pos h]
  simp [Nat.mod_one]
theorem keepsPlay {w w' : World} {p r : Nat} {T : List Node} (hT : TreeAt w p r T) (hB : But (fun i => i = p) w w') {e : TypeId} (he : e ≠ 68) : Keeps e w w' := fun g cur hc => hB.block g (Array.getElem?_eq_some_iff.1 hc).1 fun hg => by
  rw [hg, hT.top] at hc
  injection hc with hc
  injection hc with _ h2
  exact he h2.symm
theorem und_bytes : Tryd.prog.underlying 79 = some (.slice 5) := by kernel_rfl
theorem und_byte : Tryd.prog.underlying 5 = some (.int .u8) := by kernel_rfl
theorem info_byte : (Tryd.prog.info? 5).map (fun i => (i.zero, i.size, i.bytes)) = some (some (.int .u8 0), 1, 1) := by kernel_rfl
theorem resForm {B : Nat} {w : World} {v : Value} {rs : List Res} (h : ResRow B w v rs) : ∃ ad c, v = .slice ad rs.length c ∧ rs.length ≤ c := by
  obtain ⟨xs, hx⟩ := h.own
  exact own_form hx
theorem num_any (n : Int) (w : World) : Calls Tryd.prog 17 #[.int .i64 n] w fun e w' => e = .returned (.int .i64 n) ∧ w = w' := by
  go_enter Tryd.func17, Tryd.ntmps17
  go_wp2
  go_ret
  exact ⟨rfl, rfl⟩
def KnownPost (w : World) (e : Ending) (w' : World) : Prop := e = .returned (.bool true) ∧ Below w.heap.size w w'
set_option maxRecDepth 100000 in
set_option maxHeartbeats 2000000 in
theorem known_any (w : World) (he : Env w) : Calls Tryd.prog 13 #[] w (KnownPost w) := by
  have hmk : ∀ W : World, (Instr.makeSlice 79 (.int .i64 65) (.int .i64 65)).run Tryd.prog W = .ok (.slice (some ⟨W.heap.size, 0, none⟩) 65 65) (W.alloc (.cells (madeCells #[.int .u8 0] 65) 5)) :=
    run_make_row' (P := Tryd.prog) 79 5 (.int .u8 0) 1 und_bytes info_byte rfl .i64 .i64 65 (by omega) (by omega)
  have HE := Lib.hid he
  clear he
  go_enter Tryd.func13, Tryd.ntmps13
  go_upto_region 2 with (go_at_call 8; refine (new_any w).mono ?_; rintro e w1 ⟨p, r, rfl, hp, hr, hpr, hb1, hT1⟩; replace hp := Lib.hid hp; replace hr := Lib.hid hr; replace hpr := Lib.hid hpr; replace hb1 := Lib.hid hb1; replace hT1 := Lib.hid hT1)
  obtain ⟨w2, hw2⟩ : ∃ w2, w1.alloc (.cells #[.int .i64 1, .string ⟨#[47, 97]⟩, .string ⟨#[120]⟩, .int .i64 0, .int .i64 0] 50) = w2 := ⟨_, rfl⟩
  have hb2 : Below w1.heap.size w1 w2 := hw2 ▸ ((Below.refl _ _).alloc (Nat.le_refl _) _)
  have ho2 : OpsAt w2 (.slice (some ⟨w1.heap.size, 0, none⟩) 1 1) [knownA] := OpsAt.of_block (t := 50) (fr := (0, 0)) (by rw [← hw2]; exact heap_alloc_new w1 _) (by decide)
  have hE2 : Env w2 := HE.out.after (hb1.out.trans (hb2.mono hb1.out.size))
  have hT2 := hT1.out.below hb2 (Nat.le_refl _)
  have hplay := Play_tree w2 p r _ hT2 hE2 good_new 5 1 _ _ ho2
  rw [known_first] at hplay
  have H1 := Lib.hid (hb1.out.trans (hb2.mono hb1.out.size))
  clear hb2 ho2 hE2 hT2
  go_upto_region 3 with (go_at_call 9; refine hplay.mono ?_; rintro e w3 ⟨rv, cv, r3, rfl, hres, hcv, hT3, _, hB3⟩; obtain ⟨rad, rcc, rfl, _⟩ := resForm hres; obtain ⟨cad, ccc, rfl, _⟩ := own_form hcv; simp only [replyVal, replyCells, List.length_cons, List.length_nil, Nat.zero_add]; replace hcv := Lib.hid hcv; replace hT3 := Lib.hid hT3; replace hB3 := Lib.hid hB3; replace hres := Lib.hid hres)
  obtain ⟨q1, hq1⟩ : ∃ q1, w3.heap.size = q1 := ⟨_, rfl⟩
  generalize hw4 : World.alloc w3 (Obj.cells _ _) = w4
  have hb4 : Below w3.heap.size w3 w4 := hw4 ▸ ((Below.refl _ _).alloc (Nat.le_refl _) _)
  have hr4 : w4.heap[q1]? = some (.cells #[.int .i64 1, .int .i64 0, .int .i64 0, .slice rad 1 rcc] 31 (0, 0)) := by rw [← hw4, ← hq1]; exact heap_alloc_new w3 _
  have hT2' : TreeAt w2 p r [rootNode] := hT1.out.below (B := w1.heap.size) (by rw [← hw2]; exact (Below.refl _ _).alloc (Nat.le_refl _) _) (Nat.le_refl _)
  have hB4 : But (fun i => i = p) w2 w4 := hB3.out.after hb4
  have hbw4 : Below w.heap.size w w4 := H1.out.trans (hB4.below (fun i hi => hi ▸ hp.out) H1.out.size)
  have hT4 := hT3.out.below hb4 (Nat.le_refl _)
  have hcv4 := own_after hcv.out hb4
  have HB4 := Lib.hid hbw4
  have HT4 := Lib.hid hT4
  have HCv4 := Lib.hid hcv4
  have HR4 := Lib.hid hr4
  have hE4 := HE.out.after hbw4
  have HQ : Hid (q1 < w4.heap.size) := (Array.getElem?_eq_some_iff.1 hr4).1
  try rw [hq1]
  clear hb4 hr4 hT2' hB4 hbw4 hT4 hcv4 hw4 hq1 hw2 hT1 hb1 hB3 hT3 hcv hres hplay H1
  obtain ⟨w5, hw5⟩ : ∃ w5, w4.alloc (.cells (madeCells #[.int .u8 0] 65) 5) = w5 := ⟨_, rfl⟩
  have hs5 : w5.heap[w4.heap.size]? = some (.cells (madeCells #[.int .u8 0] 65) 5 (0, 0)) := by rw [← hw5]; exact heap_alloc_new w4 _
  obtain ⟨d, hd⟩ : ∃ d, strOfNums (List.replicate 65 0) = d := ⟨_, rfl⟩
  have hds : 64 < d.size := by rw [← hd, strOfNums_size]; simp
  have hconv := run_convert_bytes_arg (P := Tryd.prog) (w := w5) 79 5 und_bytes und_byte w4.heap.size 0 65 65 (List.replicate 65 0) (by simp) (fun i hi => by
    rw [Nat.zero_add, cell_of_row w5 _ _ _ _ _ hs5, madeCells_get _ _ _ hi, List.getD_eq_getElem?_getD, List.getElem?_replicate, if_pos hi]
    rfl) 9 und_str
  rw [hd] at hconv
  obtain ⟨w6, hw6⟩ : ∃ w6, w5.alloc (.cells #[.int .i64 2, .string ⟨#[47, 98]⟩, .string d, .int .i64 (-1), .int .i64 0] 50) = w6 := ⟨_, rfl⟩
  have hb5 : Below w4.heap.size w4 w5 := hw5 ▸ ((Below.refl _ _).alloc (Nat.le_refl _) _)
  have hb6 : Below w4.heap.size w4 w6 := hb5.trans (hw6 ▸ ((Below.refl w5.heap.size w5).alloc (Nat.le_refl _) _).mono hb5.size)
  have ho6 : OpsAt w6 (.slice (some ⟨w5.heap.size, 0, none⟩) 1 1) [knownB d] := OpsAt.of_block (t := 50) (fr := (0, 0)) (by rw [← hw6]; exact heap_alloc_new w5 _) (by show (2 : Nat) ≤ maxLen; decide)
  have hplay := Play_tree w6 p r3 _ (HT4.out.below hb6 (Nat.le_refl _)) (hE4.after hb6) (good_known) 0 2 _ _ ho6
  rw [known_second d hds] at hplay
  have HT6 := Lib.hid (HT4.out.below hb6 (Nat.le_refl _))
  have HB6 := Lib.hid (HB4.out.trans (hb6.mono HB4.out.size))
  have HCv6 := Lib.hid (own_after HCv4.out hb6)
  have HR6 := Lib.hid ((hb6.block q1 HQ.out).trans HR4.out)
  clear hb5 hb6 ho6 hE4 hs5 hd hds HT4 HB4 HCv4 HR4
  go_upto_region 4 with (go_at_call 9; refine hplay.mono ?_; rintro e w7 ⟨rv7, cv7, r7, rfl, hres, hcv, hT7, _, hB7⟩; obtain ⟨rad7, rcc7, rfl, _⟩ := resForm hres; obtain ⟨cad7, ccc7, rfl, _⟩ := own_form hcv; simp only [replyVal, replyCells, List.length_nil]; clear hcv hres; replace hT7 := Lib.hid hT7; replace hB7 := Lib.hid hB7)
  obtain ⟨q2, hq2⟩ : ∃ q2, w7.heap.size = q2 := ⟨_, rfl⟩
  generalize hw8 : World.alloc w7 (Obj.cells _ _) = w8
  have hb8 : Below w7.heap.size w7 w8 := hw8 ▸ ((Below.refl _ _).alloc (Nat.le_refl _) _)
  have hr8 : w8.heap[q2]? = some (.cells #[.int .i64 2, .int .i64 45, .int .i64 0, .slice rad7 0 rcc7] 31 (0, 0)) := by rw [← hw8, ← hq2]; exact heap_alloc_new w7 _
  have hk8 : ∀ e, e ≠ 68 → Keeps e w6 w8 := fun e he => (keepsPlay HT6.out hB7.out he).trans (Keeps.below hb8)
  have hr1 := (hk8 _ (by decide) _ _ HR6.out).trans HR6.out
  have hcv8 := (hk8 _ (by decide)).own HCv6.out
  have hT8 := hT7.out.below hb8 (Nat.le_refl _)
  have hB8 : Below w.heap.size w w8 := HB6.out.trans ((hB7.out.after hb8).below (fun i hi => hi ▸ hp.out) HB6.out.size)
  try rw [hq2]
  have hg := good_known
  have hnodes := nodes_tree w8 p r7 _ hT8 (fun x hx => by have := hg.size x hx; simp only [maxLen]; omega) (by decide)
  have HNodes := Lib.hid hnodes
  have HB8 := Lib.hid hB8
  have HCv8 := Lib.hid hcv8
  have HR1 := Lib.hid hr1
  have HR8 := Lib.hid hr8
  clear hw8 hq2 hb8 hk8 hT8 hB8 hg hnodes hcv8 hT7 hB7 HT6 HB6 HCv6 HR6 hplay hconv hmk hw5 hw6
  have d1 := cell_of_row w8 q1 1 _ _ _ hr1
  have d2 := cell_of_row w8 q2 1 _ _ _ hr8
  simp only [List.getElem?_toArray, List.getElem?_cons_succ, List.getElem?_cons_zero] at d1 d2
  clear hr1 hr8
  go_upto_region 7 with (first
    | (go_at_call 17; refine (num_any _ _).mono ?_; rintro e w' ⟨rfl, rfl⟩)
    | (go_at_call 11; refine HNodes.out.mono ?_; rintro e w9 ⟨nv, rfl, ho9, hb9⟩; obtain ⟨nad, ncc, rfl, _⟩ := own_form ho9; simp only [List.length_cons, List.length_nil, Nat.zero_add, Nat.reduceAdd]; replace ho9 := Lib.hid ho9; replace hb9 := Lib.hid hb9))
  have hr9 := (hb9.out.block q1 (Array.getElem?_eq_some_iff.1 HR1.out).1).trans HR1.out
  have hcv9 := own_after HCv8.out hb9.out
  obtain ⟨g, cap, hge, _⟩ := hcv9.form (by decide)
  injection hge with e1 e2 e3
  subst e1
  obtain ⟨g2, cap2, hge2, _⟩ := ho9.out.form (by decide)
  injection hge2 with e4 e5 e6
  subst e4
  have hn := NodeRow.of (k := 1) (y := nodeA) ho9.out rfl
  have x1 := hcv9.cells (g := g) rfl 1 _ rfl
  rw [add_off] at x1
  have n1 : w9.cell? ⟨g2, 8, none⟩ = some (.string ⟨#[120]⟩) := hn.c1
  have x1' : w9.cell? ⟨g, 1, none⟩ = some (.string ⟨#[47, 97]⟩) := x1
  have y1 := cell_of_row w9 q1 1 _ _ _ hr9
  have y3 := cell_of_row w9 q1 3 _ _ _ hr9
  simp only [List.getElem?_toArray, List.getElem?_cons_succ, List.getElem?_cons_zero] at y1 y3
  have HB9 : Hid (Below w.heap.size w w9) := HB8.out.trans (hb9.out.mono HB8.out.size)
  clear hr9 hcv9 hn x1 ho9 hb9 HCv8 HR1 HR8 HB8 HNodes d1 d2 e2 e3 e5 e6
  go_wp2_with (go_at_call 17; refine (num_any _ _).mono ?_; rintro e w' ⟨rfl, rfl⟩)
  go_ret
  exact ⟨rfl, HB9.out⟩
end Go.Proofs.YtpmlfpmedbccaaaDoor
