/- The law TreeGone, walked: behind End just the brief nodes of that session are gone. -/
import Derived.Test.YtpmlfpmedbccaaaDoorPlayed
import Derived.IntWalk
namespace Go.Proofs.YtpmlfpmedbccaaaDoor
open Go.RowKit
attribute [local go_sem ↓] Go.wp_at_zero Go.wp_at_succ

/-! ### plain -/
def goes (ses : Int) (x : Node) : Bool := decide (x.owner = ses) && decide (0 < ses)
def stays (ses : Int) (x : Node) : Bool := !goes ses x
theorem endChg_goes (T : List Node) (ses : Int) : endChg T ses = (T.filter (goes ses)).map goneOf := by
  unfold endChg
  by_cases h : ses < 1
  · rw [if_pos h, List.filter_eq_nil_iff.2]
    · rfl
    · intro x _ hx
      unfold goes at hx
      simp at hx
      omega
  · rw [if_neg h]
    congr 1
    apply List.filter_congr
    intro x _
    unfold goes
    rw [show decide (0 < ses) = true from by simp; omega, Bool.and_true]
theorem endOf_stays (T : List Node) (ses : Int) : endOf T ses = T.filter (stays ses) := by
  unfold endOf
  by_cases h : ses < 1
  · rw [if_pos h, List.filter_eq_self.2]
    intro x _
    unfold stays goes
    rw [show decide (0 < ses) = false from by simp; omega, Bool.and_false]
    rfl
  · rw [if_neg h]
    apply List.filter_congr
    intro x _
    unfold stays goes
    rw [show decide (0 < ses) = true from by simp; omega, Bool.and_true]
    by_cases hx : x.owner = ses <;> simp [hx]
theorem filter_at {P : Node → Bool} {T : List Node} {i : Nat} {x : Node} (hx : T[i]? = some x) (hP : P x = true) : (T.filter P)[((T.take i).filter P).length]? = some x := by
  have e : T = T.take i ++ x :: T.drop (i + 1) := by rw [← still_drop hx, List.take_append_drop]
  conv => lhs; arg 1; rw [e]
  rw [List.filter_append, List.getElem?_append_right (Nat.le_refl _), Nat.sub_self, List.filter_cons, if_pos hP]
  rfl
def cnt (P : Node → Bool) (T : List Node) (i : Nat) : Nat := ((T.take i).filter P).length
theorem cnt_zero (P : Node → Bool) (T : List Node) : cnt P T 0 = 0 := by simp [cnt]
theorem cnt_all (P : Node → Bool) (T : List Node) : cnt P T T.length = (T.filter P).length := by simp [cnt]
theorem cnt_succ {P : Node → Bool} {T : List Node} {i : Nat} {x : Node} (hx : T[i]? = some x) : cnt P T (i + 1) = cnt P T i + if P x = true then 1 else 0 := by
  unfold cnt
  rw [List.take_add_one, hx, List.filter_append, List.length_append]
  by_cases h : P x = true <;> simp [h]
theorem cnt_le (P : Node → Bool) (T : List Node) (i : Nat) : cnt P T i ≤ T.length := by
  unfold cnt
  refine Nat.le_trans (List.length_filter_le _ _) ?_
  rw [List.length_take]
  omega
theorem ended_none (T : List Node) (ses : Int) : endChg (endOf T ses) ses = [] := by
  rw [endChg_goes, endOf_stays, List.filter_filter, List.filter_eq_nil_iff.2]
  · rfl
  · intro x _ h
    simp [stays] at h
/-- The k-th of a row of changes. -/
structure ChgRow (w : World) (g o : Nat) (c : Chg) : Prop where
  c0 : w.cell? ⟨g, o, none⟩ = some (.int .i64 c.kind)
  c1 : w.cell? ⟨g, o + 1, none⟩ = some (.string c.place)
  c2 : w.cell? ⟨g, o + 2, none⟩ = some (.string c.data)
  c3 : w.cell? ⟨g, o + 3, none⟩ = some (.int .i64 c.version)
theorem ChgRow.of {w : World} {base n g c : Nat} {L : List Chg} {k : Nat} {s : Chg} (h : w.ownsRow base 58 4 (.slice (some ⟨g, 0, none⟩) n c) n (L.flatMap Chg.cells)) (hk : L[k]? = some s) : ChgRow w g (k * 4) s := by
  have key : ∀ j u, s.cells[j]? = some u → w.cell? ⟨g, k * 4 + j, none⟩ = some u := fun j u hu => by
    have hj : j < 4 := (List.getElem?_eq_some_iff.1 hu).1
    have := h.cells (g := g) rfl (k * 4 + j) u (by rw [flat_get Chg.cells 4 (fun _ => rfl) L k s hk j hj]; exact hu)
    rwa [add_off] at this
  exact ⟨key 0 _ rfl, key 1 _ rfl, key 2 _ rfl, key 3 _ rfl⟩
def LawPost (w : World) (e : Ending) (w' : World) : Prop := e = .returned (.bool true) ∧ Below w.heap.size w w'
/-- The lists that the law holds. -/
def GoneAt (w : World) (p : Nat) (T : List Node) (ses : Int) (bv cv av : Value) (wr : World) : Prop :=
  wr.ownsRow w.heap.size 43 7 bv T.length (T.flatMap Node.cells) ∧ wr.ownsRow w.heap.size 58 4 cv (endChg T ses).length ((endChg T ses).flatMap Chg.cells) ∧
    wr.ownsRow w.heap.size 43 7 av (endOf T ses).length ((endOf T ses).flatMap Node.cells) ∧ TreeNow w p (endOf T ses) wr
theorem GoneAt.after {w wr wd : World} {p : Nat} {T : List Node} {ses : Int} {bv cv av : Value} (h : GoneAt w p T ses bv cv av wr) (hb : Below wr.heap.size wr wd) : GoneAt w p T ses bv cv av wd :=
  ⟨own_after h.1 hb, own_after h.2.1 hb, own_after h.2.2.1 hb, h.2.2.2.after hb⟩
set_option maxRecDepth 100000 in
set_option maxHeartbeats 4000000 in
theorem TreeGone_any (w : World) (he : Env w) (v : Value) (steps : List StepV) (hs : StepsAt w v steps) (ses : Int) : Calls Tryd.prog 5 #[v, .int .i64 ses] w (LawPost w) := by
  have HE := Lib.hid he
  have hplayed := played_any w he v steps hs
  obtain ⟨a, c, rfl, hmax, _⟩ := hs
  clear he hmax
  go_enter Tryd.func5, Tryd.ntmps5
  go_upto_region 4 with (go_at_call 14; refine hplayed.mono ?_; rintro e w1 ⟨p, T, rfl, hN1⟩; replace hN1 := Lib.hid hN1)
  have hnodes := Nodes_now w p T w1 hN1.out
  go_upto_region 5 with (go_at_call 11; refine hnodes.mono ?_; rintro e w2 ⟨bv, rfl, ho2, _, hT2⟩; obtain ⟨g, bcc, rfl, _, _⟩ := ho2.form hT2.2.1.pos; replace ho2 := Lib.hid ho2; replace hT2 := Lib.hid hT2)
  have HG := Lib.hid hT2.out.2.1
  have hT64 := HG.out.few
  have hend := End_now w p T w2 hT2.out ses
  go_upto_region 6 with (go_at_call 10; refine hend.mono ?_; rintro e w3 ⟨cv, rfl, hc3, hT3, hk3⟩; obtain ⟨cad, ccc, rfl, _⟩ := own_form hc3; replace hc3 := Lib.hid hc3; replace hT3 := Lib.hid hT3; replace hk3 := Lib.hid hk3)
  have hnodes3 := Nodes_now w p _ w3 hT3.out
  go_upto_region 7 with (go_at_call 11; refine hnodes3.mono ?_; rintro e w4 ⟨av, rfl, ho4, hb4, hT4⟩; obtain ⟨aad, acc, rfl, _⟩ := own_form ho4; replace ho4 := Lib.hid ho4; replace hb4 := Lib.hid hb4; replace hT4 := Lib.hid hT4)
  have hst : GoneAt w p T ses (.slice (some ⟨g, 0, none⟩) T.length bcc) (.slice cad (endChg T ses).length ccc) (.slice aad (endOf T ses).length acc) w4 :=
    ⟨own_after ((hk3.out _).own (own_lower ho2.out hN1.out.2.2.1.size)) hb4.out, own_after (own_lower hc3.out hT2.out.2.2.1.size) hb4.out, own_lower ho4.out hT3.out.2.2.1.size, hT4.out⟩
  have HSt := Lib.hid hst
  have hCl : (endChg T ses).length = (T.filter (goes ses)).length := by rw [endChg_goes, List.length_map]
  have hUl : (endOf T ses).length = (T.filter (stays ses)).length := by rw [endOf_stays]
  have HCl := Lib.hid hCl
  have HUl := Lib.hid hUl
  clear hst hnodes hnodes3 hend hplayed ho2 hc3 ho4 hb4 hT4 hT3 hk3 hT2 hN1 hCl hUl
  go_wp2_with fail
  go_simp
  go_loopg [9, 10, 11] T.length (fun gg s9 s10 s11 wr => ∃ i : Nat, s11 = .int .i64 i ∧ i + gg = T.length ∧ s9 = .int .i64 (cnt (goes ses) T i) ∧ s10 = .int .i64 (cnt (stays ses) T i) ∧ GoneAt w p T ses (.slice (some ⟨g, 0, none⟩) T.length bcc) (.slice cad (endChg T ses).length ccc) (.slice aad (endOf T ses).length acc) wr)
  case atStart => exact ⟨0, rfl, by omega, by rw [cnt_zero]; rfl, by rw [cnt_zero]; rfl, HSt.out⟩
  case round =>
    obtain ⟨i, rfl, hig, rfl, rfl, hS⟩ := hrel
    have HIg := Lib.hid hig
    have HS := Lib.hid hS
    clear hig hS HSt
    by_cases hlt : i < T.length
    · --[
      obtain ⟨x, hx⟩ : ∃ x, T[i]? = some x := ⟨_, List.getElem?_eq_getElem hlt⟩
      have hnr := NodeRow.of (k := i) HS.out.1 hx
      have hsg := cnt_succ (P := goes ses) hx
      have hsk := cnt_succ (P := stays ses) hx
      have HX := Lib.hid hx
      have hgv : goes ses x = (decide (x.owner = ses) && decide (0 < ses)) := rfl
      have hkv : stays ses x = !goes ses x := rfl
      obtain ⟨gv, hg⟩ : ∃ gv, goes ses x = gv := ⟨_, rfl⟩
      have hcl := cnt_le (goes ses) T i
      have hul := cnt_le (stays ses) T i
      clear hx
      cases gv
      · --( stays
        have hk : stays ses x = true := by rw [hkv, hg]; rfl
        rw [hg, if_neg (by decide)] at hsg
        rw [hk, if_pos rfl] at hsk
        have hat : (endOf T ses)[cnt (stays ses) T i]? = some x := by rw [endOf_stays]; exact filter_at HX.out hk
        have hlu := (List.getElem?_eq_some_iff.1 hat).1
        obtain ⟨ga, cca, ea, _, _⟩ := HS.out.2.2.1.form (by omega)
        cases ea
        have hnu := NodeRow.of (k := cnt (stays ses) T i) HS.out.2.2.1 hat
        have HSg := Lib.hid hsg
        have HSk := Lib.hid hsk
        rw [hg] at hgv
        have HGv := Lib.hid hgv
        clear hat hk hg hkv hsg hsk hgv
        obtain ⟨j, hj⟩ : ∃ j, cnt (stays ses) T i = j := ⟨_, rfl⟩
        obtain ⟨k, hk⟩ : ∃ k, cnt (goes ses) T i = k := ⟨_, rfl⟩
        rw [hj] at hnu hlu hul HSk ⊢
        rw [hk] at hcl HSg ⊢
        obtain ⟨xp, xd, xv, xm, xc, xo, xn⟩ := x
        obtain ⟨a0, a1, a2, a3, a4, a5, a6⟩ := hnr
        obtain ⟨b0, b1, b2, b3, b4, b5, b6⟩ := hnu
        simp only [] at a0 a1 a2 a3 a4 a5 a6 b0 b1 b2 b3 b4 b5 b6
        have i0 : (0 : Int) ≤ (i : Int) := by omega
        have i1 : (i : Int) < (T.length : Int) := by omega
        have i2 : (0 : Int) ≤ (j : Int) := by omega
        have i3 : (j : Int) < ((endOf T ses).length : Int) := by omega
        have i4 : decide (((endOf T ses).length : Int) ≤ (j : Int)) = false := by simp; omega
        clear hk hj
        go_upto_region 13 with fail
        obtain ⟨sb, hsb⟩ : ∃ sb, wr.heap.size = sb := ⟨_, rfl⟩
        generalize hw5 : World.alloc wr (Obj.cells _ _) = w5
        have hb5 : Below wr.heap.size wr w5 := hw5 ▸ (Below.refl _ _).alloc (Nat.le_refl _) _
        have hs5 : w5.heap[sb]? = some (.cells #[.string xp, .string xd, .int .i64 xv, .int .i64 xm, .int .i64 xc, .int .i64 xo, .int .i64 xn] 43 (0, 0)) := by rw [← hw5, ← hsb]; exact heap_alloc_new wr _
        have q : ∀ {a : Addr} {u : Value}, wr.cell? a = some u → w5.cell? a = some u := fun hc => (hb5.cell (World.block_lt_of_cell? wr _ hc)).trans hc
        replace b0 := q b0
        replace b1 := q b1
        replace b2 := q b2
        replace b3 := q b3
        replace b4 := q b4
        replace b5 := q b5
        replace b6 := q b6
        have y0 := cell_of_row w5 sb 0 _ _ _ hs5
        have y1 := cell_of_row w5 sb 1 _ _ _ hs5
        have y2 := cell_of_row w5 sb 2 _ _ _ hs5
        have y3 := cell_of_row w5 sb 3 _ _ _ hs5
        have y4 := cell_of_row w5 sb 4 _ _ _ hs5
        have y5 := cell_of_row w5 sb 5 _ _ _ hs5
        have y6 := cell_of_row w5 sb 6 _ _ _ hs5
        simp only [List.getElem?_toArray, List.getElem?_cons_succ, List.getElem?_cons_zero] at y0 y1 y2 y3 y4 y5 y6
        try rw [hsb]
        have HS5 := Lib.hid (HS.out.after hb5)
        clear q hw5 hsb hb5 hs5 a0 a1 a2 a3 a4 a5 a6 HS
        rcases Bool.eq_false_or_eq_true (xo == ses) with t1 | t1
        · have t2 : decide ((0 : Int) < ses) = false := by
            have := HGv.out
            simp only [beq_iff_eq] at t1
            rw [decide_eq_true t1, Bool.true_and] at this
            exact this.symm
          go_upto_region 17 with fail
          go_quiet (fail)
          simp only [Exit.then]
          go_step
          generalize hw6 : World.drewN w5 _ = w6
          have hb6 : Below w5.heap.size w5 w6 := hw6 ▸ ⟨rfl, rfl, rfl, Nat.le_refl _, fun _ _ => rfl⟩
          have HS6 := Lib.hid (HS5.out.after hb6)
          clear hw6 hb6 y0 y1 y2 y3 y4 y5 y6 b0 b1 b2 b3 b4 b5 b6 i4
          go_wp2_with fail
          go_roundg (gk - 1)
          case measure => have := HIg.out; omega
          case rel => exact ⟨i + 1, by go_num, by have := HIg.out; omega, by rw [HSg.out]; go_num, by rw [HSk.out]; go_num, HS6.out⟩
        · go_upto_region 17 with fail
          go_quiet (fail)
          simp only [Exit.then]
          go_step
          generalize hw6 : World.drewN w5 _ = w6
          have hb6 : Below w5.heap.size w5 w6 := hw6 ▸ ⟨rfl, rfl, rfl, Nat.le_refl _, fun _ _ => rfl⟩
          have HS6 := Lib.hid (HS5.out.after hb6)
          clear hw6 hb6 y0 y1 y2 y3 y4 y5 y6 b0 b1 b2 b3 b4 b5 b6 i4
          go_wp2_with fail
          go_roundg (gk - 1)
          case measure => have := HIg.out; omega
          case rel => exact ⟨i + 1, by go_num, by have := HIg.out; omega, by rw [HSg.out]; go_num, by rw [HSk.out]; go_num, HS6.out⟩
      · --( goes
        have hk : stays ses x = false := by rw [hkv, hg]; rfl
        rw [hg, if_pos rfl] at hsg
        rw [hk, if_neg (by decide)] at hsk
        have hat : (endChg T ses)[cnt (goes ses) T i]? = some (goneOf x) := by
          rw [endChg_goes, List.getElem?_map]
          rw [show (T.filter (goes ses))[cnt (goes ses) T i]? = some x from filter_at HX.out hg]
          rfl
        have hlu := (List.getElem?_eq_some_iff.1 hat).1
        obtain ⟨ga, cca, ea, _, _⟩ := HS.out.2.1.form (by omega)
        cases ea
        have hnu := ChgRow.of (k := cnt (goes ses) T i) HS.out.2.1 hat
        have HSg := Lib.hid hsg
        have HSk := Lib.hid hsk
        rw [hg] at hgv
        have hgx := hgv.symm
        rw [Bool.and_eq_true] at hgx
        clear hat hk hg hkv hsg hsk hgv
        obtain ⟨j, hj⟩ : ∃ j, cnt (stays ses) T i = j := ⟨_, rfl⟩
        obtain ⟨k, hk⟩ : ∃ k, cnt (goes ses) T i = k := ⟨_, rfl⟩
        rw [hj] at hul HSk ⊢
        rw [hk] at hnu hlu hcl HSg ⊢
        obtain ⟨xp, xd, xv, xm, xc, xo, xn⟩ := x
        obtain ⟨a0, a1, a2, a3, a4, a5, a6⟩ := hnr
        obtain ⟨b0, b1, b2, b3⟩ := hnu
        simp only [goneOf, noText] at a0 a1 a2 a3 a4 a5 a6 b0 b1 b2 b3 hgx
        have t1 : (xo == ses) = true := by simpa using hgx.1
        have t2 : decide ((0 : Int) < ses) = true := hgx.2
        have i0 : (0 : Int) ≤ (i : Int) := by omega
        have i1 : (i : Int) < (T.length : Int) := by omega
        have i2 : (0 : Int) ≤ (k : Int) := by omega
        have i3 : (k : Int) < ((endChg T ses).length : Int) := by omega
        have i4 : decide (((endChg T ses).length : Int) ≤ (k : Int)) = false := by simp; omega
        clear hk hj hgx
        go_upto_region 13 with fail
        obtain ⟨sb, hsb⟩ : ∃ sb, wr.heap.size = sb := ⟨_, rfl⟩
        generalize hw5 : World.alloc wr (Obj.cells _ _) = w5
        have hb5 : Below wr.heap.size wr w5 := hw5 ▸ (Below.refl _ _).alloc (Nat.le_refl _) _
        have hs5 : w5.heap[sb]? = some (.cells #[.string xp, .string xd, .int .i64 xv, .int .i64 xm, .int .i64 xc, .int .i64 xo, .int .i64 xn] 43 (0, 0)) := by rw [← hw5, ← hsb]; exact heap_alloc_new wr _
        have q : ∀ {a : Addr} {u : Value}, wr.cell? a = some u → w5.cell? a = some u := fun hc => (hb5.cell (World.block_lt_of_cell? wr _ hc)).trans hc
        replace b0 := q b0
        replace b1 := q b1
        replace b2 := q b2
        replace b3 := q b3
        have y0 := cell_of_row w5 sb 0 _ _ _ hs5
        have y1 := cell_of_row w5 sb 1 _ _ _ hs5
        have y2 := cell_of_row w5 sb 2 _ _ _ hs5
        have y3 := cell_of_row w5 sb 3 _ _ _ hs5
        have y4 := cell_of_row w5 sb 4 _ _ _ hs5
        have y5 := cell_of_row w5 sb 5 _ _ _ hs5
        have y6 := cell_of_row w5 sb 6 _ _ _ hs5
        simp only [List.getElem?_toArray, List.getElem?_cons_succ, List.getElem?_cons_zero] at y0 y1 y2 y3 y4 y5 y6
        try rw [hsb]
        have HS5 := Lib.hid (HS.out.after hb5)
        clear q hw5 hsb hb5 hs5 a0 a1 a2 a3 a4 a5 a6 HS
        go_upto_region 14 with fail
        go_quiet (fail)
        simp only [Exit.then]
        go_step
        generalize hw6 : World.drewN w5 _ = w6
        have hb6 : Below w5.heap.size w5 w6 := hw6 ▸ ⟨rfl, rfl, rfl, Nat.le_refl _, fun _ _ => rfl⟩
        have HS6 := Lib.hid (HS5.out.after hb6)
        clear hw6 hb6 y0 y1 y2 y3 y4 y5 y6 b0 b1 b2 b3  i4
        go_wp2_with fail
        go_roundg (gk - 1)
        case measure => have := HIg.out; omega
        case rel => exact ⟨i + 1, by go_num, by have := HIg.out; omega, by rw [HSg.out]; go_num, by rw [HSk.out]; go_num, HS6.out⟩
      --]
    · --[
      have hie : i = T.length := by have := HIg.out; omega
      have hge : ¬ (i : Int) < (T.length : Int) := by omega
      have e1 : cnt (goes ses) T i = (endChg T ses).length := by rw [hie, cnt_all, HCl.out]
      have e2 : cnt (stays ses) T i = (endOf T ses).length := by rw [hie, cnt_all, HUl.out]
      rw [e1, e2]
      have hend := End_now w p (endOf T ses) wr HS.out.2.2.2 ses
      unfold EndNow at hend
      rw [ended_none] at hend
      simp only [List.length_nil, List.flatMap_nil] at hend
      clear hie e1 e2
      go_upto_region 21 with (go_at_call 10; refine hend.mono ?_; rintro e w5 ⟨dv, rfl, hd5, hT5, _⟩; obtain ⟨dad, dcc, rfl, _⟩ := own_form hd5; clear hd5; replace hT5 := Lib.hid hT5)
      have hkn := known_any w5 (hT5.out.env HE.out)
      clear hend
      go_wp2_with (go_at_call 13; refine hkn.mono ?_; rintro e w6 ⟨rfl, hb6⟩; replace hb6 := Lib.hid hb6)
      go_ret
      exact ⟨rfl, hT5.out.2.2.1.trans (hb6.out.mono hT5.out.2.2.1.size)⟩
      --]
end Go.Proofs.YtpmlfpmedbccaaaDoor
