/- The law TreeReads, walked: what a reading op answers of a place is what Nodes says of it. -/
import Derived.Test.YtpmlfpmedbccaaaDoorReadRes
import Derived.Test.YtpmlfpmedbccaaaDoorPlayed
import Derived.IntWalk
namespace Go.Proofs.YtpmlfpmedbccaaaDoor
open Go.RowKit
attribute [local go_sem ↓] Go.wp_at_zero Go.wp_at_succ

/-! ### plain -/
/-- What a reading op answers: a code. -/
def wantRead (pc : Int) (is : Bool) (v k ver : Int) : Int := if pc ≠ 0 then 10 else if is = false then 40 else if k = 4 ∧ ver ≠ -1 ∧ ver ≠ v then 42 else 0
def readOp (k : Int) (p : ByteArray) (ver : Int) : OpV := ⟨k, p, ⟨#[]⟩, ver, 0⟩
theorem reads_step (T : List Node) (k : Int) (p : ByteArray) (ver : Int) (h : 4 ≤ k ∧ k ≤ 7) :
    stepOf 1 1 T (readOp k p ver) = if wantRead (parse p.data.toList).2 (look T p).isSome ((look T p).getD zeroNode).version k ver = 0 then ⟨0, readRes T ((look T p).getD zeroNode) k, T, []⟩ else .no T (wantRead (parse p.data.toList).2 (look T p).isSome ((look T p).getD zeroNode).version k ver) := by
  rw [stepOf_in (by unfold readOp; simp only; omega) (by unfold readOp; simp only; omega)]
  unfold wantRead
  have n1 : needRoot k = false := by unfold needRoot; simp; omega
  have n2 : needData k = false := by unfold needData; simp; omega
  by_cases hp : (parse p.data.toList).2 ≠ 0
  · rw [if_pos hp, if_neg (by omega), inTree_place hp]
  · rw [if_neg hp]
    cases hl : look T p with
    | none =>
      rw [inTree_none hp (by show ¬ (needRoot k = true ∧ _); rw [n1]; simp) (by show ¬ (needData k = true ∧ _); rw [n2]; simp) hl]
      simp
    | some x =>
      rw [inTree_some hp (by show ¬ (needRoot k = true ∧ _); rw [n1]; simp) (by show ¬ (needData k = true ∧ _); rw [n2]; simp) hl]
      by_cases hv : k = 4 ∧ ver ≠ -1 ∧ ver ≠ x.version
      · rw [onNode_version ⟨by show needVersion k = true; rw [hv.1]; rfl, hv.2⟩]
        simp [hv]
      · rw [onNode_read (fun h => hv ⟨by
          have : needVersion k = true := h.1
          unfold needVersion at this
          simp at this
          omega, h.2⟩) (by show k ≠ 2; omega) (by show k ≠ 3; omega)]
        simp only [Option.isSome_some, Option.getD_some]
        rw [show (if (true : Bool) = false then (40 : Int) else if k = 4 ∧ ver ≠ -1 ∧ ver ≠ x.version then 42 else 0) = 0 from by rw [if_neg (by decide), if_neg hv], if_pos rfl]
        rfl
theorem reads_plays (T : List Node) (k : Int) (p : ByteArray) (ver : Int) (h : 4 ≤ k ∧ k ≤ 7) (want : Int) (hw : wantRead (parse p.data.toList).2 (look T p).isSome ((look T p).getD zeroNode).version k ver = want) :
    playOf 1 1 T [readOp k p ver] = ⟨want, 0, if want = 0 then [readRes T ((look T p).getD zeroNode) k] else [], [], T⟩ := by
  unfold playOf
  rw [if_neg (by simp), if_neg (by omega), if_neg (by simp)]
  unfold playGo
  rw [reads_step T k p ver h, hw]
  by_cases h0 : want = 0
  · subst h0
    simp [playGo]
  · rw [if_neg h0, if_pos (by exact h0), if_neg h0]
    rfl
def LawPost (w : World) (e : Ending) (w' : World) : Prop := e = .returned (.bool true) ∧ Below w.heap.size w w'
/-- What TreeReads holds of the tree and of its nodes. -/
structure Held (w : World) (p : Nat) (T : List Node) (v : Value) (sb : Nat) (x : Node) (wr : World) : Prop where
  now : TreeNow w p T wr
  own : wr.ownsRow w.heap.size 43 7 v T.length (T.flatMap Node.cells)
  box : wr.heap[sb]? = some (.cells x.cells.toArray 43 (0, 0))
theorem Held.after {w wr wd : World} {p : Nat} {T : List Node} {v : Value} {sb : Nat} {x : Node} (h : Held w p T v sb x wr) (hb : Below wr.heap.size wr wd) : Held w p T v sb x wd :=
  ⟨h.now.after hb, own_after h.own hb, (hb.block _ (Array.getElem?_eq_some_iff.1 h.box).1).trans h.box⟩
theorem ops_one {w : World} {g : Nat} {o : OpV} (h : w.heap[g]? = some (.cells o.cells.toArray 50 (0, 0))) (hs : o.place.size ≤ maxLen) : OpsAt w (.slice (some ⟨g, 0, none⟩) 1 1) [o] := by
  refine ⟨some ⟨g, 0, none⟩, 1, rfl, by simpa using hs, fun _ => ⟨⟨g, 0, none⟩, rfl, ?_⟩⟩
  intro k o' hk j u hu
  cases k with
  | succ k => simp at hk
  | zero =>
    simp at hk
    subst hk
    rw [Nat.zero_mul, add_off, add_off, cell_of_row w g j _ _ _ h, List.getElem?_toArray]
    exact hu
set_option maxRecDepth 100000 in
set_option maxHeartbeats 4000000 in
theorem TreeReads_any (w : World) (he : Env w) (v : Value) (steps : List StepV) (hs : StepsAt w v steps) (at_ : ByteArray) (hat : at_.size ≤ maxLen) (ver : Int) : Calls Tryd.prog 4 #[v, .string at_, .int .i64 ver] w (LawPost w) := by
  have HE := Lib.hid he
  have HAt := Lib.hid hat
  have hplayed := played_any w he v steps hs
  obtain ⟨a, c, rfl, hmax, _⟩ := hs
  clear he hat hmax
  go_enter Tryd.func4, Tryd.ntmps4
  go_upto_region 4 with (go_at_call 14; refine hplayed.mono ?_; rintro e w1 ⟨p, T, rfl, hN1⟩; replace hN1 := Lib.hid hN1)
  have hnodes := Nodes_now w p T w1 hN1.out
  go_upto_region 5 with (go_at_call 11; refine hnodes.mono ?_; rintro e w2 ⟨nv, rfl, ho2, _, hT2⟩; obtain ⟨nad, ncc, rfl, _⟩ := own_form ho2; replace ho2 := Lib.hid ho2; replace hT2 := Lib.hid hT2)
  have HG := Lib.hid hT2.out.2.1
  have hT64 := HG.out.few
  have ho2' := own_lower ho2.out hN1.out.2.2.1.size
  have HO2 := Lib.hid ho2'
  have hfind := find_any w2 w.heap.size _ T at_ ho2' HG.out.sorted (by omega)
  unfold FindPost at hfind
  obtain ⟨x0, hx0⟩ : ∃ x0, (look T at_).getD zeroNode = x0 := ⟨_, rfl⟩
  obtain ⟨is, his⟩ : ∃ is, (look T at_).isSome = is := ⟨_, rfl⟩
  obtain ⟨pc, hpc⟩ : ∃ pc, (parse at_.data.toList).2 = pc := ⟨_, rfl⟩
  have hpl := fun k h want hw => reads_plays T k at_ ver h want hw
  rw [hx0, his] at hfind
  rw [hx0, his, hpc] at hpl
  have HPl := Lib.hid hpl
  have hpar := fun W h1 => parse_any at_ W h1 HAt.out
  unfold ParsePost at hpar
  rw [hpc] at hpar
  clear hx0 his hpc hpl ho2' ho2 hN1 hnodes hplayed
  obtain ⟨xp, xd, xv, xm, xc, xo, xn⟩ := x0
  simp only [Node.val, Node.cells] at hfind
  go_upto_region 6 with (go_at_call 15; refine hfind.mono ?_; rintro e w4 ⟨rfl, hb4⟩; replace hb4 := Lib.hid hb4)
  obtain ⟨sb, hsb⟩ : ∃ sb, w4.heap.size = sb := ⟨_, rfl⟩
  generalize hw5 : World.alloc w4 (Obj.cells _ _) = w5
  have hb5 : Below w2.heap.size w2 w5 := hb4.out.trans (hw5 ▸ ((Below.refl w4.heap.size w4).alloc (Nat.le_refl _) _).mono hb4.out.size)
  have hs5 : w5.heap[sb]? = some (.cells (Node.cells ⟨xp, xd, xv, xm, xc, xo, xn⟩).toArray 43 (0, 0)) := by rw [← hw5, ← hsb]; exact heap_alloc_new w4 _
  have hH5 : Held w p T (.slice nad T.length ncc) sb ⟨xp, xd, xv, xm, xc, xo, xn⟩ w5 := ⟨hT2.out.after hb5, own_after HO2.out hb5, hs5⟩
  have HH5 := Lib.hid hH5
  try rw [hsb]
  clear hw5 hb5 hs5 hb4 hfind HO2 hT2 hH5 hsb
  go_upto_region 7 with (go_at_call 16; refine (hpar _ (HH5.out.now.env HE.out)).mono ?_; rintro e w6 ⟨pv, rfl, hpn, hb6⟩; clear hpn; replace hb6 := Lib.hid hb6)
  have HH6 := Lib.hid (HH5.out.after hb6.out)
  clear hb6 HH5 hpar
  go_wp2_with fail
  go_simp
  go_loopg [13] 4 (fun gg s13 wr => ∃ k : Int, s13 = .int .i64 k ∧ 4 ≤ k ∧ k + gg = 8 ∧ Held w p T (.slice nad T.length ncc) sb ⟨xp, xd, xv, xm, xc, xo, xn⟩ wr)
  case atStart => exact ⟨4, rfl, by omega, by omega, HH6.out⟩
  case round =>
    obtain ⟨k, rfl, hk4, hkg, hH⟩ := hrel
    have HKg := Lib.hid hkg
    have HH := Lib.hid hH
    clear hkg hH HH6
    by_cases hk7 : k ≤ 7
    · --[
      obtain ⟨want, hwant⟩ : ∃ want, wantRead pc is xv k ver = want := ⟨_, rfl⟩
      have HWant := Lib.hid hwant
      have hpw := HPl.out k ⟨hk4, hk7⟩ want hwant
      clear hwant
      have hplay := Play_now w p T _ (HH.out.now.after ((Below.refl wr.heap.size wr).alloc (Nat.le_refl _) (.cells (readOp k at_ ver).cells.toArray 50 (0, 0)))) HE.out 1 1 _ _ (ops_one (heap_alloc_new wr _) HAt.out)
      rw [hpw] at hplay
      unfold PlayNow replyVal replyCells at hplay
      simp only [] at hplay
      go_upto_region 11 with (go_at_call 9; refine hplay.mono ?_; rintro e w6 ⟨rv, cv, rfl, hres, hcv, hT6, hkp, _⟩; obtain ⟨rad, rcc, hrv, _⟩ := own_form hres.own.choose_spec; subst hrv; obtain ⟨cad, ccc, hcv', _⟩ := own_form hcv; subst hcv'; clear hcv; replace hres := Lib.hid hres; replace hT6 := Lib.hid hT6; replace hkp := Lib.hid hkp)
      obtain ⟨rb, hrb⟩ : ∃ rb, w6.heap.size = rb := ⟨_, rfl⟩
      generalize hw7 : World.alloc w6 (Obj.cells _ _) = w7
      have hb7 : Below w6.heap.size w6 w7 := hw7 ▸ (Below.refl w6.heap.size w6).alloc (Nat.le_refl _) _
      have hs7 : w7.heap[rb]? = some (.cells #[.int .i64 1, .int .i64 want, .int .i64 0, .slice rad (if want = 0 then [readRes T ⟨xp, xd, xv, xm, xc, xo, xn⟩ k] else []).length rcc] 31 (0, 0)) := by rw [← hw7, ← hrb]; exact heap_alloc_new w6 _
      have hA := HH.out.after ((Below.refl wr.heap.size wr).alloc (Nat.le_refl _) (.cells (readOp k at_ ver).cells.toArray 50 (0, 0)))
      have hH6 : Held w p T (.slice nad T.length ncc) sb ⟨xp, xd, xv, xm, xc, xo, xn⟩ w6 := ⟨hT6.out, (hkp.out _ (by decide)).own hA.own, (hkp.out _ (by decide) _ _ hA.box).trans hA.box⟩
      have hH7 := hH6.after hb7
      have hres7 := hres.out.keep (Keeps.below hb7) (Keeps.below hb7)
      try rw [hrb]
      have HS7 := Lib.hid hs7
      have HH7 := Lib.hid hH7
      have HRes := Lib.hid hres7
      clear hw7 hb7 hs7 hA hH6 hH7 hres7 hrb hres hT6 hkp hplay hpw HH
      go_upto_block 2 with fail
      go_cut [16] from 49 to 68 (fun s16 wd => s16 = .int .i64 want ∧ wd = w7)
      case first =>
        have hw := HWant.out
        unfold wantRead at hw
        by_cases h1 : pc ≠ 0
        · rw [if_pos h1] at hw
          subst hw
          have t1 : (pc == 0) = false := by simpa using h1
          go_wp2_with (go_at_call 17; refine (num_any _ _).mono ?_; rintro e w' ⟨rfl, rfl⟩)
          go_meet
          case rel => exact ⟨rfl, rfl⟩
        · rw [if_neg h1] at hw
          have t1 : (pc == 0) = true := by simpa using h1
          cases is
          · rw [if_pos rfl] at hw
            subst hw
            go_wp2_with (go_at_call 17; refine (num_any _ _).mono ?_; rintro e w' ⟨rfl, rfl⟩)
            go_meet
            case rel => exact ⟨rfl, rfl⟩
          · rw [if_neg (by decide)] at hw
            have hbox := cell_of_row w7 sb 2 _ _ _ HH7.out.box
            simp only [Node.cells, List.getElem?_toArray, List.getElem?_cons_succ, List.getElem?_cons_zero] at hbox
            rcases Bool.eq_false_or_eq_true (k == 4) with t2 | t2
            · by_cases t3 : ver = -1
              · rw [if_neg (by omega)] at hw
                subst hw
                subst t3
                go_wp2_with (go_at_call 17; refine (num_any _ _).mono ?_; rintro e w' ⟨rfl, rfl⟩)
                go_meet
                case rel => exact ⟨rfl, rfl⟩
              · have t5 : (ver != -1) = true := by simpa using t3
                rcases Bool.eq_false_or_eq_true (ver != xv) with t4 | t4
                · rw [if_pos (by simp at t2 t4; exact ⟨t2, t3, t4⟩)] at hw
                  subst hw
                  go_wp2_with (go_at_call 17; refine (num_any _ _).mono ?_; rintro e w' ⟨rfl, rfl⟩)
                  go_meet
                  case rel => exact ⟨rfl, rfl⟩
                · rw [if_neg (by simp at t4; omega)] at hw
                  subst hw
                  go_wp2_with (go_at_call 17; refine (num_any _ _).mono ?_; rintro e w' ⟨rfl, rfl⟩)
                  go_meet
                  case rel => exact ⟨rfl, rfl⟩
            · rw [if_neg (by simp at t2; omega)] at hw
              subst hw
              go_wp2_with (go_at_call 17; refine (num_any _ _).mono ?_; rintro e w' ⟨rfl, rfl⟩)
              go_meet
              case rel => exact ⟨rfl, rfl⟩
      case rest =>
        obtain ⟨rfl, rfl⟩ := hcut
        have q1 := cell_of_row wc rb 1 _ _ _ HS7.out
        have q3 := cell_of_row wc rb 3 _ _ _ HS7.out
        simp only [List.getElem?_toArray, List.getElem?_cons_succ, List.getElem?_cons_zero] at q1 q3
        by_cases h0 : want = 0
        · subst h0
          obtain ⟨r, hr⟩ : ∃ r, readRes T ⟨xp, xd, xv, xm, xc, xo, xn⟩ k = r := ⟨_, rfl⟩
          have hres := HRes.out
          rw [if_pos rfl] at hres q3
          obtain ⟨ks, hks, hrow, hkids, _⟩ := hres
          obtain ⟨kv, rfl⟩ : ∃ kv, ks = [kv] := by
            match ks, hks with
            | [kv], _ => exact ⟨kv, rfl⟩
          have hkid := hkids 0 _ kv rfl rfl
          obtain ⟨rg, rcap, er, _, _⟩ := hrow.form (by simp)
          cases er
          simp only [List.length_singleton] at q3 hrow
          have hcell := fun j u hu => (hrow.cells (g := rg) rfl j u hu)
          have hread := read_any wc.drew (((HH7.out.now.env HE.out)).after (Below.refl _ _).drew) w.heap.size _ (.slice nad T.length ncc) T (HH7.out.after (Below.refl _ _).drew).own HG.out ⟨xp, xd, xv, xm, xc, xo, xn⟩ k kv (Keeps.own (Keeps.drew wc) hkid)
          rw [hr] at hread hcell hkid
          have HR := Lib.hid hr
          clear hr hkid hkids hks hrow
          obtain ⟨r1, r2, r3, r4, r5, r6, r7⟩ := r
          simp only [Res.val, Node.val, Node.cells] at hread
          have hc : ∀ j u, ([.string r1, .string r2, .int .i64 r3, .int .i64 r4, .int .i64 r5, .int .i64 r6, kv] : List Value)[j]? = some u → wc.cell? ⟨rg, j, none⟩ = some u := fun j u hu => by
            have := hcell j u (by simpa [Res.row] using hu)
            rwa [add_off] at this
          have x0 := hc 0 _ rfl
          have x1 := hc 1 _ rfl
          have x2 := hc 2 _ rfl
          have x3 := hc 3 _ rfl
          have x4 := hc 4 _ rfl
          have x5 := hc 5 _ rfl
          have x6 := hc 6 _ rfl
          have hy := fun j => cell_of_row wc sb j _ _ _ HH7.out.box
          have y0 := hy 0
          have y1 := hy 1
          have y2 := hy 2
          have y3 := hy 3
          have y4 := hy 4
          have y5 := hy 5
          have y6 := hy 6
          simp only [Node.cells, List.getElem?_toArray, List.getElem?_cons_succ, List.getElem?_cons_zero] at y0 y1 y2 y3 y4 y5 y6
          clear hc hy hcell
          go_upto_region 20 with (go_at_call 17; refine (num_any _ _).mono ?_; rintro e w' ⟨rfl, rfl⟩)
          go_still_tail 15, (by kernel_rfl)
          change wpList _ _ _ _ _ (World.drew wc)
          go_wp2_with (go_at_call 18; refine hread.mono ?_; rintro e w8 ⟨rfl, hb8⟩; replace hb8 := Lib.hid hb8)
          go_roundg (gk - 1)
          case measure => have := HKg.out; omega
          case rel => exact ⟨k + 1, by go_num, by omega, by have := HKg.out; omega, (HH7.out.after (Below.refl _ _).drew).after hb8.out⟩
        · have t0 : (want == 0) = false := by simpa using h0
          clear q3
          go_upto_region 20 with (go_at_call 17; refine (num_any _ _).mono ?_; rintro e w' ⟨rfl, rfl⟩)
          go_quiet (fail)
          simp only [Exit.then]
          go_step
          go_wp2_with fail
          go_roundg (gk - 1)
          case measure => have := HKg.out; omega
          case rel => exact ⟨k + 1, by go_num, by omega, by have := HKg.out; omega, HH7.out.after ⟨rfl, rfl, rfl, Nat.le_refl _, fun _ _ => rfl⟩⟩
      --]
    · --[
      have hge : ¬ k ≤ 7 := hk7
      have hnodes := Nodes_now w p T wr HH.out.now
      go_upto_region 23 with (go_at_call 11; refine hnodes.mono ?_; rintro e w7 ⟨mv, rfl, ho7, hb7, hT7⟩; obtain ⟨mad, mcc, rfl, _⟩ := own_form ho7; replace ho7 := Lib.hid ho7; replace hb7 := Lib.hid hb7; replace hT7 := Lib.hid hT7)
      have hsm := same_same w7 w.heap.size wr.heap.size _ _ T (own_after HH.out.own hb7.out) ho7.out (by omega)
      have hkn := fun m => known_any (w7.drewN m) ((hT7.out.env HE.out).after ⟨rfl, rfl, rfl, Nat.le_refl _, fun _ _ => rfl⟩)
      clear hnodes
      go_wp2_with (first
        | (go_at_call 19; refine hsm.mono ?_; rintro e w8 ⟨rfl, m, rfl⟩)
        | (go_at_call 13; refine (hkn _).mono ?_; rintro e w9 ⟨rfl, hb9⟩; replace hb9 := Lib.hid hb9))
      go_ret
      have hb8 : Below w.heap.size w (w7.drewN m) := hT7.out.2.2.1.trans ⟨rfl, rfl, rfl, Nat.le_refl _, fun _ _ => rfl⟩
      exact ⟨rfl, hb8.trans (hb9.out.mono hb8.size)⟩
      --]
end Go.Proofs.YtpmlfpmedbccaaaDoor
