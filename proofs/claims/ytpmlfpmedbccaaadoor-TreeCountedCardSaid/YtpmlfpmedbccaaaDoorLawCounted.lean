/- The law TreeCounted, walked: counted makes below one place rise one by one, whatever is dropped or refused between them. -/
import Derived.Test.YtpmlfpmedbccaaaDoorJoin
import Derived.Test.YtpmlfpmedbccaaaDoorLawReads
import Derived.IntWalk
namespace Go.Proofs.YtpmlfpmedbccaaaDoor
open Go.RowKit
attribute [local go_sem ↓] Go.wp_at_zero Go.wp_at_succ

/-- Whole numbers in memory, one behind the other. -/
def IntsAt (w : World) (v : Value) (zs : List Int) : Prop :=
  ∃ a c, v = .slice a zs.length c ∧ zs.length ≤ maxLen ∧ (zs ≠ [] → ∃ ad, a = some ad ∧ ∀ (k : Nat) z, zs[k]? = some z → w.cell? (ad.add k) = some (.int .i64 z))
/-- What TreeCounted holds at a step. -/
def CountAt (w : World) (p : Nat) (P : List UInt8) (i j : Nat) (last : ByteArray) (wr : World) : Prop :=
  last ≠ qAt ∧ last.size ≤ maxLen ∧ j ≤ i ∧ ∃ T, CountTree P j i T ∧ TreeNow w p T wr
theorem joinQ_size (b : ByteArray) : (⟨(joinQ b).1.toArray⟩ : ByteArray).size ≤ maxLen := by
  unfold joinQ
  by_cases hn : isName b.data.toList = true
  · rw [if_pos hn]
    have h1 := join_len [[113], b.data.toList] (fun x hx => by
      rcases List.mem_cons.1 hx with rfl | hx
      · decide
      · rw [List.mem_singleton] at hx; rw [hx]; exact (isName_len hn).2)
    have h2 : (⟨(joined [[113], b.data.toList]).toArray⟩ : ByteArray).size = (joined [[113], b.data.toList]).length := by
      show (joined [[113], b.data.toList]).toArray.size = _
      simp
    show (⟨(joined [[113], b.data.toList]).toArray⟩ : ByteArray).size ≤ maxLen
    rw [h2]
    unfold joined
    simp only [List.length_cons, List.length_nil, maxLen] at h1 ⊢
    omega
  · rw [if_neg hn]
    show 0 ≤ maxLen
    omega
theorem ops_two {w : World} {g : Nat} {o1 o2 : OpV} (h : w.heap[g]? = some (.cells (o1.cells ++ o2.cells).toArray 50 (0, 0))) (h1 : o1.place.size ≤ maxLen) (h2 : o2.place.size ≤ maxLen) : OpsAt w (.slice (some ⟨g, 0, none⟩) 2 2) [o1, o2] := by
  refine ⟨some ⟨g, 0, none⟩, 2, rfl, by simp [h1, h2], fun _ => ⟨⟨g, 0, none⟩, rfl, ?_⟩⟩
  intro k o hk j u hu
  have hl : o.cells.length = 5 := rfl
  have hj := (List.getElem?_eq_some_iff.1 hu).1
  rw [hl] at hj
  cases k with
  | zero =>
    simp at hk
    subst hk
    rw [Nat.zero_mul, add_off, add_off, cell_of_row w g j _ _ _ h, List.getElem?_toArray, List.getElem?_append_left (by rw [hl]; exact hj)]
    exact hu
  | succ k =>
    cases k with
    | succ k => simp at hk
    | zero =>
      simp at hk
      subst hk
      rw [add_off, Addr.add_lit, cell_of_row w g _ _ _ _ h, List.getElem?_toArray, List.getElem?_append_right (by show 5 ≤ _; omega)]
      rw [show (0 + 1) * 5 + j - o1.cells.length = j from by show (0 + 1) * 5 + j - 5 = j; omega]
      exact hu
set_option maxRecDepth 100000 in
set_option maxHeartbeats 4000000 in
theorem TreeCounted_any (w : World) (he : Env w) (b : ByteArray) (hb : b.size ≤ maxLen) (v : Value) (zs : List Int) (hz : IntsAt w v zs) : Calls Tryd.prog 6 #[.string b, v] w (LawPost w) := by
  have HE := Lib.hid he
  have HB := Lib.hid hb
  obtain ⟨a, c, rfl, hmax, hzs⟩ := hz
  have HZ := Lib.hid hzs
  have HMax := Lib.hid hmax
  have hnew := New_now w
  clear he hb hzs hmax
  go_enter Tryd.func6, Tryd.ntmps6
  go_upto_region 4 with (go_at_call 8; refine hnew.mono ?_; rintro e w1 ⟨p, rfl, hN1⟩; replace hN1 := Lib.hid hN1)
  obtain ⟨res0, chg0, hp0, hstart⟩ := count_start
  have hplay := Play_now w p _ _ (hN1.out.after ((Below.refl w1.heap.size w1).alloc (Nat.le_refl _) (.cells (makeOp qAt 0).cells.toArray 50 (0, 0)))) HE.out 1 1 _ _ (ops_one (heap_alloc_new w1 _) (by show 2 ≤ maxLen; decide))
  rw [hp0] at hplay
  unfold PlayNow replyVal replyCells at hplay
  simp only [] at hplay
  have HStart := Lib.hid hstart
  clear hp0 hstart hnew
  go_upto_region 5 with (go_at_call 9; refine hplay.mono ?_; rintro e w2 ⟨rv, cv, rfl, hres, hcv, hT2, _, _⟩; obtain ⟨rad, rcc, hrv, _⟩ := own_form hres.own.choose_spec; subst hrv; obtain ⟨cad, ccc, hcv', _⟩ := own_form hcv; subst hcv'; clear hcv hres; replace hT2 := Lib.hid hT2)
  obtain ⟨rb, hrb⟩ : ∃ rb, w2.heap.size = rb := ⟨_, rfl⟩
  generalize hw3 : World.alloc w2 (Obj.cells _ _) = w3
  have hb3 : Below w2.heap.size w2 w3 := hw3 ▸ (Below.refl w2.heap.size w2).alloc (Nat.le_refl _) _
  have hs3 : w3.heap[rb]? = some (.cells #[.int .i64 1, .int .i64 0, .int .i64 0, .slice rad 1 rcc] 31 (0, 0)) := by rw [← hw3, ← hrb]; exact heap_alloc_new w2 _
  have HT3 := Lib.hid (hT2.out.after hb3)
  try rw [hrb]
  have HS3 := Lib.hid hs3
  clear hw3 hb3 hs3 hrb hT2 hplay
  have hb4 : Below w3.heap.size w3 (w3.alloc (.cells #[.string b] 9 (0, 0))) := (Below.refl _ _).alloc (Nat.le_refl _) _
  have hjoin := join_any b (w3.alloc (.cells #[.string b] 9 (0, 0))) ((HT3.out.env HE.out).after hb4) HB.out w3.heap.size (by rw [cell_of_row _ _ _ _ _ _ (heap_alloc_new w3 _)]; rfl)
  unfold ParentPost at hjoin
  have hform := joinQ_form b
  have hps := joinQ_size b
  obtain ⟨⟨jp, je⟩, hjq⟩ : ∃ q, joinQ b = q := ⟨_, rfl⟩
  rw [hjq] at hjoin hform hps
  obtain ⟨P, hP⟩ : ∃ P : ByteArray, (⟨jp.toArray⟩ : ByteArray) = P := ⟨_, rfl⟩
  simp only [] at hjoin hform hps
  rw [hP] at hjoin hform hps
  have HForm := Lib.hid hform
  have HPs := Lib.hid hps
  have HB4 := Lib.hid hb4
  clear hjq hP hform hb4 hps
  go_upto_region 6 with (go_at_call 20; refine hjoin.mono ?_; rintro e w5 ⟨rfl, hb5⟩; replace hb5 := Lib.hid hb5)
  have hb35 := HB4.out.trans (hb5.out.mono HB4.out.size)
  have HT5 := Lib.hid (HT3.out.after hb35)
  have hq1 := cell_of_row w5 rb 1 _ _ _ ((hb35.block _ (Array.getElem?_eq_some_iff.1 HS3.out).1).trans HS3.out)
  simp only [List.getElem?_toArray, List.getElem?_cons_succ, List.getElem?_cons_zero] at hq1
  have hA : CountAt w p P.data.toList 0 0 ⟨#[]⟩ w5 := ⟨by decide, by show 0 ≤ maxLen; decide, Nat.le_refl _, _, HStart.out _ (fun i hi => counted_apart hi), HT5.out⟩
  have HA := Lib.hid hA
  clear hA hb35 hjoin HS3 HT3 HT5 hb5 HB4 HStart
  go_wp2_with (go_at_call 17; refine (num_any _ _).mono ?_; rintro e w' ⟨rfl, rfl⟩)
  go_simp
  go_loopg [10, 11, 12] zs.length (fun gg s10 s11 s12 wr => ∃ (i j : Nat) (last : ByteArray), s12 = .int .i64 i ∧ i + gg = zs.length ∧ s10 = .int .i64 j ∧ s11 = .string last ∧ CountAt w p P.data.toList i j last wr)
  case atStart => exact ⟨0, 0, _, rfl, by omega, rfl, rfl, HA.out⟩
  case round =>
    obtain ⟨i, j, last, rfl, hig, rfl, rfl, hlq, hlm, hji, T, hC, hN⟩ := hrel
    have HIg := Lib.hid hig
    have HC := Lib.hid hC
    have HN := Lib.hid hN
    have HLq := Lib.hid hlq
    have HLm := Lib.hid hlm
    have HJi := Lib.hid hji
    have hmx := HMax.out
    simp only [maxLen] at hmx
    clear hig hC hN hlq hlm HA
    by_cases hgo : i < zs.length ∧ i < 60
    · --[
      obtain ⟨hlt, h60⟩ := hgo
      obtain ⟨z, hz⟩ : ∃ z, zs[i]? = some z := ⟨_, List.getElem?_eq_getElem hlt⟩
      obtain ⟨ad, rfl, hcell⟩ := HZ.out (by intro e; rw [e] at hlt; exact absurd hlt (by simp))
      have hc := (HN.out.2.2.1.cell (World.block_lt_of_cell? w _ (hcell i z hz))).trans (hcell i z hz)
      have i1 : (i : Int) < (zs.length : Int) := by omega
      have i2 : (i : Int) < 60 := by omega
      have i0 : (0 : Int) ≤ (i : Int) := by omega
      clear hcell hz
      go_upto_block 2 with fail
      rcases Bool.eq_false_or_eq_true (z == 0) with z0 | z0
      · --( drop
        have hplay := Play_now w p T _ (HN.out.after ((Below.refl wr.heap.size wr).alloc (Nat.le_refl _) (.cells (dropOp last (-1)).cells.toArray 50 (0, 0)))) HE.out 1 2 _ _ (ops_one (heap_alloc_new wr _) HLm.out)
        go_wp2_with (go_at_call 9; refine hplay.mono ?_; rintro e w2 ⟨rv, cv, rfl, _, _, hT2, _, _⟩; replace hT2 := Lib.hid hT2)
        go_roundg (gk - 1)
        case measure => have := HIg.out; omega
        case rel => exact ⟨i + 1, j, last, by go_num, by have := HIg.out; omega, rfl, rfl, HLq.out, HLm.out, by have := HJi.out; omega, _, count_drop HC.out HLq.out, hT2.out⟩
      rcases Bool.eq_false_or_eq_true (z == 1) with z1 | z1
      · --( refused
        have hplay := Play_now w p T _ (HN.out.after ((Below.refl wr.heap.size wr).alloc (Nat.le_refl _) (.cells ((makeOp P 2).cells ++ (dropOp ⟨#[47]⟩ 0).cells).toArray 50 (0, 0)))) HE.out 1 2 _ _ (ops_two (heap_alloc_new wr _) HPs.out (by show 1 ≤ maxLen; decide))
        obtain ⟨m, hm⟩ : ∃ m, playOf 1 2 T [makeOp P 2, dropOp ⟨#[47]⟩ 0] = m := ⟨_, rfl⟩
        have htw := count_twice T P
        rw [hm] at hplay htw
        obtain ⟨mc, ma, mr, mg, mT⟩ := m
        obtain ⟨hm0, hmT⟩ := htw
        simp only [] at hm0 hmT
        subst hmT
        unfold PlayNow replyVal replyCells at hplay
        simp only [] at hplay
        clear hm
        go_upto_region 27 with (go_at_call 9; refine hplay.mono ?_; rintro e w2 ⟨rv, cv, rfl, hres, hcv, hT2, _, _⟩; obtain ⟨rad2, rcc2, hrv, _⟩ := own_form hres.own.choose_spec; subst hrv; obtain ⟨cad2, ccc2, hcv', _⟩ := own_form hcv; subst hcv'; clear hcv hres; replace hT2 := Lib.hid hT2)
        have m0 : (mc == 0) = false := by simpa using hm0
        generalize hw3 : World.alloc w2 (Obj.cells _ _) = w3
        have hb3 : Below w2.heap.size w2 w3 := hw3 ▸ (Below.refl w2.heap.size w2).alloc (Nat.le_refl _) _
        have hq := cell_of_row w3 w2.heap.size 1 #[.int .i64 2, .int .i64 mc, .int .i64 ma, .slice rad2 mr.length rcc2] 31 (0, 0) (by rw [← hw3]; exact heap_alloc_new w2 _)
        simp only [List.getElem?_toArray, List.getElem?_cons_succ, List.getElem?_cons_zero] at hq
        have HT3 := Lib.hid (hT2.out.after hb3)
        clear hw3 hb3 hplay hT2
        go_wp2_with (go_at_call 17; refine (num_any _ _).mono ?_; rintro e w' ⟨rfl, rfl⟩)
        go_roundg (gk - 1)
        case measure => have := HIg.out; omega
        case rel => exact ⟨i + 1, j, last, by go_num, by have := HIg.out; omega, rfl, rfl, HLq.out, HLm.out, by have := HJi.out; omega, _, HC.out.still, HT3.out⟩
      rcases Bool.eq_false_or_eq_true (z == 2) with z2 | z2
      · --( plain
        have hplay := Play_now w p T _ (HN.out.after ((Below.refl wr.heap.size wr).alloc (Nat.le_refl _) (.cells (makeOp plainAt 0).cells.toArray 50 (0, 0)))) HE.out 1 2 _ _ (ops_one (heap_alloc_new wr _) (by show 8 ≤ maxLen; decide))
        go_wp2_with (go_at_call 9; refine hplay.mono ?_; rintro e w2 ⟨rv, cv, rfl, _, _, hT2, _, _⟩; replace hT2 := Lib.hid hT2)
        go_roundg (gk - 1)
        case measure => have := HIg.out; omega
        case rel => exact ⟨i + 1, j, last, by go_num, by have := HIg.out; omega, rfl, rfl, HLq.out, HLm.out, by have := HJi.out; omega, _, count_plain HC.out, hT2.out⟩
      · --( counted
        have hcnt := counted_any P j wr (HN.out.env HE.out) HPs.out
        unfold ParentPost at hcnt
        have hji := HJi.out
        have hmk : (je = 0 ∧ (counted P.data.toList j).2 = 0 → ∃ res T' chg, playOf 1 2 T [makeOp P 2] = ⟨0, 0, [res], chg, T'⟩ ∧ res.place = ⟨(counted P.data.toList j).1.toArray⟩ ∧ CountTree P.data.toList (j + 1) (i + 1) T') := fun ⟨h1, h2⟩ => by
          rcases HForm.out with ⟨h, _⟩ | ⟨_, bb, hb1, hb2⟩
          · exact absurd h1 h
          · exact count_make HC.out h60 hji hb1 hb2 h2
        have hbd : (je ≠ 0 ∨ (counted P.data.toList j).2 ≠ 0) → ∃ code, code ≠ 0 ∧ playOf 1 2 T [makeOp P 2] = ⟨code, 0, [], [], T⟩ := fun h => by
          obtain ⟨code, h0, hs⟩ := count_bad (T := T) HForm.out (by omega) h
          exact ⟨code, h0, by rw [play_one 1 2 T _ nums12, hs, if_pos (by exact h0)]; rfl⟩
        have hap : (counted P.data.toList j).2 = 0 → (⟨(counted P.data.toList j).1.toArray⟩ : ByteArray) ≠ qAt ∧ (⟨(counted P.data.toList j).1.toArray⟩ : ByteArray).size ≤ maxLen := fun h => by
          refine ⟨fun e => (counted_apart h).1 (by rw [← e]), ?_⟩
          have h2 := (counted_parent h).2
          have h3 : ¬ 102 < (counted P.data.toList j).1.length := fun h3 => by
            unfold parse at h2
            rw [if_pos h3] at h2
            cases h2
          show (counted P.data.toList j).1.toArray.size ≤ maxLen
          simp only [maxLen, List.size_toArray]
          omega
        obtain ⟨⟨cp, cf⟩, hcq⟩ : ∃ q, counted P.data.toList j = q := ⟨_, rfl⟩
        rw [hcq] at hcnt hmk hbd hap
        obtain ⟨wt, hwt⟩ : ∃ wt : ByteArray, (⟨cp.toArray⟩ : ByteArray) = wt := ⟨_, rfl⟩
        simp only [] at hcnt hmk hbd hap
        rw [hwt] at hcnt hmk hap
        have HMk := Lib.hid hmk
        have HBd := Lib.hid hbd
        have HAp := Lib.hid hap
        clear hcq hwt hmk hbd hap
        go_upto_region 15 with (go_at_call 21; refine hcnt.mono ?_; rintro e w2 ⟨rfl, hb2⟩; replace hb2 := Lib.hid hb2)
        have HN2 := Lib.hid (HN.out.after hb2.out)
        have hplay := Play_now w p T _ (HN2.out.after ((Below.refl w2.heap.size w2).alloc (Nat.le_refl _) (.cells (makeOp P 2).cells.toArray 50 (0, 0)))) HE.out 1 2 _ _ (ops_one (heap_alloc_new w2 _) HPs.out)
        by_cases hgd : je = 0 ∧ cf = 0
        · obtain ⟨res, T', chg, hpl, hrp, hCT⟩ := HMk.out hgd
          rw [hpl] at hplay
          unfold PlayNow replyVal replyCells at hplay
          simp only [] at hplay
          obtain ⟨rp, rd, rv, rm, rc, ro, rk⟩ := res
          simp only [] at hrp
          subst hrp
          have HCT := Lib.hid hCT
          clear hpl hCT
          obtain ⟨rfl, rfl⟩ := hgd
          go_upto_region 16 with (go_at_call 9; refine hplay.mono ?_; rintro e w3 ⟨rv3, cv3, rfl, hres, hcv, hT3, _, _⟩; obtain ⟨ks, hks, hrow, _, _⟩ := hres; obtain ⟨rg, rcap, er, _, _⟩ := hrow.form (by simp); subst er; obtain ⟨cad3, ccc3, hcv', _⟩ := own_form hcv; subst hcv'; clear hcv; replace hT3 := Lib.hid hT3)
          obtain ⟨kv, rfl⟩ : ∃ kv, ks = [kv] := by
            match ks, hks with
            | [kv], _ => exact ⟨kv, rfl⟩
          have hcell := hrow.cells (g := rg) rfl 0 (.string rp) rfl
          rw [add_off] at hcell
          generalize hw4 : World.alloc w3 (Obj.cells _ _) = w4
          have hb4 : Below w3.heap.size w3 w4 := hw4 ▸ (Below.refl w3.heap.size w3).alloc (Nat.le_refl _) _
          have hs4 : w4.heap[w3.heap.size]? = some (.cells #[.int .i64 2, .int .i64 0, .int .i64 0, .slice (some ⟨rg, 0, none⟩) 1 rcap] 31 (0, 0)) := by rw [← hw4]; exact heap_alloc_new w3 _
          have q1 := cell_of_row w4 w3.heap.size 1 _ _ _ hs4
          have q3 := cell_of_row w4 w3.heap.size 3 _ _ _ hs4
          simp only [List.getElem?_toArray, List.getElem?_cons_succ, List.getElem?_cons_zero] at q1 q3
          replace hcell := (hb4.cell (World.block_lt_of_cell? w3 _ hcell)).trans hcell
          have HT4 := Lib.hid (hT3.out.after hb4)
          clear hw4 hb4 hs4 hrow hks hplay hT3
          go_wp2_with (go_at_call 17; refine (num_any _ _).mono ?_; rintro e w' ⟨rfl, rfl⟩)
          go_roundg (gk - 1)
          case measure => have := HIg.out; omega
          case rel => exact ⟨i + 1, j + 1, rp, by go_num, by have := HIg.out; omega, by go_num, rfl, (HAp.out (by trivial)).1, (HAp.out (by trivial)).2, by omega, _, HCT.out, HT4.out⟩
        · obtain ⟨code, hc0, hpl⟩ := HBd.out (by omega)
          rw [hpl] at hplay
          unfold PlayNow replyVal replyCells at hplay
          simp only [] at hplay
          have m0 : (code == 0) = false := by simpa using hc0
          clear hpl
          go_upto_region 16 with (go_at_call 9; refine hplay.mono ?_; rintro e w3 ⟨rv3, cv3, rfl, hres, hcv, hT3, _, _⟩; obtain ⟨rad3, rcc3, hrv, _⟩ := own_form hres.own.choose_spec; subst hrv; obtain ⟨cad3, ccc3, hcv', _⟩ := own_form hcv; subst hcv'; clear hcv hres; replace hT3 := Lib.hid hT3)
          generalize hw4 : World.alloc w3 (Obj.cells _ _) = w4
          have hb4 : Below w3.heap.size w3 w4 := hw4 ▸ (Below.refl w3.heap.size w3).alloc (Nat.le_refl _) _
          have hq := cell_of_row w4 w3.heap.size 1 #[.int .i64 2, .int .i64 code, .int .i64 0, .slice rad3 0 rcc3] 31 (0, 0) (by rw [← hw4]; exact heap_alloc_new w3 _)
          simp only [List.getElem?_toArray, List.getElem?_cons_succ, List.getElem?_cons_zero] at hq
          have HT4 := Lib.hid (hT3.out.after hb4)
          clear hw4 hb4 hplay hT3
          by_cases hj0 : je = 0
          · have k0 : (cf == 0) = false := by simp; exact fun h => hgd ⟨hj0, h⟩
            subst hj0
            go_wp2_with (go_at_call 17; refine (num_any _ _).mono ?_; rintro e w' ⟨rfl, rfl⟩)
            go_roundg (gk - 1)
            case measure => have := HIg.out; omega
            case rel => exact ⟨i + 1, j, last, by go_num, by have := HIg.out; omega, rfl, rfl, HLq.out, HLm.out, by have := HJi.out; omega, _, HC.out.still, HT4.out⟩
          · have k0 : (je == 0) = false := by simpa using hj0
            go_wp2_with (go_at_call 17; refine (num_any _ _).mono ?_; rintro e w' ⟨rfl, rfl⟩)
            go_roundg (gk - 1)
            case measure => have := HIg.out; omega
            case rel => exact ⟨i + 1, j, last, by go_num, by have := HIg.out; omega, rfl, rfl, HLq.out, HLm.out, by have := HJi.out; omega, _, HC.out.still, HT4.out⟩
      --]
    · --[
      have hkn := known_any wr (HN.out.env HE.out)
      rcases Decidable.not_and_iff_or_not.1 hgo with h | h
      · have hge : ¬ (i : Int) < (zs.length : Int) := by omega
        go_wp2_with (go_at_call 13; refine hkn.mono ?_; rintro e w8 ⟨rfl, hb8⟩; replace hb8 := Lib.hid hb8)
        go_ret
        exact ⟨rfl, HN.out.2.2.1.trans (hb8.out.mono HN.out.2.2.1.size)⟩
      · by_cases h1 : i < zs.length
        · have i1 : (i : Int) < (zs.length : Int) := by omega
          have hge : ¬ (i : Int) < 60 := by omega
          go_wp2_with (go_at_call 13; refine hkn.mono ?_; rintro e w8 ⟨rfl, hb8⟩; replace hb8 := Lib.hid hb8)
          go_ret
          exact ⟨rfl, HN.out.2.2.1.trans (hb8.out.mono HN.out.2.2.1.size)⟩
        · have hge : ¬ (i : Int) < (zs.length : Int) := by omega
          go_wp2_with (go_at_call 13; refine hkn.mono ?_; rintro e w8 ⟨rfl, hb8⟩; replace hb8 := Lib.hid hb8)
          go_ret
          exact ⟨rfl, HN.out.2.2.1.trans (hb8.out.mono HN.out.2.2.1.size)⟩
      --]
end Go.Proofs.YtpmlfpmedbccaaaDoor
