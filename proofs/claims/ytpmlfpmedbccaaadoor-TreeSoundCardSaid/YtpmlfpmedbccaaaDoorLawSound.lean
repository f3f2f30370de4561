/- The law TreeSound, walked: every tree that a script makes is sound. -/
import Derived.Test.YtpmlfpmedbccaaaDoorSteps
import Derived.IntWalk
namespace Go.Proofs.YtpmlfpmedbccaaaDoor
open Go.RowKit
attribute [local go_sem ↓] Go.wp_at_zero Go.wp_at_succ

/-! ### sound -/
def RowAt (w0 : World) (T : List Node) (g n cc : Nat) (wr : World) : Prop := wr.ownsRow w0.heap.size 43 7 (.slice (some ⟨g, 0, none⟩) n cc) T.length (T.flatMap Node.cells)
def aboveIn (T : List Node) (up : List UInt8) (k : Nat) : Bool := (T.take k).any fun y => decide (y.at = up) && decide (y.owner = 0)
theorem aboveIn_zero (T : List Node) (up : List UInt8) : aboveIn T up 0 = false := by simp [aboveIn]
theorem aboveIn_succ {T : List Node} {up : List UInt8} {k : Nat} {y : Node} (hy : T[k]? = some y) : aboveIn T up (k + 1) = (aboveIn T up k || (decide (y.at = up) && decide (y.owner = 0))) := by
  unfold aboveIn
  rw [List.take_add_one, hy, List.any_append]
  simp
theorem Good.aboveIn {T : List Node} (h : Good T) {i : Nat} (hi : i < T.length) (h0 : 0 < i) : aboveIn T (parent T[i].at).1 i = true := by
  obtain ⟨_, k, hk, e, o⟩ := h.above hi h0
  unfold Proofs.YtpmlfpmedbccaaaDoor.aboveIn
  rw [List.any_eq_true]
  refine ⟨T[k], ?_, by simp [e, o]⟩
  rw [List.mem_take_iff_getElem]
  exact ⟨k, by omega, rfl⟩
theorem num_same (n : Int) (w : World) : Calls Tryd.prog 17 #[.int .i64 n] w fun e w' => e = .returned (.int .i64 n) ∧ w' = w := (num_any n w).mono fun _ _ h => ⟨h.1, h.2.symm⟩
set_option maxRecDepth 100000 in
set_option maxHeartbeats 2000000 in
theorem sound_any (W : World) (base : Nat) (v : Value) (T : List Node) (hv : W.ownsRow base 43 7 v T.length (T.flatMap Node.cells)) (hG : Good T) (he : Env W) :
    Calls Tryd.prog 12 #[v] W fun e w' => e = .returned (.bool true) ∧ Below W.heap.size W w' := by
  have hpos := hG.pos
  have hfew := hG.few
  obtain ⟨x0, hx0, hfa, hfo⟩ : ∃ x0, T[0]? = some x0 ∧ x0.at = [47] ∧ x0.owner = 0 := ⟨T[0]'hG.pos, List.getElem?_eq_getElem hG.pos, hG.first.1, hG.first.2⟩
  obtain ⟨g, cap, rfl, _, _⟩ := hv.form hpos
  have h0 := NodeRow.of (k := 0) hv hx0
  have HV := Lib.hid hv
  have HG := Lib.hid hG
  have HE := Lib.hid he
  clear hv hG he
  obtain ⟨a0, a1, a2, a3, a4, a5, a6⟩ := h0
  rw [Nat.zero_mul] at a0
  rw [Nat.zero_mul, hfo] at a5
  have hp0 : x0.place = ⟨#[47]⟩ := str_inj hfa
  rw [hp0] at a0
  simp only [Nat.zero_add] at a5
  have l1 : decide ((T.length : Int) < 1) = false := by simp; omega
  have l2 : decide ((64 : Int) < (T.length : Int)) = false := by simp; omega
  clear hfa hfo hx0 hp0 a1 a2 a3 a4 a6
  go_enter Tryd.func12, Tryd.ntmps12
  go_wp2_with fail
  go_simp
  go_loopg [3] (T.length - 1) (fun gg s3 wr => ∃ j : Nat, s3 = .int .i64 ((j : Int) + 1) ∧ j + 1 + gg = T.length ∧ Below W.heap.size W wr)
  case atStart => exact ⟨0, by simp, by omega, Below.refl _ _⟩
  case round =>
    obtain ⟨j, rfl, hjg, hb⟩ := hrel
    obtain ⟨gq, hgq⟩ : ∃ gq, gq = gk := ⟨_, rfl⟩
    have HGq := Lib.hid hgq
    clear hgq
    have HJg := Lib.hid hjg
    have HB := Lib.hid hb
    have hx0 : j + 1 ≤ T.length := by omega
    clear hjg hb
    by_cases hlt : j + 1 < T.length
    · --[
      have hv := HV.out.kept (below_none HB.out) (by cases (Value.slice (some ⟨g, 0, none⟩) T.length cap).ownBlock <;> simp)
      obtain ⟨x, hx⟩ : ∃ x, T[j + 1]? = some x := ⟨_, List.getElem?_eq_getElem hlt⟩
      obtain ⟨y, hy⟩ : ∃ y, T[j]? = some y := ⟨_, List.getElem?_eq_getElem (by omega)⟩
      have hxe : T[j + 1] = x := (List.getElem?_eq_some_iff.1 hx).2
      have hye : T[j]'(by omega) = y := (List.getElem?_eq_some_iff.1 hy).2
      have hnx := NodeRow.of (k := j + 1) hv hx
      have hny := NodeRow.of (k := j) hv hy
      have hab := HG.out.above hlt (by omega)
      have hin := HG.out.aboveIn hlt (by omega)
      have hso := sorted_get HG.out.sorted hlt (Nat.lt_succ_self j)
      rw [hxe] at hab hin hso
      rw [hye] at hso
      have hok := HG.out.ok x (List.mem_of_getElem? hx)
      have hsx := HG.out.size x (List.mem_of_getElem? hx)
      have hsy := HG.out.size y (List.mem_of_getElem? hy)
      have hpar := parent_any x.place wr (HE.out.after HB.out) (by simp only [maxLen]; omega)
      unfold ParentPost at hpar
      rw [hab.1] at hpar
      have hord := fun W' => order_any y.place x.place W' (by simp only [maxLen]; omega) (by simp only [maxLen]; omega)
      change ∀ W', Calls _ _ _ _ fun e w' => e = .returned (.int .i64 (ord y.at x.at)) ∧ _ at hord
      rw [hso] at hord
      have hdat := hok.data
      obtain ⟨up, hup⟩ : ∃ up, (parent x.at).1 = up := ⟨_, rfl⟩
      change Calls _ _ _ _ fun e w' => e = .returned (.tuple #[.string ⟨(parent x.at).1.toArray⟩, _]) ∧ _ at hpar
      rw [hup] at hpar hin
      have HIn := Lib.hid hin
      clear hv hxe hye hab hin hso hok hsx hsy hup
      have HX := Lib.hid hx
      clear hx hy
      obtain ⟨xp, xd, xv, xm, xc, xo, xn⟩ := x
      obtain ⟨yp, yd, yv, ym, yc, yo, yn⟩ := y
      simp only [] at hnx hny hpar hord hdat
      obtain ⟨a0, a1, a2, a3, a4, a5, a6⟩ := hnx
      obtain ⟨b0, b1, b2, b3, b4, b5, b6⟩ := hny
      simp only [] at a0 a1 b0
      clear a2 a3 a4 a5 a6 b1 b2 b3 b4 b5 b6
      have i0 : (0 : Int) ≤ (j : Int) + 1 := by omega
      have i1 : (j : Int) + 1 < (T.length : Int) := by omega
      have i2 : ((j : Int) + 1).toNat = j + 1 := by omega
      have hd64 : decide ((64 : Int) < (xd.size : Int)) = false := by simp; omega
      go_upto_region 7 with (go_at_call 29; refine hpar.mono ?_; rintro e w2 ⟨rfl, hb2⟩; replace hb2 := Lib.hid hb2)
      have q : ∀ {a : Addr} {u : Value}, wr.cell? a = some u → w2.cell? a = some u := fun hc => (hb2.out.cell (World.block_lt_of_cell? wr _ hc)).trans hc
      replace a0 := q a0
      replace a1 := q a1
      replace b0 := q b0
      clear q hpar
      have HB2 : Hid (Below W.heap.size W w2) := HB.out.trans (hb2.out.mono HB.out.size)
      have i3 : IntKind.i64.wrap ((j : Int) + 1 - 1) = (j : Int) := by rw [show (j : Int) + 1 - 1 = (j : Int) from by omega]; exact IntWalk.i64_in _ (by omega)
      have i4 : (0 : Int) ≤ (j : Int) := by omega
      have i5 : (j : Int) < (T.length : Int) := by omega
      go_quiet (first | (go_at_call 17; exact Calls.quiet_of_same (num_same _ _)) | (go_at_call 30; exact Calls.quiet_of (hord _)))
      simp only [Exit.then]
      go_step
      generalize hw3 : World.drewN w2 _ = w3
      have HB3 : Hid (Below W.heap.size W w3) := by
        rw [← hw3]; exact ⟨HB2.out.os, HB2.out.tape, HB2.out.output, HB2.out.size, HB2.out.block⟩
      clear hw3 a0 a1 b0 hb2 HB HB2 hord i3 i4 i5
      go_wp2_with fail
      go_simp
      go_loopg [6, 7] (j + 1) (fun gg s6 s7 wr => ∃ k : Nat, s7 = .int .i64 k ∧ s6 = .bool (aboveIn T up k) ∧ k + gg = j + 1 ∧ Below W.heap.size W wr)
      case atStart => exact ⟨0, rfl, by rw [aboveIn_zero], by omega, HB3.out⟩
      case round =>
        obtain ⟨k, rfl, rfl, hkg, hb⟩ := hrel
        have HKg := Lib.hid hkg
        have HB4 := Lib.hid hb
        clear hkg hb
        by_cases hlk : k < j + 1
        · have hv := HV.out.kept (below_none HB4.out) (by cases (Value.slice (some ⟨g, 0, none⟩) T.length cap).ownBlock <;> simp)
          obtain ⟨z, hz⟩ : ∃ z, T[k]? = some z := ⟨_, List.getElem?_eq_getElem (by omega)⟩
          have hnz := NodeRow.of (k := k) hv hz
          have hsn := aboveIn_succ (up := up) hz
          obtain ⟨zp, zd, zv, zm, zc, zo, zn⟩ := z
          obtain ⟨d0, d1, d2, d3, d4, d5, d6⟩ := hnz
          simp only [Node.at] at d0 d5 hsn
          clear d1 d2 d3 d4 d6 hv hz
          have n0 : (0 : Int) ≤ (k : Int) := by omega
          have n1 : (k : Int) < (T.length : Int) := by omega
          have n2 : decide ((k : Int) < (j : Int) + 1) = true := by simp; omega
          obtain ⟨ab, hab⟩ : ∃ ab, aboveIn T up k = ab := ⟨_, rfl⟩
          rw [hab] at hsn ⊢
          have HSn := Lib.hid hsn
          clear hsn hab
          cases ab
          · rcases Bool.eq_false_or_eq_true (zp.toList == up) with t1 | t1
            · rcases Bool.eq_false_or_eq_true (zo == 0) with t2 | t2
              · have HT : Hid (aboveIn T up (k + 1) = true) := by
                  rw [show aboveIn T up (k + 1) = _ from HSn.out]
                  rw [ByteArray.toList_eq] at t1
                  show (false || _) = true
                  simp at t1 t2 ⊢
                  exact ⟨t1, t2⟩
                clear HSn
                go_wp2_with fail
                go_roundg (gk - 1)
                case measure => have := HKg.out; omega
                case rel => exact ⟨k + 1, by go_num, by rw [HT.out], by have := HKg.out; omega, HB4.out⟩
              · have HT : Hid (aboveIn T up (k + 1) = false) := by
                  rw [show aboveIn T up (k + 1) = _ from HSn.out]
                  show (false || _) = false
                  simp at t2 ⊢
                  exact fun _ => t2
                clear HSn
                go_wp2_with fail
                go_roundg (gk - 1)
                case measure => have := HKg.out; omega
                case rel => exact ⟨k + 1, by go_num, by rw [HT.out], by have := HKg.out; omega, HB4.out⟩
            · have HT : Hid (aboveIn T up (k + 1) = false) := by
                rw [show aboveIn T up (k + 1) = _ from HSn.out]
                rw [ByteArray.toList_eq] at t1
                show (false || _) = false
                simp at t1 ⊢
                exact fun h => absurd h t1
              clear HSn
              go_wp2_with fail
              go_roundg (gk - 1)
              case measure => have := HKg.out; omega
              case rel => exact ⟨k + 1, by go_num, by rw [HT.out], by have := HKg.out; omega, HB4.out⟩
          · have HT : Hid (aboveIn T up (k + 1) = true) := by
              rw [show aboveIn T up (k + 1) = _ from HSn.out]; rfl
            clear HSn
            go_wp2_with fail
            go_roundg (gk - 1)
            case measure => have := HKg.out; omega
            case rel => exact ⟨k + 1, by go_num, by rw [HT.out], by have := HKg.out; omega, HB4.out⟩
        · have hke : k = j + 1 := by have := HKg.out; omega
          subst hke
          rw [HIn.out]
          have n2 : decide (((j + 1 : Nat) : Int) < (j : Int) + 1) = false := by simp
          go_wp2_with fail
          go_roundg (gq - 1)
          case measure => have := HJg.out; have := HGq.out; omega
          case rel => exact ⟨j + 1, by go_num, by have := HJg.out; have := HGq.out; omega, HB4.out⟩
      --]
    · --[
      have hge : ¬ (j : Int) + 1 < (T.length : Int) := by omega
      go_wp2_with fail
      go_ret
      exact ⟨rfl, HB.out⟩
      --]
end Go.Proofs.YtpmlfpmedbccaaaDoor
