/- heraldlaw4.read, walked: the right answer to a reading op is taken for right. -/
import Derived.Test.YtpmlfpmedbccaaaDoorSameD
namespace Go.Proofs.YtpmlfpmedbccaaaDoor
open Go.RowKit
attribute [local go_sem ↓] Go.wp_at_zero Go.wp_at_succ

/-- The children's names that read has met before the i-th node. -/
def metKids (T : List Node) (above : ByteArray) (k : Int) (i : Nat) : List ByteArray := if k = 7 then (kidsOf (T.take i) above).map nameStr else []
theorem metKids_zero (T : List Node) (above : ByteArray) (k : Int) : metKids T above k 0 = [] := by
  unfold metKids kidsOf
  split <;> simp
theorem metKids_all (T : List Node) (x : Node) (k : Int) : metKids T x.place k T.length = (readRes T x k).kids := by
  unfold metKids readRes
  rw [List.take_length]
theorem metKids_seven (T : List Node) (above : ByteArray) (k : Int) (h : k ≠ 7) (i j : Nat) : metKids T above k i = metKids T above k j := by
  unfold metKids
  rw [if_neg h, if_neg h]
theorem metKids_succ {T : List Node} {i : Nat} {z : Node} (above : ByteArray) (hz : T[i]? = some z) : metKids T above 7 (i + 1) = metKids T above 7 i ++ if isKid above z = true then [nameStr z] else [] := by
  unfold metKids kidsOf
  rw [if_pos rfl, if_pos rfl, List.take_add_one, hz, List.filter_append, List.map_append]
  by_cases h : isKid above z = true <;> simp [h]
theorem metKids_len (T : List Node) (above : ByteArray) (k : Int) (i : Nat) : (metKids T above k i).length ≤ T.length := by
  unfold metKids kidsOf
  split
  · rw [List.length_map]
    refine Nat.le_trans (List.length_filter_le _ _) ?_
    rw [List.length_take]
    omega
  · simp
def ReadPost (w : World) (e : Ending) (w' : World) : Prop := e = .returned (.bool true) ∧ Below w.heap.size w w'
set_option maxRecDepth 100000 in
set_option maxHeartbeats 4000000 in
theorem read_any (w : World) (he : Env w) (B B2 : Nat) (v : Value) (T : List Node) (hv : w.ownsRow B 43 7 v T.length (T.flatMap Node.cells)) (hG : Good T) (x : Node) (k : Int) (kv : Value) (hk : KidsAt B2 w kv (readRes T x k).kids) :
    Calls Tryd.prog 18 #[(readRes T x k).val kv, .int .i64 k, v, x.val] w (ReadPost w) := by
  have HE := Lib.hid he
  have HV := Lib.hid hv
  have HG := Lib.hid hG
  have hT64 := hG.few
  have hml := metKids_all T x k
  have HK := Lib.hid hk
  obtain ⟨va, vc, rfl, _⟩ := own_form hv
  obtain ⟨kn, hkn⟩ : ∃ kn, (readRes T x k).kids = kn := ⟨_, rfl⟩
  have HML := Lib.hid hml
  have HKn := Lib.hid hkn
  have hkn' := hkn
  clear he hv hG hml hk hkn
  obtain ⟨xp, xd, xv, xm, xc, xo, xn⟩ := x
  rw [hkn'] at HML HK
  obtain ⟨dd, hdd⟩ : ∃ dd, (if k = 5 then xd else noText) = dd := ⟨_, rfl⟩
  simp only [Res.val, Node.val, Node.cells, readRes, toldOf] at ⊢
  rw [hdd]
  have HDd := Lib.hid hdd
  clear hdd
  go_enter Tryd.func18, Tryd.ntmps18
  go_upto_region 3 with fail
  obtain ⟨sb, hsb⟩ : ∃ sb, w.heap.size = sb := ⟨_, rfl⟩
  generalize hw1 : World.alloc (World.alloc w (Obj.cells _ _)) (Obj.cells _ _) = w1
  have hb1 : Below w.heap.size w w1 := hw1 ▸ ((Below.refl _ _).alloc (Nat.le_refl _) _).alloc (by simp) _
  have hs1 : w1.heap[sb]? = some (.cells #[.string xp, .string dd, .int .i64 xv, .int .i64 xm, .int .i64 xc, .int .i64 xo, kv] 54 (0, 0)) := by
    rw [← hw1, ← hsb, Below.heap_alloc _ _ _ (by simp)]
    exact heap_alloc_new w _
  have hs2 : w1.heap[sb + 1]? = some (.cells #[.string xp, .string xd, .int .i64 xv, .int .i64 xm, .int .i64 xc, .int .i64 xo, .int .i64 xn] 43 (0, 0)) := by
    rw [← hw1, ← hsb, show w.heap.size + 1 = (World.alloc w (Obj.cells #[.string xp, .string dd, .int .i64 xv, .int .i64 xm, .int .i64 xc, .int .i64 xo, kv] 54)).heap.size from by simp]
    exact heap_alloc_new _ _
  try rw [hsb]
  have HB1 := Lib.hid hb1
  have HS1 := Lib.hid hs1
  have HS2 := Lib.hid hs2
  clear hw1 hsb hb1 hs1 hs2
  go_wp2_with fail
  go_simp
  go_loopg [9, 10] T.length (fun gg s9 s10 wr => ∃ i : Nat, s10 = .int .i64 i ∧ i + gg = T.length ∧ Below w1.heap.size w1 wr ∧ (k ≠ 7 → i = 0) ∧ KidsAt w1.heap.size wr s9 (metKids T xp k i))
  case atStart => exact ⟨0, rfl, by omega, Below.refl _ _, fun _ => rfl, by rw [metKids_zero]; exact kids_none _ _⟩
  case round =>
    obtain ⟨i, rfl, hig, hb, h7, hL⟩ := hrel
    have HIg := Lib.hid hig
    have HB := Lib.hid hb
    have H7 := Lib.hid h7
    have HL := Lib.hid hL
    clear hig hb h7 hL
    have hbw := HB1.out.trans (HB.out.mono HB1.out.size)
    have HBw := Lib.hid hbw
    clear hbw
    by_cases hgo : i < T.length ∧ k = 7
    · --[
      obtain ⟨hlt, hk7⟩ := hgo
      subst hk7
      obtain ⟨z, hz⟩ : ∃ z, T[i]? = some z := ⟨_, List.getElem?_eq_getElem hlt⟩
      have hv2 := own_after (own_after HV.out (HB1.out)) HB.out
      obtain ⟨g, cap, e, _, _⟩ := hv2.form (by omega)
      cases e
      have hnr := NodeRow.of (k := i) hv2 hz
      have hzs := HG.out.size z (List.mem_of_getElem? hz)
      have hpar := fun W h1 => parent_any z.place W h1 (by simp only [maxLen]; omega)
      have hnam := fun W h1 => name_any z.place W h1 (by simp only [maxLen]; omega)
      have hmk := metKids_succ xp hz
      have hkd : isKid xp z = true ↔ ((parent z.at).2 == 0) = true ∧ ((parent z.at).1 == xp.toList) = true := by unfold isKid; simp
      obtain ⟨⟨up, code⟩, hpc⟩ : ∃ pc, parent z.at = pc := ⟨_, rfl⟩
      change ∀ W h1, Calls _ _ _ _ fun e w' => ParentPost (parent z.at) W e w' at hpar
      change ∀ W h1, Calls _ _ _ _ fun e w' => ParentPost (nameOf z.at) W e w' at hnam
      rw [hpc] at hpar hkd
      have hns : nameStr z = ⟨(nameOf z.at).1.toArray⟩ := rfl
      obtain ⟨⟨nm, nc⟩, hnq⟩ : ∃ q, nameOf z.at = q := ⟨_, rfl⟩
      rw [hnq] at hnam hns
      rw [hns] at hmk
      unfold ParentPost at hpar hnam
      simp only [] at hpar hnam hmk
      have HMk := Lib.hid hmk
      clear hpc hnq hns hz hmk hv2 hzs
      obtain ⟨zp, zd, zv, zm, zc, zo, zn⟩ := z
      obtain ⟨a0, a1, a2, a3, a4, a5, a6⟩ := hnr
      simp only [] at a0 hpar hnam hkd
      clear a1 a2 a3 a4 a5 a6
      have i0 : (0 : Int) ≤ (i : Int) := by omega
      have i1 : (i : Int) < (T.length : Int) := by omega
      go_upto_region 6 with (go_at_call 29; refine (hpar _ (HE.out.after HBw.out)).mono ?_; rintro e w2 ⟨rfl, hb2⟩; replace hb2 := Lib.hid hb2)
      replace a0 := (hb2.out.cell (World.block_lt_of_cell? wr _ a0)).trans a0
      have hbw2 := HBw.out.trans (hb2.out.mono HBw.out.size)
      have HBw2 := Lib.hid hbw2
      clear hbw2
      go_upto_region 7 with (go_at_call 34; refine (hnam _ (HE.out.after HBw2.out)).mono ?_; rintro e w3 ⟨rfl, hb3⟩; replace hb3 := Lib.hid hb3)
      have hb23 := HB.out.trans ((hb2.out.trans (hb3.out.mono hb2.out.size)).mono HB.out.size)
      have hbs := own_after HL.out (hb2.out.trans (hb3.out.mono hb2.out.size))
      have HB3 := Lib.hid hb23
      have HL3 := Lib.hid hbs
      have hy := cell_of_row w3 (sb + 1) 0 _ _ _ ((hb23.block _ (Array.getElem?_eq_some_iff.1 HS2.out).1).trans HS2.out)
      simp only [List.getElem?_toArray, List.getElem?_cons_succ, List.getElem?_cons_zero] at hy
      obtain ⟨lad, lcc, hl9, _⟩ := own_form hbs
      subst hl9
      clear hb23 hbs a0 HL HB hb2 hb3 HBw HBw2 hpar hnam
      rcases Bool.eq_false_or_eq_true (code == 0) with t1 | t1
      · rcases Bool.eq_false_or_eq_true (up == xp.toList) with t2 | t2
        · have hk : isKid xp ⟨zp, zd, zv, zm, zc, zo, zn⟩ = true := hkd.2 ⟨t1, t2⟩
          have HKd := Lib.hid hk
          have hml := metKids_len T xp 7 i
          clear hk hkd
          go_wp2_with (first | (go_at_call 17; refine (num_any _ _).mono ?_; rintro e w' ⟨rfl, rfl⟩) | (at_builtin; refine wpList_push rfl (.tmp 53) (.tmp 55) 46 rfl w1.heap.size 9 _ 1 16 und_strs info_str rfl (by decide) _ (metKids T xp 7 i).length _ rfl HL3.out w3.heap.size (by simp) rfl rfl (by simp [Value.oneCell']) ?h63 ?hbytes HB3.out.size ?_; rotate_right; intro v' w4 ho4 hg4; replace ho4 := Lib.hid ho4; replace hg4 := Lib.hid hg4))
          case h63 => simp only [maxLen]; omega
          case hbytes => omega
          go_roundg (gk - 1)
          case measure => have := HIg.out; omega
          case rel =>
            refine ⟨i + 1, by go_num, by have := HIg.out; omega, own_below HB3.out HL3.out hg4.out (Nat.le_refl _) HB3.out.size, fun h => absurd rfl h, ?_⟩
            have := ho4.out
            unfold KidsAt
            rw [HMk.out, if_pos HKd.out, List.length_append, List.map_append]
            simpa using this
        · have hk : ¬ isKid xp ⟨zp, zd, zv, zm, zc, zo, zn⟩ = true := fun h => by have := (hkd.1 h).2; rw [t2] at this; cases this
          have HKd := Lib.hid hk
          clear hk hkd
          go_wp2_with (go_at_call 17; refine (num_any _ _).mono ?_; rintro e w' ⟨rfl, rfl⟩)
          go_roundg (gk - 1)
          case measure => have := HIg.out; omega
          case rel => exact ⟨i + 1, by go_num, by have := HIg.out; omega, HB3.out, fun h => absurd rfl h, by rw [HMk.out, if_neg HKd.out, List.append_nil]; exact HL3.out⟩
      · have hk : ¬ isKid xp ⟨zp, zd, zv, zm, zc, zo, zn⟩ = true := fun h => by have := (hkd.1 h).1; rw [t1] at this; cases this
        have HKd := Lib.hid hk
        clear hk hkd
        go_wp2_with (go_at_call 17; refine (num_any _ _).mono ?_; rintro e w' ⟨rfl, rfl⟩)
        go_roundg (gk - 1)
        case measure => have := HIg.out; omega
        case rel => exact ⟨i + 1, by go_num, by have := HIg.out; omega, HB3.out, fun h => absurd rfl h, by rw [HMk.out, if_neg HKd.out, List.append_nil]; exact HL3.out⟩
      --]
    · --[
      have hall : KidsAt w1.heap.size wr u9 kn := by
        have := HL.out
        rw [← HML.out]
        by_cases hk7 : k = 7
        · have hi : i = T.length := by have := HIg.out; have : ¬ i < T.length := fun h => hgo ⟨h, hk7⟩; omega
          rwa [hi] at this
        · rwa [metKids_seven T xp k hk7 i T.length] at this
      have hgd : (decide ((i : Int) < (T.length : Int)) && (k == 7)) = false := by
        rw [Bool.eq_false_iff]
        intro h
        simp at h
        exact hgo ⟨by omega, h.2⟩
      have hq : ∀ j u, (#[Value.string xp, .string dd, .int .i64 xv, .int .i64 xm, .int .i64 xc, .int .i64 xo, kv] : Array Value)[j]? = some u → wr.cell? ⟨sb, j, none⟩ = some u := fun j u hu => cell_of_row wr sb j _ _ _ ((HB.out.block _ (Array.getElem?_eq_some_iff.1 HS1.out).1).trans HS1.out) |>.trans hu
      have hp : ∀ j u, (#[Value.string xp, .string xd, .int .i64 xv, .int .i64 xm, .int .i64 xc, .int .i64 xo, .int .i64 xn] : Array Value)[j]? = some u → wr.cell? ⟨sb + 1, j, none⟩ = some u := fun j u hu => cell_of_row wr (sb + 1) j _ _ _ ((HB.out.block _ (Array.getElem?_eq_some_iff.1 HS2.out).1).trans HS2.out) |>.trans hu
      have x0 := hq 0 _ rfl
      have x1 := hq 1 _ rfl
      have x2 := hq 2 _ rfl
      have x3 := hq 3 _ rfl
      have x4 := hq 4 _ rfl
      have x5 := hq 5 _ rfl
      have x6 := hq 6 _ rfl
      have y0 := hp 0 _ rfl
      have y1 := hp 1 _ rfl
      have y2 := hp 2 _ rfl
      have y3 := hp 3 _ rfl
      have y4 := hp 4 _ rfl
      have y5 := hp 5 _ rfl
      have hkv : KidsAt B2 wr kv kn := own_after HK.out HBw.out
      have hkl : kn.length ≤ 1000000000 := by rw [← HML.out]; have := metKids_len T xp k T.length; omega
      have htx := texts_same wr B2 w1.heap.size kv u9 kn hkv hall hkl
      clear hq hp hkv hkl hall
      by_cases hlt : i < T.length
      · have t2 : (k == 7) = false := by simpa [hlt] using hgd
        have hlt' : (i : Int) < (T.length : Int) := by omega
        clear hgd
        rcases Bool.eq_false_or_eq_true (k == 5) with t5 | t5
        · have hd : dd = xd := by rw [← HDd.out, if_pos (by simpa using t5)]
          subst hd
          go_wp2_with (go_at_call 35; refine htx.mono ?_; rintro e w2 ⟨rfl, m, rfl⟩)
          go_ret
          exact ⟨rfl, HBw.out.os, HBw.out.tape, HBw.out.output, HBw.out.size, HBw.out.block⟩
        · have hd : dd = ⟨#[]⟩ := by rw [← HDd.out, if_neg (by simpa using t5)]; rfl
          subst hd
          go_wp2_with (go_at_call 35; refine htx.mono ?_; rintro e w2 ⟨rfl, m, rfl⟩)
          go_ret
          exact ⟨rfl, HBw.out.os, HBw.out.tape, HBw.out.output, HBw.out.size, HBw.out.block⟩
      · clear hgd
        have hlt' : ¬ (i : Int) < (T.length : Int) := by omega
        rcases Bool.eq_false_or_eq_true (k == 5) with t5 | t5
        · have hd : dd = xd := by rw [← HDd.out, if_pos (by simpa using t5)]
          subst hd
          go_wp2_with (go_at_call 35; refine htx.mono ?_; rintro e w2 ⟨rfl, m, rfl⟩)
          go_ret
          exact ⟨rfl, HBw.out.os, HBw.out.tape, HBw.out.output, HBw.out.size, HBw.out.block⟩
        · have hd : dd = ⟨#[]⟩ := by rw [← HDd.out, if_neg (by simpa using t5)]; rfl
          subst hd
          go_wp2_with (go_at_call 35; refine htx.mono ?_; rintro e w2 ⟨rfl, m, rfl⟩)
          go_ret
          exact ⟨rfl, HBw.out.os, HBw.out.tape, HBw.out.output, HBw.out.size, HBw.out.block⟩
      --]
end Go.Proofs.YtpmlfpmedbccaaaDoor
