/- The walks of package tree, seventh part: play. -/
import Derived.Test.YtpmlfpmedbccaaaDoorTreeD
import Derived.Test.YtpmlfpmedbccaaaDoorTreeE
import Derived.Test.YtpmlfpmedbccaaaDoorTreeF
import Derived.Deep.LoopGhost
namespace Go.Proofs.YtpmlfpmedbccaaaDoor
open Go.RowKit
attribute [local go_sem ↓] Go.wp_at_zero Go.wp_at_succ

def StepIs (B b r : Nat) (ses st : Int) (C : List Chg) (m : Made) (w : World) (e : Ending) (w' : World) : Prop := StepPost B b r ses st m.code m.res m.T (C ++ m.chg) w e w'
section
variable (w : World) (B b r : Nat) (T : List Node) (ses st : Int) (cv : Value) (C : List Chg)
theorem set_any (x : Node) (data : ByteArray) (h : WorkAt w B b r T ses st cv C) (hx0 : 0 ≤ x.version) (hC : C.length ≤ 1000000000) :
    Calls Tryd.prog 43 #[.pointer (some ⟨b, 0, none⟩), x.val, .string data] w (StepIs B b r ses st C (setOn st T x data) w) := by
  unfold setOn StepIs
  by_cases hx : 2147483647 ≤ x.version
  · rw [if_pos hx]
    have := set_full w B b r T ses st cv C x data h hx
    simpa [Made.no] using this
  · rw [if_neg hx]
    exact set_ok w B b r T ses st cv C x data h (by omega) hx0 hC
theorem drop_any (x : Node) (h : WorkAt w B b r T ses st cv C) (he : Env w) (hp : ∀ y ∈ T, y.place.size ≤ maxLen) (hT : T.length ≤ 1000000000) (hC : C.length ≤ 1000000000) :
    Calls Tryd.prog 44 #[.pointer (some ⟨b, 0, none⟩), x.val] w (StepIs B b r ses st C (dropOn T x) w) := by
  unfold dropOn StepIs
  by_cases hk : kidsOf T x.place = []
  · rw [if_pos hk]
    exact drop_ok w B b r T ses st cv C x h he hp hT hk hC
  · rw [if_neg hk]
    have := drop_full w B b r T ses st cv C x h he hp hT hk
    simpa [Made.no] using this
end
theorem own_lower {w : World} {base base' : Nat} {e : TypeId} {size n : Nat} {v : Value} {xs : List Value} (h : w.ownsRow base e size v n xs) (hb : base' ≤ base) : w.ownsRow base' e size v n xs := by
  refine ⟨h.1, ?_⟩
  rcases h.2 with h2 | ⟨g, cap, cur, h1, h2, h3⟩
  · exact .inl h2
  · exact .inr ⟨g, cap, cur, h1, Nat.le_trans hb h2, h3⟩
theorem KidsAt.lower {B B' : Nat} {w : World} {kv : Value} {l : List ByteArray} (h : KidsAt B w kv l) (hb : B' ≤ B) : KidsAt B' w kv l := own_lower h hb
theorem KidsAt.set_row {B : Nat} {w : World} {kv : Value} {l : List ByteArray} (h : KidsAt B w kv l) {R : Nat} {old : Array Value} {t : TypeId} {fr : Nat × Nat} (hR : w.heap[R]? = some (.cells old t fr)) (ht : t ≠ 9) (cs : Array Value) : KidsAt B (w.setRow R cs) kv l := by
  refine World.ownsRow.kept h (row_grown w R cs) (.inr fun e => ?_)
  obtain ⟨cur, hc⟩ := own_block h e
  rw [hR] at hc
  injection hc with hc
  injection hc with _ h2
  exact ht h2
section
variable {w wc w1 : World} {B b r : Nat} {T T' : List Node} {ses st : Int} {cv cv' : Value} {C C' : List Chg} {o : OpV} {res : Res} {code : Int} {kv : Value}
/-- A step within a step: its result is laid into the caller's own. -/
theorem StepPost.laid (hM : MakeAt w B b r T ses st cv C o wc) (hk : KidsAt wc.heap.size w1 kv res.kids) (hW : WorkAt w1 B b r T' ses st cv' C') (hB : But (Touch B b r wc) wc w1) (cs : Array Value) :
    StepPost B b r ses st code res T' C' w (.returned (.tuple #[res.val kv, .int .i64 code])) (w1.setRow (w.heap.size + 1) cs) :=
  have hR := hM.1.keeps hB hM.2.2.2 (by decide)
  ⟨kv, cv', rfl, (hk.lower hM.2.1.size).set_row hR (by decide) _, hW.set_row hR (by decide) _, (((But.refl _ _).after hM.2.1).next hB).grown (row_grown _ _ _) (fun i hi _ e => by injection e with e; omega)⟩
theorem MakeAt.resAt (hM : MakeAt w B b r T ses st cv C o wc) (hB : But (Touch B b r wc) wc w1) : w1.heap[w.heap.size + 1]? = some (.cells (zeroRes.val (.slice none 0 0)).cells 54) := hM.1.keeps hB hM.2.2.2 (by decide)
end
/-- A result's seven cells, in a block of its own. -/
structure ResAt (w : World) (b : Nat) (xp xd : ByteArray) (xv xm xc xo : Int) (kv : Value) : Prop where
  c0 : w.cell? ⟨b, 0, none⟩ = some (.string xp)
  c1 : w.cell? ⟨b, 1, none⟩ = some (.string xd)
  c2 : w.cell? ⟨b, 2, none⟩ = some (.int .i64 xv)
  c3 : w.cell? ⟨b, 3, none⟩ = some (.int .i64 xm)
  c4 : w.cell? ⟨b, 4, none⟩ = some (.int .i64 xc)
  c5 : w.cell? ⟨b, 5, none⟩ = some (.int .i64 xo)
  c6 : w.cell? ⟨b, 6, none⟩ = some kv
  free : ∀ i, w.frozen? ⟨b, i, none⟩ = false
theorem ResAt.of {w : World} {b : Nat} {xp xd : ByteArray} {xv xm xc xo : Int} {kv : Value} {E : TypeId} (h : w.heap[b]? = some (.cells #[.string xp, .string xd, .int .i64 xv, .int .i64 xm, .int .i64 xc, .int .i64 xo, kv] E)) : ResAt w b xp xd xv xm xc xo kv := by
  constructor <;> simp [World.cell?, World.frozen?, h]
/-- The k-th of a row of nodes. -/
structure NodeRow (w : World) (g o : Nat) (y : Node) : Prop where
  c0 : w.cell? ⟨g, o, none⟩ = some (.string y.place)
  c1 : w.cell? ⟨g, o + 1, none⟩ = some (.string y.data)
  c2 : w.cell? ⟨g, o + 2, none⟩ = some (.int .i64 y.version)
  c3 : w.cell? ⟨g, o + 3, none⟩ = some (.int .i64 y.made)
  c4 : w.cell? ⟨g, o + 4, none⟩ = some (.int .i64 y.changed)
  c5 : w.cell? ⟨g, o + 5, none⟩ = some (.int .i64 y.owner)
  c6 : w.cell? ⟨g, o + 6, none⟩ = some (.int .i64 y.counter)
theorem add_off (g j : Nat) : (⟨g, 0, none⟩ : Addr).add j = ⟨g, j, none⟩ := by unfold Addr.add; split <;> simp_all
theorem NodeRow.of {w : World} {base n g c : Nat} {K : List Node} {k : Nat} {y : Node} (h : w.ownsRow base 43 7 (.slice (some ⟨g, 0, none⟩) n c) n (K.flatMap Node.cells)) (hk : K[k]? = some y) : NodeRow w g (k * 7) y := by
  have key : ∀ j u, y.cells[j]? = some u → w.cell? ⟨g, k * 7 + j, none⟩ = some u := fun j u hu => by
    have hj : j < 7 := (List.getElem?_eq_some_iff.1 hu).1
    have := h.cells (g := g) rfl (k * 7 + j) u (by rw [flat_get Node.cells 7 (fun _ => rfl) K k y hk j hj]; exact hu)
    rwa [add_off] at this
  exact ⟨key 0 _ rfl, key 1 _ rfl, key 2 _ rfl, key 3 _ rfl, key 4 _ rfl, key 5 _ rfl, key 6 _ rfl⟩
def NeedAt (k : Int) (nb : Nat) (wc : World) : Prop := wc.heap[nb]? = some (.cells #[.bool (needRoot k), .bool (needData k), .bool (needVersion k)] 92)
theorem NeedAt.cells {k : Int} {nb : Nat} {wc : World} (h : NeedAt k nb wc) : wc.cell? ⟨nb, 0, none⟩ = some (.bool (needRoot k)) ∧ wc.cell? ⟨nb, 1, none⟩ = some (.bool (needData k)) ∧ wc.cell? ⟨nb, 2, none⟩ = some (.bool (needVersion k)) := by
  unfold NeedAt at h
  simp [World.cell?, h]
theorem NeedAt.after {k : Int} {nb : Nat} {wc wd : World} (h : NeedAt k nb wc) (hb : Below wc.heap.size wc wd) : NeedAt k nb wd := (hb.block nb (Array.getElem?_eq_some_iff.1 h).1).trans h
/-- Behind the look-up. -/
def PlayMid (w : World) (B b r : Nat) (T : List Node) (ses st : Int) (cv : Value) (C : List Chg) (o : OpV) (nb : Nat) (s7 s8 : Value) (wd : World) : Prop :=
  ∃ (ba : Nat) (x0 : Node) (is : Bool), s7 = .pointer (some ⟨ba, 0, none⟩) ∧ s8 = .bool is ∧ (is = true → look T o.place = some x0) ∧ (is = false → look T o.place = none) ∧ MakeAt w B b r T ses st cv C o wd ∧ NeedAt o.kind nb wd ∧
    wd.heap[ba]? = some (.cells x0.cells.toArray 43) ∧ w.heap.size + 1 < ba
theorem MakeAt.row {w wc wd : World} {B b r : Nat} {T : List Node} {ses st : Int} {cv : Value} {C : List Chg} {o : OpV} (hw : WorkAt w B b r T ses st cv C) (h : MakeAt w B b r T ses st cv C o wc) {v : Value} {n : Nat} {xs : List Value} (ho : wc.ownsRow w.heap.size 9 1 v n xs) (hg : wc.grownBy wd v.ownBlock) : MakeAt w B b r T ses st cv C o wd := by
  have hb : Below w.heap.size w wd := own_below h.2.1 ho hg (Nat.le_refl _) h.2.1.size
  refine ⟨hw.after hb, hb, (hg.block _ (Array.getElem?_eq_some_iff.1 h.2.2.1).1 (own_ne ho ?_)).trans h.2.2.1, (hg.block _ (Array.getElem?_eq_some_iff.1 h.2.2.2).1 (own_ne ho ?_)).trans h.2.2.2⟩
  · intro cur e
    rw [h.2.2.1] at e
    injection e with e
    injection e with _ e
    exact absurd e (by decide)
  · intro cur e
    rw [h.2.2.2] at e
    injection e with e
    injection e with _ e
    exact absurd e (by decide)
/-- While the children's names are being listed. -/
def ListTo (w : World) (B b r : Nat) (T : List Node) (ses st : Int) (cv : Value) (C : List Chg) (o : OpV) (rb : Nat) (res : Res) (K : List Node) (kl : Value) (k : Nat) (wr : World) : Prop :=
  ∃ kv, MakeAt w B b r T ses st cv C o wr ∧ wr.heap[rb]? = some (.cells (res.val kv).cells 54) ∧ KidsAt w.heap.size wr kv ((K.take k).map nameStr) ∧ wr.ownsRow w.heap.size 43 7 kl K.length (K.flatMap Node.cells) ∧ k ≤ K.length
theorem MakeAt.told {w wc : World} {B b r : Nat} {T : List Node} {ses st : Int} {cv : Value} {C : List Chg} {o : OpV} (h : MakeAt w B b r T ses st cv C o wc) (res : Res) {kv : Value} (hk : KidsAt w.heap.size wc kv res.kids) (cs : Array Value) :
    StepPost B b r ses st 0 res T C w (.returned (.tuple #[res.val kv, .int .i64 0])) (wc.setRow (w.heap.size + 1) cs) :=
  ⟨kv, cv, rfl, hk.set_row h.2.2.2 (by decide) _, h.1.set_row h.2.2.2 (by decide) _, ((But.refl _ _).after h.2.1).grown (row_grown _ _ _) (fun i hi _ e => by injection e with e; omega)⟩
theorem und_strs : Tryd.prog.underlying 46 = some (.slice 9) := by kernel_rfl
theorem info_str : (Tryd.prog.info? 9).map (fun i => (i.zero, i.size, i.bytes)) = some (some (.string ⟨#[]⟩), 1, 16) := by kernel_rfl
theorem MakeAt.found {w wc : World} {B b r : Nat} {T : List Node} {ses st : Int} {cv : Value} {C : List Chg} {o : OpV} (h : MakeAt w B b r T ses st cv C o wc) {nb : Nat} (hN : NeedAt o.kind nb wc) {x0 : Node} {is : Bool} (h1 : is = true → look T o.place = some x0) (h2 : is = false → look T o.place = none) :
    PlayMid w B b r T ses st cv C o nb (.pointer (some ⟨wc.heap.size, 0, none⟩)) (.bool is) (wc.alloc (.cells x0.cells.toArray 43)).drew :=
  have hb := ((Below.refl wc.heap.size wc).alloc (Nat.le_refl _) (.cells x0.cells.toArray 43)).drew
  ⟨wc.heap.size, x0, is, rfl, rfl, h1, h2, h.after hb, hN.after hb, heap_alloc_new wc _, (Array.getElem?_eq_some_iff.1 h.2.2.2).1⟩
theorem MakeAt.far {w wc : World} {B b r : Nat} {T : List Node} {ses st : Int} {cv : Value} {C : List Chg} {o : OpV} (hw : WorkAt w B b r T ses st cv C) (h : MakeAt w B b r T ses st cv C o wc) {p : Addr} (hp : w.heap.size + 1 < p.block) (u : Value) : MakeAt w B b r T ses st cv C o (wc.setCell p u) := by
  have hb : Below w.heap.size w (wc.setCell p u) := h.2.1.setCell (by omega) u
  exact ⟨hw.after hb, hb, (Below.heap_setCell wc p u _ (by omega)).trans h.2.2.1, (Below.heap_setCell wc p u _ (by omega)).trans h.2.2.2⟩
theorem ListTo.next {w w11 w12 : World} {B b r : Nat} {T : List Node} {ses st : Int} {cv : Value} {C : List Chg} {o : OpV} {rb k : Nat} {res : Res} {K : List Node} {kl kv v' : Value} {l : List ByteArray} {nm : ByteArray} (hw : WorkAt w B b r T ses st cv C) (hM : MakeAt w B b r T ses st cv C o w11)
    (hr : w11.heap[rb]? = some (.cells (res.val kv).cells 54)) (hk : KidsAt w.heap.size w11 kv l) (ho : w11.ownsRow w.heap.size 43 7 kl K.length (K.flatMap Node.cells)) (hg : w11.grownBy w12 kv.ownBlock)
    (ho12 : w12.ownsRow w.heap.size 9 1 v' (l.length + 1) (l.map .string ++ [.string nm])) (hl : w.heap.size + 1 < rb) (hs : (K.take (k + 1)).map nameStr = l ++ [nm]) (hle : k + 1 ≤ K.length) :
    ListTo w B b r T ses st cv C o rb res K kl (k + 1) (w12.setCell ⟨rb, 6, none⟩ v') := by
  have ne1 : some rb ≠ kv.ownBlock := own_ne hk (fun cur e => by rw [hr] at e; injection e with e; injection e with _ e; exact absurd e (by decide))
  have hr12 := (hg.block rb (Array.getElem?_eq_some_iff.1 hr).1 ne1).trans hr
  have ne2 : some rb ≠ v'.ownBlock := own_ne ho12 (fun cur e => by rw [hr12] at e; injection e with e; injection e with _ e; exact absurd e (by decide))
  have hsc : w12.grownBy (w12.setCell ⟨rb, 6, none⟩ v') (some rb) := ⟨rfl, rfl, rfl, by simp, fun i _ hne => Below.heap_setCell w12 _ _ i (fun e => hne (by rw [e]))⟩
  have ne3 : kl.ownBlock = none ∨ kl.ownBlock ≠ kv.ownBlock := by
    cases hq : kl.ownBlock with
    | none => exact .inl rfl
    | some q =>
      refine .inr fun e => ?_
      obtain ⟨c1, h1⟩ := own_block ho hq
      obtain ⟨c2, h2⟩ := own_block hk e.symm
      rw [h1] at h2
      injection h2 with h2
      injection h2 with _ h2
      exact absurd h2 (by decide)
  have ho' := World.ownsRow.kept ho hg ne3
  have ne4 : some rb ≠ kl.ownBlock := own_ne ho' (fun cur e => by rw [hr12] at e; injection e with e; injection e with _ e; exact absurd e (by decide))
  refine ⟨v', MakeAt.far hw (MakeAt.row hw hM hk hg) hl v', ?_, ?_, World.ownsRow.kept ho' hsc (.inr (Ne.symm ne4)), hle⟩
  · rw [heap_setCell_same w12 rb 6 _ _ _ hr12]
    simp [Res.val, Value.cells]
  · rw [hs]
    unfold KidsAt
    have := World.ownsRow.kept ho12 hsc (.inr (Ne.symm ne2))
    simpa using this
/-- Where nothing is turned, and no list handed out. -/
theorem MakeAt.done {w wc : World} {B b r : Nat} {T : List Node} {ses st : Int} {cv : Value} {C : List Chg} {o : OpV} (h : MakeAt w B b r T ses st cv C o wc) (res : Res) (hk : res.kids = []) (cs : Array Value) :
    StepPost B b r ses st 0 res T C w (.returned (.tuple #[res.val (.slice none 0 0), .int .i64 0])) (wc.setRow (w.heap.size + 1) cs) :=
  ⟨_, cv, rfl, by rw [hk]; exact kids_none _ _, h.1.set_row h.2.2.2 (by decide) _, ((But.refl _ _).after h.2.1).grown (row_grown _ _ _) (fun i hi _ e => by injection e with e; omega)⟩

set_option maxRecDepth 100000 in
set_option maxHeartbeats 2000000 in
theorem play_any (w : World) (B b r : Nat) (T : List Node) (ses st : Int) (cv : Value) (C : List Chg) (o : OpV) (h : WorkAt w B b r T ses st cv C) (he : Env w) (hsz : o.place.size ≤ maxLen) (hp : ∀ y ∈ T, y.place.size ≤ maxLen) (hT : T.length ≤ 1000000000) (hC : C.length ≤ 1000000000) (hcn : ∀ y ∈ T, 0 ≤ y.counter) (hvn : ∀ y ∈ T, 0 ≤ y.version) :
    Calls Tryd.prog 26 #[.pointer (some ⟨b, 0, none⟩), .agg o.cells.toArray] w (StepIs B b r ses st C (stepOf ses st T o) w) := by
  have HW := Lib.hid h
  have HE := Lib.hid he
  have HS := Lib.hid hsz
  have HP := Lib.hid hp
  have HT := Lib.hid hT
  have HC := Lib.hid hC
  have HCn := Lib.hid hcn
  have HVn := Lib.hid hvn
  obtain ⟨m, hmk⟩ : ∃ m, stepOf ses st T o = m := ⟨_, rfl⟩
  rw [hmk]
  have HMk := Lib.hid hmk
  clear h he hsz hp hT hC hcn hvn hmk
  obtain ⟨ok, op, od, ov, ofl⟩ := o
  unfold StepIs
  simp only [OpV.cells] at HS ⊢
  go_enter Tryd.func26, Tryd.ntmps26
  go_upto_region 1 with fail
  generalize hw2 : World.alloc (World.alloc w (Obj.cells _ _)) (Obj.cells _ _) = w2
  have hM := MakeAt.start (o := ⟨ok, op, od, ov, ofl⟩) HW.out hw2
  obtain ⟨c0, c1, c2, c3, c4⟩ := hM.op
  have HM := Lib.hid hM
  clear hw2 hM
  simp only [] at c0 c1 c2 c3 c4
  by_cases hk1 : ok < 1
  · --[
    go_wp2_with (with_reducible show wpList _ _ _ (Oper.mk _ (.store 54 _ _) _ _ _ _ :: _) _ _; refine stop ?_)
    unfold Stop
    have hm : m = .no T 48 := HMk.out.symm.trans (stepOf_bad (.inl hk1))
    subst hm
    refine wpList_store_row rfl _ (.tmp 4) (.tmp 24) rfl (w.heap.size + 1) _ rfl rfl _ _ HM.out.2.2.2 info_res rfl (by simp [Value.oneCell']) ?_
    go_wp2_with fail
    refine bodyPost_ret (v := .tuple #[zeroRes.val (.slice none 0 0), .int .i64 48]) ?_ rfl ?_
    · refine results_res (p := 4) (u := 5) ?_ _ _ (w.heap.size + 1) _ _ ?_ (setRow_heap _ _ _ _ _ _ HM.out.2.2.2) ?_ <;> rfl
    show StepPost B b r ses st 48 zeroRes T (C ++ []) w _ _
    rw [List.append_nil]
    exact HM.out.refused 48
    --]
  by_cases hk7 : 7 < ok
  · --[
    go_wp2_with (with_reducible show wpList _ _ _ (Oper.mk _ (.store 54 _ _) _ _ _ _ :: _) _ _; refine stop ?_)
    unfold Stop
    have hm : m = .no T 48 := HMk.out.symm.trans (stepOf_bad (.inr hk7))
    subst hm
    refine wpList_store_row rfl _ (.tmp 4) (.tmp 24) rfl (w.heap.size + 1) _ rfl rfl _ _ HM.out.2.2.2 info_res rfl (by simp [Value.oneCell']) ?_
    go_wp2_with fail
    refine bodyPost_ret (v := .tuple #[zeroRes.val (.slice none 0 0), .int .i64 48]) ?_ rfl ?_
    · refine results_res (p := 4) (u := 5) ?_ _ _ (w.heap.size + 1) _ _ ?_ (setRow_heap _ _ _ _ _ _ HM.out.2.2.2) ?_ <;> rfl
    show StepPost B b r ses st 48 zeroRes T (C ++ []) w _ _
    rw [List.append_nil]
    exact HM.out.refused 48
    --]
  rcases Bool.eq_false_or_eq_true (ok == 1) with t1 | t1
  · --[
    have e1 : m = makeOf ses st T ⟨ok, op, od, ov, ofl⟩ := HMk.out.symm.trans (stepOf_make (by simpa using t1))
    have hcon := make_any w2 B b r T ses st cv C ⟨ok, op, od, ov, ofl⟩ HM.out.1 (HE.out.after HM.out.2.1) HS.out HT.out HC.out HCn.out
    rw [← e1] at hcon
    clear e1
    obtain ⟨mc, ⟨rp, rd, rv, rm, rc, ro, rk⟩, mT, mg⟩ := m
    simp only [OpV.cells] at hcon
    go_wp2_with (go_at_call 41; refine hcon.mono ?_; rintro e w3 ⟨kv, cv', rfl, hk3, hW3, hB3⟩; obtain ⟨ad, cc, rfl, hcc⟩ := own_form hk3; replace hk3 := Lib.hid hk3; replace hW3 := Lib.hid hW3; replace hB3 := Lib.hid hB3; clear hcc; refine stop ?_)
    unfold Stop
    generalize rk.length = rn at *
    have hr3 := HM.out.resAt hB3.out
    have HR3 := Lib.hid hr3
    clear hr3 hcon c0 c1 c2 c3 c4
    simp only [Res.val]
    go_wp2_with (with_reducible show wpList _ _ _ (Oper.mk _ (.store 54 _ _) _ _ _ _ :: _) _ _; refine stop ?_)
    unfold Stop
    refine wpList_store_row rfl _ (.tmp 4) (.tmp 31) rfl (w.heap.size + 1) _ rfl rfl _ _ HR3.out info_res rfl (by simp [Value.oneCell']) ?_
    go_wp2_with fail
    refine bodyPost_ret (v := .tuple #[.agg #[.string rp, .string rd, .int .i64 rv, .int .i64 rm, .int .i64 rc, .int .i64 ro, .slice ad rn cc], .int .i64 mc]) ?_ rfl ?_
    · refine results_res (p := 4) (u := 5) ?_ _ _ (w.heap.size + 1) _ _ ?_ (setRow_heap _ _ _ _ _ _ HR3.out) ?_ <;> rfl
    exact StepPost.laid (res := ⟨rp, rd, rv, rm, rc, ro, rk⟩) HM.out hk3.out hW3.out hB3.out _
    --]
  have n1 : ok ≠ 1 := by intro e; rw [e] at t1; cases t1
  have hin : m = inTree st T ⟨ok, op, od, ov, ofl⟩ := HMk.out.symm.trans (stepOf_in (by simp only []; omega) n1)
  have HIn := Lib.hid hin
  clear hin HMk n1
  go_upto_region 6 with (go_at_call 42; refine (needs_any ok _).mono ?_; rintro e w3 ⟨rfl, hb3⟩; replace hb3 := Lib.hid hb3)
  generalize hw4 : World.alloc w3 (Obj.cells _ _) = w4
  obtain ⟨nb, hnb⟩ : ∃ nb, w3.heap.size = nb := ⟨_, rfl⟩
  rw [hnb]
  have hM4 := (HM.out.after hb3.out).after (hw4 ▸ ((Below.refl w3.heap.size w3).alloc (Nat.le_refl _) _))
  have hN4 : NeedAt ok nb w4 := by rw [← hw4, ← hnb]; exact heap_alloc_new w3 _
  have HM4 := Lib.hid hM4
  have HN4 := Lib.hid hN4
  clear hw4 hM4 hN4 hb3 hnb c0 c1 c2 c3 c4 HM
  obtain ⟨c0, c1, c2, c3, c4⟩ := HM4.out.op
  obtain ⟨k0, k1, k2, k3, k3f⟩ := HM4.out.1.cells
  simp only [] at c0 c1 c2 c3 c4
  go_cut [7, 8] from 36 (fun s7 s8 wd => PlayMid w B b r T ses st cv C ⟨ok, op, od, ov, ofl⟩ nb s7 s8 wd)
  case first =>
    --[
    have hka : ∀ W, Below w4.heap.size w4 W → W.cell? ⟨b, 0, none⟩ = some (.map (some r)) ∧ W.cell? ⟨w.heap.size, 1, none⟩ = some (.string op) := fun W hb =>
      ⟨(hb.cell (p := ⟨b, 0, none⟩) HM4.out.1.lt.1).trans k0, (hb.cell (p := ⟨w.heap.size, 1, none⟩) (Array.getElem?_eq_some_iff.1 HM4.out.2.2.1).1).trans c1⟩
    cases hl : look T op with
    | some y =>
      have hlk : ∀ W, Below w4.heap.size w4 W → (Instr.lookup 66 (.map (some r)) (.string op) true).run Tryd.prog W = .ok (.tuple #[y.val, .bool true]) W := fun W hb => (HM4.out.1.after hb).map.look_some und_map und_str hl
      obtain ⟨yp, yd, yv, ym, yc, yo, yn⟩ := y
      simp only [Node.val, Node.cells] at hlk
      have HL2 := Lib.hid hl
      clear hl
      go_region_held3 (fun w' => w'.cell? ⟨b, 0, none⟩ = some (.map (some r)) ∧ w'.cell? ⟨w.heap.size, 1, none⟩ = some (.string op) ∧ (Instr.lookup 66 (.map (some r)) (.string op) true).run Tryd.prog w' = .ok (.tuple #[.agg #[.string yp, .string yd, .int .i64 yv, .int .i64 ym, .int .i64 yc, .int .i64 yo, .int .i64 yn], .bool true]) w')
        (first
          | exact ⟨(hka _ (Below.refl _ _).drew).1, (hka _ (Below.refl _ _).drew).2, hlk _ (Below.refl _ _).drew⟩
          | exact ⟨(hka _ (((Below.refl _ _).alloc (Nat.le_refl _) _).drew)).1, (hka _ (((Below.refl _ _).alloc (Nat.le_refl _) _).drew)).2, hlk _ (((Below.refl _ _).alloc (Nat.le_refl _) _).drew)⟩)
        (fail)
      all_goals
        simp only [Exit.then]
        go_step
        go_meet
        case rel => exact HM4.out.found (x0 := ⟨yp, yd, yv, ym, yc, yo, yn⟩) (is := true) HN4.out (fun _ => HL2.out) (fun h => by cases h)
    | none =>
      have hlk : ∀ W, Below w4.heap.size w4 W → (Instr.lookup 66 (.map (some r)) (.string op) true).run Tryd.prog W = .ok (.tuple #[zeroNode.val, .bool false]) W := fun W hb => (HM4.out.1.after hb).map.look_none und_map und_str hl (zero_full W)
      simp only [zeroNode, Node.val, Node.cells] at hlk
      have HL2 := Lib.hid hl
      clear hl
      go_region_held3 (fun w' => w'.cell? ⟨b, 0, none⟩ = some (.map (some r)) ∧ w'.cell? ⟨w.heap.size, 1, none⟩ = some (.string op) ∧ (Instr.lookup 66 (.map (some r)) (.string op) true).run Tryd.prog w' = .ok (.tuple #[.agg #[.string ⟨#[]⟩, .string ⟨#[]⟩, .int .i64 0, .int .i64 0, .int .i64 0, .int .i64 0, .int .i64 0], .bool false]) w')
        (first
          | exact ⟨(hka _ (Below.refl _ _).drew).1, (hka _ (Below.refl _ _).drew).2, hlk _ (Below.refl _ _).drew⟩
          | exact ⟨(hka _ (((Below.refl _ _).alloc (Nat.le_refl _) _).drew)).1, (hka _ (((Below.refl _ _).alloc (Nat.le_refl _) _).drew)).2, hlk _ (((Below.refl _ _).alloc (Nat.le_refl _) _).drew)⟩)
        (fail)
      all_goals
        simp only [Exit.then]
        go_step
        go_meet
        case rel => exact HM4.out.found (x0 := zeroNode) (is := false) HN4.out (fun h => by cases h) (fun _ => HL2.out)
    --]
  case rest =>
  obtain ⟨ba, x0, is, rfl, rfl, hyes, hno, hM5, hN5, hab, hlt⟩ := hcut
  have HYes := Lib.hid hyes
  have HNo := Lib.hid hno
  have HM5 := Lib.hid hM5
  have HN5 := Lib.hid hN5
  have HAb := Lib.hid hab
  have HLt := Lib.hid hlt
  clear hyes hno hM5 hN5 hab hlt c0 c1 c2 c3 c4 k0 k1 k2 k3 k3f HM4 HN4
  obtain ⟨c0, c1, c2, c3, c4⟩ := HM5.out.op
  simp only [] at c0 c1 c2 c3 c4
  have hpar := parse_any op wc (HE.out.after HM5.out.2.1) HS.out
  obtain ⟨⟨pl, pc⟩, hpc⟩ : ∃ q, parse op.data.toList = q := ⟨_, rfl⟩
  unfold ParsePost at hpar
  rw [hpc] at hpar
  simp only [] at hpar
  have HPc := Lib.hid hpc
  clear hpc
  go_upto_region 8 with (go_at_call 16; refine hpar.mono ?_; rintro e w6 ⟨v, rfl, hpn, hb6⟩; clear hpn; replace hb6 := Lib.hid hb6)
  have HM6 := Lib.hid (HM5.out.after hb6.out)
  have HN6 := Lib.hid (HN5.out.after hb6.out)
  have HAb6 : Hid (w6.heap[ba]? = some (.cells x0.cells.toArray 43)) := (hb6.out.block ba (Array.getElem?_eq_some_iff.1 HAb.out).1).trans HAb.out
  clear hpar c0 c1 c2 c3 c4 HM5 HN5 HAb hb6
  obtain ⟨c0, c1, c2, c3, c4⟩ := HM6.out.op
  simp only [] at c0 c1 c2 c3 c4
  rcases Bool.eq_false_or_eq_true (pc != 0) with t9 | t9
  · --[
    go_wp2_with (with_reducible show wpList _ _ _ (Oper.mk _ (.store 54 _ _) _ _ _ _ :: _) _ _; refine stop ?_)
    unfold Stop
    have hm : m = .no T 10 := HIn.out.trans (inTree_place (by rw [HPc.out]; simpa using t9))
    subst hm
    refine wpList_store_row rfl _ (.tmp 4) (.tmp 55) rfl (w.heap.size + 1) _ rfl rfl _ _ HM6.out.2.2.2 info_res rfl (by simp [Value.oneCell']) ?_
    go_wp2_with fail
    refine bodyPost_ret (v := .tuple #[zeroRes.val (.slice none 0 0), .int .i64 10]) ?_ rfl ?_
    · refine results_res (p := 4) (u := 5) ?_ _ _ (w.heap.size + 1) _ _ ?_ (setRow_heap _ _ _ _ _ _ HM6.out.2.2.2) ?_ <;> rfl
    show StepPost B b r ses st 10 zeroRes T (C ++ []) w _ _
    rw [List.append_nil]
    exact HM6.out.refused 10
    --]
  have hp9 : ¬ (parse op.data.toList).2 ≠ 0 := by rw [HPc.out]; simpa using t9
  have HP9 := Lib.hid hp9
  clear hp9 HPc
  obtain ⟨q0, q1, q2⟩ := HN6.out.cells
  obtain ⟨nr, hnr⟩ : ∃ nr, needRoot ok = nr := ⟨_, rfl⟩
  obtain ⟨nd, hnd⟩ : ∃ nd, needData ok = nd := ⟨_, rfl⟩
  obtain ⟨nv, hnv⟩ : ∃ nv, needVersion ok = nv := ⟨_, rfl⟩
  rw [hnr] at q0
  rw [hnd] at q1
  rw [hnv] at q2
  have HNr := Lib.hid hnr
  have HNd := Lib.hid hnd
  have HNv := Lib.hid hnv
  clear hnr hnd hnv
  go_upto_region 10 with fail
  go_cut [56] from 57 (fun s we => we = w6 ∧ ∃ z, s = .bool z ∧ (z = true → needRoot ok = true ∧ op.data.toList = [47]) ∧ (z = false → ¬ (needRoot ok = true ∧ op.data.toList = [47])))
  case first =>
    --[
    cases nr
    · go_wp2_with fail
      go_meet
      case rel => exact ⟨rfl, false, rfl, fun h => (by cases h), fun _ h => by rw [HNr.out] at h; cases h.1⟩
    · rcases Bool.eq_false_or_eq_true (op.toList == [47]) with t | t
      · have HT1 := Lib.hid t
        go_wp2_with fail
        go_meet
        case rel => exact ⟨rfl, true, rfl, fun _ => ⟨HNr.out, by have := HT1.out; rw [ByteArray.toList_eq] at this; simpa using this⟩, fun h => by cases h⟩
      · have HT1 := Lib.hid t
        go_wp2_with fail
        go_meet
        case rel => exact ⟨rfl, false, rfl, fun h => (by cases h), fun _ h => by have := HT1.out; rw [ByteArray.toList_eq, h.2] at this; cases this⟩
    --]
  case rest =>
  obtain ⟨rfl, z, rfl, hz1, hz2⟩ := hcut
  cases z
  rotate_left
  · --[
    have HZ := Lib.hid (hz1 rfl)
    clear hz1 hz2
    go_wp2_with (with_reducible show wpList _ _ _ (Oper.mk _ (.store 54 _ _) _ _ _ _ :: _) _ _; refine stop ?_)
    unfold Stop
    have hm : m = .no T 47 := HIn.out.trans (inTree_root HP9.out HZ.out)
    subst hm
    refine wpList_store_row rfl _ (.tmp 4) (.tmp 64) rfl (w.heap.size + 1) _ rfl rfl _ _ HM6.out.2.2.2 info_res rfl (by simp [Value.oneCell']) ?_
    go_wp2_with fail
    refine bodyPost_ret (v := .tuple #[zeroRes.val (.slice none 0 0), .int .i64 47]) ?_ rfl ?_
    · refine results_res (p := 4) (u := 5) ?_ _ _ (w.heap.size + 1) _ _ ?_ (setRow_heap _ _ _ _ _ _ HM6.out.2.2.2) ?_ <;> rfl
    show StepPost B b r ses st 47 zeroRes T (C ++ []) w _ _
    rw [List.append_nil]
    exact HM6.out.refused 47
    --]
  have HR := Lib.hid (hz2 rfl)
  clear hz1 hz2
  go_upto_region 12 with fail
  go_cut [65] from 66 (fun s we => we = wc ∧ ∃ z, s = .bool z ∧ (z = true → needData ok = true ∧ 64 < od.size) ∧ (z = false → ¬ (needData ok = true ∧ 64 < od.size)))
  case first =>
    --[
    cases nd
    · go_wp2_with fail
      go_meet
      case rel => exact ⟨rfl, false, rfl, fun h => (by cases h), fun _ h => by rw [HNd.out] at h; cases h.1⟩
    · by_cases t : (64 : Int) < (od.size : Int)
      · have HT1 : Hid (64 < od.size) := by show 64 < od.size; omega
        go_wp2_with fail
        go_meet
        case rel => exact ⟨rfl, true, rfl, fun _ => ⟨HNd.out, HT1.out⟩, fun h => by cases h⟩
      · have HT1 : Hid (¬ 64 < od.size) := by show ¬ 64 < od.size; omega
        go_wp2_with fail
        go_meet
        case rel => exact ⟨rfl, false, rfl, fun h => (by cases h), fun _ h => HT1.out h.2⟩
    --]
  case rest =>
  obtain ⟨rfl, z, rfl, hz1, hz2⟩ := hcut
  cases z
  rotate_left
  · --[
    have HZ := Lib.hid (hz1 rfl)
    clear hz1 hz2
    go_wp2_with (with_reducible show wpList _ _ _ (Oper.mk _ (.store 54 _ _) _ _ _ _ :: _) _ _; refine stop ?_)
    unfold Stop
    have hm : m = .no T 45 := HIn.out.trans (inTree_large HP9.out HR.out HZ.out)
    subst hm
    refine wpList_store_row rfl _ (.tmp 4) (.tmp 74) rfl (w.heap.size + 1) _ rfl rfl _ _ HM6.out.2.2.2 info_res rfl (by simp [Value.oneCell']) ?_
    go_wp2_with fail
    refine bodyPost_ret (v := .tuple #[zeroRes.val (.slice none 0 0), .int .i64 45]) ?_ rfl ?_
    · refine results_res (p := 4) (u := 5) ?_ _ _ (w.heap.size + 1) _ _ ?_ (setRow_heap _ _ _ _ _ _ HM6.out.2.2.2) ?_ <;> rfl
    show StepPost B b r ses st 45 zeroRes T (C ++ []) w _ _
    rw [List.append_nil]
    exact HM6.out.refused 45
    --]
  have HL := Lib.hid (hz2 rfl)
  clear hz1 hz2
  cases is
  · --[
    have HN := Lib.hid (HNo.out rfl)
    go_wp2_with (with_reducible show wpList _ _ _ (Oper.mk _ (.store 54 _ _) _ _ _ _ :: _) _ _; refine stop ?_)
    unfold Stop
    have hm : m = .no T 40 := HIn.out.trans (inTree_none HP9.out HR.out HL.out HN.out)
    subst hm
    refine wpList_store_row rfl _ (.tmp 4) (.tmp 78) rfl (w.heap.size + 1) _ rfl rfl _ _ HM6.out.2.2.2 info_res rfl (by simp [Value.oneCell']) ?_
    go_wp2_with fail
    refine bodyPost_ret (v := .tuple #[zeroRes.val (.slice none 0 0), .int .i64 40]) ?_ rfl ?_
    · refine results_res (p := 4) (u := 5) ?_ _ _ (w.heap.size + 1) _ _ ?_ (setRow_heap _ _ _ _ _ _ HM6.out.2.2.2) ?_ <;> rfl
    show StepPost B b r ses st 40 zeroRes T (C ++ []) w _ _
    rw [List.append_nil]
    exact HM6.out.refused 40
    --]
  have hY := HYes.out rfl
  have hon : m = onNode st T ⟨ok, op, od, ov, ofl⟩ x0 := HIn.out.trans (inTree_some HP9.out HR.out HL.out hY)
  have HOn := Lib.hid hon
  have HY := Lib.hid hY
  clear hon hY HIn HP9 HR HL HYes HNo
  obtain ⟨xp, xd, xv, xm, xc, xo, xn⟩ := x0
  have hab := HAb6.out
  simp only [Node.cells] at hab
  obtain ⟨a0, a1, a2, a3, a4, a5, a6⟩ := NodeAt.of hab
  clear hab
  go_upto_region 16 with fail
  go_cut [79] from 80 (fun s we => we = wc ∧ ∃ z, s = .bool z ∧ (z = true → needVersion ok = true ∧ ov ≠ -1 ∧ ov ≠ xv) ∧ (z = false → ¬ (needVersion ok = true ∧ ov ≠ -1 ∧ ov ≠ xv)))
  case first =>
    --[
    cases nv
    · go_wp2_with fail
      go_meet
      case rel => exact ⟨rfl, false, rfl, fun h => (by cases h), fun _ h => by rw [HNv.out] at h; cases h.1⟩
    · rcases Bool.eq_false_or_eq_true (ov != -1) with t | t
      · rcases Bool.eq_false_or_eq_true (ov != xv) with t2 | t2
        · have HT1 := Lib.hid t
          have HT2 := Lib.hid t2
          go_wp2_with fail
          go_meet
          case rel => exact ⟨rfl, true, rfl, fun _ => ⟨HNv.out, by have := HT1.out; simpa using this, by have := HT2.out; simpa using this⟩, fun h => by cases h⟩
        · have HT2 := Lib.hid t2
          go_wp2_with fail
          go_meet
          case rel => exact ⟨rfl, false, rfl, fun h => (by cases h), fun _ h => by have := HT2.out; simp at this; exact h.2.2 this⟩
      · have HT1 := Lib.hid t
        go_wp2_with fail
        go_meet
        case rel => exact ⟨rfl, false, rfl, fun h => (by cases h), fun _ h => by have := HT1.out; simp at this; exact h.2.1 this⟩
    --]
  case rest =>
  obtain ⟨rfl, z, rfl, hz1, hz2⟩ := hcut
  cases z
  rotate_left
  · --[
    have HZ := Lib.hid (hz1 rfl)
    clear hz1 hz2
    go_wp2_with (with_reducible show wpList _ _ _ (Oper.mk _ (.store 54 _ _) _ _ _ _ :: _) _ _; refine stop ?_)
    unfold Stop
    have hm : m = .no T 42 := HOn.out.trans (onNode_version HZ.out)
    subst hm
    refine wpList_store_row rfl _ (.tmp 4) (.tmp 94) rfl (w.heap.size + 1) _ rfl rfl _ _ HM6.out.2.2.2 info_res rfl (by simp [Value.oneCell']) ?_
    go_wp2_with fail
    refine bodyPost_ret (v := .tuple #[zeroRes.val (.slice none 0 0), .int .i64 42]) ?_ rfl ?_
    · refine results_res (p := 4) (u := 5) ?_ _ _ (w.heap.size + 1) _ _ ?_ (setRow_heap _ _ _ _ _ _ HM6.out.2.2.2) ?_ <;> rfl
    show StepPost B b r ses st 42 zeroRes T (C ++ []) w _ _
    rw [List.append_nil]
    exact HM6.out.refused 42
    --]
  have HV := Lib.hid (hz2 rfl)
  clear hz1 hz2 q0 q1 q2
  rcases Bool.eq_false_or_eq_true (ok == 2) with t2 | t2
  · --[
    have e1 : m = setOn st T ⟨xp, xd, xv, xm, xc, xo, xn⟩ od := HOn.out.trans (onNode_set HV.out (by simpa using t2))
    have hcon := set_any wc B b r T ses st cv C ⟨xp, xd, xv, xm, xc, xo, xn⟩ od HM6.out.1 (HVn.out _ (look_mem HY.out).1) HC.out
    rw [← e1] at hcon
    clear e1
    obtain ⟨mc, ⟨rp, rd, rv, rm, rc, ro, rk⟩, mT, mg⟩ := m
    simp only [Node.val, Node.cells] at hcon
    go_wp2_with (go_at_call 43; refine hcon.mono ?_; rintro e w3 ⟨kv, cv', rfl, hk3, hW3, hB3⟩; obtain ⟨ad, cc, rfl, hcc⟩ := own_form hk3; replace hk3 := Lib.hid hk3; replace hW3 := Lib.hid hW3; replace hB3 := Lib.hid hB3; clear hcc; refine stop ?_)
    unfold Stop
    generalize rk.length = rn at *
    have hr3 := HM6.out.resAt hB3.out
    have HR3 := Lib.hid hr3
    clear hr3 hcon c0 c1 c2 c3 c4 a0 a1 a2 a3 a4 a5 a6
    simp only [Res.val]
    go_wp2_with (with_reducible show wpList _ _ _ (Oper.mk _ (.store 54 _ _) _ _ _ _ :: _) _ _; refine stop ?_)
    unfold Stop
    refine wpList_store_row rfl _ (.tmp 4) (.tmp 104) rfl (w.heap.size + 1) _ rfl rfl _ _ HR3.out info_res rfl (by simp [Value.oneCell']) ?_
    go_wp2_with fail
    refine bodyPost_ret (v := .tuple #[.agg #[.string rp, .string rd, .int .i64 rv, .int .i64 rm, .int .i64 rc, .int .i64 ro, .slice ad rn cc], .int .i64 mc]) ?_ rfl ?_
    · refine results_res (p := 4) (u := 5) ?_ _ _ (w.heap.size + 1) _ _ ?_ (setRow_heap _ _ _ _ _ _ HR3.out) ?_ <;> rfl
    exact StepPost.laid (res := ⟨rp, rd, rv, rm, rc, ro, rk⟩) HM6.out hk3.out hW3.out hB3.out _
    --]
  rcases Bool.eq_false_or_eq_true (ok == 3) with t3 | t3
  · --[
    have e1 : m = dropOn T ⟨xp, xd, xv, xm, xc, xo, xn⟩ := HOn.out.trans (onNode_drop HV.out (by simpa using t3))
    have hcon := drop_any wc B b r T ses st cv C ⟨xp, xd, xv, xm, xc, xo, xn⟩ HM6.out.1 (HE.out.after HM6.out.2.1) HP.out HT.out HC.out
    rw [← e1] at hcon
    clear e1
    obtain ⟨mc, ⟨rp, rd, rv, rm, rc, ro, rk⟩, mT, mg⟩ := m
    simp only [Node.val, Node.cells] at hcon
    go_wp2_with (go_at_call 44; refine hcon.mono ?_; rintro e w3 ⟨kv, cv', rfl, hk3, hW3, hB3⟩; obtain ⟨ad, cc, rfl, hcc⟩ := own_form hk3; replace hk3 := Lib.hid hk3; replace hW3 := Lib.hid hW3; replace hB3 := Lib.hid hB3; clear hcc; refine stop ?_)
    unfold Stop
    generalize rk.length = rn at *
    have hr3 := HM6.out.resAt hB3.out
    have HR3 := Lib.hid hr3
    clear hr3 hcon c0 c1 c2 c3 c4 a0 a1 a2 a3 a4 a5 a6
    simp only [Res.val]
    go_wp2_with (with_reducible show wpList _ _ _ (Oper.mk _ (.store 54 _ _) _ _ _ _ :: _) _ _; refine stop ?_)
    unfold Stop
    refine wpList_store_row rfl _ (.tmp 4) (.tmp 111) rfl (w.heap.size + 1) _ rfl rfl _ _ HR3.out info_res rfl (by simp [Value.oneCell']) ?_
    go_wp2_with fail
    refine bodyPost_ret (v := .tuple #[.agg #[.string rp, .string rd, .int .i64 rv, .int .i64 rm, .int .i64 rc, .int .i64 ro, .slice ad rn cc], .int .i64 mc]) ?_ rfl ?_
    · refine results_res (p := 4) (u := 5) ?_ _ _ (w.heap.size + 1) _ _ ?_ (setRow_heap _ _ _ _ _ _ HR3.out) ?_ <;> rfl
    exact StepPost.laid (res := ⟨rp, rd, rv, rm, rc, ro, rk⟩) HM6.out hk3.out hW3.out hB3.out _
    --]
  have n2 : ok ≠ 2 := by intro e; rw [e] at t2; cases t2
  have n3 : ok ≠ 3 := by intro e; rw [e] at t3; cases t3
  have hrd : m = readOn T ⟨xp, xd, xv, xm, xc, xo, xn⟩ ok := HOn.out.trans (onNode_read HV.out n2 n3)
  have HRd := Lib.hid hrd
  clear hrd HOn HV n2 n3
  have hcon := told_any ⟨xp, xd, xv, xm, xc, xo, xn⟩ wc
  simp only [Node.val, Node.cells] at hcon
  go_upto_region 24 with (go_at_call 45; refine hcon.mono ?_; rintro e w7 ⟨rfl, hb7⟩; replace hb7 := Lib.hid hb7; simp only [toldOf, Res.val, noText])
  obtain ⟨rb, hrb⟩ : ∃ rb, w7.heap.size = rb := ⟨_, rfl⟩
  rw [hrb]
  generalize hw8 : World.alloc w7 (Obj.cells _ _) = w8
  have hb8 : Below wc.heap.size wc w8 := by rw [← hw8]; exact hb7.out.alloc hb7.out.size _
  have hr8 : w8.heap[rb]? = some (.cells #[.string xp, .string ⟨#[]⟩, .int .i64 xv, .int .i64 xm, .int .i64 xc, .int .i64 xo, .slice none 0 0] 54) := by rw [← hw8, ← hrb]; exact heap_alloc_new w7 _
  have hl8 : w.heap.size + 1 < rb := by rw [← hrb]; exact Nat.lt_of_lt_of_le (Array.getElem?_eq_some_iff.1 HM6.out.2.2.2).1 hb7.out.size
  have hx8 := (hb8.block ba (Array.getElem?_eq_some_iff.1 HAb6.out).1).trans HAb6.out
  have hne : ba ≠ rb := by rw [← hrb]; exact Nat.ne_of_lt (Nat.lt_of_lt_of_le (Array.getElem?_eq_some_iff.1 HAb6.out).1 hb7.out.size)
  have HM8 := Lib.hid (HM6.out.after hb8)
  have HR8 := Lib.hid hr8
  have HL8 := Lib.hid hl8
  have HX8 := Lib.hid hx8
  have HNe := Lib.hid hne
  clear hw8 hb8 hr8 hl8 hx8 hne hcon hb7 hrb HM6 HAb6 HN6 c0 c1 c2 c3 c4 a0 a1 a2 a3 a4 a5 a6
  obtain ⟨c0, c1, c2, c3, c4⟩ := HM8.out.op
  simp only [] at c0 c1 c2 c3 c4
  have hab := HX8.out
  simp only [Node.cells] at hab
  obtain ⟨a0, a1, a2, a3, a4, a5, a6⟩ := NodeAt.of hab
  obtain ⟨r0, r1, r2, r3, r4, r5, r6, r7⟩ := ResAt.of HR8.out
  clear hab
  rcases Bool.eq_false_or_eq_true (ok == 5) with t5 | t5
  · --[
    have e5 : ok = 5 := by simpa using t5
    have hm : m = ⟨0, ⟨xp, xd, xv, xm, xc, xo, []⟩, T, []⟩ := by rw [HRd.out, e5]; unfold readOn readRes; rw [if_pos rfl, if_neg (by decide)]; rfl
    have HMm := Lib.hid hm
    clear hm e5 HRd
    have f1 := r7 1
    have HM9 := Lib.hid (MakeAt.far HW.out HM8.out (p := ⟨rb, 1, none⟩) HL8.out (.string xd))
    go_wp2_with (with_reducible show wpList _ _ _ (Oper.mk _ (.store 54 _ _) _ _ _ _ :: _) _ _; refine stop ?_)
    unfold Stop
    have hm := HMm.out
    subst hm
    refine wpList_store_row rfl _ (.tmp 4) (.tmp 149) rfl (w.heap.size + 1) _ rfl rfl _ _ HM9.out.2.2.2 info_res rfl (by simp [Value.oneCell']) ?_
    go_wp2_with fail
    refine bodyPost_ret (v := .tuple #[(⟨xp, xd, xv, xm, xc, xo, []⟩ : Res).val (.slice none 0 0), .int .i64 0]) ?_ rfl ?_
    · refine results_res (p := 4) (u := 5) ?_ _ _ (w.heap.size + 1) _ _ ?_ (setRow_heap _ _ _ _ _ _ HM9.out.2.2.2) ?_ <;> rfl
    exact HM9.out.done _ rfl _
    --]
  rcases Bool.eq_false_or_eq_true (ok == 7) with t7 | t7
  rotate_left
  · --[
    have n5 : ok ≠ 5 := by intro e; rw [e] at t5; cases t5
    have n7 : ok ≠ 7 := by intro e; rw [e] at t7; cases t7
    have hm : m = ⟨0, ⟨xp, noText, xv, xm, xc, xo, []⟩, T, []⟩ := by rw [HRd.out]; unfold readOn readRes; rw [if_neg n5, if_neg n7]; rfl
    have HMm := Lib.hid hm
    clear hm n5 n7 HRd
    go_wp2_with (with_reducible show wpList _ _ _ (Oper.mk _ (.store 54 _ _) _ _ _ _ :: _) _ _; refine stop ?_)
    unfold Stop
    have hm := HMm.out
    subst hm
    refine wpList_store_row rfl _ (.tmp 4) (.tmp 149) rfl (w.heap.size + 1) _ rfl rfl _ _ HM8.out.2.2.2 info_res rfl (by simp [Value.oneCell']) ?_
    go_wp2_with fail
    refine bodyPost_ret (v := .tuple #[(⟨xp, noText, xv, xm, xc, xo, []⟩ : Res).val (.slice none 0 0), .int .i64 0]) ?_ rfl ?_
    · refine results_res (p := 4) (u := 5) ?_ _ _ (w.heap.size + 1) _ _ ?_ (setRow_heap _ _ _ _ _ _ HM8.out.2.2.2) ?_ <;> rfl
    exact HM8.out.done _ rfl _
    --]
  have e7 : ok = 7 := by simpa using t7
  have hm : m = ⟨0, ⟨xp, noText, xv, xm, xc, xo, (kidsOf T xp).map nameStr⟩, T, []⟩ := by rw [HRd.out, e7]; unfold readOn readRes; rw [if_neg (by decide), if_pos rfl]; rfl
  have HMm := Lib.hid hm
  clear hm e7 HRd t5
  have hkid := kids_any w8.drew r T xp (HE.out.after HM8.out.drew.2.1) HM8.out.drew.1.map HM8.out.1.sorted HP.out HT.out
  have hkb : ∀ y ∈ kidsOf T xp, y.place.size ≤ maxLen := fun y hy => HP.out y (List.mem_filter.1 hy).1
  have hkl : (kidsOf T xp).length ≤ 1000000000 := Nat.le_trans (List.length_filter_le _ _) HT.out
  obtain ⟨K, hK⟩ : ∃ K, kidsOf T xp = K := ⟨_, rfl⟩
  rw [hK] at hkid hkb hkl
  have HK := Lib.hid hK
  have HKb := Lib.hid hkb
  have HKl := Lib.hid hkl
  clear hK hkb hkl
  obtain ⟨k0, k1, k2, k3, k3f⟩ := HM8.out.1.cells
  have hk9 : ∀ W, Below w8.drew.heap.size w8.drew W → W.cell? ⟨b, 0, none⟩ = some (.map (some r)) ∧ W.cell? ⟨ba, 0, none⟩ = some (.string xp) := fun W hb =>
    ⟨(hb.cell (p := ⟨b, 0, none⟩) HM8.out.1.lt.1).trans k0, (hb.cell (p := ⟨ba, 0, none⟩) (Array.getElem?_eq_some_iff.1 HX8.out).1).trans a0⟩
  go_upto_region 28 with fail
  go_region_held3 (fun w' => w'.cell? ⟨b, 0, none⟩ = some (.map (some r)) ∧ w'.cell? ⟨ba, 0, none⟩ = some (.string xp)) (go_keep)
    ((go_at_call 46; refine hkid.mono ?_; rintro e w9 ⟨v9, rfl, ho9, hb9⟩; have z9 := hk9 w9 hb9; obtain ⟨z91, z92⟩ := z9; obtain ⟨ad, cc, rfl, hcc⟩ := own_form ho9; replace ho9 := Lib.hid ho9; replace hb9 := Lib.hid hb9; replace hcc := Lib.hid hcc))
  simp only [Exit.then]
  go_step
  have hb9' : Below w8.heap.size w8 w9 := (Below.refl _ _).drew.trans hb9.out
  have hM9 := HM8.out.after hb9'
  have hr9 := (hb9'.block rb (Array.getElem?_eq_some_iff.1 HR8.out).1).trans HR8.out
  have hst : ListTo w B b r T ses st cv C ⟨ok, op, od, ov, ofl⟩ rb ⟨xp, noText, xv, xm, xc, xo, []⟩ K (.slice ad K.length cc) 0 w9 :=
    ⟨.slice none 0 0, hM9, hr9, kids_none _ _, own_lower ho9.out (Nat.le_trans HM8.out.2.1.size (Nat.le_refl _)), Nat.zero_le _⟩
  have HSt := Lib.hid hst
  clear hst hM9 hr9 hb9' hb9 ho9 hkid hk9 k0 k1 k2 k3 k3f c0 c1 c2 c3 c4 a0 a1 a2 a3 a4 a5 a6 r0 r1 r2 r3 r4 r5 r6 r7 HM8 HR8 HX8 z91 z92
  go_wp2_with fail
  go_loopg [132] K.length (fun g i wr => ∃ k : Nat, i = .int .i64 k ∧ k + g = K.length ∧ ListTo w B b r T ses st cv C ⟨ok, op, od, ov, ofl⟩ rb ⟨xp, noText, xv, xm, xc, xo, []⟩ K (.slice ad K.length cc) k wr)
  case atStart => exact ⟨0, rfl, by omega, HSt.out⟩
  case round =>
    obtain ⟨k, rfl, hkg, kvv, hM, hr, hk, ho, hle⟩ := hrel
    have HKg := Lib.hid hkg
    clear hkg
    have HMr := Lib.hid hM
    have HRr := Lib.hid hr
    have HKr := Lib.hid hk
    have HOr := Lib.hid ho
    have HLe := Lib.hid hle
    clear hM hr hk ho hle HSt
    have hmax : K.length ≤ 1000000000 := HKl.out
    by_cases hlt : k < K.length
    · --[
      obtain ⟨y, hy⟩ : ∃ y, K[k]? = some y := ⟨_, List.getElem?_eq_getElem hlt⟩
      have hnm := fun W (h : Below w.heap.size w W) => name_any y.place W (HE.out.after h) (HKb.out y (List.mem_of_getElem? hy))
      have hsn : (K.take (k + 1)).map nameStr = (K.take k).map nameStr ++ [nameStr y] := by rw [List.take_add_one, hy]; simp
      obtain ⟨g, cap, he, _⟩ := HOr.out.form (by omega)
      injection he with e1 e2 e3
      subst e1
      subst e3
      clear e2
      have hnr := NodeRow.of (k := k) HOr.out hy
      have hnn : nameStr y = ⟨(nameOf y.place.data.toList).1.toArray⟩ := rfl
      obtain ⟨⟨nm, nc⟩, hnq⟩ : ∃ q, nameOf y.place.data.toList = q := ⟨_, rfl⟩
      unfold ParentPost at hnm
      rw [hnq] at hnm hnn
      simp only [] at hnm hnn
      rw [hnn] at hsn
      have HSn := Lib.hid hsn
      have HY := Lib.hid hy
      clear hsn hy hnn hnq
      obtain ⟨yp, yd, yv, ym, yc, yo, yn⟩ := y
      simp only [] at hnm
      obtain ⟨a0, a1, a2, a3, a4, a5, a6⟩ := hnr
      simp only [] at a0 a1 a2 a3 a4 a5 a6
      have i0 : (0 : Int) ≤ (k : Int) := by omega
      have i1 : (k : Int) < (K.length : Int) := by omega
      go_upto_region 32 with (go_at_call 34; refine (hnm _ (HMr.out.2.1.alloc HMr.out.2.1.size _)).mono ?_; rintro e w11 ⟨rfl, hb11⟩; replace hb11 := Lib.hid hb11)
      have hbw : Below wr.heap.size wr w11 := ((Below.refl _ _).alloc (Nat.le_refl _) _).trans (hb11.out.mono (by simp))
      have hr11 := (hbw.block rb (Array.getElem?_eq_some_iff.1 HRr.out).1).trans HRr.out
      have hk11 : w11.ownsRow w.heap.size 9 1 kvv k (((K.take k).map nameStr).map .string) := by
        have := own_after HKr.out hbw
        rwa [List.length_map, List.length_take, Nat.min_eq_left (by omega)] at this
      have HM11 := Lib.hid (HMr.out.after hbw)
      have HR11 := Lib.hid hr11
      have HK11 := Lib.hid hk11
      have HO11 := Lib.hid (own_after HOr.out hbw)
      obtain ⟨r0, r1, r2, r3, r4, r5, r6, r7⟩ := ResAt.of (xp := xp) (xd := noText) (xv := xv) (xm := xm) (xc := xc) (xo := xo) (kv := kvv) hr11
      clear hbw hr11 hk11 a0 a1 a2 a3 a4 a5 a6 hnm hb11 HMr HRr HKr HOr r7
      go_wp2_with (at_builtin; refine wpList_push rfl (.tmp 143) (.tmp 145) 46 rfl w.heap.size 9 _ 1 16 und_strs info_str rfl (by decide) _ k _ rfl HK11.out w11.heap.size rfl rfl rfl (by simp [Value.oneCell']) ?h63 ?hbytes HM11.out.2.1.size ?_; rotate_right; intro v' w12 ho12 hg12; obtain ⟨ad', cc', rfl, _⟩ := own_form ho12; have hr12 := (hg12.block rb (Array.getElem?_eq_some_iff.1 HR11.out).1 (own_ne HK11.out (fun cur e => by rw [HR11.out] at e; injection e with e; injection e with _ e; exact absurd e (by decide)))).trans HR11.out; have z6 := (ResAt.of (xp := xp) (xd := noText) (xv := xv) (xm := xm) (xc := xc) (xo := xo) (kv := kvv) hr12).c6; have zf := (ResAt.of (xp := xp) (xd := noText) (xv := xv) (xm := xm) (xc := xc) (xo := xo) (kv := kvv) hr12).free 6; replace ho12 := Lib.hid ho12; replace hg12 := Lib.hid hg12; clear hr12)
      case h63 => simp only [maxLen]; omega
      case hbytes => omega
      go_roundg (gk - 1)
      case measure => have := HKg.out; omega
      case rel =>
        exact ⟨k + 1, by go_num, by have := HKg.out; omega, ListTo.next HW.out HM11.out HR11.out (l := (K.take k).map nameStr) (by unfold KidsAt; rw [List.length_map, List.length_take, Nat.min_eq_left (by omega)]; exact HK11.out) HO11.out hg12.out (by rw [List.length_map, List.length_take, Nat.min_eq_left (by omega)]; exact ho12.out) HL8.out HSn.out (by omega)⟩
      --]
    · --[
      have hke : k = K.length := by have := HLe.out; omega
      have hkk : KidsAt w.heap.size wr kvv (K.map nameStr) := by have := HKr.out; rwa [hke, List.take_length] at this
      have hge : ¬ (k : Int) < (K.length : Int) := by omega
      obtain ⟨kad, kcc, hkf, _⟩ := own_form hkk
      rw [List.length_map] at hkf
      subst hkf
      have HKK := Lib.hid hkk
      clear hkk hke
      obtain ⟨r0, r1, r2, r3, r4, r5, r6, r7⟩ := ResAt.of (xp := xp) (xd := noText) (xv := xv) (xm := xm) (xc := xc) (xo := xo) (kv := .slice kad K.length kcc) HRr.out
      clear r7
      go_wp2_with (with_reducible show wpList _ _ _ (Oper.mk _ (.store 54 _ _) _ _ _ _ :: _) _ _; refine stop ?_)
      unfold Stop
      have hm := HMm.out
      rw [HK.out] at hm
      subst hm
      refine wpList_store_row rfl _ (.tmp 4) (.tmp 149) rfl (w.heap.size + 1) _ rfl rfl _ _ HMr.out.2.2.2 info_res rfl (by simp [Value.oneCell']) ?_
      go_wp2_with fail
      refine bodyPost_ret (v := .tuple #[(⟨xp, noText, xv, xm, xc, xo, K.map nameStr⟩ : Res).val (.slice kad K.length kcc), .int .i64 0]) ?_ rfl ?_
      · refine results_res (p := 4) (u := 5) ?_ _ _ (w.heap.size + 1) _ _ ?_ (setRow_heap _ _ _ _ _ _ HMr.out.2.2.2) ?_ <;> rfl
      exact HMr.out.told ⟨xp, noText, xv, xm, xc, xo, K.map nameStr⟩ HKK.out _
      --]
end Go.Proofs.YtpmlfpmedbccaaaDoor
