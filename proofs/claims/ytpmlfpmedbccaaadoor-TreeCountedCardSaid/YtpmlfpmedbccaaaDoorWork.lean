/- A request's work in memory, and what may turn while it is played. -/
import Derived.Test.YtpmlfpmedbccaaaDoorTreeC
import Derived.StillTailTactics
import Derived.Deep.RegionHeld3
import Derived.Deep.AppendLies
import Derived.Deep.DrawnRows
import Derived.Deep.Cut
namespace Go.Proofs.YtpmlfpmedbccaaaDoor
open Go.RowKit
attribute [local go_sem ↓] Go.wp_at_zero Go.wp_at_succ

theorem frozen_drew (w : World) (a : Addr) : w.drew.frozen? a = w.frozen? a := rfl
theorem far_block {w w' : World} {o : Obj} {row : Option Nat} {b : Nat} (h : ((w.alloc o).drew).grownBy w' row) (hb : b < w.heap.size) (hne : some b ≠ row) : w'.heap[b]? = w.heap[b]? :=
  (h.block b (by simp; omega) hne).trans (Below.heap_alloc w o b hb)
theorem far_block' {w w' : World} {o : Obj} {row : Option Nat} {b : Nat} (h : (w.alloc o).grownBy w' row) (hb : b < w.heap.size) (hne : some b ≠ row) : w'.heap[b]? = w.heap[b]? :=
  (h.block b (by simp; omega) hne).trans (Below.heap_alloc w o b hb)
/-- All but the blocks of S are as they were. -/
structure But (S : Nat → Prop) (w w' : World) : Prop where
  os : w'.os = w.os
  tape : w'.tape = w.tape
  output : w'.output = w.output
  size : w.heap.size ≤ w'.heap.size
  block : ∀ k, k < w.heap.size → ¬ S k → w'.heap[k]? = w.heap[k]?
theorem But.refl (S : Nat → Prop) (w : World) : But S w w := ⟨rfl, rfl, rfl, Nat.le_refl _, fun _ _ _ => rfl⟩
theorem But.trans {S S' : Nat → Prop} {a b c : World} (h : But S a b) (k : But S' b c) (hS : ∀ i, i < a.heap.size → ¬ S i → ¬ S' i) : But S a c :=
  ⟨k.os.trans h.os, k.tape.trans h.tape, k.output.trans h.output, Nat.le_trans h.size k.size, fun i hi hn => (k.block i (Nat.lt_of_lt_of_le hi h.size) (hS i hi hn)).trans (h.block i hi hn)⟩
theorem But.after {S : Nat → Prop} {a b c : World} (h : But S a b) (k : Below b.heap.size b c) : But S a c :=
  ⟨k.os.trans h.os, k.tape.trans h.tape, k.output.trans h.output, Nat.le_trans h.size k.size, fun i hi hn => (k.block i (Nat.lt_of_lt_of_le hi h.size)).trans (h.block i hi hn)⟩
theorem But.grown {S : Nat → Prop} {a b c : World} {row : Option Nat} (h : But S a b) (k : b.grownBy c row) (hS : ∀ i, i < a.heap.size → ¬ S i → some i ≠ row) : But S a c :=
  ⟨k.os.trans h.os, k.tape.trans h.tape, k.output.trans h.output, Nat.le_trans h.size k.size, fun i hi hn => (k.block i (Nat.lt_of_lt_of_le hi h.size) (hS i hi hn)).trans (h.block i hi hn)⟩
theorem But.setCell {S : Nat → Prop} {a b : World} (h : But S a b) {p : Addr} (hp : p.block < a.heap.size → S p.block) (u : Value) : But S a (b.setCell p u) :=
  h.grown (row := some p.block) ⟨rfl, rfl, rfl, by simp, fun k _ hne => Below.heap_setCell b p u k (fun e => hne (by rw [e]))⟩ (fun i hi hn e => hn (by cases e; exact hp hi))
theorem But.alloc {S : Nat → Prop} {a b : World} (h : But S a b) (o : Obj) : But S a (b.alloc o) := h.after ((Below.refl _ _).alloc (Nat.le_refl _) _)
theorem But.drew {S : Nat → Prop} {a b : World} (h : But S a b) : But S a b.drew := ⟨h.os, h.tape, h.output, h.size, h.block⟩
theorem But.below {S : Nat → Prop} {a b : World} {B : Nat} (h : But S a b) (hS : ∀ i, S i → B ≤ i) (hB : B ≤ a.heap.size) : Below B a b :=
  ⟨h.os, h.tape, h.output, h.size, fun k hk => h.block k (by omega) (fun s => by have := hS k s; omega)⟩

/-- The blocks that a request's work may turn: its own, its map's, and rows of changes. -/
def Touch (B b r : Nat) (w : World) (i : Nat) : Prop := i = b ∨ i = r ∨ (B ≤ i ∧ ∃ cur, w.heap[i]? = some (.cells cur 58 (0, 0)))
theorem touch_back {B b r : Nat} {a c : World} (h : But (Touch B b r a) a c) : ∀ i, i < a.heap.size → ¬ Touch B b r a i → ¬ Touch B b r c i := by
  intro i hi hn ht
  rcases ht with e | e | ⟨e, cur, hc⟩
  · exact hn (.inl e)
  · exact hn (.inr (.inl e))
  · exact hn (.inr (.inr ⟨e, cur, by rw [← h.block i hi hn]; exact hc⟩))
theorem But.next {B b r : Nat} {a c d : World} (h : But (Touch B b r a) a c) (k : But (Touch B b r c) c d) : But (Touch B b r a) a d := h.trans k (touch_back h)

/-- A request's work in memory. -/
structure WorkAt (w : World) (B b r : Nat) (T : List Node) (ses st : Int) (cv : Value) (C : List Chg) : Prop where
  top : w.heap[b]? = some (.cells #[.map (some r), .int .i64 ses, .int .i64 st, cv] 72 (0, 0))
  map : MapAt w r T
  sorted : Sorted T
  row : w.ownsRow B 58 4 cv C.length (C.flatMap Chg.cells)
  base : B ≤ w.heap.size ∧ B ≤ b ∧ B ≤ r
theorem WorkAt.lt {w : World} {B b r : Nat} {T : List Node} {ses st : Int} {cv : Value} {C : List Chg} (h : WorkAt w B b r T ses st cv C) : b < w.heap.size ∧ r < w.heap.size := ⟨(Array.getElem?_eq_some_iff.1 h.top).1, h.map.lt⟩
theorem WorkAt.after {w w' : World} {B b r : Nat} {T : List Node} {ses st : Int} {cv : Value} {C : List Chg} (h : WorkAt w B b r T ses st cv C) (k : Below w.heap.size w w') : WorkAt w' B b r T ses st cv C :=
  ⟨(k.block b h.lt.1).trans h.top, h.map.of_block (k.block r h.lt.2), h.sorted, own_after h.row k, Nat.le_trans h.base.1 k.size, h.base.2⟩
theorem WorkAt.cells {w : World} {B b r : Nat} {T : List Node} {ses st : Int} {cv : Value} {C : List Chg} (h : WorkAt w B b r T ses st cv C) :
    w.cell? ⟨b, 0, none⟩ = some (.map (some r)) ∧ w.cell? ⟨b, 1, none⟩ = some (.int .i64 ses) ∧ w.cell? ⟨b, 2, none⟩ = some (.int .i64 st) ∧ w.cell? ⟨b, 3, none⟩ = some cv ∧ w.frozen? ⟨b, 3, none⟩ = false := by
  simp [World.cell?, World.frozen?, h.top]

theorem WorkAt.ne {w : World} {B b r : Nat} {T : List Node} {ses st : Int} {cv : Value} {C : List Chg} (h : WorkAt w B b r T ses st cv C) : b ≠ r := fun e => by
  obtain ⟨es, clock, L, h1, _⟩ := h.map
  rw [← e, h.top] at h1
  cases h1
theorem WorkAt.row_ne {w : World} {B b r : Nat} {T : List Node} {ses st : Int} {cv : Value} {C : List Chg} (h : WorkAt w B b r T ses st cv C) : cv.ownBlock ≠ some b ∧ cv.ownBlock ≠ some r := by
  refine ⟨fun e => ?_, fun e => ?_⟩
  · obtain ⟨cur, hc⟩ := own_block h.row e
    rw [h.top] at hc
    injection hc with hc
    injection hc with _ h2
    exact absurd h2 (by decide)
  · obtain ⟨cur, hc⟩ := own_block h.row e
    obtain ⟨es, clock, L, h1, _⟩ := h.map
    rw [h1] at hc
    cases hc
theorem WorkAt.drew {w : World} {B b r : Nat} {T : List Node} {ses st : Int} {cv : Value} {C : List Chg} (h : WorkAt w B b r T ses st cv C) : WorkAt w.drew B b r T ses st cv C := ⟨h.top, h.map, h.sorted, h.row, h.base⟩
/-- The map is turned. -/
theorem WorkAt.turned {w w' : World} {B b r : Nat} {T T' : List Node} {ses st : Int} {cv : Value} {C : List Chg} (h : WorkAt w B b r T ses st cv C) (hm : MapAt w' r T') (hs : Sorted T') (hg : w.grownBy w' (some r)) : WorkAt w' B b r T' ses st cv C :=
  ⟨(hg.block b h.lt.1 (fun e => h.ne (by injection e))).trans h.top, hm, hs, h.row.kept hg (.inr h.row_ne.2), Nat.le_trans h.base.1 hg.size, h.base.2⟩
/-- The changes have grown; then the new slice is laid into the work's last cell. -/
theorem WorkAt.told {w w1 : World} {B b r : Nat} {T : List Node} {ses st : Int} {cv cv' : Value} {C C' : List Chg} (h : WorkAt w B b r T ses st cv C) (hg : w.grownBy w1 cv.ownBlock) (ho : w1.ownsRow B 58 4 cv' C'.length (C'.flatMap Chg.cells)) (hne : cv'.ownBlock ≠ some b) : WorkAt (w1.setCell ⟨b, 3, none⟩ cv') B b r T ses st cv' C' := by
  have hb : w1.heap[b]? = some (.cells #[.map (some r), .int .i64 ses, .int .i64 st, cv] 72 (0, 0)) := (hg.block b h.lt.1 (Ne.symm h.row_ne.1)).trans h.top
  have hlt : b < w1.heap.size := Nat.lt_of_lt_of_le h.lt.1 hg.size
  have hsc : w1.grownBy (w1.setCell ⟨b, 3, none⟩ cv') (some b) := ⟨rfl, rfl, rfl, by simp, fun k _ hk => Below.heap_setCell w1 _ _ k (fun e => hk (by rw [e]))⟩
  refine ⟨?_, (h.map.of_block (hg.block r h.lt.2 (Ne.symm h.row_ne.2))).of_block (hsc.block r (Nat.lt_of_lt_of_le h.lt.2 hg.size) (fun e => h.ne (by injection e with e; exact e.symm))), h.sorted, ho.kept hsc (.inr hne), by simpa using Nat.le_trans h.base.1 hg.size, h.base.2⟩
  show (w1.heap.modify b _)[b]? = _
  rw [Array.getElem?_modify, if_pos rfl, hb]
  rfl

/-- A change is told: behind the append and the store. -/
theorem WorkAt.laid {w w4 : World} {o : Obj} {B b r : Nat} {T : List Node} {ses st : Int} {cv : Value} {C : List Chg} {gg cap : Nat} {c : Chg} (h : WorkAt w B b r T ses st cv C)
    (hown : w4.ownsRow B 58 4 (.slice (some ⟨gg, 0, none⟩) (C.length + 1) cap) (C.length + 1) (C.flatMap Chg.cells ++ c.cells)) (hg : ((w.alloc o).drew).grownBy w4 cv.ownBlock) (hat : cv.ownBlock = some gg ∨ gg = w.heap.size + 1) :
    WorkAt (w4.setCell ⟨b, 3, none⟩ (.slice (some ⟨gg, 0, none⟩) (C.length + 1) cap)) B b r T ses st (.slice (some ⟨gg, 0, none⟩) (C.length + 1) cap) (C ++ [c]) ∧ But (Touch B b r w) w (w4.setCell ⟨b, 3, none⟩ (.slice (some ⟨gg, 0, none⟩) (C.length + 1) cap)) := by
  have hg2 : w.grownBy w4 cv.ownBlock := grown_trans (row := cv.ownBlock) (grown_alloc w o) ⟨hg.os, hg.tape, hg.output, hg.size, hg.block⟩
  have hne : gg ≠ b := by
    have := h.lt
    rcases hat with e | e
    · intro e2; rw [e2] at e; exact h.row_ne.1 e
    · omega
  refine ⟨h.told hg2 (by simpa using hown) (by simpa [Value.ownBlock] using hne), ((But.refl _ _).grown hg2 ?_).setCell (fun _ => .inl rfl) _⟩
  intro i hi hn e
  obtain ⟨cur, hc⟩ := own_block h.row e.symm
  exact hn (.inr (.inr ⟨(h.row.lt i e.symm).1, cur, hc⟩))
theorem WorkAt.laid' {w w4 : World} {o : Obj} {B b r : Nat} {T : List Node} {ses st : Int} {cv : Value} {C : List Chg} {gg cap : Nat} {c : Chg} (h : WorkAt w B b r T ses st cv C)
    (hown : w4.ownsRow B 58 4 (.slice (some ⟨gg, 0, none⟩) (C.length + 1) cap) (C.length + 1) (C.flatMap Chg.cells ++ c.cells)) (hg : (w.alloc o).grownBy w4 cv.ownBlock) (hat : cv.ownBlock = some gg ∨ gg = w.heap.size + 1) :
    WorkAt (w4.setCell ⟨b, 3, none⟩ (.slice (some ⟨gg, 0, none⟩) (C.length + 1) cap)) B b r T ses st (.slice (some ⟨gg, 0, none⟩) (C.length + 1) cap) (C ++ [c]) ∧ But (Touch B b r w) w (w4.setCell ⟨b, 3, none⟩ (.slice (some ⟨gg, 0, none⟩) (C.length + 1) cap)) :=
  h.laid hown (o := o) ⟨hg.os, hg.tape, hg.output, hg.size, hg.block⟩ hat
/-- What is neither the work, nor its map, nor a row of changes stays. -/
theorem WorkAt.keeps {w w' : World} {B b r : Nat} {T : List Node} {ses st : Int} {cv : Value} {C : List Chg} (h : WorkAt w B b r T ses st cv C) (k : But (Touch B b r w) w w') {i : Nat} {cs : Array Value} {t : TypeId} {fr : Nat × Nat} (hi : w.heap[i]? = some (.cells cs t fr)) (ht : t ≠ 58 ∧ t ≠ 72) : w'.heap[i]? = some (.cells cs t fr) := by
  refine (k.block i (Array.getElem?_eq_some_iff.1 hi).1 ?_).trans hi
  rintro (e | e | ⟨_, cur, hc⟩)
  · rw [e, h.top] at hi
    injection hi with hi
    injection hi with _ h2
    exact ht.2 h2.symm
  · obtain ⟨es, clock, L, h1, _⟩ := h.map
    rw [e, h1] at hi
    cases hi
  · rw [hc] at hi
    injection hi with hi
    injection hi with _ h2
    exact ht.1 h2.symm

theorem info_res : (Tryd.prog.info? 54).map (·.size) = some 7 := by kernel_rfl
/-- The result lies in a block of its own. -/
theorem results_res {fn : Func} {p u : Tmp} (h : fn.results = #[.cell p 54, .tmp u]) (tmps : Array Value) (w : World) (g : Nat) (cs : Array Value) (t : TypeId) (hp : tmps.getD p undef = .pointer (some ⟨g, 0, none⟩)) (hg : w.heap[g]? = some (.cells cs t (0, 0))) (hs : cs.size = 7) :
    (results fn tmps).run Tryd.prog w = .ok (.tuple #[.agg cs, tmps.getD u undef]) w := by
  rw [results_cell_tmp h, hp]
  simp [asAddr, run_loadVar_row w g t _ cs (0, 0) _ hg Tryd.underlying54 rfl (by rw [info_res, hs]), Result.andThen]
theorem below_row {B g : Nat} {w0 w : World} (hb : Below B w0 w) (hBg : B ≤ g) (cs : Array Value) : Below B w0 (w.setRow g cs) :=
  ⟨hb.os, hb.tape, hb.output, by simpa using hb.size, fun k hk => (setRow_other w g k cs (by omega)).trans (hb.block k hk)⟩
theorem row_grown (w : World) (g : Nat) (cs : Array Value) : w.grownBy (w.setRow g cs) (some g) := ⟨rfl, rfl, rfl, by simp, fun k _ hne => setRow_other w g k cs (fun e => hne (by rw [e]))⟩
theorem WorkAt.set_row {w : World} {B b r : Nat} {T : List Node} {ses st : Int} {cv : Value} {C : List Chg} (h : WorkAt w B b r T ses st cv C) {R : Nat} {old : Array Value} {t : TypeId} {fr : Nat × Nat} (hR : w.heap[R]? = some (.cells old t fr)) (ht : t ≠ 58 ∧ t ≠ 72) (cs : Array Value) : WorkAt (w.setRow R cs) B b r T ses st cv C := by
  have hb : b ≠ R := fun e => by
    have := h.top
    rw [e, hR] at this
    injection this with this
    injection this with _ h2
    exact ht.2 h2
  have hr : r ≠ R := fun e => by
    obtain ⟨es, clock, L, h1, _⟩ := h.map
    rw [e, hR] at h1
    cases h1
  have hv : cv.ownBlock ≠ some R := fun e => by
    obtain ⟨cur, hc⟩ := own_block h.row e
    rw [hR] at hc
    injection hc with hc
    injection hc with _ h2
    exact ht.1 h2
  exact ⟨(setRow_other w R b cs hb).trans h.top, h.map.of_block (setRow_other w R r cs hr), h.sorted, h.row.kept (row_grown w R cs) (.inr hv), by simpa using h.base.1, h.base.2⟩
theorem two_blocks {w w2 : World} {A R : Array Value} {tA tR : TypeId} (h : (w.alloc (.cells A tA)).alloc (.cells R tR) = w2) :
    Below w.heap.size w w2 ∧ w2.heap[w.heap.size]? = some (.cells A tA) ∧ w2.heap[w.heap.size + 1]? = some (.cells R tR) ∧ w2.heap.size = w.heap.size + 2 := by
  subst h
  exact ⟨((Below.refl _ _).alloc (Nat.le_refl _) _).alloc (by simp) _, heap_alloc2_old w _ _, heap_alloc2_new w _ _, by simp⟩
/-- Behind the changes: the work as it stands, the boxed node, the result's block. -/
def SetMid (w : World) (B b r : Nat) (T : List Node) (ses st : Int) (C : List Chg) (x : Node) (bx br : Nat) (wc : World) : Prop :=
  ∃ cv', WorkAt wc B b r T ses st cv' C ∧ But (Touch B b r w) w wc ∧ wc.heap[bx]? = some (.cells x.cells.toArray 43 (0, 0)) ∧ wc.heap[br]? = some (.cells (zeroRes.val (.slice none 0 0)).cells 54 (0, 0))
def KidsAt (B : Nat) (w' : World) (kv : Value) (l : List ByteArray) : Prop := w'.ownsRow B 9 1 kv l.length (l.map .string)
/-- What a step of a request hands back. -/
def StepPost (B b r : Nat) (ses st : Int) (code : Int) (res : Res) (T' : List Node) (C' : List Chg) (w : World) (e : Ending) (w' : World) : Prop :=
  ∃ kv cv', e = .returned (.tuple #[res.val kv, .int .i64 code]) ∧ KidsAt w.heap.size w' kv res.kids ∧ WorkAt w' B b r T' ses st cv' C' ∧ But (Touch B b r w) w w'
theorem kids_none (B : Nat) (w : World) : KidsAt B w (.slice none 0 0) [] := World.ownsRow_nil _ _ _ _

theorem und_chgs : Tryd.prog.underlying 32 = some (.slice 58) := by kernel_rfl
theorem info_chg : (Tryd.prog.info? 58).map (fun i => (i.zero, i.size, i.bytes)) = some (some (.agg #[.int .i64 0, .string ⟨#[]⟩, .string ⟨#[]⟩, .int .i64 0]), 4, 48) := by kernel_rfl

end Go.Proofs.YtpmlfpmedbccaaaDoor
