/- One element more behind a row of the call's own; maps and iterators beside it. Over any program. -/
import Derived.Test.YtpmlfpmedbccaaaDoorMaps
import Derived.OwnWalk
import Derived.Below
namespace Go.Proofs.YtpmlfpmedbccaaaDoor
open Go.RowKit
/-- A goal at which the walk stands still. -/
def Stop (p : Prop) : Prop := p
theorem stop {p : Prop} (h : Stop p) : p := h
theorem grown_alloc (w : World) (o : Obj) : w.grownBy (w.alloc o) none := ⟨rfl, rfl, rfl, by simp, fun k hk _ => Below.heap_alloc w o k hk⟩
theorem grown_trans {a b c : World} {row : Option Nat} (h : a.grownBy b none) (k : b.grownBy c row) : a.grownBy c row :=
  ⟨k.os.trans h.os, k.tape.trans h.tape, k.output.trans h.output, Nat.le_trans h.size k.size, fun i hi hne => (k.block i (Nat.lt_of_lt_of_le hi h.size) hne).trans (h.block i hi (by simp))⟩
theorem below_none {w w' : World} (h : Below w.heap.size w w') : w.grownBy w' none := ⟨h.os, h.tape, h.output, h.size, fun k hk _ => h.block k hk⟩
theorem own_after {w w' : World} {base : Nat} {e : TypeId} {size : Nat} {v : Value} {n : Nat} {xs : List Value} (h : w.ownsRow base e size v n xs) (hb : Below w.heap.size w w') : w'.ownsRow base e size v n xs := by
  refine h.kept (below_none hb) ?_
  cases hv : v.ownBlock with
  | none => exact .inl rfl
  | some g => exact .inr (by simp)
theorem own_block {w : World} {base : Nat} {e : TypeId} {size : Nat} {v : Value} {n : Nat} {xs : List Value} (h : w.ownsRow base e size v n xs) {g : Nat} (hg : v.ownBlock = some g) : ∃ cur, w.heap[g]? = some (.cells cur e (0, 0)) := by
  rcases h.2 with ⟨rfl, _⟩ | ⟨g', cap, cur, rfl, _, hg', _⟩
  · simp [Value.ownBlock] at hg
  · simp [Value.ownBlock] at hg
    subst hg
    exact ⟨cur, hg'⟩
theorem own_ne {w : World} {base : Nat} {e : TypeId} {size : Nat} {v : Value} {n : Nat} {xs : List Value} (h : w.ownsRow base e size v n xs) {q : Nat} (hq : ∀ cur, w.heap[q]? ≠ some (.cells cur e (0, 0))) : some q ≠ v.ownBlock := by
  intro e
  obtain ⟨cur, hc⟩ := own_block h e.symm
  exact hq cur hc
theorem MapAt.grown {w w' : World} {r : Nat} {T : List Node} {base : Nat} {e : TypeId} {size : Nat} {v : Value} {n : Nat} {xs : List Value} (h : MapAt w r T) (ho : w.ownsRow base e size v n xs) (hg : w.grownBy w' v.ownBlock) : MapAt w' r T := by
  refine h.of_block (hg.block r h.lt (own_ne ho ?_))
  obtain ⟨es, clock, L, h1, _⟩ := h
  intro cur e
  rw [h1] at e
  cases e
theorem Ranging.grown {w w' : World} {q r : Nat} {T done : List Node} {base : Nat} {e : TypeId} {size : Nat} {v : Value} {n : Nat} {xs : List Value} (h : Ranging w q r T done) (ho : w.ownsRow base e size v n xs) (hg : w.grownBy w' v.ownBlock) : Ranging w' q r T done := by
  have hl := h.lt
  refine h.keep (hg.block q hl.1 (own_ne ho ?_)) (hg.block r hl.2.1 (own_ne ho ?_)) <;> obtain ⟨es, clock, L, since, seen, c0, D, h1, h2, _⟩ := h <;> intro cur e
  · rw [h1] at e; cases e
  · rw [h2] at e; cases e
theorem Ranging.alloc {w : World} {q r : Nat} {T done : List Node} (h : Ranging w q r T done) (o : Obj) : Ranging (w.alloc o) q r T done :=
  h.keep (Below.heap_alloc w o q h.lt.1) (Below.heap_alloc w o r h.lt.2.1)
theorem Ranging.not_row {w : World} {q r : Nat} {T done : List Node} (h : Ranging w q r T done) (e : TypeId) : ∀ cur, w.heap[q]? ≠ some (.cells cur e (0, 0)) := by
  obtain ⟨es, clock, L, since, seen, c0, D, h1, h2, _⟩ := h
  intro cur e
  rw [h1] at e
  cases e
theorem own_below {a w w' : World} {B base : Nat} {e : TypeId} {size : Nat} {v : Value} {n : Nat} {xs : List Value} (h : Below B a w) (ho : w.ownsRow base e size v n xs) (hg : w.grownBy w' v.ownBlock) (hB : B ≤ base) (hS : B ≤ w.heap.size) : Below B a w' :=
  h.grown hg hS fun k hk => Nat.le_trans hB (ho.lt k hk).1
/-- A node's seven cells, in a block of its own. -/
structure NodeAt (w : World) (b : Nat) (xp xd : ByteArray) (xv xm xc xo xn : Int) : Prop where
  c0 : w.cell? ⟨b, 0, none⟩ = some (.string xp)
  c1 : w.cell? ⟨b, 1, none⟩ = some (.string xd)
  c2 : w.cell? ⟨b, 2, none⟩ = some (.int .i64 xv)
  c3 : w.cell? ⟨b, 3, none⟩ = some (.int .i64 xm)
  c4 : w.cell? ⟨b, 4, none⟩ = some (.int .i64 xc)
  c5 : w.cell? ⟨b, 5, none⟩ = some (.int .i64 xo)
  c6 : w.cell? ⟨b, 6, none⟩ = some (.int .i64 xn)
theorem NodeAt.of {w : World} {b : Nat} {xp xd : ByteArray} {xv xm xc xo xn : Int} {E : TypeId} (h : w.heap[b]? = some (.cells #[.string xp, .string xd, .int .i64 xv, .int .i64 xm, .int .i64 xc, .int .i64 xo, .int .i64 xn] E)) : NodeAt w b xp xd xv xm xc xo xn := by
  constructor <;> simp [World.cell?, h]
section
variable {P : Program}
theorem wpList_push {W : World} {news : List Value} {E : TypeId} {ops : Array Oper} {rest : List Oper} {o : Oper} {a : Act} {Q : Exit → Act → World → Prop} (hgd : o.guard = none) (s x : Operand) (t : TypeId)
    (ho : o.op = .call { callee := .builtin .append, args := #[s, x], argTypes := #[t, t] })
    (base : Nat) (e : TypeId) (z : Value) (size bytes : Nat) (ht : P.underlying t = some (.slice e)) (hinfo : (P.info? e).map (fun i => (i.zero, i.size, i.bytes)) = some (some z, size, bytes)) (hzs : z.cells.size = size) (hsz : 0 < size)
    (v : Value) (n : Nat) (xs : List Value) (hs : a.eval s = v) (hown : W.ownsRow base e size v n xs) (b : Nat) (hb : b = W.heap.size) (hx : a.eval x = .slice (some ⟨b, 0, none⟩) 1 1)
    (hl : news.length = size) (h1 : ∀ u ∈ news, u.oneCell' = true) (h63 : n + 1 ≤ maxLen) (hbytes : (n + 1) * bytes ≤ 140737488355328) (hbase : base ≤ W.heap.size)
    (h : ∀ v' w', w'.ownsRow base e size v' (n + 1) (xs ++ news) → W.grownBy w' v.ownBlock → wpList P ops Q rest (a.put o.dst v') w') : wpList P ops Q (o :: rest) a (W.alloc (.cells news.toArray E)) := by
  obtain ⟨i, hi, hz0, hz1, hz2⟩ := info_parts hinfo
  subst hb
  refine wpList_append_own _ hgd s x t ho base e i z size bytes ht hi hz0 hz1 hz2 hzs hsz v n xs hs (hown.alloc _) ⟨W.heap.size, 0, none⟩ 1 1 news hx (by omega) (fun j u hj => ?_) h1 h63 hbytes (by simp; omega) fun v' w' h2 h3 _ => h v' w' h2 (grown_trans (grown_alloc _ _) h3)
  have hn := heap_alloc_new W (.cells news.toArray E)
  have ha : ((⟨W.heap.size, 0, none⟩ : Addr).add j) = ⟨W.heap.size, j, none⟩ := by
    unfold Addr.add
    split
    · rename_i h; rw [h]
    · simp
  rw [ha]
  unfold World.cell?
  rw [hn]
  simpa using hj
end
end Go.Proofs.YtpmlfpmedbccaaaDoor
