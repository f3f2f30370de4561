/- The walks of package tree, eighth part: Play. -/
import Derived.Test.YtpmlfpmedbccaaaDoorTreeG
import Derived.Test.YtpmlfpmedbccaaaDoorGood
namespace Go.Proofs.YtpmlfpmedbccaaaDoor
open Go.RowKit
attribute [local go_sem ↓] Go.wp_at_zero Go.wp_at_succ

theorem cloneMap_any (w : World) (r : Nat) (T : List Node) (h : MapAt w r T) :
    Calls Tryd.prog 25 #[.map (some r)] w fun e w' => e = .returned (.map (some w.heap.size)) ∧ MapAt w' w.heap.size T ∧ Below w.heap.size w w' ∧ w'.heap.size = w.heap.size + 1 := by
  obtain ⟨es, clock, L, h1, h2⟩ := h
  refine (AnyW.maps_Clone Tryd.cloneFull r es clock w h1).mono fun e w' ⟨he, hw⟩ => ⟨he, ?_⟩
  subst hw
  exact ⟨⟨es, clock, L, heap_alloc_new w _, h2⟩, (Below.refl _ _).alloc (Nat.le_refl _) _, by simp⟩

/-- A reply's four cells. -/
def replyCells (st code at_ : Int) (rv : Value) : List Value := [.int .i64 st, .int .i64 code, .int .i64 at_, rv]
def replyVal (st code at_ : Int) (rv : Value) : Value := .agg (replyCells st code at_ rv).toArray
def RefusedPost (st code at_ : Int) (w : World) (e : Ending) (w' : World) : Prop := e = .returned (.tuple #[replyVal st code at_ (.slice none 0 0), .slice none 0 0]) ∧ Below w.heap.size w w'
theorem info_reply : (Tryd.prog.info? 31).map (·.size) = some 4 := by kernel_rfl
/-- The reply lies in a block of its own. -/
theorem results_reply {fn : Func} {p u : Tmp} (h : fn.results = #[.cell p 31, .tmp u]) (tmps : Array Value) (w : World) (g : Nat) (cs : Array Value) (t : TypeId) (hp : tmps.getD p undef = .pointer (some ⟨g, 0, none⟩)) (hg : w.heap[g]? = some (.cells cs t (0, 0))) (hs : cs.size = 4) :
    (results fn tmps).run Tryd.prog w = .ok (.tuple #[.agg cs, tmps.getD u undef]) w := by
  rw [results_cell_tmp h, hp]
  simp [asAddr, run_loadVar_row w g t _ cs (0, 0) _ hg Tryd.underlying31 rfl (by rw [info_reply, hs]), Result.andThen]
set_option maxHeartbeats 400000 in
theorem refused_any (code at_ st : Int) (sb : Nat) (w : World) (h : w.cell? ⟨sb, 0, none⟩ = some (.int .i64 st)) :
    Calls Tryd.prog 23 #[.int .i64 code, .int .i64 at_, .pointer (some ⟨sb, 0, none⟩)] w (RefusedPost st code at_ w) := by
  have h2 : ∀ o, (w.alloc o).cell? ⟨sb, 0, none⟩ = some (.int .i64 st) := fun o => (World.cell?_of_block (a := ⟨sb, 0, none⟩) (Below.heap_alloc w o sb (World.block_lt_of_cell? w _ h))).trans h
  go_enter Tryd.func23, Tryd.ntmps23
  go_wp2
  refine bodyPost_ret (v := .tuple #[.agg #[.int .i64 st, .int .i64 code, .int .i64 at_, .slice none 0 0], .slice none 0 0]) ?_ rfl ?_
  · refine results_reply (p := 5) (u := 6) ?_ _ _ w.heap.size _ _ ?_ (heap_alloc_new w _) ?_ <;> rfl
  exact ⟨rfl, (Below.refl _ _).alloc (Nat.le_refl _) _⟩

/-! ### Play -/
/-- Ops in memory, one behind the other. -/
def OpsAt (w : World) (v : Value) (ops : List OpV) : Prop :=
  ∃ a c, v = .slice a ops.length c ∧ (∀ o ∈ ops, o.place.size ≤ maxLen) ∧ (ops ≠ [] → ∃ ad, a = some ad ∧ ∀ k o, ops[k]? = some o → ∀ j u, o.cells[j]? = some u → w.cell? ((ad.add (k * 5)).add j) = some u)
theorem OpsAt.after {w w' : World} {v : Value} {ops : List OpV} (h : OpsAt w v ops) (hb : Below w.heap.size w w') : OpsAt w' v ops := by
  obtain ⟨a, c, h1, h2, h3⟩ := h
  refine ⟨a, c, h1, h2, fun hne => ?_⟩
  obtain ⟨ad, h4, h5⟩ := h3 hne
  exact ⟨ad, h4, fun k o hk j u hu => (hb.cell (World.block_lt_of_cell? w _ (h5 k o hk j u hu))).trans (h5 k o hk j u hu)⟩
theorem own_move {w w' : World} {base : Nat} {e : TypeId} {size : Nat} {v : Value} {n : Nat} {xs : List Value} (h : w.ownsRow base e size v n xs) (hm : ∀ g cur, v.ownBlock = some g → w.heap[g]? = some (.cells cur e (0, 0)) → w'.heap[g]? = w.heap[g]?) : w'.ownsRow base e size v n xs := by
  obtain ⟨h1, h2⟩ := h
  refine ⟨h1, ?_⟩
  rcases h2 with h2 | ⟨g, cap, cur, rfl, hg, hh, r⟩
  · exact .inl h2
  · exact .inr ⟨g, cap, cur, rfl, hg, (hm g cur (by simp [Value.ownBlock]) hh).trans hh, r⟩
theorem own_lt' {w : World} {base : Nat} {e : TypeId} {size : Nat} {v : Value} {n : Nat} {xs : List Value} (h : w.ownsRow base e size v n xs) {k : Nat} (hk : v.ownBlock = some k) : base ≤ k ∧ k < w.heap.size := h.lt k hk
/-- Blocks of one type are as they were. -/
def Keeps (e : TypeId) (w w' : World) : Prop := ∀ (g : Nat) (cur : Array Value), w.heap[g]? = some (.cells cur e (0, 0)) → w'.heap[g]? = w.heap[g]?
theorem Keeps.below {e : TypeId} {w w' : World} (h : Below w.heap.size w w') : Keeps e w w' := fun g _ hg => h.block g (Array.getElem?_eq_some_iff.1 hg).1
theorem Keeps.trans {e : TypeId} {a b c : World} (h : Keeps e a b) (k : Keeps e b c) : Keeps e a c := fun g cur hg => (k g cur ((h g cur hg).trans hg)).trans (h g cur hg)
theorem Keeps.own {e : TypeId} {w w' : World} (hk : Keeps e w w') {base : Nat} {size : Nat} {v : Value} {n : Nat} {xs : List Value} (h : w.ownsRow base e size v n xs) : w'.ownsRow base e size v n xs := own_move h fun g cur _ hg => hk g cur hg
theorem Keeps.kids {w w' : World} (hk : Keeps 9 w w') {B : Nat} {kv : Value} {l : List ByteArray} (h : KidsAt B w kv l) : KidsAt B w' kv l := hk.own h
theorem Keeps.setCell {e t : TypeId} {w : World} {p : Addr} {cs : Array Value} {fr : Nat × Nat} (h : w.heap[p.block]? = some (.cells cs t fr)) (ht : t ≠ e) (u : Value) : Keeps e w (w.setCell p u) := fun g cur hg => Below.heap_setCell w p u g fun he => by
  rw [he, h] at hg
  injection hg with hg
  injection hg with _ h2
  exact ht h2
theorem Keeps.setRow {e t : TypeId} {w : World} {R : Nat} {old : Array Value} {fr : Nat × Nat} (h : w.heap[R]? = some (.cells old t fr)) (ht : t ≠ e) (cs : Array Value) : Keeps e w (w.setRow R cs) := fun g cur hg => setRow_other w R g cs fun he => by
  rw [he, h] at hg
  injection hg with hg
  injection hg with _ h2
  exact ht h2
theorem Keeps.grown {e t : TypeId} {w w' : World} {base size n : Nat} {v : Value} {xs : List Value} (ho : w.ownsRow base t size v n xs) (hg : w.grownBy w' v.ownBlock) (ht : t ≠ e) : Keeps e w w' := fun g cur hc => hg.block g (Array.getElem?_eq_some_iff.1 hc).1 fun he => by
  obtain ⟨cur2, h2⟩ := own_block ho he.symm
  rw [hc] at h2
  injection h2 with h2
  injection h2 with _ h2
  exact ht h2.symm
theorem WorkAt.keepsType {w w' : World} {B b r : Nat} {T : List Node} {ses st : Int} {cv : Value} {C : List Chg} (h : WorkAt w B b r T ses st cv C) (k : But (Touch B b r w) w w') {e : TypeId} (ht : e ≠ 58 ∧ e ≠ 72) : Keeps e w w' := fun _ _ hg => (h.keeps k hg ht).trans hg.symm
theorem Keeps.drew {e : TypeId} (w : World) : Keeps e w w.drew := fun _ _ _ => rfl
/-- No block is shared. -/
def Apart (a b : Value) : Prop := ∀ k, a.ownBlock = some k → b.ownBlock ≠ some k
def Res.row (r : Res) (kv : Value) : List Value := [.string r.place, .string r.data, .int .i64 r.version, .int .i64 r.made, .int .i64 r.changed, .int .i64 r.owner, kv]
/-- Results in memory, one behind the other, each with its list of children. -/
def ResRow (B : Nat) (w : World) (v : Value) (rs : List Res) : Prop :=
  ∃ ks : List Value, ks.length = rs.length ∧ w.ownsRow B 54 7 v rs.length ((rs.zip ks).flatMap fun x => x.1.row x.2) ∧ (∀ (i : Nat) r kv, rs[i]? = some r → ks[i]? = some kv → KidsAt B w kv r.kids) ∧ ks.Pairwise Apart
theorem ResRow.none (B : Nat) (w : World) : ResRow B w (.slice none 0 0) [] := ⟨[], rfl, World.ownsRow_nil _ _ _ _, fun i r kv h => by simp at h, .nil⟩
theorem ResRow.keep {B : Nat} {w w' : World} {v : Value} {rs : List Res} (h : ResRow B w v rs) (h1 : Keeps 54 w w') (h2 : Keeps 9 w w') : ResRow B w' v rs := by
  obtain ⟨ks, a, b, c, d⟩ := h
  exact ⟨ks, a, h1.own b, fun i r kv hr hk => h2.own (c i r kv hr hk), d⟩
theorem ResRow.lower {B B' : Nat} {w : World} {v : Value} {rs : List Res} (h : ResRow B w v rs) (hb : B' ≤ B) : ResRow B' w v rs := by
  obtain ⟨ks, a, b, c, d⟩ := h
  exact ⟨ks, a, own_lower b hb, fun i r kv hr hk => (c i r kv hr hk).lower hb, d⟩
theorem ResRow.own {B : Nat} {w : World} {v : Value} {rs : List Res} (h : ResRow B w v rs) : ∃ xs, w.ownsRow B 54 7 v rs.length xs := by
  obtain ⟨ks, a, b, _⟩ := h
  exact ⟨_, b⟩
/-- A result more: its children's list is younger than all. -/
theorem ResRow.push {B M : Nat} {w w' : World} {v v' kv : Value} {rs : List Res} {r : Res} (h : ResRow B w v rs) (hk2 : Keeps 9 w w') (hkid : KidsAt B w' kv r.kids) (hlt : w.heap.size ≤ M) (hnew : ∀ k, kv.ownBlock = some k → M ≤ k)
    (ho : ∀ xs, w.ownsRow B 54 7 v rs.length xs → w'.ownsRow B 54 7 v' (rs.length + 1) (xs ++ r.row kv)) : ResRow B w' v' (rs ++ [r]) := by
  obtain ⟨ks, a, b, c, d⟩ := h
  refine ⟨ks ++ [kv], by simp [a], ?_, fun i r2 k2 h1 h2 => ?_, ?_⟩
  · have := ho _ b
    rw [List.zip_append a.symm]
    simpa using this
  · by_cases hi : i < rs.length
    · rw [List.getElem?_append_left hi] at h1
      rw [List.getElem?_append_left (by omega)] at h2
      exact hk2.own (c i r2 k2 h1 h2)
    · have : i = rs.length := by have := (List.getElem?_eq_some_iff.1 h1).1; simp at this; omega
      subst this
      rw [List.getElem?_append_right (Nat.le_refl _)] at h1
      rw [List.getElem?_append_right (by omega), a] at h2
      simp at h1 h2
      subst h1 h2
      exact hkid
  · rw [List.pairwise_append]
    refine ⟨d, by simp, fun x hx y hy => ?_⟩
    rw [List.mem_singleton] at hy
    subst hy
    intro k hk he
    obtain ⟨i, hi, rfl⟩ := List.getElem_of_mem hx
    have := (own_lt' (c i _ _ (List.getElem?_eq_getElem (by omega)) (List.getElem?_eq_getElem hi)) hk).2
    have := hnew k he
    omega

/-- While a request is being played: the stamp's box, the reply that is to be handed back. -/
structure PlayAt (w : World) (st : Int) (wc : World) : Prop where
  below : Below w.heap.size w wc
  stamp : wc.heap[w.heap.size]? = some (.cells #[.int .i64 st] 3 (0, 0))
  reply : wc.heap[w.heap.size + 1]? = some (.cells #[.int .i64 0, .int .i64 0, .int .i64 0, .slice none 0 0] 31 (0, 0))
theorem PlayAt.after {w wc wd : World} {st : Int} (h : PlayAt w st wc) (hb : Below wc.heap.size wc wd) : PlayAt w st wd :=
  ⟨h.below.trans (hb.mono h.below.size), (hb.block _ (Array.getElem?_eq_some_iff.1 h.stamp).1).trans h.stamp, (hb.block _ (Array.getElem?_eq_some_iff.1 h.reply).1).trans h.reply⟩
theorem PlayAt.cell {w wc : World} {st : Int} (h : PlayAt w st wc) : wc.cell? ⟨w.heap.size, 0, none⟩ = some (.int .i64 st) := by simp [World.cell?, h.stamp]
theorem PlayAt.size {w wc : World} {st : Int} (h : PlayAt w st wc) : w.heap.size + 1 < wc.heap.size := (Array.getElem?_eq_some_iff.1 h.reply).1
/-- What Play hands back, and what it leaves. -/
def PlayPost (p r : Nat) (st : Int) (m : Played) (w : World) (e : Ending) (w' : World) : Prop :=
  ∃ rv cv r', e = .returned (.tuple #[replyVal st m.code m.at_ rv, cv]) ∧ ResRow w.heap.size w' rv m.res ∧ w'.ownsRow w.heap.size 58 4 cv m.chg.length (m.chg.flatMap Chg.cells) ∧ TreeAt w' p r' m.T ∧ (r' = r ∨ w.heap.size ≤ r') ∧ But (fun i => i = p) w w'
theorem PlayAt.refused {w wc : World} {p r : Nat} {T : List Node} {st : Int} (h : PlayAt w st wc) (hT : TreeAt w p r T) (code at_ : Int) (cs : Array Value) : PlayPost p r st ⟨code, at_, [], [], T⟩ w (.returned (.tuple #[replyVal st code at_ (.slice none 0 0), .slice none 0 0])) (wc.setRow (w.heap.size + 1) cs) :=
  have hb : Below w.heap.size w (wc.setRow (w.heap.size + 1) cs) := below_row h.below (by omega) cs
  ⟨_, _, r, rfl, ResRow.none _ _, World.ownsRow_nil _ _ _ _, hT.below hb (Nat.le_refl _), .inl rfl, (But.refl _ _).after hb⟩

/-- Between two ops: the work so far, the reply's own block, what is still to come. -/
def LoopAt (w : World) (b rm : Nat) (ses st : Int) (T : List Node) (ops : List OpV) (m : Played) (qb k : Nat) (wr : World) : Prop :=
  ∃ T' cv rv rs cs, WorkAt wr w.heap.size b rm T' ses st cv cs ∧ PlayAt w st wr ∧ wr.heap[qb]? = some (.cells (replyCells st 0 0 rv).toArray 31 (0, 0)) ∧ ResRow w.heap.size wr rv rs ∧ Good T' ∧ playGo ses st T (ops.drop k) k T' rs cs = m ∧ rs.length = k ∧ cs.length ≤ k
theorem own_unique {w : World} {base base' : Nat} {e e' : TypeId} {size n : Nat} {v : Value} {xs xs' : List Value} (h : w.ownsRow base e size v n xs) (h' : w.ownsRow base' e' size v n xs') : xs = xs' := by
  have l1 := h.1
  have l2 := h'.1
  rcases h.2 with ⟨rfl, h0⟩ | ⟨g, cap, cur, rfl, _, hg, _, _, _, ht⟩
  · subst h0
    rw [List.eq_nil_of_length_eq_zero (l1.trans (Nat.zero_mul _)), List.eq_nil_of_length_eq_zero (l2.trans (Nat.zero_mul _))]
  · rcases h'.2 with ⟨he, h0⟩ | ⟨g', cap', cur', he, _, hg', _, _, _, ht'⟩
    · cases he
    · injection he with e1 _ _
      injection e1 with e1
      injection e1 with e1 _ _
      subst e1
      rw [hg] at hg'
      injection hg' with hg'
      injection hg' with hg' _ _
      subst hg'
      exact ht.symm.trans ht'
theorem PlayAt.touch {w wc wd : World} {st ses st' : Int} {b rm : Nat} {T : List Node} {cv : Value} {C : List Chg} (h : PlayAt w st wc) (hW : WorkAt wc w.heap.size b rm T ses st' cv C) (k : But (Touch w.heap.size b rm wc) wc wd) : PlayAt w st wd :=
  ⟨h.below.trans (k.below (fun i hi => by (rcases hi with e | e | e); exact e ▸ hW.base.2.1; exact e ▸ hW.base.2.2; exact e.1) h.below.size), hW.keeps k h.stamp (by decide), hW.keeps k h.reply (by decide)⟩
theorem und_ress : Tryd.prog.underlying 29 = some (.slice 54) := by kernel_rfl
theorem info_resF : (Tryd.prog.info? 54).map (fun i => (i.zero, i.size, i.bytes)) = some (some (zeroRes.val (.slice none 0 0)), 7, 88) := by kernel_rfl
theorem filled4 {w : World} {b : Nat} {t : TypeId} {c0 c1 c2 c3 : Value} (v0 v1 v2 v3 : Value) (h : w.heap[b]? = some (.cells #[c0, c1, c2, c3] t (0, 0))) :
    ((((w.setCell ⟨b, 0, none⟩ v0).setCell ⟨b, 1, none⟩ v1).setCell ⟨b, 2, none⟩ v2).setCell ⟨b, 3, none⟩ v3).heap[b]? = some (.cells #[v0, v1, v2, v3] t (0, 0)) ∧
    (∀ i, i ≠ b → ((((w.setCell ⟨b, 0, none⟩ v0).setCell ⟨b, 1, none⟩ v1).setCell ⟨b, 2, none⟩ v2).setCell ⟨b, 3, none⟩ v3).heap[i]? = w.heap[i]?) ∧
    w.grownBy ((((w.setCell ⟨b, 0, none⟩ v0).setCell ⟨b, 1, none⟩ v1).setCell ⟨b, 2, none⟩ v2).setCell ⟨b, 3, none⟩ v3) (some b) := by
  have e0 : (w.setCell ⟨b, 0, none⟩ v0).heap[b]? = some (.cells #[v0, c1, c2, c3] t (0, 0)) := by rw [heap_setCell_same w b 0 _ _ _ h]; rfl
  have e1 : ((w.setCell ⟨b, 0, none⟩ v0).setCell ⟨b, 1, none⟩ v1).heap[b]? = some (.cells #[v0, v1, c2, c3] t (0, 0)) := by rw [heap_setCell_same _ b 1 _ _ _ e0]; rfl
  have e2 : (((w.setCell ⟨b, 0, none⟩ v0).setCell ⟨b, 1, none⟩ v1).setCell ⟨b, 2, none⟩ v2).heap[b]? = some (.cells #[v0, v1, v2, c3] t (0, 0)) := by rw [heap_setCell_same _ b 2 _ _ _ e1]; rfl
  have hf : ∀ i, i ≠ b → ((((w.setCell ⟨b, 0, none⟩ v0).setCell ⟨b, 1, none⟩ v1).setCell ⟨b, 2, none⟩ v2).setCell ⟨b, 3, none⟩ v3).heap[i]? = w.heap[i]? := fun i hi => by
    rw [Below.heap_setCell _ _ _ _ hi, Below.heap_setCell _ _ _ _ hi, Below.heap_setCell _ _ _ _ hi, Below.heap_setCell _ _ _ _ hi]
  exact ⟨by rw [heap_setCell_same _ b 3 _ _ _ e2]; rfl, hf, rfl, rfl, rfl, by simp, fun i _ hne => hf i (fun e => hne (by rw [e]))⟩
theorem Keeps.at_ {e t : TypeId} {w w' : World} {b : Nat} {cs : Array Value} {fr : Nat × Nat} (hg : w.grownBy w' (some b)) (hb : w.heap[b]? = some (.cells cs t fr)) (ht : t ≠ e) : Keeps e w w' := fun g cur hc => hg.block g (Array.getElem?_eq_some_iff.1 hc).1 fun he => by
  injection he with he
  rw [he, hb] at hc
  injection hc with hc
  injection hc with _ h2
  exact ht h2
theorem WorkAt.moved {w w' : World} {B b r : Nat} {T : List Node} {ses st : Int} {cv : Value} {C : List Chg} (h : WorkAt w B b r T ses st cv C) (h1 : Keeps 72 w w') (h2 : Keeps 58 w w') (h3 : w'.heap[r]? = w.heap[r]?) (hs : w.heap.size ≤ w'.heap.size) : WorkAt w' B b r T ses st cv C :=
  ⟨(h1 _ _ h.top).trans h.top, h.map.of_block h3, h.sorted, h2.own h.row, Nat.le_trans h.base.1 hs, h.base.2⟩
theorem work_made {w wc w4 : World} {st ses : Int} {T : List Node} {rm : Nat} (hP : PlayAt w st wc) (hb : Below wc.heap.size wc w4) (hm : MapAt w4 rm T) (hS : Sorted T) (hr : wc.heap.size ≤ rm) :
    WorkAt (w4.alloc (.cells #[.map (some rm), .int .i64 ses, .int .i64 st, .slice none 0 0] 72)) w.heap.size w4.heap.size rm T ses st (.slice none 0 0) [] ∧ PlayAt w st (w4.alloc (.cells #[.map (some rm), .int .i64 ses, .int .i64 st, .slice none 0 0] 72)) := by
  have h1 := hP.below.size
  have h2 := hb.size
  exact ⟨⟨heap_alloc_new w4 _, hm.of_block (Below.heap_alloc w4 _ _ hm.lt), hS, World.ownsRow_nil _ _ _ _, by simp; omega, by omega, by omega⟩, (hP.after hb).after ((Below.refl _ _).alloc (Nat.le_refl _) _)⟩
theorem work_filled {w wc w4 : World} {st ses : Int} {T : List Node} {rm b : Nat} {fr : Nat × Nat} {c0 c1 c2 c3 : Value} (hP : PlayAt w st wc) (hb : Below wc.heap.size wc w4) (hm : MapAt w4 rm T) (hq : w4.heap[b]? = some (.cells #[c0, c1, c2, c3] 72 fr)) (hfr : fr = (0, 0)) (hbb : wc.heap.size ≤ b) (hS : Sorted T) (hr : wc.heap.size ≤ rm) :
    WorkAt ((((w4.setCell ⟨b, 0, none⟩ (.map (some rm))).setCell ⟨b, 1, none⟩ (.int .i64 ses)).setCell ⟨b, 2, none⟩ (.int .i64 st)).setCell ⟨b, 3, none⟩ (.slice none 0 0)) w.heap.size b rm T ses st (.slice none 0 0) [] ∧ PlayAt w st ((((w4.setCell ⟨b, 0, none⟩ (.map (some rm))).setCell ⟨b, 1, none⟩ (.int .i64 ses)).setCell ⟨b, 2, none⟩ (.int .i64 st)).setCell ⟨b, 3, none⟩ (.slice none 0 0)) := by
  subst hfr
  have h1 := hP.below.size
  have h2 := hb.size
  have hne : rm ≠ b := fun e => by
    obtain ⟨_, _, _, h3, _⟩ := hm
    rw [e, hq] at h3
    cases h3
  have hbel : Below wc.heap.size wc ((((w4.setCell ⟨b, 0, none⟩ (.map (some rm))).setCell ⟨b, 1, none⟩ (.int .i64 ses)).setCell ⟨b, 2, none⟩ (.int .i64 st)).setCell ⟨b, 3, none⟩ (.slice none 0 0)) := (((hb.setCell hbb _).setCell hbb _).setCell hbb _).setCell hbb _
  have e0 : (w4.setCell ⟨b, 0, none⟩ (.map (some rm))).heap[b]? = some (.cells #[.map (some rm), c1, c2, c3] 72 (0, 0)) := by rw [heap_setCell_same w4 b 0 _ _ _ hq]; rfl
  have e1 := heap_setCell_same _ b 1 _ _ (.int .i64 ses) e0
  have e2 := heap_setCell_same _ b 2 _ _ (.int .i64 st) e1
  have e3 := heap_setCell_same _ b 3 _ _ (.slice none 0 0) e2
  refine ⟨⟨?_, hm.of_block ?_, hS, World.ownsRow_nil _ _ _ _, by simp; omega, by omega, by omega⟩, hP.after hbel⟩
  · rw [e3]; rfl
  · rw [Below.heap_setCell _ _ _ _ hne, Below.heap_setCell _ _ _ _ hne, Below.heap_setCell _ _ _ _ hne, Below.heap_setCell _ _ _ _ hne]

set_option maxRecDepth 100000 in
set_option maxHeartbeats 2000000 in
theorem Play_tree (w : World) (p r : Nat) (T : List Node) (h : TreeAt w p r T) (he : Env w) (hG : Good T) (ses st : Int) (ov : Value) (ops : List OpV) (ho : OpsAt w ov ops) :
    Calls Tryd.prog 9 #[.pointer (some ⟨p, 0, none⟩), .int .i64 ses, .int .i64 st, ov] w (PlayPost p r st (playOf ses st T ops) w) := by
  have H := Lib.hid h
  have HE := Lib.hid he
  have HG := Lib.hid hG
  have HO := Lib.hid ho
  clear h he hG
  obtain ⟨m, hmk⟩ : ∃ m, playOf ses st T ops = m := ⟨_, rfl⟩
  rw [hmk]
  have HMk := Lib.hid hmk
  clear hmk
  obtain ⟨a, c, rfl, hpl, hcell⟩ := ho
  have HPl := Lib.hid hpl
  have HCell := Lib.hid hcell
  clear hpl hcell
  have hc0 := H.out.cell
  go_enter Tryd.func9, Tryd.ntmps9
  go_upto_region 2 with fail
  generalize hw2 : World.alloc (World.alloc w (Obj.cells _ _)) (Obj.cells _ _) = w2
  have hP2 : PlayAt w st w2 := by
    have q := two_blocks hw2
    exact ⟨q.1, q.2.1, q.2.2.1⟩
  have hc2 := (World.cell?_of_block (a := ⟨p, 0, none⟩) (hP2.below.block p H.out.lt.1)).trans hc0
  have hnone := none_tree w2 p r hc2
  have hs2 := hP2.cell
  have HP2 := Lib.hid hP2
  clear hP2 hw2 hc0
  go_upto_region 4 with (go_at_call 24; refine hnone.mono ?_; rintro e w' ⟨rfl, rfl⟩)
  by_cases h4 : (4 : Int) < (ops.length : Int)
  · --[
    have hm : m = .no T 2 := HMk.out.symm.trans (by unfold playOf; rw [if_pos (by omega)])
    have hcon := refused_any 2 0 st w.heap.size w2 hs2
    unfold RefusedPost replyVal replyCells at hcon
    go_wp2_with (go_at_call 23; refine hcon.mono ?_; rintro e w3 ⟨rfl, hb3⟩; replace hb3 := Lib.hid hb3; refine stop ?_)
    unfold Stop
    have HP3 := Lib.hid (HP2.out.after hb3.out)
    go_wp2_with (with_reducible show wpList _ _ _ (Oper.mk _ (.store 31 _ _) _ _ _ _ :: _) _ _; refine stop ?_)
    unfold Stop
    refine wpList_store_row rfl _ (.tmp 8) (.tmp 31) rfl (w.heap.size + 1) _ rfl rfl _ _ HP3.out.reply info_reply rfl (by simp [Value.oneCell']) ?_
    go_wp2_with fail
    refine bodyPost_ret (v := .tuple #[replyVal st 2 0 (.slice none 0 0), .slice none 0 0]) ?_ rfl ?_
    · refine results_reply (p := 8) (u := 9) ?_ _ _ (w.heap.size + 1) _ _ ?_ (setRow_heap _ _ _ _ _ _ HP3.out.reply) ?_ <;> rfl
    rw [hm]
    exact HP3.out.refused H.out _ _ _
    --]
  go_upto_region 6 with fail
  go_cut [33] from 34 (fun s we => we = w2 ∧ ∃ z, s = .bool z ∧ (z = true → ses < 0 ∨ 2147483647 < ses ∨ st < 1 ∨ 2147483647 < st) ∧ (z = false → ¬ (ses < 0 ∨ 2147483647 < ses ∨ st < 1 ∨ 2147483647 < st)))
  case first =>
    --[
    by_cases n1 : ses < 0
    · have N1 := Lib.hid n1
      go_wp2_with fail
      go_meet
      case rel => exact ⟨rfl, true, rfl, fun _ => .inl N1.out, fun h => by cases h⟩
    by_cases n2 : 2147483647 < ses
    · have N1 := Lib.hid n2
      go_wp2_with fail
      go_meet
      case rel => exact ⟨rfl, true, rfl, fun _ => .inr (.inl N1.out), fun h => by cases h⟩
    by_cases n3 : st < 1
    · have N1 := Lib.hid n3
      go_wp2_with fail
      go_meet
      case rel => exact ⟨rfl, true, rfl, fun _ => .inr (.inr (.inl N1.out)), fun h => by cases h⟩
    by_cases n4 : 2147483647 < st
    · have N1 := Lib.hid n4
      go_wp2_with fail
      go_meet
      case rel => exact ⟨rfl, true, rfl, fun _ => .inr (.inr (.inr N1.out)), fun h => by cases h⟩
    · have N1 : Hid (¬ (ses < 0 ∨ 2147483647 < ses ∨ st < 1 ∨ 2147483647 < st)) := by show ¬ _; omega
      go_wp2_with fail
      go_meet
      case rel => exact ⟨rfl, false, rfl, fun h => (by cases h), fun _ => N1.out⟩
    --]
  case rest =>
  obtain ⟨rfl, z, rfl, hz1, hz2⟩ := hcut
  cases z
  rotate_left
  · --[
    have HZ := Lib.hid (hz1 rfl)
    clear hz1 hz2
    have hm : m = .no T 3 := HMk.out.symm.trans (by unfold playOf; rw [if_neg (by omega), if_pos HZ.out])
    have hcon := refused_any 3 0 st w.heap.size wc hs2
    unfold RefusedPost replyVal replyCells at hcon
    go_wp2_with (go_at_call 23; refine hcon.mono ?_; rintro e w3 ⟨rfl, hb3⟩; replace hb3 := Lib.hid hb3; refine stop ?_)
    unfold Stop
    have HP3 := Lib.hid (HP2.out.after hb3.out)
    go_wp2_with (with_reducible show wpList _ _ _ (Oper.mk _ (.store 31 _ _) _ _ _ _ :: _) _ _; refine stop ?_)
    unfold Stop
    refine wpList_store_row rfl _ (.tmp 8) (.tmp 50) rfl (w.heap.size + 1) _ rfl rfl _ _ HP3.out.reply info_reply rfl (by simp [Value.oneCell']) ?_
    go_wp2_with fail
    refine bodyPost_ret (v := .tuple #[replyVal st 3 0 (.slice none 0 0), .slice none 0 0]) ?_ rfl ?_
    · refine results_reply (p := 8) (u := 9) ?_ _ _ (w.heap.size + 1) _ _ ?_ (setRow_heap _ _ _ _ _ _ HP3.out.reply) ?_ <;> rfl
    rw [hm]
    exact HP3.out.refused H.out _ _ _
    --]
  have HNm := Lib.hid (hz2 rfl)
  clear hz1 hz2
  rcases Bool.eq_false_or_eq_true (ops.length == 0) with t0 | t0
  · --[
    have hm : m = .no T 48 := HMk.out.symm.trans (by unfold playOf; rw [if_neg (by omega), if_neg HNm.out, if_pos (List.eq_nil_of_length_eq_zero (by simpa using t0))])
    have t0' : ((ops.length : Int) == 0) = true := by simpa using t0
    clear t0
    have hcon := refused_any 48 0 st w.heap.size wc hs2
    unfold RefusedPost replyVal replyCells at hcon
    go_wp2_with (go_at_call 23; refine hcon.mono ?_; rintro e w3 ⟨rfl, hb3⟩; replace hb3 := Lib.hid hb3; refine stop ?_)
    unfold Stop
    have HP3 := Lib.hid (HP2.out.after hb3.out)
    go_wp2_with (with_reducible show wpList _ _ _ (Oper.mk _ (.store 31 _ _) _ _ _ _ :: _) _ _; refine stop ?_)
    unfold Stop
    refine wpList_store_row rfl _ (.tmp 8) (.tmp 58) rfl (w.heap.size + 1) _ rfl rfl _ _ HP3.out.reply info_reply rfl (by simp [Value.oneCell']) ?_
    go_wp2_with fail
    refine bodyPost_ret (v := .tuple #[replyVal st 48 0 (.slice none 0 0), .slice none 0 0]) ?_ rfl ?_
    · refine results_reply (p := 8) (u := 9) ?_ _ _ (w.heap.size + 1) _ _ ?_ (setRow_heap _ _ _ _ _ _ HP3.out.reply) ?_ <;> rfl
    rw [hm]
    exact HP3.out.refused H.out _ _ _
    --]
  have t0' : ((ops.length : Int) == 0) = false := by simpa using t0
  go_upto_region 10 with fail
  have hcell2 : ∀ W, Below wc.heap.size wc W → W.cell? ⟨p, 0, none⟩ = some (.map (some r)) ∧ W.cell? ⟨w.heap.size, 0, none⟩ = some (.int .i64 st) := fun W hb =>
    ⟨(hb.cell (p := ⟨p, 0, none⟩) (World.block_lt_of_cell? wc _ hc2)).trans hc2, (hb.cell (p := ⟨w.heap.size, 0, none⟩) (World.block_lt_of_cell? wc _ hs2)).trans hs2⟩
  have hclone : ∀ W, Below wc.heap.size wc W → Calls Tryd.prog 25 #[.map (some r)] W fun e w' => e = .returned (.map (some W.heap.size)) ∧ MapAt w' W.heap.size T ∧ Below W.heap.size W w' ∧ w'.heap.size = W.heap.size + 1 ∧ w'.cell? ⟨p, 0, none⟩ = some (.map (some r)) ∧ w'.cell? ⟨w.heap.size, 0, none⟩ = some (.int .i64 st) := fun W hb =>
    (cloneMap_any W r T (H.out.below (HP2.out.below.trans (hb.mono HP2.out.below.size)) (Nat.le_refl _)).map).mono fun e w' ⟨h1, h2, h3, h4⟩ => ⟨h1, h2, h3, h4, hcell2 w' (hb.trans (h3.mono hb.size))⟩
  go_cut [11] from 60 (fun s wd => ∃ b rm, s = .pointer (some ⟨b, 0, none⟩) ∧ WorkAt wd w.heap.size b rm T ses st (.slice none 0 0) [] ∧ PlayAt w st wd)
  case first =>
    --[
    have n0 := World.new_ne wc _ hc2
    have n1 := World.new_ne wc _ hs2
    simp only [] at n0 n1
    go_region_held3 (fun W => W.cell? ⟨p, 0, none⟩ = some (.map (some r)) ∧ W.cell? ⟨w.heap.size, 0, none⟩ = some (.int .i64 st)) (first | go_keep | exact hcell2 _ ((Below.refl _ _).alloc (Nat.le_refl _) _).drew)
      ((go_at_call 25; refine (hclone _ (by first | exact (Below.refl _ _).drew | exact ((Below.refl _ _).alloc (Nat.le_refl _) _).drew)).mono ?_; rintro e w4 ⟨rfl, hm4, hb4, hs4, hp4, ht4⟩;
        (first | (have q4 := (hb4.block wc.heap.size (by simp)).trans (heap_alloc_new wc _); have y0 := cell_of_row w4 wc.heap.size 0 _ _ _ q4; have y1 := cell_of_row w4 wc.heap.size 1 _ _ _ q4; have y2 := cell_of_row w4 wc.heap.size 2 _ _ _ q4; have y3 := cell_of_row w4 wc.heap.size 3 _ _ _ q4; have z0 := frozen_of_row w4 wc.heap.size 0 _ _ q4; have z1 := frozen_of_row w4 wc.heap.size 1 _ _ q4; have z2 := frozen_of_row w4 wc.heap.size 2 _ _ q4; have z3 := frozen_of_row w4 wc.heap.size 3 _ _ q4; replace q4 := Lib.hid q4) | skip); replace hm4 := Lib.hid hm4; replace hb4 := Lib.hid hb4; replace hs4 := Lib.hid hs4))
    all_goals
      simp only [Exit.then]
      go_step
      go_meet
    all_goals
      case rel =>
        first
          | exact ⟨_, _, rfl, work_made HP2.out ((Below.refl _ _).drew.trans hb4.out) hm4.out H.out.sorted (by simp)⟩
          | exact ⟨_, _, rfl, work_filled HP2.out (((Below.refl _ _).alloc (Nat.le_refl _) _).drew.trans (hb4.out.mono (by simp))) (by simpa using hm4.out) q4.out rfl (Nat.le_refl _) H.out.sorted (by simp)⟩
    --]
  case rest =>
  obtain ⟨b, rm, rfl, hW, hP⟩ := hcut
  clear hc2 hs2 HP2 hnone hcell2 hclone t0
  have hs2 := hP.cell
  obtain ⟨qb, hqb⟩ : ∃ qb, wc.heap.size = qb := ⟨_, rfl⟩
  have hq2 : w.heap.size + 1 < qb := hqb ▸ hP.size
  go_upto_region 12 with fail
  try rw [hqb]
  generalize hw5 : World.alloc wc (Obj.cells _ _) = w5
  have hb5 : Below wc.heap.size wc w5 := hw5 ▸ ((Below.refl _ _).alloc (Nat.le_refl _) _)
  have hr5 : w5.heap[qb]? = some (.cells (replyCells st 0 0 (.slice none 0 0)).toArray 31 (0, 0)) := by rw [← hw5, ← hqb]; exact heap_alloc_new wc _
  have hst : LoopAt w b rm ses st T ops m qb 0 w5 := ⟨T, _, _, [], [], hW.after hb5, hP.after hb5, hr5, ResRow.none _ _, HG.out, by
    have e := HMk.out
    unfold playOf at e
    rw [if_neg (by omega), if_neg HNm.out, if_neg (fun e => by rw [e] at t0'; cases t0')] at e
    exact e, rfl, by simp⟩
  have HSt := Lib.hid hst
  have HQ2 := Lib.hid hq2
  clear hst hW hP hw5 hb5 hr5 hq2 hqb hs2 HMk
  go_wp2_with fail
  go_simp
  go_loopg [72] ops.length (fun g i wr => ∃ k : Nat, i = .int .i64 k ∧ k + g = ops.length ∧ LoopAt w b rm ses st T ops m qb k wr)
  case atStart => exact ⟨0, rfl, by omega, HSt.out⟩
  case round =>
    obtain ⟨k, rfl, hkg, T', cv, rv, rs, cs, hW, hP, hr, hres, hG, hgo, hrl, hcl⟩ := hrel
    have HKg := Lib.hid hkg
    have HW := Lib.hid hW
    have HP := Lib.hid hP
    have HR := Lib.hid hr
    have HRes := Lib.hid hres
    have HG' := Lib.hid hG
    have HGo := Lib.hid hgo
    have HRl := Lib.hid hrl
    have HCl := Lib.hid hcl
    clear hkg hW hP hr hres hG hgo hrl hcl HSt
    have h4' : (ops.length : Int) ≤ 4 := by omega
    by_cases hlt : k < ops.length
    · --[
      obtain ⟨o, ho⟩ : ∃ o, ops[k]? = some o := ⟨_, List.getElem?_eq_getElem hlt⟩
      obtain ⟨ad, had, hcell⟩ := HCell.out (fun e => by rw [e] at hlt; simp at hlt)
      subst had
      have hcr : ∀ j u, o.cells[j]? = some u → wr.cell? ((ad.add (k * 5)).add j) = some u := fun j u hu => (HP.out.below.cell (World.block_lt_of_cell? w _ (hcell k o ho j u hu))).trans (hcell k o ho j u hu)
      have hops := HPl.out o (List.mem_of_getElem? ho)
      have hT64 := HG'.out.few
      have hplay : ∀ W, Below wr.heap.size wr W → Calls Tryd.prog 26 #[.pointer (some ⟨b, 0, none⟩), .agg o.cells.toArray] W (StepIs w.heap.size b rm ses st cs (stepOf ses st T' o) W) := fun W hb =>
        play_any W w.heap.size b rm T' ses st cv cs o (HW.out.after hb) (HE.out.after (HP.out.below.trans (hb.mono HP.out.below.size))) hops (fun y hy => by have := HG'.out.size y hy; simp only [maxLen]; omega) (by omega) (by have := HCl.out; omega) (fun y hy => ((HG'.out.ok y hy).counter).1) (fun y hy => ((HG'.out.ok y hy).version).1)
      have hdr : ops.drop k = o :: ops.drop (k + 1) := by
        rw [List.drop_eq_getElem_cons hlt]
        congr 1
        rw [List.getElem?_eq_getElem hlt] at ho
        injection ho
      have hgo : (if (stepOf ses st T' o).code ≠ 0 then (⟨(stepOf ses st T' o).code, k, [], [], T⟩ : Played) else playGo ses st T (ops.drop (k + 1)) (k + 1) (stepOf ses st T' o).T (rs ++ [(stepOf ses st T' o).res]) (cs ++ (stepOf ses st T' o).chg)) = m := by
        have := HGo.out
        rw [hdr] at this
        exact this
      have hgood := step_good (ses := ses) (st := st) HG'.out ⟨by have := HNm.out; omega, by have := HNm.out; omega, by have := HNm.out; omega, by have := HNm.out; omega⟩ o
      obtain ⟨q, hq⟩ : ∃ q, stepOf ses st T' o = q := ⟨_, rfl⟩
      have hcl1 : q.chg.length ≤ 1 := hq ▸ step_chg ses st T' o
      rw [hq] at hplay hgo hgood
      obtain ⟨mc, ⟨rp, rd, rn, rm', rc, ro, rk⟩, mT, mg⟩ := q
      have HGo2 := Lib.hid hgo
      have HGd := Lib.hid hgood
      have HC1 := Lib.hid hcl1
      clear hgo hgood hcl1 hdr hq ho hcell
      obtain ⟨ok, op, od, ovv, ofl⟩ := o
      simp only [OpV.cells] at hplay hcr
      have x0 : wr.cell? (ad.add (k * 5)) = some (.int .i64 ok) := hcr 0 _ rfl
      have x1 : wr.cell? ⟨(ad.add (k * 5)).block, (ad.add (k * 5)).off + 1, none⟩ = some (.string op) := hcr 1 _ rfl
      have x2 : wr.cell? ⟨(ad.add (k * 5)).block, (ad.add (k * 5)).off + 2, none⟩ = some (.string od) := hcr 2 _ rfl
      have x3 : wr.cell? ⟨(ad.add (k * 5)).block, (ad.add (k * 5)).off + 3, none⟩ = some (.int .i64 ovv) := hcr 3 _ rfl
      have x4 : wr.cell? ⟨(ad.add (k * 5)).block, (ad.add (k * 5)).off + 4, none⟩ = some (.int .i64 ofl) := hcr 4 _ rfl
      clear hcr
      have i0 : (0 : Int) ≤ (k : Int) := by omega
      have i1 : (k : Int) < (ops.length : Int) := by omega
      go_upto_region 16 with (go_at_call 26; refine (hplay _ ((Below.refl _ _).alloc (Nat.le_refl _) _)).mono ?_; rintro e w7 ⟨kv, cv', rfl, hk7, hW7, hB7⟩; obtain ⟨kad, kcc, rfl, _⟩ := own_form hk7; replace hk7 := Lib.hid hk7; replace hW7 := Lib.hid hW7; replace hB7 := Lib.hid hB7; simp only [Res.val])
      generalize hw8 : World.alloc w7 (Obj.cells _ _) = w8
      obtain ⟨xb, hxb⟩ : ∃ xb, w7.heap.size = xb := ⟨_, rfl⟩
      try rw [hxb]
      have hb8 : Below w7.heap.size w7 w8 := hw8 ▸ ((Below.refl _ _).alloc (Nat.le_refl _) _)
      have hx8 : w8.heap[xb]? = some (.cells #[.string rp, .string rd, .int .i64 rn, .int .i64 rm', .int .i64 rc, .int .i64 ro, .slice kad rk.length kcc] 54 (0, 0)) := by rw [← hw8, ← hxb]; exact heap_alloc_new w7 _
      have hW6 := HW.out.after ((Below.refl wr.heap.size wr).alloc (Nat.le_refl _) (.cells #[.int .i64 ok, .string op, .string od, .int .i64 ovv, .int .i64 ofl] 50))
      have hP6 := HP.out.after ((Below.refl wr.heap.size wr).alloc (Nat.le_refl _) (.cells #[.int .i64 ok, .string op, .string od, .int .i64 ovv, .int .i64 ofl] 50))
      have hP8 := (hP6.touch hW6 hB7.out).after hb8
      have hR6 := (Below.heap_alloc wr (.cells #[.int .i64 ok, .string op, .string od, .int .i64 ovv, .int .i64 ofl] 50) qb (Array.getElem?_eq_some_iff.1 HR.out).1).trans HR.out
      have hR7 := hW6.keeps hB7.out hR6 (by decide)
      have hR8 := (hb8.block qb (Array.getElem?_eq_some_iff.1 hR7).1).trans hR7
      have hK8 : ∀ e, e ≠ 58 ∧ e ≠ 72 → Keeps e wr w8 := fun e he => (Keeps.below ((Below.refl _ _).alloc (Nat.le_refl _) _)).trans ((hW6.keepsType hB7.out he).trans (Keeps.below hb8))
      have hres8 := HRes.out.keep (hK8 _ (by decide)) (hK8 _ (by decide))
      have hk8 : KidsAt wr.heap.size w8 (.slice kad rk.length kcc) rk := (KidsAt.lower (own_after hk7.out hb8) (by simp))
      have hlt8 : wr.heap.size ≤ w8.heap.size := Nat.le_trans (Nat.le_trans (by simp) hB7.out.size) hb8.size
      have HW8 := Lib.hid (hW7.out.after hb8)
      have HP8 := Lib.hid hP8
      have HR8 := Lib.hid hR8
      have HX8 := Lib.hid hx8
      have HK8 := Lib.hid hk8
      have HRes8 := Lib.hid hres8
      have HLt8 := Lib.hid hlt8
      have HK8r := Lib.hid hK8
      have HBase : Hid (w.heap.size ≤ wr.heap.size) := HP.out.below.size
      have HXb : Hid (qb ≠ xb ∧ w.heap.size + 1 < xb) := ⟨by have := (Array.getElem?_eq_some_iff.1 hR7).1; show qb ≠ xb; omega, by rw [← hxb]; exact Nat.lt_of_lt_of_le hP6.size hB7.out.size⟩
      clear hw8 hxb hb8 hx8 hW6 hP6 hP8 hR6 hR7 hR8 hK8 hres8 hk8 hlt8 hW7 hB7 hk7 hplay x0 x1 x2 x3 x4 HW HP HR
      have hs8 := HP8.out.cell
      rcases Bool.eq_false_or_eq_true (mc != 0) with tc | tc
      · have hm : m = ⟨mc, k, [], [], T⟩ := by rw [← HGo2.out, if_pos (by simpa using tc)]
        have hcon := refused_any mc (k : Int) st w.heap.size w8 hs8
        unfold RefusedPost replyVal replyCells at hcon
        go_wp2_with (go_at_call 23; refine hcon.mono ?_; rintro e w3 ⟨rfl, hb3⟩; replace hb3 := Lib.hid hb3; refine stop ?_)
        unfold Stop
        have HP3 := Lib.hid (HP8.out.after hb3.out)
        go_wp2_with (with_reducible show wpList _ _ _ (Oper.mk _ (.store 31 _ _) _ _ _ _ :: _) _ _; refine stop ?_)
        unfold Stop
        refine wpList_store_row rfl _ (.tmp 8) (.tmp 88) rfl (w.heap.size + 1) _ rfl rfl _ _ HP3.out.reply info_reply rfl (by simp [Value.oneCell']) ?_
        go_wp2_with fail
        refine bodyPost_ret (v := .tuple #[replyVal st mc (k : Int) (.slice none 0 0), .slice none 0 0]) ?_ rfl ?_
        · refine results_reply (p := 8) (u := 9) ?_ _ _ (w.heap.size + 1) _ _ ?_ (setRow_heap _ _ _ _ _ _ HP3.out.reply) ?_ <;> rfl
        rw [hm]
        exact HP3.out.refused H.out _ _ _
      · have hgo3 : playGo ses st T (ops.drop (k + 1)) (k + 1) mT (rs ++ [⟨rp, rd, rn, rm', rc, ro, rk⟩]) (cs ++ mg) = m := by rw [← HGo2.out, if_neg (by simpa using tc)]
        have HGo3 := Lib.hid hgo3
        clear hgo3 HGo2 HGo
        obtain ⟨ks, ka, kown, kc, kd⟩ := HRes.out
        have kown8 := (HK8r.out _ (by decide)).own kown
        obtain ⟨r0, r1, r2, r3, r4, r5, r6, r7⟩ := ResAt.of HX8.out
        have q3 := cell_of_row w8 qb 3 _ _ _ HR8.out
        simp only [replyCells, List.getElem?_toArray, List.getElem?_cons_succ, List.getElem?_cons_zero] at q3
        have KOwn := Lib.hid kown
        have KOwn8 := Lib.hid kown8
        clear kown kown8 ka kc kd r7 hs8
        go_wp2_with (at_builtin; refine wpList_push rfl (.tmp 91) (.tmp 93) 29 rfl w.heap.size 54 _ 7 88 und_ress info_resF rfl (by decide) _ rs.length _ rfl KOwn8.out w8.heap.size rfl rfl rfl (by simp [Value.oneCell']) ?h63 ?hbytes HP8.out.below.size ?_; rotate_right; intro v' w9 ho9 hg9; obtain ⟨ad9, cc9, rfl, _⟩ := own_form ho9; have hr9 := (Keeps.grown (e := 31) KOwn8.out hg9 (by decide) _ _ HR8.out).trans HR8.out; have z3 := cell_of_row w9 qb 3 _ _ _ hr9; simp only [replyCells, List.getElem?_toArray, List.getElem?_cons_succ, List.getElem?_cons_zero] at z3; have zf := frozen_of_row w9 qb 3 _ _ hr9; replace hr9 := Lib.hid hr9; replace ho9 := Lib.hid ho9; replace hg9 := Lib.hid hg9)
        case h63 => have := HRl.out; simp only [maxLen]; omega
        case hbytes => have := HRl.out; omega
        have hsc : w9.grownBy (w9.setCell ⟨qb, 3, none⟩ (.slice ad9 (rs.length + 1) cc9)) (some qb) := ⟨rfl, rfl, rfl, by simp, fun i _ hne => Below.heap_setCell w9 _ _ i (fun e => hne (by rw [e]))⟩
        have hkt : ∀ e, e ≠ 54 ∧ e ≠ 31 → Keeps e w8 (w9.setCell ⟨qb, 3, none⟩ (.slice ad9 (rs.length + 1) cc9)) := fun e he => (Keeps.grown KOwn8.out hg9.out (Ne.symm he.1)).trans (Keeps.setCell (p := ⟨qb, 3, none⟩) hr9.out (Ne.symm he.2) _)
        have hmr : (w9.setCell ⟨qb, 3, none⟩ (.slice ad9 (rs.length + 1) cc9)).heap[rm]? = w8.heap[rm]? := by
          obtain ⟨es, clock, L, h1, _⟩ := HW8.out.map
          rw [Below.heap_setCell _ _ _ _ (fun e => by
            have e : rm = qb := e
            rw [e] at h1
            rw [HR8.out] at h1
            cases h1)]
          exact hg9.out.block rm HW8.out.map.lt (own_ne KOwn8.out (fun cur e => by rw [h1] at e; cases e))
        have hrow : (w9.setCell ⟨qb, 3, none⟩ (.slice ad9 (rs.length + 1) cc9)).ownsRow w.heap.size 54 7 (.slice ad9 (rs.length + 1) cc9) (rs.length + 1) _ := (Keeps.setCell (e := 54) (p := ⟨qb, 3, none⟩) hr9.out (by decide) _).own ho9.out
        have hsz : w8.heap.size ≤ (w9.setCell ⟨qb, 3, none⟩ (.slice ad9 (rs.length + 1) cc9)).heap.size := by simpa using hg9.out.size
        have hbel : Below w.heap.size w (w9.setCell ⟨qb, 3, none⟩ (.slice ad9 (rs.length + 1) cc9)) := (own_below HP8.out.below KOwn8.out hg9.out (Nat.le_refl _) HP8.out.below.size).setCell (by have := HQ2.out; simp; omega) _
        have hrep : (w9.setCell ⟨qb, 3, none⟩ (.slice ad9 (rs.length + 1) cc9)).heap[w.heap.size + 1]? = some (.cells #[.int .i64 0, .int .i64 0, .int .i64 0, .slice none 0 0] 31 (0, 0)) := by
          rw [Below.heap_setCell _ _ _ _ (fun e => by have := HQ2.out; have e : w.heap.size + 1 = qb := e; omega)]
          exact (Keeps.grown (e := 31) KOwn8.out hg9.out (by decide) _ _ HP8.out.reply).trans HP8.out.reply
        have hqq : (w9.setCell ⟨qb, 3, none⟩ (.slice ad9 (rs.length + 1) cc9)).heap[qb]? = some (.cells (replyCells st 0 0 (.slice ad9 (rs.length + 1) cc9)).toArray 31 (0, 0)) := by
          rw [heap_setCell_same w9 qb 3 _ _ _ hr9.out]; rfl
        have hfin : LoopAt w b rm ses st T ops m qb (k + 1) (w9.setCell ⟨qb, 3, none⟩ (.slice ad9 (rs.length + 1) cc9)) :=
          ⟨mT, cv', .slice ad9 (rs.length + 1) cc9, rs ++ [⟨rp, rd, rn, rm', rc, ro, rk⟩], cs ++ mg, HW8.out.moved (hkt _ (by decide)) (hkt _ (by decide)) hmr hsz,
            ⟨hbel, (hkt _ (by decide) _ _ HP8.out.stamp).trans HP8.out.stamp, hrep⟩, hqq,
            HRes.out.push (r := ⟨rp, rd, rn, rm', rc, ro, rk⟩) (kv := .slice kad rk.length kcc) ((HK8r.out _ (by decide)).trans (hkt _ (by decide))) (KidsAt.lower (Keeps.kids (hkt _ (by decide)) HK8.out) HBase.out) (Nat.le_refl _) (fun k hk => (own_lt' HK8.out hk).1) (fun xs hxs => by rw [own_unique hxs KOwn.out]; exact hrow),
            HGd.out, HGo3.out, by have := HRl.out; simp; omega, by have := HCl.out; have := HC1.out; simp at this ⊢; omega⟩
        have HFin := Lib.hid hfin
        clear hfin hqq hrep hbel hsz hrow hmr hkt hsc z3 zf hr9
        go_roundg (gk - 1)
        case measure => have := HKg.out; omega
        case rel => exact ⟨k + 1, by go_num, by have := HKg.out; omega, HFin.out⟩
      --]
    · --[
      have hke : k = ops.length := by have := HKg.out; omega
      have hge : ¬ (k : Int) < (ops.length : Int) := by omega
      have hm : m = ⟨0, 0, rs, cs, T'⟩ := by
        have := HGo.out
        rw [hke, List.drop_length] at this
        exact this.symm
      have HM := Lib.hid hm
      have hpw : p < w.heap.size := H.out.lt.1
      have hps := (HP.out.below.block p hpw).trans H.out.top
      have hcp : wr.cell? ⟨p, 0, none⟩ = some (.map (some r)) := by simp [World.cell?, hps]
      have hfp : wr.frozen? ⟨p, 0, none⟩ = false := by simp [World.frozen?, hps]
      obtain ⟨k0, k1, k2, k3, k3f⟩ := HW.out.cells
      clear hm HGo hke k1 k2 k3f
      go_upto_region 21 with fail
      generalize hw1 : World.setCell wr _ _ = w1
      have hT1 : TreeAt w1 p rm T' := by
        have hne : rm ≠ p := fun e => by
          obtain ⟨_, _, _, h3, _⟩ := HW.out.map
          rw [e, hps] at h3
          cases h3
        refine ⟨?_, HW.out.map.of_block ?_, HW.out.sorted⟩
        · rw [← hw1, heap_setCell_same wr p 0 _ _ _ hps]; rfl
        · rw [← hw1, Below.heap_setCell _ _ _ _ hne]
      have hfar : ∀ i, i ≠ p → w1.heap[i]? = wr.heap[i]? := fun i hi => by rw [← hw1, Below.heap_setCell _ _ _ _ hi]
      have hB1 : But (fun i => i = p) w w1 := hw1 ▸ ((But.refl (fun i => i = p) _).after HP.out.below).setCell (p := ⟨p, 0, none⟩) (fun _ => rfl) _
      have hq1 := (hfar qb (by have := HQ2.out; omega)).trans HR.out
      have hrp := (hfar (w.heap.size + 1) (by omega)).trans HP.out.reply
      have hbp := (hfar b (by have := HW.out.base.2.1; omega)).trans HW.out.top
      have hkT : ∀ e, e ≠ 68 → Keeps e wr w1 := fun e he => hw1 ▸ Keeps.setCell (p := ⟨p, 0, none⟩) hps (Ne.symm he) _
      have hres1 := HRes.out.keep (hkT _ (by decide)) (hkT _ (by decide))
      have hrow1 := (hkT _ (by decide)).own HW.out.row
      obtain ⟨xs, hxs⟩ := hres1.own
      obtain ⟨vad, vcc, rfl, _⟩ := own_form hxs
      obtain ⟨cad, ccc, rfl, _⟩ := own_form hrow1
      have q0 := cell_of_row w1 qb 0 _ _ _ hq1
      have q1 := cell_of_row w1 qb 1 _ _ _ hq1
      have q2 := cell_of_row w1 qb 2 _ _ _ hq1
      have q3 := cell_of_row w1 qb 3 _ _ _ hq1
      have b3 := cell_of_row w1 b 3 _ _ _ hbp
      have y0 := cell_of_row w1 (w.heap.size + 1) 0 _ _ _ hrp
      have y1 := cell_of_row w1 (w.heap.size + 1) 1 _ _ _ hrp
      have y2 := cell_of_row w1 (w.heap.size + 1) 2 _ _ _ hrp
      have y3 := cell_of_row w1 (w.heap.size + 1) 3 _ _ _ hrp
      have z0 := frozen_of_row w1 (w.heap.size + 1) 0 _ _ hrp
      have z1 := frozen_of_row w1 (w.heap.size + 1) 1 _ _ hrp
      have z2 := frozen_of_row w1 (w.heap.size + 1) 2 _ _ hrp
      have z3 := frozen_of_row w1 (w.heap.size + 1) 3 _ _ hrp
      simp only [replyCells, List.getElem?_toArray, List.getElem?_cons_succ, List.getElem?_cons_zero] at q0 q1 q2 q3 b3 y0 y1 y2 y3
      have nq : qb ≠ w.heap.size + 1 := by have := HQ2.out; omega
      have nb : b ≠ w.heap.size + 1 := fun e => by
        rw [e, hrp] at hbp
        injection hbp with hbp
        injection hbp with _ h2
        exact absurd h2 (by decide)
      have nq' := Ne.symm nq
      have nb' := Ne.symm nb
      have HT1 := Lib.hid hT1
      have HRm : Hid (w.heap.size ≤ rm) := HW.out.base.2.2
      have HB1 := Lib.hid hB1
      have HRes1 := Lib.hid hres1
      have HRow1 := Lib.hid hrow1
      have HRp := Lib.hid hrp
      clear hw1 hT1 hfar hB1 hq1 hrp hbp hkT hres1 hrow1 hxs hps hcp hfp k0 HRes
      go_region_held3 (fun W => W.cell? ⟨qb, 0, none⟩ = some (.int .i64 st) ∧ W.cell? ⟨qb, 1, none⟩ = some (.int .i64 0) ∧ W.cell? ⟨qb, 2, none⟩ = some (.int .i64 0) ∧ W.cell? ⟨qb, 3, none⟩ = some (.slice vad rs.length vcc) ∧ W.cell? ⟨b, 3, none⟩ = some (.slice cad cs.length ccc)) (go_keep) (fail)
      simp only [Exit.then]
      go_step
      obtain ⟨fz1, fz2, fz3⟩ := filled4 (.int .i64 st) (.int .i64 0) (.int .i64 0) (.slice vad rs.length vcc) HRp.out
      generalize hwz : World.setCell (World.setCell (World.setCell (World.setCell w1 _ _) _ _) _ _) _ _ = wz at fz1 fz2 fz3 ⊢
      have hm := HM.out
      subst hm
      go_wp2_with fail
      refine bodyPost_ret (v := .tuple #[replyVal st 0 0 (.slice vad rs.length vcc), .slice cad cs.length ccc]) ?_ rfl ?_
      · refine results_reply (p := 8) (u := 9) ?_ _ _ (w.heap.size + 1) _ _ ?_ fz1 ?_ <;> rfl
      have hkz : ∀ e, e ≠ 31 → Keeps e w1 wz := fun e he => Keeps.at_ fz3 HRp.out (Ne.symm he)
      refine ⟨_, _, rm, rfl, HRes1.out.keep (hkz _ (by decide)) (hkz _ (by decide)), (hkz _ (by decide)).own HRow1.out, HT1.out.keep (fz2 _ ?_) (fz2 _ ?_), .inr HRm.out, (HB1.out.grown fz3 (fun i hi _ e => by injection e with e; omega)).drew⟩
      · omega
      · intro e
        obtain ⟨_, _, _, h3, _⟩ := HT1.out.map
        rw [e, HRp.out] at h3
        cases h3
      --]
end Go.Proofs.YtpmlfpmedbccaaaDoor
