/- What a tree's calls come to, in plain Lean: one op, a request, an end. -/
import Derived.Test.YtpmlfpmedbccaaaDoorMaps
namespace Go.Proofs.YtpmlfpmedbccaaaDoor

def zeroNode : Node := ⟨⟨#[]⟩, ⟨#[]⟩, 0, 0, 0, 0, 0⟩

def rootNode : Node := ⟨⟨#[47]⟩, ⟨#[]⟩, 0, 0, 0, 0, 0⟩

def isKid (above : ByteArray) (x : Node) : Bool := (parent x.at).2 == 0 && (parent x.at).1 == above.toList
def kidsOf (T : List Node) (above : ByteArray) : List Node := T.filter (isKid above)

structure OpV where
  kind : Int
  place : ByteArray
  data : ByteArray
  version : Int
  flags : Int
def OpV.cells (o : OpV) : List Value := [.int .i64 o.kind, .string o.place, .string o.data, .int .i64 o.version, .int .i64 o.flags]
structure Chg where
  kind : Int
  place : ByteArray
  data : ByteArray
  version : Int
def Chg.cells (c : Chg) : List Value := [.int .i64 c.kind, .string c.place, .string c.data, .int .i64 c.version]
def Chg.val (c : Chg) : Value := .agg c.cells.toArray
structure Res where
  place : ByteArray
  data : ByteArray
  version : Int
  made : Int
  changed : Int
  owner : Int
  kids : List ByteArray
def Res.val (r : Res) (kids : Value) : Value := .agg #[.string r.place, .string r.data, .int .i64 r.version, .int .i64 r.made, .int .i64 r.changed, .int .i64 r.owner, kids]
def noText : ByteArray := ⟨#[]⟩
def zeroRes : Res := ⟨noText, noText, 0, 0, 0, 0, []⟩


def needRoot (k : Int) : Bool := k == 1 || k == 3
def needData (k : Int) : Bool := k == 1 || k == 2
def needVersion (k : Int) : Bool := k == 2 || k == 3 || k == 4

def toldOf (x : Node) : Res := ⟨x.place, noText, x.version, x.made, x.changed, x.owner, []⟩
def goneOf (x : Node) : Chg := ⟨3, x.place, noText, x.version⟩

/-- The flags' bits. -/
def bitOf (f : Int) (m : Int) : Bool := bits BinOp.and IntKind.i64 f m != 0

/-- What a step comes to. -/
structure Made where
  code : Int
  res : Res
  T : List Node
  chg : List Chg
def Made.no (T : List Node) (code : Int) : Made := ⟨code, zeroRes, T, []⟩
def newNode (ses st : Int) (o : OpV) (above : Node) : Node :=
  ⟨if bitOf o.flags 2 = true then ⟨(counted o.place.data.toList above.counter).1.toArray⟩ else o.place, o.data, 0, st, st, if bitOf o.flags 1 = true then ses else 0, 0⟩
def madeOn (ses st : Int) (T : List Node) (o : OpV) (above : Node) : Made :=
  if above.owner ≠ 0 then .no T 44 else
  if bitOf o.flags 2 = true ∧ 99999 < above.counter then .no T 46 else
  if look T (newNode ses st o above).place ≠ none then .no T 41 else
  if 64 ≤ T.length then .no T 46 else
  ⟨0, toldOf (newNode ses st o above), put (newNode ses st o above) (put (if bitOf o.flags 2 = true then { above with counter := above.counter + 1 } else above) T), [⟨1, (newNode ses st o above).place, o.data, 0⟩]⟩
def makeIn (ses st : Int) (T : List Node) (o : OpV) (up : List UInt8) : Made :=
  if bitOf o.flags 1 = true ∧ ses = 0 then .no T 44 else
  if 64 < o.data.size then .no T 45 else
  match look T ⟨up.toArray⟩ with
  | none => .no T 40
  | some above => madeOn ses st T o above
def makeOf (ses st : Int) (T : List Node) (o : OpV) : Made :=
  if o.flags < 0 ∨ 3 < o.flags then .no T 48 else
  if (parent o.place.data.toList).2 = 47 then .no T 47 else
  if (if (parent o.place.data.toList).2 = 0 ∧ bitOf o.flags 2 = true then (counted o.place.data.toList 0).2 else (parent o.place.data.toList).2) ≠ 0 then .no T 10 else
  makeIn ses st T o (parent o.place.data.toList).1
section
variable {ses st : Int} {T : List Node} {o : OpV} {up ct : List UInt8} {code cc : Int} {above : Node}
theorem makeOf_flags (h : o.flags < 0 ∨ 3 < o.flags) : makeOf ses st T o = .no T 48 := by unfold makeOf; rw [if_pos h]
theorem makeOf_root (h : 0 ≤ o.flags ∧ o.flags ≤ 3) (hp : parent o.place.data.toList = (up, 47)) : makeOf ses st T o = .no T 47 := by unfold makeOf; rw [if_neg (by omega), if_pos (by rw [hp])]
theorem makeOf_bad (h : 0 ≤ o.flags ∧ o.flags ≤ 3) (hp : parent o.place.data.toList = (up, code)) (h47 : code ≠ 47) (hc : counted o.place.data.toList 0 = (ct, cc)) (hb : (if code = 0 ∧ bitOf o.flags 2 = true then cc else code) ≠ 0) : makeOf ses st T o = .no T 10 := by
  unfold makeOf
  rw [if_neg (by omega), if_neg (by rw [hp]; exact h47), if_pos (by rw [hp, hc]; exact hb)]
theorem makeOf_in (h : 0 ≤ o.flags ∧ o.flags ≤ 3) (hp : parent o.place.data.toList = (up, code)) (h47 : code ≠ 47) (hc : counted o.place.data.toList 0 = (ct, cc)) (hb : (if code = 0 ∧ bitOf o.flags 2 = true then cc else code) = 0) : makeOf ses st T o = makeIn ses st T o up := by
  unfold makeOf
  rw [if_neg (by omega), if_neg (by rw [hp]; exact h47), if_neg (by rw [hp, hc]; exact fun h => h hb), hp]
theorem madeOn_full (h1 : ¬ above.owner ≠ 0) (h2 : bitOf o.flags 2 = true) (h3 : 99999 < above.counter) : madeOn ses st T o above = .no T 46 := by unfold madeOn; rw [if_neg h1, if_pos ⟨h2, h3⟩]
theorem madeOn_there (h1 : ¬ above.owner ≠ 0) (h2 : ¬ (bitOf o.flags 2 = true ∧ 99999 < above.counter)) (h3 : look T (newNode ses st o above).place ≠ none) : madeOn ses st T o above = .no T 41 := by unfold madeOn; rw [if_neg h1, if_neg h2, if_pos h3]
theorem madeOn_many (h1 : ¬ above.owner ≠ 0) (h2 : ¬ (bitOf o.flags 2 = true ∧ 99999 < above.counter)) (h3 : ¬ look T (newNode ses st o above).place ≠ none) (h4 : 64 ≤ T.length) : madeOn ses st T o above = .no T 46 := by unfold madeOn; rw [if_neg h1, if_neg h2, if_neg h3, if_pos h4]
theorem madeOn_ok (h1 : ¬ above.owner ≠ 0) (h2 : ¬ (bitOf o.flags 2 = true ∧ 99999 < above.counter)) (h3 : ¬ look T (newNode ses st o above).place ≠ none) (h4 : ¬ 64 ≤ T.length) :
    madeOn ses st T o above = ⟨0, toldOf (newNode ses st o above), put (newNode ses st o above) (put (if bitOf o.flags 2 = true then { above with counter := above.counter + 1 } else above) T), [⟨1, (newNode ses st o above).place, o.data, 0⟩]⟩ := by unfold madeOn; rw [if_neg h1, if_neg h2, if_neg h3, if_neg h4]
theorem nine {f : Int} {cnt both : Bool} (h : bitOf f 2 = cnt) (hb : (code == 0 && cnt) = both) : (if code = 0 ∧ bitOf f 2 = true then cc else code) = if both = true then cc else code := by
  subst hb h
  by_cases h0 : code = 0 <;> cases bitOf f 2 <;> simp [h0]
theorem makeIn_brief (h1 : bitOf o.flags 1 = true) (h2 : ses = 0) : makeIn ses st T o up = .no T 44 := by unfold makeIn; rw [if_pos ⟨h1, h2⟩]
theorem makeIn_large (h1 : ¬ (bitOf o.flags 1 = true ∧ ses = 0)) (h2 : 64 < o.data.size) : makeIn ses st T o up = .no T 45 := by unfold makeIn; rw [if_neg h1, if_pos h2]
theorem makeIn_none (h1 : ¬ (bitOf o.flags 1 = true ∧ ses = 0)) (h2 : ¬ 64 < o.data.size) (h3 : look T ⟨up.toArray⟩ = none) : makeIn ses st T o up = .no T 40 := by unfold makeIn; rw [if_neg h1, if_neg h2, h3]
theorem makeIn_some (h1 : ¬ (bitOf o.flags 1 = true ∧ ses = 0)) (h2 : ¬ 64 < o.data.size) (h3 : look T ⟨up.toArray⟩ = some above) : makeIn ses st T o up = madeOn ses st T o above := by unfold makeIn; rw [if_neg h1, if_neg h2, h3]
end


def setOn (st : Int) (T : List Node) (x : Node) (data : ByteArray) : Made :=
  if 2147483647 ≤ x.version then .no T 46 else
  ⟨0, toldOf { x with data := data, version := x.version + 1, changed := st }, put { x with data := data, version := x.version + 1, changed := st } T, [⟨2, x.place, data, x.version + 1⟩]⟩
def dropOn (T : List Node) (x : Node) : Made :=
  if kidsOf T x.place = [] then ⟨0, { zeroRes with place := x.place }, del x.place T, [goneOf x]⟩ else .no T 43
def nameStr (y : Node) : ByteArray := ⟨(nameOf y.at).1.toArray⟩
def readRes (T : List Node) (x : Node) (k : Int) : Res :=
  { toldOf x with data := if k = 5 then x.data else noText, kids := if k = 7 then (kidsOf T x.place).map nameStr else [] }
def readOn (T : List Node) (x : Node) (k : Int) : Made := ⟨0, readRes T x k, T, []⟩
def onNode (st : Int) (T : List Node) (o : OpV) (x : Node) : Made :=
  if needVersion o.kind = true ∧ o.version ≠ -1 ∧ o.version ≠ x.version then .no T 42 else
  if o.kind = 2 then setOn st T x o.data else if o.kind = 3 then dropOn T x else readOn T x o.kind
def inTree (st : Int) (T : List Node) (o : OpV) : Made :=
  if (parse o.place.data.toList).2 ≠ 0 then .no T 10 else
  if needRoot o.kind = true ∧ o.place.data.toList = [47] then .no T 47 else
  if needData o.kind = true ∧ 64 < o.data.size then .no T 45 else
  match look T o.place with
  | none => .no T 40
  | some x => onNode st T o x
def stepOf (ses st : Int) (T : List Node) (o : OpV) : Made :=
  if o.kind < 1 ∨ 7 < o.kind then .no T 48 else if o.kind = 1 then makeOf ses st T o else inTree st T o
section
variable {ses st : Int} {T : List Node} {o : OpV} {x : Node}
theorem stepOf_bad (h : o.kind < 1 ∨ 7 < o.kind) : stepOf ses st T o = .no T 48 := by unfold stepOf; rw [if_pos h]
theorem stepOf_make (h : o.kind = 1) : stepOf ses st T o = makeOf ses st T o := by unfold stepOf; rw [if_neg (by omega), if_pos h]
theorem stepOf_in (h : ¬ (o.kind < 1 ∨ 7 < o.kind)) (h1 : o.kind ≠ 1) : stepOf ses st T o = inTree st T o := by unfold stepOf; rw [if_neg h, if_neg h1]
theorem inTree_place (h : (parse o.place.data.toList).2 ≠ 0) : inTree st T o = .no T 10 := by unfold inTree; rw [if_pos h]
theorem inTree_root (h : ¬ (parse o.place.data.toList).2 ≠ 0) (h2 : needRoot o.kind = true ∧ o.place.data.toList = [47]) : inTree st T o = .no T 47 := by unfold inTree; rw [if_neg h, if_pos h2]
theorem inTree_large (h : ¬ (parse o.place.data.toList).2 ≠ 0) (h2 : ¬ (needRoot o.kind = true ∧ o.place.data.toList = [47])) (h3 : needData o.kind = true ∧ 64 < o.data.size) : inTree st T o = .no T 45 := by unfold inTree; rw [if_neg h, if_neg h2, if_pos h3]
theorem inTree_none (h : ¬ (parse o.place.data.toList).2 ≠ 0) (h2 : ¬ (needRoot o.kind = true ∧ o.place.data.toList = [47])) (h3 : ¬ (needData o.kind = true ∧ 64 < o.data.size)) (h4 : look T o.place = none) : inTree st T o = .no T 40 := by
  unfold inTree; rw [if_neg h, if_neg h2, if_neg h3, h4]
theorem inTree_some (h : ¬ (parse o.place.data.toList).2 ≠ 0) (h2 : ¬ (needRoot o.kind = true ∧ o.place.data.toList = [47])) (h3 : ¬ (needData o.kind = true ∧ 64 < o.data.size)) (h4 : look T o.place = some x) : inTree st T o = onNode st T o x := by
  unfold inTree; rw [if_neg h, if_neg h2, if_neg h3, h4]
theorem onNode_version (h : needVersion o.kind = true ∧ o.version ≠ -1 ∧ o.version ≠ x.version) : onNode st T o x = .no T 42 := by unfold onNode; rw [if_pos h]
theorem onNode_set (h : ¬ (needVersion o.kind = true ∧ o.version ≠ -1 ∧ o.version ≠ x.version)) (h2 : o.kind = 2) : onNode st T o x = setOn st T x o.data := by unfold onNode; rw [if_neg h, if_pos h2]
theorem onNode_drop (h : ¬ (needVersion o.kind = true ∧ o.version ≠ -1 ∧ o.version ≠ x.version)) (h3 : o.kind = 3) : onNode st T o x = dropOn T x := by unfold onNode; rw [if_neg h, if_neg (by omega), if_pos h3]
theorem onNode_read (h : ¬ (needVersion o.kind = true ∧ o.version ≠ -1 ∧ o.version ≠ x.version)) (h2 : o.kind ≠ 2) (h3 : o.kind ≠ 3) : onNode st T o x = readOn T x o.kind := by unfold onNode; rw [if_neg h, if_neg h2, if_neg h3]
end

/-- The ops of a request, one behind the other. -/
structure Played where
  code : Int
  at_ : Int
  res : List Res
  chg : List Chg
  T : List Node
def playGo (ses st : Int) (T0 : List Node) : List OpV → Nat → List Node → List Res → List Chg → Played
  | [], _, T, rs, cs => ⟨0, 0, rs, cs, T⟩
  | o :: os, i, T, rs, cs => if (stepOf ses st T o).code ≠ 0 then ⟨(stepOf ses st T o).code, i, [], [], T0⟩ else
      playGo ses st T0 os (i + 1) (stepOf ses st T o).T (rs ++ [(stepOf ses st T o).res]) (cs ++ (stepOf ses st T o).chg)
def Played.no (T : List Node) (code : Int) : Played := ⟨code, 0, [], [], T⟩
def playOf (ses st : Int) (T : List Node) (ops : List OpV) : Played :=
  if 4 < ops.length then .no T 2 else if ses < 0 ∨ 2147483647 < ses ∨ st < 1 ∨ 2147483647 < st then .no T 3 else if ops = [] then .no T 48 else playGo ses st T ops 0 T [] []
def endOf (T : List Node) (ses : Int) : List Node := if ses < 1 then T else T.filter fun x => decide (x.owner ≠ ses)
def endChg (T : List Node) (ses : Int) : List Chg := if ses < 1 then [] else (T.filter fun x => decide (x.owner = ses)).map goneOf

end Go.Proofs.YtpmlfpmedbccaaaDoor
