/- This text is a part of the proofs of the statements of this seat: the ideal states and their rules, or what one of the functions that the statements reach comes to. Conditions: none beyond those that each theorem names. -/
import Derived.WalkKit
import Derived.MapKept
import Derived.Laws.BytesString
set_option linter.unusedVariables false
set_option linter.unusedSimpArgs false
namespace Go.Idl

inductive Tok where
  | plain
  | tight
  | row (t g : Nat)

inductive IV where
  | dead
  | bool (b : Bool)
  | int (k : IntKind) (n : Int)
  | str (s : ByteArray)
  | list (t : Tok) (rows : List (List IV))
  | sl (z b off len cap : Nat)
  | aptr (z b i off : Nat)
  | eptr (rows : List (List IV)) (i off : Nat)
  | agg (cs : List IV)
  | tup (vs : List IV)
  | nilptr
  | loc (s g off : Nat)
  | ptr (b off : Nat)
  | mapv (b : Nat)
  | nilmap
  | fn (f : Fn) (first cap : List IV)
  | nilfn
  | iface (t : TypeId) (v : IV)
  | niliface

/-- cells frozen for good, with their values -/
def FCells (F : Nat → Nat → Prop) (w : World) (b o : Nat) (vals : List Value) : Prop :=
  ∀ j v, vals[j]? = some v → F b (o + j) ∧ w.cell? ⟨b, o + j, none⟩ = some v ∧ v.oneCell' = true

mutual
def Rep (F : Nat → Nat → Prop) (w : World) : IV → Value → Prop
  | .dead, _ => True
  | .bool b, v => v = .bool b
  | .int k n, v => v = .int k n
  | .str s, v => v = .string s
  | .list t rows, v => ∃ A cap vals, v = .slice A rows.length cap ∧ rows.length ≤ cap ∧ cap ≤ maxLen ∧ (∀ s g, t ≠ .row s g) ∧ (t = .tight → rows.length = cap) ∧
      (match A with
        | none => cap = 0
        | some a => (t = .tight ∨ cap ≠ 0 → a.spot = none) ∧ FCells F w a.block a.off vals ∧ RepRows F w rows vals)
  | .sl z b off len cap, v => v = .slice (some ⟨b, off * z, none⟩) len cap ∧ len ≤ cap ∧ cap ≤ maxLen
  | .aptr z b i off, v => v = .pointer (some ⟨b, i * z + off, none⟩)
  | .eptr rows i off, v => ∃ b o vals, v = .pointer (some ⟨b, o + (rows.take i).flatten.length + off, none⟩) ∧ FCells F w b o vals ∧ RepRows F w rows vals
  | .agg cs, v => ∃ vs : Array Value, v = .agg vs ∧ (∀ u ∈ vs.toList, u.oneCell' = true) ∧ RepAll F w cs vs.toList
  | .tup cs, v => ∃ vs, v = .tuple vs ∧ RepAll F w cs vs.toList
  | .nilptr, v => v = .pointer none
  | .loc _ _ _, _ => False
  | .ptr b off, v => v = .pointer (some ⟨b, off, none⟩)
  | .mapv b, v => v = .map (some b)
  | .nilmap, v => v = .map none
  | .fn f first cap, v => ∃ v1 v2, v = .func f v1 v2 ∧ RepAll F w first v1.toList ∧ RepAll F w cap v2.toList
  | .nilfn, v => v = .nilFunc
  | .iface t x, v => ∃ u, v = .iface t u ∧ Rep F w x u
  | .niliface, v => v = .nilIface
def RepAll (F : Nat → Nat → Prop) (w : World) : List IV → List Value → Prop
  | [], vs => vs = []
  | c :: cs, vs => ∃ v vs', vs = v :: vs' ∧ Rep F w c v ∧ RepAll F w cs vs'
def RepRows (F : Nat → Nat → Prop) (w : World) : List (List IV) → List Value → Prop
  | [], vs => vs = []
  | r :: rs, vs => ∃ v1 v2, vs = v1 ++ v2 ∧ RepAll F w r v1 ∧ RepRows F w rs v2
end

structure FLe (F : Nat → Nat → Prop) (w : World) (F' : Nat → Nat → Prop) (w' : World) : Prop where
  mono : ∀ b o, F b o → F' b o
  cell : ∀ b o, F b o → w'.cell? ⟨b, o, none⟩ = w.cell? ⟨b, o, none⟩

theorem FCells.mono {F F' w w' b o vals} (h : FLe F w F' w') (hc : FCells F w b o vals) : FCells F' w' b o vals := fun j v hv =>
  let ⟨h1, h2, h3⟩ := hc j v hv
  ⟨h.mono _ _ h1, (h.cell _ _ h1).trans h2, h3⟩

mutual
theorem Rep.mono {F F' : Nat → Nat → Prop} {w w' : World} (h : FLe F w F' w') : ∀ (x : IV) (v : Value), Rep F w x v → Rep F' w' x v
  | .dead, _, _ => trivial
  | .bool b, v, hv => hv
  | .int k n, v, hv => hv
  | .str s, v, hv => hv
  | .list t rows, v, hv => by
    obtain ⟨A, cap, vals, h1, h2, h3, h4, h5, h6⟩ := hv
    refine ⟨A, cap, vals, h1, h2, h3, h4, h5, ?_⟩
    cases A with
    | none => exact h6
    | some a => exact ⟨h6.1, h6.2.1.mono h, RepRows.mono h rows vals h6.2.2⟩
  | .sl _ _ _ _ _, v, hv => hv
  | .aptr _ _ _ _, v, hv => hv
  | .eptr rows i off, v, hv => by
    obtain ⟨b, o, vals, h1, h2, h3⟩ := hv
    exact ⟨b, o, vals, h1, h2.mono h, RepRows.mono h rows vals h3⟩
  | .agg cs, v, hv => by obtain ⟨vs, h1, h3, h2⟩ := hv; exact ⟨vs, h1, h3, RepAll.mono h cs _ h2⟩
  | .tup cs, v, hv => by obtain ⟨vs, h1, h2⟩ := hv; exact ⟨vs, h1, RepAll.mono h cs _ h2⟩
  | .nilptr, v, hv => hv
  | .loc _ _ _, _, hv => hv
  | .ptr b off, v, hv => hv
  | .mapv b, v, hv => hv
  | .nilmap, v, hv => hv
  | .fn f first cap, v, hv => by
    obtain ⟨v1, v2, h1, h2, h3⟩ := hv
    exact ⟨v1, v2, h1, RepAll.mono h first _ h2, RepAll.mono h cap _ h3⟩
  | .nilfn, v, hv => hv
  | .iface t x, v, hv => by obtain ⟨u, h1, h2⟩ := hv; exact ⟨u, h1, Rep.mono h x u h2⟩
  | .niliface, v, hv => hv
theorem RepAll.mono {F F' : Nat → Nat → Prop} {w w' : World} (h : FLe F w F' w') : ∀ (xs : List IV) (vs : List Value), RepAll F w xs vs → RepAll F' w' xs vs
  | [], _, hv => hv
  | c :: cs, vs, hv => by
    obtain ⟨v, vs', h1, h2, h3⟩ := hv
    exact ⟨v, vs', h1, Rep.mono h c v h2, RepAll.mono h cs vs' h3⟩
theorem RepRows.mono {F F' : Nat → Nat → Prop} {w w' : World} (h : FLe F w F' w') : ∀ (xs : List (List IV)) (vs : List Value), RepRows F w xs vs → RepRows F' w' xs vs
  | [], _, hv => hv
  | c :: cs, vs, hv => by
    obtain ⟨v, vs', h1, h2, h3⟩ := hv
    exact ⟨v, vs', h1, RepAll.mono h c v h2, RepRows.mono h cs vs' h3⟩
end

inductive IObj where
  | cells (cs : List IV)
  | arr (e : TypeId) (z : Nat) (rows : List (List IV)) (tot : Nat)
  | map (es : List (IV × IV))
  | froz (cs : List IV)
  | sit (s : ByteArray) (pos : Nat)
  | pmap (es : List (IV × IV)) (ents : List MapEntry) (clock : Nat)
  | mit (m : Nat) (ents : List MapEntry) (clock : Nat) (left : List (IV × IV)) (cur : Option (IV × IV))

abbrev Heap := Nat → Option IObj

structure St where
  t : Nat → IV
  m : Nat → Option (Nat × List IV)
  x : Nat → Option (Nat × Nat × TypeId)
  h : Heap

def upd {α : Type} (f : Nat → α) (i : Nat) (v : α) : Nat → α := fun j => if j = i then v else f j
theorem upd_same {α : Type} (f : Nat → α) (i : Nat) (v : α) : upd f i v i = v := by simp [upd]
theorem upd_ne {α : Type} (f : Nat → α) {i j : Nat} (v : α) (h : j ≠ i) : upd f i v j = f j := by simp [upd, h]

structure Gh where
  F : Nat → Nat → Prop
  X : Nat → Prop
  lb : Nat → Nat
  rv : Nat → Value

def strC : IV → IV
  | .list _ rs => .list .plain rs
  | x => x
def strip : IV → IV
  | .list _ rs => .list .plain rs
  | .loc _ _ _ => .dead
  | .agg cs => .agg (cs.map strC)
  | x => x

/-- as strip; but a list without room behind its end stays one -/
def strT : IV → IV
  | .list .tight rs => .list .tight rs
  | .list _ rs => .list .plain rs
  | x => x
def stripT : IV → IV
  | .list .tight rs => .list .tight rs
  | .list _ rs => .list .plain rs
  | .loc _ _ _ => .dead
  | .agg cs => .agg (cs.map strT)
  | x => x

def LRep (g : Gh) (st : St) (w : World) : IV → Value → Prop
  | .loc s gg o, v => ∃ g0 cs, st.m s = some (g0, cs) ∧ gg ≤ g0 ∧ (gg = g0 → v = .pointer (some ⟨g.lb s, o, none⟩))
  | .list (.row s gg) rows, v => Rep g.F w (.list .plain rows) v ∧ ∃ g0 n0 e, st.x s = some (g0, n0, e) ∧ gg ≤ g0 ∧ (gg = g0 → rows.length ≤ n0 ∧ (rows.length = n0 → v = g.rv s))
  | x, v => Rep g.F w x v

theorem Rep.plain {F w} {t : Tok} {rows : List (List IV)} {v : Value} (h : Rep F w (.list t rows) v) : Rep F w (.list .plain rows) v := by
  obtain ⟨A, cap, vals, h1, h2, h3, h4, h5, h6⟩ := h
  refine ⟨A, cap, vals, h1, h2, h3, (fun _ _ h => nomatch h), (fun h => nomatch h), ?_⟩
  cases A with
  | none => exact h6
  | some a => exact ⟨fun h => h6.1 (.inr (h.elim (fun e => nomatch e) id)), h6.2⟩
theorem Rep.strC {F w} {x : IV} {v : Value} (h : Rep F w x v) : Rep F w (strC x) v := by
  cases x with
  | list t rows => exact Rep.plain h
  | _ => exact h
theorem RepAll.strC {F w} : ∀ {cs : List IV} {vs : List Value}, RepAll F w cs vs → RepAll F w (cs.map Idl.strC) vs
  | [], _, h => h
  | c :: cs, vs, h => by obtain ⟨v, vs', rfl, h1, h2⟩ := h; exact ⟨v, vs', rfl, h1.strC, h2.strC⟩

theorem LRep.strip {g : Gh} {st : St} {w : World} {x : IV} {v : Value} (h : LRep g st w x v) : Rep g.F w (strip x) v := by
  cases x with
  | list t rows =>
    cases t with
    | row s gg => exact h.1
    | plain => exact h
    | tight => exact Rep.plain h
  | loc s gg o => trivial
  | agg cs => obtain ⟨vs, h1, h2, h3⟩ := h; exact ⟨vs, h1, h2, h3.strC⟩
  | _ => exact h

theorem Rep.strT {F w} {x : IV} {v : Value} (h : Rep F w x v) : Rep F w (strT x) v := by
  cases x with
  | list t rows => cases t <;> first | exact h | exact Rep.plain h
  | _ => exact h
theorem RepAll.strT {F w} : ∀ {cs : List IV} {vs : List Value}, RepAll F w cs vs → RepAll F w (cs.map Idl.strT) vs
  | [], _, h => h
  | c :: cs, vs, h => by obtain ⟨v, vs', rfl, h1, h2⟩ := h; exact ⟨v, vs', rfl, h1.strT, h2.strT⟩
theorem LRep.stripT {g : Gh} {st : St} {w : World} {x : IV} {v : Value} (h : LRep g st w x v) : Rep g.F w (stripT x) v := by
  cases x with
  | list t rows =>
    cases t with
    | row s gg => exact h.1
    | plain => exact h
    | tight => exact h
  | loc s gg o => trivial
  | agg cs => obtain ⟨vs, h1, h2, h3⟩ := h; exact ⟨vs, h1, h2, h3.strT⟩
  | _ => exact h

theorem Rep.lrep {g : Gh} {st : St} {w : World} {x : IV} {v : Value} (h : Rep g.F w x v) : LRep g st w x v := by
  cases x with
  | list t rows =>
    cases t with
    | row s gg => obtain ⟨A, cap, vals, h1, h2, h3, h4, h5, h6⟩ := h; exact absurd rfl (h4 s gg)
    | plain => exact h
    | tight => exact h
  | loc s gg o => exact h.elim
  | _ => exact h

def LRepAll (g : Gh) (st : St) (w : World) : List IV → List Value → Prop
  | [], vs => vs = []
  | c :: cs, vs => ∃ v vs', vs = v :: vs' ∧ LRep g st w c v ∧ LRepAll g st w cs vs'

/-- size of a type in cells -/
def szT (P : Program) (t : TypeId) : Option Nat := (P.info? t).map (·.size)
def byT (P : Program) (t : TypeId) : Nat := ((P.info? t).map (·.bytes)).getD 0
def zeT (P : Program) (t : TypeId) : Option Value := (P.info? t).bind (·.zero)
def aggT (P : Program) (t : TypeId) : Option Bool :=
  match P.underlying t with
  | some (.struct _) => some true
  | some (.array _ _) => some true
  | some _ => some false
  | none => none
def offT (P : Program) (t : TypeId) (f : Nat) : Option Nat :=
  match P.underlying t with
  | some (.struct fs) =>
    match fs[f]? with
    | some fd => match szT P fd.type with | some (_ + 1) => some fd.offset | _ => none
    | none => none
  | _ => none
def fieldT (P : Program) (t : TypeId) (f : Nat) : Option (Nat × TypeId) :=
  match P.underlying t with
  | some (.struct fs) => (fs[f]?).map fun fd => (fd.offset, fd.type)
  | _ => none
def elT (P : Program) (t : TypeId) : Option TypeId :=
  match P.underlying t with
  | some (.slice e) => some e
  | _ => none

/-- a map's entries -/
def RepEnts (F : Nat → Nat → Prop) (w : World) : List (IV × IV) → List MapEntry → Prop
  | [], es => es = []
  | p :: r, es => ∃ e es', es = e :: es' ∧ Rep F w p.1 e.key ∧ Rep F w p.2 e.val ∧ RepEnts F w r es'

def ObjRep (F : Nat → Nat → Prop) (w : World) (b : Nat) : IObj → Prop
  | .cells cs => ∃ (pre post : List Value) (e : TypeId), w.heap[b]? = some (.cells (pre ++ post).toArray e (0, 0)) ∧ RepAll F w cs pre ∧ ∀ v ∈ pre ++ post, v.oneCell' = true
  | .arr e z rows tot => ∃ (pre post : List Value), w.heap[b]? = some (.cells (pre ++ post).toArray e (0, 0)) ∧ RepAll F w rows.flatten pre ∧ (rows.all fun r => r.length == z) = true ∧
      (pre ++ post).length = tot * z ∧ 0 < z ∧ ∀ v ∈ pre, v.oneCell' = true
  | .map es => ∃ (ents : List MapEntry) (clock : Nat), w.heap[b]? = some (.map ents.toArray clock) ∧ RepEnts F w es ents ∧ MapKept.Stamped ents.toArray clock
  | .froz cs => ∃ vals, FCells F w b 0 vals ∧ RepAll F w cs vals ∧ vals ≠ [] ∧ (∀ o, F b o) ∧ ∃ e fr, w.heap[b]? = some (.cells vals.toArray e fr)
  | .sit s pos => w.heap[b]? = some (.stringIter s pos)
  | .pmap es ents clock => w.heap[b]? = some (.map ents.toArray clock) ∧ RepEnts F w es ents ∧ MapKept.Stamped ents.toArray clock
  | .mit m ents clock left cur => ∃ seen, w.heap[b]? = some (.mapIter (some m) clock seen clock) ∧ RepEnts F w left (ents.filter fun e => !seen.contains e.born) ∧
      ∀ k v, cur = some (k, v) → ∃ e ∈ ents, seen.back? = some e.born ∧ Rep F w k e.key ∧ Rep F w v e.val

/-- a block whose cells are frozen is nobody's to write -/
def XOk (X : Nat → Prop) (b : Nat) : IObj → Prop
  | .froz _ => True
  | _ => X b
theorem XOk.mono {X X' : Nat → Prop} {b : Nat} {o : IObj} (h : XOk X b o) (hx : X b → X' b) : XOk X' b o := by cases o <;> first | trivial | exact hx h
theorem XOk.of {X : Nat → Prop} {b : Nat} {o : IObj} (h : X b) : XOk X b o := by cases o <;> first | trivial | exact h
structure Core (P : Program) (N B : Nat) (ds : List Deferred) (g : Gh) (st : St) (a : Act) (w : World) : Prop where
  size : a.tmps.size = N
  defers : a.defers = ds
  tm : ∀ t, t < N → LRep g st w (st.t t) (a.tmps.getD t undef)
  hp : ∀ b o, st.h b = some o → XOk g.X b o ∧ ObjRep g.F w b o
  xf : ∀ b o, g.X b → ¬ g.F b o
  xb : ∀ b, g.X b → b < w.heap.size
  fb : ∀ b o, g.F b o → b < w.heap.size
  lc : ∀ s gg cs, st.m s = some (gg, cs) → B ≤ g.lb s ∧ ¬ g.X (g.lb s) ∧ (∀ o, ¬ g.F (g.lb s) o) ∧
    ∃ (vals : List Value) (e : TypeId), w.heap[g.lb s]? = some (.cells vals.toArray e (0, 0)) ∧ LRepAll g st w cs vals ∧ ∀ v ∈ vals, v.oneCell' = true
  ld : ∀ s s', s ≠ s' → st.m s ≠ none → st.m s' ≠ none → g.lb s ≠ g.lb s'
  rws : ∀ s gg n e, st.x s = some (gg, n, e) → ∃ z xs, szT P e = some z ∧ 0 < z ∧ w.ownsRow B e z (g.rv s) n xs ∧
    ∀ blk, (g.rv s).ownBlock = some blk → ¬ g.X blk ∧ (∀ o, g.F blk o → o < n * z) ∧ ∀ s', st.m s' ≠ none → g.lb s' ≠ blk
  rds : ∀ s s', s ≠ s' → st.x s ≠ none → st.x s' ≠ none → ∀ blk, (g.rv s).ownBlock = some blk → (g.rv s').ownBlock ≠ some blk

structure Keep (F0 : Nat → Nat → Prop) (X0 : Nat → Prop) (w0 : World) (F : Nat → Nat → Prop) (X : Nat → Prop) (w : World) : Prop where
  sz : w0.heap.size ≤ w.heap.size
  os : w.os = w0.os
  tape : w.tape = w0.tape
  out : w.output = w0.output
  fm : ∀ b o, F0 b o → F b o
  fc : ∀ b o, F0 b o → w.cell? ⟨b, o, none⟩ = w0.cell? ⟨b, o, none⟩
  ub : ∀ b, b < w0.heap.size → ¬ X0 b → w.heap[b]? = w0.heap[b]?
  xn : ∀ b, X b → X0 b ∨ w0.heap.size ≤ b
  fn : ∀ b o, F b o → F0 b o ∨ w0.heap.size ≤ b ∨ X0 b

theorem Keep.refl (F X w) : Keep F X w F X w := ⟨Nat.le_refl _, rfl, rfl, rfl, fun _ _ h => h, fun _ _ _ => rfl, fun _ _ _ => rfl, fun _ h => .inl h, fun _ _ h => .inl h⟩
theorem Keep.trans {F0 X0 w0 F1 X1 w1 F2 X2 w2} (h : Keep F0 X0 w0 F1 X1 w1) (k : Keep F1 X1 w1 F2 X2 w2) : Keep F0 X0 w0 F2 X2 w2 where
  sz := Nat.le_trans h.sz k.sz
  os := k.os.trans h.os
  tape := k.tape.trans h.tape
  out := k.out.trans h.out
  fm b o hb := k.fm b o (h.fm b o hb)
  fc b o hb := (k.fc b o (h.fm b o hb)).trans (h.fc b o hb)
  ub b hb hx := (k.ub b (Nat.lt_of_lt_of_le hb h.sz) (fun hx1 => (h.xn b hx1).elim hx (fun h2 => by omega))).trans (h.ub b hb hx)
  xn b hb := (k.xn b hb).elim (h.xn b) (fun h2 => .inr (Nat.le_trans h.sz h2))
  fn b o hb := (k.fn b o hb).elim (h.fn b o) (fun h2 => h2.elim (fun h3 => .inr (.inl (Nat.le_trans h.sz h3))) (fun h3 => .inr ((h.xn b h3).elim .inr .inl)))

structure Ctx where
  P : Program
  N : Nat
  F0 : Nat → Nat → Prop
  X0 : Nat → Prop
  w0 : World
  ds : List Deferred

def Sim (c : Ctx) (st : St) (a : Act) (w : World) : Prop :=
  ∃ g, Core c.P c.N c.w0.heap.size c.ds g st a w ∧ Keep c.F0 c.X0 c.w0 g.F g.X w

/-! operands -/
def cv : Value → IV
  | .bool b => .bool b
  | .int k n => .int k n
  | .string s => .str s
  | .pointer none => .nilptr
  | .slice none 0 0 => .list .tight []
  | .map none => .nilmap
  | .nilFunc => .nilfn
  | .nilIface => .niliface
  | _ => .dead

theorem cv_rep (F w) (v : Value) : Rep F w (cv v) v := by
  unfold cv
  split <;> first | rfl | trivial | skip
  refine ⟨none, 0, [], rfl, Nat.le_refl _, Nat.zero_le _, (fun _ _ h => nomatch h), fun _ => rfl, rfl⟩

def St.ev (st : St) : Operand → IV
  | .tmp t => st.t t
  | .const v => cv v
  | .global g => .ptr g 0
  | .func f => .fn (.func f) [] []

def opLt (N : Nat) : Operand → Bool
  | .tmp t => decide (t < N)
  | _ => true

theorem Core.ev {P N B ds g st a w} (h : Core P N B ds g st a w) {x : Operand} (hx : opLt N x = true) : LRep g st w (st.ev x) (a.eval x) := by
  cases x with
  | tmp t => exact h.tm t (by simpa [opLt] using hx)
  | const v => exact (cv_rep _ _ v).lrep
  | global b => exact Rep.lrep (x := .ptr b 0) rfl
  | func f => exact Rep.lrep (x := .fn (.func f) [] []) ⟨#[], #[], rfl, rfl, rfl⟩
theorem oneCell_of_rep {F w} {x : IV} {v : Value} (h : Rep F w x v) (h1 : ∀ cs, x ≠ .agg cs) (h2 : ∀ cs, x ≠ .tup cs) (h3 : x ≠ .dead) : v.oneCell' = true := by
  cases x with
  | dead => exact absurd rfl h3
  | agg cs => exact absurd rfl (h1 cs)
  | tup cs => exact absurd rfl (h2 cs)
  | bool b => cases h; rfl
  | int k n => cases h; rfl
  | str s => cases h; rfl
  | list t rows => obtain ⟨A, cap, vals, rfl, _⟩ := h; rfl
  | sl z b off len cap => obtain ⟨rfl, _⟩ := h; rfl
  | aptr z b i off => cases h; rfl
  | eptr rows i off => obtain ⟨b, o, vals, rfl, _⟩ := h; rfl
  | nilptr => cases h; rfl
  | loc s g o => exact h.elim
  | ptr b off => cases h; rfl
  | mapv b => cases h; rfl
  | nilmap => cases h; rfl
  | fn f a b => obtain ⟨v1, v2, rfl, _⟩ := h; rfl
  | nilfn => cases h; rfl
  | iface t x => obtain ⟨u, rfl, _⟩ := h; rfl
  | niliface => cases h; rfl

theorem RepAll.length {F w} : ∀ {xs : List IV} {vs : List Value}, RepAll F w xs vs → vs.length = xs.length
  | [], _, h => by cases h; rfl
  | c :: cs, vs, h => by obtain ⟨v, vs', rfl, _, h2⟩ := h; simp [RepAll.length h2]

theorem RepAll.get {F w} : ∀ {xs : List IV} {vs : List Value}, RepAll F w xs vs → ∀ (i : Nat) (x : IV), xs[i]? = some x → ∃ v, vs[i]? = some v ∧ Rep F w x v
  | [], _, _, i, x, hx => by simp at hx
  | c :: cs, vs, h, i, x, hx => by
    obtain ⟨v, vs', rfl, h1, h2⟩ := h
    cases i with
    | zero => simp at hx; subst hx; exact ⟨v, by simp, h1⟩
    | succ i => simp at hx ⊢; exact h2.get i x hx

theorem RepAll.append {F w} : ∀ {xs ys : List IV} {vs us : List Value}, RepAll F w xs vs → RepAll F w ys us → RepAll F w (xs ++ ys) (vs ++ us)
  | [], _, vs, us, h, k => by cases h; exact k
  | c :: cs, ys, vs, us, h, k => by obtain ⟨v, vs', rfl, h1, h2⟩ := h; exact ⟨v, vs' ++ us, rfl, h1, h2.append k⟩

theorem RepAll.drop {F w} : ∀ {xs : List IV} {vs : List Value}, RepAll F w xs vs → ∀ n, RepAll F w (xs.drop n) (vs.drop n)
  | [], vs, h, n => by cases h; simp [RepAll]
  | c :: cs, vs, h, n => by
    cases n with
    | zero => exact h
    | succ n => obtain ⟨v, vs', rfl, h1, h2⟩ := h; exact h2.drop n
theorem RepAll.take {F w} : ∀ {xs : List IV} {vs : List Value}, RepAll F w xs vs → ∀ n, RepAll F w (xs.take n) (vs.take n)
  | [], vs, h, n => by cases h; simp [RepAll]
  | c :: cs, vs, h, n => by
    cases n with
    | zero => simp [RepAll]
    | succ n => obtain ⟨v, vs', rfl, h1, h2⟩ := h; exact ⟨v, vs'.take n, rfl, h1, h2.take n⟩

theorem RepRows.flat {F w} : ∀ {xs : List (List IV)} {vs : List Value}, RepRows F w xs vs → RepAll F w xs.flatten vs
  | [], _, h => by cases h; rfl
  | r :: rs, vs, h => by obtain ⟨v1, v2, rfl, h1, h2⟩ := h; simpa using h1.append h2.flat
theorem RepRows.unflat {F w} : ∀ {xs : List (List IV)} {vs : List Value}, RepAll F w xs.flatten vs → RepRows F w xs vs
  | [], vs, h => by have h1 : vs = [] := by simpa [RepAll] using h
                    exact h1
  | r :: rs, vs, h => by
    simp only [List.flatten_cons] at h
    have h1 := h.take r.length
    have h2 := h.drop r.length
    simp at h1 h2
    exact ⟨_, _, (List.take_append_drop r.length vs).symm, h1, RepRows.unflat h2⟩
theorem RepRows.append {F w} {xs ys : List (List IV)} {vs us : List Value} (h : RepRows F w xs vs) (k : RepRows F w ys us) : RepRows F w (xs ++ ys) (vs ++ us) :=
  RepRows.unflat (by simpa using h.flat.append k.flat)

theorem LRepAll.length {g st w} : ∀ {xs : List IV} {vs : List Value}, LRepAll g st w xs vs → vs.length = xs.length
  | [], _, h => by cases h; rfl
  | c :: cs, vs, h => by obtain ⟨v, vs', rfl, _, h2⟩ := h; simp [LRepAll.length h2]
theorem LRepAll.strip {g st w} : ∀ {xs : List IV} {vs : List Value}, LRepAll g st w xs vs → RepAll g.F w (xs.map strip) vs
  | [], _, h => h
  | c :: cs, vs, h => by obtain ⟨v, vs', rfl, h1, h2⟩ := h; exact ⟨v, vs', rfl, h1.strip, h2.strip⟩
theorem LRepAll.drop {g st w} : ∀ {xs : List IV} {vs : List Value}, LRepAll g st w xs vs → ∀ n, LRepAll g st w (xs.drop n) (vs.drop n)
  | [], vs, h, n => by cases h; simp [LRepAll]
  | c :: cs, vs, h, n => by
    cases n with
    | zero => exact h
    | succ n => obtain ⟨v, vs', rfl, h1, h2⟩ := h; exact h2.drop n
theorem LRepAll.take {g st w} : ∀ {xs : List IV} {vs : List Value}, LRepAll g st w xs vs → ∀ n, LRepAll g st w (xs.take n) (vs.take n)
  | [], vs, h, n => by cases h; simp [LRepAll]
  | c :: cs, vs, h, n => by
    cases n with
    | zero => simp [LRepAll]
    | succ n => obtain ⟨v, vs', rfl, h1, h2⟩ := h; exact ⟨v, vs'.take n, rfl, h1, h2.take n⟩
theorem RepAll.lrep {g st w} : ∀ {xs : List IV} {vs : List Value}, RepAll g.F w xs vs → LRepAll g st w xs vs
  | [], _, h => h
  | c :: cs, vs, h => by obtain ⟨v, vs', rfl, h1, h2⟩ := h; exact ⟨v, vs', rfl, h1.lrep, h2.lrep⟩

/-- k cells at an address -/
def St.rd (st : St) (x : IV) (k : Nat) : Option (List IV) :=
  match x with
  | .loc s g o =>
    match st.m s with
    | some (g', cs) => if g = g' ∧ o + k ≤ cs.length then some ((cs.drop o).take k) else none
    | none => none
  | .ptr b o =>
    match st.h b with
    | some (.cells cs) => if o + k ≤ cs.length then some ((cs.drop o).take k) else none
    | some (.froz cs) => if o + k ≤ cs.length then some ((cs.drop o).take k) else none
    | _ => none
  | .eptr rows i o =>
    match rows[i]? with
    | some r => if o + k ≤ r.length then some ((r.drop o).take k) else none
    | none => none
  | .aptr z b i o =>
    match st.h b with
    | some (.arr _ z' rows _) =>
      match rows[i]? with
      | some r => if z = z' ∧ o + k ≤ z then some ((r.drop o).take k) else none
      | none => none
    | _ => none
  | _ => none

theorem addr_add (b o j : Nat) : (Addr.add ⟨b, o, none⟩ j) = ⟨b, o + j, none⟩ := by
  unfold Addr.add; split <;> simp_all

theorem cell_at {w : World} {b o : Nat} {vals : Array Value} {e : TypeId} {fz : Nat × Nat} (h : w.heap[b]? = some (.cells vals e fz)) : w.cell? ⟨b, o, none⟩ = vals[o]? := by
  simp [World.cell?, h]

theorem flatten_take_len {α : Type} (rows : List (List α)) (i : Nat) (r : List α) (h : rows[i]? = some r) :
    ((rows.flatten.drop (rows.take i).flatten.length).take r.length) = r := by
  induction rows generalizing i with
  | nil => simp at h
  | cons x xs ih =>
    cases i with
    | zero => simp at h; subst h; simp
    | succ i =>
      simp only [List.getElem?_cons_succ] at h
      have e := ih i h
      simp only [List.take_succ_cons, List.flatten_cons, List.length_append, List.drop_append]
      rw [List.drop_eq_nil_of_le (by omega), List.nil_append, show x.length + (List.take i xs).flatten.length - x.length = (List.take i xs).flatten.length by omega]
      exact e

theorem all_flat {z : Nat} : ∀ {rows : List (List IV)}, (rows.all fun r => r.length == z) = true → ∀ i, i ≤ rows.length → (rows.take i).flatten.length = i * z
  | [], _, i, hi => by simp at hi; subst hi; simp
  | r :: rs, h, i, hi => by
    simp only [List.all_cons, Bool.and_eq_true, beq_iff_eq] at h
    cases i with
    | zero => simp
    | succ i =>
      have := all_flat (rows := rs) h.2 i (by simpa using hi)
      simp only [List.take_succ_cons, List.flatten_cons, List.length_append, this, h.1]
      rw [Nat.add_mul]; omega

/-- reading is right -/
theorem Core.rd {P N B ds g st a w} (h : Core P N B ds g st a w) {x : IV} {v : Value} {k : Nat} {cs : List IV} (hx : LRep g st w x v) (hr : st.rd x k = some cs) :
    ∃ ad vals, v = .pointer (some ad) ∧ ad.spot = none ∧ LRepAll g st w cs vals ∧ vals.length = k ∧ cs.length = k ∧ ∀ j u, vals[j]? = some u → w.cell? (ad.add j) = some u ∧ u.oneCell' = true := by
  cases x with
  | loc s gg o =>
    simp only [St.rd] at hr
    obtain ⟨g0, cs0, h1, h2, h3⟩ := hx
    simp only [h1] at hr
    split at hr
    · rename_i hc
      obtain ⟨rfl, hlen⟩ := hc
      cases hr
      obtain ⟨_, _, _, vals, e, hb, hl, hone⟩ := h.lc s _ _ h1
      refine ⟨⟨g.lb s, o, none⟩, (vals.drop o).take k, h3 rfl, rfl, (hl.drop o).take k, ?_, ?_, ?_⟩
      · have := hl.length; simp; omega
      · simp; omega
      · intro j u hu
        rw [addr_add, cell_at hb]
        rw [List.getElem?_take] at hu
        split at hu
        · rw [List.getElem?_drop] at hu
          exact ⟨by simpa using hu, hone u (List.mem_of_getElem? hu)⟩
        · simp at hu
    · simp at hr
  | ptr b o =>
    simp only [St.rd] at hr
    have hv : v = .pointer (some ⟨b, o, none⟩) := hx
    split at hr
    · rename_i cs0 hb0
      split at hr
      · rename_i hlen
        cases hr
        obtain ⟨_, pre, post, e, hb, hl, hone⟩ := h.hp b _ hb0
        have hll := hl.length
        refine ⟨⟨b, o, none⟩, (pre.drop o).take k, hv, rfl, ((hl.drop o).take k).lrep, ?_, ?_, ?_⟩
        · simp; omega
        · simp; omega
        · intro j u hu
          rw [addr_add, cell_at hb]
          rw [List.getElem?_take] at hu
          split at hu
          · rw [List.getElem?_drop] at hu
            have hj : o + j < pre.length := by
              have := (List.getElem?_eq_some_iff.1 hu).1; exact this
            refine ⟨?_, hone u (List.mem_append_left _ (List.mem_of_getElem? hu))⟩
            simp only [List.getElem?_toArray]
            rw [List.getElem?_append_left hj]; exact hu
          · simp at hu
      · simp at hr
    · rename_i cs0 hb0
      split at hr
      · rename_i hlen
        cases hr
        obtain ⟨_, vals, hc, hl, _⟩ := h.hp b _ hb0
        have hll := hl.length
        refine ⟨⟨b, o, none⟩, (vals.drop o).take k, hv, rfl, ((hl.drop o).take k).lrep, by simp; omega, by simp; omega, ?_⟩
        intro j u hu
        rw [List.getElem?_take] at hu
        split at hu
        · rw [List.getElem?_drop] at hu
          have h2 := (hc _ _ hu).2
          rw [addr_add]
          simpa using h2
        · simp at hu
      · simp at hr
    · simp at hr
  | eptr rows i o =>
    simp only [St.rd] at hr
    obtain ⟨b, o0, vals, hv, hc, hrows⟩ := hx
    split at hr
    · rename_i r hi
      split at hr
      · rename_i hlen
        cases hr
        have hfl := hrows.flat
        have h1 := ((hfl.drop (rows.take i).flatten.length).take r.length)
        rw [flatten_take_len rows i r hi] at h1
        have h2 := (h1.drop o).take k
        have hl1 := h1.length
        refine ⟨_, _, hv, rfl, h2.lrep, ?_, ?_, ?_⟩
        · simp only [List.length_take, List.length_drop] at hl1 ⊢; omega
        · simp; omega
        · intro j u hu
          rw [addr_add]
          simp only [List.getElem?_take] at hu
          split at hu
          · simp only [List.getElem?_drop, List.getElem?_take] at hu
            split at hu
            · obtain ⟨_, k2, k3⟩ := hc _ u hu
              refine ⟨?_, k3⟩
              rw [← k2]; congr 2; omega
            · simp at hu
          · simp at hu
      · simp at hr
    · simp at hr
  | aptr z b i o =>
    simp only [St.rd] at hr
    have hv : v = .pointer (some ⟨b, i * z + o, none⟩) := hx
    split at hr
    · rename_i e z' rows tot hb0
      split at hr
      · rename_i r hi
        split at hr
        · rename_i hc
          obtain ⟨rfl, hlen⟩ := hc
          cases hr
          obtain ⟨_, pre, post, hb, hl, hu, htot, hz, hone⟩ := h.hp b _ hb0
          have hrl : r.length = z := by simp only [List.all_eq_true, beq_iff_eq] at hu; exact hu r (List.mem_of_getElem? hi)
          have hofs : (rows.take i).flatten.length = i * z := all_flat hu i (by have := (List.getElem?_eq_some_iff.1 hi).1; omega)
          have h1 := ((hl.drop (rows.take i).flatten.length).take r.length)
          rw [flatten_take_len rows i r hi] at h1
          have h2 := (h1.drop o).take k
          have hl1 := h1.length
          refine ⟨_, _, hv, rfl, h2.lrep, ?_, ?_, ?_⟩
          · simp only [List.length_take, List.length_drop] at hl1 ⊢; omega
          · simp; omega
          · intro j u hu'
            rw [addr_add, cell_at hb]
            simp only [List.getElem?_take] at hu'
            split at hu'
            · simp only [List.getElem?_drop, List.getElem?_take] at hu'
              split at hu'
              · have hmem := List.mem_of_getElem? hu'
                refine ⟨?_, hone u hmem⟩
                simp only [List.getElem?_toArray]
                rw [hofs] at hu'
                have hj : i * z + (o + j) < pre.length := (List.getElem?_eq_some_iff.1 hu').1
                rw [List.getElem?_append_left (by omega), ← hu']; congr 1; omega
              · simp at hu'
            · simp at hu'
        · simp at hr
      · simp at hr
    · simp at hr
  | _ => simp [St.rd] at hr
def icells : IV → List IV
  | .agg cs => cs
  | x => [x]

def splice (cs : List IV) (off : Nat) (vs : List IV) : List IV := cs.take off ++ vs ++ cs.drop (off + vs.length)

/-- the parts of a struct laid over its cells: offset, size, value -/
def fillI : List IV → List (Nat × Nat × IV) → Option (List IV)
  | cs, [] => some cs
  | cs, (off, z, v) :: rest => if (icells v).length = z ∧ off + z ≤ cs.length then fillI (splice cs off (icells v)) rest else none

def addAddr : IV → Nat → Option IV
  | .loc s g o, n => some (.loc s g (o + n))
  | .ptr b o, n => some (.ptr b (o + n))
  | .eptr rows i o, n => some (.eptr rows i (o + n))
  | _, _ => none

/-- two values of one kind, compared -/
def ibin (op : BinOp) (x y : IV) : Option IV :=
  match x, y with
  | .int k a, .int k' b =>
    if k = k' then
      match op with
      | .add => some (.int k (k.wrap (a + b)))
      | .sub => some (.int k (k.wrap (a - b)))
      | .mul => some (.int k (k.wrap (a * b)))
      | .quo => if b = 0 then none else some (.int k (k.wrap (a.tdiv b)))
      | .rem => if b = 0 then none else some (.int k (a.tmod b))
      | .eql => some (.bool (a == b))
      | .neq => some (.bool (a != b))
      | .lss => some (.bool (decide (a < b)))
      | .leq => some (.bool (decide (a ≤ b)))
      | .gtr => some (.bool (decide (a > b)))
      | .geq => some (.bool (decide (a ≥ b)))
      | _ => none
    else none
  | .str a, .str b =>
    match op with
    | .add => if a.size + b.size ≤ 9223372036854775807 then some (.str (a ++ b)) else none
    | .eql => some (.bool (a.toList == b.toList))
    | .neq => some (.bool (!(a.toList == b.toList)))
    | .lss => some (.bool (Op.bytesLess a.toList b.toList))
    | .leq => some (.bool (Op.bytesLess a.toList b.toList || a.toList == b.toList))
    | .gtr => some (.bool (!(Op.bytesLess a.toList b.toList || a.toList == b.toList)))
    | .geq => some (.bool (!Op.bytesLess a.toList b.toList))
    | _ => none
  | _, _ => none

theorem ibin_run {P : Program} {F w} {op : BinOp} {t : TypeId} {x y z : IV} {vx vy : Value} (ox oy : Operand) (hx : Rep F w x vx) (hy : Rep F w y vy) (h : ibin op x y = some z) :
    ∃ v, (do eqGuard op t ox oy vx vy; binOp op t vx vy).run P w = .ok v w ∧ Rep F w z v := by
  cases x <;> cases y <;> simp only [ibin] at h <;> try cases h
  · rename_i k a k' b
    cases hx; cases hy
    split at h
    · rename_i hk
      subst hk
      have hg : ∀ op : BinOp, (eqGuard op t ox oy (.int k a) (.int k b)).run P w = .ok () w := by
        intro op; cases op <;> simp [eqGuard]
      cases op <;> simp only at h <;> first
        | (cases h; refine ⟨_, ?_, rfl⟩; simp [Sem.run_bind, hg, binOp, Op.intArith, Op.intCmp]; done)
        | (split at h
           · cases h
           · rename_i hb; cases h; refine ⟨_, ?_, rfl⟩; simp [Sem.run_bind, hg, binOp, Op.intDiv, hb]; done)
        | (cases h; done)
    · cases h
  · rename_i a b
    cases hx; cases hy
    have hg : ∀ op : BinOp, (eqGuard op t ox oy (.string a) (.string b)).run P w = .ok () w := by
      intro op; cases op <;> simp [eqGuard]
    cases op <;> simp only at h <;> first
      | (cases h; refine ⟨_, ?_, rfl⟩; simp [Sem.run_bind, hg, binOp, Op.stringOp]; done)
      | (split at h
         · rename_i hb; cases h; refine ⟨_, ?_, rfl⟩
           have hb' : ¬ ((9223372036854775807 : Int) < (a.size : Int) + (b.size : Int)) := by omega
           simp [Sem.run_bind, hg, binOp, Op.stringOp, IntKind.max, IntKind.signed, IntKind.bits, hb']; done
         · cases h)
      | (cases h; done)
def plcs (P : Program) (t : TypeId) : Option (List (Nat × Nat)) :=
  match P.underlying t with
  | some (.struct fs) => fs.toList.mapM (fun f => (P.info? f.type).map fun i => (f.offset, i.size))
  | _ => none

def fillP (pl : List (Nat × Nat)) : List IV → List (Nat × IV) → Option (List IV)
  | cs, [] => some cs
  | cs, (i, v) :: rest =>
    match pl[i]? with
    | some (off, z) => if (icells v).length = z ∧ off + z ≤ cs.length then fillP pl (splice cs off (icells v)) rest else none
    | none => none

theorem sets_toList (vs : List Value) : ∀ (off : Nat) (n : Nat) (cells : Array Value), off + n + vs.length ≤ cells.size →
    ((vs.zipIdx n).foldl (fun (cs : Array Value) (x : Value × Nat) => cs.setIfInBounds (off + x.2) x.1) cells).toList =
      cells.toList.take (off + n) ++ vs ++ cells.toList.drop (off + n + vs.length) := by
  induction vs with
  | nil => intro off n cells h; simp
  | cons v vs ih =>
    intro off n cells h
    simp only [List.length_cons] at h
    simp only [List.zipIdx_cons, List.foldl_cons, List.length_cons]
    rw [ih off (n + 1) _ (by simp; omega)]
    apply List.ext_getElem?
    intro j
    have hs : cells.toList.length = cells.size := by simp
    simp only [Array.toList_setIfInBounds, List.append_assoc, List.getElem?_append, List.length_take, List.length_set, hs, List.getElem?_take, List.getElem?_set, List.getElem?_drop, List.length_cons, List.getElem?_cons, List.length_append]
    rw [Nat.min_eq_left (by omega), Nat.min_eq_left (by omega)]
    by_cases h1 : j < off + n
    · rw [if_pos (by omega), if_pos h1, if_pos (by omega), if_neg (by omega), if_pos h1]
    · by_cases h2 : j = off + n
      · subst h2
        simp; omega
      · rw [if_neg (by omega), if_neg h1]
        by_cases h3 : j < off + n + 1 + vs.length
        · rw [if_pos (by omega), if_pos (by omega), if_neg (by omega)]
          congr 1 <;> omega
        · rw [if_neg (by omega), if_neg (by omega), if_neg (by omega)]
          congr 1 <;> omega

theorem cells_toList (v : Value) : v.cells.toList = (match v with | .agg cs => cs.toList | v => [v]) := by cases v <;> rfl

theorem icells_rep {F w} {x : IV} {v : Value} (h : Rep F w x v) (hd : x ≠ .dead ) : RepAll F w (icells x) v.cells.toList := by
  cases x with
  | dead => exact absurd rfl hd
  | agg cs => obtain ⟨vs, rfl, _, h2⟩ := h; exact h2
  | loc s g o => exact h.elim
  | bool b => cases h; exact ⟨_, _, rfl, rfl, rfl⟩
  | int k n => cases h; exact ⟨_, _, rfl, rfl, rfl⟩
  | str s => cases h; exact ⟨_, _, rfl, rfl, rfl⟩
  | list t rows => have h0 := h; obtain ⟨A, cap, vals, rfl, _⟩ := h; exact ⟨_, _, rfl, h0, rfl⟩
  | sl z b off len cap => have h0 := h; obtain ⟨rfl, _⟩ := h; exact ⟨_, _, rfl, h0, rfl⟩
  | aptr z b i off => cases h; exact ⟨_, _, rfl, rfl, rfl⟩
  | eptr rows i off => have h0 := h; obtain ⟨b, o, vals, rfl, _⟩ := h; exact ⟨_, _, rfl, h0, rfl⟩
  | nilptr => cases h; exact ⟨_, _, rfl, rfl, rfl⟩
  | ptr b off => cases h; exact ⟨_, _, rfl, rfl, rfl⟩
  | mapv b => cases h; exact ⟨_, _, rfl, rfl, rfl⟩
  | nilmap => cases h; exact ⟨_, _, rfl, rfl, rfl⟩
  | tup cs => have h0 := h; obtain ⟨vs, rfl, _⟩ := h; exact ⟨_, _, rfl, h0, rfl⟩
  | fn f a b => have h0 := h; obtain ⟨v1, v2, rfl, _⟩ := h; exact ⟨_, _, rfl, h0, rfl⟩
  | nilfn => cases h; exact ⟨_, _, rfl, rfl, rfl⟩
  | iface t x => have h0 := h; obtain ⟨u, rfl, _⟩ := h; exact ⟨_, _, rfl, h0, rfl⟩
  | niliface => cases h; exact ⟨_, _, rfl, rfl, rfl⟩

/-- a value that one cell or a struct's cells hold -/
def okV : IV → Bool
  | .dead => false
  | .tup _ => false
  | _ => true

theorem okV_one {F w} {x : IV} {v : Value} (h : Rep F w x v) (hd : okV x = true) : RepAll F w (icells x) v.cells.toList ∧ ∀ u ∈ v.cells.toList, u.oneCell' = true := by
  have hd' : x ≠ .dead := fun e => by subst e; cases hd
  refine ⟨icells_rep h hd', ?_⟩
  by_cases ha : ∃ cs, x = .agg cs
  · obtain ⟨cs, rfl⟩ := ha
    obtain ⟨vs, rfl, h1, _⟩ := h
    exact h1
  · have h1 := oneCell_of_rep h (fun cs e => ha ⟨cs, e⟩) (fun cs e => by subst e; cases hd) hd'
    rw [cells_toList]
    split
    · simp [Value.oneCell'] at h1
    · intro u hu; simp at hu; subst hu; exact h1

theorem RepAll.splice {F w} {cs vs : List IV} {us zs : List Value} {off : Nat} (h : RepAll F w cs us) (k : RepAll F w vs zs) : RepAll F w (splice cs off vs) (us.take off ++ zs ++ us.drop (off + zs.length)) := by
  unfold Idl.splice
  rw [k.length]
  exact (h.take off |>.append k).append (h.drop _)

theorem fillP_run {F w} (pl : List (Nat × Nat)) : ∀ (parts : List (Nat × IV)) (vparts : List (Nat × Value)) (cs : List IV) (cells : Array Value) (out : List IV),
    RepAll F w cs cells.toList → (∀ u ∈ cells.toList, u.oneCell' = true) → parts.length = vparts.length →
    (∀ (i : Nat) (p : Nat × IV) (q : Nat × Value), parts[i]? = some p → vparts[i]? = some q → p.1 = q.1 ∧ Rep F w p.2 q.2 ∧ okV p.2 = true) → fillP pl cs parts = some out →
    ∃ res, Instr.fill (fun i => pl[i]?) cells vparts = some res ∧ RepAll F w out res.toList ∧ ∀ u ∈ res.toList, u.oneCell' = true
  | [], [], cs, cells, out, h, h1, _, _, hf => by
    simp [fillP] at hf; subst hf
    exact ⟨cells, rfl, h, h1⟩
  | [], q :: qs, _, _, _, _, _, hl, _, _ => by simp at hl
  | (i, v) :: rest, [], _, _, _, _, _, hl, _, _ => by simp at hl
  | (i, v) :: rest, (j, u) :: urest, cs, cells, out, h, h1, hl, hp, hf => by
    have h0 := hp 0 (i, v) (j, u) rfl rfl
    obtain ⟨hij, hr, hok⟩ := h0
    simp only at hij; subst hij
    simp only [fillP] at hf
    split at hf
    · rename_i off z hpl
      split at hf
      · rename_i hc
        obtain ⟨ha, hb⟩ := okV_one hr hok
        have hlen := ha.length
        have hcl := h.length
        simp only [Array.length_toList] at hlen hcl
        have hset := sets_toList u.cells.toList off 0 cells (by simp; omega)
        obtain ⟨res, hres, hr1, hr2⟩ := fillP_run pl rest urest (splice cs off (icells v)) (u.cells.zipIdx.foldl (fun cs (c, j) => cs.setIfInBounds (off + j) c) cells) out
          (by
            rw [← Array.foldl_toList, Array.toList_zipIdx, hset]
            simpa using h.splice (off := off) ha)
          (by
            rw [← Array.foldl_toList, Array.toList_zipIdx, hset]
            intro x hx
            simp only [List.mem_append] at hx
            rcases hx with (hx | hx) | hx
            · exact h1 x (List.mem_of_mem_take hx)
            · exact hb x hx
            · exact h1 x (List.mem_of_mem_drop hx))
          (by simpa using hl) (fun k p q h2 h3 => hp (k + 1) p q h2 h3) hf
        refine ⟨res, ?_, hr1, hr2⟩
        simp only [Instr.fill, hpl]
        rw [if_neg (by simp; omega)]
        exact hres
      · cases hf
    · cases hf
def live (st : St) (s g : Nat) : Bool := match st.m s with | some (g', _) => g == g' | none => false

def addA (st : St) : IV → Nat → Option IV
  | .loc s g o, n => if live st s g then some (.loc s g (o + n)) else none
  | .ptr b o, n => some (.ptr b (o + n))
  | .eptr rows i o, n => some (.eptr rows i (o + n))
  | .aptr z b i o, n => some (.aptr z b i (o + n))
  | _, _ => none

theorem Core.addr {P N B ds g st a w} (_ : Core P N B ds g st a w) {x y : IV} {v : Value} {n : Nat} (hx : LRep g st w x v) (ha : addA st x n = some y) :
    ∃ b o, v = .pointer (some ⟨b, o, none⟩) ∧ LRep g st w y (.pointer (some ⟨b, o + n, none⟩)) := by
  cases x <;> simp only [addA] at ha <;> try (cases ha; done)
  · rename_i z b i o
    cases ha
    cases hx
    exact ⟨_, _, rfl, by rw [Nat.add_assoc]; exact rfl⟩
  · rename_i rows i o
    cases ha
    obtain ⟨b, o0, vals, rfl, h1, h2⟩ := hx
    refine ⟨_, _, rfl, b, o0, vals, ?_, h1, h2⟩
    rw [Nat.add_assoc]
  · rename_i s gg o
    split at ha
    · rename_i hl
      cases ha
      obtain ⟨g0, cs, h1, h2, h3⟩ := hx
      simp only [live, h1, beq_iff_eq] at hl
      subst hl
      exact ⟨_, _, h3 rfl, gg, cs, h1, Nat.le_refl _, fun _ => rfl⟩
    · cases ha
  · rename_i b o
    cases ha
    cases hx
    exact ⟨_, _, rfl, rfl⟩

/-- every row has so many cells -/
def uni (z : Nat) (rows : List (List IV)) : Bool := rows.all fun r => r.length == z

theorem uni_flat {z : Nat} : ∀ {rows : List (List IV)}, uni z rows = true → ∀ i, i ≤ rows.length → (rows.take i).flatten.length = i * z
  | [], _, i, hi => by simp at hi; subst hi; simp
  | r :: rs, h, i, hi => by
    simp only [uni, List.all_cons, Bool.and_eq_true, beq_iff_eq] at h
    cases i with
    | zero => simp
    | succ i =>
      have := uni_flat (rows := rs) h.2 i (by simpa using hi)
      simp only [List.take_succ_cons, List.flatten_cons, List.length_append, this, h.1]
      rw [Nat.add_mul]; omega
theorem uni_take {z : Nat} {rows : List (List IV)} (h : uni z rows = true) (i : Nat) : uni z (rows.take i) = true := by
  simp only [uni, List.all_eq_true] at *
  exact fun r hr => h r (List.mem_of_mem_take hr)
theorem uni_drop {z : Nat} {rows : List (List IV)} (h : uni z rows = true) (i : Nat) : uni z (rows.drop i) = true := by
  simp only [uni, List.all_eq_true] at *
  exact fun r hr => h r (List.mem_of_mem_drop hr)
theorem uni_append {z : Nat} {rows rs : List (List IV)} : uni z (rows ++ rs) = (uni z rows && uni z rs) := by
  simp [uni]

def ixA (P : Program) (t : TypeId) (x ix : IV) : Option IV :=
  match (elT P t).bind (szT P), x, ix with
  | some z, .list _ rows, .int _ i => if 0 ≤ i ∧ i < rows.length ∧ uni z rows = true then some (.eptr rows i.toNat 0) else none
  | some z, .sl z' b off len _, .int _ i => if 0 ≤ i ∧ i < len ∧ z = z' then some (.aptr z b (off + i.toNat) 0) else none
  | none, .ptr b o, .int _ i =>
    match P.underlying t with
    | some (.array n e) => match szT P e with | some z => if 0 ≤ i ∧ i < n then some (.ptr b (o + i.toNat * z)) else none | none => none
    | _ => none
  | _, _, _ => none

theorem elT_eq {P : Program} {t e : TypeId} (h : elT P t = some e) : P.underlying t = some (.slice e) := by
  unfold elT at h
  split at h
  · rename_i e' h'; cases h; exact h'
  · cases h
theorem szT_eq {P : Program} {t : TypeId} {z : Nat} (h : szT P t = some z) : ∃ i, P.info? t = some i ∧ i.size = z := by
  unfold szT at h
  cases hi : P.info? t with
  | none => simp [hi] at h
  | some i => simp [hi] at h; exact ⟨i, rfl, h⟩

theorem ixA_run {P : Program} {F w} {t : TypeId} {x ix y : IV} {v vi : Value} (hx : Rep F w x v) (hi : Rep F w ix vi) (h : ixA P t x ix = some y) :
    ∃ u, (Instr.indexAt t v vi).run P w = .ok u w ∧ Rep F w y u := by
  unfold ixA at h
  split at h
  · rename_i z tk rows k i hz
    split at h
    · rename_i hc
      cases h
      obtain ⟨h0, h1, hu⟩ := hc
      obtain ⟨e, he, hz⟩ := Option.bind_eq_some_iff.1 hz
      have hu1 := elT_eq he
      obtain ⟨inf, hinf, hsz⟩ := szT_eq hz
      obtain ⟨A, cap, vals, rfl, h3, h4, h5, h6, h7⟩ := hx
      cases hi
      cases A with
      | none => simp only at h7; omega
      | some a =>
        obtain ⟨b, o, sp⟩ := a
        simp only at h7
        obtain ⟨hsp, hf, hr⟩ := h7
        obtain rfl : sp = none := hsp (.inr (by omega))
        refine ⟨.pointer (some ⟨b, o + i.toNat * z, none⟩), ?_, b, o, vals, ?_, hf, hr⟩
        · simp [Instr.indexAt, Sem.run_bind, asIntOf, run_underlying hu1, h0, h1, sizeOf, typeInfo, hinf, hsz, addr_add]
        · have := uni_flat hu i.toNat (by omega)
          simp [this]
    · cases h
  · rename_i z z' b off len cap k i hz
    split at h
    · rename_i hc
      cases h
      obtain ⟨h0, h1, rfl⟩ := hc
      obtain ⟨e, he, hz⟩ := Option.bind_eq_some_iff.1 hz
      have hu1 := elT_eq he
      obtain ⟨inf, hinf, hsz⟩ := szT_eq hz
      obtain ⟨rfl, h3, h4⟩ := hx
      cases hi
      refine ⟨.pointer (some ⟨b, off * z + i.toNat * z, none⟩), ?_, by rw [← Nat.add_mul]; exact rfl⟩
      simp [Instr.indexAt, Sem.run_bind, asIntOf, run_underlying hu1, h0, h1, sizeOf, typeInfo, hinf, hsz, addr_add]
    · cases h
  · rename_i b o k i hz
    split at h
    · rename_i n e hu
      split at h
      · rename_i z hsz
        split at h
        · rename_i hc
          cases h
          cases hx; cases hi
          obtain ⟨inf, hinf, hsz⟩ := szT_eq hsz
          refine ⟨.pointer (some ⟨b, o + i.toNat * z, none⟩), ?_, rfl⟩
          simp [Instr.indexAt, Sem.run_bind, asIntOf, run_underlying hu, hc.1, hc.2, sizeOf, typeInfo, hinf, hsz, addr_add, Instr.sureAddr]
        · cases h
      · cases h
    · cases h
  · cases h

/-- x[lo:hi] -/
def slI (P : Program) (t : TypeId) (x : IV) (lo hi : Option IV) : Option IV :=
  let l : Option Int := match lo with | none => some 0 | some (.int _ n) => some n | _ => none
  match x with
  | .list tk rows =>
    match (elT P t).bind (szT P), l, (match hi with | none => some (rows.length : Int) | some (.int _ n) => some n | _ => none) with
    | some z, some l, some h =>
      if 0 ≤ l ∧ l ≤ h ∧ h ≤ rows.length ∧ uni z rows = true then
        some (.list (match tk with | .tight => if h = rows.length then .tight else .plain | _ => .plain) ((rows.take h.toNat).drop l.toNat))
      else none
    | _, _, _ => none
  | .sl z' b off len cap =>
    match (elT P t).bind (szT P), l, (match hi with | none => some (len : Int) | some (.int _ n) => some n | _ => none) with
    | some z, some l, some h => if 0 ≤ l ∧ l ≤ h ∧ h ≤ cap ∧ l < cap ∧ z = z' then some (.sl z b (off + l.toNat) (h.toNat - l.toNat) (cap - l.toNat)) else if 0 ≤ l ∧ l = h ∧ h = cap ∧ z = z' then some (.list .plain []) else none
    | _, _, _ => none
  | .str s =>
    match P.underlying t, l, (match hi with | none => some (s.size : Int) | some (.int _ n) => some n | _ => none) with
    | some .string, some l, some h => if 0 ≤ l ∧ l ≤ h ∧ h ≤ s.size then some (.str (s.extract l.toNat h.toNat)) else none
    | _, _, _ => none
  | _ => none

theorem FCells.sub {F w b o vals} (h : FCells F w b o vals) (i n : Nat) : FCells F w b (o + i) ((vals.drop i).take n) := by
  intro j v hv
  rw [List.getElem?_take] at hv
  split at hv
  · rw [List.getElem?_drop] at hv
    have := h _ v hv
    rw [Nat.add_assoc]; exact this
  · cases hv

theorem RepRows.sub {F w} {z : Nat} {rows : List (List IV)} {vals : List Value} (hu : uni z rows = true) (h : RepRows F w rows vals) (l k : Nat) (hl : l ≤ k) (hk : k ≤ rows.length) :
    RepRows F w ((rows.take k).drop l) ((vals.drop (l * z)).take ((k - l) * z)) := by
  apply RepRows.unflat
  have h1 := (h.flat.take (k * z)).drop (l * z)
  have e1 : rows.flatten.take (k * z) = (rows.take k).flatten := by
    rw [← uni_flat hu k hk]
    conv => lhs; rw [← List.take_append_drop k rows, List.flatten_append]
    simp
  have e2 : (rows.take k).flatten.drop (l * z) = ((rows.take k).drop l).flatten := by
    have := uni_flat (uni_take hu k) l (by simp; omega)
    conv => lhs; rw [← List.take_append_drop l (rows.take k), List.flatten_append]
    rw [← this]; simp
  rw [e1, e2] at h1
  rw [show (vals.drop (l * z)).take ((k - l) * z) = (vals.take (k * z)).drop (l * z) from by rw [List.drop_take, Nat.sub_mul]]
  exact h1

theorem slI_run {P : Program} {F w} {t : TypeId} {x y : IV} {v : Value} {lo hi : Option IV} {vlo vhi : Option Value} (hx : Rep F w x v)
    (hlo : ∀ i, lo = some i → ∃ u, vlo = some u ∧ Rep F w i u) (hlon : lo = none → vlo = none) (hhi : ∀ i, hi = some i → ∃ u, vhi = some u ∧ Rep F w i u) (hhin : hi = none → vhi = none) (h : slI P t x lo hi = some y) :
    ∃ u, (Instr.sliceAt t v vlo vhi none).run P w = .ok u w ∧ Rep F w y u := by
  unfold slI at h
  dsimp only at h
  split at h
  · rename_i tk rows
    split at h
    · rename_i z l hh hz hl hhh
      split at h
      · rename_i hc
        cases h
        obtain ⟨h0, h1, h2, hu⟩ := hc
        obtain ⟨hN, rfl⟩ : ∃ n : Nat, hh = n := ⟨hh.toNat, by omega⟩
        obtain ⟨lN, rfl⟩ : ∃ n : Nat, l = n := ⟨l.toNat, by omega⟩
        simp only [Int.toNat_natCast] at *
        obtain ⟨e, he, hz⟩ := Option.bind_eq_some_iff.1 hz
        have hu1 := elT_eq he
        obtain ⟨inf, hinf, hsz⟩ := szT_eq hz
        obtain ⟨A, cap, vals, rfl, h3, h4, h5, h6, h7⟩ := hx
        have hlow : (match vlo with | some v => Instr.sliceBound v hN .sliceB | none => pure 0).run P w = .ok lN w := by
          cases lo with
          | none => rw [hlon rfl]; simp at hl; obtain rfl : lN = 0 := by omega
                    simp
          | some iv =>
            obtain ⟨u, rfl, hr⟩ := hlo iv rfl
            cases iv <;> simp at hl
            subst hl; cases hr
            simp [Instr.sliceBound, asIntOf, h1]
        have hhigh : (match vhi with | some v => Instr.sliceBound v cap .sliceAcap | none => pure rows.length).run P w = .ok hN w := by
          cases hi with
          | none => rw [hhin rfl]; simp at hhh; obtain rfl : hN = rows.length := by omega
                    simp
          | some iv =>
            obtain ⟨u, rfl, hr⟩ := hhi iv rfl
            cases iv <;> simp at hhh
            subst hhh; cases hr
            have h9 : (hN : Int) ≤ (cap : Int) := by omega
            simp [Instr.sliceBound, asIntOf, h9]
        have hbounds : (Instr.sliceBounds true rows.length cap vlo vhi none).run P w = .ok (lN, hN, cap) w := by
          unfold Instr.sliceBounds
          cases vhi <;> cases vlo <;> simp_all [Sem.run_bind]
        refine ⟨.slice (if cap = lN then A else A.map (·.add (lN * z))) (hN - lN) (cap - lN), ?_, ?_⟩
        · simp [Instr.sliceAt, Instr.slice, Sem.run_bind, run_underlying hu1, hbounds, sizeOf, typeInfo, hinf, hsz]
        · have hlen : ((rows.take hN).drop lN).length = hN - lN := by simp; omega
          refine ⟨_, cap - lN, (vals.drop (lN * z)).take ((hN - lN) * z), by rw [hlen], by omega, by omega, ?_, ?_, ?_⟩
          · intro s gg; cases tk <;> simp <;> split <;> nofun
          · intro ht
            cases tk with
            | tight =>
              have h9 := h6 rfl
              simp only at ht
              split at ht
              · rename_i h10; rw [hlen]; omega
              · cases ht
            | plain => cases ht
            | row _ _ => cases ht
          · cases A with
            | none =>
              have hc0 : cap = 0 := h7
              have hl0 : lN = 0 := by omega
              simp [hc0, hl0]
            | some a =>
              obtain ⟨b, o, sp⟩ := a
              simp only at h7
              obtain ⟨hsp, hf, hr⟩ := h7
              have hsub := RepRows.sub hu hr lN hN (by omega) (by omega)
              by_cases hcl : cap = lN
              · rw [if_pos hcl]
                have hz0 : hN - lN = 0 := by omega
                refine ⟨fun hh => hh.elim (fun e => ?_) (fun e => by omega), ?_, hsub⟩
                · cases tk <;> simp at e
                  exact hsp (.inl rfl)
                intro j v hv; simp [hz0] at hv
              · rw [if_neg hcl]
                obtain rfl : sp = none := hsp (.inr (by omega))
                simp only [Option.map_some, addr_add]
                exact ⟨fun _ => trivial, hf.sub _ _, hsub⟩
      · cases h
    · cases h
  · rename_i z' b off len cap
    split at h
    · rename_i z l hh hz hl hhh
      split at h
      · rename_i hc
        cases h
        obtain ⟨h0, h1, h2, h2', rfl⟩ := hc
        obtain ⟨hN, rfl⟩ : ∃ n : Nat, hh = n := ⟨hh.toNat, by omega⟩
        obtain ⟨lN, rfl⟩ : ∃ n : Nat, l = n := ⟨l.toNat, by omega⟩
        simp only [Int.toNat_natCast] at *
        obtain ⟨e, he, hz⟩ := Option.bind_eq_some_iff.1 hz
        have hu1 := elT_eq he
        obtain ⟨inf, hinf, hsz⟩ := szT_eq hz
        obtain ⟨rfl, h3, h4⟩ := hx
        have hlow : (match vlo with | some v => Instr.sliceBound v hN .sliceB | none => pure 0).run P w = .ok lN w := by
          cases lo with
          | none => rw [hlon rfl]; simp at hl; obtain rfl : lN = 0 := by omega
                    simp
          | some iv =>
            obtain ⟨u, rfl, hr⟩ := hlo iv rfl
            cases iv <;> simp at hl
            subst hl; cases hr
            simp [Instr.sliceBound, asIntOf, h1]
        have hhigh : (match vhi with | some v => Instr.sliceBound v cap .sliceAcap | none => pure len).run P w = .ok hN w := by
          cases hi with
          | none => rw [hhin rfl]; simp at hhh; obtain rfl : hN = len := by omega
                    simp
          | some iv =>
            obtain ⟨u, rfl, hr⟩ := hhi iv rfl
            cases iv <;> simp at hhh
            subst hhh; cases hr
            have h9 : (hN : Int) ≤ (cap : Int) := by omega
            simp [Instr.sliceBound, asIntOf, h9]
        have hbounds : (Instr.sliceBounds true len cap vlo vhi none).run P w = .ok (lN, hN, cap) w := by
          unfold Instr.sliceBounds
          cases vhi <;> cases vlo <;> simp_all [Sem.run_bind]
        refine ⟨.slice (some ⟨b, (off + lN) * z, none⟩) (hN - lN) (cap - lN), ?_, rfl, by omega, by omega⟩
        have hne : ¬ cap = lN := by omega
        simp [Instr.sliceAt, Instr.slice, Sem.run_bind, run_underlying hu1, hbounds, sizeOf, typeInfo, hinf, hsz, hne, addr_add, Nat.add_mul]
      · split at h
        · rename_i hc
          cases h
          obtain ⟨h0, h1, h2, rfl⟩ := hc
          obtain ⟨hN, rfl⟩ : ∃ n : Nat, hh = n := ⟨hh.toNat, by omega⟩
          obtain ⟨lN, rfl⟩ : ∃ n : Nat, l = n := ⟨l.toNat, by omega⟩
          simp only [Int.toNat_natCast] at *
          obtain rfl : lN = hN := by omega
          obtain rfl : lN = cap := by omega
          obtain ⟨e, he, hz⟩ := Option.bind_eq_some_iff.1 hz
          have hu1 := elT_eq he
          obtain ⟨inf, hinf, hsz⟩ := szT_eq hz
          obtain ⟨rfl, h3, h4⟩ := hx
          have hlow : (match vlo with | some v => Instr.sliceBound v lN .sliceB | none => pure 0).run P w = .ok lN w := by
            cases lo with
            | none => rw [hlon rfl]; simp at hl; obtain rfl : lN = 0 := by omega
                      simp
            | some iv =>
              obtain ⟨u, rfl, hr⟩ := hlo iv rfl
              cases iv <;> simp at hl
              subst hl; cases hr
              simp [Instr.sliceBound, asIntOf]
          have hhigh : (match vhi with | some v => Instr.sliceBound v lN .sliceAcap | none => pure len).run P w = .ok lN w := by
            cases hi with
            | none => rw [hhin rfl]; simp at hhh; obtain rfl : lN = len := by omega
                      simp
            | some iv =>
              obtain ⟨u, rfl, hr⟩ := hhi iv rfl
              cases iv <;> simp at hhh
              subst hhh; cases hr
              simp [Instr.sliceBound, asIntOf]
          have hbounds : (Instr.sliceBounds true len lN vlo vhi none).run P w = .ok (lN, lN, lN) w := by
            unfold Instr.sliceBounds
            cases vhi <;> cases vlo <;> simp_all [Sem.run_bind]
          refine ⟨.slice (some ⟨b, off * z, none⟩) 0 0, ?_, ?_⟩
          · simp [Instr.sliceAt, Instr.slice, Sem.run_bind, run_underlying hu1, hbounds, sizeOf, typeInfo, hinf, hsz]
          · refine ⟨some ⟨b, off * z, none⟩, 0, [], rfl, by simp, by simp, ?_⟩
            refine ⟨fun s g e => ?_, fun e => ?_, fun e => ?_, fun j v hv => ?_, rfl⟩
            · cases e
            · rfl
            · rfl
            · simp at hv
        · cases h
    · cases h
  · rename_i s
    split at h
    · rename_i l hh hus hl hhh
      split at h
      · rename_i hc
        cases h
        obtain ⟨h0, h1, h2⟩ := hc
        cases hx
        obtain ⟨hN, rfl⟩ : ∃ n : Nat, hh = n := ⟨hh.toNat, by omega⟩
        obtain ⟨lN, rfl⟩ : ∃ n : Nat, l = n := ⟨l.toNat, by omega⟩
        simp only [Int.toNat_natCast] at *
        have hlow : (match vlo with | some v => Instr.sliceBound v hN .sliceB | none => pure 0).run P w = .ok lN w := by
          cases lo with
          | none => rw [hlon rfl]; simp at hl; obtain rfl : lN = 0 := by omega
                    simp
          | some iv =>
            obtain ⟨u, rfl, hr⟩ := hlo iv rfl
            cases iv <;> simp at hl
            subst hl; cases hr
            simp [Instr.sliceBound, asIntOf, h1]
        have hhigh : (match vhi with | some v => Instr.sliceBound v s.size .sliceAlen | none => pure s.size).run P w = .ok hN w := by
          cases hi with
          | none => rw [hhin rfl]; simp at hhh; obtain rfl : hN = s.size := by omega
                    simp
          | some iv =>
            obtain ⟨u, rfl, hr⟩ := hhi iv rfl
            cases iv <;> simp at hhh
            subst hhh; cases hr
            simp [Instr.sliceBound, asIntOf, h2]
        have hbounds : (Instr.sliceBounds false s.size s.size vlo vhi none).run P w = .ok (lN, hN, s.size) w := by
          unfold Instr.sliceBounds
          cases vhi <;> cases vlo <;> simp_all [Sem.run_bind]
        refine ⟨.string (s.extract lN hN), ?_, rfl⟩
        simp [Instr.sliceAt, Instr.slice, Sem.run_bind, run_underlying hus, hbounds]
      · cases h
    · cases h
  · cases h
def prt (P : Program) (t : TypeId) (cs : List IV) (off : Nat) : Option IV :=
  match aggT P t, szT P t with
  | some true, some z => if off + z ≤ cs.length then some (.agg ((cs.drop off).take z)) else none
  | some false, some _ => cs[off]?
  | _, _ => none

def eqFs (E : TypeId → IV → IV → Option Bool) (P : Program) (xs ys : List IV) : List Field → Option Bool
  | [] => some true
  | f :: fs =>
    if f.name = "_" then eqFs E P xs ys fs else
    match prt P f.type xs f.offset, prt P f.type ys f.offset with
    | some a, some b => match E f.type a b, eqFs E P xs ys fs with | some r, some r2 => some (r && r2) | _, _ => none
    | _, _ => none

/-- two values of a type without pointers and interfaces, compared -/
def eqI (P : Program) : Nat → TypeId → IV → IV → Option Bool
  | 0, _, _, _ => none
  | d + 1, t, x, y =>
    match P.underlying t, x, y with
    | some .bool, .bool a, .bool b => some (a == b)
    | some (.int _), .int k a, .int k' b => if k = k' then some (a == b) else none
    | some .string, .str a, .str b => some (a.toList == b.toList)
    | some (.struct fs), .agg xs, .agg ys => if P.stoodInHeld t = true then none else eqFs (eqI P d) P xs ys fs.toList
    | _, _, _ => none

def eqv (P : Program) (t : TypeId) (c : Bool) (x y : IV) : Option Bool :=
  match x, y with
  | .agg xs, .agg ys => if P.eqGuardType P.depth t = false then eqI P 10000 t (.agg xs) (.agg ys) else none
  | .bool a, .bool b => match P.underlying t with | some .bool => some (a == b) | _ => none
  | .nilptr, .nilptr => match P.underlying t with | some (.pointer _) => some true | _ => none
  | .ptr _ _, .nilptr => match P.underlying t with | some (.pointer _) => some false | _ => none
  | .nilptr, .ptr _ _ => match P.underlying t with | some (.pointer _) => some false | _ => none
  | .iface _ _, .niliface => match P.underlying t with | some (.interface _) => some false | _ => none
  | .niliface, .iface _ _ => match P.underlying t with | some (.interface _) => some false | _ => none
  | .niliface, .niliface => match P.underlying t with | some (.interface _) => if c = true then some true else none | _ => none
  | .nilfn, .nilfn => match P.underlying t with | some (.func _ _ _) => some true | _ => none
  | .fn _ _ _, .nilfn => match P.underlying t with | some (.func _ _ _) => some false | _ => none
  | .mapv _, .nilmap => match P.underlying t with | some (.map _ _) => some false | _ => none
  | .nilmap, .nilmap => match P.underlying t with | some (.map _ _) => some true | _ => none
  | _, _ => none

def isC : Operand → Bool | .const _ => true | _ => false

/-- shifts, and the operations on bits -/
def ibits (op : BinOp) (x y : IV) : Option IV :=
  match op, x, y with
  | .shl, .int k a, .int _ b => if b < 0 then none else some (.int k (k.wrap (a * 2 ^ (min b.toNat k.bits))))
  | .shr, .int k a, .int _ b => if b < 0 then none else some (.int k (a.fdiv (2 ^ (min b.toNat k.bits))))
  | .and, .int k a, .int k' b => if k = k' then some (.int k (k.wrap ((BitVec.ofInt k.bits a &&& BitVec.ofInt k.bits b).toNat : Nat))) else none
  | .or, .int k a, .int k' b => if k = k' then some (.int k (k.wrap ((BitVec.ofInt k.bits a ||| BitVec.ofInt k.bits b).toNat : Nat))) else none
  | .xor, .int k a, .int k' b => if k = k' then some (.int k (k.wrap ((BitVec.ofInt k.bits a ^^^ BitVec.ofInt k.bits b).toNat : Nat))) else none
  | _, _, _ => none

def ibn (P : Program) (op : BinOp) (t : TypeId) (c : Bool) (x y : IV) : Option IV :=
  match ibin op x y with
  | some v => some v
  | none =>
    match op with
    | .eql => (eqv P t c x y).map .bool
    | .neq => (eqv P t c x y).map fun b => .bool (!b)
    | op => ibits op x y

theorem prt_run {P : Program} {F w} {t : TypeId} {cs : List IV} {vs : Array Value} {off : Nat} {x : IV} (h : RepAll F w cs vs.toList) (h1 : ∀ u ∈ vs.toList, u.oneCell' = true) (hp : prt P t cs off = some x) :
    ∃ v, (part t vs off).run P w = .ok v w ∧ Rep F w x v := by
  have hag : ∀ b, aggT P t = some b → (isAgg t).run P w = .ok b w := fun b ha => by
    unfold aggT at ha
    split at ha
    · rename_i fs hu; cases ha; simp [isAgg, run_underlying hu]
    · rename_i n e hu; cases ha; simp [isAgg, run_underlying hu]
    · rename_i d h1 h2 hu; cases ha
      cases d <;> first | (exact (h1 _ rfl).elim) | (exact (h2 _ _ rfl).elim) | simp [isAgg, run_underlying hu]
    · cases ha
  unfold prt at hp
  split at hp
  · rename_i z ha hz
    split at hp
    · rename_i hlen
      cases hp
      obtain ⟨i, hi, hsz⟩ := szT_eq hz
      refine ⟨.agg (vs.extract off (off + z)), ?_, _, rfl, ?_, ?_⟩
      · simp [part, Sem.run_bind, hag true ha, sizeOf, typeInfo, hi, hsz]
      · intro u hu
        simp only [Array.toList_extract, List.extract] at hu
        exact h1 u (List.mem_of_mem_drop (List.mem_of_mem_take hu))
      · have := (h.drop off).take z
        simpa [List.extract] using this
    · cases hp
  · rename_i z ha hz
    obtain ⟨v, hv, hr⟩ := h.get off x hp
    have hv' : vs[off]? = some v := by simpa using hv
    exact ⟨v, by simp [part, Sem.run_bind, hag false ha, hv'], hr⟩
  · cases hp

theorem eqI_run {P : Program} {F w} : ∀ (d : Nat) (t : TypeId) (x y : IV) (vx vy : Value) (r : Bool), Rep F w x vx → Rep F w y vy → eqI P d t x y = some r → (Op.equalIn d t vx vy).run P w = .ok r w := by
  intro d
  induction d with
  | zero => intro t x y vx vy r _ _ h; cases h
  | succ d ih =>
    intro t x y vx vy r hx hy h
    simp only [eqI] at h
    split at h
    · rename_i a b hu; cases hx; cases hy; cases h; exact run_equalIn_bool w d t a b hu
    · rename_i k0 k a k' b hu; cases hx; cases hy
      split at h
      · rename_i hk; subst hk; cases h; exact run_equalIn_int w d t k k0 a b hu
      · cases h
    · rename_i a b hu; cases hx; cases hy; cases h; exact run_equalIn_string w d t a b hu
    · rename_i fs xs ys hu
      split at h
      · cases h
      · rename_i hst
        obtain ⟨vs, rfl, h1, hr1⟩ := hx
        obtain ⟨us, rfl, h2, hr2⟩ := hy
        rw [run_equalIn_struct w d t vs us (by simp [Program.fieldsOf, hu]) (by simpa using hst)]
        have hfs : P.fieldsOf t = fs := by simp [Program.fieldsOf, hu]
        rw [hfs]
        generalize fs.toList = l at h
        clear hfs hu fs
        induction l generalizing r with
        | nil => cases h; simp [Op.eqFields]
        | cons f l ihl =>
          simp only [eqFs] at h
          simp only [Op.eqFields]
          split at h
          · rename_i hn
            rw [if_neg (by simp [hn])]
            exact ihl r h
          · rename_i hn
            rw [if_pos (by simpa using hn)]
            split at h
            · rename_i a b ha hb
              split at h
              · rename_i r1 r2 h3 h4
                cases h
                obtain ⟨va, k1, k2⟩ := prt_run hr1 h1 ha
                obtain ⟨vb, k3, k4⟩ := prt_run hr2 h2 hb
                have k5 := ih f.type a b va vb r1 k2 k4 h3
                have k6 := ihl r2 h4
                cases r1 <;> simp [Sem.run_bind, k1, k3, k5, k6]
              · cases h
            · cases h
    · cases h

theorem equal_of {P : Program} {w : World} {t : TypeId} {vx vy : Value} {r : Bool} (h : ∀ d, (Op.equalIn (d + 1) t vx vy).run P w = .ok r w) : (Op.equal t vx vy).run P w = .ok r w := h 9999

theorem eqv_run {P : Program} {F w} {t : TypeId} {x y : IV} {vx vy : Value} {ox oy : Operand} {r : Bool} (hx : Rep F w x vx) (hy : Rep F w y vy) (h : eqv P t (isC ox || isC oy) x y = some r) :
    (∀ op, op = .eql ∨ op = .neq → (eqGuard op t ox oy vx vy).run P w = .ok () w) ∧ (Op.equal t vx vy).run P w = .ok r w ∧ (∀ k a, vx ≠ .int k a) ∧ (∀ a, vx ≠ .string a) ∧ (∀ k a, vx ≠ .float k a) ∧ (∀ k a b, vx ≠ .complex k a b) := by
  unfold eqv at h
  split at h
  · rename_i xs ys
    split at h
    · rename_i hg
      have h1 := eqI_run 10000 t _ _ vx vy r hx hy h
      obtain ⟨vs, rfl, _⟩ := hx
      obtain ⟨us, rfl, _⟩ := hy
      exact ⟨fun op _ => run_eqGuard_agg w op t ox oy vs us hg, h1, by simp, by simp, by simp, by simp⟩
    · cases h
  · rename_i a b
    cases hx; cases hy
    split at h
    · rename_i hu; cases h
      exact ⟨fun op ho => by rcases ho with rfl | rfl <;> simp [eqGuard], equal_of (fun d => by simp [Op.equalIn, run_underlying hu]), by simp, by simp, by simp, by simp⟩
    · cases h
  · cases hx; cases hy
    split at h
    · rename_i hu; cases h
      exact ⟨fun op ho => by rcases ho with rfl | rfl <;> simp [eqGuard], equal_of (fun d => by simp [Op.equalIn, run_underlying hu]), by simp, by simp, by simp, by simp⟩
    · cases h
  · cases hx; cases hy
    split at h
    · rename_i hu; cases h
      exact ⟨fun op ho => by rcases ho with rfl | rfl <;> simp [eqGuard], equal_of (fun d => by simp [Op.equalIn, run_underlying hu]), by simp, by simp, by simp, by simp⟩
    · cases h
  · cases hx; cases hy
    split at h
    · rename_i hu; cases h
      exact ⟨fun op ho => by rcases ho with rfl | rfl <;> simp [eqGuard], equal_of (fun d => by simp [Op.equalIn, run_underlying hu]), by simp, by simp, by simp, by simp⟩
    · cases h
  · obtain ⟨u, rfl, _⟩ := hx; cases hy
    split at h
    · rename_i hu; cases h
      exact ⟨fun op ho => by rcases ho with rfl | rfl <;> simp [eqGuard], equal_of (fun d => by simp [Op.equalIn, run_underlying hu]), by simp, by simp, by simp, by simp⟩
    · cases h
  · cases hx; obtain ⟨u, rfl, _⟩ := hy
    split at h
    · rename_i hu; cases h
      exact ⟨fun op ho => by rcases ho with rfl | rfl <;> simp [eqGuard], equal_of (fun d => by simp [Op.equalIn, run_underlying hu]), by simp, by simp, by simp, by simp⟩
    · cases h
  · cases hx; cases hy
    split at h
    · rename_i hu
      split at h
      · rename_i hc
        cases h
        exact ⟨fun op ho => by rcases ho with rfl | rfl <;> cases ox <;> cases oy <;> simp [isC] at hc <;> simp [eqGuard], equal_of (fun d => by simp [Op.equalIn, run_underlying hu]), by simp, by simp, by simp, by simp⟩
      · cases h
    · cases h
  · cases hx; cases hy
    split at h
    · rename_i hu; cases h
      exact ⟨fun op ho => by rcases ho with rfl | rfl <;> simp [eqGuard], equal_of (fun d => by simp [Op.equalIn, run_underlying hu]), by simp, by simp, by simp, by simp⟩
    · cases h
  · obtain ⟨u1, u2, rfl, _⟩ := hx; cases hy
    split at h
    · rename_i hu; cases h
      exact ⟨fun op ho => by rcases ho with rfl | rfl <;> simp [eqGuard], equal_of (fun d => by simp [Op.equalIn, run_underlying hu]), by simp, by simp, by simp, by simp⟩
    · cases h
  · cases hx; cases hy
    split at h
    · rename_i hu; cases h
      exact ⟨fun op ho => by rcases ho with rfl | rfl <;> simp [eqGuard], equal_of (fun d => by simp [Op.equalIn, run_underlying hu]), by simp, by simp, by simp, by simp⟩
    · cases h
  · cases hx; cases hy
    split at h
    · rename_i hu; cases h
      exact ⟨fun op ho => by rcases ho with rfl | rfl <;> simp [eqGuard], equal_of (fun d => by simp [Op.equalIn, run_underlying hu]), by simp, by simp, by simp, by simp⟩
    · cases h
  · cases h

theorem ibits_run {P : Program} {F w} {op : BinOp} {t : TypeId} {x y z : IV} {vx vy : Value} (ox oy : Operand) (hx : Rep F w x vx) (hy : Rep F w y vy) (h : ibits op x y = some z) :
    ∃ v, (do eqGuard op t ox oy vx vy; binOp op t vx vy).run P w = .ok v w ∧ Rep F w z v := by
  unfold ibits at h
  split at h
  · cases hx; cases hy
    split at h
    · cases h
    · rename_i hb; cases h; exact ⟨_, by simp [Sem.run_bind, eqGuard, binOp, Op.shift, hb], rfl⟩
  · cases hx; cases hy
    split at h
    · cases h
    · rename_i hb; cases h; exact ⟨_, by simp [Sem.run_bind, eqGuard, binOp, Op.shift, hb], rfl⟩
  · cases hx; cases hy
    split at h
    · rename_i hk; subst hk; cases h; exact ⟨_, by simp [Sem.run_bind, eqGuard, binOp, Op.intBits], rfl⟩
    · cases h
  · cases hx; cases hy
    split at h
    · rename_i hk; subst hk; cases h; exact ⟨_, by simp [Sem.run_bind, eqGuard, binOp, Op.intBits], rfl⟩
    · cases h
  · cases hx; cases hy
    split at h
    · rename_i hk; subst hk; cases h; exact ⟨_, by simp [Sem.run_bind, eqGuard, binOp, Op.intBits], rfl⟩
    · cases h
  · cases h

theorem ibn_run {P : Program} {F w} {op : BinOp} {t : TypeId} {x y z : IV} {vx vy : Value} (ox oy : Operand) (hx : Rep F w x vx) (hy : Rep F w y vy) (h : ibn P op t (isC ox || isC oy) x y = some z) :
    ∃ v, (do eqGuard op t ox oy vx vy; binOp op t vx vy).run P w = .ok v w ∧ Rep F w z v := by
  unfold ibn at h
  split at h
  · rename_i v hv
    cases h
    exact ibin_run ox oy hx hy hv
  · have key : ∀ r, eqv P t (isC ox || isC oy) x y = some r → ∀ op, op = .eql ∨ op = .neq → (do eqGuard op t ox oy vx vy; binOp op t vx vy).run P w = .ok (.bool (if op = .eql then r else !r)) w := by
      intro r hr op ho
      obtain ⟨h1, h2, h3, h4, h5, h6⟩ := eqv_run (ox := ox) (oy := oy) hx hy hr
      have hb : (binOp op t vx vy).run P w = .ok (.bool (if op = .eql then r else !r)) w := by
        rcases ho with rfl | rfl
        · cases vx <;> simp_all [binOp, Sem.run_bind]
        · cases vx <;> simp_all [binOp, Sem.run_bind]
      simp only [Sem.run_bind, h1 op ho, Result.andThen_ok, hb]
    split at h
    · obtain ⟨r, hr, rfl⟩ := Option.map_eq_some_iff.1 h
      exact ⟨_, key r hr .eql (.inl rfl), rfl⟩
    · obtain ⟨r, hr, rfl⟩ := Option.map_eq_some_iff.1 h
      exact ⟨_, key r hr .neq (.inr rfl), rfl⟩
    · exact ibits_run ox oy hx hy h

/-! keys of maps -/
def scal : TypeDesc → Bool | .int _ => true | .string => true | .bool => true | _ => false
def kEq : TypeDesc → IV → IV → Option Bool
  | .int _, .int k a, .int k' b => if k = k' then some (a == b) else none
  | .string, .str a, .str b => some (a == b)
  | .bool, .bool a, .bool b => some (a == b)
  | _, _, _ => none
def ifind (d : TypeDesc) (k : IV) : List (IV × IV) → Option (Option IV)
  | [] => some none
  | p :: r => match kEq d k p.1 with | some true => some (some p.2) | some false => ifind d k r | none => none
def mapEs (st : St) : IV → Option (List (IV × IV))
  | .nilmap => some []
  | .mapv b => match st.h b with | some (.map es) => some es | some (.pmap es _ _) => some es | _ => none
  | _ => none
def zv : Value → IV
  | .agg cs => .agg (cs.toList.map cv)
  | v => cv v

theorem repEnts_len {F : Nat → Nat → Prop} {w : World} : ∀ {es : List (IV × IV)} {ents : List MapEntry}, RepEnts F w es ents → es.length = ents.length
  | [], _, h => by cases h; rfl
  | p :: r, _, h => by
    obtain ⟨e, es', rfl, _, _, h⟩ := h
    simp [repEnts_len h]
/-- how many keys a map has -/
def lenM (P : Program) (st : St) (c : Call) : Option Nat :=
  match c.argTypes.toList, c.args.toList with
  | [t], [x] =>
    match P.underlying t with
    | some (.map _ _) => (mapEs st (st.ev x)).map List.length
    | _ => none
  | _, _ => none
theorem kEq_run {F : Nat → Nat → Prop} {w : World} {d : TypeDesc} {k k' : IV} {kv kv' : Value} {b : Bool} (hk : Rep F w k kv) (hk' : Rep F w k' kv') (h : kEq d k k' = some b) : Instr.sameNow d kv kv' = some b := by
  unfold kEq at h
  split at h
  · cases hk; cases hk'; simpa [Instr.sameNow] using h
  · cases hk; cases hk'; simpa [Instr.sameNow] using h
  · cases hk; cases hk'; simpa [Instr.sameNow] using h
  · cases h

theorem ifind_run {F : Nat → Nat → Prop} {w : World} {d : TypeDesc} {k : IV} {kv : Value} (hk : Rep F w k kv) : ∀ (es : List (IV × IV)) (ents : List MapEntry) (i : Nat) (r : Option IV), RepEnts F w es ents → ifind d k es = some r →
    (r = none ∧ Instr.findNow d kv ents i = some none) ∨ ∃ x j v, r = some x ∧ Instr.findNow d kv ents i = some (some (j, v)) ∧ Rep F w x v
  | [], ents, i, r, he, h => by cases he; cases h; exact .inl ⟨rfl, rfl⟩
  | p :: r, ents, i, r', he, h => by
    obtain ⟨e, es0, rfl, h1, h2, h3⟩ := he
    simp only [ifind] at h
    split at h
    · rename_i hq; cases h; exact .inr ⟨_, i, e.val, rfl, by simp [Instr.findNow, kEq_run hk h1 hq], h2⟩
    · rename_i hq
      rcases ifind_run hk r es0 (i + 1) r' h3 h with ⟨h4, h5⟩ | ⟨x, j, v, h4, h5, h6⟩
      · exact .inl ⟨h4, by simp [Instr.findNow, kEq_run hk h1 hq, h5]⟩
      · exact .inr ⟨x, j, v, h4, by simp [Instr.findNow, kEq_run hk h1 hq, h5], h6⟩
    · cases h

theorem scal_check {P : Program} {w : World} {kt : TypeId} {kd : TypeDesc} {kv : Value} {e : Bool} (hkt : P.underlying kt = some kd) (h : scal kd = true) : (Instr.checkKey e 10000 kt kv).run P w = .ok () w := by
  have : ∀ n, (Instr.checkKey e (n + 1) kt kv).run P w = .ok () w := fun n => by cases kd <;> simp [scal] at h <;> simp [Instr.checkKey, run_underlying hkt]
  exact this 9999

/-- the bytes of a list -/
def bytesOf : List (List IV) → Option (List UInt8)
  | [] => some []
  | [.int .u8 n] :: r => (bytesOf r).map (UInt8.ofNat n.toNat :: ·)
  | _ => none

theorem bytesOf_rep {F : Nat → Nat → Prop} {w : World} : ∀ {rows : List (List IV)} {bs : List UInt8} {vals : List Value}, bytesOf rows = some bs → RepRows F w rows vals → ∃ ns : List Int, vals = ns.map (Value.int .u8) ∧ bs = ns.map fun n => UInt8.ofNat n.toNat
  | [], bs, vals, h, hr => by cases hr; cases h; exact ⟨[], rfl, rfl⟩
  | r :: rs, bs, vals, h, hr => by
    obtain ⟨v1, v2, rfl, h1, h2⟩ := hr
    unfold bytesOf at h
    split at h
    · rename_i e; cases e
    · rename_i n r' e
      cases e
      obtain ⟨bs', h3, rfl⟩ := Option.map_eq_some_iff.1 h
      obtain ⟨ns, rfl, rfl⟩ := bytesOf_rep h3 h2
      obtain ⟨y, ys, rfl, hy, hys⟩ := h1
      cases hy; cases hys
      exact ⟨n :: ns, rfl, rfl⟩
    · cases h
theorem pushes_eq : ∀ (ns : List Int) (s : ByteArray), ns.foldl (fun r n => r.push (UInt8.ofNat n.toNat)) s = ⟨(s.data.toList ++ ns.map fun n => UInt8.ofNat n.toNat).toArray⟩
  | [], s => by simp
  | n :: ns, s => by
    rw [List.foldl_cons, pushes_eq ns]
    simp

/-- operations that only compute, or read memory -/
def pop (P : Program) (st : St) : Op → Option IV
  | .move x => some (st.ev x)
  | .assign x => some (st.ev x)
  | .pick c a b => match st.ev c with | .bool t => some (if t = true then st.ev a else st.ev b) | _ => none
  | .build t parts =>
    match plcs P t, zeT P t with
    | some pl, some z =>
      if (parts.toList.all fun p => okV (strip (st.ev p.2))) = true ∧ (z.cells.toList.all fun u => u.oneCell') = true then
        (fillP pl (z.cells.toList.map cv) (parts.toList.map fun p => (p.1, strip (st.ev p.2)))).map .agg
      else none
    | _, _ => none
  | .load t x =>
    match szT P t, aggT P t with
    | some z, some true => (st.rd (st.ev x) z).map fun cs => .agg (cs.map strip)
    | some _, some false => match st.rd (st.ev x) 1 with | some [c] => some c | _ => none
    | _, _ => none
  | .binOp op t x y _ => ibn P op t (isC x || isC y) (strip (st.ev x)) (strip (st.ev y))
  | .unOp op _ x =>
    match op, st.ev x with
    | .not, .bool b => some (.bool !b)
    | .neg, .int k n => some (.int k (k.wrap (0 - n)))
    | _, _ => none
  | .makeInterface t x => if P.concrete t = true then some (.iface t (strip (st.ev x))) else none
  | .makeFunc f a c => some (.fn f (a.toList.map fun x => strip (st.ev x)) (c.toList.map fun x => strip (st.ev x)))
  | .slice t x lo hi none => slI P t (stripT (st.ev x)) (lo.map fun x => strip (st.ev x)) (hi.map fun x => strip (st.ev x))
  | .fieldAddr t x f => (offT P t f).bind (addA st (st.ev x))
  | .indexAddr t x i => ixA P t (strip (st.ev x)) (strip (st.ev i))
  | .index t x i =>
    match P.underlying t, st.ev x, st.ev i with
    | some .string, .str s, .int _ n => if h : 0 ≤ n ∧ n.toNat < s.size then some (.int .u8 (s[n.toNat]'h.2).toNat) else none
    | _, _, _ => none
  | .extract x i => match st.ev x with | .tup vs => vs[i]? | _ => none
  | .field t x f => match fieldT P t f, st.ev x with | some (off, ft), .agg cs => prt P ft cs off | _, _ => none
  | .nilCheck x =>
    match st.ev x with
    | .ptr b o => some (.ptr b o)
    | .eptr rows i o => some (.eptr rows i o)
    | .aptr z b i o => some (.aptr z b i o)
    | .loc s g o => if live st s g then some (.loc s g o) else none
    | .fn (.func f) a c => some (.fn (.func f) a c)
    | .iface t v => some (.iface t v)
    | _ => none
  | .typeAssert x _ t ok =>
    match P.underlying t with
    | some (.interface _) => none
    | some _ =>
      match st.ev x with
      | .iface u v =>
        if u = t then some (if ok = true then .tup [v, .bool true] else v) else
        match ok, zeT P t with
        | true, some z => if (z.cells.toList.all fun u => u.oneCell') = true then some (.tup [zv z, .bool false]) else none
        | _, _ => none
      | .niliface =>
        match ok, zeT P t with
        | true, some z => if (z.cells.toList.all fun u => u.oneCell') = true then some (.tup [zv z, .bool false]) else none
        | _, _ => none
      | _ => none
    | none => none
  | .convert s d x =>
    match P.underlying s, P.underlying d, st.ev x with
    | some (.int _), some (.int k), .int _ n => some (.int k (k.wrap n))
    | some .string, some .string, .str s => some (.str s)
    | some (.slice e), some .string, .list _ rows =>
      match P.underlying e, bytesOf rows with
      | some (.int .u8), some bs => some (.str ⟨bs.toArray⟩)
      | _, _ => none
    | _, _, _ => none
  | .lookup t x ix ok =>
    match P.underlying t with
    | some (.map kt et) =>
      match P.underlying kt, zeT P et, mapEs st (st.ev x) with
      | some kd, some z, some es =>
        if scal kd = true ∧ (z.cells.toList.all fun u => u.oneCell') = true then
          match ifind kd (strip (st.ev ix)) es with
          | some r => some (if ok = true then .tup [r.getD (zv z), .bool r.isSome] else r.getD (zv z))
          | none => none
        else none
      | _, _, _ => none
    | _ => none
  | .call c =>
    match c.callee with
    | .builtin .cap =>
      match c.argTypes[0]?, c.args[0]? with
      | some t, some x =>
        match P.underlying t, st.ev x with
        | some (.slice _), .list .tight rows => some (.int .i64 rows.length)
        | some (.slice _), .sl _ _ _ _ n => some (.int .i64 n)
        | _, _ => none
      | _, _ => none
    | .builtin .len =>
      match c.argTypes[0]?, c.args[0]? with
      | some t, some x =>
        match P.underlying t, st.ev x with
        | some .string, .str s => some (.int .i64 s.size)
        | some (.slice _), .list _ rows => some (.int .i64 rows.length)
        | some (.slice _), .sl _ _ _ n _ => some (.int .i64 n)
        | _, _ => none
      | _, _ => none
    | .builtin .max =>
      match c.args.toList.map st.ev with
      | [.int k a, .int k' b] => if k = k' then some (.int k (max a b)) else none
      | _ => none
    | .builtin .min =>
      match c.args.toList.map st.ev with
      | [.int k a, .int k' b] => if k = k' then some (.int k (min a b)) else none
      | _ => none
    | _ => none
  | _ => none

def ltOp (N : Nat) (o : Op) : Bool := o.operands.all (opLt N)

theorem szT_run {P : Program} {t : TypeId} {z : Nat} (w : World) (h : szT P t = some z) : (sizeOf t).run P w = .ok z w := by
  obtain ⟨i, h1, h2⟩ := szT_eq h
  simp [sizeOf, typeInfo, h1, h2]
theorem aggT_run {P : Program} {t : TypeId} {b : Bool} (w : World) (h : aggT P t = some b) : (isAgg t).run P w = .ok b w := by
  unfold aggT at h
  split at h
  · rename_i fs hu; cases h; simp [isAgg, run_underlying hu]
  · rename_i n e hu; cases h; simp [isAgg, run_underlying hu]
  · rename_i d h1 h2 hu; cases h
    cases d <;> first | (exact (h1 _ rfl).elim) | (exact (h2 _ _ rfl).elim) | simp [isAgg, run_underlying hu]
  · cases h

theorem RepAll_map {F w} {α : Type} (f : α → IV) (v : α → Value) : ∀ (l : List α), (∀ x ∈ l, Rep F w (f x) (v x)) → RepAll F w (l.map f) (l.map v)
  | [], _ => rfl
  | x :: xs, h => ⟨v x, xs.map v, rfl, h x (List.mem_cons_self), RepAll_map f v xs fun y hy => h y (List.mem_cons_of_mem _ hy)⟩

theorem zv_rep {F : Nat → Nat → Prop} {w : World} (z : Value) (hone : (z.cells.toList.all fun u => u.oneCell') = true) : Rep F w (zv z) z := by
  by_cases h : ∃ cs, z = .agg cs
  · obtain ⟨cs, rfl⟩ := h
    simp only [List.all_eq_true] at hone
    exact ⟨cs, rfl, hone, by simpa using RepAll_map (F := F) (w := w) cv id cs.toList (fun u _ => cv_rep _ _ u)⟩
  · have : zv z = cv z := by cases z <;> first | rfl | exact absurd ⟨_, rfl⟩ h
    rw [this]; exact cv_rep _ _ _

theorem pop_sound {P : Program} {N B : Nat} {ds : List Deferred} {g : Gh} {st : St} {a : Act} {w : World} (h : Core P N B ds g st a w) (o : Oper) (hlt : ltOp N o.op = true) {x : IV}
    (hp : pop P st o.op = some x) : ∃ v, (execOp a.eval o).run P w = .ok (.value v) w ∧ LRep g st w x v := by
  obtain ⟨dst, op, ty, pos, after, guard⟩ := o
  simp only at hlt hp
  have ev : ∀ y, opLt N y = true → LRep g st w (st.ev y) (a.eval y) := fun y hy => h.ev hy
  cases op <;> simp only [pop] at hp <;> try (cases hp; done)
  case move y =>
    simp [ltOp, Op.operands] at hlt
    cases hp
    exact ⟨_, by simp [execOp], ev y hlt⟩
  case lookup t y ix ok =>
    simp [ltOp, Op.operands] at hlt
    split at hp
    · rename_i kt et hu
      split at hp
      · rename_i kd z es hkd hz hes
        split at hp
        · rename_i hc
          obtain ⟨hsc, hone⟩ := hc
          split at hp
          · rename_i r hr
            cases hp
            have hix := (ev ix hlt.2).strip
            have hzr : Rep g.F w (zv z) z := zv_rep z hone
            obtain ⟨i, hi, hzi⟩ := Option.bind_eq_some_iff.1 hz
            have hzrun : (zeroValue et).run P w = .ok z w := by simp [zeroValue, typeInfo, hi, hzi, Sem.run_bind]
            let tail : Array MapEntry → Sem Value := fun es => do
                  Instr.checkKey es.isEmpty 10000 kt (a.eval ix)
                  let (v, ok') ← match ← Instr.findKey kt (a.eval ix) es.toList with
                    | some (_, v) => pure (v, true)
                    | none => pure (← zeroValue et, false)
                  pure (if ok then .tuple #[v, .bool ok'] else v)
            have fin : ∀ (ents : List MapEntry), RepEnts g.F w es ents → (Instr.lookup t (a.eval y) (a.eval ix) ok).run P w = (tail ents.toArray).run P w →
                ∃ v, (Instr.lookup t (a.eval y) (a.eval ix) ok).run P w = .ok v w ∧ Rep g.F w (if ok = true then .tup [r.getD (zv z), .bool r.isSome] else r.getD (zv z)) v := by
              intro ents hre hl
              have hfk : ∃ q, (Instr.findKey kt (a.eval ix) ents).run P w = .ok q w ∧ ((q = none ∧ r = none) ∨ ∃ x j v, q = some (j, v) ∧ r = some x ∧ Rep g.F w x v) := by
                rcases ifind_run (d := kd) hix es ents 0 r hre hr with ⟨h1, h2⟩ | ⟨x, j, v, h1, h2, h3⟩
                · exact ⟨none, by simp [Instr.findKey, run_underlying hkd, h2], .inl ⟨rfl, h1⟩⟩
                · exact ⟨some (j, v), by simp [Instr.findKey, run_underlying hkd, h2], .inr ⟨x, j, v, rfl, h1, h3⟩⟩
              obtain ⟨q, hq, hqr⟩ := hfk
              rw [hl]
              simp only [tail, Sem.run_bind, scal_check hkd hsc, Result.andThen_ok, hq]
              rcases hqr with ⟨rfl, rfl⟩ | ⟨x, j, v, rfl, rfl, hxv⟩
              · refine ⟨if ok then .tuple #[z, .bool false] else z, by simp [Sem.run_bind, hzrun], ?_⟩
                cases ok
                · simpa using hzr
                · simp only [if_true, Option.getD_none, Option.isSome_none]; exact ⟨_, rfl, _, _, rfl, hzr, _, _, rfl, rfl, rfl⟩
              · refine ⟨if ok then .tuple #[v, .bool true] else v, by simp [Sem.run_bind], ?_⟩
                cases ok
                · simpa using hxv
                · simp only [if_true, Option.getD_some, Option.isSome_some]; exact ⟨_, rfl, _, _, rfl, hxv, _, _, rfl, rfl, rfl⟩
            have hyl := ev y hlt.1
            have hout : ∃ v, (Instr.lookup t (a.eval y) (a.eval ix) ok).run P w = .ok v w ∧ Rep g.F w (if ok = true then .tup [r.getD (zv z), .bool r.isSome] else r.getD (zv z)) v := by
              unfold mapEs at hes
              split at hes
              · rename_i hb
                rw [hb] at hyl
                have hyv : a.eval y = .map none := hyl
                cases hes
                exact fin [] rfl (by rw [hyv]; simp [Instr.lookup, tail, Sem.run_bind, run_underlying hu]; rfl)
              · rename_i b hb
                rw [hb] at hyl
                have hyv : a.eval y = .map (some b) := hyl
                split at hes
                · rename_i es0 hob
                  cases hes
                  obtain ⟨_, ents, clock, hheap, hre, _⟩ := h.hp b _ hob
                  exact fin ents hre (by rw [hyv]; simp [Instr.lookup, tail, Sem.run_bind, run_underlying hu, MapKept.run_getObj_map hheap]; rfl)
                · rename_i es0 ents clock hob
                  cases hes
                  obtain ⟨_, hheap, hre, _⟩ := h.hp b _ hob
                  exact fin ents hre (by rw [hyv]; simp [Instr.lookup, tail, Sem.run_bind, run_underlying hu, MapKept.run_getObj_map hheap]; rfl)
                · cases hes
              · cases hes
            obtain ⟨v, h1, h2⟩ := hout
            exact ⟨v, by simp [execOp, Sem.run_bind, h1], h2.lrep⟩
          · cases hp
        · cases hp
      · cases hp
    · cases hp
  case assign y =>
    simp [ltOp, Op.operands] at hlt
    cases hp
    exact ⟨_, by simp [execOp], ev y hlt⟩
  case pick c y z =>
    simp [ltOp, Op.operands] at hlt
    obtain ⟨h1, h2, h3⟩ := hlt
    have hc := ev c h1
    split at hp
    · rename_i t ht
      rw [ht] at hc
      cases hp
      have hc' : a.eval c = .bool t := hc
      refine ⟨if t = true then a.eval y else a.eval z, by simp [execOp, hc', asBool], ?_⟩
      cases t
      · exact ev z h3
      · exact ev y h2
    · cases hp
  case build t parts =>
    simp only [ltOp, Op.operands, Array.all_eq_true_iff_forall_mem] at hlt
    split at hp
    · rename_i pl z hpl hz
      split at hp
      · rename_i hc
        obtain ⟨hok, hone⟩ := hc
        obtain ⟨cs, hcs, hx⟩ := Option.map_eq_some_iff.1 hp
        subst hx
        have hmem : ∀ p ∈ parts.toList, opLt N p.2 = true := fun p hp => hlt p.2 (by simpa using ⟨p.1, Array.mem_toList_iff.1 hp⟩)
        obtain ⟨res, h1, h2, h3⟩ := fillP_run (F := g.F) (w := w) pl (parts.toList.map fun p => (p.1, strip (st.ev p.2))) (parts.toList.map fun p => (p.1, a.eval p.2)) _ z.cells cs
          (by simpa using RepAll_map (F := g.F) (w := w) cv id z.cells.toList (fun u _ => cv_rep _ _ u)) (by simp only [List.all_eq_true] at hone; exact hone) (by simp)
          (by
            intro i p q hpi hqi
            simp only [List.getElem?_map, Option.map_eq_some_iff] at hpi hqi
            obtain ⟨r, hr, rfl⟩ := hpi
            obtain ⟨r', hr', rfl⟩ := hqi
            rw [hr] at hr'; cases hr'
            have hm := List.mem_of_getElem? hr
            simp only [List.all_eq_true] at hok
            exact ⟨rfl, (ev r.2 (hmem r hm)).strip, hok r hm⟩) hcs
        refine ⟨.agg res, ?_, res, rfl, h3, h2⟩
        have hb : P.built t ((parts.map fun (i, x) => (i, a.eval x)).toList) = some res := by
          unfold plcs at hpl
          unfold zeT at hz
          cases hi : P.info? t with
          | none => simp [hi] at hz
          | some it =>
            simp only [hi, Option.bind_some] at hz
            split at hpl
            · rename_i fs hu
              simp only [Program.built, hi, hu, hz, hpl]
              simpa using h1
            · cases hpl
        simp [execOp, Sem.run_bind, run_build w t _ res hb]
      · cases hp
    · cases hp
  case load t y =>
    simp [ltOp, Op.operands] at hlt
    have hy := ev y hlt
    split at hp
    · rename_i z hz ha
      obtain ⟨cs, hcs, hx⟩ := Option.map_eq_some_iff.1 hp
      subst hx
      obtain ⟨ad, vals, h1, h2, h3, h4, h5, h6⟩ := h.rd hy hcs
      refine ⟨.agg vals.toArray, ?_, vals.toArray, rfl, ?_, by simpa using h3.strip⟩
      · have := run_loadCells_list (P := P) w ad vals (fun j v hj => (h6 j v hj).1)
        rw [h4] at this
        simp [execOp, Instr.loadAt, h1, Instr.sureAddr, loadVar, Sem.run_bind, aggT_run w ha, szT_run w hz, this]
      · intro u hu
        obtain ⟨j, hj⟩ := List.mem_iff_getElem?.1 hu
        exact (h6 j u (by simpa using hj)).2
    · rename_i z hz ha
      split at hp
      · rename_i c hc
        cases hp
        obtain ⟨ad, vals, h1, h2, h3, h4, h5, h6⟩ := h.rd hy hc
        obtain ⟨v, vs', rfl, h7, h8⟩ := h3
        cases h8
        have h9 := (h6 0 v rfl).1
        have h10 : ad.add 0 = ad := by simp [Addr.add]
        rw [h10] at h9
        exact ⟨v, by simp [execOp, Instr.loadAt, h1, Instr.sureAddr, loadVar, Sem.run_bind, aggT_run w ha, load, Sem.run, h9], h7⟩
      · cases hp
    · cases hp
  case binOp op t y z t2 =>
    simp [ltOp, Op.operands] at hlt
    obtain ⟨v, h1, h2⟩ := ibn_run (P := P) (t := t) y z (ev y hlt.1).strip (ev z hlt.2).strip hp
    refine ⟨v, ?_, h2.lrep⟩
    simp only [Sem.run_bind] at h1
    cases hA : (eqGuard op t y z (a.eval y) (a.eval z)).run P w with
    | ok u w1 => rw [hA] at h1; simp only [Result.andThen] at h1; simp [execOp, Sem.run_bind, hA, h1]
    | halt e w1 => rw [hA] at h1; simp [Result.andThen] at h1
  case unOp op t y =>
    simp [ltOp, Op.operands] at hlt
    have hy := ev y hlt
    split at hp
    · rename_i b hb
      rw [hb] at hy
      cases hp
      have hy' : a.eval y = .bool b := hy
      exact ⟨_, by simp [execOp, hy', Op.unary], rfl⟩
    · rename_i k n hb
      rw [hb] at hy
      cases hp
      have hy' : a.eval y = .int k n := hy
      exact ⟨_, by simp [execOp, hy', Op.unary, Op.intArith], rfl⟩
    · cases hp
  case makeInterface t y =>
    simp [ltOp, Op.operands] at hlt
    split at hp
    · rename_i hc
      cases hp
      exact ⟨.iface t (a.eval y), by simp [execOp, Sem.run_bind, run_makeInterface w t _ hc], a.eval y, rfl, (ev y hlt).strip⟩
    · cases hp
  case makeFunc f fs cs =>
    simp only [ltOp, Op.operands, Array.all_eq_true_iff_forall_mem] at hlt
    cases hp
    refine ⟨.func f (fs.map a.eval) (cs.map a.eval), by simp [execOp, Instr.makeFunc], fs.map a.eval, cs.map a.eval, rfl, ?_, ?_⟩
    · simpa using RepAll_map (F := g.F) (w := w) (fun x => strip (st.ev x)) a.eval fs.toList (fun x hx => (ev x (hlt x (by simp; left; simpa using hx))).strip)
    · simpa using RepAll_map (F := g.F) (w := w) (fun x => strip (st.ev x)) a.eval cs.toList (fun x hx => (ev x (hlt x (by simp; right; simpa using hx))).strip)
  case slice t y lo hi mx =>
    cases mx with
    | some m => cases hp
    | none =>
      simp only at hp
      have hm : ∀ z, z ∈ (Op.slice t y lo hi none).operands → opLt N z = true := by simpa only [ltOp, Array.all_eq_true_iff_forall_mem] using hlt
      have hlo : ∀ x, lo = some x → opLt N x = true := fun x hx => hm x (by subst hx; simp [Op.operands])
      have hhi : ∀ x, hi = some x → opLt N x = true := fun x hx => hm x (by subst hx; simp [Op.operands])
      have hy : opLt N y = true := hm y (by simp [Op.operands])
      obtain ⟨u, h1, h2⟩ := slI_run (P := P) (vlo := lo.map a.eval) (vhi := hi.map a.eval) (ev y hy).stripT
        (by intro i hi'; obtain ⟨z, rfl, rfl⟩ := Option.map_eq_some_iff.1 hi'; exact ⟨_, rfl, (ev z (hlo z rfl)).strip⟩) (by simp)
        (by intro i hi'; obtain ⟨z, rfl, rfl⟩ := Option.map_eq_some_iff.1 hi'; exact ⟨_, rfl, (ev z (hhi z rfl)).strip⟩) (by simp) hp
      exact ⟨u, by simp [execOp, Sem.run_bind, h1], h2.lrep⟩
  case fieldAddr t y f =>
    simp [ltOp, Op.operands] at hlt
    obtain ⟨off, hoff, hadd⟩ := Option.bind_eq_some_iff.1 hp
    obtain ⟨b, o, h1, h2⟩ := h.addr (ev y hlt) hadd
    refine ⟨_, ?_, h2⟩
    unfold offT at hoff
    split at hoff
    · rename_i fs hu
      split at hoff
      · rename_i fd hfd
        split at hoff
        · rename_i z hz
          cases hoff
          simp [execOp, Instr.fieldAt, Sem.run_bind, run_underlying hu, hfd, h1, Instr.sureAddr, fieldPlace, szT_run w hz, addr_add]
        · cases hoff
      · cases hoff
    · cases hoff
  case indexAddr t y z =>
    simp [ltOp, Op.operands] at hlt
    obtain ⟨u, h1, h2⟩ := ixA_run (P := P) (ev y hlt.1).strip (ev z hlt.2).strip hp
    exact ⟨u, by simp [execOp, Sem.run_bind, h1], h2.lrep⟩
  case index t y z =>
    simp [ltOp, Op.operands] at hlt
    have hy := ev y hlt.1
    have hz := ev z hlt.2
    split at hp
    · rename_i s k n hu h1 h2
      rw [h1] at hy; rw [h2] at hz
      have hy' : a.eval y = .string s := hy
      have hz' : a.eval z = .int k n := hz
      split at hp
      · rename_i hc
        cases hp
        refine ⟨.int .u8 (s[n.toNat]'hc.2).toNat, ?_, rfl⟩
        have hg : s[n.toNat]? = some (s[n.toNat]'hc.2) := getElem?_pos s n.toNat hc.2
        simp [execOp, Instr.index, Sem.run_bind, hy', hz', asIntOf, run_underlying hu, hc.1, hg]
      · cases hp
    · cases hp
  case extract y i =>
    simp [ltOp, Op.operands] at hlt
    have hy := ev y hlt
    split at hp
    · rename_i vs hvs
      rw [hvs] at hy
      obtain ⟨us, h1, h2⟩ := hy
      obtain ⟨u, h3, h4⟩ := RepAll.get h2 i x hp
      refine ⟨u, ?_, h4.lrep⟩
      have h5 : us[i]? = some u := by simpa using h3
      simp [execOp, Sem.run_bind, h1, Instr.extract, h5]
    · cases hp
  case field t y f =>
    simp [ltOp, Op.operands] at hlt
    have hy := ev y hlt
    split at hp
    · rename_i off ft cs hft hcs
      rw [hcs] at hy
      obtain ⟨vs, h1, h2, h3⟩ := hy
      obtain ⟨v, h4, h5⟩ := prt_run (P := P) h3 h2 hp
      refine ⟨v, ?_, h5.lrep⟩
      unfold fieldT at hft
      split at hft
      · rename_i fs hu
        obtain ⟨fd, hfd, he⟩ := Option.map_eq_some_iff.1 hft
        cases he
        simp [execOp, Instr.field, Sem.run_bind, run_underlying hu, hfd, h1, asAgg, h4]
      · cases hft
    · cases hp
  case nilCheck y =>
    simp [ltOp, Op.operands] at hlt
    have hy := ev y hlt
    split at hp
    · rename_i b o hb; rw [hb] at hy; cases hp
      have hy' : a.eval y = .pointer (some ⟨b, o, none⟩) := hy
      exact ⟨_, by simp [execOp, hy'], rfl⟩
    · rename_i rows i o hb; rw [hb] at hy; cases hp
      have hy0 := hy
      obtain ⟨b, o0, vals, h1, h2, h3⟩ := hy
      exact ⟨_, by simp [execOp, h1], b, o0, vals, rfl, h2, h3⟩
    · rename_i z b i o hb; rw [hb] at hy; cases hp
      have hy' : a.eval y = .pointer (some ⟨b, i * z + o, none⟩) := hy
      exact ⟨_, by simp [execOp, hy'], rfl⟩
    · rename_i s gg o hb; rw [hb] at hy
      split at hp
      · rename_i hl
        cases hp
        have hy0 := hy
        obtain ⟨g0, cs, h1, h2, h3⟩ := hy
        simp only [live, h1, beq_iff_eq] at hl
        have h4 := h3 hl
        exact ⟨_, by simp [execOp, h4], h4 ▸ hy0⟩
      · cases hp
    · rename_i f fa c hb; rw [hb] at hy; cases hp
      have hy0 := hy
      obtain ⟨v1, v2, h1, h2, h3⟩ := hy
      exact ⟨_, by simp [execOp, h1], v1, v2, rfl, h2, h3⟩
    · rename_i t v hb; rw [hb] at hy; cases hp
      have hy0 := hy
      obtain ⟨u, h1, h2⟩ := hy
      exact ⟨_, by simp [execOp, h1], u, rfl, h2⟩
    · cases hp
  case typeAssert y xt t ok =>
    simp [ltOp, Op.operands] at hlt
    have hy := ev y hlt
    split at hp
    · cases hp
    · rename_i d hni hu
      have zr : ∀ z, zeT P t = some z → (zeroValue t).run P w = .ok z w := fun z hz => by
        obtain ⟨i, hi, hzi⟩ := Option.bind_eq_some_iff.1 hz
        simp [zeroValue, typeInfo, hi, hzi, Sem.run_bind]
      split at hp
      · rename_i u v hb
        rw [hb] at hy
        obtain ⟨x', h1, h2⟩ := hy
        by_cases hut : u = t
        · subst hut
          simp only [if_true, Option.some.injEq] at hp
          subst hp
          refine ⟨if ok then .tuple #[x', .bool true] else x', ?_, ?_⟩
          · cases d <;> first | exact (hni _ rfl).elim | (cases ok <;> simp [execOp, Sem.run_bind, Instr.typeAssert, h1, run_underlying hu])
          · cases ok
            · simpa using Rep.lrep h2
            · simp only [if_true]; exact ⟨_, rfl, _, _, rfl, h2, _, _, rfl, rfl, rfl⟩
        · simp only [hut, if_false] at hp
          split at hp
          · rename_i z hz
            split at hp
            · rename_i hone
              cases hp
              refine ⟨.tuple #[z, .bool false], ?_, _, rfl, _, _, rfl, zv_rep z hone, _, _, rfl, rfl, rfl⟩
              cases d <;> first | exact (hni _ rfl).elim | simp [execOp, Sem.run_bind, Instr.typeAssert, h1, run_underlying hu, hut, zr z hz]
            · cases hp
          · cases hp
      · rename_i hb
        rw [hb] at hy
        have h1 : a.eval y = .nilIface := hy
        split at hp
        · rename_i z hz
          split at hp
          · rename_i hone
            cases hp
            refine ⟨.tuple #[z, .bool false], ?_, _, rfl, _, _, rfl, zv_rep z hone, _, _, rfl, rfl, rfl⟩
            cases d <;> first | exact (hni _ rfl).elim | simp [execOp, Sem.run_bind, Instr.typeAssert, h1, run_underlying hu, zr z hz]
          · cases hp
        · cases hp
      · cases hp
    · cases hp
  case convert s d y =>
    simp [ltOp, Op.operands] at hlt
    have hy := ev y hlt
    split at hp
    · rename_i k1 k2 k3 n hs hd hb
      rw [hb] at hy; cases hp
      have hy' : a.eval y = .int k3 n := hy
      exact ⟨_, by simp [execOp, Sem.run_bind, convert, run_underlying hs, run_underlying hd, hy', Conv.intToInt], rfl⟩
    · rename_i bs hs hd hb
      rw [hb] at hy; cases hp
      have hy' : a.eval y = .string bs := hy
      exact ⟨_, by simp [execOp, Sem.run_bind, convert, run_underlying hs, run_underlying hd, hy'], rfl⟩
    · rename_i e tk rows hs hd hb
      rw [hb] at hy
      split at hp
      · rename_i bs he hbs
        cases hp
        have hy2 : Rep g.F w (.list .plain rows) (a.eval y) := by
          cases tk with
          | plain => exact hy
          | tight => exact Rep.plain hy
          | row s gg => exact hy.1
        obtain ⟨A, cap, vals, hv, hcap, hcm, _, _, hA⟩ := hy2
        have key : (Conv.bytesToString (a.eval y)).run P w = .ok (.string ⟨bs.toArray⟩) w := by
          rw [hv]
          cases A with
          | none =>
            simp only at hA
            have hr0 : rows = [] := List.eq_nil_of_length_eq_zero (by omega)
            subst hr0
            cases hbs
            rfl
          | some ad =>
            obtain ⟨hsp, hF, hrr⟩ := hA
            obtain ⟨ns, rfl, rfl⟩ := bytesOf_rep hbs hrr
            have hlen : (ns.map (Value.int .u8)).length = rows.length := by
              have : ∀ {rows : List (List IV)} {bs : List UInt8}, bytesOf rows = some bs → bs.length = rows.length := by
                intro rows
                induction rows with
                | nil => intro bs h; cases h; rfl
                | cons r rs ih =>
                  intro bs h
                  unfold bytesOf at h
                  split at h
                  · rename_i e; cases e
                  · rename_i n r' e; cases e
                    obtain ⟨bs', h3, rfl⟩ := Option.map_eq_some_iff.1 h
                    simp [ih h3]
                  · cases h
              have := this hbs
              simpa using this
            have hload : (loadCells ad rows.length).run P w = .ok (ns.map (Value.int .u8)).toArray w := by
              by_cases h0 : rows.length = 0
              · have : ns = [] := by
                  have := hlen; rw [h0] at this; simpa using this
                subst this
                rw [h0]
                simp [loadCells, loadCellsFrom]
              · obtain ⟨b, o, sp⟩ := ad
                obtain rfl : sp = none := hsp (.inr (by omega))
                have := run_loadCells_list (P := P) w ⟨b, o, none⟩ (ns.map (Value.int .u8)) (fun j v hj => by rw [addr_add]; exact (hF j v hj).2.1)
                rw [hlen] at this
                exact this
            rw [run_bytesToString w ad rows.length cap ns hload, pushes_eq]
            rfl
        refine ⟨.string ⟨bs.toArray⟩, ?_, rfl⟩
        simp only [execOp, Sem.run_bind]
        rw [hv] at key ⊢
        rw [run_convert_bytes_string w s d e A rows.length cap hs he hd, key]
        simp
      · cases hp
    · cases hp
  case call c =>
    obtain ⟨callee, args, argTypes⟩ := c
    simp only at hp
    cases callee with
    | value f => cases hp
    | invoke r m => cases hp
    | builtin b =>
      have hm : ∀ z, z ∈ args → opLt N z = true := by
        intro z hz
        simp only [ltOp, Op.operands, Call.operands, Array.all_eq_true_iff_forall_mem] at hlt
        exact hlt z (by simpa using hz)
      cases b <;> simp only at hp <;> try (cases hp; done)
      case cap =>
        split at hp
        · rename_i t y ht hy
          have hyl := ev y (hm y (Array.mem_of_getElem? hy))
          split at hp
          · rename_i e rows hu hb
            rw [hb] at hyl; cases hp
            obtain ⟨A, cap, vals, h1, _, _, _, h2, _⟩ := hyl
            have h2 := h2 rfl
            subst h2
            exact ⟨_, by simp [execOp, Sem.run_bind, resolve, invoke, builtin, Builtin.cap_, ht, hy, h1, run_underlying hu, goInt], rfl⟩
          · rename_i e z b o n cap hu hb
            rw [hb] at hyl; cases hp
            obtain ⟨h1, _⟩ := hyl
            exact ⟨_, by simp [execOp, Sem.run_bind, resolve, invoke, builtin, Builtin.cap_, ht, hy, h1, run_underlying hu, goInt], rfl⟩
          · cases hp
        · cases hp
      case len =>
        split at hp
        · rename_i t y ht hy
          have hyl := ev y (hm y (Array.mem_of_getElem? hy))
          split at hp
          · rename_i s hu hb
            rw [hb] at hyl; cases hp
            have hy' : a.eval y = .string s := hyl
            exact ⟨_, by simp [execOp, Sem.run_bind, resolve, invoke, builtin, Builtin.len_, ht, hy, hy', run_underlying hu, goInt], rfl⟩
          · rename_i e tk rows hu hb
            rw [hb] at hyl; cases hp
            obtain ⟨A, cap, h1⟩ : ∃ A cap, a.eval y = .slice A rows.length cap := by
              cases tk <;> (obtain ⟨A, cap, vals, h1, _⟩ := hyl.strip; exact ⟨A, cap, h1⟩)
            exact ⟨_, by simp [execOp, Sem.run_bind, resolve, invoke, builtin, Builtin.len_, ht, hy, h1, run_underlying hu, goInt], rfl⟩
          · rename_i e z b o n cap hu hb
            rw [hb] at hyl; cases hp
            obtain ⟨h1, _⟩ := hyl
            exact ⟨_, by simp [execOp, Sem.run_bind, resolve, invoke, builtin, Builtin.len_, ht, hy, h1, run_underlying hu, goInt], rfl⟩
          · cases hp
        · cases hp
      case max =>
        split at hp
        · rename_i k x1 k' x2 hx
          split at hp
          · rename_i hk
            subst hk
            cases hp
            obtain ⟨args⟩ := args
            cases args with
            | nil => simp at hx
            | cons p l1 =>
              cases l1 with
              | nil => simp at hx
              | cons q l2 =>
                cases l2 with
                | cons r l3 => simp at hx
                | nil =>
                  simp only [List.map_cons, List.map_nil, List.cons.injEq, and_true] at hx
                  have h1 := ev p (hm p (by simp))
                  have h2 := ev q (hm q (by simp))
                  rw [hx.1] at h1; rw [hx.2] at h2
                  have h1' : a.eval p = .int k x1 := h1
                  have h2' : a.eval q = .int k x2 := h2
                  refine ⟨.int k (max x1 x2), ?_, rfl⟩
                  simp [execOp, Sem.run_bind, resolve, invoke, builtin, Builtin.max_, Builtin.max2, h1', h2']
                  (try split) <;> omega
          · cases hp
        · cases hp
      case min =>
        split at hp
        · rename_i k x1 k' x2 hx
          split at hp
          · rename_i hk
            subst hk
            cases hp
            obtain ⟨args⟩ := args
            cases args with
            | nil => simp at hx
            | cons p l1 =>
              cases l1 with
              | nil => simp at hx
              | cons q l2 =>
                cases l2 with
                | cons r l3 => simp at hx
                | nil =>
                  simp only [List.map_cons, List.map_nil, List.cons.injEq, and_true] at hx
                  have h1 := ev p (hm p (by simp))
                  have h2 := ev q (hm q (by simp))
                  rw [hx.1] at h1; rw [hx.2] at h2
                  have h1' : a.eval p = .int k x1 := h1
                  have h2' : a.eval q = .int k x2 := h2
                  refine ⟨.int k (min x1 x2), ?_, rfl⟩
                  simp [execOp, Sem.run_bind, resolve, invoke, builtin, Builtin.min_, Builtin.min2, h1', h2']
                  (try split) <;> omega
          · cases hp
        · cases hp

/-- a string's bytes, as rows -/
def strRows (s : ByteArray) : List (List IV) := s.data.toList.map fun c => [.int .u8 c.toNat]
def strVals (s : ByteArray) : List Value := s.data.toList.map fun c => .int .u8 c.toNat
theorem strRows_len (s : ByteArray) : (strRows s).length = s.size := by simp [strRows]
theorem strVals_len (s : ByteArray) : (strVals s).length = s.size := by simp [strVals]
theorem bytes_rep {F : Nat → Nat → Prop} {w : World} : ∀ l : List UInt8, RepAll F w (l.map fun c => [IV.int .u8 c.toNat]).flatten (l.map fun c => Value.int .u8 c.toNat)
  | [] => rfl
  | c :: l => ⟨_, _, rfl, rfl, bytes_rep l⟩
theorem strRows_rep {F : Nat → Nat → Prop} {w : World} (s : ByteArray) : RepAll F w (strRows s).flatten (strVals s) := bytes_rep _
theorem strVals_one (s : ByteArray) : ∀ v ∈ strVals s, v.oneCell' = true := by
  intro v hv
  obtain ⟨c, _, rfl⟩ := List.mem_map.1 hv
  rfl
theorem uni_strRows (s : ByteArray) : uni 1 (strRows s) = true := by
  unfold uni strRows; rw [List.all_eq_true]; intro r hr; obtain ⟨c, _, rfl⟩ := List.mem_map.1 hr; rfl
theorem run_firstCells_str {P : Program} (w : World) (s : ByteArray) (n : Nat) (hn : n = s.size) : (Builtin.firstCells 1 n (.string s)).run P w = .ok (strVals s).toArray w := by
  subst hn
  have : (strVals s).toArray = s.data.map fun b => Value.int .u8 b.toNat := by apply Array.ext'; simp [strVals]
  simp [Builtin.firstCells, this]
end Go.Idl
