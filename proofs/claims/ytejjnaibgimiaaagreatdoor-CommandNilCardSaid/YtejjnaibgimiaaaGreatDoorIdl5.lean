/- This text is a part of the proofs of the statements of this seat: the ideal states and their rules, or what one of the functions that the statements reach comes to. Conditions: none beyond those that each theorem names. -/
import Derived.Test.YtejjnaibgimiaaaGreatDoorIdl4b
import Derived.Laws.MakeOwn
set_option linter.unusedVariables false
set_option linter.unusedSimpArgs false
namespace Go.Idl
inductive IExit where
  | normal
  | exit (id : Nat)
  | ret
  | panic (v : IV)

inductive IEnd where
  | ret (v : IV)
  | pan (v : IV)

def EndRep (F : Nat → Nat → Prop) (w : World) : IEnd → Ending → Prop
  | .ret x, .returned v => Rep F w x v
  | .pan x, .panicked chain => ∃ v, chain = [{ v, recovered := false }] ∧ Rep F w x v
  | _, _ => False

structure HRel (F : Nat → Nat → Prop) (X : Nat → Prop) (h : Heap) (w : World) : Prop where
  hp : ∀ b o, h b = some o → XOk X b o ∧ ObjRep F w b o
  xf : ∀ b o, X b → ¬ F b o
  xb : ∀ b, X b → b < w.heap.size
  fb : ∀ b o, F b o → b < w.heap.size

theorem HRel.blt {F X h w} (hh : HRel F X h w) {b : Nat} {o : IObj} (hb : h b = some o) : b < w.heap.size := ObjRep.lt hh.xb hh.fb (hh.hp b o hb).1 (hh.hp b o hb).2
theorem Core.hrel {P N B ds g st a w} (h : Core P N B ds g st a w) : HRel g.F g.X st.h w := ⟨h.hp, h.xf, h.xb, h.fb⟩

def Enters (P : Program) (f : FuncId) : Prop := ∃ fn, P.funcs[f]? = some fn ∧ (fn.name == "runtime.NumGoroutine") = false ∧ fn.body.isNone = false

/-- what a call comes to, whatever memory it is made in -/
def ICall (P : Program) (f : FuncId) (args : List IV) (h : Heap) (R : IEnd → Heap → Prop) : Prop :=
  Enters P f ∧ ∀ (F : Nat → Nat → Prop) (X : Nat → Prop) (w : World) (vs : Array Value), HRel F X h w → RepAll F w args vs.toList →
    Calls P f vs w fun e w' => ∃ F' X' h' ie, R ie h' ∧ EndRep F' w' ie e ∧ HRel F' X' h' w' ∧ Keep F X w F' X' w'

theorem ICall.mono {P f args h} {R R' : IEnd → Heap → Prop} (hc : ICall P f args h R) (hr : ∀ e h', R e h' → R' e h') : ICall P f args h R' :=
  ⟨hc.1, fun F X w vs h1 h2 => (hc.2 F X w vs h1 h2).mono fun _ _ ⟨F', X', h', ie, k1, k2⟩ => ⟨F', X', h', ie, hr _ _ k1, k2⟩⟩

def vK (v : Option IV) (k : IV → Prop) : Prop := match v with | some x => k x | none => False
def condK (b : Bool) (k : Bool → Prop) : Prop := (b = true → k true) ∧ (b = false → k false)

/-- what a call's callee is -/
def calleeOf (st : St) (f : Operand) : Option (FuncId × List IV × List IV) :=
  match st.ev f with
  | .fn (.func f) first cap => some (f, first, cap)
  | _ => none

def idxOk : Nat → List (Nat × Operand) → Bool
  | _, [] => true
  | k, (i, _) :: r => i == k && idxOk (k + 1) r

/-- a slice held against nil -/
def nilSl (P : Program) (op : BinOp) (t : TypeId) (y : Operand) (x : IV) : Option (List (List IV)) :=
  match y, op, x with
  | .const (.slice none 0 0), .eql, .list _ rows => match elT P t with | some _ => some rows | none => none
  | .const (.slice none 0 0), .neq, .list _ rows => match elT P t with | some _ => some rows | none => none
  | .const (.slice none 0 0), .eql, .sl _ _ _ _ _ => match elT P t with | some _ => some [[]] | none => none
  | .const (.slice none 0 0), .neq, .sl _ _ _ _ _ => match elT P t with | some _ => some [[]] | none => none
  | _, _, _ => none

/-- append that makes, and grows, arrays of the heap -/
def iappB (P : Program) (st : St) (d : Nat) (t : TypeId) (x y : IV) (K : St → Prop) : Prop :=
  match x, y with
  | .sl z b off n cap, .list _ ys =>
    match st.h b, elT P t with
    | some (.arr e z' rows tot), some e' =>
      (off = 0 ∧ e = e' ∧ z = z' ∧ elZ P e = some z ∧ n = rows.length ∧ tot = cap ∧ roomy P e (rows.length + ys.length) ∧ uni z ys = true) ∧
      (n + ys.length ≤ cap → K (({ st with h := upd st.h b (some (.arr e z (rows ++ ys) cap)) } : St).put (some d) (.sl z b 0 (n + ys.length) cap))) ∧
      (cap < n + ys.length → ∀ b' cap', st.h b' = none → n + ys.length ≤ cap' → K (({ st with h := upd st.h b' (some (.arr e z (rows ++ ys) cap')) } : St).put (some d) (.sl z b' 0 (n + ys.length) cap')))
    | _, _ => False
  | .list .tight rows, .list _ ys =>
    match (elT P t).bind (elZ P), elT P t with
    | some z, some e =>
      (roomy P e (rows.length + ys.length) ∧ uni z rows = true ∧ uni z ys = true) ∧
      (ys = [] → K (st.put (some d) (.list .tight rows))) ∧
      (ys ≠ [] → ∀ b' cap', st.h b' = none → rows.length + ys.length ≤ cap' → K (({ st with h := upd st.h b' (some (.arr e z (rows ++ ys) cap')) } : St).put (some d) (.sl z b' 0 (rows.length + ys.length) cap')))
    | _, _ => False
  | _, _ => False

/-- a value stands; with the hint 3 an array of the heap becomes a list that nobody writes any more -/
def imf (k : Nat) (st : St) (x : IV) (d : Option Tmp) (K : St → Prop) : Prop :=
  match x with
  | .ptr o 0 =>
    match st.h o with
    | some (.cells cs) =>
      match cs[k]? with
      | some (.sl z b off n _) =>
        match st.h b with
        | some (.arr _ z' rows _) => (z = z' ∧ off + n ≤ rows.length) ∧ K (({ st with h := upd (fun j => if j = b then none else st.h j) o (some (.cells (cs.set k (.list .plain ((rows.drop off).take n))))) } : St).put d (.ptr o 0))
        | _ => False
      | some _ => K (st.put d (.ptr o 0))
      | none => False
    | _ => False
  | _ => False
/-- with a hint 100 + k the array that a struct's cell k names becomes such a list -/
def imv (hint : Nat → Nat) (d : Option Tmp) (st : St) (x : IV) (K : St → Prop) : Prop :=
  if d.any (fun d => decide (100 ≤ hint d)) = true then imf (match d with | some d => hint d - 100 | none => 0) st x d K else
  if d.all (fun d => hint d ≠ 3) = true then K (st.put d x) else
  match x with
  | .sl z b off n _ =>
    match st.h b with
    | some (.arr _ z' rows _) => (z = z' ∧ off + n ≤ rows.length) ∧ K (({ st with h := fun j => if j = b then none else st.h j } : St).put d (.list .plain ((rows.drop off).take n)))
    | _ => False
  | x => K (st.put d x)

/-- append of so many zeros, to a list without room: a new array; what it holds is not told -/
def izer (P : Program) (st : St) (d : Nat) (t t' : TypeId) (x y : IV) (K : St → Prop) : Prop :=
  match x, y with
  | .list .tight [], .int _ m =>
    match elT P t, (elT P t).bind (elZ P), P.underlying t' with
    | some e, some z, some (.int _) =>
      (0 < m ∧ roomy P e m.toNat) ∧ ∀ b' cap', st.h b' = none → m.toNat ≤ cap' → K (({ st with h := upd st.h b' (some (.arr e z [] cap')) } : St).put (some d) (.sl z b' 0 m.toNat cap'))
    | _, _, _ => False
  | .sl z b off n cap, .int _ m =>
    match st.h b, elT P t, P.underlying t' with
    | some (.arr e z' rows _), some e', some (.int _) =>
      (off = 0 ∧ e = e' ∧ z = z' ∧ elZ P e = some z ∧ n ≤ rows.length ∧ 0 < m ∧ cap < n + m.toNat ∧ roomy P e (n + m.toNat)) ∧
      ∀ b' cap', st.h b' = none → n + m.toNat ≤ cap' → K (({ st with h := upd st.h b' (some (.arr e z (rows.take n) cap')) } : St).put (some d) (.sl z b' 0 (n + m.toNat) cap'))
    | _, _, _ => False
  | _, _ => False

/-- rows are copied over an array's -/
def icop (P : Program) (st : St) (t : TypeId) (x y : IV) (d : Option Tmp) (K : St → Prop) : Prop :=
  match x with
  | .sl z b off n _ =>
    match st.h b, elT P t, csrc st z (trimS n y) with
    | some (.arr e z' rows tot), some e', some src =>
      (e = e' ∧ z = z' ∧ elZ P e = some z ∧ off ≤ rows.length ∧ off + min n src.length ≤ tot) ∧
      K (({ st with h := upd st.h b (some (.arr e z (rows.take off ++ src.take n ++ rows.drop (off + min n src.length)) tot)) } : St).put d (.int .i64 (min n src.length : Nat)))
    | _, _, _ => False
  | _ => False

/-- an append within the room, over an array's rows -/
def iapi (P : Program) (st : St) (t : TypeId) (x y : IV) (d : Option Tmp) (K : St → Prop) : Prop :=
  match x with
  | .sl z b off n cap =>
    match st.h b, elT P t, csrc st z y with
    | some (.arr e z' rows tot), some e', some src =>
      (off = 0 ∧ e = e' ∧ z = z' ∧ elZ P e = some z ∧ n ≤ rows.length ∧ tot = cap ∧ n + src.length ≤ tot) ∧
      K (({ st with h := upd st.h b (some (.arr e z (rows.take n ++ src ++ rows.drop (n + src.length)) tot)) } : St).put d (.sl z b 0 (n + src.length) cap))
    | _, _, _ => False
  | _ => False

/-- an append behind the first elements of an array -/
def iapq (P : Program) (st : St) (t : TypeId) (x y : IV) (d : Option Tmp) (K : St → Prop) : Prop :=
  match x with
  | .sl z b off n cap =>
    match st.h b, elT P t, csrc st z y with
    | some (.arr e z' rows tot), some e', some src =>
      (off = 0 ∧ e = e' ∧ z = z' ∧ elZ P e = some z ∧ n ≤ rows.length ∧ tot = cap ∧ roomy P e (n + src.length)) ∧
      (n + src.length ≤ cap → K (({ st with h := upd st.h b (some (.arr e z (rows.take n ++ src ++ rows.drop (n + src.length)) tot)) } : St).put d (.sl z b 0 (n + src.length) cap))) ∧
      (cap < n + src.length → ∀ b' cap', st.h b' = none → n + src.length ≤ cap' → K (({ st with h := upd st.h b' (some (.arr e z (rows.take n ++ src) cap')) } : St).put d (.sl z b' 0 (n + src.length) cap')))
    | _, _, _ => False
  | _ => False

def isPtrT : TypeDesc → Bool | .pointer _ => true | _ => false
/-- a type's method, that needs nothing done to its receiver -/
def methT (P : Program) (t : TypeId) (name : String) : Option FuncId :=
  match P.info? t, P.underlying t with
  | some i, some d =>
    match i.methods.find? (·.name == name) with
    | some m =>
      if m.path.isEmpty = true then
        match m.func with
        | some (f, pr) => if isPtrT d = pr then some f else none
        | none => none
      else none
    | none => none
  | _, _ => none

/-- a copy of an array of the heap -/
def icpy (P : Program) (st : St) (d : Nat) (t : TypeId) (x y : IV) (K : St → Prop) : Prop :=
  match x, y with
  | .list .tight [], .sl z b off n _ =>
    match st.h b, elT P t with
    | some (.arr e z' rows _), some e' =>
      (e = e' ∧ z = z' ∧ elZ P e = some z ∧ off + n ≤ rows.length ∧ roomy P e n) ∧
      (n = 0 → K (st.put (some d) (.list .tight []))) ∧ (0 < n → K (st.put (some d) (.list .plain ((rows.drop off).take n))))
    | _, _ => False
  | _, _ => False

/-- an entry of a map goes -/
def idelB (P : Program) (st : St) (t : TypeId) (m k : IV) (d : Option Tmp) (K : St → Prop) : Prop :=
  match P.underlying t, m with
  | some (.map kt _), .mapv b =>
    match P.underlying kt, st.h b with
    | some kd, some (.map es) =>
      scal kd = true ∧ (match idel kd k es with
        | some es' => K (({ st with h := upd st.h b (some (.map es')) } : St).put d (.tup []))
        | none => False)
    | _, _ => False
  | _, _ => False

/-- the end of an array is cleared -/
def iclr (P : Program) (st : St) (t : TypeId) (x : IV) (d : Option Tmp) (K : St → Prop) : Prop :=
  match x with
  | .sl z b off n _ =>
    match st.h b, elT P t with
    | some (.arr e z' rows tot), some e' =>
      (e = e' ∧ z = z' ∧ elZ P e = some z ∧ off ≤ rows.length ∧ rows.length ≤ off + n ∧ off + n ≤ tot) ∧
      K (({ st with h := upd st.h b (some (.arr e z (rows.take off) tot)) } : St).put d (.tup []))
    | _, _ => False
  | _ => False

/-- an array made by make -/
def imks (P : Program) (st : St) (t : TypeId) (l m : IV) (d : Option Tmp) (K : St → Prop) : Prop :=
  match l, m with
  | .int _ n, .int _ k =>
    match elT P t with
    | some e =>
      match zeT P e with
      | some z => (elZ P e = some 1 ∧ 0 ≤ n ∧ n ≤ k ∧ k ≤ 1000000000 ∧ byT P e ≤ 1000) ∧ ∀ b, st.h b = none → K (({ st with h := upd st.h b (some (.arr e 1 (List.replicate n.toNat (z.cells.toList.map cv)) k.toNat)) } : St).put d (.sl 1 b 0 n.toNat k.toNat))
      | none => False
    | none => False
  | _, _ => False

/-- behind a call that the hint 10 marks, what the heap held still stands -/
def growR (t : Bool) (h : Heap) (R : IEnd → Heap → Prop) (ie : IEnd) (h' : Heap) : Prop := (t = true → ∀ b o, h b = some o → h' b = some o) ∧ R ie h'
theorem growR_false (h : Heap) (R : IEnd → Heap → Prop) : growR false h R = R := by funext ie h'; exact propext ⟨fun h => h.2, fun h => ⟨(fun e => by cases e), h⟩⟩
/-- what a function without a body yields; memory is as it was -/
def ECall (P : Program) (f : FuncId) (args : List IV) (h : Heap) (v : IV) : Prop :=
  ∀ (F : Nat → Nat → Prop) (X : Nat → Prop) (w : World) (vs : Array Value), HRel F X h w → RepAll F w args vs.toList → ∃ u, (callFunc f vs).run P w = .ok (.value u) w ∧ Rep F w v u
/-- a range begins: over a string's bytes, or over a map that stands till the end -/
def irng (P : Program) (st : St) (t : TypeId) (x : IV) (d : Option Tmp) (K : St → Prop) : Prop :=
  match P.underlying t, x with
  | some .string, .str s => ∀ b, st.h b = none → K (({ st with h := upd st.h b (some (.sit s 0)) } : St).put d (.ptr b 0))
  | some (.map _ _), .mapv m =>
    match st.h m with
    | some (.map es) => ∀ b ents clock, st.h b = none → ents.length = es.length → K (({ st with h := upd (upd st.h m (some (.pmap es ents clock))) b (some (.mit m ents clock es none)) } : St).put d (.ptr b 0))
    | some (.pmap es ents clock) => ∀ b, st.h b = none → K (({ st with h := upd st.h b (some (.mit m ents clock es none)) } : St).put d (.ptr b 0))
    | _ => False
  | _, _ => False
/-- and goes on -/
def inxt (st : St) (x : IV) (str : Bool) (d : Option Tmp) (K : St → Prop) : Prop :=
  match x with
  | .ptr b 0 =>
    match str, st.h b with
    | true, some (.sit s pos) =>
      (pos < s.size → K (({ st with h := upd st.h b (some (.sit s (pos + (Utf8.decode s pos).2))) } : St).put d (.tup [.bool true, .int .i64 pos, .int .i32 (Utf8.decode s pos).1]))) ∧
      (s.size ≤ pos → K (st.put d (.tup [.bool false])))
    | false, some (.mit m ents clock left _) =>
      match st.h m with
      | some (.pmap _ ents' clock') =>
        (ents' = ents ∧ clock' = clock) ∧ (left = [] → K (st.put d (.tup [.bool false]))) ∧
        ∀ i k v, left[i]? = some (k, v) → K (({ st with h := upd st.h b (some (.mit m ents clock (left.eraseIdx i) (some (k, v)))) } : St).put d (.tup [.bool true, k, v]))
      | _ => False
    | _, _ => False
  | _ => False
/-- the key and the value of the round -/
def ient (st : St) (x : IV) (d : Option Tmp) (K : St → Prop) : Prop :=
  match x with
  | .ptr b 0 =>
    match st.h b with
    | some (.mit m ents clock _ (some (k, v))) =>
      match st.h m with
      | some (.pmap _ ents' clock') => (ents' = ents ∧ clock' = clock) ∧ K (st.put d (.tup [k, v]))
      | _ => False
    | _ => False
  | _ => False
/-- a string's bytes as a slice; an array's bytes as a string -/
def icvt (P : Program) (st : St) (s t : TypeId) (x : Operand) (d : Option Tmp) (K : St → Prop) : Prop :=
  match P.underlying s, P.underlying t, st.ev x with
  | some .string, some (.slice e), .str v => (P.underlying e = some (.int .u8) ∧ elZ P e = some 1 ∧ v.size ≤ 1000000000) ∧ K (st.put d (.list .plain (strRows v)))
  | some (.slice e), some .string, .sl z b off n _ =>
    match P.underlying e, st.h b with
    | some (.int .u8), some (.arr _ z' rows _) =>
      (z = 1 ∧ z' = 1 ∧ off + n ≤ rows.length) ∧ (match bytesOf ((rows.drop off).take n) with
        | some bs => K (st.put d (.str ⟨bs.toArray⟩))
        | none => False)
    | _, _ => False
  | some (.slice e), some (.slice e'), .sl z b off n _ =>
    match P.underlying e', st.h b with
    | some (.int .u8), some (.arr _ z' rows _) =>
      (s = t ∧ e = e' ∧ z = z' ∧ off + n ≤ rows.length) ∧ K (({ st with h := fun j => if j = b then none else st.h j } : St).put d (.list .plain ((rows.drop off).take n)))
    | _, _ => False
  | _, _, _ => vK (pop P st (.convert s t x)) fun v => K (st.put d v)
/-- a string's bytes behind an array's -/
def iapS (P : Program) (st : St) (d : Nat) (t t' : TypeId) (x y : IV) (K : St → Prop) : Prop :=
  match x, y with
  | .sl z b off n cap, .str s =>
    match st.h b, elT P t, P.underlying t' with
    | some (.arr e z' rows tot), some e', some .string =>
      (off = 0 ∧ e = e' ∧ z = 1 ∧ z' = 1 ∧ elZ P e = some 1 ∧ n = rows.length ∧ tot = cap ∧ roomy P e (rows.length + s.size)) ∧
      (n + s.size ≤ cap → K (({ st with h := upd st.h b (some (.arr e 1 (rows ++ strRows s) cap)) } : St).put (some d) (.sl 1 b 0 (n + s.size) cap))) ∧
      (cap < n + s.size → ∀ b' cap', st.h b' = none → n + s.size ≤ cap' → K (({ st with h := upd st.h b' (some (.arr e 1 (rows ++ strRows s) cap')) } : St).put (some d) (.sl 1 b' 0 (n + s.size) cap')))
    | _, _, _ => False
  | .list .tight rows, .str s =>
    match elT P t, P.underlying t' with
    | some e, some .string =>
      (elZ P e = some 1 ∧ roomy P e (rows.length + s.size) ∧ uni 1 rows = true) ∧
      (s.size = 0 → K (st.put (some d) (.list .tight rows))) ∧
      (0 < s.size → ∀ b' cap', st.h b' = none → rows.length + s.size ≤ cap' → K (({ st with h := upd st.h b' (some (.arr e 1 (rows ++ strRows s) cap')) } : St).put (some d) (.sl 1 b' 0 (rows.length + s.size) cap')))
    | _, _ => False
  | _, _ => False
/-- an array's first byte, its address -/
def isdt (st : St) (x : IV) (d : Option Tmp) (K : St → Prop) : Prop :=
  match x with
  | .sl z b 0 _ cap => (z = 1 ∧ 0 < cap) ∧ K (st.put d (.aptr z b 0 0))
  | _ => False
/-- an array's bytes as a string, for good -/
def iust (P : Program) (st : St) (t : TypeId) (x y : IV) (d : Option Tmp) (K : St → Prop) : Prop :=
  match x, y with
  | .aptr 1 b 0 0, .int .i64 n =>
    match P.underlying t, st.h b with
    | some (.pointer e), some (.arr e' 1 rows _) =>
      (e = e' ∧ elZ P e = some 1 ∧ 0 < n ∧ n ≤ 9223372036854775807 ∧ n.toNat ≤ rows.length) ∧ ∃ s : ByteArray, rows.take n.toNat = strRows s ∧ K (({ st with h := fun j => if j = b then none else st.h j } : St).put d (.str s))
    | _, _ => False
  | _, _ => False
def iop (P : Program) (hint : Nat → Nat) (o : Oper) (st : St) (K : St → Prop) (Q : IExit → St → Prop) : Prop :=
  match o.op with
  | .move x => imv hint o.dst st (st.ev x) K
  | .assign x => imv hint o.dst st (st.ev x) K
  | .binOp op t x y _ =>
    match nilSl P op t y (st.ev x) with
    | some rows => ∀ r : Bool, (r = true → rows = []) → K (st.put o.dst (.bool (if op = .eql then r else !r)))
    | none => vK (pop P st o.op) fun v => K (st.put o.dst v)
  | .box _ x =>
    match o.dst with
    | some d =>
      if hint d = 1 then okV (stripT (st.ev x)) = true ∧ ∀ b, st.h b = none → K (({ st with h := upd st.h b (some (.cells (icells (stripT (st.ev x))))) } : St).put (some d) (.ptr b 0))
      else okL st (st.ev x) = true ∧ K (({ st with m := upd st.m d (some (ngen st d, icells (st.ev x))) } : St).put (some d) (.loc d (ngen st d) 0))
    | none => False
  | .alloc e =>
    match o.dst, zeT P e with
    | some d, some z =>
      (z.cells.toList.all fun u => u.oneCell') = true ∧
      if hint d = 1 then ∀ b, st.h b = none → K (({ st with h := upd st.h b (some (.cells (z.cells.toList.map cv))) } : St).put (some d) (.ptr b 0))
      else K (({ st with m := upd st.m d (some (ngen st d, z.cells.toList.map cv)) } : St).put (some d) (.loc d (ngen st d) 0))
    | _, _ => False
  | .buildSlice t len parts =>
    if o.dst.any (hint · = 17) = true then
      match elT P t with
      | some e =>
        match elZ P e with
        | some z =>
          (len = parts.size ∧ len * z ≤ 16777216 ∧ idxOk 0 parts.toList = true ∧
          (parts.toList.all fun p => okV (strip (st.ev p.2))) = true ∧ uni z (parts.toList.map fun p => icells (strip (st.ev p.2))) = true) ∧
          ∀ b, st.h b = none → K (({ st with h := upd st.h b (some (.arr e z (parts.toList.map fun p => icells (strip (st.ev p.2))) len)) } : St).put o.dst (.sl z b 0 len len))
        | none => False
      | none => False
    else
    match (elT P t).bind (elZ P) with
    | some z =>
      len = parts.size ∧ len * z ≤ 16777216 ∧ idxOk 0 parts.toList = true ∧
      (parts.toList.all fun p => okV (strip (st.ev p.2))) = true ∧ uni z (parts.toList.map fun p => icells (strip (st.ev p.2))) = true ∧
      K (st.put o.dst (.list .tight (parts.toList.map fun p => icells (strip (st.ev p.2)))))
    | none => False
  | .store t a x =>
    match szT P t, st.ev a with
    | some z, .loc s g off =>
      match st.m s with
      | some (g', cs) =>
        g = g' ∧ okL st (st.ev x) = true ∧ (icells (st.ev x)).length = z ∧ off + z ≤ cs.length ∧
          K (({ st with m := upd st.m s (some (g', splice cs off (icells (st.ev x)))) } : St).put o.dst .dead)
      | none => False
    | some z, .ptr b off =>
      match st.h b with
      | some (.cells cs) =>
        okV (stripT (st.ev x)) = true ∧ (icells (stripT (st.ev x))).length = z ∧ off + z ≤ cs.length ∧
          K (({ st with h := upd st.h b (some (.cells (splice cs off (icells (stripT (st.ev x)))))) } : St).put o.dst .dead)
      | _ => False
    | some z, .aptr z' b i off =>
      match st.h b with
      | some (.arr e zz rows tot) =>
        match rows[i]? with
        | some r => z' = zz ∧ okV (strip (st.ev x)) = true ∧ (icells (strip (st.ev x))).length = z ∧ off + z ≤ zz ∧
          K (({ st with h := upd st.h b (some (.arr e zz (rows.set i (splice r off (icells (strip (st.ev x))))) tot)) } : St).put o.dst .dead)
        | none => False
      | _ => False
    | _, _ => False
  | .range t x => irng P st t (st.ev x) o.dst K
  | .next x str => inxt st (st.ev x) str o.dst K
  | .entry x => ient st (st.ev x) o.dst K
  | .convert s t x => icvt P st s t x o.dst K
  | .makeMap _ none =>
    ∀ b, st.h b = none → K (({ st with h := upd st.h b (some (.map [])) } : St).put o.dst (.mapv b))
  | .makeSlice t l m => imks P st t (st.ev l) (st.ev m) o.dst K
  | .mapUpdate t m k v =>
    match P.underlying t, st.ev m with
    | some (.map kt _), .mapv b =>
      match P.underlying kt, st.h b with
      | some kd, some (.map es) =>
        scal kd = true ∧ (match iput kd (strip (st.ev k)) (strip (st.ev v)) es with
          | some es' => K (({ st with h := upd st.h b (some (.map es')) } : St).put o.dst .dead)
          | none => False)
      | _, _ => False
    | _, _ => False
  | .panic x => match st.ev x with | .iface t y => Q (.panic (.iface t y)) st | _ => False
  | .call c =>
    match c.callee with
    | .value f =>
      if o.dst.any (hint · = 13) = true then
        match calleeOf st f with
        | some (f, first, cap) => ∃ v, ECall P f (first ++ (c.args.toList.map fun x => strip (st.ev x)) ++ cap) st.h v ∧ K (st.put o.dst v)
        | none => False
      else
      match calleeOf st f with
      | some (f, first, cap) =>
        ICall P f (first ++ (c.args.toList.map fun x => sa (o.dst.any (hint · = 5)) (st.ev x)) ++ cap) st.h (growR (o.dst.any (hint · = 10)) st.h fun ie h' =>
          match ie with
          | .ret v => K (({ st with h := h' } : St).put o.dst v)
          | .pan v => Q (.panic v) { st with h := h' })
      | none => False
    | .invoke r name =>
      match st.ev r with
      | .iface t v =>
        match methT P t name with
        | some f =>
          ICall P f (v :: c.args.toList.map fun x => strip (st.ev x)) st.h fun ie h' =>
            match ie with
            | .ret v => K (({ st with h := h' } : St).put o.dst v)
            | .pan v => Q (.panic v) { st with h := h' }
        | none => False
      | _ => False
    | .builtin .delete =>
      match c.args.toList, c.argTypes.toList with
      | [m, k], [t, _] => idelB P st t (st.ev m) (strip (st.ev k)) o.dst K
      | _, _ => False
    | .builtin .copy =>
      match c.args.toList, c.argTypes.toList with
      | [x, y], [t, _] => icop P st t (st.ev x) (st.ev y) o.dst K
      | _, _ => False
    | .builtin .unsafeSliceData =>
      match c.args.toList with
      | [x] => isdt st (st.ev x) o.dst K
      | _ => False
    | .builtin .unsafeString =>
      match c.args.toList, c.argTypes.toList with
      | [x, y], [t, _] => iust P st t (st.ev x) (st.ev y) o.dst K
      | _, _ => False
    | .builtin .clear =>
      match c.args.toList, c.argTypes.toList with
      | [x], [t] => iclr P st t (st.ev x) o.dst K
      | _, _ => False
    | .builtin .len =>
      if o.dst.any (hint · = 11) = true then
        match lenM P st c with
        | some n => K (st.put o.dst (.int .i64 n))
        | none => False
      else vK (pop P st o.op) fun v => K (st.put o.dst v)
    | .builtin .append =>
      match c.args.toList, c.argTypes.toList, o.dst with
      | [x, y], [t, t'], some d =>
        if hint d = 16 then iapS P st d t t' (st.ev x) (st.ev y) K else
        if hint d = 14 then t = t' ∧ iapq P st t (st.ev x) (st.ev y) (some d) K else
        if hint d = 12 then t = t' ∧ iapi P st t (st.ev x) (st.ev y) (some d) K else
        if hint d = 7 then t = t' ∧ icpy P st d t (st.ev x) (st.ev y) K else
        if hint d = 6 then izer P st d t t' (st.ev x) (st.ev y) K else
        t = t' ∧ if hint d = 2 then iappB P st d t (st.ev x) (st.ev y) K else
        match iapp P st d t (st.ev x) (st.ev y) with
        | some (r, xs') => K (({ st with x := xs' } : St).put (some d) r)
        | none => False
      | _, _, _ => False
    | _ => vK (pop P st o.op) fun v => K (st.put o.dst v)
  | _ => vK (pop P st o.op) fun v => K (st.put o.dst v)

def iops (P : Program) (hint : Nat → Nat) (all : List Oper) : List Oper → St → (St → Prop) → (IExit → St → Prop) → Prop
  | [], st, K, _ => K st
  | o :: rest, st, K, Q =>
    match o.guard with
    | none => iop P hint o st (fun s => iops P hint all rest s K Q) Q
    | some (j, want) =>
      match (all[j]?).bind (·.dst) with
      | some dj =>
        match st.t dj with
        | .bool b => condK b fun t =>
          if t = want then iop P hint o (st.put (some dj) (.bool t)) (fun s => iops P hint all rest s K Q) Q
          else iops P hint all rest ((st.put (some dj) (.bool t)).put o.dst (.tup [])) K Q
        | .tup [] => iops P hint all rest (st.put o.dst (.tup [])) K Q
        | _ => False
      | none => False

def ExRel (c : Ctx) (ie : IExit) (st : St) (e : Exit) (a : Act) (w : World) : Prop :=
  match ie, e with
  | .normal, .normal => Sim c st a w
  | .exit i, .exit j => i = j ∧ Sim c st a w
  | .ret, .ret => Sim c st a w
  | .panic x, .panic chain => ∃ g v, Core c.P c.N c.w0.heap.size c.ds g st a w ∧ Keep c.F0 c.X0 c.w0 g.F g.X w ∧ chain = [{ v, recovered := false }] ∧ Rep g.F w x v
  | _, _ => False

def RPost (c : Ctx) (Q : IExit → St → Prop) (e : Exit) (a : Act) (w : World) : Prop := ∃ ie st, Q ie st ∧ ExRel c ie st e a w
theorem run_box {P : Program} (w : World) (e : TypeId) (v : Value) : (Instr.box e v).run P w = .ok (.pointer (some ⟨w.heap.size, 0, none⟩)) (w.alloc (.cells v.cells e)) := by
  simp [Instr.box, newVar, newRow, newObj, Sem.run, Sem.run_bind]

theorem run_alloc {P : Program} (w : World) (e : TypeId) (z : Value) (hz : zeT P e = some z) : (Instr.alloc e true (.tuple #[])).run P w = .ok (.pointer (some ⟨w.heap.size, 0, none⟩)) (w.alloc (.cells z.cells e)) := by
  cases hi : P.info? e with
  | none => simp [zeT, hi] at hz
  | some i =>
    have hz' : i.zero = some z := by simpa [zeT, hi] using hz
    simp [Instr.alloc, zeroValue, typeInfo, hi, hz', newVar, newRow, newObj, Sem.run, Sem.run_bind]

theorem fill_seq (z : Nat) : ∀ (vs : List Value) (k : Nat) (cells : Array Value), (∀ v ∈ vs, v.cells.size = z) → (k + vs.length) * z = cells.size →
    ∃ res, Instr.fill (fun i => some (i * z, z)) cells ((vs.zipIdx k).map fun p => (p.2, p.1)) = some res ∧ res.toList = cells.toList.take (k * z) ++ (vs.map fun v => v.cells.toList).flatten
  | [], k, cells, _, hs => ⟨cells, rfl, by simp at hs ⊢; exact (List.take_of_length_le (by simp; omega)).symm⟩
  | v :: vs, k, cells, hv, hs => by
    have hvz : v.cells.size = z := hv v (List.mem_cons_self)
    have hs' : (k + 1 + vs.length) * z = cells.size := by rw [← hs]; congr 1; simp; omega
    have hle : (k + 1) * z ≤ cells.size := by rw [← hs']; exact Nat.mul_le_mul_right _ (by omega)
    have hk : (k + 1) * z = k * z + z := by rw [Nat.add_mul]; omega
    have hset := sets_toList v.cells.toList (k * z) 0 cells (by simp [hvz]; omega)
    have hsz : (v.cells.zipIdx.foldl (fun cs (c, j) => cs.setIfInBounds (k * z + j) c) cells).toList = cells.toList.take (k * z) ++ v.cells.toList ++ cells.toList.drop (k * z + z) := by
      rw [← Array.foldl_toList, Array.toList_zipIdx]
      simpa [hvz] using hset
    obtain ⟨res, h1, h2⟩ := fill_seq z vs (k + 1) (v.cells.zipIdx.foldl (fun cs (c, j) => cs.setIfInBounds (k * z + j) c) cells) (fun u hu => hv u (List.mem_cons_of_mem _ hu)) (by
      rw [hs', ← Array.length_toList, ← Array.length_toList, hsz]; simp [hvz]; omega)
    refine ⟨res, ?_, ?_⟩
    · simp only [List.zipIdx_cons, List.map_cons, Instr.fill]
      rw [if_neg (by simp [hvz]; omega)]
      exact h1
    · rw [h2, hsz, hk]
      have h3 : (cells.toList.take (k * z) ++ v.cells.toList).length = k * z + z := by simp [hvz]; omega
      rw [← h3, List.take_left]
      simp

theorem run_buildSlice {P : Program} (w : World) {t e : TypeId} {z len : Nat} (he : elT P t = some e) (hz : elZ P e = some z) (vs : List Value) (hlen : vs.length = len) (hroom : len * z ≤ 16777216)
    (hv : ∀ v ∈ vs, v.cells.size = z) (parts : Array (Nat × Value)) (hp : parts.toList = (vs.zipIdx 0).map fun p => (p.2, p.1)) :
    (Instr.buildSlice t len parts).run P w = .ok (.slice (some ⟨w.heap.size, 0, none⟩) len len) (w.alloc (.cells ((vs.map fun v => v.cells.toList).flatten).toArray e)) := by
  have ht := elT_eq he
  obtain ⟨hz1, hz0, zv, hzv, hzs⟩ := elZ_eq hz
  obtain ⟨i, hi, hsz⟩ := szT_eq hz1
  have hzero : i.zero = some zv := by simpa [zeT, hi] using hzv
  have hsz0 : (sizeOf e).run P w = .ok z w := szT_run w hz1
  by_cases h0 : len = 0
  · subst h0
    have hvs : vs = [] := List.eq_nil_of_length_eq_zero hlen
    subst hvs
    simp only [List.zipIdx_nil, List.map_nil] at hp
    have hpe : parts = #[] := by cases parts; simp at hp; subst hp; rfl
    subst hpe
    simp [Instr.buildSlice, Sem.run_bind, run_underlying ht, hsz0, Instr.fill, newRow, newObj, Sem.run]
    have e0 : ∀ f : Nat → Value, (Array.range 0).map f = #[] := fun f => by apply Array.ext'; simp
    rw [e0]
  · have hne : ¬ len * z = 0 := by rw [Nat.mul_eq_zero]; omega
    have hnr : ¬ (16777216 < len * z) := by omega
    obtain ⟨res, h1, h2⟩ := fill_seq z vs 0 ((Array.range (len * z)).map (fun j => zv.cells[j % zv.cells.size]!)) hv (by simp [hlen])
    simp only [Nat.zero_mul, List.take_zero, List.nil_append] at h2
    have hres : res = ((vs.map fun v => v.cells.toList).flatten).toArray := by rw [← h2]
    rw [← hp] at h1
    subst hres
    simp [Instr.buildSlice, Sem.run_bind, run_underlying ht, hsz0, hne, hnr, zeroValue, typeInfo, hi, hzero, h1, newRow, newObj, Sem.run]

theorem Calls.mono' {P : Program} {f : FuncId} {args : Array Value} {w : World} {R R' : Ending → World → Prop} (h : Calls P f args w R) (hr : ∀ e w', R e w' → R' e w') : Calls P f args w R' := h.mono hr

/-- behind a call -/
theorem Sim.called {c : Ctx} {st a w} {g : Gh} (h : Core c.P c.N c.w0.heap.size c.ds g st a w) (hk : Keep c.F0 c.X0 c.w0 g.F g.X w) {F' X' h' w'} (hh : HRel F' X' h' w') (hk' : Keep g.F g.X w F' X' w') :
    Core c.P c.N c.w0.heap.size c.ds { g with F := F', X := X' } { st with h := h' } a w' ∧ Keep c.F0 c.X0 c.w0 F' X' w' := by
  have hB := hk.sz
  refine ⟨?_, hk.trans hk'⟩
  have hle : GLe g st w { g with F := F', X := X' } { st with h := h' } w' :=
    ⟨⟨hk'.fm, hk'.fc⟩, fun s gg cs1 hs => ⟨gg, cs1, hs, .inr ⟨rfl, rfl⟩⟩, fun s gg n e hs => ⟨gg, n, e, hs, .inr ⟨rfl, .inl ⟨rfl, rfl⟩⟩⟩⟩
  have hXo : ∀ b, b < w.heap.size → ¬ g.X b → ¬ X' b := fun b hb hx hx' => (hk'.xn b hx').elim hx (fun h => by omega)
  refine ⟨h.size, h.defers, fun t ht => (h.tm t ht).mono hle, hh.hp, hh.xf, hh.xb, hh.fb, ?_, h.ld, ?_, h.rds⟩
  · intro s gg cs1 hs
    have hs0 : st.m s = some (gg, cs1) := hs
    obtain ⟨_, hx, hf, _⟩ := h.lc s gg cs1 hs0
    have hlt := h.lb_lt hs0
    exact h.lc_keep hle hs0 rfl (hXo _ hlt hx) (fun o hf' => (hk'.fn _ _ hf').elim (hf o) (fun e => e.elim (fun e => by omega) hx)) (hk'.ub _ hlt hx)
  · intro s gg n e1 hs
    obtain ⟨z, xs, h1, h2, h3, h4⟩ := h.rws s gg n e1 hs
    refine ⟨z, xs, h1, h2, ownsRow_same h3 (fun blk hb => hk'.ub _ (ownsRow_lt h3 hb).2 (h4 blk hb).1), fun blk hb => ?_⟩
    obtain ⟨h5, h6, h7⟩ := h4 blk hb
    have hlt := (ownsRow_lt h3 hb).2
    exact ⟨hXo _ hlt h5, fun o hf' => (hk'.fn _ _ hf').elim (h6 o) (fun e => e.elim (fun e => by omega) (fun e => absurd e h5)), h7⟩

theorem calleeOf_rep {P N B ds g st a w} (h : Core P N B ds g st a w) {f : Operand} (hf : opLt N f = true) {fid : FuncId} {first cap : List IV} (hc : calleeOf st f = some (fid, first, cap)) :
    ∃ v1 v2 : Array Value, a.eval f = .func (.func fid) v1 v2 ∧ RepAll g.F w first v1.toList ∧ RepAll g.F w cap v2.toList := by
  have hv := h.ev hf
  unfold calleeOf at hc
  split at hc
  · rename_i fid' f1 c1 he
    cases hc
    rw [he] at hv
    obtain ⟨v1, v2, h1, h2, h3⟩ := hv
    exact ⟨v1, v2, h1, h2, h3⟩
  · cases hc

theorem enters_run {P : Program} {f : FuncId} (he : Enters P f) (args : Array Value) (w : World) : (callFunc f args).run P w = .ok (.enter f args) w := by
  obtain ⟨fn, h1, h2, h3⟩ := he
  have h2' : ¬ fn.name = "runtime.NumGoroutine" := by simpa using h2
  have h3' : ¬ fn.body = none := by intro e; rw [e] at h3; cases h3
  simp [callFunc, Sem.run_bind, program, Sem.run, h1, h2', h3']
/-- the temporaries of an operation lie in the frame -/
def okOper (N : Nat) (o : Oper) : Bool := ltOp N o.op && (match o.dst with | some d => decide (d < N) | none => true)

theorem Sim.opv {c : Ctx} {st a w} (h : Sim c st a w) {x : Operand} (hx : opLt c.N x = true) : ∀ g, Core c.P c.N c.w0.heap.size c.ds g st a w → LRep g st w (st.ev x) (a.eval x) := fun _ hg => hg.ev hx

theorem upon_value {P : Program} {o : Oper} {a : Act} {next : Act → World → Prop} {Q : Exit → Act → World → Prop} {w w' : World} {v : Value} (hr : (execOp a.eval o).run P w = .ok (.value v) w') (h : next (a.put o.dst v) w') : o.wp P a w next Q := by
  unfold Oper.wp; rw [hr]; exact h
theorem upon_skip {P : Program} {o : Oper} {a : Act} {next : Act → World → Prop} {Q : Exit → Act → World → Prop} {w w' : World} (hr : (execOp a.eval o).run P w = .ok .skip w') (h : next (a.put o.dst undef) w') : o.wp P a w next Q := by
  unfold Oper.wp; rw [hr]; exact h

theorem pop_wp {c : Ctx} {o : Oper} {st : St} {a : Act} {w : World} {K : St → Prop} {Nx : Act → World → Prop} {Q' : Exit → Act → World → Prop} (hs : Sim c st a w) (hlt : okOper c.N o = true)
    (h : vK (pop c.P st o.op) fun v => K (st.put o.dst v)) (hK : ∀ st a w, Sim c st a w → K st → Nx a w) : o.wp c.P a w Nx Q' := by
  unfold vK at h
  split at h
  · rename_i x hx
    obtain ⟨g, hg, hk⟩ := hs
    obtain ⟨v, hr, hv⟩ := pop_sound hg o (by simp only [okOper, Bool.and_eq_true] at hlt; exact hlt.1) hx
    exact upon_value hr (hK _ _ _ ⟨g, hg.put o.dst hv, hk⟩ h)
  · exact h.elim

theorem zipIdx_map_range {α β : Type} (l : List (Nat × α)) (f : α → β) (h : l.map (·.1) = List.range l.length) : l.map (fun p => (p.1, f p.2)) = ((l.map fun p => f p.2).zipIdx 0).map fun p => (p.2, p.1) := by
  apply List.ext_getElem?
  intro i
  simp only [List.getElem?_map, List.getElem?_zipIdx, Option.map_map]
  cases hi : l[i]? with
  | none => simp
  | some p =>
    have hlt := (List.getElem?_eq_some_iff.1 hi).1
    have h1 : (l.map (·.1))[i]? = some p.1 := by simp [hi]
    rw [h, List.getElem?_range hlt] at h1
    simp only [Option.some.injEq] at h1
    simp [← h1]

theorem idxOk_map : ∀ (l : List (Nat × Operand)) (k : Nat), idxOk k l = true → l.map (·.1) = List.range' k l.length
  | [], _, _ => rfl
  | (i, x) :: r, k, h => by
    simp only [idxOk, Bool.and_eq_true, beq_iff_eq] at h
    simp [h.1, idxOk_map r (k + 1) h.2, List.range'_succ]

theorem imv_wp {c : Ctx} {hint : Nat → Nat} {o : Oper} {st : St} {a : Act} {w : World} {K : St → Prop} {Nx : Act → World → Prop} {Q' : Exit → Act → World → Prop} (hs : Sim c st a w) (dst : Option Tmp) {x : IV} {v : Value}
    (hx : ∀ g, Core c.P c.N c.w0.heap.size c.ds g st a w → LRep g st w x v) (hr : (execOp a.eval o).run c.P w = .ok (.value v) w) (h : imv hint o.dst st x K) (hK : ∀ st a w, Sim c st a w → K st → Nx a w) : o.wp c.P a w Nx Q' := by
  unfold imv at h
  split at h
  · unfold imf at h
    split at h
    · rename_i ob
      have hv : v = .pointer (some ⟨ob, 0, none⟩) := by obtain ⟨g, hg, _⟩ := hs; exact hx g hg
      split at h
      · rename_i cs ho
        split at h
        · rename_i z b off n cap hc
          split at h
          · rename_i e z' rows tot hb
            obtain ⟨⟨rfl, hn⟩, h⟩ := h
            exact upon_value hr (hK _ _ _ (hs.frzCell o.dst ho hc hb hn hv) h)
          · exact h.elim
        · exact upon_value hr (hK _ _ _ (hs.put o.dst hx) h)
        · exact h.elim
      · exact h.elim
    · exact h.elim
  split at h
  · exact upon_value hr (hK _ _ _ (hs.put o.dst hx) h)
  · split at h
    · rename_i z b off n cap
      split at h
      · rename_i e z' rows tot hb
        obtain ⟨⟨rfl, hn⟩, h⟩ := h
        have hv : v = .slice (some ⟨b, off * z, none⟩) n cap ∧ n ≤ cap ∧ cap ≤ maxLen := by obtain ⟨g, hg, _⟩ := hs; exact hx g hg
        exact upon_value hr (hK _ _ _ (hs.freeze o.dst hb hn hv) h)
      · exact h.elim
    · exact upon_value hr (hK _ _ _ (hs.put o.dst hx) h)

theorem methT_run {P : Program} {w : World} {t : TypeId} {name : String} {f : FuncId} (h : methT P t name = some f) (u : Value) (n : Nat) : (method (n + 1) t u name).run P w = .ok (f, u) w := by
  unfold methT at h
  split at h
  · rename_i i d hi hu
    split at h
    · rename_i m hm
      split at h
      · rename_i hp
        have hp' : m.path.toList = [] := by simpa using hp
        have hpe : m.path.isEmpty = true := hp
        split at h
        · rename_i f' pr hf
          split at h
          · rename_i hpr
            cases h
            cases d <;> simp only [isPtrT] at hpr <;> subst hpr <;> simp [method, Sem.run_bind, typeInfo, hi, hm, hp', follow, hf, receiverAt, run_underlying hu, Place.get]
          · cases h
        · cases h
      · cases h
    · cases h
  · cases h

theorem invoke_run {P : Program} {w : World} {t : TypeId} {name : String} {f : FuncId} (hm : methT P t name = some f) (he : Enters P f) (u : Value) (args : Array Value) :
    (invoke (.fn (.method name) #[]) (#[.iface t u] ++ args)).run P w = .ok (.enter f (#[u] ++ args)) w := by
  have h0 : (#[Value.iface t u] ++ args)[0]? = some (Value.iface t u) := by
    rw [Array.getElem?_append_left (by simp)]; rfl
  have hex : (#[Value.iface t u] ++ args).extract 1 (#[Value.iface t u] ++ args).size = args := by
    apply Array.ext'; simp only [Array.toList_extract, Array.toList_append, List.extract]; simp
    exact List.take_of_length_le (by simp)
  have hmeth := methT_run (w := w) hm u (P.types.size + 99)
  have hen := enters_run he (#[u] ++ args) w
  have hp : (program).run P w = .ok P w := rfl
  have hc : (callMethod (.iface t u) name args).run P w = .ok (.enter f (#[u] ++ args)) w := by
    unfold callMethod
    simp only [Sem.run_bind, hp, Result.andThen_ok]
    rw [show P.types.size + Made.depth = P.types.size + 99 + 1 from rfl, hmeth]
    exact hen
  unfold invoke
  rw [h0, hex]
  exact hc

theorem iop_sound {c : Ctx} {hint : Nat → Nat} {o : Oper} {st : St} {a : Act} {w : World} {K : St → Prop} {Q : IExit → St → Prop} {Nx : Act → World → Prop} {Q' : Exit → Act → World → Prop}
    (hs : Sim c st a w) (hlt : okOper c.N o = true) (h : iop c.P hint o st K Q) (hK : ∀ st a w, Sim c st a w → K st → Nx a w) (hQ : ∀ ie st e a w, Q ie st → ExRel c ie st e a w → Q' e a w) :
    o.wp c.P a w Nx Q' := by
  have hs1 := hs
  have hsave0 := hs
  obtain ⟨dst, op, ty, pos, after, guard⟩ := o
  have hlt0 : okOper c.N ⟨dst, op, ty, pos, after, guard⟩ = true := hlt
  unfold okOper at hlt
  simp only [Bool.and_eq_true] at hlt
  replace hlt := hlt.1
  cases op
  case move x =>
    simp [ltOp, Op.operands] at hlt
    simp only [iop] at h
    exact imv_wp hs dst (hs.opv hlt) (by simp [execOp]) h hK
  case assign x =>
    simp [ltOp, Op.operands] at hlt
    simp only [iop] at h
    exact imv_wp hs dst (hs.opv hlt) (by simp [execOp]) h hK
  case binOp op t x y t2 =>
    simp only [iop] at h
    split at h
    · rename_i rows hnil
      simp [ltOp, Op.operands] at hlt
      have hx := hs.opv hlt.1
      obtain ⟨hop, hy, e, he, hxe⟩ : (op = .eql ∨ op = .neq) ∧ y = .const (.slice none 0 0) ∧ ∃ e, elT c.P t = some e ∧ ((∃ tk, st.ev x = .list tk rows) ∨ ∃ z b o n q, st.ev x = .sl z b o n q) := by
        unfold nilSl at hnil
        split at hnil
        · split at hnil
          · rename_i e he; cases hnil; exact ⟨.inl rfl, rfl, e, he, .inl ⟨_, by assumption⟩⟩
          · cases hnil
        · split at hnil
          · rename_i e he; cases hnil; exact ⟨.inr rfl, rfl, e, he, .inl ⟨_, by assumption⟩⟩
          · cases hnil
        · split at hnil
          · rename_i e he; exact ⟨.inl rfl, rfl, e, he, .inr ⟨_, _, _, _, _, by assumption⟩⟩
          · cases hnil
        · split at hnil
          · rename_i e he; exact ⟨.inr rfl, rfl, e, he, .inr ⟨_, _, _, _, _, by assumption⟩⟩
          · cases hnil
        · cases hnil
      have ht := elT_eq he
      obtain ⟨g, hg, hk⟩ := hs
      obtain ⟨A, len, cap, h1, hr⟩ : ∃ A len cap, a.eval x = .slice A len cap ∧ (A.isNone = true → rows = []) := by
        rcases hxe with ⟨tk, hxe⟩ | ⟨z, b, o, n, q, hxe⟩
        · rw [hxe] at hx
          obtain ⟨A, cap, vals, h1, hcap, _, _, hA⟩ := (hx g hg).listOf
          refine ⟨A, _, cap, h1, fun h2 => ?_⟩
          cases A with
          | none => simp only at hA; exact List.eq_nil_of_length_eq_zero (by omega)
          | some a => cases h2
        · rw [hxe] at hx
          obtain ⟨h1, _, _⟩ := hx g hg
          exact ⟨_, _, _, h1, fun h2 => by cases h2⟩
      subst hy
      have hy : a.eval (.const (.slice none 0 0)) = .slice none 0 0 := rfl
      have heq : (Op.equal t (.slice A len cap) (.slice none 0 0)).run c.P w = .ok A.isNone w := equal_of fun d => by cases A <;> simp [Op.equalIn, run_underlying ht]
      have hrun : (execOp a.eval ⟨dst, .binOp op t x (.const (.slice none 0 0)) t2, ty, pos, after, guard⟩).run c.P w = .ok (.value (.bool (if op = .eql then A.isNone else !A.isNone))) w := by
        rcases hop with rfl | rfl <;> simp [execOp, Sem.run_bind, h1, hy, eqGuard, binOp, heq]
      exact upon_value hrun (hK _ _ _ ⟨g, hg.put dst (Rep.lrep (x := .bool (if op = .eql then A.isNone else !A.isNone)) rfl), hk⟩ (h A.isNone hr))
    · exact pop_wp hs hlt0 h hK
  case box e x =>
    simp [ltOp, Op.operands] at hlt
    simp only [iop] at h
    cases dst with
    | none => exact h.elim
    | some d =>
      simp only at h
      have hv := hs.opv hlt
      have hr : (execOp a.eval ⟨some d, .box e x, ty, pos, after, guard⟩).run c.P w = .ok (.value (.pointer (some ⟨w.heap.size, 0, none⟩))) (w.alloc (.cells (a.eval x).cells e)) := by
        simp [execOp, Sem.run_bind, run_box]
      by_cases hh : hint d = 1
      · rw [if_pos hh] at h
        obtain ⟨hok, h⟩ := h
        have hone : ∀ u ∈ (a.eval x).cells.toList, u.oneCell' = true := by
          obtain ⟨g, hg, _⟩ := hs
          exact (okV_one (hv g hg).stripT hok).2
        obtain ⟨b, hb, hsim⟩ := hs.newObj (some d) (icells (stripT (st.ev x))) (a.eval x).cells.toList e (fun g hg => (okV_one (hv g hg).stripT hok).1) hone
        exact upon_value hr (hK _ _ _ (by simpa using hsim) (h b hb))
      · rw [if_neg hh] at h
        obtain ⟨hok, h⟩ := h
        have hone : ∀ u ∈ (a.eval x).cells.toList, u.oneCell' = true := by
          obtain ⟨g, hg, _⟩ := hs
          exact (okL_one hg (hv g hg) hok).2
        have hsim := hs.newLoc d (icells (st.ev x)) (a.eval x).cells.toList e (fun g hg => (okL_one hg (hv g hg) hok).1) hone
        exact upon_value hr (hK _ _ _ (by simpa using hsim) h)
  case alloc e =>
    simp only [iop] at h
    split at h
    · rename_i d z hz
      obtain ⟨hone, h⟩ := h
      simp only [List.all_eq_true] at hone
      have hr : (execOp a.eval ⟨some d, .alloc e, ty, pos, after, guard⟩).run c.P w = .ok (.value (.pointer (some ⟨w.heap.size, 0, none⟩))) (w.alloc (.cells z.cells e)) := by
        simp [execOp, Sem.run_bind, run_alloc w e z hz]
      have hcv : ∀ F : Nat → Nat → Prop, RepAll F w (z.cells.toList.map cv) z.cells.toList := fun F => by simpa using RepAll_map (F := F) (w := w) cv id z.cells.toList (fun u _ => cv_rep _ _ u)
      by_cases hh : hint d = 1
      · rw [if_pos hh] at h
        obtain ⟨b, hb, hsim⟩ := hs.newObj (some d) (z.cells.toList.map cv) z.cells.toList e (fun g _ => hcv g.F) hone
        exact upon_value hr (hK _ _ _ (by simpa using hsim) (h b hb))
      · rw [if_neg hh] at h
        have hsim := hs.newLoc d (z.cells.toList.map cv) z.cells.toList e (fun g _ => (hcv g.F).lrep) hone
        exact upon_value hr (hK _ _ _ (by simpa using hsim) h)
    · exact h.elim
  case buildSlice t len parts =>
    simp only [ltOp, Op.operands, Array.all_eq_true_iff_forall_mem] at hlt
    simp only [iop] at h
    by_cases h17 : dst.any (hint · = 17) = true
    · rw [if_pos h17] at h
      split at h
      · rename_i e he
        split at h
        · rename_i z hz
          obtain ⟨⟨hlen, hroom, hidx, hok, hu⟩, h⟩ := h
          have hmem : ∀ p ∈ parts.toList, opLt c.N p.2 = true := fun p hp => hlt p.2 (by simpa using ⟨p.1, Array.mem_toList_iff.1 hp⟩)
          simp only [List.all_eq_true] at hok
          have hpl : parts.toList.length = len := by simp [hlen]
          obtain ⟨g, hg, hk⟩ := hs
          have hrep : ∀ p ∈ parts.toList, RepAll g.F w (icells (strip (st.ev p.2))) (a.eval p.2).cells.toList ∧ ∀ u ∈ (a.eval p.2).cells.toList, u.oneCell' = true := fun p hp => okV_one (hg.ev (hmem p hp)).strip (hok p hp)
          have hvz : ∀ v ∈ parts.toList.map (fun p => a.eval p.2), v.cells.size = z := by
            intro v hv
            obtain ⟨p, hp, rfl⟩ := List.mem_map.1 hv
            have h1 := (hrep p hp).1.length
            have hu2 := hu
            simp only [uni, List.all_eq_true, List.mem_map] at hu2
            have h2 := hu2 (icells (strip (st.ev p.2))) ⟨p, hp, rfl⟩
            simp only [beq_iff_eq] at h2
            simp only [Array.length_toList] at h1
            omega
          have hpz := zipIdx_map_range parts.toList a.eval (by rw [idxOk_map _ _ hidx, List.range_eq_range'])
          have hr := run_buildSlice (P := c.P) w he hz (parts.toList.map fun p => a.eval p.2) (by simpa using hpl) hroom hvz (parts.map fun (i, x) => (i, a.eval x)) (by simpa using hpz)
          have hlist : (parts.toList.map fun p => icells (strip (st.ev p.2))).length = len := by simpa using hpl
          obtain ⟨_, h0, _⟩ := elZ_eq hz
          have hflat : ∀ l : List (Nat × Operand), (∀ p ∈ l, p ∈ parts.toList) → RepAll g.F w (l.map fun p => icells (strip (st.ev p.2))).flatten (l.map fun p => (a.eval p.2).cells.toList).flatten := by
            intro l
            induction l with
            | nil => intro _; rfl
            | cons p l ih => intro hl; simp only [List.map_cons, List.flatten_cons]; exact (hrep p (hl p List.mem_cons_self)).1.append (ih fun q hq => hl q (List.mem_cons_of_mem _ hq))
          have hfl := hflat _ fun _ h => h
          have hfll := hfl.length
          rw [uni_flat_all hu, hlist] at hfll
          obtain ⟨b, hb, hsim⟩ := Sim.newArr hg hk dst e z h0 (parts.toList.map fun p => icells (strip (st.ev p.2))) hu len (by rw [hlist]; exact Nat.le_refl _) (by simp only [maxLen]; have := Nat.le_mul_of_pos_right len h0; omega) _ [] hfl (fun u hu => by
            obtain ⟨l, hl, hul⟩ := List.mem_flatten.1 hu
            obtain ⟨p, hp, rfl⟩ := List.mem_map.1 hl
            exact (hrep p hp).2 u hul) (by rw [List.append_nil]; exact hfll)
          rw [hlist, List.append_nil] at hsim
          refine upon_value ?_ (hK _ _ _ hsim (h b hb))
          simp only [List.map_map, Function.comp_def] at hr
          simp [execOp, Sem.run_bind, hr]
        · exact h.elim
      · exact h.elim
    rw [if_neg h17] at h
    split at h
    · rename_i z hz
      obtain ⟨e, he, hz⟩ := Option.bind_eq_some_iff.1 hz
      obtain ⟨hlen, hroom, hidx, hok, hu, h⟩ := h
      have hmem : ∀ p ∈ parts.toList, opLt c.N p.2 = true := fun p hp => hlt p.2 (by simpa using ⟨p.1, Array.mem_toList_iff.1 hp⟩)
      simp only [List.all_eq_true] at hok
      have hpl : parts.toList.length = len := by simp [hlen]
      obtain ⟨g, hg, hk⟩ := hs
      have hrep : ∀ p ∈ parts.toList, RepAll g.F w (icells (strip (st.ev p.2))) (a.eval p.2).cells.toList ∧ ∀ u ∈ (a.eval p.2).cells.toList, u.oneCell' = true := fun p hp => okV_one (hg.ev (hmem p hp)).strip (hok p hp)
      have hvz : ∀ v ∈ parts.toList.map (fun p => a.eval p.2), v.cells.size = z := by
        intro v hv
        obtain ⟨p, hp, rfl⟩ := List.mem_map.1 hv
        have h1 := (hrep p hp).1.length
        simp only [uni, List.all_eq_true, List.mem_map] at hu
        have h2 := hu (icells (strip (st.ev p.2))) ⟨p, hp, rfl⟩
        simp only [beq_iff_eq] at h2
        simp only [Array.length_toList] at h1
        omega
      have hpz := zipIdx_map_range parts.toList a.eval (by rw [idxOk_map _ _ hidx, List.range_eq_range'])
      have hr := run_buildSlice (P := c.P) w he hz (parts.toList.map fun p => a.eval p.2) (by simpa using hpl) hroom hvz (parts.map fun (i, x) => (i, a.eval x)) (by simpa using hpz)
      have hlist : (parts.toList.map fun p => icells (strip (st.ev p.2))).length = len := by simpa using hpl
      have hflat : ∀ l : List (Nat × Operand), (∀ p ∈ l, p ∈ parts.toList) → RepAll g.F w (l.map fun p => icells (strip (st.ev p.2))).flatten (l.map fun p => (a.eval p.2).cells.toList).flatten := by
        intro l
        induction l with
        | nil => intro _; rfl
        | cons p l ih => intro hl; simp only [List.map_cons, List.flatten_cons]; exact (hrep p (hl p List.mem_cons_self)).1.append (ih fun q hq => hl q (List.mem_cons_of_mem _ hq))
      have hsim := Sim.newRow (c := c) ⟨g, hg, hk⟩ dst (parts.toList.map fun p => icells (strip (st.ev p.2))) ((parts.toList.map fun p => (a.eval p.2).cells.toList).flatten) e (by rw [hlist]; simp only [maxLen]; obtain ⟨_, h0, _⟩ := elZ_eq hz; have := Nat.le_mul_of_pos_right len h0; omega)
        (fun g' hg' => by
          have hrep' : ∀ p ∈ parts.toList, RepAll g'.F w (icells (strip (st.ev p.2))) (a.eval p.2).cells.toList := fun p hp => (okV_one (hg'.ev (hmem p hp)).strip (hok p hp)).1
          have : ∀ l : List (Nat × Operand), (∀ p ∈ l, p ∈ parts.toList) → RepAll g'.F w (l.map fun p => icells (strip (st.ev p.2))).flatten (l.map fun p => (a.eval p.2).cells.toList).flatten := by
            intro l
            induction l with
            | nil => intro _; rfl
            | cons p l ih => intro hl; simp only [List.map_cons, List.flatten_cons]; exact (hrep' p (hl p List.mem_cons_self)).append (ih fun q hq => hl q (List.mem_cons_of_mem _ hq))
          exact this _ fun _ h => h)
        (fun u hu => by
          obtain ⟨l, hl, hul⟩ := List.mem_flatten.1 hu
          obtain ⟨p, hp, rfl⟩ := List.mem_map.1 hl
          exact (hrep p hp).2 u hul)
      rw [hlist] at hsim
      refine upon_value ?_ (hK _ _ _ hsim h)
      simp only [List.map_map, Function.comp_def] at hr
      simp [execOp, Sem.run_bind, hr]
    · exact h.elim
  case store t x y =>
    simp [ltOp, Op.operands] at hlt
    simp only [iop] at h
    have hx := hs.opv hlt.1
    have hy := hs.opv hlt.2
    split at h
    · rename_i z s gg off hz he
      rw [he] at hx
      split at h
      · rename_i g' cs hm
        obtain ⟨rfl, hok, hlen, hfit, h⟩ := h
        have hone : ∀ u ∈ (a.eval y).cells.toList, u.oneCell' = true := by
          obtain ⟨g, hg, _⟩ := hs
          exact (okL_one hg (hy g hg) hok).2
        have hsz : (a.eval y).cells.size = z := by
          obtain ⟨g, hg, _⟩ := hs
          have := (okL_one hg (hy g hg) hok).1.length
          simp only [Array.length_toList] at this
          omega
        obtain ⟨blk, w', h1, h2, h3⟩ := hs.storeLoc (vs := icells (st.ev y)) (zs := (a.eval y).cells.toList) (o := off) hm (by omega) (fun g hg => (okL_one hg (hy g hg) hok).1) hone dst hx
        refine upon_skip ?_ (hK _ _ _ h3 h)
        simp [execOp, Sem.run_bind, Instr.storeAt, h1, Instr.sureAddr, storeVar, szT_run w hz, hsz, h2]
      · exact h.elim
    · rename_i z b off hz he
      rw [he] at hx
      split at h
      · rename_i cs hm
        obtain ⟨hok, hlen, hfit, h⟩ := h
        have hone : ∀ u ∈ (a.eval y).cells.toList, u.oneCell' = true := by
          obtain ⟨g, hg, _⟩ := hs
          exact (okV_one (hy g hg).stripT hok).2
        have hsz : (a.eval y).cells.size = z := by
          obtain ⟨g, hg, _⟩ := hs
          have := (okV_one (hy g hg).stripT hok).1.length
          simp only [Array.length_toList] at this
          omega
        have h1 : a.eval x = .pointer (some ⟨b, off, none⟩) := by obtain ⟨g, hg, _⟩ := hs; exact hx g hg
        obtain ⟨w', h2, h3⟩ := hs.storePtr (vs := icells (stripT (st.ev y))) (zs := (a.eval y).cells.toList) (o := off) hm (by omega) (fun g hg => (okV_one (hy g hg).stripT hok).1) hone dst
        refine upon_skip ?_ (hK _ _ _ h3 h)
        simp [execOp, Sem.run_bind, Instr.storeAt, h1, Instr.sureAddr, storeVar, szT_run w hz, hsz, h2]
      · exact h.elim
    · rename_i z z' b i off hz he
      rw [he] at hx
      split at h
      · rename_i e zz rows tot hm
        split at h
        · rename_i r hri
          obtain ⟨rfl, hok, hlen, hfit, h⟩ := h
          have hone : ∀ u ∈ (a.eval y).cells.toList, u.oneCell' = true := by
            obtain ⟨g, hg, _⟩ := hs
            exact (okV_one (hy g hg).strip hok).2
          have hsz : (a.eval y).cells.size = z := by
            obtain ⟨g, hg, _⟩ := hs
            have := (okV_one (hy g hg).strip hok).1.length
            simp only [Array.length_toList] at this
            omega
          have h1 : a.eval x = .pointer (some ⟨b, i * z' + off, none⟩) := by obtain ⟨g, hg, _⟩ := hs; exact hx g hg
          obtain ⟨w', h2, h3⟩ := hs.storeArr (vs := icells (strip (st.ev y))) (zs := (a.eval y).cells.toList) (o := off) hm hri (by omega) (fun g hg => (okV_one (hy g hg).strip hok).1) hone dst
          refine upon_skip ?_ (hK _ _ _ h3 h)
          simp [execOp, Sem.run_bind, Instr.storeAt, h1, Instr.sureAddr, storeVar, szT_run w hz, hsz, h2]
        · exact h.elim
      · exact h.elim
    · exact h.elim
  case makeMap t r =>
    cases r with
    | some r => exact pop_wp hs hlt0 h hK
    | none =>
      simp only [iop] at h
      have hr : (execOp a.eval ⟨dst, .makeMap t none, ty, pos, after, guard⟩).run c.P w = .ok (.value (.map (some w.heap.size))) (w.alloc (.map #[] 0)) := by
        simp [execOp, Sem.run_bind, Instr.makeMap]
      have hsim := hs.newBlk dst (.map []) (.map #[] 0) (.mapv w.heap.size) (.map (some w.heap.size)) (fun _ _ => rfl) (fun g _ => ⟨[], 0, heap_alloc_last w _, rfl, MapKept.stamped_empty 0⟩)
      exact upon_value hr (hK _ _ _ hsim (h _ hs.fresh))
  case range t x =>
    simp [ltOp, Op.operands] at hlt
    simp only [iop, irng] at h
    have hx := hs.opv hlt
    split at h
    · rename_i s ht he
      rw [he] at hx
      have hv : a.eval x = .string s := by obtain ⟨g, hg, _⟩ := hs; exact hx g hg
      have hr : (execOp a.eval ⟨dst, .range t x, ty, pos, after, guard⟩).run c.P w = .ok (.value (.pointer (some ⟨w.heap.size, 0, none⟩))) (w.alloc (.stringIter s 0)) := by
        simp [execOp, Sem.run_bind, hv, run_range_string (P := c.P) w t s ht, World.iter]
      have hsim := hs.newBlk dst (.sit s 0) (.stringIter s 0) (.ptr w.heap.size 0) (.pointer (some ⟨w.heap.size, 0, none⟩)) (fun _ _ => rfl) (fun g _ => heap_alloc_last w _)
      exact upon_value hr (hK _ _ _ hsim (h _ hs.fresh))
    · rename_i kt et m ht he
      rw [he] at hx
      have hv : a.eval x = .map (some m) := by obtain ⟨g, hg, _⟩ := hs; exact hx g hg
      have fin : ∀ (st' : St) (es : List (IV × IV)) (ents : List MapEntry) (clock : Nat), Sim c st' a w → st'.h m = some (.pmap es ents clock) →
          (∀ b, st'.h b = none → K (({ st' with h := upd st'.h b (some (.mit m ents clock es none)) } : St).put dst (.ptr b 0))) → (⟨dst, .range t x, ty, pos, after, guard⟩ : Oper).wp c.P a w Nx Q' := by
        intro st' es ents clock hs' hm' h'
        have hmo : w.heap[m]? = some (.map ents.toArray clock) := by obtain ⟨g, hg, _⟩ := hs'; exact (hg.hp m _ hm').2.1
        have hr : (execOp a.eval ⟨dst, .range t x, ty, pos, after, guard⟩).run c.P w = .ok (.value (.pointer (some ⟨w.heap.size, 0, none⟩))) (w.alloc (.mapIter (some m) clock #[] clock)) := by
          simp [execOp, Sem.run_bind, hv, run_range_map (P := c.P) w t kt et m ents.toArray clock ht hmo]
        have hsim := hs'.newBlk dst (.mit m ents clock es none) (.mapIter (some m) clock #[] clock) (.ptr w.heap.size 0) (.pointer (some ⟨w.heap.size, 0, none⟩)) (fun _ _ => rfl) (fun g hg => ⟨#[], heap_alloc_last w _, by
          have hre := (hg.hp m _ hm').2.2.1
          have : (ents.filter fun e => !(#[] : Array Nat).contains e.born) = ents := by rw [List.filter_eq_self]; intro e _; simp
          rw [this]
          exact RepEnts.mono (FLe.alloc hg.fb _ _ (fun _ _ h => h)) _ _ hre, fun k v hc => by cases hc⟩)
        exact upon_value hr (hK _ _ _ hsim (h' _ hs'.fresh))
      split at h
      · rename_i es hm
        obtain ⟨ents, clock, hmo, hlen, hs'⟩ := hs.pin hm
        exact fin _ es ents clock hs' (by simp [upd]) (fun b hb => h b ents clock (by
          simp only [upd] at hb
          split at hb
          · cases hb
          · exact hb) hlen)
      · rename_i es ents clock hm
        exact fin st es ents clock hs hm h
      · exact h.elim
    · exact h.elim
  case next x str =>
    simp [ltOp, Op.operands] at hlt
    simp only [iop, inxt] at h
    have hx := hs.opv hlt
    split at h
    · rename_i b he
      rw [he] at hx
      have hv : a.eval x = .pointer (some ⟨b, 0, none⟩) := by obtain ⟨g, hg, _⟩ := hs; exact hx g hg
      split at h
      · rename_i s q hb
        have hbo : w.heap[b]? = some (.stringIter s q) := by obtain ⟨g, hg, _⟩ := hs; exact (hg.hp b _ hb).2
        obtain ⟨h1, h2⟩ := h
        by_cases hp : q < s.size
        · have hr : (execOp a.eval ⟨dst, .next x true, ty, pos, after, guard⟩).run c.P w = .ok (.value (.tuple #[.bool true, .int .i64 q, .int .i32 (Utf8.decode s q).1])) { w with heap := w.heap.setIfInBounds b (.stringIter s (q + (Utf8.decode s q).2)) } := by
            simp [execOp, Sem.run_bind, hv, run_next_str (P := c.P) w s b q ty hbo hp]
          have hsim := Sim.setBlk hs hb (io' := .sit s (q + (Utf8.decode s q).2)) (fun X hx => hx) (.stringIter s (q + (Utf8.decode s q).2)) dst (.tup [.bool true, .int .i64 q, .int .i32 (Utf8.decode s q).1]) (.tuple #[.bool true, .int .i64 q, .int .i32 (Utf8.decode s q).1])
            (fun g hg => by
              show ({ w with heap := w.heap.setIfInBounds b (.stringIter s (q + (Utf8.decode s q).2)) } : World).heap[b]? = _
              simp [Array.getElem?_setIfInBounds, (Array.getElem?_eq_some_iff.1 hbo).1])
            (fun g hg => ⟨_, rfl, _, _, rfl, rfl, _, _, rfl, rfl, _, _, rfl, rfl, rfl⟩)
          exact upon_value hr (hK _ _ _ hsim (h1 hp))
        · have hr : (execOp a.eval ⟨dst, .next x true, ty, pos, after, guard⟩).run c.P w = .ok (.value (.tuple #[.bool false])) w := by
            simp [execOp, Sem.run_bind, hv, run_next_strEnd (P := c.P) w s b q ty hbo (by omega)]
          exact upon_value hr (hK _ _ _ (hs.put dst (fun g hg => Rep.lrep (x := .tup [.bool false]) ⟨_, rfl, _, _, rfl, rfl, rfl⟩)) (h2 (by omega)))
      · rename_i m ents clock left cur hb
        split at h
        · rename_i es ents' clock' hm
          obtain ⟨⟨rfl, rfl⟩, h1, h2⟩ := h
          rcases hs.nextMap hb hm ty dst with ⟨h3, h4⟩ | ⟨i, k, v, u, w', h3, h4, h5⟩
          · have hr : (execOp a.eval ⟨dst, .next x false, ty, pos, after, guard⟩).run c.P w = .ok (.value (.tuple #[.bool false])) w := by
              simp [execOp, Sem.run_bind, hv, h4]
            exact upon_value hr (hK _ _ _ (hs.put dst (fun g hg => Rep.lrep (x := .tup [.bool false]) ⟨_, rfl, _, _, rfl, rfl, rfl⟩)) (h1 h3))
          · have hr : (execOp a.eval ⟨dst, .next x false, ty, pos, after, guard⟩).run c.P w = .ok (.value u) w' := by
              simp [execOp, Sem.run_bind, hv, h4]
            exact upon_value hr (hK _ _ _ h5 (h2 i k v h3))
        · exact h.elim
      · exact h.elim
    · exact h.elim
  case entry x =>
    simp [ltOp, Op.operands] at hlt
    simp only [iop, ient] at h
    have hx := hs.opv hlt
    split at h
    · rename_i b he
      rw [he] at hx
      have hv : a.eval x = .pointer (some ⟨b, 0, none⟩) := by obtain ⟨g, hg, _⟩ := hs; exact hx g hg
      split at h
      · rename_i m ents clock left k v hb
        split at h
        · rename_i es ents' clock' hm
          obtain ⟨⟨rfl, rfl⟩, h1⟩ := h
          obtain ⟨u, h4, h5⟩ := hs.entMap hb hm dst
          exact upon_value (by simp [execOp, Sem.run_bind, hv, h4]) (hK _ _ _ h5 h1)
        · exact h.elim
      · exact h.elim
    · exact h.elim
  case convert s t x =>
    simp [ltOp, Op.operands] at hlt
    simp only [iop, icvt] at h
    have hx := hs.opv hlt
    split at h
    · rename_i e v hs1 ht he
      rw [he] at hx
      obtain ⟨⟨h8, hz, hsz⟩, h⟩ := h
      have hv : a.eval x = .string v := by obtain ⟨g, hg, _⟩ := hs; exact hx g hg
      obtain ⟨u, w', h1, h2⟩ := hs.strBytes dst v hs1 ht h8 hsz
      exact upon_value (by simp [execOp, Sem.run_bind, hv, h1]) (hK _ _ _ h2 h)
    · rename_i e z b off n cap hs1 ht he
      rw [he] at hx
      split at h
      · rename_i e1 z' rows tot h8 hb
        obtain ⟨⟨rfl, rfl, hn⟩, h⟩ := h
        split at h
        · rename_i bs hbs
          have hsave := hs
          obtain ⟨g, hg, hk⟩ := hs
          obtain ⟨hv, hncap, hcm⟩ : a.eval x = .slice (some ⟨b, off * 1, none⟩) n cap ∧ n ≤ cap ∧ cap ≤ maxLen := hx g hg
          obtain ⟨hX, pre, post, hheap, hl, huni, htot, _, hone⟩ := hg.hp b _ hb
          have hsub : RepRows g.F w ((rows.take (off + n)).drop off) ((pre.drop (off * 1)).take ((off + n - off) * 1)) := RepRows.sub huni (RepRows.unflat hl) off (off + n) (by omega) hn
          rw [List.drop_take, show off + n - off = n by omega, Nat.mul_one, Nat.mul_one] at hsub
          obtain ⟨ns, h3, h4⟩ := bytesOf_rep hbs hsub
          have hll := hl.length
          rw [uni_flat_all huni, Nat.mul_one] at hll
          have hnl : ns.length = n := by
            have := congrArg List.length h3
            simp only [List.length_take, List.length_drop, List.length_map] at this
            omega
          have hlc := run_loadCells_list (P := c.P) w ⟨b, off * 1, none⟩ (ns.map (Value.int .u8)) (fun j u hj => by
            rw [addr_add, cell_at hheap]
            rw [← h3, List.getElem?_take] at hj
            split at hj
            · rw [List.getElem?_drop] at hj
              have hlt := (List.getElem?_eq_some_iff.1 hj).1
              simp only [List.getElem?_toArray, Nat.mul_one]
              rw [List.getElem?_append_left hlt]; exact hj
            · cases hj)
          simp only [List.length_map, hnl] at hlc
          have hr : (convert s t (a.eval x)).run c.P w = .ok (.string ⟨bs.toArray⟩) w := by
            rw [hv, run_convert_bytes_string (P := c.P) w s t e (some ⟨b, off * 1, none⟩) n cap hs1 h8 ht, run_bytesToString (P := c.P) w ⟨b, off * 1, none⟩ n cap ns hlc, pushes_eq, h4]
            rfl
          exact upon_value (by simp [execOp, Sem.run_bind, hr]) (hK _ _ _ (hsave.put dst (fun g hg => Rep.lrep (x := .str ⟨bs.toArray⟩) rfl)) h)
        · exact h.elim
      · exact h.elim
    · rename_i e e' z b off n cap hs1 ht he
      rw [he] at hx
      split at h
      · rename_i e1 z' rows tot h8 hb
        obtain ⟨⟨rfl, rfl, rfl, hn⟩, h⟩ := h
        have hv : a.eval x = .slice (some ⟨b, off * z, none⟩) n cap ∧ n ≤ cap ∧ cap ≤ maxLen := by obtain ⟨g, hg, _⟩ := hs; exact hx g hg
        obtain ⟨cs, fz, h1, rfl, h2⟩ := hs.frzMark dst hb hn hv
        have hr := run_conv_same (P := c.P) w (b := b) (off := off * z) (n := n) (cap := cap) hs1 h8 h1
        exact upon_value (by simp [execOp, Sem.run_bind, hv.1, hr]) (hK _ _ _ h2 h)
      · exact h.elim
    · exact pop_wp hsave0 hlt0 h hK
  case makeSlice t l m =>
    simp [ltOp, Op.operands] at hlt
    simp only [iop] at h
    unfold imks at h
    split at h
    · rename_i k1 n k2 k hl hm
      split at h
      · rename_i e he
        split at h
        · rename_i z hzz
          obtain ⟨⟨hz, hn, hnk, hkb, hby⟩, h⟩ := h
          have hlv : a.eval l = .int k1 n := by obtain ⟨g, hg, _⟩ := hs; have := hg.ev hlt.1; rw [hl] at this; exact this
          have hmv : a.eval m = .int k2 k := by obtain ⟨g, hg, _⟩ := hs; have := hg.ev hlt.2; rw [hm] at this; exact this
          obtain ⟨N, rfl⟩ := Int.eq_ofNat_of_zero_le hn
          obtain ⟨M, rfl⟩ := Int.eq_ofNat_of_zero_le (Int.le_trans hn hnk)
          simp only [Int.toNat_natCast] at h
          obtain ⟨v, w', hrun, b, hb, hsim⟩ := hs.made dst t e he hz hzz k1 k2 N M (by omega) (by omega) hby
          have hr : (execOp a.eval ⟨dst, .makeSlice t l m, ty, pos, after, guard⟩).run c.P w = .ok (.value v) w' := by
            simp only [execOp, Sem.run_bind, hlv, hmv, hrun, Result.andThen_ok, Sem.run_pure]
          exact upon_value hr (hK _ _ _ hsim (h b hb))
        · exact h.elim
      · exact h.elim
    · exact h.elim
  case mapUpdate t m k v =>
    simp [ltOp, Op.operands] at hlt
    simp only [iop] at h
    split at h
    · rename_i kt et b ht hmb
      split at h
      · rename_i kd es hkd hob
        obtain ⟨hsc, h⟩ := h
        split at h
        · rename_i es' hp
          have hmv : a.eval m = .map (some b) := by obtain ⟨g, hg, _⟩ := hs; have := hg.ev hlt.1; rw [hmb] at this; exact this
          obtain ⟨w', h1, h2⟩ := hs.mapPut hob ht hkd hsc (fun g hg => (hg.ev hlt.2.1).strip) (fun g hg => (hg.ev hlt.2.2).strip) hp dst
          refine upon_skip ?_ (hK _ _ _ h2 h)
          simp [execOp, Sem.run_bind, hmv, h1]
        · exact h.elim
      · exact h.elim
    · exact h.elim
  case panic x =>
    simp [ltOp, Op.operands] at hlt
    simp only [iop] at h
    have hx := hs.opv hlt
    split at h
    · rename_i t y he
      rw [he] at hx
      have hv : ∃ u, a.eval x = .iface t u := by obtain ⟨g, hg, _⟩ := hs; obtain ⟨u, h1, _⟩ := hx g hg; exact ⟨u, h1⟩
      obtain ⟨u, hv⟩ := hv
      unfold Oper.wp
      have hr : (execOp a.eval ⟨dst, .panic x, ty, pos, after, guard⟩).run c.P w = .halt (.panic (.iface t u)) w := by
        simp [execOp, Sem.run_bind, hv, Instr.panic, goPanic, Sem.run]
      rw [hr]
      obtain ⟨g, hg, hk⟩ := hs
      exact hQ _ _ _ _ _ h ⟨g, _, hg, hk, rfl, by have := hx g hg; rw [hv] at this; exact this⟩
    · exact h.elim
  case call cl =>
    obtain ⟨callee, args, argTypes⟩ := cl
    simp only [iop] at h
    have hm : ∀ z, z ∈ args → opLt c.N z = true := by
      intro z hz
      simp only [ltOp, Op.operands, Call.operands, Array.all_eq_true_iff_forall_mem] at hlt
      exact hlt z (by simp [hz])
    cases callee with
    | value f =>
      simp only at h
      have hf : opLt c.N f = true := by
        simp only [ltOp, Op.operands, Call.operands, Array.all_eq_true_iff_forall_mem] at hlt
        exact hlt f (by simp)
      by_cases h13 : dst.any (hint · = 13) = true
      · rw [if_pos h13] at h
        split at h
        · rename_i fid first cap hce
          obtain ⟨v, hE, hK1⟩ := h
          have hs0 := hs
          obtain ⟨g, hg, hk⟩ := hs
          obtain ⟨v1, v2, hev, hr1, hr2⟩ := calleeOf_rep hg hf hce
          have hargs : RepAll g.F w (args.toList.map fun x => strip (st.ev x)) (args.toList.map a.eval) := RepAll_map _ _ _ fun x hx => (hg.ev (hm x (Array.mem_toList_iff.1 hx))).strip
          have hall : RepAll g.F w (first ++ (args.toList.map fun x => strip (st.ev x)) ++ cap) (v1 ++ args.map a.eval ++ v2).toList := by simpa using (hr1.append hargs).append hr2
          obtain ⟨u, hrun, hrep⟩ := hE g.F g.X w (v1 ++ args.map a.eval ++ v2) hg.hrel hall
          refine upon_value (v := u) ?_ (hK _ _ _ ⟨g, hg.put dst hrep.lrep, hk⟩ hK1)
          have hrun' := hrun
          simp only [Array.append_assoc] at hrun' ⊢
          simp [execOp, Sem.run_bind, resolve, hev, Deferred.ofValue, invoke, hrun']
        · exact h.elim
      rw [if_neg h13] at h
      split at h
      · rename_i fid first cap hce
        obtain ⟨hent, hcall⟩ := h
        obtain ⟨g, hg, hk⟩ := hs
        obtain ⟨v1, v2, hev, hr1, hr2⟩ := calleeOf_rep hg hf hce
        have hargs : RepAll g.F w (args.toList.map fun x => sa (dst.any (hint · = 5)) (st.ev x)) (args.toList.map a.eval) := RepAll_map _ _ _ fun x hx => LRep.sa (hg.ev (hm x (Array.mem_toList_iff.1 hx))) _
        have hall : RepAll g.F w (first ++ (args.toList.map fun x => sa (dst.any (hint · = 5)) (st.ev x)) ++ cap) (v1 ++ args.map a.eval ++ v2).toList := by simpa using (hr1.append hargs).append hr2
        have hC := hcall g.F g.X w (v1 ++ args.map a.eval ++ v2) hg.hrel hall
        have hr : (execOp a.eval ⟨dst, .call ⟨.value f, args, argTypes⟩, ty, pos, after, guard⟩).run c.P w = .ok (.enter fid (v1 ++ args.map a.eval ++ v2)) w := by
          simp [execOp, Sem.run_bind, resolve, hev, Deferred.ofValue, invoke, enters_run hent]
        unfold Oper.wp
        rw [hr, Oper.upon_enter]
        refine hC.mono fun e w' ⟨F', X', h', ie, ⟨_, hK1⟩, hend, hh, hk'⟩ => ?_
        obtain ⟨hcore, hkeep⟩ := Sim.called hg hk hh hk'
        cases ie with
        | ret v =>
          cases e with
          | returned rv => exact hK _ _ _ ⟨_, hcore.put dst (Rep.lrep (g := { g with F := F', X := X' }) hend), hkeep⟩ hK1
          | panicked chain => exact hend.elim
          | outgrown => exact hend.elim
        | pan v =>
          cases e with
          | returned rv => exact hend.elim
          | panicked chain =>
            obtain ⟨pv, rfl, hpv⟩ := hend
            exact hQ _ _ _ _ _ hK1 ⟨_, pv, hcore, hkeep, rfl, hpv⟩
          | outgrown => exact hend.elim
      · exact h.elim
    | invoke r name =>
      simp only at h
      have hf : opLt c.N r = true := by
        simp only [ltOp, Op.operands, Call.operands, Array.all_eq_true_iff_forall_mem] at hlt
        exact hlt r (by simp)
      split at h
      · rename_i t v hre
        split at h
        · rename_i f hmt
          obtain ⟨hent, hcall⟩ := h
          obtain ⟨g, hg, hk⟩ := hs
          have hrv := hg.ev hf
          rw [hre] at hrv
          obtain ⟨u, hev, hu⟩ := hrv
          have hargs : RepAll g.F w (args.toList.map fun x => strip (st.ev x)) (args.toList.map a.eval) := RepAll_map _ _ _ fun x hx => (hg.ev (hm x (Array.mem_toList_iff.1 hx))).strip
          have hall : RepAll g.F w (v :: args.toList.map fun x => strip (st.ev x)) (#[u] ++ args.map a.eval).toList := by
            simp only [Array.toList_append, Array.toList_map, List.cons_append, List.nil_append]
            exact ⟨_, _, rfl, hu, hargs⟩
          have hC := hcall g.F g.X w (#[u] ++ args.map a.eval) hg.hrel hall
          have hr : (execOp a.eval ⟨dst, .call ⟨.invoke r name, args, argTypes⟩, ty, pos, after, guard⟩).run c.P w = .ok (.enter f (#[u] ++ args.map a.eval)) w := by
            have := invoke_run (w := w) hmt hent u (args.map a.eval)
            simp only [execOp, Sem.run_bind, resolve, hev, Sem.run_pure, Result.andThen_ok]
            exact this
          unfold Oper.wp
          rw [hr, Oper.upon_enter]
          refine hC.mono fun e w' ⟨F', X', h', ie, hK1, hend, hh, hk'⟩ => ?_
          obtain ⟨hcore, hkeep⟩ := Sim.called hg hk hh hk'
          cases ie with
          | ret v =>
            cases e with
            | returned rv => exact hK _ _ _ ⟨_, hcore.put dst (Rep.lrep (g := { g with F := F', X := X' }) hend), hkeep⟩ hK1
            | panicked chain => exact hend.elim
            | outgrown => exact hend.elim
          | pan v =>
            cases e with
            | returned rv => exact hend.elim
            | panicked chain =>
              obtain ⟨pv, rfl, hpv⟩ := hend
              exact hQ _ _ _ _ _ hK1 ⟨_, pv, hcore, hkeep, rfl, hpv⟩
            | outgrown => exact hend.elim
        · exact h.elim
      · exact h.elim
    | builtin b =>
      cases b
      case delete =>
        simp only at h
        split at h
        · rename_i m k t t2 hax hat
          have hargs : args = #[m, k] := by cases args; simp at hax; subst hax; rfl
          subst hargs
          have htys : argTypes = #[t, t2] := by cases argTypes; simp at hat; subst hat; rfl
          subst htys
          have hx := hs.opv (hm m (by simp))
          have hy := hs.opv (hm k (by simp))
          unfold idelB at h
          split at h
          · rename_i kt et b ht hmb
            split at h
            · rename_i kd es hkd hob
              obtain ⟨hsc, h⟩ := h
              split at h
              · rename_i es' hp
                have hmv : a.eval m = .map (some b) := by obtain ⟨g, hg, _⟩ := hs; have := hx g hg; rw [hmb] at this; exact this
                obtain ⟨w', h1, h2⟩ := hs.mapDel (t2 := t2) (ty := ty) hob ht hkd hsc (fun g hg => (hy g hg).strip) hp dst
                refine upon_value ?_ (hK _ _ _ h2 h)
                simp [execOp, Sem.run_bind, resolve, invoke, builtin, hmv, h1]
              · exact h.elim
            · exact h.elim
          · exact h.elim
        · exact h.elim
      case len =>
        simp only at h
        split at h
        · split at h
          · rename_i n hn
            unfold lenM at hn
            split at hn
            · rename_i t x hat hax
              dsimp only at hat hax
              have hargs : args = #[x] := by cases args; simp at hax; subst hax; rfl
              subst hargs
              have htys : argTypes = #[t] := by cases argTypes; simp at hat; subst hat; rfl
              subst htys
              have hx := hs.opv (hm x (by simp))
              obtain ⟨g, hg, hkk⟩ := hs
              have hxv := hx g hg
              split at hn
              · rename_i kt et ht
                obtain ⟨es, hes, rfl⟩ := Option.map_eq_some_iff.1 hn
                unfold mapEs at hes
                split at hes
                · rename_i hb
                  cases hes
                  have hv : a.eval x = .map none := by rw [hb] at hxv; exact hxv
                  exact upon_value (v := .int .i64 0) (by simp [execOp, Sem.run_bind, resolve, invoke, builtin, Builtin.len_, hv, run_underlying ht, goInt]) (hK _ _ _ ⟨g, hg.put dst (by rfl), hkk⟩ h)
                · rename_i b hb
                  have hv : a.eval x = .map (some b) := by rw [hb] at hxv; exact hxv
                  split at hes
                  · rename_i es0 hob
                    cases hes
                    obtain ⟨_, ents, clock, hheap, hre, _⟩ := hg.hp b _ hob
                    have hlen := repEnts_len hre
                    exact upon_value (v := .int .i64 (ents.length : Int)) (by simp [execOp, Sem.run_bind, resolve, invoke, builtin, Builtin.len_, hv, run_underlying ht, MapKept.run_getObj_map hheap, goInt]) (hK _ _ _ ⟨g, hg.put dst (by rw [hlen]; rfl), hkk⟩ h)
                  · rename_i es0 ents clock hob
                    cases hes
                    obtain ⟨_, hheap, hre, _⟩ := hg.hp b _ hob
                    have hlen := repEnts_len hre
                    exact upon_value (v := .int .i64 (ents.length : Int)) (by simp [execOp, Sem.run_bind, resolve, invoke, builtin, Builtin.len_, hv, run_underlying ht, MapKept.run_getObj_map hheap, goInt]) (hK _ _ _ ⟨g, hg.put dst (by rw [hlen]; rfl), hkk⟩ h)
                  · cases hes
                · cases hes
              · cases hn
            · cases hn
          · exact h.elim
        · exact pop_wp hs hlt0 h hK
      case copy =>
        simp only at h
        split at h
        · rename_i x y t t2 hax hat
          have hargs : args = #[x, y] := by cases args; simp at hax; subst hax; rfl
          subst hargs
          have htys : argTypes = #[t, t2] := by cases argTypes; simp at hat; subst hat; rfl
          subst htys
          have hx := hs.opv (hm x (by simp))
          have hy := hs.opv (hm y (by simp))
          unfold icop at h
          split at h
          · rename_i z b off n cap hxe
            split at h
            · rename_i e z' rows tot e' src hb he hc
              obtain ⟨⟨rfl, rfl, hz, k1, k2⟩, h⟩ := h
              have hv : a.eval x = .slice (some ⟨b, off * z, none⟩) n cap := by obtain ⟨g, hg, _⟩ := hs; have := hx g hg; rw [hxe] at this; exact this.1
              obtain ⟨w', h1, h2⟩ := hs.copyTo dst t t2 ty e (cap := cap) he hz hb k1 k2 hc hy
              refine upon_value ?_ (hK _ _ _ h2 h)
              simp [execOp, Sem.run_bind, resolve, invoke, builtin, hv, h1]
            · exact h.elim
          · exact h.elim
        · exact h.elim
      case unsafeSliceData =>
        simp only at h
        split at h
        · rename_i x hax
          have hargs : args = #[x] := by cases args; simp at hax; subst hax; rfl
          subst hargs
          have hx := hs.opv (hm x (by simp))
          unfold isdt at h
          split at h
          · rename_i z b n cap hxe
            rw [hxe] at hx
            obtain ⟨⟨rfl, hc0⟩, h⟩ := h
            have hv : a.eval x = .slice (some ⟨b, 0, none⟩) n cap := by obtain ⟨g, hg, _⟩ := hs; exact (hx g hg).1
            refine upon_value (v := .pointer (some ⟨b, 0, none⟩)) ?_ (hK _ _ _ (hs.put dst (fun g hg => Rep.lrep (x := .aptr 1 b 0 0) rfl)) h)
            have hc0' : ¬ cap = 0 := by omega
            have h1 := Lib.run_unsafeSliceData_row (P := c.P) (w := w) argTypes ty ⟨b, 0, none⟩ n cap hc0'
            simp [execOp, Sem.run_bind, resolve, invoke, builtin, hv, h1]
          · exact h.elim
        · exact h.elim
      case unsafeString =>
        simp only at h
        split at h
        · rename_i x y t t2 hax hat
          have hargs : args = #[x, y] := by cases args; simp at hax; subst hax; rfl
          subst hargs
          have htys : argTypes = #[t, t2] := by cases argTypes; simp at hat; subst hat; rfl
          subst htys
          have hx := hs.opv (hm x (by simp))
          have hy := hs.opv (hm y (by simp))
          unfold iust at h
          split at h
          · rename_i b n hxe hye
            rw [hxe] at hx; rw [hye] at hy
            split at h
            · rename_i e e' rows tot hte hb
              obtain ⟨⟨rfl, hz, h0, h63, hn⟩, s, hr, h⟩ := h
              have hv : a.eval x = .pointer (some ⟨b, 0, none⟩) := by obtain ⟨g, hg, _⟩ := hs; exact hx g hg
              have hyv : a.eval y = .int .i64 n := by obtain ⟨g, hg, _⟩ := hs; exact hy g hg
              obtain ⟨m, rfl⟩ := Int.eq_ofNat_of_zero_le (Int.le_of_lt h0)
              simp only [Int.toNat_natCast] at hn hr
              obtain ⟨u, w', q1, q2⟩ := hs.bytesStr dst t t2 ty e s hte hz hb (by omega) hn (by omega) hr
              exact upon_value (by simp [execOp, Sem.run_bind, resolve, invoke, builtin, hv, hyv, q1]) (hK _ _ _ q2 h)
            · exact h.elim
          · exact h.elim
        · exact h.elim
      case clear =>
        simp only at h
        split at h
        · rename_i x t hax hat
          have hargs : args = #[x] := by cases args; simp at hax; subst hax; rfl
          subst hargs
          have htys : argTypes = #[t] := by cases argTypes; simp at hat; subst hat; rfl
          subst htys
          have hx := hs.opv (hm x (by simp))
          unfold iclr at h
          split at h
          · rename_i z b off n cap hxe
            split at h
            · rename_i e z' rows tot e' hb he
              obtain ⟨⟨rfl, rfl, hz, k1, k2, k3⟩, h⟩ := h
              have hv : a.eval x = .slice (some ⟨b, off * z, none⟩) n cap ∧ n ≤ cap ∧ cap ≤ maxLen := by obtain ⟨g, hg, _⟩ := hs; have := hx g hg; rw [hxe] at this; exact this
              obtain ⟨w', h1, h2⟩ := hs.clearArr dst t ty e he hz hb k1 k2 k3 hv
              refine upon_value ?_ (hK _ _ _ h2 h)
              simp [execOp, Sem.run_bind, resolve, invoke, builtin, h1]
            · exact h.elim
          · exact h.elim
        · exact h.elim
      case append =>
        simp only at h
        split at h
        · rename_i x y t t' d hax hat
          have hargs : args = #[x, y] := by cases args; simp at hax; subst hax; rfl
          subst hargs
          have hx := hs.opv (hm x (by simp))
          have hy := hs.opv (hm y (by simp))
          by_cases h16 : hint d = 16
          · rw [if_pos h16] at h
            have htys : argTypes = #[t, t'] := by cases argTypes; simp at hat; subst hat; rfl
            subst htys
            unfold iapS at h
            split at h
            · rename_i z b off n cap s hxe hye
              rw [hye] at hy
              split at h
              · rename_i e z' rows tot e' hb he hu
                obtain ⟨⟨rfl, rfl, rfl, rfl, hz, k1, rfl, hroom⟩, h1, h2⟩ := h
                have hv : a.eval x = .slice (some ⟨b, 0, none⟩) n tot ∧ n ≤ tot ∧ tot ≤ maxLen := by
                  obtain ⟨g, hg, _⟩ := hs
                  have := hx g hg
                  rw [hxe] at this
                  obtain ⟨q1, q2, q3⟩ := this
                  exact ⟨by rw [q1], q2, q3⟩
                have hyv : a.eval y = .string s := by obtain ⟨g, hg, _⟩ := hs; exact hy g hg
                obtain ⟨vr, w', q1, q2⟩ := hs.appendArrS (some d) t t' ty e s he hz hu hv.1 hb k1 hv.2.2 hv.2.1 hroom
                have hrun : (execOp a.eval ⟨some d, .call ⟨.builtin .append, #[x, y], #[t, t']⟩, ty, pos, after, guard⟩).run c.P w = .ok (.value vr) w' := by
                  simp [execOp, Sem.run_bind, resolve, invoke, builtin, hyv, q1]
                rcases q2 with ⟨k3, k4⟩ | ⟨k3, b', cap', k5, k6, k4⟩
                · exact upon_value hrun (hK _ _ _ k4 (h1 k3))
                · exact upon_value hrun (hK _ _ _ k4 (h2 k3 b' cap' k5 k6))
              · exact h.elim
            · rename_i rows s hxe hye
              rw [hye] at hy
              rw [hxe] at hx
              split at h
              · rename_i e he hu
                obtain ⟨⟨hz, hroom, hu1⟩, h1, h2⟩ := h
                have hyv : a.eval y = .string s := by obtain ⟨g, hg, _⟩ := hs; exact hy g hg
                obtain ⟨vr, w', q1, q2⟩ := hs.appendNewS (some d) t t' ty e s he hz hu hx hroom hu1
                have hrun : (execOp a.eval ⟨some d, .call ⟨.builtin .append, #[x, y], #[t, t']⟩, ty, pos, after, guard⟩).run c.P w = .ok (.value vr) w' := by
                  simp [execOp, Sem.run_bind, resolve, invoke, builtin, hyv, q1]
                rcases q2 with ⟨k3, k4⟩ | ⟨k3, b', cap', k5, k6, k4⟩
                · exact upon_value hrun (hK _ _ _ k4 (h1 k3))
                · exact upon_value hrun (hK _ _ _ k4 (h2 k3 b' cap' k5 k6))
              · exact h.elim
            · exact h.elim
          rw [if_neg h16] at h
          by_cases h14 : hint d = 14
          · rw [if_pos h14] at h
            obtain ⟨rfl, h⟩ := h
            have htys : argTypes = #[t, t] := by cases argTypes; simp at hat; subst hat; rfl
            subst htys
            unfold iapq at h
            split at h
            · rename_i z b off n cap hxe
              split at h
              · rename_i e z' rows tot e' src hb he hc
                obtain ⟨⟨rfl, rfl, rfl, hz, k1, k2, hroom⟩, h1, h2⟩ := h
                have hv : a.eval x = .slice (some ⟨b, 0, none⟩) n cap ∧ n ≤ cap ∧ cap ≤ maxLen := by
                  obtain ⟨g, hg, _⟩ := hs
                  have := hx g hg
                  rw [hxe] at this
                  obtain ⟨q1, q2, q3⟩ := this
                  exact ⟨by rw [q1]; simp, q2, q3⟩
                obtain ⟨vr, w', k5, k6⟩ := hs.appendPre (some d) t ty e (cap := cap) he hz hb k1 k2 hv.2.1 hv.2.2 hroom hc hy
                have hrun : (execOp a.eval ⟨some d, .call ⟨.builtin .append, #[x, y], #[t, t]⟩, ty, pos, after, guard⟩).run c.P w = .ok (.value vr) w' := by
                  simp [execOp, Sem.run_bind, resolve, invoke, builtin, hv.1, k5]
                rcases k6 with ⟨k3, k4⟩ | ⟨k3, b', cap', k7, k8, k4⟩
                · exact upon_value hrun (hK _ _ _ k4 (h1 k3))
                · exact upon_value hrun (hK _ _ _ k4 (h2 k3 b' cap' k7 k8))
              · exact h.elim
            · exact h.elim
          rw [if_neg h14] at h
          by_cases h12 : hint d = 12
          · rw [if_pos h12] at h
            obtain ⟨rfl, h⟩ := h
            have htys : argTypes = #[t, t] := by cases argTypes; simp at hat; subst hat; rfl
            subst htys
            unfold iapi at h
            split at h
            · rename_i z b off n cap hxe
              split at h
              · rename_i e z' rows tot e' src hb he hc
                obtain ⟨⟨rfl, rfl, rfl, hz, k1, k2, k3⟩, h⟩ := h
                have hv : a.eval x = .slice (some ⟨b, 0, none⟩) n cap ∧ cap ≤ maxLen := by
                  obtain ⟨g, hg, _⟩ := hs
                  have := hx g hg
                  rw [hxe] at this
                  obtain ⟨q1, q2, q3⟩ := this
                  exact ⟨by rw [q1]; simp, q3⟩
                obtain ⟨w', h1, h2⟩ := hs.appendOver (some d) t ty e (cap := cap) he hz hb k1 k3 k2 hv.2 hc hy
                refine upon_value ?_ (hK _ _ _ h2 h)
                simp [execOp, Sem.run_bind, resolve, invoke, builtin, hv.1, h1]
              · exact h.elim
            · exact h.elim
          rw [if_neg h12] at h
          by_cases h7 : hint d = 7
          · rw [if_pos h7] at h
            obtain ⟨rfl, h⟩ := h
            have htys : argTypes = #[t, t] := by cases argTypes; simp at hat; subst hat; rfl
            subst htys
            unfold icpy at h
            split at h
            · rename_i z b off n cap hxe hye
              rw [hxe] at hx; rw [hye] at hy
              split at h
              · rename_i e z' rows tot e' hb he
                obtain ⟨⟨rfl, rfl, hz, hn, hroom⟩, h1, h2⟩ := h
                have hv : a.eval y = .slice (some ⟨b, off * z, none⟩) n cap ∧ n ≤ cap ∧ cap ≤ maxLen := by obtain ⟨g, hg, _⟩ := hs; exact hy g hg
                obtain ⟨vr, w', k1, k2⟩ := hs.copyArr (some d) t ty e he hz hb hn hx hv hroom
                have hrun : (execOp a.eval ⟨some d, .call ⟨.builtin .append, #[x, y], #[t, t]⟩, ty, pos, after, guard⟩).run c.P w = .ok (.value vr) w' := by
                  simp [execOp, Sem.run_bind, resolve, invoke, builtin, k1]
                rcases k2 with ⟨k3, k4⟩ | ⟨k3, k4⟩
                · exact upon_value hrun (hK _ _ _ k4 (h1 k3))
                · exact upon_value hrun (hK _ _ _ k4 (h2 k3))
              · exact h.elim
            · exact h.elim
          rw [if_neg h7] at h
          by_cases h6 : hint d = 6
          · rw [if_pos h6] at h
            have htys : argTypes = #[t, t'] := by cases argTypes; simp at hat; subst hat; rfl
            subst htys
            unfold izer at h
            split at h
            · rename_i k m hxe hye
              rw [hxe] at hx; rw [hye] at hy
              split at h
              · rename_i e z ki he hz hti
                rw [he] at hz
                obtain ⟨⟨hm0, hroom⟩, h1⟩ := h
                have hv : ∃ A, a.eval x = .slice A 0 0 := by
                  obtain ⟨g, hg, _⟩ := hs
                  obtain ⟨A, cap, vals, k1, _, _, _, k2, _⟩ := hx g hg
                  have := k2 rfl
                  simp only [List.length_nil] at k1 this
                  subst this
                  exact ⟨A, k1⟩
                have hyv : a.eval y = .int k m := by obtain ⟨g, hg, _⟩ := hs; exact hy g hg
                obtain ⟨A, hv⟩ := hv
                obtain ⟨vr, w', b', cap', k1, k2, k3, k4⟩ := hs.appendZeros (some d) t t' ty e he hz hti A k m hm0 hroom
                have hrun : (execOp a.eval ⟨some d, .call ⟨.builtin .append, #[x, y], #[t, t']⟩, ty, pos, after, guard⟩).run c.P w = .ok (.value vr) w' := by
                  simp [execOp, Sem.run_bind, resolve, invoke, builtin, hv, hyv, k1]
                exact upon_value hrun (hK _ _ _ k4 (h1 b' cap' k2 k3))
              · exact h.elim
            · rename_i z b off n cap k m hxe hye
              rw [hxe] at hx; rw [hye] at hy
              split at h
              · rename_i e z' rows tot e' ki hb he hti
                obtain ⟨⟨rfl, rfl, rfl, hz, k1, hm0, k2, hroom⟩, h1⟩ := h
                have hv : a.eval x = .slice (some ⟨b, 0, none⟩) n cap := by
                  obtain ⟨g, hg, _⟩ := hs
                  obtain ⟨q1, q2, q3⟩ := hx g hg
                  rw [q1]; simp
                have hyv : a.eval y = .int k m := by obtain ⟨g, hg, _⟩ := hs; exact hy g hg
                obtain ⟨m', rfl⟩ := Int.eq_ofNat_of_zero_le (Int.le_of_lt hm0)
                simp only [Int.toNat_natCast] at k2 hroom h1
                obtain ⟨vr, w', b', cap', k5, k6, k7, k4⟩ := hs.zerosOnto (some d) t t' ty e he hz hti hb k1 k m' (by omega) k2 hroom
                have hrun : (execOp a.eval ⟨some d, .call ⟨.builtin .append, #[x, y], #[t, t']⟩, ty, pos, after, guard⟩).run c.P w = .ok (.value vr) w' := by
                  simp [execOp, Sem.run_bind, resolve, invoke, builtin, hv, hyv, k5]
                exact upon_value hrun (hK _ _ _ k4 (h1 b' cap' k6 k7))
              · exact h.elim
            · exact h.elim
          rw [if_neg h6] at h
          obtain ⟨rfl, h⟩ := h
          have htys : argTypes = #[t, t] := by cases argTypes; simp at hat; subst hat; rfl
          subst htys
          by_cases hh : hint d = 2
          · rw [if_pos hh] at h
            unfold iappB at h
            split at h
            · rename_i z b off n cap tk ys hxe hye
              rw [hxe] at hx; rw [hye] at hy
              split at h
              · rename_i e z' rows tot e' hb he
                obtain ⟨⟨rfl, rfl, rfl, hz, rfl, rfl, hroom, hu⟩, h1, h2⟩ := h
                have hv : a.eval x = .slice (some ⟨b, 0, none⟩) rows.length tot ∧ rows.length ≤ tot ∧ tot ≤ maxLen := by
                  obtain ⟨g, hg, _⟩ := hs
                  have := hx g hg
                  obtain ⟨k1, k2, k3⟩ := this
                  exact ⟨by rw [k1]; simp, k2, k3⟩
                obtain ⟨vr, w', k1, k2⟩ := hs.appendArr (some d) t ty e he hz hv.1 hb rfl hv.2.2 hv.2.1 (fun g hg => (hy g hg).strip) hroom hu
                have hrun : (execOp a.eval ⟨some d, .call ⟨.builtin .append, #[x, y], #[t, t]⟩, ty, pos, after, guard⟩).run c.P w = .ok (.value vr) w' := by
                  simp [execOp, Sem.run_bind, resolve, invoke, builtin, k1]
                rcases k2 with ⟨k3, k4⟩ | ⟨k3, b', cap', k5, k6, k4⟩
                · exact upon_value hrun (hK _ _ _ k4 (h1 k3))
                · exact upon_value hrun (hK _ _ _ k4 (h2 k3 b' cap' k5 k6))
              · exact h.elim
            · rename_i rows tk ys hxe hye
              rw [hxe] at hx; rw [hye] at hy
              split at h
              · rename_i z e hz he
                rw [he] at hz
                obtain ⟨⟨hroom, hu1, hu2⟩, h1, h2⟩ := h
                obtain ⟨vr, w', k1, k2⟩ := hs.appendNew (some d) t ty e he hz hx (fun g hg => (hy g hg).strip) hroom hu1 hu2
                have hrun : (execOp a.eval ⟨some d, .call ⟨.builtin .append, #[x, y], #[t, t]⟩, ty, pos, after, guard⟩).run c.P w = .ok (.value vr) w' := by
                  simp [execOp, Sem.run_bind, resolve, invoke, builtin, k1]
                rcases k2 with ⟨k3, k4⟩ | ⟨k3, b', cap', k5, k6, k4⟩
                · exact upon_value hrun (hK _ _ _ k4 (h1 k3))
                · exact upon_value hrun (hK _ _ _ k4 (h2 k3 b' cap' k5 k6))
              · exact h.elim
            · exact h.elim
          rw [if_neg hh] at h
          split at h
          · rename_i r xs' hi
            obtain ⟨vr, w', h1, h2⟩ := hs.append d (some d) t ty hx (fun g hg => (hy g hg).strip) hi
            refine upon_value ?_ (hK _ _ _ h2 h)
            simp [execOp, Sem.run_bind, resolve, invoke, builtin, h1]
          · exact h.elim
        · exact h.elim
      all_goals exact pop_wp hs hlt0 h hK
  all_goals exact pop_wp hs hlt0 h hK
end Go.Idl
