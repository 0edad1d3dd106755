/- This text is a part of the proofs of the statements of this seat: the ideal states and their rules, or what one of the functions that the statements reach comes to. Conditions: none beyond those that each theorem names. -/
import Derived.Test.YtejjnaibgimiaaaGreatDoorIdl8
import Derived.Test.YtejjnaibgimiaaaGreatDoorF15
set_option linter.unusedVariables false
set_option linter.unusedSimpArgs false
namespace Go.Proofs
open Go.Idl
theorem wrap_in {n : Int} (h : -9223372036854775808 ≤ n ∧ n ≤ 9223372036854775807) : IntKind.i64.wrap n = n := Go.IntWalk.i64_in _ h
def retP (v : IV) (h : Heap) (e : IEnd) (h' : Heap) : Prop := e = .ret v ∧ h' = h
theorem wrap_succ {i : Nat} (h : i < 1000000000000) : IntKind.i64.wrap ((i : Int) + 1) = ((i + 1 : Nat) : Int) := by rw [wrap_in (by omega)]; rfl
def intRow (n : Int) : List IV := [.int .i64 n]
@[go_sem] theorem intRow_len (n : Int) : (intRow n).length = 1 := rfl
@[go_sem high] theorem intRow_take (n : Int) : (intRow n).take 1 = [.int .i64 n] := rfl
@[go_sem high] theorem intRow_okV (n : Int) : okV (.agg (intRow n)) = true := rfl
@[go_sem high] theorem ints_uni (l : List Int) : uni 1 (l.map intRow) = true := by simp [uni, intRow]
end Go.Proofs

set_option linter.unusedVariables false
set_option linter.unusedSimpArgs false
namespace Go.Proofs
open Go.Idl

structure Rct where
  x : Int
  y : Int
  w : Int
  h : Int
deriving DecidableEq

def Rct.row (r : Rct) : List IV := [.int .i64 r.x, .int .i64 r.y, .int .i64 r.w, .int .i64 r.h]

/-- a tree of cells -/
inductive Cel where
  | mk (kind : Int) (r : Rct) (id : Int) (kids : List Cel)

def Cel.kind : Cel → Int | .mk k _ _ _ => k
def Cel.r : Cel → Rct | .mk _ r _ _ => r
def Cel.id : Cel → Int | .mk _ _ i _ => i
def Cel.kids : Cel → List Cel | .mk _ _ _ ks => ks

mutual
def Cel.row : Cel → List IV
  | .mk k r id kids => [.int .u8 k, .int .i64 r.x, .int .i64 r.y, .int .i64 r.w, .int .i64 r.h, .int .i64 id, .list .plain (Cel.rows kids)]
def Cel.rows : List Cel → List (List IV)
  | [] => []
  | c :: cs => c.row :: Cel.rows cs
end

theorem Cel.rows_map : ∀ l : List Cel, Cel.rows l = l.map Cel.row
  | [] => by simp [Cel.rows]
  | c :: cs => by simp [Cel.rows, Cel.rows_map cs]
theorem Cel.row_mk (k r id kids) : (Cel.mk k r id kids).row = [.int .u8 k, .int .i64 r.x, .int .i64 r.y, .int .i64 r.w, .int .i64 r.h, .int .i64 id, .list .plain (kids.map Cel.row)] := by
  rw [Cel.row, Cel.rows_map]

mutual
def Cel.size : Cel → Nat
  | .mk _ _ _ kids => Cel.sizes kids + 1
def Cel.sizes : List Cel → Nat
  | [] => 0
  | c :: cs => c.size + Cel.sizes cs
end

theorem Cel.row_eq (c : Cel) : c.row = [.int .u8 c.kind, .int .i64 c.r.x, .int .i64 c.r.y, .int .i64 c.r.w, .int .i64 c.r.h, .int .i64 c.id, .list .plain (c.kids.map Cel.row)] := by
  cases c; exact Cel.row_mk _ _ _ _
@[go_sem high] theorem Cel.at0 (c : Cel) : c.row.take 1 = [.int .u8 c.kind] := by rw [c.row_eq]; rfl
@[go_sem high] theorem Cel.at1 (c : Cel) : (c.row.drop 1).take 4 = c.r.row := by rw [c.row_eq]; rfl
@[go_sem high] theorem Cel.at1x (c : Cel) : (c.row.drop 1).take 1 = [.int .i64 c.r.x] := by rw [c.row_eq]; rfl
@[go_sem high] theorem Cel.at2 (c : Cel) : (c.row.drop 2).take 1 = [.int .i64 c.r.y] := by rw [c.row_eq]; rfl
@[go_sem high] theorem Cel.at3 (c : Cel) : (c.row.drop 3).take 1 = [.int .i64 c.r.w] := by rw [c.row_eq]; rfl
@[go_sem high] theorem Cel.at4 (c : Cel) : (c.row.drop 4).take 1 = [.int .i64 c.r.h] := by rw [c.row_eq]; rfl
@[go_sem high] theorem Cel.at5 (c : Cel) : (c.row.drop 5).take 1 = [.int .i64 c.id] := by rw [c.row_eq]; rfl
@[go_sem high] theorem Cel.at6 (c : Cel) : (c.row.drop 6).take 1 = [.list .plain (c.kids.map Cel.row)] := by rw [c.row_eq]; rfl
def Cel.withId (c : Cel) (n : Int) : Cel := .mk c.kind c.r n c.kids
def Cel.withKids (c : Cel) (ks : List Cel) : Cel := .mk c.kind c.r c.id ks
@[go_sem high] theorem Cel.put5 (c : Cel) (n : Int) : splice c.row 5 [.int .i64 n] = (c.withId n).row := by rw [c.row_eq, (c.withId n).row_eq]; rfl
/-- a row whose last cell is another one -/
def Cel.rowK (c : Cel) (x : IV) : List IV := c.row.take 6 ++ [x]
theorem Cel.rowK_eq (c : Cel) (x : IV) : c.rowK x = [.int .u8 c.kind, .int .i64 c.r.x, .int .i64 c.r.y, .int .i64 c.r.w, .int .i64 c.r.h, .int .i64 c.id, x] := by rw [Cel.rowK, c.row_eq]; rfl
@[go_sem high] theorem Cel.put6 (c : Cel) (tk : Tok) (rs : List (List IV)) : splice c.row 6 [.list tk rs] = c.rowK (.list tk rs) := by rw [c.row_eq, c.rowK_eq]; rfl
@[go_sem high] theorem Cel.put6K (c : Cel) (y : IV) (tk : Tok) (rs : List (List IV)) : splice (c.rowK y) 6 [.list tk rs] = c.rowK (.list tk rs) := by rw [c.rowK_eq, c.rowK_eq]; rfl
@[go_sem] theorem Cel.rowK_len (c : Cel) (x : IV) : (c.rowK x).length = 7 := by rw [c.rowK_eq]; rfl
@[go_sem] theorem Cel.rowK_take (c : Cel) (x : IV) : (c.rowK x).take 7 = c.rowK x := by rw [c.rowK_eq]; rfl
@[go_sem high] theorem Cel.rowK_strC (c : Cel) (tk : Tok) (ks : List Cel) : (c.rowK (.list tk (ks.map Cel.row))).map strC = (c.withKids ks).row := by rw [c.rowK_eq, (c.withKids ks).row_eq]; rfl
@[go_sem high] theorem Cel.rowK_strip (c : Cel) (tk : Tok) (ks : List Cel) : (c.rowK (.list tk (ks.map Cel.row))).map strip = (c.withKids ks).row := by rw [c.rowK_eq, (c.withKids ks).row_eq]; rfl
@[go_sem high] theorem Cel.rowK_at6 (c : Cel) (x : IV) : ((c.rowK x).drop 6).take 1 = [x] := by rw [c.rowK_eq]; rfl
@[go_sem high] theorem Cel.rowK_at0 (c : Cel) (x : IV) : (c.rowK x).take 1 = [.int .u8 c.kind] := by rw [c.rowK_eq]; rfl
@[go_sem high] theorem Cel.rowK_at5 (c : Cel) (x : IV) : ((c.rowK x).drop 5).take 1 = [.int .i64 c.id] := by rw [c.rowK_eq]; rfl
@[go_sem] theorem Cel.rowK_okV (c : Cel) (x : IV) : okV (.agg (c.rowK x)) = true := rfl
@[go_sem] theorem Cel.withId_kids (c : Cel) (n : Int) : (c.withId n).kids = c.kids := rfl
@[go_sem] theorem Cel.withId_kind (c : Cel) (n : Int) : (c.withId n).kind = c.kind := rfl
@[go_sem high] theorem Cel.at1t (c : Cel) : c.row.tail.take 4 = c.r.row := by rw [c.row_eq]; rfl
@[go_sem high] theorem Cel.at1xt (c : Cel) : c.row.tail.take 1 = [.int .i64 c.r.x] := by rw [c.row_eq]; rfl
@[go_sem high] theorem Rct.at1t (r : Rct) : r.row.tail.take 1 = [.int .i64 r.y] := rfl
@[go_sem high] theorem Rct.at0 (r : Rct) : r.row.take 1 = [.int .i64 r.x] := rfl
@[go_sem high] theorem Rct.at1 (r : Rct) : (r.row.drop 1).take 1 = [.int .i64 r.y] := rfl
@[go_sem high] theorem Rct.at2 (r : Rct) : (r.row.drop 2).take 1 = [.int .i64 r.w] := rfl
@[go_sem high] theorem Rct.at3 (r : Rct) : (r.row.drop 3).take 1 = [.int .i64 r.h] := rfl
theorem Cel.size_eq (c : Cel) : c.size = Cel.sizes c.kids + 1 := by cases c; rw [Cel.size]; rfl
@[go_sem] theorem Cel.row_len (c : Cel) : c.row.length = 7 := by cases c; simp [Cel.row]
@[go_sem] theorem Cel.row_strip (c : Cel) : c.row.map strip = c.row := by cases c; simp [Cel.row_mk, strip]
@[go_sem] theorem Cel.row_strC (c : Cel) : c.row.map strC = c.row := by cases c; simp [Cel.row_mk, strC]
@[go_sem] theorem Cel.row_take (c : Cel) : c.row.take 7 = c.row := by cases c; simp [Cel.row]
@[go_sem high] theorem Cel.rows_uni (l : List Cel) : uni 7 (l.map Cel.row) = true := by simp [uni, Cel.row_len]
@[go_sem] theorem Cel.row_okV (c : Cel) : okV (.agg c.row) = true := by cases c; simp [Cel.row_mk, okV]
@[go_sem] theorem Rct.row_len (c : Rct) : c.row.length = 4 := by simp [Rct.row]
@[go_sem] theorem Rct.row_strip (c : Rct) : c.row.map strip = c.row := by simp [Rct.row, strip]
@[go_sem] theorem Rct.row_strC (c : Rct) : c.row.map strC = c.row := by simp [Rct.row, strC]
@[go_sem] theorem Rct.row_take (c : Rct) : c.row.take 4 = c.row := by simp [Rct.row]
@[go_sem high] theorem Rct.rows_uni (l : List Rct) : uni 4 (l.map Rct.row) = true := by simp [uni, Rct.row_len]
@[go_sem] theorem Rct.row_okV (c : Rct) : okV (.agg c.row) = true := by simp [Rct.row, okV]

theorem eqI_rct (a b : Rct) (n : Nat) : eqI Tryz.prog (n + 2) 125 (.agg a.row) (.agg b.row) = some (decide (a = b)) := by
  cases a; cases b
  simp [eqI, eqFs, prt, Tryz.underlying125, Tryz.underlying3, stood_125, aggT_3, szT_3, Rct.row, Rct.mk.injEq, Bool.decide_and]
  rw [Bool.eq_iff_iff]; simp
@[go_sem high] theorem eqI_rct' (a b : Rct) : eqI Tryz.prog 10000 125 (.agg a.row) (.agg b.row) = some (decide (a = b)) := eqI_rct a b 9998


theorem Cel.sizes_take (l : List Cel) (i : Nat) (h : i < l.length) : Cel.sizes (l.take (i + 1)) = Cel.sizes (l.take i) + l[i].size := by
  induction l generalizing i with
  | nil => simp at h
  | cons c cs ih =>
    cases i with
    | zero => simp [Cel.sizes]
    | succ i => simp at h; simp [Cel.sizes, ih i h]; omega
theorem Cel.sizes_le (l : List Cel) (i : Nat) : Cel.sizes (l.take i) ≤ Cel.sizes l := by
  induction l generalizing i with
  | nil => simp [Cel.sizes]
  | cons c cs ih =>
    cases i with
    | zero => simp [Cel.sizes]
    | succ i => simp [Cel.sizes]; exact ih i
theorem Cel.one_le_size (c : Cel) : 1 ≤ c.size := by cases c; simp [Cel.size]
theorem Cel.len_le (l : List Cel) : l.length ≤ Cel.sizes l := by
  induction l with
  | nil => simp
  | cons c cs ih => have := c.one_le_size; simp [Cel.sizes]; omega
theorem Cel.mem_le {l : List Cel} {c : Cel} (h : c ∈ l) : c.size ≤ Cel.sizes l := by
  induction l with
  | nil => cases h
  | cons d ds ih =>
    rcases List.mem_cons.1 h with e | h
    · rw [e]; simp [Cel.sizes]
    · have := ih h; simp [Cel.sizes]; omega

/-- induction over trees -/
theorem Cel.induct {P : Cel → Prop} (h : ∀ c, (∀ d ∈ c.kids, P d) → P c) (c : Cel) : P c :=
  Cel.rec (motive_1 := P) (motive_2 := fun l => ∀ c ∈ l, P c) (fun k r id kids ih => h (.mk k r id kids) ih) (fun c hc => nomatch hc)
    (fun d ds h1 h2 c hc => by
      rcases List.mem_cons.1 hc with e | hc
      · rw [e]; exact h1
      · exact h2 c hc) c
end Go.Proofs

set_option linter.unusedVariables false
set_option linter.unusedSimpArgs false


namespace Go.Proofs
open Go.Idl

end Go.Proofs

set_option linter.unusedVariables false
set_option linter.unusedSimpArgs false
set_option pp.deepTerms false
set_option pp.maxSteps 600
namespace Go.Proofs
open Go.Idl

mutual
def Cel.all : Cel → List Cel
  | .mk k r id kids => .mk k r id kids :: Cel.alls kids
def Cel.alls : List Cel → List Cel
  | [] => []
  | c :: cs => c.all ++ Cel.alls cs
end
theorem Cel.alls_take (l : List Cel) (i : Nat) (h : i < l.length) : Cel.alls (l.take (i + 1)) = Cel.alls (l.take i) ++ l[i].all := by
  induction l generalizing i with
  | nil => simp at h
  | cons c cs ih =>
    cases i with
    | zero => simp [Cel.alls]
    | succ i => simp at h; simp [Cel.alls, ih i h]
theorem Cel.all_length (c : Cel) : c.all.length = c.size :=
  Cel.rec (motive_1 := fun c => c.all.length = c.size) (motive_2 := fun l => (Cel.alls l).length = Cel.sizes l) (fun k r id kids ih => by simp [Cel.all, Cel.size, ih]) (by simp [Cel.alls, Cel.sizes]) (fun c cs h1 h2 => by simp [Cel.alls, Cel.sizes, h1, h2]) c
theorem Cel.alls_length (l : List Cel) : (Cel.alls l).length = Cel.sizes l := by
  induction l with
  | nil => simp [Cel.alls, Cel.sizes]
  | cons c cs ih => simp [Cel.alls, Cel.sizes, ih, Cel.all_length]


theorem Cel.all_eq (c : Cel) : c.all = c :: Cel.alls c.kids := by cases c; rw [Cel.all]; rfl

end Go.Proofs

set_option linter.unusedVariables false
set_option linter.unusedSimpArgs false
set_option pp.deepTerms false
set_option pp.maxSteps 600
namespace Go.Proofs
open Go.Idl


def Cel.leaves (c : Cel) : List Cel := c.all.filter fun d => d.kind == 1
def Cel.ids (c : Cel) : List Int := c.leaves.map Cel.id

end Go.Proofs

set_option linter.unusedVariables false
set_option linter.unusedSimpArgs false
set_option pp.deepTerms false
set_option pp.maxSteps 600
namespace Go.Proofs
open Go.Idl

def Rct.may (r : Rct) : Bool := decide (0 ≤ r.x ∧ r.x ≤ 10000 ∧ 0 ≤ r.y ∧ r.y ≤ 10000 ∧ 0 < r.w ∧ r.w ≤ 10000 ∧ 0 < r.h ∧ r.h ≤ 10000 ∧ r.x + r.w ≤ 10000 ∧ r.y + r.h ≤ 10000)

end Go.Proofs

set_option linter.unusedVariables false
set_option linter.unusedSimpArgs false
set_option pp.deepTerms false
set_option pp.maxSteps 600
namespace Go.Proofs
open Go.Idl

noncomputable def Cel.beq (c d : Cel) : Bool := @decide (c = d) (Classical.propDecidable _)
end Go.Proofs

set_option linter.unusedVariables false
set_option linter.unusedSimpArgs false
set_option pp.deepTerms false
set_option pp.maxSteps 600
namespace Go.Proofs
open Go.Idl

/-- the kids' sizes, along the cell's axis -/
def Cel.sz (c : Cel) (d : Cel) : Int := if c.kind = 2 then d.r.w else d.r.h
def Cel.szs (c : Cel) : List Int := c.kids.map c.sz

end Go.Proofs

set_option linter.unusedVariables false
set_option linter.unusedSimpArgs false
set_option pp.deepTerms false
set_option pp.maxSteps 600
namespace Go.Proofs
open Go.Idl

def cutP (a1 : Bool) (r : Rct) (off n : Int) : Rct := if a1 = true then ⟨r.x + off, r.y, n, r.h⟩ else ⟨r.x, r.y + off, r.w, n⟩
def cutW (a1 : Bool) (r : Rct) : Int := if a1 = true then r.w else r.h
def cutO (off : Int) (ps : List Rct) : Int := match ps with | [] => off | _ => off + 1
def cutL (a1 : Bool) (r : Rct) (off : Int) (ps ls : List Rct) : List Rct := match ps with | [] => ls | _ => ls ++ [cutP a1 r off 1]
def cutBad (a1 : Bool) (r : Rct) (off n : Int) (ps : List Rct) : Prop := n < 1 ∨ n > cutW a1 r ∨ cutO off ps + n > cutW a1 r
instance (a1 : Bool) (r : Rct) (off n : Int) (ps : List Rct) : Decidable (cutBad a1 r off n ps) := by unfold cutBad; exact inferInstance
def cutStep (a1 : Bool) (r : Rct) (st : Option (Int × List Rct × List Rct)) (n : Int) : Option (Int × List Rct × List Rct) :=
  match st with
  | none => none
  | some (off, ps, ls) => if cutBad a1 r off n ps then none else some (cutO off ps + n, ps ++ [cutP a1 r (cutO off ps) n], cutL a1 r off ps ls)
def cutF (a1 : Bool) (r : Rct) (l : List Int) : Option (Int × List Rct × List Rct) := l.foldl (cutStep a1 r) (some (0, [], []))
def cutS (r : Rct) (ax : Int) (l : List Int) : Option (List Rct × List Rct) :=
  if r.may = true ∧ 1 ≤ ax ∧ ax ≤ 2 ∧ l ≠ [] then
    match cutF (ax == 1) r l with
    | some (off, ps, ls) => if off = cutW (ax == 1) r then some (ps, ls) else none
    | none => none
  else none
def cutV : Option (List Rct × List Rct) → IV
  | some (ps, ls) => .tup [.list .plain (ps.map Rct.row), .list .plain (ls.map Rct.row), .bool true]
  | none => .tup [.list .plain [], .list .plain [], .bool false]

theorem cut_none (a1 : Bool) (r : Rct) (l : List Int) : l.foldl (cutStep a1 r) none = none := by
  induction l with
  | nil => rfl
  | cons n l ih => exact ih
theorem cutF_succ (a1 : Bool) (r : Rct) (l : List Int) (i : Nat) (h : i < l.length) : cutF a1 r (l.take (i + 1)) = cutStep a1 r (cutF a1 r (l.take i)) l[i] := by
  have e : l.take (i + 1) = l.take i ++ [l[i]] := by rw [List.take_add_one, List.getElem?_eq_getElem h]; rfl
  rw [cutF, e, List.foldl_append, cutF]; rfl
theorem cutF_stop (a1 : Bool) (r : Rct) (l : List Int) (i : Nat) (h : cutF a1 r (l.take i) = none) : cutF a1 r l = none := by
  have : cutF a1 r l = (l.drop i).foldl (cutStep a1 r) (cutF a1 r (l.take i)) := by
    rw [cutF, cutF, ← List.foldl_append, List.take_append_drop]
  rw [this, h, cut_none]
theorem cutF_len (a1 : Bool) (r : Rct) (l : List Int) (off ps ls) (h : cutF a1 r l = some (off, ps, ls)) : ps.length = l.length ∧ ls.length ≤ l.length ∧ 0 ≤ off ∧ (l ≠ [] → off ≤ cutW a1 r) := by
  suffices H : ∀ (l2 : List Int) (o1 : Int) (p1 l1 : List Rct), l2.foldl (cutStep a1 r) (some (o1, p1, l1)) = some (off, ps, ls) → 0 ≤ o1 → ps.length = p1.length + l2.length ∧ ls.length ≤ l1.length + l2.length ∧ 0 ≤ off ∧ (l2 ≠ [] → off ≤ cutW a1 r) by
    have := H l 0 [] [] h (Int.le_refl _)
    simpa using this
  intro l2
  induction l2 with
  | nil => intro o1 p1 l1 h h0; cases h; simp [h0]
  | cons n l2 ih =>
    intro o1 p1 l1 h h0
    rw [List.foldl_cons] at h
    have h1 : 0 ≤ cutO o1 p1 := by unfold cutO; split <;> omega
    have h2 : (cutL a1 r o1 p1 l1).length ≤ l1.length + 1 := by unfold cutL; split <;> simp
    by_cases hc : cutBad a1 r o1 n p1
    · rw [cutStep, if_pos hc, cut_none] at h; cases h
    · rw [cutStep, if_neg hc] at h
      have hc' : 1 ≤ n ∧ n ≤ cutW a1 r ∧ cutO o1 p1 + n ≤ cutW a1 r := by unfold cutBad at hc; omega
      obtain ⟨k1, k2, k3, k4⟩ := ih _ _ _ h (by omega)
      refine ⟨by simp at k1 ⊢; omega, by simp; omega, k3, fun _ => ?_⟩
      cases l2 with
      | nil => cases h; exact hc'.2.2
      | cons _ _ => exact k4 (by simp)
end Go.Proofs

set_option linter.unusedVariables false
set_option linter.unusedSimpArgs false
set_option pp.deepTerms false
set_option pp.maxSteps 400
namespace Go.Proofs
open Go.Idl

end Go.Proofs

set_option linter.unusedVariables false
set_option linter.unusedSimpArgs false
set_option pp.deepTerms false
set_option pp.maxSteps 400
namespace Go.Proofs
open Go.Idl

/-- a cell alone is right -/
def Cel.Ok (d : Cel) : Prop := d.r.may = true ∧ ((d.kind = 1 ∧ d.kids.length = 0 ∧ 0 ≤ d.id ∧ d.id ≤ 2147483647) ∨ ((d.kind = 2 ∨ d.kind = 3) ∧ 2 ≤ d.kids.length ∧ d.id = 0))
instance (d : Cel) : Decidable d.Ok := by unfold Cel.Ok; exact inferInstance
def Cel.may (c : Cel) : Bool := decide (c.size ≤ 20000 ∧ (∀ d ∈ c.all, d.Ok) ∧ c.ids.Nodup)

end Go.Proofs

set_option linter.unusedVariables false
set_option linter.unusedSimpArgs false
set_option pp.deepTerms false
set_option pp.maxSteps 400
namespace Go.Proofs
open Go.Idl

def Cel.one (c : Cel) : Option (List Rct) :=
  if c.kind = 1 then some [] else
  match cutS c.r (c.kind - 1) c.szs with
  | some (ps, ls) => if ps = c.kids.map Cel.r then some ls else none
  | none => none
theorem cutS_len {r : Rct} {ax : Int} {l : List Int} {ps ls : List Rct} (h : cutS r ax l = some (ps, ls)) : ps.length = l.length ∧ ls.length ≤ l.length := by
  unfold cutS at h
  split at h
  · split at h
    · rename_i off ps' ls' hF
      split at h
      · cases h; have := cutF_len _ _ _ _ _ _ hF; exact ⟨this.1, this.2.1⟩
      · cases h
    · cases h
  · cases h

theorem wrap_u8 {n : Int} (h : 0 ≤ n ∧ n ≤ 255) : IntKind.u8.wrap n = n := Go.IntWalk.u8_in _ (by omega)

def chkL : List Cel → Nat → List Rct → List Rct × Int × Int
  | [], _, acc => (acc, 0, 0)
  | d :: ds, i, acc => match d.one with | some ls => chkL ds (i + 1) (acc ++ ls) | none => ([], 5, i)
def Cel.check (c : Cel) : List Rct × Int × Int := if c.may = true then chkL c.all 0 [] else ([], 1, 0)
def Cel.tiles (c : Cel) : Bool := decide (c.check.2.1 = 0)

theorem mem_alls {d : Cel} : ∀ {l : List Cel}, d ∈ Cel.alls l → ∃ k ∈ l, d ∈ k.all
  | [], h => by simp [Cel.alls] at h
  | c :: cs, h => by
    simp only [Cel.alls, List.mem_append] at h
    rcases h with h | h
    · exact ⟨c, List.mem_cons_self, h⟩
    · obtain ⟨k, h1, h2⟩ := mem_alls h; exact ⟨k, List.mem_cons_of_mem _ h1, h2⟩
theorem one_len {c : Cel} {ls : List Rct} (h : c.one = some ls) : ls.length ≤ c.kids.length := by
  unfold Cel.one at h
  split at h
  · cases h; simp
  · split at h
    · rename_i ps ls' hc
      split at h
      · cases h; have := (cutS_len hc).2; simpa [Cel.szs] using this
      · cases h
    · cases h

end Go.Proofs

set_option linter.unusedVariables false
set_option linter.unusedSimpArgs false
set_option pp.deepTerms false
set_option pp.maxSteps 400
namespace Go.Proofs
open Go.Idl

mutual
/-- how many leaves -/
def Cel.lv : Cel → Nat
  | .mk k _ _ kids => (if k = 1 then 1 else 0) + Cel.lvs kids
def Cel.lvs : List Cel → Nat
  | [] => 0
  | c :: cs => c.lv + Cel.lvs cs
end
mutual
/-- leaves have these numbers -/
def Cel.nm : Cel → List Int → Cel
  | .mk k r id kids, ids => .mk k r (if k = 1 then ids.headD 0 else id) (Cel.nms kids (ids.drop (if k = 1 then 1 else 0)))
def Cel.nms : List Cel → List Int → List Cel
  | [], _ => []
  | c :: cs, ids => c.nm ids :: Cel.nms cs (ids.drop c.lv)
end
end Go.Proofs

set_option linter.unusedVariables false
set_option linter.unusedSimpArgs false
set_option pp.deepTerms false
set_option pp.maxSteps 400
namespace Go.Proofs
open Go.Idl

def idxR (Inv Hit : Nat → Heap → Prop) (n : Nat) (e : IEnd) (h' : Heap) : Prop := (e = .ret (.int .i64 (-1)) ∧ Inv n h') ∨ ∃ i : Nat, i < n ∧ e = .ret (.int .i64 i) ∧ Hit i h'
def conR (Inv Hit : Nat → Heap → Prop) (n : Nat) (e : IEnd) (h' : Heap) : Prop := (e = .ret (.bool false) ∧ Inv n h') ∨ ∃ i : Nat, i < n ∧ e = .ret (.bool true) ∧ Hit i h'
set_option maxRecDepth 20000 in
set_option maxHeartbeats 4000000 in
theorem rmay_c (r : Rct) (h : Heap) : ICall Tryz.prog 249 [.agg r.row] h (retP (.bool r.may) h) := by
  refine icall_of_iwp (fun _ => 0) Tryz.func249 rfl (by kernel_rfl) (Nat.le_of_ble_eq_true rfl) ?_
  rw [Tryz.results249]
  simp -implicitDefEqProofs [go_sem]
  refine cK_dec (fun h0 => ?_) (fun h0 => ?_) <;> simp -implicitDefEqProofs [go_sem]
  rotate_left
  · exact ⟨h, Sub.refl _, by simp [retP, Rct.may]; omega⟩
  refine cK_dec (fun h1 => ?_) (fun h1 => ?_) <;> simp -implicitDefEqProofs [go_sem]
  rotate_left
  · exact ⟨h, Sub.refl _, by simp [retP, Rct.may]; omega⟩
  refine cK_dec (fun h2 => ?_) (fun h2 => ?_) <;> simp -implicitDefEqProofs [go_sem]
  rotate_left
  · exact ⟨h, Sub.refl _, by simp [retP, Rct.may]; omega⟩
  rw [wrap_in (by omega)]
  refine cK_dec (fun h3 => ?_) (fun h3 => ?_) <;> simp -implicitDefEqProofs [go_sem]
  rotate_left
  · exact ⟨h, Sub.refl _, by simp [retP, Rct.may]; omega⟩
  refine cK_dec (fun h4 => ?_) (fun h4 => ?_) <;> simp -implicitDefEqProofs [go_sem]
  rotate_left
  · exact ⟨h, Sub.refl _, by simp [retP, Rct.may]; omega⟩
  refine cK_dec (fun h5 => ?_) (fun h5 => ?_) <;> simp -implicitDefEqProofs [go_sem]
  rotate_left
  · exact ⟨h, Sub.refl _, by simp [retP, Rct.may]; omega⟩
  refine cK_dec (fun h6 => ?_) (fun h6 => ?_) <;> simp -implicitDefEqProofs [go_sem]
  rotate_left
  · exact ⟨h, Sub.refl _, by simp [retP, Rct.may]; omega⟩
  rw [wrap_in (by omega)]
  refine ⟨h, Sub.refl _, ?_, rfl⟩
  rw [Rct.may]
  congr 2
  rw [decide_eq_decide]
  omega

theorem rmay1_c (r : Rct) (h : Heap) : ICall Tryz.prog 248 [.agg r.row] h (retP (.bool (!r.may)) h) := by
  refine icall_of_iwp (fun _ => 0) Tryz.func248 rfl (by kernel_rfl) (Nat.le_of_ble_eq_true rfl) ?_
  rw [Tryz.results248]
  simp -implicitDefEqProofs [go_sem]
  refine (rmay_c r h).mono ?_
  rintro e h' ⟨rfl, rfl⟩
  simp -implicitDefEqProofs [go_sem]
  exact ⟨h', Sub.refl _, rfl, rfl⟩

theorem indexFunc_rct {l : List Rct} {f : FuncId} {first cap : List IV} {Inv Hit : Nat → Heap → Prop} (hl : l.length < 100000000000)
    (hstep : ∀ i (hi : i < l.length) h, Inv i h → ICall Tryz.prog f (first ++ [.agg l[i].row] ++ cap) h fun e h' => (e = .ret (.bool false) ∧ Inv (i + 1) h') ∨ (e = .ret (.bool true) ∧ Hit i h')) (h : Heap) (h0 : Inv 0 h) :
    ICall Tryz.prog 288 [.list .plain (l.map Rct.row), .fn (.func f) first cap] h (idxR Inv Hit l.length) := by
  refine icall_of_iwp (fun _ => 0) Tryz.func288 rfl (by kernel_rfl) (Nat.le_of_ble_eq_true rfl) ?_
  rw [Tryz.results288]
  simp -implicitDefEqProofs [go_sem]
  refine iwp_loopF (rng [4,5] 8 18) nom (fun s => ∃ i, i ≤ l.length ∧ s.t 8 = .int .i64 i ∧ Inv i s.h) (fun s => l.length - tn (s.t 8)) ?_ ?_
  · exact ⟨0, Nat.zero_le _, by simp -implicitDefEqProofs [go_sem], by simpa -implicitDefEqProofs [go_sem] using h0⟩
  rintro J s hJ hf ⟨i, hi, h8, hinv⟩
  simp -implicitDefEqProofs [go_sem, h8, hf.t, hf.m]
  refine cK_dec (fun hlt => ?_) (fun hge => ?_)
  · have hg : l[i]? = some l[i] := List.getElem?_eq_getElem hlt
    have hw := wrap_succ (i := i) (by omega)
    simp -implicitDefEqProofs [go_sem, h8, hf.t, hf.m, hlt, hg]
    have hs := hstep i hlt _ hinv
    simp only [List.append_assoc, List.singleton_append, List.cons_append, List.nil_append] at hs
    refine hs.mono ?_
    rintro e h' (⟨rfl, hi'⟩ | ⟨rfl, hi'⟩)
    · simp -implicitDefEqProofs [go_sem, h8, hf.t, hf.m, hf, hlt, hg, hw]
      exact hJ _ ⟨i + 1, by omega, by simp -implicitDefEqProofs [go_sem, hw], by simpa -implicitDefEqProofs [go_sem] using hi'⟩ (by simp [go_sem, h8, hw]; omega)
    · simp -implicitDefEqProofs [go_sem, h8, hf.t, hf.m, hf, hlt, hg, hw]
      exact ⟨h', Sub.refl _, .inr ⟨i, hlt, rfl, hi'⟩⟩
  · simp -implicitDefEqProofs [go_sem, h8, hf.t, hf.m]
    obtain rfl : i = l.length := by omega
    exact ⟨s.h, Sub.refl _, .inl ⟨rfl, hinv⟩⟩

theorem containsFunc_rct {l : List Rct} {f : FuncId} {first cap : List IV} {Inv Hit : Nat → Heap → Prop} (hl : l.length < 100000000000)
    (hstep : ∀ i (hi : i < l.length) h, Inv i h → ICall Tryz.prog f (first ++ [.agg l[i].row] ++ cap) h fun e h' => (e = .ret (.bool false) ∧ Inv (i + 1) h') ∨ (e = .ret (.bool true) ∧ Hit i h')) (h : Heap) (h0 : Inv 0 h) :
    ICall Tryz.prog 247 [.list .plain (l.map Rct.row), .fn (.func f) first cap] h (conR Inv Hit l.length) := by
  refine icall_of_iwp (fun _ => 0) Tryz.func247 rfl (by kernel_rfl) (Nat.le_of_ble_eq_true rfl) ?_
  rw [Tryz.results247]
  simp -implicitDefEqProofs [go_sem]
  refine (indexFunc_rct hl hstep h h0).mono ?_
  rintro e h' (⟨rfl, hi'⟩ | ⟨i, hi, rfl, hi'⟩)
  · simp -implicitDefEqProofs [go_sem]
    exact ⟨h', Sub.refl _, .inl ⟨rfl, hi'⟩⟩
  · simp -implicitDefEqProofs [go_sem]
    exact ⟨h', Sub.refl _, .inr ⟨i, hi, rfl, hi'⟩⟩

theorem indexFunc_cel {l : List Cel} {f : FuncId} {first cap : List IV} {Inv Hit : Nat → Heap → Prop} (hl : l.length < 100000000000)
    (hstep : ∀ i (hi : i < l.length) h, Inv i h → ICall Tryz.prog f (first ++ [.agg l[i].row] ++ cap) h fun e h' => (e = .ret (.bool false) ∧ Inv (i + 1) h') ∨ (e = .ret (.bool true) ∧ Hit i h')) (h : Heap) (h0 : Inv 0 h) :
    ICall Tryz.prog 286 [.list .plain (l.map Cel.row), .fn (.func f) first cap] h (idxR Inv Hit l.length) := by
  refine icall_of_iwp (fun _ => 0) Tryz.func286 rfl (by kernel_rfl) (Nat.le_of_ble_eq_true rfl) ?_
  rw [Tryz.results286]
  simp -implicitDefEqProofs [go_sem]
  refine iwp_loopF (rng [4,5] 8 18) nom (fun s => ∃ i, i ≤ l.length ∧ s.t 8 = .int .i64 i ∧ Inv i s.h) (fun s => l.length - tn (s.t 8)) ?_ ?_
  · exact ⟨0, Nat.zero_le _, by simp -implicitDefEqProofs [go_sem], by simpa -implicitDefEqProofs [go_sem] using h0⟩
  rintro J s hJ hf ⟨i, hi, h8, hinv⟩
  simp -implicitDefEqProofs [go_sem, h8, hf.t, hf.m]
  refine cK_dec (fun hlt => ?_) (fun hge => ?_)
  · have hg : l[i]? = some l[i] := List.getElem?_eq_getElem hlt
    have hw := wrap_succ (i := i) (by omega)
    simp -implicitDefEqProofs [go_sem, h8, hf.t, hf.m, hlt, hg]
    have hs := hstep i hlt _ hinv
    simp only [List.append_assoc, List.singleton_append, List.cons_append, List.nil_append] at hs
    refine hs.mono ?_
    rintro e h' (⟨rfl, hi'⟩ | ⟨rfl, hi'⟩)
    · simp -implicitDefEqProofs [go_sem, h8, hf.t, hf.m, hf, hlt, hg, hw]
      exact hJ _ ⟨i + 1, by omega, by simp -implicitDefEqProofs [go_sem, hw], by simpa -implicitDefEqProofs [go_sem] using hi'⟩ (by simp [go_sem, h8, hw]; omega)
    · simp -implicitDefEqProofs [go_sem, h8, hf.t, hf.m, hf, hlt, hg, hw]
      exact ⟨h', Sub.refl _, .inr ⟨i, hlt, rfl, hi'⟩⟩
  · simp -implicitDefEqProofs [go_sem, h8, hf.t, hf.m]
    obtain rfl : i = l.length := by omega
    exact ⟨s.h, Sub.refl _, .inl ⟨rfl, hinv⟩⟩

theorem containsFunc_cel {l : List Cel} {f : FuncId} {first cap : List IV} {Inv Hit : Nat → Heap → Prop} (hl : l.length < 100000000000)
    (hstep : ∀ i (hi : i < l.length) h, Inv i h → ICall Tryz.prog f (first ++ [.agg l[i].row] ++ cap) h fun e h' => (e = .ret (.bool false) ∧ Inv (i + 1) h') ∨ (e = .ret (.bool true) ∧ Hit i h')) (h : Heap) (h0 : Inv 0 h) :
    ICall Tryz.prog 244 [.list .plain (l.map Cel.row), .fn (.func f) first cap] h (conR Inv Hit l.length) := by
  refine icall_of_iwp (fun _ => 0) Tryz.func244 rfl (by kernel_rfl) (Nat.le_of_ble_eq_true rfl) ?_
  rw [Tryz.results244]
  simp -implicitDefEqProofs [go_sem]
  refine (indexFunc_cel hl hstep h h0).mono ?_
  rintro e h' (⟨rfl, hi'⟩ | ⟨i, hi, rfl, hi'⟩)
  · simp -implicitDefEqProofs [go_sem]
    exact ⟨h', Sub.refl _, .inl ⟨rfl, hi'⟩⟩
  · simp -implicitDefEqProofs [go_sem]
    exact ⟨h', Sub.refl _, .inr ⟨i, hi, rfl, hi'⟩⟩

theorem rMay_c (l : List Rct) (hl : l.length < 100000000000) (h : Heap) : ICall Tryz.prog 199 [.list .plain (l.map Rct.row)] h (retP (.bool (l.all Rct.may)) h) := by
  refine icall_of_iwp (fun _ => 0) Tryz.func199 rfl (by kernel_rfl) (Nat.le_of_ble_eq_true rfl) ?_
  rw [Tryz.results199]
  simp -implicitDefEqProofs [go_sem]
  refine (containsFunc_rct (Inv := fun i h' => h' = h ∧ ∀ r ∈ l.take i, r.may = true) (Hit := fun i h' => h' = h ∧ ∃ hi : i < l.length, l[i].may = false) hl ?_ h ⟨rfl, by simp⟩).mono ?_
  · rintro i hi h1 ⟨rfl, hall⟩
    refine (rmay1_c l[i] h1).mono ?_
    rintro e h' ⟨rfl, rfl⟩
    cases hb : l[i].may with
    | false => exact .inr ⟨rfl, rfl, hi, hb⟩
    | true =>
      refine .inl ⟨rfl, rfl, fun r hr => ?_⟩
      rw [List.take_add_one, List.getElem?_eq_getElem hi] at hr
      rcases List.mem_append.1 hr with h1 | h1
      · exact hall r h1
      · simp at h1; subst h1; exact hb
  · rintro e h' (⟨rfl, rfl, hall⟩ | ⟨i, hi, rfl, rfl, _, hb⟩)
    · simp -implicitDefEqProofs [go_sem]
      refine ⟨h', Sub.refl _, ?_, rfl⟩
      have : l.all Rct.may = true := by rw [List.all_eq_true]; rw [List.take_length] at hall; exact hall
      rw [this]
    · simp -implicitDefEqProofs [go_sem]
      refine ⟨h', Sub.refl _, ?_, rfl⟩
      have : l.all Rct.may = false := by rw [List.all_eq_false]; exact ⟨_, List.getElem_mem hi, by simp [hb]⟩
      rw [this]
end Go.Proofs

set_option linter.unusedVariables false
set_option linter.unusedSimpArgs false
set_option pp.deepTerms false
set_option pp.maxSteps 400
namespace Go.Proofs
open Go.Idl

def Cel.nodeB (c : Cel) : Bool := decide ((c.kind = 1 ∧ c.kids.length = 0 ∧ 0 ≤ c.id ∧ c.id ≤ 2147483647) ∨ ((c.kind = 2 ∨ c.kind = 3) ∧ 2 ≤ c.kids.length ∧ c.id = 0))

set_option maxRecDepth 20000 in
set_option maxHeartbeats 4000000 in
theorem node_c (c : Cel) (h : Heap) : ICall Tryz.prog 324 [.agg c.row] h (retP (.bool c.nodeB) h) := by
  refine icall_of_iwp (fun _ => 0) Tryz.func324 rfl (by kernel_rfl) (Nat.le_of_ble_eq_true rfl) ?_
  rw [Tryz.results324]
  simp -implicitDefEqProofs [go_sem]
  refine cK_beq (fun k1 => ?_) (fun k1 => ?_) <;> simp -implicitDefEqProofs [go_sem]
  · refine cK_beq (fun k2 => ?_) (fun k2 => ?_) <;> simp -implicitDefEqProofs [go_sem]
    rotate_left
    · exact ⟨h, Sub.refl _, by rw [show c.nodeB = false by rw [Cel.nodeB, decide_eq_false_iff_not]; omega], rfl⟩
    refine cK_dec (fun k3 => ?_) (fun k3 => ?_) <;> simp -implicitDefEqProofs [go_sem]
    rotate_left
    · exact ⟨h, Sub.refl _, by rw [show c.nodeB = false by rw [Cel.nodeB, decide_eq_false_iff_not]; omega], rfl⟩
    refine ⟨h, Sub.refl _, ?_, rfl⟩
    rw [Cel.nodeB]; congr 2; rw [decide_eq_decide]; omega
  · refine cK_beq (fun k2 => ?_) (fun k2 => ?_)
    · simp -implicitDefEqProofs [go_sem, k2]
      refine cK_dec (fun k3 => ?_) (fun k3 => ?_) <;> simp -implicitDefEqProofs [go_sem]
      rotate_left
      · exact ⟨h, Sub.refl _, by rw [show c.nodeB = false by rw [Cel.nodeB, decide_eq_false_iff_not]; omega], rfl⟩
      refine ⟨h, Sub.refl _, ?_, rfl⟩
      rw [Cel.nodeB]; congr 2; rw [Bool.eq_iff_iff]; simp only [beq_iff_eq, decide_eq_true_eq]; omega
    · simp -implicitDefEqProofs [go_sem, k2]
      refine cK_beq (fun k4 => ?_) (fun k4 => ?_)
      · simp -implicitDefEqProofs [go_sem, k4]
        refine cK_dec (fun k3 => ?_) (fun k3 => ?_) <;> simp -implicitDefEqProofs [go_sem]
        rotate_left
        · exact ⟨h, Sub.refl _, by rw [show c.nodeB = false by rw [Cel.nodeB, decide_eq_false_iff_not]; omega], rfl⟩
        refine ⟨h, Sub.refl _, ?_, rfl⟩
        rw [Cel.nodeB]; congr 2; rw [Bool.eq_iff_iff]; simp only [beq_iff_eq, decide_eq_true_eq]; omega
      · simp -implicitDefEqProofs [go_sem, k4]
        exact ⟨h, Sub.refl _, by rw [show c.nodeB = false by rw [Cel.nodeB, decide_eq_false_iff_not]; omega], rfl⟩

def nonR (Inv Hit : Nat → Heap → Prop) (n : Nat) (e : IEnd) (h' : Heap) : Prop := (e = .ret (.bool true) ∧ Inv n h') ∨ ∃ i : Nat, i < n ∧ e = .ret (.bool false) ∧ Hit i h'

theorem none_cel {l : List Cel} {f : FuncId} {first cap : List IV} {Inv Hit : Nat → Heap → Prop} (hl : l.length < 100000000000)
    (hstep : ∀ i (hi : i < l.length) h, Inv i h → ICall Tryz.prog f (first ++ [.agg l[i].row] ++ cap) h fun e h' => (e = .ret (.bool false) ∧ Inv (i + 1) h') ∨ (e = .ret (.bool true) ∧ Hit i h')) (h : Heap) (h0 : Inv 0 h) :
    ICall Tryz.prog 289 [.list .plain (l.map Cel.row), .fn (.func f) first cap] h (nonR Inv Hit l.length) := by
  refine icall_of_iwp (fun _ => 0) Tryz.func289 rfl (by kernel_rfl) (Nat.le_of_ble_eq_true rfl) ?_
  rw [Tryz.results289]
  simp -implicitDefEqProofs [go_sem]
  refine (containsFunc_cel hl hstep h h0).mono ?_
  rintro e h' (⟨rfl, hi'⟩ | ⟨i, hi, rfl, hi'⟩)
  · simp -implicitDefEqProofs [go_sem]
    exact ⟨h', Sub.refl _, .inl ⟨rfl, hi'⟩⟩
  · simp -implicitDefEqProofs [go_sem]
    exact ⟨h', Sub.refl _, .inr ⟨i, hi, rfl, hi'⟩⟩

/-- objects of the heap that hold a state, over any other objects -/
structure HM (σ : Type) where
  at' : σ → Heap → Heap
  up : ∀ s base b, at' s base b = none → ∀ s' o, upd (at' s' base) b (some o) = at' s' (upd base b (some o))
  ub : ∀ s base b, at' s base b = none → ∀ s' o, at' s' (upd base b (some o)) b = some o
  sub : ∀ s base base', Sub base base' → Sub (at' s base) (at' s base')
  bn : ∀ s base b, at' s base b = none → base b = none

def stepR {σ : Type} (M : HM σ) (t : Bool) (r : Option σ) (base : Heap) (e : IEnd) (h' : Heap) : Prop :=
  match r with
  | some s' => e = .ret (.bool t) ∧ h' = M.at' s' base
  | none => e = .ret (.bool !t) ∧ ∃ s', h' = M.at' s' base

theorem all1_of {σ : Type} (M : HM σ) (step : σ → Cel → Option σ) {f : FuncId} {first cap : List IV} {d : Cel} {s : σ} {base : Heap} {b : Nat} (hb : M.at' s base b = some (.cells [.fn (.func f) first cap]))
    (ha : ICall Tryz.prog 322 [.agg d.row, .fn (.func f) first cap] (M.at' s base) (stepR M true (d.all.foldlM step s) base)) :
    ICall Tryz.prog 349 [.agg d.row, .ptr b 0] (M.at' s base) (stepR M false (d.all.foldlM step s) base) := by
  refine icall_of_iwp (fun _ => 0) Tryz.func349 rfl (by kernel_rfl) (Nat.le_of_ble_eq_true rfl) ?_
  rw [Tryz.results349]
  simp -implicitDefEqProofs [go_sem, hb]
  refine ha.mono ?_
  intro e h' he
  cases hr : d.all.foldlM step s with
  | some s' =>
    rw [hr] at he
    obtain ⟨rfl, rfl⟩ := he
    simp -implicitDefEqProofs [go_sem]
    exact ⟨_, Sub.refl _, rfl, rfl⟩
  | none =>
    rw [hr] at he
    obtain ⟨rfl, s', rfl⟩ := he
    simp -implicitDefEqProofs [go_sem]
    exact ⟨_, Sub.refl _, rfl, s', rfl⟩

theorem alls_fold {σ : Type} (step : σ → Cel → Option σ) : ∀ (l : List Cel) (i : Nat) (h : i < l.length) (s : σ), (Cel.alls (l.take i)).foldlM step s = none → (Cel.alls l).foldlM step s = none
  | [], i, h, _, _ => by simp at h
  | c :: cs, 0, h, s, hn => by simp [Cel.alls] at hn
  | c :: cs, i + 1, h, s, hn => by
    simp only [List.take_succ_cons, Cel.alls, List.foldlM_append] at hn ⊢
    cases hc : c.all.foldlM step s with
    | none => rfl
    | some s1 =>
      rw [hc] at hn
      exact alls_fold step cs i (by simpa using h) s1 hn
theorem alls_fold_all {σ : Type} (step : σ → Cel → Option σ) (l : List Cel) (i : Nat) (s : σ) (hn : (Cel.alls (l.take i)).foldlM step s = none) : (Cel.alls l).foldlM step s = none := by
  by_cases h : i < l.length
  · exact alls_fold step l i h s hn
  · rwa [List.take_of_length_le (by omega)] at hn

theorem all_of {σ : Type} (M : HM σ) (step : σ → Cel → Option σ) {f : FuncId} {first cap : List IV} (N : Nat) (hN : N < 100000000000)
    (G : σ → Prop) (hG : ∀ s d s', G s → step s d = some s' → G s') (hw : ∀ s d base, G s → d.size ≤ N → ICall Tryz.prog f (first ++ [.agg d.row] ++ cap) (M.at' s base) (stepR M true (step s d) base)) (c : Cel) :
    ∀ (s : σ) (base : Heap), G s → c.size ≤ N → ICall Tryz.prog 322 [.agg c.row, .fn (.func f) first cap] (M.at' s base) (stepR M true (c.all.foldlM step s) base) := by
  induction c using Cel.induct
  rename_i c ih
  intro s base hg hc
  have hlen := Cel.len_le c.kids
  rw [c.size_eq] at hc
  have hc0 : c.size ≤ N := by rw [c.size_eq]; exact hc
  refine icall_of_iwp (fun d => if d = 3 then 1 else 0) Tryz.func322 rfl (by kernel_rfl) (Nat.le_of_ble_eq_true rfl) ?_
  rw [Tryz.results322]
  simp -implicitDefEqProofs [go_sem]
  intro b hb
  have hup := M.up s base b hb s
  have hsub : Sub base (upd base b (some (.cells [.fn (.func f) first cap]))) := (Sub.refl base).upd (M.bn _ _ _ hb) _
  have hub := fun s' => M.ub s base b hb s' (.cells [.fn (.func f) first cap])
  generalize hbase : upd base b (some (.cells [.fn (.func f) first cap])) = base' at hsub hub
  have hup' := hup (.cells [.fn (.func f) first cap])
  rw [hbase] at hup'
  simp -implicitDefEqProofs [go_sem, hup']
  have hcall := hw s c base' hg hc0
  simp only [List.append_assoc, List.singleton_append, List.cons_append, List.nil_append] at hcall
  refine hcall.mono ?_
  intro e h' he
  cases hr : step s c with
  | none =>
    rw [hr] at he
    obtain ⟨rfl, s', rfl⟩ := he
    simp -implicitDefEqProofs [go_sem]
    exact ⟨M.at' s' base, M.sub _ _ _ hsub, by rw [c.all_eq, List.foldlM_cons, hr]; exact ⟨rfl, s', rfl⟩⟩
  | some s1 =>
    rw [hr] at he
    obtain ⟨rfl, rfl⟩ := he
    have hg1 := hG _ _ _ hg hr
    have hfold : c.all.foldlM step s = (Cel.alls c.kids).foldlM step s1 := by rw [c.all_eq, List.foldlM_cons, hr]; rfl
    simp -implicitDefEqProofs [go_sem]
    refine (none_cel (Inv := fun i h => ∃ s2, G s2 ∧ (Cel.alls (c.kids.take i)).foldlM step s1 = some s2 ∧ h = M.at' s2 base') (Hit := fun i h => (Cel.alls c.kids).foldlM step s1 = none ∧ ∃ s', h = M.at' s' base') (by omega) ?_ _ ⟨s1, hg1, by simp [Cel.alls], rfl⟩).mono ?_
    · rintro i hi h ⟨s2, hg2, hs2, rfl⟩
      have hle := Cel.mem_le (List.getElem_mem hi)
      have h1 := all1_of M step (hub s2) (ih _ (List.getElem_mem hi) s2 base' hg2 (by omega))
      refine h1.mono ?_
      intro e h' he
      have htk := Cel.alls_take c.kids i hi
      cases hr2 : c.kids[i].all.foldlM step s2 with
      | none =>
        rw [hr2] at he
        obtain ⟨rfl, s', rfl⟩ := he
        refine .inr ⟨rfl, ?_, s', rfl⟩
        apply alls_fold_all step c.kids (i + 1)
        rw [htk, List.foldlM_append, hs2]; exact hr2
      | some s3 =>
        rw [hr2] at he
        obtain ⟨rfl, rfl⟩ := he
        refine .inl ⟨rfl, s3, ?_, ?_, rfl⟩
        · have : ∀ (l : List Cel) (s s' : σ), G s → l.foldlM step s = some s' → G s' := by
            intro l
            induction l with
            | nil => intro s s' hg h; cases h; exact hg
            | cons d l ihl =>
              intro s s' hg h
              rw [List.foldlM_cons] at h
              cases hd : step s d with
              | none => rw [hd] at h; cases h
              | some s4 => rw [hd] at h; exact ihl s4 s' (hG _ _ _ hg hd) h
          exact this _ _ _ hg2 hr2
        · rw [htk, List.foldlM_append, hs2]; exact hr2
    · rintro e h' (⟨rfl, s2, _, hs2, rfl⟩ | ⟨i, hi, rfl, hn, s', rfl⟩)
      · rw [List.take_length] at hs2
        simp -implicitDefEqProofs [go_sem]
        exact ⟨M.at' s2 base, M.sub _ _ _ hsub, by rw [hfold, hs2]; exact ⟨rfl, rfl⟩⟩
      · simp -implicitDefEqProofs [go_sem]
        exact ⟨M.at' s' base, M.sub _ _ _ hsub, by rw [hfold, hn]; exact ⟨rfl, s', rfl⟩⟩
end Go.Proofs

set_option linter.unusedVariables false
set_option linter.unusedSimpArgs false
set_option pp.deepTerms false
set_option pp.maxSteps 400
namespace Go.Proofs
open Go.Idl

def ents (l : List Int) : List (IV × IV) := l.map fun i => (.int .i64 i, .bool true)
/-- the heap of cell.may's closure -/
def mayH (nb qb mb : Nat) (s : Nat × List Int) (base : Heap) : Heap := upd (upd (upd base mb (some (.map (ents s.2)))) qb (some (.cells [.mapv mb]))) nb (some (.cells [.int .i64 s.1]))
def mayStep (s : Nat × List Int) (d : Cel) : Option (Nat × List Int) :=
  if s.1 + 1 ≤ 20000 ∧ d.nodeB = true ∧ d.r.may = true ∧ ¬ (d.kind = 1 ∧ d.id ∈ s.2) then some (s.1 + 1, if d.kind = 1 then s.2 ++ [d.id] else s.2) else none

theorem ents_find (n : Int) : ∀ l : List Int, ifind (.int .i64) (.int .i64 n) (ents l) = some (if n ∈ l then some (.bool true) else none)
  | [] => by simp [ents, ifind]
  | a :: l => by
    have ih := ents_find n l
    rw [ents] at ih ⊢
    simp only [List.map_cons, ifind, kEq]
    by_cases h : n = a
    · subst h; simp
    · have h' : (n == a) = false := by simpa using h
      simp [h', ih, h]
theorem ents_put (n : Int) : ∀ l : List Int, n ∉ l → iput (.int .i64) (.int .i64 n) (.bool true) (ents l) = some (ents (l ++ [n]))
  | [], _ => by simp [ents, iput]
  | a :: l, hn => by
    have ih := ents_put n l (fun h => hn (List.mem_cons_of_mem _ h))
    rw [ents] at ih ⊢
    have h : ¬ n = a := fun h => hn (h ▸ List.mem_cons_self)
    have h' : (n == a) = false := by simpa using h
    simp only [List.map_cons, iput, kEq, h', ih]
    simp [ents]
def mayR (nb qb mb : Nat) (r : Option (Nat × List Int)) (base : Heap) (e : IEnd) (h' : Heap) : Prop :=
      match r with
      | some s' => e = .ret (.bool true) ∧ h' = mayH nb qb mb s' base
      | none => e = .ret (.bool false) ∧ ∃ s', h' = mayH nb qb mb s' base

set_option maxRecDepth 20000 in
set_option maxHeartbeats 4000000 in
theorem may1_c {nb qb mb : Nat} (h1 : nb ≠ qb) (h2 : nb ≠ mb) (h3 : qb ≠ mb) (s : Nat × List Int) (hs : s.1 < 100000000000) (d : Cel) (base : Heap) :
    ICall Tryz.prog 323 [.agg d.row, .ptr nb 0, .ptr qb 0] (mayH nb qb mb s base) (mayR nb qb mb (mayStep s d) base) := by
  obtain ⟨n, ids⟩ := s
  simp only at hs
  obtain ⟨m, hm⟩ : ∃ m, m = n + 1 := ⟨_, rfl⟩
  have g1 : mayH nb qb mb (n, ids) base nb = some (.cells [.int .i64 n]) := by simp [mayH, upd]
  have g2 : upd (mayH nb qb mb (n, ids) base) nb (some (.cells [.int .i64 m])) = mayH nb qb mb (m, ids) base := by
    funext j; simp only [mayH, upd]; split <;> rfl
  have g3 : mayH nb qb mb (m, ids) base nb = some (.cells [.int .i64 m]) := by simp [mayH, upd]
  have g4 : mayH nb qb mb (m, ids) base qb = some (.cells [.mapv mb]) := by simp [mayH, upd, h1.symm]
  have g5 : mayH nb qb mb (m, ids) base mb = some (.map (ents ids)) := by simp [mayH, upd, h2.symm, h3.symm]
  have hw : IntKind.i64.wrap ((n : Int) + 1) = (m : Int) := by rw [wrap_in (by omega)]; omega
  have hno : ¬ (m ≤ 20000 ∧ d.nodeB = true ∧ d.r.may = true ∧ ¬ (d.kind = 1 ∧ d.id ∈ ids)) → mayStep (n, ids) d = none := fun h => by rw [mayStep, if_neg (by rw [← hm]; exact h)]
  refine icall_of_iwp (fun _ => 0) Tryz.func323 rfl (by kernel_rfl) (Nat.le_of_ble_eq_true rfl) ?_
  rw [Tryz.results323]
  simp -implicitDefEqProofs [go_sem, g1, hw, g2, g3]
  refine cK_dec (fun k1 => ?_) (fun k1 => ?_) <;> simp -implicitDefEqProofs [go_sem, g1, g2, g3]
  · rw [hno (by omega)]
    exact ⟨_, Sub.refl _, rfl, _, rfl⟩
  refine (node_c d _).mono ?_
  rintro e h' ⟨rfl, rfl⟩
  simp -implicitDefEqProofs [go_sem]
  refine cK_any (fun k2 => ?_) (fun k2 => ?_) <;> simp -implicitDefEqProofs [go_sem]
  · rw [hno (fun h => by simp [h.2.1] at k2)]
    exact ⟨_, Sub.refl _, rfl, _, rfl⟩
  have hrm := rMay_c [d.r] (by simp) (mayH nb qb mb (m, ids) base)
  simp only [List.map_cons, List.map_nil, List.all_cons, List.all_nil, Bool.and_true] at hrm
  refine hrm.mono ?_
  rintro e h' ⟨rfl, rfl⟩
  simp -implicitDefEqProofs [go_sem]
  refine cK_any (fun k3 => ?_) (fun k3 => ?_) <;> simp -implicitDefEqProofs [go_sem]
  · rw [hno (fun h => by simp [h.2.2.1] at k3)]
    exact ⟨_, Sub.refl _, rfl, _, rfl⟩
  have k2' : d.nodeB = true := by simpa using k2
  have k3' : d.r.may = true := by simpa using k3
  refine cK_beq (fun k4 => ?_) (fun k4 => ?_)
  · by_cases hin : d.id ∈ ids
    · simp -implicitDefEqProofs [go_sem, g4, g5, k4, ents_find, hin]
      rw [hno (fun h => h.2.2.2 ⟨k4, hin⟩)]
      exact ⟨_, Sub.refl _, rfl, _, rfl⟩
    · have hput := ents_put _ _ hin
      simp -implicitDefEqProofs [go_sem, g4, g5, k4, ents_find, hin, hput]
      have hst : mayStep (n, ids) d = some (m, ids ++ [d.id]) := by
        rw [mayStep, if_pos ⟨by simp only; omega, k2', k3', fun h => hin h.2⟩, if_pos k4, ← hm]
      refine ⟨_, Sub.refl _, ?_⟩
      rw [hst]
      refine ⟨rfl, ?_⟩
      funext j
      simp only [mayH, upd]
      by_cases j1 : j = mb
      · subst j1; simp [h2.symm, h3.symm]
      · simp [j1]
  · have hst : mayStep (n, ids) d = some (m, ids) := by
      rw [mayStep, if_pos ⟨by simp only; omega, k2', k3', fun h => k4 h.1⟩, if_neg k4, ← hm]
    have kb : (d.kind == 1) = false := by simpa using k4
    simp -implicitDefEqProofs [go_sem, g4, g5, kb]
    refine ⟨_, Sub.refl _, ?_⟩
    rw [hst]
    exact ⟨rfl, rfl⟩

def mayM (nb qb mb : Nat) (h1 : nb ≠ qb) (h2 : nb ≠ mb) (h3 : qb ≠ mb) : HM (Nat × List Int) where
  at' := mayH nb qb mb
  up s base b hb s' o := by
    have e1 : b ≠ nb := by rintro rfl; simp [mayH, upd] at hb
    have e2 : b ≠ qb := by rintro rfl; simp [mayH, upd] at hb; split at hb <;> simp_all
    have e3 : b ≠ mb := by rintro rfl; simp [mayH, upd] at hb; split at hb <;> simp_all
    funext j
    simp only [mayH, upd]
    by_cases j1 : j = b
    · subst j1; simp [e1, e2, e3]
    · simp [j1]
  ub s base b hb s' o := by
    have e1 : b ≠ nb := by rintro rfl; simp [mayH, upd] at hb
    have e2 : b ≠ qb := by rintro rfl; simp [mayH, upd] at hb; split at hb <;> simp_all
    have e3 : b ≠ mb := by rintro rfl; simp [mayH, upd] at hb; split at hb <;> simp_all
    simp [mayH, upd, e1, e2, e3]
  sub s base base' h := by
    intro b o hb
    simp only [mayH, upd] at hb ⊢
    split at hb
    · rw [if_pos (by assumption)]; exact hb
    · rw [if_neg (by assumption)]
      split at hb
      · rw [if_pos (by assumption)]; exact hb
      · rw [if_neg (by assumption)]
        split at hb
        · rw [if_pos (by assumption)]; exact hb
        · rw [if_neg (by assumption)]; exact h _ _ hb
  bn s base b hb := by
    simp only [mayH, upd] at hb
    split at hb
    · cases hb
    · split at hb
      · cases hb
      · split at hb
        · cases hb
        · exact hb

set_option maxRecDepth 20000 in
set_option maxHeartbeats 4000000 in
theorem cmay_c (c : Cel) (h : Heap) (hs : c.size < 100000000000) : ICall Tryz.prog 291 [.agg c.row] h (retP (.bool (c.all.foldlM mayStep (0, [])).isSome) h) := by
  refine icall_of_iwp (fun d => if d = 3 ∨ d = 4 then 1 else 0) Tryz.func291 rfl (by kernel_rfl) (Nat.le_of_ble_eq_true rfl) ?_
  rw [Tryz.results291]
  simp -implicitDefEqProofs [go_sem]
  intro b hb b1 hb1 b2 hb2
  have e1 : b1 ≠ b := by rintro rfl; simp [upd] at hb1
  have e2 : b2 ≠ b1 := by rintro rfl; simp [upd] at hb2
  have e3 : b2 ≠ b := by rintro rfl; simp [upd, e1.symm] at hb2
  have hH : (upd (upd (upd (upd (upd h b (some (.map []))) b1 (some (.cells [.nilmap]))) b1 (some (.cells [.mapv b]))) b2 (some (.cells [.int .i64 0]))) b2 (some (.cells [.int .i64 0]))) = (mayM b2 b1 b e2 e3 e1).at' (0, []) h := by
    funext j
    simp only [mayM, mayH, upd, ents, List.map_nil]
    by_cases j1 : j = b2
    · simp [j1]
    · by_cases j2 : j = b1
      · simp [j2]
      · simp [j1, j2]
  rw [hH]
  have hc := all_of (mayM b2 b1 b e2 e3 e1) mayStep (f := 323) (first := []) (cap := [.ptr b2 0, .ptr b1 0]) 99999999999 (by omega) (fun s => s.1 < 100000000) 
    (fun s d s' hg hs' => by
      unfold mayStep at hs'
      split at hs'
      · cases hs'; simp only; omega
      · cases hs')
    (fun s d base hg hd => (may1_c e2 e3 e1 s (by omega) d base).mono (fun e h' he => by
      unfold mayR at he
      unfold stepR
      cases hst : mayStep s d with
      | none => rw [hst] at he; exact he
      | some s' => rw [hst] at he; exact he)) c (0, []) h (by simp) (by omega)
  refine hc.mono ?_
  intro e h' he
  have hsub : ∀ s', Sub h ((mayM b2 b1 b e2 e3 e1).at' s' h) := by
    intro s' b' o hb'
    have hb1' : h b1 = none := by simpa [upd, e1] using hb1
    have hb2' : h b2 = none := by simpa [upd, e2, e3] using hb2
    simp only [mayM, mayH, upd]
    rw [if_neg (by rintro rfl; rw [hb2'] at hb'; cases hb'), if_neg (by rintro rfl; rw [hb1'] at hb'; cases hb'), if_neg (by rintro rfl; rw [hb] at hb'; cases hb')]
    exact hb'
  cases hr : c.all.foldlM mayStep (0, []) with
  | none =>
    rw [hr] at he
    obtain ⟨rfl, s', rfl⟩ := he
    simp -implicitDefEqProofs [go_sem]
    exact ⟨h, hsub _, rfl, rfl⟩
  | some s' =>
    rw [hr] at he
    obtain ⟨rfl, rfl⟩ := he
    simp -implicitDefEqProofs [go_sem]
    exact ⟨h, hsub _, rfl, rfl⟩

theorem foldl_may (l : List Cel) : ∀ (n : Nat) (ids : List Int), (l.foldlM mayStep (n, ids)).isSome = true ↔ (l = [] ∨ n + l.length ≤ 20000) ∧ (∀ d ∈ l, d.Ok) ∧ ((l.filter fun d => d.kind == 1).map Cel.id).Nodup ∧ ∀ d ∈ l, d.kind = 1 → d.id ∉ ids := by
  induction l with
  | nil => intro n ids; simp [List.foldlM]
  | cons d l ih =>
    intro n ids
    rw [List.foldlM_cons]
    have hOk : d.Ok ↔ d.nodeB = true ∧ d.r.may = true := by simp only [Cel.Ok, Cel.nodeB, decide_eq_true_eq]; exact And.comm
    by_cases hc : n + 1 ≤ 20000 ∧ d.nodeB = true ∧ d.r.may = true ∧ ¬ (d.kind = 1 ∧ d.id ∈ ids)
    · have hst : mayStep (n, ids) d = some (n + 1, if d.kind = 1 then ids ++ [d.id] else ids) := by rw [mayStep, if_pos hc]
      rw [hst]
      refine (ih _ _).trans ?_
      have hd : d.Ok := hOk.2 ⟨hc.2.1, hc.2.2.1⟩
      have hlen : (l = [] ∨ n + 1 + l.length ≤ 20000) ↔ (d :: l = [] ∨ n + (d :: l).length ≤ 20000) := by
        constructor
        · rintro (rfl | h)
          · right; simp; omega
          · right; simp; omega
        · rintro (h | h)
          · cases h
          · right; simp at h; omega
      rw [hlen]
      simp only [List.forall_mem_cons, hd, true_and]
      refine and_congr_right fun _ => and_congr_right fun _ => ?_
      by_cases hk : d.kind = 1
      · have hk' : (d.kind == 1) = true := by simpa using hk
        simp only [hk, if_true, List.filter_cons, beq_self_eq_true, List.map_cons, List.nodup_cons, List.mem_map, List.mem_filter, List.mem_append, List.mem_singleton, not_or]
        constructor
        · rintro ⟨h1, h2⟩
          refine ⟨⟨?_, h1⟩, ?_, fun x hx hxk => (h2 x hx hxk).1⟩
          · rintro ⟨x, ⟨hx, hxk⟩, hxe⟩
            exact (h2 x hx (by simpa using hxk)).2 hxe
          · intro _ h; exact hc.2.2.2 ⟨hk, h⟩
        · rintro ⟨⟨h0, h1⟩, h2, h3⟩
          refine ⟨h1, fun x hx hxk => ⟨h3 x hx hxk, fun he => h0 ⟨x, ⟨hx, by simpa using hxk⟩, he⟩⟩⟩
      · have hk' : (d.kind == 1) = false := by simpa using hk
        simp only [hk, if_false, List.filter_cons, hk', false_implies, true_and]
        simp
    · have hst : mayStep (n, ids) d = none := by rw [mayStep, if_neg hc]
      rw [hst]
      constructor
      · intro h; cases h
      · rintro ⟨h1, h2, h3, h4⟩
        exfalso
        apply hc
        have hd := hOk.1 (h2 d List.mem_cons_self)
        refine ⟨?_, hd.1, hd.2, fun h => h4 d List.mem_cons_self h.1 h.2⟩
        rcases h1 with h1 | h1
        · cases h1
        · simp at h1; omega

theorem may_fold (c : Cel) : (c.all.foldlM mayStep (0, [])).isSome = c.may := by
  rw [Bool.eq_iff_iff, foldl_may, Cel.may, decide_eq_true_eq]
  have h1 : c.all ≠ [] := by rw [c.all_eq]; simp
  have h2 := Cel.all_length c
  simp only [h1, false_or, Nat.zero_add, h2, List.not_mem_nil, not_false_eq_true, implies_true, and_true]
  rfl

theorem cmay'_c (c : Cel) (h : Heap) (hs : c.size < 100000000000) : ICall Tryz.prog 291 [.agg c.row] h (retP (.bool c.may) h) := by
  have := cmay_c c h hs
  rwa [may_fold] at this

theorem cmay1_c (c : Cel) (h : Heap) (hs : c.size < 100000000000) : ICall Tryz.prog 290 [.agg c.row] h (retP (.bool (!c.may)) h) := by
  refine icall_of_iwp (fun _ => 0) Tryz.func290 rfl (by kernel_rfl) (Nat.le_of_ble_eq_true rfl) ?_
  rw [Tryz.results290]
  simp -implicitDefEqProofs [go_sem]
  refine (cmay'_c c h hs).mono ?_
  rintro e h' ⟨rfl, rfl⟩
  simp -implicitDefEqProofs [go_sem]
  exact ⟨h', Sub.refl _, rfl, rfl⟩

theorem cMay_c (c : Cel) (h : Heap) (hs : c.size < 100000000000) : ICall Tryz.prog 251 [.list .plain [c.row]] h (retP (.bool c.may) h) := by
  refine icall_of_iwp (fun _ => 0) Tryz.func251 rfl (by kernel_rfl) (Nat.le_of_ble_eq_true rfl) ?_
  rw [Tryz.results251]
  simp -implicitDefEqProofs [go_sem]
  have hn := none_cel (l := [c]) (f := 290) (first := []) (cap := []) (Inv := fun i h' => h' = h ∧ (i = 1 → c.may = true)) (Hit := fun i h' => h' = h ∧ c.may = false) (by simp) (fun i hi h1 hh => by
    obtain ⟨rfl, _⟩ := hh
    obtain rfl : i = 0 := by simp at hi; exact hi
    refine (cmay1_c c h1 hs).mono ?_
    rintro e h' ⟨rfl, rfl⟩
    cases hb : c.may with
    | false => exact .inr ⟨rfl, rfl, rfl⟩
    | true => exact .inl ⟨rfl, rfl, fun _ => rfl⟩) h ⟨rfl, fun h => by cases h⟩
  simp only [List.map_cons, List.map_nil] at hn
  refine hn.mono ?_
  rintro e h' (⟨rfl, rfl, hm⟩ | ⟨i, hi, rfl, rfl, hm⟩)
  · simp -implicitDefEqProofs [go_sem]
    exact ⟨h', Sub.refl _, by rw [hm rfl], rfl⟩
  · simp -implicitDefEqProofs [go_sem]
    exact ⟨h', Sub.refl _, by rw [hm], rfl⟩
end Go.Proofs

set_option linter.unusedVariables false
set_option linter.unusedSimpArgs false
set_option pp.deepTerms false
set_option pp.maxSteps 400
namespace Go.Proofs
open Go.Idl

def turnR (r : Rct) (ax : Int) : Rct := if ax = 2 then ⟨r.y, r.x, r.h, r.w⟩ else if ax = 1 then r else ⟨0, 0, 0, 0⟩
def turnB (ax : Int) : Bool := decide (ax = 1 ∨ ax = 2)

@[go_sem] theorem Rct.zero_row : [IV.int .i64 0, IV.int .i64 0, IV.int .i64 0, IV.int .i64 0].length = 4 := rfl
theorem turned_c (r : Rct) (ax : Int) (h : Heap) : ICall Tryz.prog 370 [.agg r.row, .int .u8 ax] h (retP (.tup [.agg (turnR r ax).row, .bool (turnB ax)]) h) := by
  refine icall_of_iwp (fun _ => 0) Tryz.func370 rfl (by kernel_rfl) (Nat.le_of_ble_eq_true rfl) ?_
  rw [Tryz.results370]
  simp -implicitDefEqProofs [go_sem]
  refine cK_beq (fun k1 => ?_) (fun k1 => ?_)
  · simp -implicitDefEqProofs [go_sem]
    exact ⟨h, Sub.refl _, by rw [turnR, if_pos k1, turnB, k1]; rfl, rfl⟩
  · simp -implicitDefEqProofs [go_sem]
    refine cK_beq (fun k2 => ?_) (fun k2 => ?_)
    · simp -implicitDefEqProofs [go_sem]
      exact ⟨h, Sub.refl _, by rw [turnR, if_neg k1, if_pos k2, turnB, k2]; rfl, rfl⟩
    · simp -implicitDefEqProofs [go_sem]
      exact ⟨h, Sub.refl _, by rw [turnR, if_neg k1, if_neg k2, turnB, decide_eq_false (by omega)]; rfl, rfl⟩

set_option maxRecDepth 20000 in
set_option maxHeartbeats 4000000 in
theorem rCut_c (r : Rct) (ax : Int) (l : List Int) (h : Heap) (hl : l.length < 100000000000) : ICall Tryz.prog 366 [.agg r.row, .int .u8 ax, .list .plain (l.map intRow)] h (retP (cutV (cutS r ax l)) h) := by
  refine icall_of_iwp (fun _ => 0) Tryz.func366 rfl (by kernel_rfl) (Nat.le_of_ble_eq_true rfl) ?_
  rw [Tryz.results366]
  simp -implicitDefEqProofs [go_sem]
  refine (turned_c r ax h).mono ?_
  rintro e h' ⟨rfl, rfl⟩
  simp -implicitDefEqProofs [go_sem]
  refine cK_any (fun hm => ?_) (fun hm => ?_) <;> simp -implicitDefEqProofs [go_sem]
  · exact ⟨h', Sub.refl _, by rw [cutS, if_neg (by simp [turnB] at hm; omega)]; rfl, rfl⟩
  have hax : ax = 1 ∨ ax = 2 := by simp [turnB] at hm; omega
  refine (rmay_c r h').mono ?_
  rintro e h'' ⟨rfl, rfl⟩
  simp -implicitDefEqProofs [go_sem]
  refine cK_any (fun hm2 => ?_) (fun hm2 => ?_) <;> simp -implicitDefEqProofs [go_sem]
  · exact ⟨h'', Sub.refl _, by rw [cutS, if_neg (by simp at hm2; simp [hm2])]; rfl, rfl⟩
  refine cK_beq (fun h3 => ?_) (fun h3 => ?_) <;> simp -implicitDefEqProofs [go_sem]
  · exact ⟨h'', Sub.refl _, by rw [cutS, if_neg (by intro h; apply h.2.2.2; apply List.eq_nil_of_length_eq_zero; omega)]; rfl, rfl⟩
  have hm' : r.may = true := by simpa using hm2
  have hmb := hm'
  simp only [Rct.may, decide_eq_true_eq] at hmb
  have hne : l ≠ [] := fun e => h3 (by simp [e])
  clear hm hm2
  rcases hax with rfl | rfl
  · have hcs : cutS r 1 l = match cutF true r l with | some (off, ps, ls) => if off = cutW true r then some (ps, ls) else none | none => none := by
      rw [cutS, if_pos ⟨hm', by omega, by omega, hne⟩]; rfl
    have htr : turnR r 1 = r := rfl
    simp -implicitDefEqProofs [go_sem, htr]
    refine iwp_loopF (rng [6,7,8,11,12,13,14,15,16,17,18,19] 42 98) (fun k => k == 16 || k == 18) (fun s => ∃ i off ps ls, i ≤ l.length ∧ s.t 42 = .int .i64 i ∧ Own [94] s.x 125 (s.t 11) (ps.map Rct.row) ∧ Own [63] s.x 125 (s.t 12) (ls.map Rct.row) ∧ s.t 13 = .int .i64 (r.x + off) ∧ cutF true r (l.take i) = some (off, ps, ls) ∧ s.h = h'')
       (fun s => l.length - tn (s.t 42)) ?_ ?_
    · exact ⟨0, 0, [], [], by simp, by simp -implicitDefEqProofs [go_sem], by simp -implicitDefEqProofs [go_sem, Own.tight], by simp -implicitDefEqProofs [go_sem, Own.tight], by simp -implicitDefEqProofs [go_sem], rfl, by simp -implicitDefEqProofs [go_sem]⟩
    · rintro J s hJ hf ⟨i, off, ps, ls, hi, h42, ho1, ho2, h13, hF, hh⟩
      obtain ⟨tk1, h11⟩ := ho1.list
      obtain ⟨tk2, h12⟩ := ho2.list
      have hlen := cutF_len _ _ _ _ _ _ hF
      rw [List.length_take, Nat.min_eq_left hi] at hlen
      have hoff : 0 ≤ off ∧ off ≤ 10000 := by
        refine ⟨hlen.2.2.1, ?_⟩
        by_cases hz : l.take i = []
        · rw [hz] at hF; cases hF; omega
        · have := hlen.2.2.2 hz; simp only [cutW] at this; simp at this; omega
      have hwo : IntKind.i64.wrap (r.x + off + 1) = r.x + (off + 1) := by rw [wrap_in (by omega)]; omega
      simp -implicitDefEqProofs [go_sem, h42, h11, h12, h13, hh, hf.t, hf.m]
      refine cK_dec (fun hlt => ?_) (fun hge => ?_)
      · have hg : l[i]? = some l[i] := List.getElem?_eq_getElem hlt
        have hw := wrap_succ (i := i) (by omega)
        have hst := cutF_succ true r l i hlt
        rw [hF, cutStep] at hst
        have hbad : cutBad true r off l[i] ps → cutV (cutS r 1 l) = .tup [.list .plain [], .list .plain [], .bool false] := fun hb => by
          rw [if_pos hb] at hst
          rw [hcs, cutF_stop _ _ _ _ hst]; rfl
        simp -implicitDefEqProofs [go_sem, h42, h11, h12, h13, hh, hf.t, hf.m, hlt, hg]
        refine cK_dec (fun hi0 => ?_) (fun hi0 => ?_)
        · simp -implicitDefEqProofs [go_sem, h42, h11, h12, h13, hh, hf.t, hf.m, hlt, hg]
          refine (turned_c (⟨r.x + off, r.y, 1, r.h⟩ : Rct) 1 h'').mono ?_
          rintro e h4 ⟨rfl, h4e⟩
          rw [h4e]
          rw [show turnR (⟨r.x + off, r.y, 1, r.h⟩ : Rct) 1 = cutP true r off 1 from rfl]
          simp -implicitDefEqProofs [go_sem, h42, h11, h12, h13, hh, hf.t, hf.m, hlt, hg]
          refine aK_own (z := 4) (S := [63]) (rows := ls.map Rct.row) (by simpa -implicitDefEqProofs [go_sem, h12] using ho2) (by simp) elT_364 elZ_125 (by simp [roomy, byT_125]; omega) (Rct.rows_uni _) (by simp [uni, Rct.row_len]) ?_
          intro v2' x' ho2' hx'
          have ho1' : Own [94] x' 125 (s.t 11) (ps.map Rct.row) := ho1.congr (fun s hs => hx' s (by simp at hs ⊢; omega))
          have hps : ∃ p ps0, ps = p :: ps0 := by
            cases ps with
            | nil => simp at hlen; omega
            | cons p ps0 => exact ⟨p, ps0, rfl⟩
          have hcO : cutO off ps = off + 1 := by obtain ⟨p, ps0, rfl⟩ := hps; rfl
          have hcL : cutL true r off ps ls = ls ++ [cutP true r off 1] := by obtain ⟨p, ps0, rfl⟩ := hps; rfl
          have ho2c : Own [63] x' 125 v2' ((cutL true r off ps ls).map Rct.row) := by rw [hcL, List.map_append]; exact ho2'
          clear ho2' hx' ho1 ho2
          simp -implicitDefEqProofs [go_sem, h42, h11, h12, h13, hh, hf.t, hf.m, hlt, hg, hwo]
          refine cK_dec (fun hb1 => ?_) (fun hb1 => ?_) <;> simp -implicitDefEqProofs [go_sem, h42, h11, h12, h13, hh, hf.t, hf.m, hlt, hg, hwo]
          · exact ⟨h'', Sub.refl _, by rw [hbad (.inl hb1)], rfl⟩
          have hw1 : IntKind.i64.wrap (r.x + r.w) = r.x + r.w := wrap_in (by omega)
          have hw2 : IntKind.i64.wrap (r.x + r.w - (r.x + (off + 1))) = r.w - (off + 1) := by rw [wrap_in (by omega)]; omega
          have hw2' : IntKind.i64.wrap (r.w - (off + 1)) = r.w - (off + 1) := wrap_in (by omega)
          simp -implicitDefEqProofs [go_sem, hw1, hw2, hw2']
          refine cK_dec (fun hb2 => ?_) (fun hb2 => ?_) <;> simp -implicitDefEqProofs [go_sem, h42, h11, h12, h13, hh, hf.t, hf.m, hlt, hg, hw1, hw2, hw2', hwo]
          · exact ⟨h'', Sub.refl _, by rw [hbad (.inr (.inr (by rw [hcO]; simp only [cutW]; simp; omega)))], rfl⟩
          refine (turned_c (⟨r.x + (off + 1), r.y, l[i], r.h⟩ : Rct) 1 h'').mono ?_
          rintro e h5 ⟨rfl, h5e⟩
          rw [h5e]
          rw [show turnR (⟨r.x + (off + 1), r.y, l[i], r.h⟩ : Rct) 1 = cutP true r (off + 1) l[i] from rfl]
          simp -implicitDefEqProofs [go_sem, h42, h11, h12, h13, hh, hf.t, hf.m, hlt, hg, hw1, hw2, hw2', hwo]
          refine aK_own (z := 4) (S := [94]) (rows := ps.map Rct.row) (by simpa -implicitDefEqProofs [go_sem, h11] using ho1') (by simp) elT_364 elZ_125 (by simp [roomy, byT_125]; omega) (Rct.rows_uni _) (by simp [uni, Rct.row_len]) ?_
          intro v1' x'' ho1'' hx''
          have hw3 : IntKind.i64.wrap (r.x + (off + 1) + l[i]) = r.x + (off + 1 + l[i]) := by rw [wrap_in (by omega)]; omega
          simp -implicitDefEqProofs [go_sem, h42, h11, h12, h13, hh, hf.t, hf.m, hf, hlt, hg, hw, hw1, hw2, hw3, hwo]
          refine hJ _ ⟨i + 1, off + 1 + l[i], ps ++ [cutP true r (off + 1) l[i]], cutL true r off ps ls, by omega, by simp -implicitDefEqProofs [go_sem, hw], ?_, ?_, by simp -implicitDefEqProofs [go_sem, hw3], ?_, by simp -implicitDefEqProofs [go_sem]⟩ (by simp [go_sem, h42, hw]; omega)
          · rw [List.map_append]; simpa -implicitDefEqProofs [go_sem] using ho1''
          · have := ho2c.congr (x' := x'') (fun s hs => hx'' s (by simp at hs ⊢; omega))
            simpa -implicitDefEqProofs [go_sem, h12] using this
          · rw [hst, if_neg (by rw [cutBad, hcO]; simp only [cutW]; simp; omega), hcO]
        · have hi0' : i = 0 := by omega
          have hps : ps = [] := List.eq_nil_of_length_eq_zero (by omega)
          have hcO : cutO off ps = off := by rw [hps]; rfl
          have hcL : cutL true r off ps ls = ls := by rw [hps]; rfl
          have ho2c : Own [63] s.x 125 (s.t 12) ((cutL true r off ps ls).map Rct.row) := by rw [hcL]; exact ho2
          simp -implicitDefEqProofs [go_sem, h42, h11, h12, h13, hh, hf.t, hf.m, hlt, hg]
          refine cK_dec (fun hb1 => ?_) (fun hb1 => ?_) <;> simp -implicitDefEqProofs [go_sem, h42, h11, h12, h13, hh, hf.t, hf.m, hlt, hg]
          · exact ⟨h'', Sub.refl _, by rw [hbad (.inl hb1)], rfl⟩
          have hw1 : IntKind.i64.wrap (r.x + r.w) = r.x + r.w := wrap_in (by omega)
          have hw2 : IntKind.i64.wrap (r.x + r.w - (r.x + (off))) = r.w - (off) := by rw [wrap_in (by omega)]; omega
          have hw2' : IntKind.i64.wrap (r.w - (off)) = r.w - (off) := wrap_in (by omega)
          simp -implicitDefEqProofs [go_sem, hw1, hw2, hw2']
          refine cK_dec (fun hb2 => ?_) (fun hb2 => ?_) <;> simp -implicitDefEqProofs [go_sem, h42, h11, h12, h13, hh, hf.t, hf.m, hlt, hg, hw1, hw2, hw2']
          · exact ⟨h'', Sub.refl _, by rw [hbad (.inr (.inr (by rw [hcO]; simp only [cutW]; simp; omega)))], rfl⟩
          refine (turned_c (⟨r.x + (off), r.y, l[i], r.h⟩ : Rct) 1 h'').mono ?_
          rintro e h5 ⟨rfl, h5e⟩
          rw [h5e]
          rw [show turnR (⟨r.x + (off), r.y, l[i], r.h⟩ : Rct) 1 = cutP true r (off) l[i] from rfl]
          simp -implicitDefEqProofs [go_sem, h42, h11, h12, h13, hh, hf.t, hf.m, hlt, hg, hw1, hw2, hw2']
          refine aK_own (z := 4) (S := [94]) (rows := ps.map Rct.row) (by simpa -implicitDefEqProofs [go_sem, h11] using ho1) (by simp) elT_364 elZ_125 (by simp [roomy, byT_125]; omega) (Rct.rows_uni _) (by simp [uni, Rct.row_len]) ?_
          intro v1' x'' ho1'' hx''
          have hw3 : IntKind.i64.wrap (r.x + (off) + l[i]) = r.x + (off + l[i]) := by rw [wrap_in (by omega)]; omega
          simp -implicitDefEqProofs [go_sem, h42, h11, h12, h13, hh, hf.t, hf.m, hf, hlt, hg, hw, hw1, hw2, hw3]
          refine hJ _ ⟨i + 1, off + l[i], ps ++ [cutP true r (off) l[i]], cutL true r off ps ls, by omega, by simp -implicitDefEqProofs [go_sem, hw], ?_, ?_, by simp -implicitDefEqProofs [go_sem, hw3], ?_, by simp -implicitDefEqProofs [go_sem]⟩ (by simp [go_sem, h42, hw]; omega)
          · rw [List.map_append]; simpa -implicitDefEqProofs [go_sem] using ho1''
          · have := ho2c.congr (x' := x'') (fun s hs => hx'' s (by simp at hs ⊢; omega))
            simpa -implicitDefEqProofs [go_sem, h12] using this
          · rw [hst, if_neg (by rw [cutBad, hcO]; simp only [cutW]; simp; omega), hcO]
      · have hii : i = l.length := by omega
        rw [hii, List.take_length] at hF
        have hw1 : IntKind.i64.wrap (r.x + r.w) = r.x + r.w := wrap_in (by omega)
        simp -implicitDefEqProofs [go_sem, h42, h11, h12, h13, hh, hf.t, hf.m, hw1]
        refine cK_bne (fun hb => ?_) (fun hb => ?_) <;> simp -implicitDefEqProofs [go_sem, h42, h11, h12, h13, hh, hf.t, hf.m]
        · exact ⟨h'', Sub.refl _, by rw [hcs, hF]; simp only [cutW]; simp [show ¬ off = r.w from by omega]; rfl, rfl⟩
        · exact ⟨h'', Sub.refl _, by rw [hcs, hF]; simp only [cutW]; simp [show off = r.w from by omega]; rfl, rfl⟩
  · have hcs : cutS r 2 l = match cutF false r l with | some (off, ps, ls) => if off = cutW false r then some (ps, ls) else none | none => none := by
      rw [cutS, if_pos ⟨hm', by omega, by omega, hne⟩]; rfl
    have htr : turnR r 2 = (⟨r.y, r.x, r.h, r.w⟩ : Rct) := rfl
    simp -implicitDefEqProofs [go_sem, htr]
    refine iwp_loopF (rng [6,7,8,11,12,13,14,15,16,17,18,19] 42 98) (fun k => k == 16 || k == 18) (fun s => ∃ i off ps ls, i ≤ l.length ∧ s.t 42 = .int .i64 i ∧ Own [94] s.x 125 (s.t 11) (ps.map Rct.row) ∧ Own [63] s.x 125 (s.t 12) (ls.map Rct.row) ∧ s.t 13 = .int .i64 (r.y + off) ∧ cutF false r (l.take i) = some (off, ps, ls) ∧ s.h = h'')
       (fun s => l.length - tn (s.t 42)) ?_ ?_
    · exact ⟨0, 0, [], [], by simp, by simp -implicitDefEqProofs [go_sem], by simp -implicitDefEqProofs [go_sem, Own.tight], by simp -implicitDefEqProofs [go_sem, Own.tight], by simp -implicitDefEqProofs [go_sem], rfl, by simp -implicitDefEqProofs [go_sem]⟩
    · rintro J s hJ hf ⟨i, off, ps, ls, hi, h42, ho1, ho2, h13, hF, hh⟩
      obtain ⟨tk1, h11⟩ := ho1.list
      obtain ⟨tk2, h12⟩ := ho2.list
      have hlen := cutF_len _ _ _ _ _ _ hF
      rw [List.length_take, Nat.min_eq_left hi] at hlen
      have hoff : 0 ≤ off ∧ off ≤ 10000 := by
        refine ⟨hlen.2.2.1, ?_⟩
        by_cases hz : l.take i = []
        · rw [hz] at hF; cases hF; omega
        · have := hlen.2.2.2 hz; simp only [cutW] at this; simp at this; omega
      have hwo : IntKind.i64.wrap (r.y + off + 1) = r.y + (off + 1) := by rw [wrap_in (by omega)]; omega
      simp -implicitDefEqProofs [go_sem, h42, h11, h12, h13, hh, hf.t, hf.m]
      refine cK_dec (fun hlt => ?_) (fun hge => ?_)
      · have hg : l[i]? = some l[i] := List.getElem?_eq_getElem hlt
        have hw := wrap_succ (i := i) (by omega)
        have hst := cutF_succ false r l i hlt
        rw [hF, cutStep] at hst
        have hbad : cutBad false r off l[i] ps → cutV (cutS r 2 l) = .tup [.list .plain [], .list .plain [], .bool false] := fun hb => by
          rw [if_pos hb] at hst
          rw [hcs, cutF_stop _ _ _ _ hst]; rfl
        simp -implicitDefEqProofs [go_sem, h42, h11, h12, h13, hh, hf.t, hf.m, hlt, hg]
        refine cK_dec (fun hi0 => ?_) (fun hi0 => ?_)
        · simp -implicitDefEqProofs [go_sem, h42, h11, h12, h13, hh, hf.t, hf.m, hlt, hg]
          refine (turned_c (⟨r.y + off, r.x, 1, r.w⟩ : Rct) 2 h'').mono ?_
          rintro e h4 ⟨rfl, h4e⟩
          rw [h4e]
          rw [show turnR (⟨r.y + off, r.x, 1, r.w⟩ : Rct) 2 = cutP false r off 1 from rfl]
          simp -implicitDefEqProofs [go_sem, h42, h11, h12, h13, hh, hf.t, hf.m, hlt, hg]
          refine aK_own (z := 4) (S := [63]) (rows := ls.map Rct.row) (by simpa -implicitDefEqProofs [go_sem, h12] using ho2) (by simp) elT_364 elZ_125 (by simp [roomy, byT_125]; omega) (Rct.rows_uni _) (by simp [uni, Rct.row_len]) ?_
          intro v2' x' ho2' hx'
          have ho1' : Own [94] x' 125 (s.t 11) (ps.map Rct.row) := ho1.congr (fun s hs => hx' s (by simp at hs ⊢; omega))
          have hps : ∃ p ps0, ps = p :: ps0 := by
            cases ps with
            | nil => simp at hlen; omega
            | cons p ps0 => exact ⟨p, ps0, rfl⟩
          have hcO : cutO off ps = off + 1 := by obtain ⟨p, ps0, rfl⟩ := hps; rfl
          have hcL : cutL false r off ps ls = ls ++ [cutP false r off 1] := by obtain ⟨p, ps0, rfl⟩ := hps; rfl
          have ho2c : Own [63] x' 125 v2' ((cutL false r off ps ls).map Rct.row) := by rw [hcL, List.map_append]; exact ho2'
          clear ho2' hx' ho1 ho2
          simp -implicitDefEqProofs [go_sem, h42, h11, h12, h13, hh, hf.t, hf.m, hlt, hg, hwo]
          refine cK_dec (fun hb1 => ?_) (fun hb1 => ?_) <;> simp -implicitDefEqProofs [go_sem, h42, h11, h12, h13, hh, hf.t, hf.m, hlt, hg, hwo]
          · exact ⟨h'', Sub.refl _, by rw [hbad (.inl hb1)], rfl⟩
          have hw1 : IntKind.i64.wrap (r.y + r.h) = r.y + r.h := wrap_in (by omega)
          have hw2 : IntKind.i64.wrap (r.y + r.h - (r.y + (off + 1))) = r.h - (off + 1) := by rw [wrap_in (by omega)]; omega
          have hw2' : IntKind.i64.wrap (r.h - (off + 1)) = r.h - (off + 1) := wrap_in (by omega)
          simp -implicitDefEqProofs [go_sem, hw1, hw2, hw2']
          refine cK_dec (fun hb2 => ?_) (fun hb2 => ?_) <;> simp -implicitDefEqProofs [go_sem, h42, h11, h12, h13, hh, hf.t, hf.m, hlt, hg, hw1, hw2, hw2', hwo]
          · exact ⟨h'', Sub.refl _, by rw [hbad (.inr (.inr (by rw [hcO]; simp only [cutW]; simp; omega)))], rfl⟩
          refine (turned_c (⟨r.y + (off + 1), r.x, l[i], r.w⟩ : Rct) 2 h'').mono ?_
          rintro e h5 ⟨rfl, h5e⟩
          rw [h5e]
          rw [show turnR (⟨r.y + (off + 1), r.x, l[i], r.w⟩ : Rct) 2 = cutP false r (off + 1) l[i] from rfl]
          simp -implicitDefEqProofs [go_sem, h42, h11, h12, h13, hh, hf.t, hf.m, hlt, hg, hw1, hw2, hw2', hwo]
          refine aK_own (z := 4) (S := [94]) (rows := ps.map Rct.row) (by simpa -implicitDefEqProofs [go_sem, h11] using ho1') (by simp) elT_364 elZ_125 (by simp [roomy, byT_125]; omega) (Rct.rows_uni _) (by simp [uni, Rct.row_len]) ?_
          intro v1' x'' ho1'' hx''
          have hw3 : IntKind.i64.wrap (r.y + (off + 1) + l[i]) = r.y + (off + 1 + l[i]) := by rw [wrap_in (by omega)]; omega
          simp -implicitDefEqProofs [go_sem, h42, h11, h12, h13, hh, hf.t, hf.m, hf, hlt, hg, hw, hw1, hw2, hw3, hwo]
          refine hJ _ ⟨i + 1, off + 1 + l[i], ps ++ [cutP false r (off + 1) l[i]], cutL false r off ps ls, by omega, by simp -implicitDefEqProofs [go_sem, hw], ?_, ?_, by simp -implicitDefEqProofs [go_sem, hw3], ?_, by simp -implicitDefEqProofs [go_sem]⟩ (by simp [go_sem, h42, hw]; omega)
          · rw [List.map_append]; simpa -implicitDefEqProofs [go_sem] using ho1''
          · have := ho2c.congr (x' := x'') (fun s hs => hx'' s (by simp at hs ⊢; omega))
            simpa -implicitDefEqProofs [go_sem, h12] using this
          · rw [hst, if_neg (by rw [cutBad, hcO]; simp only [cutW]; simp; omega), hcO]
        · have hi0' : i = 0 := by omega
          have hps : ps = [] := List.eq_nil_of_length_eq_zero (by omega)
          have hcO : cutO off ps = off := by rw [hps]; rfl
          have hcL : cutL false r off ps ls = ls := by rw [hps]; rfl
          have ho2c : Own [63] s.x 125 (s.t 12) ((cutL false r off ps ls).map Rct.row) := by rw [hcL]; exact ho2
          simp -implicitDefEqProofs [go_sem, h42, h11, h12, h13, hh, hf.t, hf.m, hlt, hg]
          refine cK_dec (fun hb1 => ?_) (fun hb1 => ?_) <;> simp -implicitDefEqProofs [go_sem, h42, h11, h12, h13, hh, hf.t, hf.m, hlt, hg]
          · exact ⟨h'', Sub.refl _, by rw [hbad (.inl hb1)], rfl⟩
          have hw1 : IntKind.i64.wrap (r.y + r.h) = r.y + r.h := wrap_in (by omega)
          have hw2 : IntKind.i64.wrap (r.y + r.h - (r.y + (off))) = r.h - (off) := by rw [wrap_in (by omega)]; omega
          have hw2' : IntKind.i64.wrap (r.h - (off)) = r.h - (off) := wrap_in (by omega)
          simp -implicitDefEqProofs [go_sem, hw1, hw2, hw2']
          refine cK_dec (fun hb2 => ?_) (fun hb2 => ?_) <;> simp -implicitDefEqProofs [go_sem, h42, h11, h12, h13, hh, hf.t, hf.m, hlt, hg, hw1, hw2, hw2']
          · exact ⟨h'', Sub.refl _, by rw [hbad (.inr (.inr (by rw [hcO]; simp only [cutW]; simp; omega)))], rfl⟩
          refine (turned_c (⟨r.y + (off), r.x, l[i], r.w⟩ : Rct) 2 h'').mono ?_
          rintro e h5 ⟨rfl, h5e⟩
          rw [h5e]
          rw [show turnR (⟨r.y + (off), r.x, l[i], r.w⟩ : Rct) 2 = cutP false r (off) l[i] from rfl]
          simp -implicitDefEqProofs [go_sem, h42, h11, h12, h13, hh, hf.t, hf.m, hlt, hg, hw1, hw2, hw2']
          refine aK_own (z := 4) (S := [94]) (rows := ps.map Rct.row) (by simpa -implicitDefEqProofs [go_sem, h11] using ho1) (by simp) elT_364 elZ_125 (by simp [roomy, byT_125]; omega) (Rct.rows_uni _) (by simp [uni, Rct.row_len]) ?_
          intro v1' x'' ho1'' hx''
          have hw3 : IntKind.i64.wrap (r.y + (off) + l[i]) = r.y + (off + l[i]) := by rw [wrap_in (by omega)]; omega
          simp -implicitDefEqProofs [go_sem, h42, h11, h12, h13, hh, hf.t, hf.m, hf, hlt, hg, hw, hw1, hw2, hw3]
          refine hJ _ ⟨i + 1, off + l[i], ps ++ [cutP false r (off) l[i]], cutL false r off ps ls, by omega, by simp -implicitDefEqProofs [go_sem, hw], ?_, ?_, by simp -implicitDefEqProofs [go_sem, hw3], ?_, by simp -implicitDefEqProofs [go_sem]⟩ (by simp [go_sem, h42, hw]; omega)
          · rw [List.map_append]; simpa -implicitDefEqProofs [go_sem] using ho1''
          · have := ho2c.congr (x' := x'') (fun s hs => hx'' s (by simp at hs ⊢; omega))
            simpa -implicitDefEqProofs [go_sem, h12] using this
          · rw [hst, if_neg (by rw [cutBad, hcO]; simp only [cutW]; simp; omega), hcO]
      · have hii : i = l.length := by omega
        rw [hii, List.take_length] at hF
        have hw1 : IntKind.i64.wrap (r.y + r.h) = r.y + r.h := wrap_in (by omega)
        simp -implicitDefEqProofs [go_sem, h42, h11, h12, h13, hh, hf.t, hf.m, hw1]
        refine cK_bne (fun hb => ?_) (fun hb => ?_) <;> simp -implicitDefEqProofs [go_sem, h42, h11, h12, h13, hh, hf.t, hf.m]
        · exact ⟨h'', Sub.refl _, by rw [hcs, hF]; simp only [cutW]; simp [show ¬ off = r.h from by omega]; rfl, rfl⟩
        · exact ⟨h'', Sub.refl _, by rw [hcs, hF]; simp only [cutW]; simp [show off = r.h from by omega]; rfl, rfl⟩
end Go.Proofs

set_option linter.unusedVariables false
set_option linter.unusedSimpArgs false
set_option pp.deepTerms false
set_option pp.maxSteps 400
namespace Go.Proofs
open Go.Idl

set_option maxRecDepth 20000 in
set_option maxHeartbeats 4000000 in
theorem tcut_c (c : Cel) (h : Heap) (hs : c.kids.length < 100000000000) (hk1 : 2 ≤ c.kind) (hk3 : c.kind ≤ 3) : ICall Tryz.prog 346 [.agg c.row] h (retP (cutV (cutS c.r (c.kind - 1) c.szs)) h) := by
  refine icall_of_iwp (fun _ => 0) Tryz.func346 rfl (by kernel_rfl) (Nat.le_of_ble_eq_true rfl) ?_
  rw [Tryz.results346]
  simp -implicitDefEqProofs [go_sem]
  refine iwp_loopF (rng [5,7] 11 30) (fun k => k == 7) (fun s => ∃ i, i ≤ c.kids.length ∧ s.t 11 = .int .i64 i ∧ Own [23, 29] s.x 3 (s.t 5) ((c.szs.map intRow).take i) ∧ s.h = h) (fun s => c.kids.length - tn (s.t 11)) ?_ ?_
  · exact ⟨0, Nat.zero_le _, by simp -implicitDefEqProofs [go_sem], by simp -implicitDefEqProofs [go_sem, Own.tight], by simp -implicitDefEqProofs [go_sem]⟩
  rintro J s hJ hf ⟨i, hi, h11, ho, hh⟩
  obtain ⟨tk, h5⟩ := ho.list
  simp -implicitDefEqProofs [go_sem, h11, h5, hh, hf.t, hf.m]
  refine cK_dec (fun hlt => ?_) (fun hge => ?_)
  · have hg : c.kids[i]? = some c.kids[i] := List.getElem?_eq_getElem hlt
    have hw := wrap_succ (i := i) (by omega)
    have e1 : (c.szs.map intRow).take (i + 1) = (c.szs.map intRow).take i ++ [[.int .i64 (c.sz c.kids[i])]] := by
      rw [List.take_add_one]; simp [Cel.szs, hg, intRow]
    simp -implicitDefEqProofs [go_sem, h11, h5, hh, hf.t, hf.m, hlt, hg]
    refine cK_beq (fun hk => ?_) (fun hk => ?_)
    · simp -implicitDefEqProofs [go_sem, h11, h5, hh, hf.t, hf.m, hlt, hg]
      refine aK_own (z := 1) (S := [23, 29]) (by simpa -implicitDefEqProofs [go_sem, h5] using ho) (by simp) elT_33 elZ_3 (by simp [roomy, byT_3]; omega) (uni_take (ints_uni _) i) (by simp [uni]) ?_
      intro r' x' ho' _
      simp -implicitDefEqProofs [go_sem, h11, h5, hh, hf.t, hf.m, hf, hw]
      exact hJ _ ⟨i + 1, by omega, by simp -implicitDefEqProofs [go_sem, hw], by rw [e1, Cel.sz, if_pos hk]; simpa -implicitDefEqProofs [go_sem] using ho', by simp -implicitDefEqProofs [go_sem, hh]⟩ (by simp [go_sem, h11, hw]; omega)
    · simp -implicitDefEqProofs [go_sem, h11, h5, hh, hf.t, hf.m, hlt, hg]
      refine aK_own (z := 1) (S := [23, 29]) (by simpa -implicitDefEqProofs [go_sem, h5] using ho) (by simp) elT_33 elZ_3 (by simp [roomy, byT_3]; omega) (uni_take (ints_uni _) i) (by simp [uni]) ?_
      intro r' x' ho' _
      simp -implicitDefEqProofs [go_sem, h11, h5, hh, hf.t, hf.m, hf, hw]
      exact hJ _ ⟨i + 1, by omega, by simp -implicitDefEqProofs [go_sem, hw], by rw [e1, Cel.sz, if_neg hk]; simpa -implicitDefEqProofs [go_sem] using ho', by simp -implicitDefEqProofs [go_sem, hh]⟩ (by simp [go_sem, h11, hw]; omega)
  · have hw2 : IntKind.u8.wrap (c.kind - 2) = c.kind - 2 := wrap_u8 (by omega)
    have hw3 : IntKind.u8.wrap (c.kind - 2 + 1) = c.kind - 1 := by rw [wrap_u8 (by omega)]; omega
    rw [List.take_of_length_le (by simp [Cel.szs]; omega)] at ho h5
    simp -implicitDefEqProofs [go_sem, h11, h5, hh, hf.t, hf.m, hw2, hw3]
    refine (rCut_c c.r (c.kind - 1) c.szs h (by simp [Cel.szs]; exact hs)).mono ?_
    rintro e h' ⟨rfl, he⟩
    rw [he]
    cases hcut : cutS c.r (c.kind - 1) c.szs with
    | none =>
      simp -implicitDefEqProofs [go_sem, cutV]
      exact ⟨_, Sub.refl _, rfl, rfl⟩
    | some p =>
      obtain ⟨ps, ls⟩ := p
      simp -implicitDefEqProofs [go_sem, cutV]
      exact ⟨_, Sub.refl _, rfl, rfl⟩

theorem lines1_c (c : Cel) (r : Rct) (h : Heap) : ICall Tryz.prog 348 [.agg c.row, .agg r.row] h (retP (.bool (decide (c.r = r))) h) := by
  refine icall_of_iwp (fun _ => 0) Tryz.func348 rfl (by kernel_rfl) (Nat.le_of_ble_eq_true rfl) ?_
  rw [Tryz.results348]
  simp -implicitDefEqProofs [go_sem]
  exact ⟨h, Sub.refl _, rfl, rfl⟩

set_option maxRecDepth 20000 in
set_option maxHeartbeats 4000000 in
theorem equalFunc_c (l : List Cel) (ps : List Rct) (h : Heap) (hs : l.length < 100000000000) :
    ICall Tryz.prog 347 [.list .plain (l.map Cel.row), .list .plain (ps.map Rct.row), .fn (.func 348) [] []] h (retP (.bool (decide (ps = l.map Cel.r))) h) := by
  refine icall_of_iwp (fun _ => 0) Tryz.func347 rfl (by kernel_rfl) (Nat.le_of_ble_eq_true rfl) ?_
  rw [Tryz.results347]
  simp -implicitDefEqProofs [go_sem]
  refine cK_bne (fun h1 => ?_) (fun h1 => ?_) <;> simp -implicitDefEqProofs [go_sem]
  · exact ⟨h, Sub.refl _, by rw [decide_eq_false (fun e => by rw [e] at h1; simp at h1)], rfl⟩
  have hlen : l.length = ps.length := by omega
  refine iwp_loopF (rng [6,7,8,9] 17 31) (fun k => k == 8 || k == 9) (fun s => ∃ i, i ≤ l.length ∧ s.t 17 = .int .i64 i ∧ ps.take i = (l.map Cel.r).take i ∧ s.h = h) (fun s => l.length - tn (s.t 17)) ?_ ?_
  · exact ⟨0, Nat.zero_le _, by simp -implicitDefEqProofs [go_sem], by simp, by simp -implicitDefEqProofs [go_sem]⟩
  rintro J s hJ hf ⟨i, hi, h17, heq, hh⟩
  simp -implicitDefEqProofs [go_sem, h17, hh, hf.t, hf.m]
  refine cK_dec (fun hlt => ?_) (fun hge => ?_)
  · have hg : l[i]? = some l[i] := List.getElem?_eq_getElem hlt
    have hlt2 : i < ps.length := by omega
    have hg2 : ps[i]? = some ps[i] := List.getElem?_eq_getElem hlt2
    have hw := wrap_succ (i := i) (by omega)
    simp -implicitDefEqProofs [go_sem, h17, hh, hf.t, hf.m, hlt, hg, hlt2, hg2]
    refine (lines1_c l[i] ps[i] h).mono ?_
    rintro e h' ⟨rfl, he⟩
    rw [he]
    simp -implicitDefEqProofs [go_sem, h17, hh, hf.t, hf.m, hlt, hg, hlt2, hg2]
    refine cK_any (fun k1 => ?_) (fun k1 => ?_) <;> simp -implicitDefEqProofs [go_sem, h17, hh, hf.t, hf.m, hf, hw]
    · refine ⟨h, Sub.refl _, ?_, rfl⟩
      rw [decide_eq_false]
      intro e
      have : ps[i] = l[i].r := by simp [e]
      simp [this] at k1
    · refine hJ _ ⟨i + 1, by omega, by simp -implicitDefEqProofs [go_sem, hw], ?_, by simp -implicitDefEqProofs [go_sem, hh]⟩ (by simp [go_sem, h17, hw]; omega)
      have k2 : l[i].r = ps[i] := by simpa using k1
      rw [List.take_add_one, List.take_add_one, heq, hg2]
      simp [hg, k2]
  · simp -implicitDefEqProofs [go_sem, h17, hh, hf.t, hf.m]
    refine ⟨h, Sub.refl _, ?_, rfl⟩
    rw [List.take_of_length_le (by omega), List.take_of_length_le (by simp; omega)] at heq
    rw [decide_eq_true heq]

def lnsR (o : Option (List Rct)) (h : Heap) (e : IEnd) (h' : Heap) : Prop :=
  h' = h ∧ match o with
  | some ls => e = .ret (.tup [.list .plain (ls.map Rct.row), .bool true])
  | none => ∃ l', e = .ret (.tup [.list .plain l', .bool false])

theorem lines_c (c : Cel) (h : Heap) (hs : c.kids.length < 100000000000) (hk1 : 1 ≤ c.kind) (hk3 : c.kind ≤ 3) : ICall Tryz.prog 320 [.agg c.row] h (lnsR c.one h) := by
  refine icall_of_iwp (fun _ => 0) Tryz.func320 rfl (by kernel_rfl) (Nat.le_of_ble_eq_true rfl) ?_
  rw [Tryz.results320]
  simp -implicitDefEqProofs [go_sem]
  refine cK_beq (fun hk => ?_) (fun hk => ?_) <;> simp -implicitDefEqProofs [go_sem]
  · exact ⟨h, Sub.refl _, rfl, by rw [Cel.one, if_pos hk]; rfl⟩
  refine (tcut_c c h hs (by omega) hk3).mono ?_
  rintro e h' ⟨rfl, he⟩
  rw [he]
  cases hcut : cutS c.r (c.kind - 1) c.szs with
  | none =>
    simp -implicitDefEqProofs [go_sem, cutV]
    exact ⟨h, Sub.refl _, rfl, by rw [show c.one = none by rw [Cel.one, if_neg hk, hcut]]; exact ⟨_, rfl⟩⟩
  | some p =>
    obtain ⟨ps, ls⟩ := p
    have hone : c.one = if ps = c.kids.map Cel.r then some ls else none := by rw [Cel.one, if_neg hk, hcut]
    simp -implicitDefEqProofs [go_sem, cutV]
    refine (equalFunc_c c.kids ps h hs).mono ?_
    rintro e h' ⟨rfl, he⟩
    rw [he]
    simp -implicitDefEqProofs [go_sem]
    refine ⟨h, Sub.refl _, rfl, ?_⟩
    by_cases hps : ps = c.kids.map Cel.r
    · rw [hone, if_pos hps, decide_eq_true hps]
    · rw [hone, if_neg hps, decide_eq_false hps]; exact ⟨_, rfl⟩

/-! faults -/
def someE (h : Heap) (e : IEnd) (h' : Heap) : Prop := h' = h ∧ ∃ t x, e = .ret (.iface t x)

theorem faultNew_c (n k : Int) (hn : n ≠ 0) (h : Heap) : ICall Tryz.prog 39 [.int .i64 n, .int .i64 k] h (someE h) := by
  refine icall_of_iwp (fun d => if d = 10 then 1 else 0) Tryz.func39 rfl (by kernel_rfl) (Nat.le_of_ble_eq_true rfl) ?_
  rw [Tryz.results39]
  have hb : (n == 0) = false := by simpa using hn
  simp -implicitDefEqProofs [go_sem, hb]
  intro b hb
  exact ⟨h, (Sub.refl _).upd hb _, rfl, _, _, rfl⟩
set_option maxRecDepth 20000 in
theorem cloneStr_c (s : ByteArray) (h : Heap) : ICall Tryz.prog 62 [.list .plain [[.str s]]] h (retP (.list .plain [[.str s]]) h) := by
  refine icall_of_iwp (fun _ => 0) Tryz.func62 rfl (by kernel_rfl) (Nat.le_of_ble_eq_true rfl) ?_
  rw [Tryz.results62]
  simp -implicitDefEqProofs [go_sem]
  refine aK_own (z := 1) (S := [7]) Own.tight (by simp) elT_23 elZ_9 (by simp [roomy, byT_9]) (by simp [uni]) (by simp [uni]) ?_
  intro v x' ho _
  simp -implicitDefEqProofs [go_sem, ho.strip]
  exact ⟨h, Sub.refl _, rfl, rfl⟩
set_option maxRecDepth 20000 in
theorem faultIn_c (t : TypeId) (x : IV) (s : ByteArray) (hx : okV (.iface t x) = true) (h : Heap) : ICall Tryz.prog 38 [.iface t x, .list .plain [[.str s]]] h (someE h) := by
  refine icall_of_iwp (fun d => if d = 17 then 1 else 0) Tryz.func38 rfl (by kernel_rfl) (Nat.le_of_ble_eq_true rfl) ?_
  rw [Tryz.results38]
  simp -implicitDefEqProofs [go_sem]
  refine (cloneStr_c s h).mono ?_
  rintro e h' ⟨rfl, he⟩
  rw [he]
  simp -implicitDefEqProofs [go_sem]
  intro b hb
  exact ⟨h, (Sub.refl _).upd hb _, rfl, _, _, rfl⟩
end Go.Proofs

set_option linter.unusedVariables false
set_option linter.unusedSimpArgs false
set_option pp.deepTerms false
set_option pp.maxSteps 400
namespace Go.Proofs
open Go.Idl

def oneStep (ls : List Rct) (d : Cel) : Option (List Rct) := d.one.map (ls ++ ·)

theorem fold_len (c : Cel) : ∀ ls ls', c.all.foldlM oneStep ls = some ls' → ls'.length + 1 ≤ ls.length + c.size :=
  Cel.rec (motive_1 := fun c => ∀ ls ls', c.all.foldlM oneStep ls = some ls' → ls'.length + 1 ≤ ls.length + c.size)
    (motive_2 := fun l => ∀ ls ls', (Cel.alls l).foldlM oneStep ls = some ls' → ls'.length + l.length ≤ ls.length + Cel.sizes l)
    (fun k r id kids ih ls ls' h => by
      rw [Cel.all_eq, List.foldlM_cons] at h
      cases ho : (Cel.mk k r id kids).one with
      | none => rw [oneStep, ho] at h; cases h
      | some l1 =>
        rw [oneStep, ho] at h
        have h1 := ih _ _ h
        have h2 := one_len ho
        rw [Cel.size_eq]
        simp only [Cel.kids, List.length_append] at h1 h2 ⊢
        omega)
    (fun ls ls' h => by simp [Cel.alls] at h; subst h; simp [Cel.sizes])
    (fun c cs h1 h2 ls ls' h => by
      rw [Cel.alls, List.foldlM_append] at h
      cases hc : c.all.foldlM oneStep ls with
      | none => rw [hc] at h; cases h
      | some l1 =>
        rw [hc] at h
        have k1 := h1 _ _ hc
        have k2 := h2 _ _ h
        simp only [List.length_cons, Cel.sizes]; omega) c

theorem chkL_fold (l : List Cel) : ∀ (i : Nat) (acc : List Rct), chkL l i acc = match l.foldlM oneStep acc with | some ls => (ls, 0, 0) | none => ([], 5, (chkL l i acc).2.2) := by
  induction l with
  | nil => intro i acc; rfl
  | cons d l ih =>
    intro i acc
    rw [chkL, List.foldlM_cons]
    cases ho : d.one with
    | none => simp [oneStep, ho]
    | some ls =>
      simp only [oneStep, ho, Option.map_some]
      exact ih _ _
theorem tiles_fold (c : Cel) : c.tiles = (c.may && (c.all.foldlM oneStep []).isSome) := by
  rw [Cel.tiles, Cel.check]
  cases hm : c.may with
  | false => rfl
  | true =>
    simp only [if_true, Bool.true_and]
    rw [chkL_fold]
    cases c.all.foldlM oneStep [] <;> rfl

/-- the walker, and its lines -/
structure Wk where
  num : Int
  lk : Option (Nat × Nat)
  ls : List Rct
def Wk.v (s : Wk) : IV := match s.lk with | none => .list .tight [] | some (b, cap) => .sl 4 b 0 s.ls.length cap
def Wk.b1 (s : Wk) (base : Heap) : Heap := match s.lk with | none => base | some (b, cap) => upd base b (some (.arr 125 4 (s.ls.map Rct.row) cap))
def Wk.at' (wb : Nat) (s : Wk) (base : Heap) : Heap := upd (s.b1 base) wb (some (.cells [.int .i64 s.num, s.v]))
def Wk.Good (wb : Nat) (s : Wk) (base : Heap) : Prop := base wb = none ∧ match s.lk with | none => s.ls = [] | some (b, cap) => b ≠ wb ∧ base b = none ∧ s.ls.length ≤ cap

def walkR (wb : Nat) (t : Bool) (r : Option (List Rct)) (base : Heap) (e : IEnd) (h' : Heap) : Prop :=
  match r with
  | some ls' => e = .ret (.bool t) ∧ ∃ s' : Wk, s'.ls = ls' ∧ s'.Good wb base ∧ h' = s'.at' wb base
  | none => e = .ret (.bool !t) ∧ ∃ s' : Wk, s'.Good wb base ∧ h' = s'.at' wb base

theorem Wk.at_wb (wb : Nat) (s : Wk) (base : Heap) : s.at' wb base wb = some (.cells [.int .i64 s.num, s.v]) := by simp [Wk.at', upd]

theorem fold_len_alls : ∀ (l : List Cel) (ls ls' : List Rct), (Cel.alls l).foldlM oneStep ls = some ls' → ls'.length + l.length ≤ ls.length + Cel.sizes l
  | [], ls, ls', h => by simp [Cel.alls] at h; subst h; simp [Cel.sizes]
  | c :: cs, ls, ls', h => by
    rw [Cel.alls, List.foldlM_append] at h
    cases hc : c.all.foldlM oneStep ls with
    | none => rw [hc] at h; cases h
    | some l1 =>
      rw [hc] at h
      have k1 := fold_len c _ _ hc
      have k2 := fold_len_alls cs _ _ h
      simp only [List.length_cons, Cel.sizes]; omega

theorem Wk.at_q {wb qb : Nat} {s : Wk} {base : Heap} {o : IObj} (hg : s.Good wb base) (hq : base qb = some o) : s.at' wb base qb = some o := by
  have h1 : qb ≠ wb := by rintro rfl; rw [hg.1] at hq; cases hq
  obtain ⟨num, lk, ls⟩ := s
  cases lk with
  | none => simp [Wk.at', Wk.b1, upd, h1, hq]
  | some p =>
    obtain ⟨b, cap⟩ := p
    have h2 : qb ≠ b := by rintro rfl; have := hg.2.2.1; rw [this] at hq; cases hq
    simp [Wk.at', Wk.b1, upd, h1, h2, hq]
theorem Wk.sub {wb : Nat} (s : Wk) {base base' : Heap} (h : Sub base base') : Sub (s.at' wb base) (s.at' wb base') := by
  obtain ⟨num, lk, ls⟩ := s
  intro b o hb
  simp only [Wk.at', upd] at hb ⊢
  split at hb
  · rw [if_pos (by assumption)]; exact hb
  · rw [if_neg (by assumption)]
    cases lk with
    | none => exact h _ _ hb
    | some p =>
      simp only [Wk.b1, upd] at hb ⊢
      split at hb
      · rw [if_pos (by assumption)]; exact hb
      · rw [if_neg (by assumption)]; exact h _ _ hb
theorem sub_none {h h' : Heap} {b : Nat} (hs : Sub h h') (hn : h' b = none) : h b = none := by
  cases hb : h b with
  | none => rfl
  | some o => rw [hs _ _ hb] at hn; cases hn
theorem Wk.Good.of_sub {wb : Nat} {s : Wk} {base base' : Heap} (h : Sub base base') (hg : s.Good wb base') : s.Good wb base := by
  refine ⟨sub_none h hg.1, ?_⟩
  obtain ⟨num, lk, ls⟩ := s
  cases lk with
  | none => exact hg.2
  | some p => exact ⟨hg.2.1, sub_none h hg.2.2.1, hg.2.2.2⟩
theorem walk1_of {wb qb : Nat} {d : Cel} {s : Wk} {base : Heap} (hq : s.at' wb base qb = some (.cells [.ptr wb 0])) {r : Option (List Rct)}
    (ha : ICall Tryz.prog 287 [.ptr wb 0, .agg d.row] (s.at' wb base) (walkR wb true r base)) :
    ICall Tryz.prog 321 [.agg d.row, .ptr qb 0] (s.at' wb base) (walkR wb false r base) := by
  refine icall_of_iwp (fun _ => 0) Tryz.func321 rfl (by kernel_rfl) (Nat.le_of_ble_eq_true rfl) ?_
  rw [Tryz.results321]
  simp -implicitDefEqProofs [go_sem, hq]
  refine ha.mono ?_
  intro e h' he
  cases r with
  | some ls' =>
    obtain ⟨rfl, s', h1, h2, rfl⟩ := he
    simp -implicitDefEqProofs [go_sem]
    exact ⟨_, Sub.refl _, rfl, s', h1, h2, rfl⟩
  | none =>
    obtain ⟨rfl, s', h2, rfl⟩ := he
    simp -implicitDefEqProofs [go_sem]
    exact ⟨_, Sub.refl _, rfl, s', h2, rfl⟩

theorem sizes_rest (l : List Cel) (k : Nat) (h : k ≤ l.length) : Cel.sizes (l.take k) + (l.length - k) ≤ Cel.sizes l := by
  induction l generalizing k with
  | nil => simp [Cel.sizes]
  | cons c cs ih =>
    cases k with
    | zero => have := Cel.len_le (c :: cs); simp [Cel.sizes] at this ⊢; omega
    | succ k => have := ih k (by simpa using h); simp [Cel.sizes]; omega
theorem walkKids_c {wb qb : Nat} {l : List Cel} {base : Heap} (ih : ∀ d ∈ l, ∀ (s : Wk) (base : Heap), s.Good wb base → s.ls.length + d.size < 100000000000 → (∀ d' ∈ d.all, 1 ≤ d'.kind ∧ d'.kind ≤ 3) →
      ICall Tryz.prog 287 [.ptr wb 0, .agg d.row] (s.at' wb base) (walkR wb true (d.all.foldlM oneStep s.ls) base))
    (s : Wk) (hg : s.Good wb base) (hq : base qb = some (.cells [.ptr wb 0])) (hn : l.length < 100000000000) (hsz : s.ls.length + Cel.sizes l + 1 < 100000000000 + l.length) (hk : ∀ d ∈ l, ∀ d' ∈ d.all, 1 ≤ d'.kind ∧ d'.kind ≤ 3) :
    ICall Tryz.prog 244 [.list .plain (l.map Cel.row), .fn (.func 321) [] [.ptr qb 0]] (s.at' wb base) (walkR wb false ((Cel.alls l).foldlM oneStep s.ls) base) := by
  have hlen := Cel.len_le l
  refine (containsFunc_cel (Inv := fun i h => ∃ s2 : Wk, s2.Good wb base ∧ (Cel.alls (l.take i)).foldlM oneStep s.ls = some s2.ls ∧ h = s2.at' wb base)
    (Hit := fun i h => (Cel.alls l).foldlM oneStep s.ls = none ∧ ∃ s' : Wk, s'.Good wb base ∧ h = s'.at' wb base) (by omega) ?_ _ ⟨s, hg, by simp [Cel.alls], rfl⟩).mono ?_
  · rintro i hi h ⟨s2, hg2, hs2, rfl⟩
    have hle := sizes_rest l (i + 1) hi
    have hst := Cel.sizes_take l i hi
    have hfl := fold_len_alls _ _ _ hs2
    rw [List.length_take, Nat.min_eq_left (by omega)] at hfl
    refine (walk1_of (Wk.at_q hg2 hq) (ih _ (List.getElem_mem hi) s2 base hg2 (by omega) (hk _ (List.getElem_mem hi)))).mono ?_
    intro e h' he
    have htk := Cel.alls_take l i hi
    cases hr2 : l[i].all.foldlM oneStep s2.ls with
    | none =>
      rw [hr2] at he
      obtain ⟨rfl, s', h2, rfl⟩ := he
      refine .inr ⟨rfl, ?_, s', h2, rfl⟩
      apply alls_fold_all oneStep l (i + 1)
      rw [htk, List.foldlM_append, hs2]; exact hr2
    | some ls3 =>
      rw [hr2] at he
      obtain ⟨rfl, s', h1, h2, rfl⟩ := he
      refine .inl ⟨rfl, s', h2, ?_, rfl⟩
      rw [htk, List.foldlM_append, hs2, h1]; exact hr2
  · rintro e h' (⟨rfl, s2, hg2, hs2, rfl⟩ | ⟨i, hi, rfl, hn, s', h2, rfl⟩)
    · rw [List.take_length] at hs2
      rw [hs2]; exact ⟨rfl, s2, rfl, hg2, rfl⟩
    · rw [hn]; exact ⟨rfl, s', h2, rfl⟩

set_option maxRecDepth 20000 in
set_option maxHeartbeats 4000000 in
theorem walk_c (wb : Nat) (c : Cel) : ∀ (s : Wk) (base : Heap), s.Good wb base → s.ls.length + c.size < 100000000000 → (∀ d ∈ c.all, 1 ≤ d.kind ∧ d.kind ≤ 3) →
    ICall Tryz.prog 287 [.ptr wb 0, .agg c.row] (s.at' wb base) (walkR wb true (c.all.foldlM oneStep s.ls) base) := by
  induction c using Cel.induct
  rename_i c ih
  intro s base hg hsz hk
  have hlen := Cel.len_le c.kids
  rw [c.size_eq] at hsz
  have hkc := hk c (by rw [c.all_eq]; exact List.mem_cons_self)
  have hwb := s.at_wb wb base
  refine icall_of_iwp (fun d => if d = 2 then 1 else if d = 27 then 2 else 0) Tryz.func287 rfl (by kernel_rfl) (Nat.le_of_ble_eq_true rfl) ?_
  rw [Tryz.results287]
  simp -implicitDefEqProofs [go_sem]
  intro qb hqb
  refine (lines_c c _ (by omega) hkc.1 hkc.2).mono ?_
  rintro e h' ⟨rfl, he⟩
  have hqn : qb ≠ wb := by rintro rfl; rw [hwb] at hqb; cases hqb
  cases ho : c.one with
  | none =>
    rw [ho] at he
    obtain ⟨l', rfl⟩ := he
    simp -implicitDefEqProofs [go_sem]
    have hfold : c.all.foldlM oneStep s.ls = none := by rw [c.all_eq, List.foldlM_cons, oneStep, ho]; rfl
    exact ⟨s.at' wb base, (Sub.refl _).upd hqb _, by rw [hfold]; exact ⟨rfl, s, hg, rfl⟩⟩
  | some ls =>
    rw [ho] at he
    subst he
    simp -implicitDefEqProofs [go_sem, hwb, hqn, hqn.symm]
    refine iwp_drawn_of mixed [0, 1, 2, 3, 4, 5, 6, 7, 8, 9] (by kernel_rfl) ?_
    have hfold : c.all.foldlM oneStep s.ls = (Cel.alls c.kids).foldlM oneStep (s.ls ++ ls) := by rw [c.all_eq, List.foldlM_cons, oneStep, ho]; rfl
    have hll := one_len ho
    have hkk : ∀ d ∈ c.kids, ∀ d' ∈ d.all, 1 ≤ d'.kind ∧ d'.kind ≤ 3 := fun d hd d' hd' => hk d' (by
      rw [c.all_eq]; refine List.mem_cons_of_mem _ ?_
      obtain ⟨l1, l2, hl⟩ := List.append_of_mem hd
      rw [hl]
      have : ∀ (l1 l2 : List Cel), Cel.alls (l1 ++ l2) = Cel.alls l1 ++ Cel.alls l2 := by
        intro l1 l2
        induction l1 with
        | nil => rfl
        | cons x xs ihx => simp [Cel.alls, ihx]
      rw [this]; simp [Cel.alls, hd'])
    have tail : ∀ (s1 : Wk) (base2 H : Heap), s1.ls = s.ls ++ ls → s1.Good wb base2 → base2 qb = some (.cells [.ptr wb 0]) → Sub base base2 → H = s1.at' wb base2 →
        ICall Tryz.prog 244 [.list .plain (c.kids.map Cel.row), .fn (.func 321) [] [.ptr qb 0]] H (fun e h' => walkR wb false (c.all.foldlM oneStep s.ls) base2 e h' ∧ Sub base base2) := by
      intro s1 base2 H h1 h2 h3 h4 h5
      rw [h5, hfold, ← h1]
      refine (walkKids_c (fun d hd => ih d hd) s1 h2 h3 (by omega) (by rw [h1]; simp; omega) hkk).mono fun e h' he => ⟨he, h4⟩
    clear ih hk hkk
    have fin : ∀ (base2 : Heap) (e : IEnd) (h' : Heap), walkR wb false (c.all.foldlM oneStep s.ls) base2 e h' → Sub base base2 → ∃ b h2, e = .ret (.bool b) ∧ Sub h2 h' ∧ walkR wb true (c.all.foldlM oneStep s.ls) base (.ret (.bool !b)) h2 := by
      intro base2 e h' hr hs
      cases hc : c.all.foldlM oneStep s.ls with
      | some ls' =>
        rw [hc] at hr
        obtain ⟨rfl, s', h1, h2, rfl⟩ := hr
        exact ⟨false, s'.at' wb base, rfl, s'.sub hs, rfl, s', h1, h2.of_sub hs, rfl⟩
      | none =>
        rw [hc] at hr
        obtain ⟨rfl, s', h2, rfl⟩ := hr
        exact ⟨true, s'.at' wb base, rfl, s'.sub hs, rfl, s', h2.of_sub hs, rfl⟩
    clear hfold ho
    generalize c.all.foldlM oneStep s.ls = FR at tail fin ⊢
    obtain ⟨num, lk, ls0⟩ := s
    simp only at hsz
    have hbq : base qb = none := by
      have h1 := hqb
      simp only [Wk.at', upd, hqn, if_false] at h1
      cases lk with
      | none => exact h1
      | some p => simp only [Wk.b1, upd] at h1; split at h1; cases h1; exact h1
    have hsub : Sub base (upd base qb (some (.cells [.ptr wb 0]))) := (Sub.refl _).upd hbq _
    have hb2 : (upd base qb (some (.cells [.ptr wb 0]))) wb = none := by simp [upd, hqn.symm, hg.1]
    cases lk with
    | none =>
      have hls0 : ls0 = [] := hg.2
      subst hls0
      simp -implicitDefEqProofs [go_sem, hwb, hqn, hqn.symm, Wk.v]
      refine ⟨by simp [roomy, byT_125]; omega, ?_, ?_⟩
      · intro hls
        subst hls
        refine (tail ⟨IntKind.i64.wrap (num + 1), none, []⟩ (upd base qb (some (.cells [.ptr wb 0]))) _ rfl ⟨hb2, rfl⟩ (by simp [upd]) hsub ?_).mono ?_
        · funext j
          simp only [Wk.at', Wk.b1, Wk.v, upd]
          by_cases j1 : j = wb <;> simp [j1]
        · rintro e h' ⟨hr, hs⟩
          obtain ⟨b, h2, rfl, h3, h4⟩ := fin _ _ _ hr hs
          simp -implicitDefEqProofs [go_sem]
          exact ⟨h2, h3, h4⟩
      · intro hls b' cap' hb' hcap
        have hbw : b' ≠ wb := by rintro rfl; simp [upd] at hb'
        have hbq' : b' ≠ qb := by rintro rfl; simp [upd, hqn] at hb'
        have hbb : base b' = none := by simpa [upd, hbw, hbq', Wk.at', Wk.b1] using hb'
        simp -implicitDefEqProofs [go_sem, hbw, hbw.symm]
        refine (tail ⟨IntKind.i64.wrap (num + 1), some (b', cap'), ls⟩ (upd base qb (some (.cells [.ptr wb 0]))) _ rfl ⟨hb2, hbw, by simp [upd, hbq', hbb], by simpa using hcap⟩ (by simp [upd]) hsub ?_).mono ?_
        · funext j
          simp only [Wk.at', Wk.b1, Wk.v, upd]
          by_cases j1 : j = wb
          · simp [j1, hbw.symm]
          · by_cases j2 : j = b' <;> simp [j1, j2]
        · rintro e h' ⟨hr, hs⟩
          obtain ⟨b, h2, rfl, h3, h4⟩ := fin _ _ _ hr hs
          simp -implicitDefEqProofs [go_sem]
          exact ⟨h2, h3, h4⟩
    | some p =>
      obtain ⟨ab, cap⟩ := p
      obtain ⟨hg1, habw, habn, hcap0⟩ := hg
      simp only at hcap0
      have habq : ab ≠ qb := by
        rintro rfl
        simp [Wk.at', Wk.b1, upd, habw] at hqb
      have hat : Wk.at' wb ⟨num, some (ab, cap), ls0⟩ base ab = some (.arr 125 4 (ls0.map Rct.row) cap) := by simp [Wk.at', Wk.b1, upd, habw]
      simp -implicitDefEqProofs [go_sem, hwb, hqn, hqn.symm, Wk.v, habw, habw.symm, habq, hat]
      refine ⟨by simp [roomy, byT_125]; omega, ?_, ?_⟩
      · intro hfit
        refine (tail ⟨IntKind.i64.wrap (num + 1), some (ab, cap), ls0 ++ ls⟩ (upd base qb (some (.cells [.ptr wb 0]))) _ rfl ⟨hb2, habw, by simp [upd, habq, habn], by simpa using hfit⟩ (by simp [upd]) hsub ?_).mono ?_
        · funext j
          simp only [Wk.at', Wk.b1, Wk.v, upd]
          by_cases j1 : j = wb
          · simp [j1, habw.symm]
          · by_cases j2 : j = ab
            · simp [j1, j2, habq]
            · simp [j1, j2]
        · rintro e h' ⟨hr, hs⟩
          obtain ⟨b, h2, rfl, h3, h4⟩ := fin _ _ _ hr hs
          simp -implicitDefEqProofs [go_sem]
          exact ⟨h2, h3, h4⟩
      · intro hfit b' cap' hb' hcap
        have hbw : b' ≠ wb := by rintro rfl; simp [upd] at hb'
        have hbq' : b' ≠ qb := by rintro rfl; simp [upd, hqn] at hb'
        have hba : b' ≠ ab := by rintro rfl; simp [upd, habw, habq, hat] at hb'
        have hbb : base b' = none := by simpa [upd, hbw, hbq', hba, Wk.at', Wk.b1] using hb'
        simp -implicitDefEqProofs [go_sem, hbw, hbw.symm]
        have hsub2 : Sub base (upd (upd base qb (some (.cells [.ptr wb 0]))) ab (some (.arr 125 4 (ls0.map Rct.row) cap))) := hsub.upd (by simp [upd, habq, habn]) _
        refine (tail ⟨IntKind.i64.wrap (num + 1), some (b', cap'), ls0 ++ ls⟩ (upd (upd base qb (some (.cells [.ptr wb 0]))) ab (some (.arr 125 4 (ls0.map Rct.row) cap))) _ rfl
          ⟨by simp [upd, habw.symm, hqn.symm, hg1], hbw, by simp [upd, hbq', hba, hbb], by simpa using hcap⟩ (by simp [upd, habq.symm]) hsub2 ?_).mono ?_
        · funext j
          simp only [Wk.at', Wk.b1, Wk.v, upd]
          by_cases j1 : j = wb
          · simp [j1, hbw.symm]
          · by_cases j2 : j = b'
            · simp [j1, j2]
            · by_cases j3 : j = ab
              · simp [j1, j2, j3, habq, hba.symm, habw]
              · simp [j1, j2, j3]
        · rintro e h' ⟨hr, hs⟩
          obtain ⟨b, h2, rfl, h3, h4⟩ := fin _ _ _ hr hs
          simp -implicitDefEqProofs [go_sem]
          exact ⟨h2, h3, h4⟩
end Go.Proofs
