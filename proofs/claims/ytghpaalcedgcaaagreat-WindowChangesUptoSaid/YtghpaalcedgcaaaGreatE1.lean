/- This text is a part of the proofs of the statements of this seat: the ideal states and their rules, or what one of the functions that the statements reach comes to. Conditions: none beyond those that each theorem names. -/
import Derived.Test.YtghpaalcedgcaaaGreatF15
import Derived.Test.YtghpaalcedgcaaaGreatB0
set_option linter.unusedVariables false
set_option linter.unusedSimpArgs false
namespace Go.Proofs
open Go.Idl

structure Rct where
  x : Int
  y : Int
  w : Int
  h : Int
deriving DecidableEq

def Rct.row (r : Rct) : List IV := [.int .i64 r.x, .int .i64 r.y, .int .i64 r.w, .int .i64 r.h]

/-- a tree of cells -/
inductive Cel where
  | mk (kind : Int) (r : Rct) (id : Int) (kids : List Cel)

def Cel.kind : Cel → Int | .mk k _ _ _ => k
def Cel.r : Cel → Rct | .mk _ r _ _ => r
def Cel.id : Cel → Int | .mk _ _ i _ => i
def Cel.kids : Cel → List Cel | .mk _ _ _ ks => ks

mutual
def Cel.row : Cel → List IV
  | .mk k r id kids => [.int .u8 k, .int .i64 r.x, .int .i64 r.y, .int .i64 r.w, .int .i64 r.h, .int .i64 id, .list .plain (Cel.rows kids)]
def Cel.rows : List Cel → List (List IV)
  | [] => []
  | c :: cs => c.row :: Cel.rows cs
end

theorem Cel.rows_map : ∀ l : List Cel, Cel.rows l = l.map Cel.row
  | [] => by simp [Cel.rows]
  | c :: cs => by simp [Cel.rows, Cel.rows_map cs]
theorem Cel.row_mk (k r id kids) : (Cel.mk k r id kids).row = [.int .u8 k, .int .i64 r.x, .int .i64 r.y, .int .i64 r.w, .int .i64 r.h, .int .i64 id, .list .plain (kids.map Cel.row)] := by
  rw [Cel.row, Cel.rows_map]

mutual
def Cel.size : Cel → Nat
  | .mk _ _ _ kids => Cel.sizes kids + 1
def Cel.sizes : List Cel → Nat
  | [] => 0
  | c :: cs => c.size + Cel.sizes cs
end

theorem Cel.row_eq (c : Cel) : c.row = [.int .u8 c.kind, .int .i64 c.r.x, .int .i64 c.r.y, .int .i64 c.r.w, .int .i64 c.r.h, .int .i64 c.id, .list .plain (c.kids.map Cel.row)] := by
  cases c; exact Cel.row_mk _ _ _ _
@[go_sem high] theorem Cel.at0 (c : Cel) : c.row.take 1 = [.int .u8 c.kind] := by rw [c.row_eq]; rfl
@[go_sem high] theorem Cel.at1 (c : Cel) : (c.row.drop 1).take 4 = c.r.row := by rw [c.row_eq]; rfl
@[go_sem high] theorem Cel.at1x (c : Cel) : (c.row.drop 1).take 1 = [.int .i64 c.r.x] := by rw [c.row_eq]; rfl
@[go_sem high] theorem Cel.at2 (c : Cel) : (c.row.drop 2).take 1 = [.int .i64 c.r.y] := by rw [c.row_eq]; rfl
@[go_sem high] theorem Cel.at3 (c : Cel) : (c.row.drop 3).take 1 = [.int .i64 c.r.w] := by rw [c.row_eq]; rfl
@[go_sem high] theorem Cel.at4 (c : Cel) : (c.row.drop 4).take 1 = [.int .i64 c.r.h] := by rw [c.row_eq]; rfl
@[go_sem high] theorem Cel.at5 (c : Cel) : (c.row.drop 5).take 1 = [.int .i64 c.id] := by rw [c.row_eq]; rfl
@[go_sem high] theorem Cel.at6 (c : Cel) : (c.row.drop 6).take 1 = [.list .plain (c.kids.map Cel.row)] := by rw [c.row_eq]; rfl
def Cel.withId (c : Cel) (n : Int) : Cel := .mk c.kind c.r n c.kids
def Cel.withKids (c : Cel) (ks : List Cel) : Cel := .mk c.kind c.r c.id ks
@[go_sem high] theorem Cel.put5 (c : Cel) (n : Int) : splice c.row 5 [.int .i64 n] = (c.withId n).row := by rw [c.row_eq, (c.withId n).row_eq]; rfl
/-- a row whose last cell is another one -/
def Cel.rowK (c : Cel) (x : IV) : List IV := c.row.take 6 ++ [x]
theorem Cel.rowK_eq (c : Cel) (x : IV) : c.rowK x = [.int .u8 c.kind, .int .i64 c.r.x, .int .i64 c.r.y, .int .i64 c.r.w, .int .i64 c.r.h, .int .i64 c.id, x] := by rw [Cel.rowK, c.row_eq]; rfl
@[go_sem high] theorem Cel.put6 (c : Cel) (tk : Tok) (rs : List (List IV)) : splice c.row 6 [.list tk rs] = c.rowK (.list tk rs) := by rw [c.row_eq, c.rowK_eq]; rfl
@[go_sem high] theorem Cel.put6K (c : Cel) (y : IV) (tk : Tok) (rs : List (List IV)) : splice (c.rowK y) 6 [.list tk rs] = c.rowK (.list tk rs) := by rw [c.rowK_eq, c.rowK_eq]; rfl
@[go_sem] theorem Cel.rowK_len (c : Cel) (x : IV) : (c.rowK x).length = 7 := by rw [c.rowK_eq]; rfl
@[go_sem] theorem Cel.rowK_take (c : Cel) (x : IV) : (c.rowK x).take 7 = c.rowK x := by rw [c.rowK_eq]; rfl
@[go_sem high] theorem Cel.rowK_strC (c : Cel) (tk : Tok) (ks : List Cel) : (c.rowK (.list tk (ks.map Cel.row))).map strC = (c.withKids ks).row := by rw [c.rowK_eq, (c.withKids ks).row_eq]; rfl
@[go_sem high] theorem Cel.rowK_strip (c : Cel) (tk : Tok) (ks : List Cel) : (c.rowK (.list tk (ks.map Cel.row))).map strip = (c.withKids ks).row := by rw [c.rowK_eq, (c.withKids ks).row_eq]; rfl
@[go_sem high] theorem Cel.rowK_at6 (c : Cel) (x : IV) : ((c.rowK x).drop 6).take 1 = [x] := by rw [c.rowK_eq]; rfl
@[go_sem high] theorem Cel.rowK_at0 (c : Cel) (x : IV) : (c.rowK x).take 1 = [.int .u8 c.kind] := by rw [c.rowK_eq]; rfl
@[go_sem high] theorem Cel.rowK_at5 (c : Cel) (x : IV) : ((c.rowK x).drop 5).take 1 = [.int .i64 c.id] := by rw [c.rowK_eq]; rfl
@[go_sem] theorem Cel.rowK_okV (c : Cel) (x : IV) : okV (.agg (c.rowK x)) = true := rfl
@[go_sem] theorem Cel.withId_kids (c : Cel) (n : Int) : (c.withId n).kids = c.kids := rfl
@[go_sem] theorem Cel.withId_kind (c : Cel) (n : Int) : (c.withId n).kind = c.kind := rfl
@[go_sem high] theorem Cel.at1t (c : Cel) : c.row.tail.take 4 = c.r.row := by rw [c.row_eq]; rfl
@[go_sem high] theorem Cel.at1xt (c : Cel) : c.row.tail.take 1 = [.int .i64 c.r.x] := by rw [c.row_eq]; rfl
@[go_sem high] theorem Rct.at1t (r : Rct) : r.row.tail.take 1 = [.int .i64 r.y] := rfl
@[go_sem high] theorem Rct.at0 (r : Rct) : r.row.take 1 = [.int .i64 r.x] := rfl
@[go_sem high] theorem Rct.at1 (r : Rct) : (r.row.drop 1).take 1 = [.int .i64 r.y] := rfl
@[go_sem high] theorem Rct.at2 (r : Rct) : (r.row.drop 2).take 1 = [.int .i64 r.w] := rfl
@[go_sem high] theorem Rct.at3 (r : Rct) : (r.row.drop 3).take 1 = [.int .i64 r.h] := rfl
theorem Cel.size_eq (c : Cel) : c.size = Cel.sizes c.kids + 1 := by cases c; rw [Cel.size]; rfl
theorem Rct.row_inj {a b : Rct} : a.row = b.row ↔ a = b := by
  constructor
  · intro h; cases a; cases b; simp [Rct.row] at h; simp [h]
  · rintro rfl; rfl
@[go_sem] theorem Cel.row_len (c : Cel) : c.row.length = 7 := by cases c; simp [Cel.row]
@[go_sem] theorem Cel.row_strip (c : Cel) : c.row.map strip = c.row := by cases c; simp [Cel.row_mk, strip]
@[go_sem] theorem Cel.row_strC (c : Cel) : c.row.map strC = c.row := by cases c; simp [Cel.row_mk, strC]
@[go_sem] theorem Cel.row_take (c : Cel) : c.row.take 7 = c.row := by cases c; simp [Cel.row]
@[go_sem high] theorem Cel.rows_uni (l : List Cel) : uni 7 (l.map Cel.row) = true := by simp [uni, Cel.row_len]
@[go_sem] theorem Cel.row_okV (c : Cel) : okV (.agg c.row) = true := by cases c; simp [Cel.row_mk, okV]
@[go_sem] theorem Rct.row_len (c : Rct) : c.row.length = 4 := by simp [Rct.row]
@[go_sem] theorem Rct.row_strip (c : Rct) : c.row.map strip = c.row := by simp [Rct.row, strip]
@[go_sem] theorem Rct.row_strC (c : Rct) : c.row.map strC = c.row := by simp [Rct.row, strC]
@[go_sem] theorem Rct.row_take (c : Rct) : c.row.take 4 = c.row := by simp [Rct.row]
@[go_sem high] theorem Rct.rows_uni (l : List Rct) : uni 4 (l.map Rct.row) = true := by simp [uni, Rct.row_len]
@[go_sem] theorem Rct.row_okV (c : Rct) : okV (.agg c.row) = true := by simp [Rct.row, okV]

theorem eqI_rct (a b : Rct) (n : Nat) : eqI Tryz.prog (n + 2) 23 (.agg a.row) (.agg b.row) = some (decide (a = b)) := by
  cases a; cases b
  simp [eqI, eqFs, prt, Tryz.underlying23, Tryz.underlying3, stood_23, aggT_3, szT_3, Rct.row, Rct.mk.injEq, Bool.decide_and]
  rw [Bool.eq_iff_iff]; simp
@[go_sem high] theorem eqI_rct' (a b : Rct) : eqI Tryz.prog 10000 23 (.agg a.row) (.agg b.row) = some (decide (a = b)) := eqI_rct a b 9998


theorem Cel.sizes_take (l : List Cel) (i : Nat) (h : i < l.length) : Cel.sizes (l.take (i + 1)) = Cel.sizes (l.take i) + l[i].size := by
  induction l generalizing i with
  | nil => simp at h
  | cons c cs ih =>
    cases i with
    | zero => simp [Cel.sizes]
    | succ i => simp at h; simp [Cel.sizes, ih i h]; omega
theorem Cel.sizes_le (l : List Cel) (i : Nat) : Cel.sizes (l.take i) ≤ Cel.sizes l := by
  induction l generalizing i with
  | nil => simp [Cel.sizes]
  | cons c cs ih =>
    cases i with
    | zero => simp [Cel.sizes]
    | succ i => simp [Cel.sizes]; exact ih i
theorem Cel.one_le_size (c : Cel) : 1 ≤ c.size := by cases c; simp [Cel.size]
theorem Cel.len_le (l : List Cel) : l.length ≤ Cel.sizes l := by
  induction l with
  | nil => simp
  | cons c cs ih => have := c.one_le_size; simp [Cel.sizes]; omega
theorem Cel.mem_le {l : List Cel} {c : Cel} (h : c ∈ l) : c.size ≤ Cel.sizes l := by
  induction l with
  | nil => cases h
  | cons d ds ih =>
    rcases List.mem_cons.1 h with e | h
    · rw [e]; simp [Cel.sizes]
    · have := ih h; simp [Cel.sizes]; omega

/-- induction over trees -/
theorem Cel.induct {P : Cel → Prop} (h : ∀ c, (∀ d ∈ c.kids, P d) → P c) (c : Cel) : P c :=
  Cel.rec (motive_1 := P) (motive_2 := fun l => ∀ c ∈ l, P c) (fun k r id kids ih => h (.mk k r id kids) ih) (fun c hc => nomatch hc)
    (fun d ds h1 h2 c hc => by
      rcases List.mem_cons.1 hc with e | hc
      · rw [e]; exact h1
      · exact h2 c hc) c
theorem Cel.ind {P : Cel → Prop} (h : ∀ k r id kids, (∀ c ∈ kids, P c) → P (.mk k r id kids)) (c : Cel) : P c :=
  Cel.rec (motive_1 := P) (motive_2 := fun l => ∀ c ∈ l, P c) (fun k r id kids ih => h k r id kids ih) (fun c hc => nomatch hc)
    (fun d ds h1 h2 c hc => by
      rcases List.mem_cons.1 hc with e | hc
      · rw [e]; exact h1
      · exact h2 c hc) c
end Go.Proofs
