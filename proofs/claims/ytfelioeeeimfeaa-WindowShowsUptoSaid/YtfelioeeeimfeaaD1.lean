/- This text is a part of the proofs of the statements of this seat: the ideal states and their rules, or what one of the functions that the statements reach comes to. Conditions: none beyond those that each theorem names. -/
import Derived.Test.YtfelioeeeimfeaaC18
import Derived.Test.YtfelioeeeimfeaaP1
set_option linter.unusedVariables false
set_option linter.unusedSimpArgs false
set_option pp.deepTerms false
set_option pp.maxSteps 400
namespace Go.Proofs
open Go.Idl

def mm2 (f : Int → Int → Int) : IV → IV → Option IV
  | .int k x, .int k' y => if k = k' then some (.int k (f x y)) else none
  | _, _ => none
@[go_sem] theorem mm2_int (f : Int → Int → Int) (k : IntKind) (x y : Int) : mm2 f (.int k x) (.int k y) = some (.int k (f x y)) := by simp [mm2]
@[go_sem] theorem pop_max' (P : Program) (st : St) (a b : Operand) (ts : Array TypeId) : pop P st (.call ⟨.builtin .max, #[a, b], ts⟩) = mm2 max (st.ev a) (st.ev b) := by
  simp only [pop, List.map_cons, List.map_nil]; cases st.ev a <;> cases st.ev b <;> rfl
@[go_sem] theorem pop_min' (P : Program) (st : St) (a b : Operand) (ts : Array TypeId) : pop P st (.call ⟨.builtin .min, #[a, b], ts⟩) = mm2 min (st.ev a) (st.ev b) := by
  simp only [pop, List.map_cons, List.map_nil]; cases st.ev a <;> cases st.ev b <;> rfl

/-- a window -/
structure Wn where
  tree : Cel
  act : Int
  z : Bool

def Wn.row (w : Wn) : List IV := w.tree.row ++ [.int .i64 w.act, .bool w.z]
theorem Wn.row_eq (w : Wn) : w.row = [.int .u8 w.tree.kind, .int .i64 w.tree.r.x, .int .i64 w.tree.r.y, .int .i64 w.tree.r.w, .int .i64 w.tree.r.h, .int .i64 w.tree.id, .list .plain (w.tree.kids.map Cel.row), .int .i64 w.act, .bool w.z] := by
  rw [Wn.row, Cel.row_eq]; rfl
@[go_sem] theorem Wn.row_len (w : Wn) : w.row.length = 9 := by rw [w.row_eq]; rfl
@[go_sem high] theorem Wn.at0 (w : Wn) : w.row.take 7 = w.tree.row := by rw [w.row_eq, Cel.row_eq]; rfl
@[go_sem high] theorem Wn.at7 (w : Wn) : (w.row.drop 7).take 1 = [.int .i64 w.act] := by rw [w.row_eq]; rfl
@[go_sem high] theorem Wn.at8 (w : Wn) : (w.row.drop 8).take 1 = [.bool w.z] := by rw [w.row_eq]; rfl
@[go_sem high] theorem Wn.atk (w : Wn) : w.row.take 1 = [.int .u8 w.tree.kind] := by rw [w.row_eq]; rfl
@[go_sem high] theorem Wn.atx (w : Wn) : (w.row.drop 1).take 1 = [.int .i64 w.tree.r.x] := by rw [w.row_eq]; rfl
@[go_sem high] theorem Wn.aty (w : Wn) : (w.row.drop 2).take 1 = [.int .i64 w.tree.r.y] := by rw [w.row_eq]; rfl
@[go_sem high] theorem Wn.atxt (w : Wn) : w.row.tail.take 1 = [.int .i64 w.tree.r.x] := by rw [w.row_eq]; rfl
@[go_sem high] theorem Wn.atrt (w : Wn) : w.row.tail.take 4 = w.tree.r.row := by rw [w.row_eq]; rfl
@[go_sem high] theorem Wn.atr (w : Wn) : (w.row.drop 1).take 4 = w.tree.r.row := by rw [w.row_eq]; rfl
@[go_sem high] theorem Wn.at9 (w : Wn) : w.row.take 9 = w.row := by rw [w.row_eq]; rfl
@[go_sem high] theorem Wn.put0 (w : Wn) (c : Cel) : splice w.row 0 c.row = (Wn.mk c w.act w.z).row := by rw [w.row_eq, (Wn.mk c w.act w.z).row_eq, c.row_eq]; rfl
@[go_sem high] theorem Wn.put7 (w : Wn) (n : Int) : splice w.row 7 [.int .i64 n] = (Wn.mk w.tree n w.z).row := by rw [w.row_eq, Wn.row_eq]; rfl
@[go_sem high] theorem Wn.put8 (w : Wn) (b : Bool) : splice w.row 8 [.bool b] = (Wn.mk w.tree w.act b).row := by rw [w.row_eq, Wn.row_eq]; rfl
@[go_sem] theorem Wn.row_strip (w : Wn) : w.row.map strip = w.row := by rw [w.row_eq]; rfl
@[go_sem] theorem Wn.row_strC (w : Wn) : w.row.map strC = w.row := by rw [w.row_eq]; rfl
@[go_sem high] theorem Wn.row_drop7 (w : Wn) (c : Cel) : c.row ++ w.row.drop 7 = (Wn.mk c w.act w.z).row := by rw [w.row_eq, c.row_eq, Wn.row_eq]; rfl
@[go_sem] theorem Cel.row_strT (c : Cel) : c.row.map strT = c.row := by rw [c.row_eq]; rfl
@[go_sem] theorem Wn.row_strT (w : Wn) : w.row.map strT = w.row := by rw [w.row_eq]; rfl
@[go_sem] theorem upd_upd {α : Type} (f : Nat → α) (b : Nat) (x y : α) : upd (upd f b x) b y = upd f b y := by funext j; simp only [upd]; split <;> rfl
@[go_sem] theorem Wn.row_okV (w : Wn) : okV (.agg w.row) = true := by rw [w.row_eq]; rfl

/-- a window that may be -/
def Wn.may (w : Wn) : Bool := w.tree.tiles && (w.tree.r.x == 0) && (w.tree.r.y == 0) && decide (w.act ∈ w.tree.ids) && (!w.z || decide (1 < w.tree.ids.length))

/-- the same cells, set anew -/
def stepX (k : Int) (c : Cel) (x : Int) : Int := if k = 2 then IntKind.i64.wrap (x + IntKind.i64.wrap (c.r.w + 1)) else x
def stepY (k : Int) (c : Cel) (y : Int) : Int := if k = 2 then y else if k = 3 then IntKind.i64.wrap (y + IntKind.i64.wrap (c.r.h + 1)) else y
mutual
def Cel.setp : Cel → Int → Int → Cel
  | .mk k r id kids, x, y => .mk k ⟨x, y, r.w, r.h⟩ id (Cel.setps k kids x y)
def Cel.setps : Int → List Cel → Int → Int → List Cel
  | _, [], _, _ => []
  | k, c :: cs, x, y => c.setp x y :: Cel.setps k cs (stepX k c x) (stepY k c y)
end
theorem Cel.setp_eq (c : Cel) (x y : Int) : c.setp x y = .mk c.kind ⟨x, y, c.r.w, c.r.h⟩ c.id (Cel.setps c.kind c.kids x y) := by cases c; rw [Cel.setp]; rfl
theorem Cel.setps_length (k : Int) (l : List Cel) (x y : Int) : (Cel.setps k l x y).length = l.length := by
  induction l generalizing x y with
  | nil => simp [Cel.setps]
  | cons c cs ih => simp [Cel.setps, ih]
def posX (k : Int) (l : List Cel) (x : Int) : Int := l.foldl (fun x c => stepX k c x) x
def posY (k : Int) (l : List Cel) (y : Int) : Int := l.foldl (fun y c => stepY k c y) y
theorem posX_take (k : Int) (l : List Cel) (x : Int) (i : Nat) (h : i < l.length) : posX k (l.take (i + 1)) x = stepX k l[i] (posX k (l.take i) x) := by
  rw [posX, List.take_add_one, List.getElem?_eq_getElem h, List.foldl_append]; rfl
theorem posY_take (k : Int) (l : List Cel) (x : Int) (i : Nat) (h : i < l.length) : posY k (l.take (i + 1)) x = stepY k l[i] (posY k (l.take i) x) := by
  rw [posY, List.take_add_one, List.getElem?_eq_getElem h, List.foldl_append]; rfl
theorem Cel.setps_append (k : Int) (l m : List Cel) (x y : Int) : Cel.setps k (l ++ m) x y = Cel.setps k l x y ++ Cel.setps k m (posX k l x) (posY k l y) := by
  induction l generalizing x y with
  | nil => simp [Cel.setps, posX, posY]
  | cons c cs ih => simp [Cel.setps, ih, posX, posY]
theorem Cel.setps_take (k : Int) (l : List Cel) (x y : Int) (i : Nat) (h : i < l.length) :
    Cel.setps k (l.take (i + 1)) x y = Cel.setps k (l.take i) x y ++ [l[i].setp (posX k (l.take i) x) (posY k (l.take i) y)] := by
  rw [List.take_add_one, List.getElem?_eq_getElem h, Cel.setps_append]; simp [Cel.setps]

def Cel.withX (c : Cel) (x : Int) : Cel := .mk c.kind ⟨x, c.r.y, c.r.w, c.r.h⟩ c.id c.kids
def Cel.withY (c : Cel) (y : Int) : Cel := .mk c.kind ⟨c.r.x, y, c.r.w, c.r.h⟩ c.id c.kids
@[go_sem high] theorem Cel.put1 (c : Cel) (x : Int) : splice c.row 1 [.int .i64 x] = (c.withX x).row := by rw [c.row_eq, (c.withX x).row_eq]; rfl
@[go_sem high] theorem Cel.put2 (c : Cel) (y : Int) : splice c.row 2 [.int .i64 y] = (c.withY y).row := by rw [c.row_eq, (c.withY y).row_eq]; rfl
@[go_sem] theorem Cel.withX_kids (c : Cel) (x : Int) : (c.withX x).kids = c.kids := rfl
@[go_sem] theorem Cel.withY_kids (c : Cel) (x : Int) : (c.withY x).kids = c.kids := rfl
@[go_sem] theorem Cel.withX_kind (c : Cel) (x : Int) : (c.withX x).kind = c.kind := rfl
@[go_sem] theorem Cel.withY_kind (c : Cel) (x : Int) : (c.withY x).kind = c.kind := rfl

/-- what a function that hands back a cell with kids of its own comes to -/
def ownK (d : Cel) (h : Heap) (e : IEnd) (h' : Heap) : Prop :=
  (e = .ret (.agg d.row) ∧ h' = h) ∨
  (∃ b cap, h b = none ∧ e = .ret (.agg (d.rowK (.sl 7 b 0 d.kids.length cap))) ∧ h' = upd h b (some (.arr 26 7 (d.kids.map Cel.row) cap)))
theorem ownK_fz {d : Cel} {h : Heap} {P : Program} {f : FuncId} {args : List IV} (hc : ICall P f args h (ownK d h)) : ICall P f args h (retP (.agg d.row) h) := by
  refine hc.fz ?_
  rintro e h' (⟨rfl, rfl⟩ | ⟨b, cap, hb, rfl, rfl⟩)
  · exact .inl ⟨rfl, rfl⟩
  · refine .inr ⟨_, b, 26, 7, d.kids.map Cel.row, cap, rfl, by simp [upd], ?_, ?_⟩
    · have h1 := d.rowK_fz b d.kids cap
      have h2 : d.withKids d.kids = d := by cases d; rfl
      rw [h2] at h1
      simp only [fz3, fz2, h1]
    · funext j
      simp only [dropH, upd]
      split
      · rename_i e; rw [e, hb]
      · rfl
end Go.Proofs
