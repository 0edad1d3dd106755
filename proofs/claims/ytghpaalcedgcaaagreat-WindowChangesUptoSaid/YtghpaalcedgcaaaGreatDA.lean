/- This text is a part of the proofs of the statements of this seat: the ideal states and their rules, or what one of the functions that the statements reach comes to. Conditions: none beyond those that each theorem names. -/
import Derived.Test.YtghpaalcedgcaaaGreatCD
import Derived.Test.YtghpaalcedgcaaaGreatP1
set_option linter.unusedVariables false
set_option linter.unusedSimpArgs false
set_option pp.deepTerms false
set_option pp.maxSteps 400
namespace Go.Proofs
open Go.Idl

def mm2 (f : Int → Int → Int) : IV → IV → Option IV
  | .int k x, .int k' y => if k = k' then some (.int k (f x y)) else none
  | _, _ => none
@[go_sem] theorem mm2_int (f : Int → Int → Int) (k : IntKind) (x y : Int) : mm2 f (.int k x) (.int k y) = some (.int k (f x y)) := by simp [mm2]
@[go_sem] theorem pop_max' (P : Program) (st : St) (a b : Operand) (ts : Array TypeId) : pop P st (.call ⟨.builtin .max, #[a, b], ts⟩) = mm2 max (st.ev a) (st.ev b) := by
  simp only [pop, List.map_cons, List.map_nil]; cases st.ev a <;> cases st.ev b <;> rfl
@[go_sem] theorem pop_min' (P : Program) (st : St) (a b : Operand) (ts : Array TypeId) : pop P st (.call ⟨.builtin .min, #[a, b], ts⟩) = mm2 min (st.ev a) (st.ev b) := by
  simp only [pop, List.map_cons, List.map_nil]; cases st.ev a <;> cases st.ev b <;> rfl

/-- a window -/
structure Wn where
  tree : Cel
  act : Int
  z : Bool

def Wn.row (w : Wn) : List IV := w.tree.row ++ [.int .i64 w.act, .bool w.z]
theorem Wn.row_eq (w : Wn) : w.row = [.int .u8 w.tree.kind, .int .i64 w.tree.r.x, .int .i64 w.tree.r.y, .int .i64 w.tree.r.w, .int .i64 w.tree.r.h, .int .i64 w.tree.id, .list .plain (w.tree.kids.map Cel.row), .int .i64 w.act, .bool w.z] := by
  rw [Wn.row, Cel.row_eq]; rfl
@[go_sem] theorem Wn.row_len (w : Wn) : w.row.length = 9 := by rw [w.row_eq]; rfl
@[go_sem high] theorem Wn.at0 (w : Wn) : w.row.take 7 = w.tree.row := by rw [w.row_eq, Cel.row_eq]; rfl
@[go_sem high] theorem Wn.at7 (w : Wn) : (w.row.drop 7).take 1 = [.int .i64 w.act] := by rw [w.row_eq]; rfl
@[go_sem high] theorem Wn.at8 (w : Wn) : (w.row.drop 8).take 1 = [.bool w.z] := by rw [w.row_eq]; rfl
@[go_sem high] theorem Wn.atk (w : Wn) : w.row.take 1 = [.int .u8 w.tree.kind] := by rw [w.row_eq]; rfl
@[go_sem high] theorem Wn.atx (w : Wn) : (w.row.drop 1).take 1 = [.int .i64 w.tree.r.x] := by rw [w.row_eq]; rfl
@[go_sem high] theorem Wn.aty (w : Wn) : (w.row.drop 2).take 1 = [.int .i64 w.tree.r.y] := by rw [w.row_eq]; rfl
@[go_sem high] theorem Wn.atxt (w : Wn) : w.row.tail.take 1 = [.int .i64 w.tree.r.x] := by rw [w.row_eq]; rfl
@[go_sem high] theorem Wn.atrt (w : Wn) : w.row.tail.take 4 = w.tree.r.row := by rw [w.row_eq]; rfl
@[go_sem high] theorem Wn.atr (w : Wn) : (w.row.drop 1).take 4 = w.tree.r.row := by rw [w.row_eq]; rfl
@[go_sem high] theorem Wn.at9 (w : Wn) : w.row.take 9 = w.row := by rw [w.row_eq]; rfl
@[go_sem high] theorem Wn.put0 (w : Wn) (c : Cel) : splice w.row 0 c.row = (Wn.mk c w.act w.z).row := by rw [w.row_eq, (Wn.mk c w.act w.z).row_eq, c.row_eq]; rfl
@[go_sem high] theorem Wn.put7 (w : Wn) (n : Int) : splice w.row 7 [.int .i64 n] = (Wn.mk w.tree n w.z).row := by rw [w.row_eq, Wn.row_eq]; rfl
@[go_sem high] theorem Wn.put8 (w : Wn) (b : Bool) : splice w.row 8 [.bool b] = (Wn.mk w.tree w.act b).row := by rw [w.row_eq, Wn.row_eq]; rfl
@[go_sem] theorem Wn.row_strip (w : Wn) : w.row.map strip = w.row := by rw [w.row_eq]; rfl
@[go_sem] theorem Wn.row_strC (w : Wn) : w.row.map strC = w.row := by rw [w.row_eq]; rfl
@[go_sem high] theorem Wn.row_drop7 (w : Wn) (c : Cel) : c.row ++ w.row.drop 7 = (Wn.mk c w.act w.z).row := by rw [w.row_eq, c.row_eq, Wn.row_eq]; rfl
@[go_sem] theorem Cel.row_strT (c : Cel) : c.row.map strT = c.row := by rw [c.row_eq]; rfl
@[go_sem] theorem Wn.row_strT (w : Wn) : w.row.map strT = w.row := by rw [w.row_eq]; rfl
@[go_sem] theorem upd_upd {α : Type} (f : Nat → α) (b : Nat) (x y : α) : upd (upd f b x) b y = upd f b y := by funext j; simp only [upd]; split <;> rfl
@[go_sem] theorem Wn.row_okV (w : Wn) : okV (.agg w.row) = true := by rw [w.row_eq]; rfl

/-- a window that may be -/
def Wn.may (w : Wn) : Bool := w.tree.tiles && (w.tree.r.x == 0) && (w.tree.r.y == 0) && decide (w.act ∈ w.tree.ids) && (!w.z || decide (1 < w.tree.ids.length))

/-- the same cells, set anew -/
def stepX (k : Int) (c : Cel) (x : Int) : Int := if k = 2 then IntKind.i64.wrap (x + IntKind.i64.wrap (c.r.w + 1)) else x
def stepY (k : Int) (c : Cel) (y : Int) : Int := if k = 2 then y else if k = 3 then IntKind.i64.wrap (y + IntKind.i64.wrap (c.r.h + 1)) else y
mutual
def Cel.setp : Cel → Int → Int → Cel
  | .mk k r id kids, x, y => .mk k ⟨x, y, r.w, r.h⟩ id (Cel.setps k kids x y)
def Cel.setps : Int → List Cel → Int → Int → List Cel
  | _, [], _, _ => []
  | k, c :: cs, x, y => c.setp x y :: Cel.setps k cs (stepX k c x) (stepY k c y)
end
theorem Cel.setp_eq (c : Cel) (x y : Int) : c.setp x y = .mk c.kind ⟨x, y, c.r.w, c.r.h⟩ c.id (Cel.setps c.kind c.kids x y) := by cases c; rw [Cel.setp]; rfl
theorem Cel.setps_length (k : Int) (l : List Cel) (x y : Int) : (Cel.setps k l x y).length = l.length := by
  induction l generalizing x y with
  | nil => simp [Cel.setps]
  | cons c cs ih => simp [Cel.setps, ih]
def posX (k : Int) (l : List Cel) (x : Int) : Int := l.foldl (fun x c => stepX k c x) x
def posY (k : Int) (l : List Cel) (y : Int) : Int := l.foldl (fun y c => stepY k c y) y
theorem posX_take (k : Int) (l : List Cel) (x : Int) (i : Nat) (h : i < l.length) : posX k (l.take (i + 1)) x = stepX k l[i] (posX k (l.take i) x) := by
  rw [posX, List.take_add_one, List.getElem?_eq_getElem h, List.foldl_append]; rfl
theorem posY_take (k : Int) (l : List Cel) (x : Int) (i : Nat) (h : i < l.length) : posY k (l.take (i + 1)) x = stepY k l[i] (posY k (l.take i) x) := by
  rw [posY, List.take_add_one, List.getElem?_eq_getElem h, List.foldl_append]; rfl
theorem Cel.setps_append (k : Int) (l m : List Cel) (x y : Int) : Cel.setps k (l ++ m) x y = Cel.setps k l x y ++ Cel.setps k m (posX k l x) (posY k l y) := by
  induction l generalizing x y with
  | nil => simp [Cel.setps, posX, posY]
  | cons c cs ih => simp [Cel.setps, ih, posX, posY]
theorem Cel.setps_take (k : Int) (l : List Cel) (x y : Int) (i : Nat) (h : i < l.length) :
    Cel.setps k (l.take (i + 1)) x y = Cel.setps k (l.take i) x y ++ [l[i].setp (posX k (l.take i) x) (posY k (l.take i) y)] := by
  rw [List.take_add_one, List.getElem?_eq_getElem h, Cel.setps_append]; simp [Cel.setps]

def Cel.withX (c : Cel) (x : Int) : Cel := .mk c.kind ⟨x, c.r.y, c.r.w, c.r.h⟩ c.id c.kids
def Cel.withY (c : Cel) (y : Int) : Cel := .mk c.kind ⟨c.r.x, y, c.r.w, c.r.h⟩ c.id c.kids
@[go_sem high] theorem Cel.put1 (c : Cel) (x : Int) : splice c.row 1 [.int .i64 x] = (c.withX x).row := by rw [c.row_eq, (c.withX x).row_eq]; rfl
@[go_sem high] theorem Cel.put2 (c : Cel) (y : Int) : splice c.row 2 [.int .i64 y] = (c.withY y).row := by rw [c.row_eq, (c.withY y).row_eq]; rfl
@[go_sem] theorem Cel.withX_kids (c : Cel) (x : Int) : (c.withX x).kids = c.kids := rfl
@[go_sem] theorem Cel.withY_kids (c : Cel) (x : Int) : (c.withY x).kids = c.kids := rfl
@[go_sem] theorem Cel.withX_kind (c : Cel) (x : Int) : (c.withX x).kind = c.kind := rfl
@[go_sem] theorem Cel.withY_kind (c : Cel) (x : Int) : (c.withY x).kind = c.kind := rfl

/-- what a function that hands back a cell with kids of its own comes to -/
def ownK (d : Cel) (h : Heap) (e : IEnd) (h' : Heap) : Prop :=
  (e = .ret (.agg d.row) ∧ h' = h) ∨
  (∃ b cap, h b = none ∧ e = .ret (.agg (d.rowK (.sl 7 b 0 d.kids.length cap))) ∧ h' = upd h b (some (.arr 26 7 (d.kids.map Cel.row) cap)))
theorem ownK_fz {d : Cel} {h : Heap} {P : Program} {f : FuncId} {args : List IV} (hc : ICall P f args h (ownK d h)) : ICall P f args h (retP (.agg d.row) h) := by
  refine hc.fz ?_
  rintro e h' (⟨rfl, rfl⟩ | ⟨b, cap, hb, rfl, rfl⟩)
  · exact .inl ⟨rfl, rfl⟩
  · refine .inr ⟨_, b, 26, 7, d.kids.map Cel.row, cap, rfl, by simp [upd], ?_, ?_⟩
    · have h1 := d.rowK_fz b d.kids cap
      have h2 : d.withKids d.kids = d := by cases d; rfl
      rw [h2] at h1
      simp only [fz3, fz2, h1]
    · funext j
      simp only [dropH, upd]
      split
      · rename_i e; rw [e, hb]
      · rfl
end Go.Proofs

set_option linter.unusedVariables false
set_option linter.unusedSimpArgs false
set_option pp.deepTerms false
set_option pp.maxSteps 400
namespace Go.Proofs
open Go.Idl

theorem Cel.withKids_self (c : Cel) : c.withKids c.kids = c := by cases c; rfl
theorem Cel.row_drop7 (c : Cel) : c.row.drop 7 = [] := by rw [c.row_eq]; rfl
theorem Cel.rowK_nil (d : Cel) : d.rowK (.list .plain []) = (d.withKids []).row := by rw [d.rowK_eq, (d.withKids []).row_eq]; rfl

set_option maxRecDepth 20000 in
set_option maxHeartbeats 4000000 in
theorem clone_c (c : Cel) : ∀ (h : Heap), c.size < 100000000000 → ICall Tryz.prog 95 [.agg c.row] h (retP (.agg c.row) h) := by
  induction c using Cel.induct
  rename_i c ih
  intro h hs
  have hlen := Cel.len_le c.kids
  rw [c.size_eq] at hs
  refine ownK_fz ?_
  refine icall_of_iwp (fun _ => 0) Tryz.func95 rfl (by kernel_rfl) (Nat.le_of_ble_eq_true rfl) ?_
  rw [Tryz.results95]
  simp -implicitDefEqProofs [go_sem]
  refine (cloneCel_c c.kids h (by omega)).mono ?_
  rintro e h' (⟨hkn, rfl, he⟩ | ⟨hkn, b, cap, hb, hcap, rfl, he⟩)
  · rw [he]
    have hkl : c.kids.length = 0 := by rw [hkn]; rfl
    simp -implicitDefEqProofs [go_sem, Cel.rowK_nil, hkl]
    refine iwp_loop (fun s => s = _) (fun _ => 0) rfl ?_
    rintro _ rfl
    simp -implicitDefEqProofs [go_sem, hkl]
    refine ⟨h, Sub.refl _, .inl ⟨?_, rfl⟩⟩
    rw [← hkn, Cel.withKids_self]
  · rw [he]
    simp -implicitDefEqProofs [go_sem]
    refine iwp_loopF (rng [3,4] 12 24) (fun k => k == 4) (fun s => ∃ i, i ≤ c.kids.length ∧ s.t 12 = .int .i64 i ∧ s.h = upd h b (some (.arr 26 7 (c.kids.map Cel.row) cap))) (fun s => c.kids.length - tn (s.t 12)) ?_ ?_
    · exact ⟨0, Nat.zero_le _, by simp -implicitDefEqProofs [go_sem], by simp -implicitDefEqProofs [go_sem]⟩
    rintro J s hJ hf ⟨i, hi, h12, hh⟩
    simp -implicitDefEqProofs [go_sem, h12, hf.t, hf.m]
    refine cK_dec (fun hlt => ?_) (fun hge => ?_)
    · have hg : c.kids[i]? = some c.kids[i] := List.getElem?_eq_getElem hlt
      have hw := wrap_succ (i := i) (by omega)
      have hst := Cel.sizes_take c.kids i hlt
      have hle := Cel.sizes_le c.kids (i + 1)
      obtain ⟨rowsI, hrowsI⟩ : ∃ r, r = c.kids.map Cel.row := ⟨_, rfl⟩
      rw [← hrowsI] at hh
      have hrow : rowsI[i]? = some c.kids[i].row := by rw [hrowsI, List.getElem?_map, hg]; rfl
      have hset : rowsI.set i c.kids[i].row = c.kids.map Cel.row := by
        rw [← hrowsI]
        have hil : i < rowsI.length := by rw [hrowsI]; simpa using hlt
        have : rowsI[i] = c.kids[i].row := by
          have := List.getElem?_eq_getElem hil
          rw [hrow] at this
          exact (Option.some.inj this).symm
        rw [← this, List.set_getElem_self]
      simp -implicitDefEqProofs [go_sem, h12, hf.t, hf.m, hh, hrow, hlt, hg]
      refine iwp_drawn_of mixed [0, 1, 2, 3, 4, 5, 6] (by kernel_rfl) ?_
      simp -implicitDefEqProofs [go_sem, h12, hh, hf.t, hf.m, hlt, hg, hrow]
      refine ⟨_, ih _ (List.getElem_mem hlt) _ (by omega), ?_⟩
      simp -implicitDefEqProofs [go_sem, h12, hh, hf.t, hf.m, hf, hlt, hg, hrow, hset, hw]
      refine hJ _ ⟨i + 1, by omega, by simp -implicitDefEqProofs [go_sem, hw], ?_⟩ (by simp [go_sem, h12, hw]; omega)
      funext j
      simp -implicitDefEqProofs [go_sem, hh, Cel.row_drop7, hset]
      try (split <;> rfl)
    · obtain rfl : i = c.kids.length := by omega
      simp -implicitDefEqProofs [go_sem, h12, hh, hf.t, hf.m]
      exact ⟨_, Sub.refl _, .inr ⟨b, cap, hb, rfl, rfl⟩⟩

set_option maxRecDepth 20000 in
set_option maxHeartbeats 4000000 in
theorem set_c (c : Cel) : ∀ (x y : Int) (h : Heap), c.size < 100000000000 → ICall Tryz.prog 118 [.agg c.row, .int .i64 x, .int .i64 y] h (retP (.agg (c.setp x y).row) h) := by
  induction c using Cel.induct
  rename_i c ih
  intro x y h hs
  have hlen := Cel.len_le c.kids
  rw [c.size_eq] at hs
  refine ownK_fz ?_
  have hcs : c.setp x y = ((c.withX x).withY y).withKids (Cel.setps c.kind c.kids x y) := by rw [c.setp_eq]; rfl
  refine icall_of_iwp (fun _ => 0) Tryz.func118 rfl (by kernel_rfl) (Nat.le_of_ble_eq_true rfl) ?_
  rw [Tryz.results118]
  simp -implicitDefEqProofs [go_sem]
  refine (cloneCel_c c.kids h (by omega)).mono ?_
  rintro e h' (⟨hkn, rfl, he⟩ | ⟨hkn, b, cap, hb, hcap, rfl, he⟩)
  · rw [he]
    have hkl : c.kids.length = 0 := by rw [hkn]; rfl
    simp -implicitDefEqProofs [go_sem, Cel.rowK_nil, hkl]
    refine iwp_loop (fun s => s = _) (fun _ => 0) rfl ?_
    rintro _ rfl
    simp -implicitDefEqProofs [go_sem, hkl]
    refine ⟨h, Sub.refl _, .inl ⟨?_, rfl⟩⟩
    rw [hcs, hkn]; simp [Cel.setps]
  · rw [he]
    simp -implicitDefEqProofs [go_sem]
    refine iwp_loopF (rng [1,2,7,8] 22 54) (fun k => k == 8) (fun s => ∃ i, i ≤ c.kids.length ∧ s.t 22 = .int .i64 i ∧ s.t 1 = .int .i64 (posX c.kind (c.kids.take i) x) ∧ s.t 2 = .int .i64 (posY c.kind (c.kids.take i) y) ∧ s.h = upd h b (some (.arr 26 7 ((Cel.setps c.kind (c.kids.take i) x y ++ c.kids.drop i).map Cel.row) cap))) (fun s => c.kids.length - tn (s.t 22)) ?_ ?_
    · exact ⟨0, Nat.zero_le _, by simp -implicitDefEqProofs [go_sem], by simp -implicitDefEqProofs [go_sem, posX], by simp -implicitDefEqProofs [go_sem, posY], by simp -implicitDefEqProofs [go_sem, Cel.setps]⟩
    rintro J s hJ hf ⟨i, hi, h22, h1, h2, hh⟩
    simp -implicitDefEqProofs [go_sem, h22, h1, h2, hf.t, hf.m]
    refine cK_dec (fun hlt => ?_) (fun hge => ?_)
    · have hg : c.kids[i]? = some c.kids[i] := List.getElem?_eq_getElem hlt
      have hw := wrap_succ (i := i) (by omega)
      have hst := Cel.sizes_take c.kids i hlt
      have hle := Cel.sizes_le c.kids (i + 1)
      have hnmt := Cel.setps_take c.kind c.kids x y i hlt
      have hx := posX_take c.kind c.kids x i hlt
      have hy := posY_take c.kind c.kids y i hlt
      have hnl : (Cel.setps c.kind (c.kids.take i) x y).length = i := by rw [Cel.setps_length]; simp; omega
      have hdk2 : c.kids.drop i = c.kids[i] :: c.kids.drop (i + 1) := List.drop_eq_getElem_cons hlt
      obtain ⟨rowsI, hrowsI⟩ : ∃ r, r = (Cel.setps c.kind (c.kids.take i) x y ++ c.kids.drop i).map Cel.row := ⟨_, rfl⟩
      rw [← hrowsI] at hh
      obtain ⟨px, hpx⟩ : ∃ p, p = posX c.kind (c.kids.take i) x := ⟨_, rfl⟩
      obtain ⟨py, hpy⟩ : ∃ p, p = posY c.kind (c.kids.take i) y := ⟨_, rfl⟩
      rw [← hpx] at h1 hx hnmt
      rw [← hpy] at h2 hy hnmt
      have hrow : rowsI[i]? = some c.kids[i].row := by
        rw [hrowsI, List.getElem?_map, List.getElem?_append_right (by omega), hnl, Nat.sub_self, hdk2]; rfl
      have hset : rowsI.set i (c.kids[i].setp px py).row = (Cel.setps c.kind (c.kids.take (i + 1)) x y ++ c.kids.drop (i + 1)).map Cel.row := by
        have h5 := set_mid (Cel.setps c.kind (c.kids.take i) x y) (c.kids.drop (i + 1)) c.kids[i] (c.kids[i].setp px py)
        rw [hnl] at h5
        rw [hrowsI, hdk2, ← List.map_set, h5, hnmt, List.append_assoc]; rfl
      simp -implicitDefEqProofs [go_sem, h22, h1, h2, hf.t, hf.m, hh, hrow, hlt, hg]
      refine iwp_drawn_of mixed [0, 1, 2, 3, 4, 5, 6, 7, 8] (by kernel_rfl) ?_
      simp -implicitDefEqProofs [go_sem, h22, h1, h2, hh, hf.t, hf.m, hlt, hg, hrow]
      refine ⟨_, ih _ (List.getElem_mem hlt) px py _ (by omega), ?_⟩
      simp -implicitDefEqProofs [go_sem, h22, h1, h2, hh, hf.t, hf.m, hf, hlt, hg, hrow, hset, hw]
      have fin : ∀ st : St, st.t 22 = .int .i64 ((i + 1 : Nat) : Int) → st.t 1 = .int .i64 (stepX c.kind c.kids[i] px) → st.t 2 = .int .i64 (stepY c.kind c.kids[i] py) → st.h = upd h b (some (.arr 26 7 ((Cel.setps c.kind (c.kids.take (i + 1)) x y ++ c.kids.drop (i + 1)).map Cel.row) cap)) → ∃ i, i ≤ c.kids.length ∧ st.t 22 = .int .i64 i ∧ st.t 1 = .int .i64 (posX c.kind (c.kids.take i) x) ∧ st.t 2 = .int .i64 (posY c.kind (c.kids.take i) y) ∧ st.h = upd h b (some (.arr 26 7 ((Cel.setps c.kind (c.kids.take i) x y ++ c.kids.drop i).map Cel.row) cap)) :=
        fun st a1 a2 a3 a4 => ⟨i + 1, by omega, a1, by rw [a2, hx], by rw [a3, hy], a4⟩
      refine cK_beq (fun k2 => ?_) (fun k2 => ?_) <;> simp -implicitDefEqProofs [go_sem, h22, h1, h2, hh, hf.t, hf.m, hf, hw]
      · refine hJ _ (fin _ (by simp -implicitDefEqProofs [go_sem, hw]) (by simp -implicitDefEqProofs [go_sem, stepX, k2]) (by simp -implicitDefEqProofs [go_sem, stepY, k2, h2]) ?_) (by simp [go_sem, h22, hw]; omega)
        funext j
        simp -implicitDefEqProofs [go_sem, hh, Cel.row_drop7, hset]
        try (split <;> rfl)
      refine cK_beq (fun k3 => ?_) (fun k3 => ?_) <;> simp -implicitDefEqProofs [go_sem, h22, h1, h2, hh, hf.t, hf.m, hf, hw]
      · refine hJ _ (fin _ (by simp -implicitDefEqProofs [go_sem, hw]) (by simp -implicitDefEqProofs [go_sem, stepX, k2, h1]) (by simp -implicitDefEqProofs [go_sem, stepY, k2, k3]) ?_) (by simp [go_sem, h22, hw]; omega)
        funext j
        simp -implicitDefEqProofs [go_sem, hh, Cel.row_drop7, hset]
        try (split <;> rfl)
      · refine hJ _ (fin _ (by simp -implicitDefEqProofs [go_sem, hw]) (by simp -implicitDefEqProofs [go_sem, stepX, k2, h1]) (by simp -implicitDefEqProofs [go_sem, stepY, k2, k3, h2]) ?_) (by simp [go_sem, h22, hw]; omega)
        funext j
        simp -implicitDefEqProofs [go_sem, hh, Cel.row_drop7, hset]
        try (split <;> rfl)
    · obtain rfl : i = c.kids.length := by omega
      rw [List.take_length, List.drop_length, List.append_nil] at hh
      simp -implicitDefEqProofs [go_sem, h22, h1, h2, hh, hf.t, hf.m]
      have hkk : (c.setp x y).kids = Cel.setps c.kind c.kids x y := by rw [hcs]; rfl
      refine ⟨_, Sub.refl _, .inr ⟨b, cap, hb, ?_, by rw [hkk]⟩⟩
      rw [hkk, Cel.setps_length, hcs, Cel.withKids_rowK]
end Go.Proofs

set_option linter.unusedVariables false
set_option linter.unusedSimpArgs false
set_option pp.deepTerms false
set_option pp.maxSteps 400
namespace Go.Proofs
open Go.Idl

theorem _root_.Go.Idl.Sub.upd' {h h2 : Heap} (hs : Sub h h2) {b : Nat} (hb : h2 b = none) (o : Option IObj) : Sub h (upd h2 b o) := by
  intro b' o' hb'
  have h1 := hs b' o' hb'
  have hne : b' ≠ b := by rintro rfl; rw [hb] at h1; cases h1
  simp [upd, hne, h1]

def idxF (l : List Int) (x : Int) (h : Heap) (e : IEnd) (h' : Heap) : Prop := h' = h ∧ ((x ∉ l ∧ e = .ret (.int .i64 (-1))) ∨ ∃ (i : Nat) (hi : i < l.length), l[i] = x ∧ e = .ret (.int .i64 i))
theorem indexF_c (l : List Int) (x : Int) (h : Heap) (hl : l.length < 100000000000) :
    ICall Tryz.prog 96 [.list .plain (l.map intRow), .int .i64 x] h (idxF l x h) := by
  refine icall_of_iwp (fun _ => 0) Tryz.func96 rfl (by kernel_rfl) (Nat.le_of_ble_eq_true rfl) ?_
  rw [Tryz.results96]
  simp -implicitDefEqProofs [go_sem]
  refine iwp_loopF (rng [4,5] 8 18) nom (fun s => ∃ i : Nat, i ≤ l.length ∧ s.t 8 = .int .i64 i ∧ x ∉ l.take i ∧ s.h = h) (fun s => l.length - tn (s.t 8)) ?_ ?_
  · exact ⟨0, Nat.zero_le _, by simp -implicitDefEqProofs [go_sem], by simp, by simp -implicitDefEqProofs [go_sem]⟩
  rintro J s hJ hf ⟨i, hi, h8, hnx, hh⟩
  simp -implicitDefEqProofs [go_sem, h8, hh, hf.t, hf.m]
  refine cK_dec (fun hlt => ?_) (fun hge => ?_)
  · have hg : l[i]? = some l[i] := List.getElem?_eq_getElem hlt
    have hw := wrap_succ (i := i) (by omega)
    simp -implicitDefEqProofs [go_sem, h8, hh, hf.t, hf.m, hlt, hg]
    refine cK_beq (fun k1 => ?_) (fun k1 => ?_) <;> simp -implicitDefEqProofs [go_sem, h8, hh, hf.t, hf.m, hf, hw]
    · exact ⟨h, Sub.refl _, rfl, .inr ⟨i, hlt, k1.symm, rfl⟩⟩
    · refine hJ _ ⟨i + 1, by omega, by simp -implicitDefEqProofs [go_sem, hw], ?_, by simp -implicitDefEqProofs [go_sem, hh]⟩ (by simp [go_sem, h8, hw]; omega)
      rw [List.take_add_one, hg]
      simp only [List.mem_append, not_or]
      exact ⟨hnx, by simp; exact k1⟩
  · simp -implicitDefEqProofs [go_sem, h8, hh, hf.t, hf.m]
    rw [List.take_of_length_le (by omega)] at hnx
    exact ⟨h, Sub.refl _, rfl, .inl ⟨hnx, rfl⟩⟩

theorem contains_c (l : List Int) (x : Int) (h : Heap) (hl : l.length < 100000000000) :
    ICall Tryz.prog 62 [.list .plain (l.map intRow), .int .i64 x] h (retP (.bool (decide (x ∈ l))) h) := by
  refine icall_of_iwp (fun _ => 0) Tryz.func62 rfl (by kernel_rfl) (Nat.le_of_ble_eq_true rfl) ?_
  rw [Tryz.results62]
  simp -implicitDefEqProofs [go_sem]
  refine (indexF_c l x h hl).mono ?_
  rintro e h' ⟨rfl, ⟨hn, rfl⟩ | ⟨i, hi, hx, rfl⟩⟩
  · simp -implicitDefEqProofs [go_sem]
    exact ⟨h', Sub.refl _, by rw [decide_eq_false hn], rfl⟩
  · have h0 : (0 : Int) ≤ (i : Int) := by omega
    simp -implicitDefEqProofs [go_sem, h0]
    exact ⟨h', Sub.refl _, by rw [decide_eq_true (hx ▸ List.getElem_mem hi)], rfl⟩

theorem idsz_le (c : Cel) : c.ids.length ≤ c.size := by
  have h1 := Cel.all_length c
  rw [Cel.ids, List.length_map, Cel.leaves]
  have := List.length_filter_le (fun d => d.kind == 1) c.all
  omega

theorem has_c (w : Wn) (id : Int) (b : Nat) (h : Heap) (hb : h b = some (.cells w.row)) (hs : w.tree.size < 100000000) :
    ICall Tryz.prog 79 [.ptr b 0, .int .i64 id] h (retP (.bool (decide (id ∈ w.tree.ids))) h) := by
  have hl := idsz_le w.tree
  refine icall_of_iwp (fun _ => 0) Tryz.func79 rfl (by kernel_rfl) (Nat.le_of_ble_eq_true rfl) ?_
  rw [Tryz.results79]
  simp -implicitDefEqProofs [go_sem, hb]
  refine (cLeaves_c w.tree h (by omega)).mono ?_
  rintro e h' ⟨rfl, he⟩
  rw [he]
  simp -implicitDefEqProofs [go_sem, hb]
  refine (contains_c w.tree.ids id h (by omega)).mono ?_
  rintro e h' ⟨rfl, he⟩
  rw [he]
  simp -implicitDefEqProofs [go_sem, hb]
  exact ⟨h, Sub.refl _, rfl, rfl⟩

set_option maxRecDepth 20000 in
theorem wmay_c (w : Wn) (h : Heap) (hs : w.tree.size < 100000000) : ICall Tryz.prog 49 [.agg w.row] h (retP (.bool w.may) h) := by
  have hl := idsz_le w.tree
  refine icall_of_iwp (fun _ => 0) Tryz.func49 rfl (by kernel_rfl) (Nat.le_of_ble_eq_true rfl) ?_
  rw [Tryz.results49]
  simp -implicitDefEqProofs [go_sem]
  refine (cLeaves_c w.tree h (by omega)).mono ?_
  rintro e h' ⟨rfl, he⟩
  rw [he]
  simp -implicitDefEqProofs [go_sem]
  refine (tTiles_c w.tree h (by omega)).mono ?_
  rintro e h' ⟨rfl, he⟩
  rw [he]
  cases ht : w.tree.tiles with
  | false =>
    have hm : w.may = false := by simp [Wn.may, ht]
    simp -implicitDefEqProofs [go_sem]
    exact ⟨h, Sub.refl _, by rw [hm], rfl⟩
  | true =>
    by_cases hx : w.tree.r.x = 0
    · by_cases hy : w.tree.r.y = 0
      · simp -implicitDefEqProofs [go_sem, hx, hy]
        refine (contains_c w.tree.ids w.act h (by omega)).mono ?_
        rintro e h' ⟨rfl, he⟩
        rw [he]
        by_cases ha : w.act ∈ w.tree.ids
        · cases hz : w.z with
          | false =>
            have hm : w.may = true := by simp [Wn.may, ht, hx, hy, ha, hz]
            simp -implicitDefEqProofs [go_sem, ha, hz]
            exact ⟨h, Sub.refl _, by rw [hm], rfl⟩
          | true =>
            have hm : w.may = decide (1 < w.tree.ids.length) := by simp [Wn.may, ht, hx, hy, ha, hz]
            simp -implicitDefEqProofs [go_sem, ha, hz]
            refine ⟨h, Sub.refl _, by rw [hm]; congr 1; simp; try omega, rfl⟩
        · have hm : w.may = false := by simp [Wn.may, ha]
          simp -implicitDefEqProofs [go_sem, ha]
          exact ⟨h, Sub.refl _, by rw [hm], rfl⟩
      · have hm : w.may = false := by simp [Wn.may, hy]
        have hyb : (w.tree.r.y == 0) = false := by simpa using hy
        simp -implicitDefEqProofs [go_sem, hx, hyb]
        exact ⟨h, Sub.refl _, by rw [hm], rfl⟩
    · have hm : w.may = false := by simp [Wn.may, hx]
      have hxb : (w.tree.r.x == 0) = false := by simpa using hx
      simp -implicitDefEqProofs [go_sem, hxb]
      exact ⟨h, Sub.refl _, by rw [hm], rfl⟩

def chgV (w w2 : Wn) (er : Int) : IV := if w.may = true then (if er = 0 then .tup [.agg w2.row, .int .i64 0] else .tup [.agg w.row, .int .i64 er]) else .tup [.agg w.row, .int .i64 1]

set_option maxRecDepth 20000 in
theorem changed_c (w : Wn) (f : FuncId) (cap : List IV) (w2 : Wn) (er : Int) (h : Heap) (hs : w.tree.size < 100000000)
    (hf : w.may = true → ∀ b, h b = none → ICall Tryz.prog f (.ptr b 0 :: cap) (upd h b (some (.cells (Wn.mk w.tree w.act false).row))) (retP (.int .i64 er) (upd h b (some (.cells w2.row))))) :
    ICall Tryz.prog 36 [.agg w.row, .fn (.func f) [] cap] h (retP (chgV w w2 er) h) := by
  refine icall_of_iwp (fun d => if d = 6 then 1 else 0) Tryz.func36 rfl (by kernel_rfl) (Nat.le_of_ble_eq_true rfl) ?_
  rw [Tryz.results36]
  simp -implicitDefEqProofs [go_sem]
  refine (wmay_c w h hs).mono ?_
  rintro e h' ⟨rfl, he⟩
  rw [he]
  cases hm : w.may with
  | false =>
    simp -implicitDefEqProofs [go_sem]
    exact ⟨h, Sub.refl _, by rw [chgV, if_neg (by rw [hm]; simp)], rfl⟩
  | true =>
    simp -implicitDefEqProofs [go_sem]
    intro b hb
    refine (hf hm b hb).mono ?_
    rintro e h' ⟨rfl, he⟩
    rw [he]
    by_cases her : er = 0
    · subst her
      simp -implicitDefEqProofs [go_sem]
      exact ⟨h, (Sub.refl _).upd hb _, by rw [chgV, if_pos hm, if_pos rfl], rfl⟩
    · have hb1 : (er != 0) = true := by simpa using her
      simp -implicitDefEqProofs [go_sem, hb1]
      exact ⟨h, (Sub.refl _).upd hb _, by rw [chgV, if_pos hm, if_neg her], rfl⟩

def zomE (w : Wn) (id : Int) : Int := if id ∈ w.tree.ids then (if w.tree.kind = 1 then 10 else 0) else 6
def zomW (w : Wn) (z : Bool) (id : Int) : Wn := if zomE w id = 0 then ⟨w.tree, id, !z || decide (w.act ≠ id)⟩ else ⟨w.tree, w.act, false⟩

set_option maxRecDepth 20000 in
theorem zoom1_c (w : Wn) (z : Bool) (id : Int) (b qi qz : Nat) (h : Heap) (hs : w.tree.size < 100000000) (hi : h qi = some (.cells [.int .i64 id])) (hz : h qz = some (.cells [.bool z])) (hbn : h b = none) :
    ICall Tryz.prog 78 [.ptr b 0, .ptr qi 0, .ptr qz 0] (upd h b (some (.cells (Wn.mk w.tree w.act false).row))) (retP (.int .i64 (zomE w id)) (upd h b (some (.cells (zomW w z id).row)))) := by
  have hbi : qi ≠ b := by rintro rfl; rw [hbn] at hi; cases hi
  have hbz : qz ≠ b := by rintro rfl; rw [hbn] at hz; cases hz
  refine icall_of_iwp (fun _ => 0) Tryz.func78 rfl (by kernel_rfl) (Nat.le_of_ble_eq_true rfl) ?_
  rw [Tryz.results78]
  simp -implicitDefEqProofs [go_sem, hi, hz, hbi, hbz]
  refine (has_c ⟨w.tree, w.act, false⟩ id b _ (by simp [upd]) hs).mono ?_
  rintro e h' ⟨rfl, he⟩
  rw [he]
  by_cases hm : id ∈ w.tree.ids
  · simp -implicitDefEqProofs [go_sem, hm]
    refine cK_beq (fun hk => ?_) (fun hk => ?_) <;> simp -implicitDefEqProofs [go_sem, hi, hz, hbi, hbz]
    · have h1 : zomE w id = 10 := by rw [zomE, if_pos hm, if_pos hk]
      exact ⟨_, Sub.refl _, by rw [h1], by rw [zomW, h1, if_neg (by omega)]⟩
    · have h1 : zomE w id = 0 := by rw [zomE, if_pos hm, if_neg hk]
      have h2 : zomW w z id = ⟨w.tree, id, !z || decide (w.act ≠ id)⟩ := by rw [zomW, if_pos h1]
      refine iwp_drawn_of mixed [0, 1, 2, 3, 4, 5, 6, 7, 8, 9, 10, 11, 12, 13] (by kernel_rfl) ?_
      cases z with
      | false =>
        simp -implicitDefEqProofs [go_sem, hi, hz, hbi, hbz]
        exact ⟨_, Sub.refl _, by rw [h1], by rw [h2]; funext j; simp only [upd]; split <;> simp⟩
      | true =>
        simp -implicitDefEqProofs [go_sem, hi, hz, hbi, hbz]
        refine ⟨_, Sub.refl _, by rw [h1], ?_⟩
        rw [h2]; funext j; simp only [upd]; split
        · congr 3
          simp [bne]
          rw [Bool.eq_iff_iff]; simp
        · rfl
  · simp -implicitDefEqProofs [go_sem, hm]
    have h1 : zomE w id = 6 := by rw [zomE, if_neg hm]
    exact ⟨_, Sub.refl _, by rw [h1], by rw [zomW, h1, if_neg (by omega)]⟩

theorem zoom_c (w : Wn) (id : Int) (h : Heap) (hs : w.tree.size < 100000000) :
    ICall Tryz.prog 33 [.agg w.row, .int .i64 id] h (retP (chgV w (zomW w w.z id) (zomE w id)) h) := by
  refine icall_of_iwp (fun d => if d = 3 then 1 else if d = 6 then 1 else 0) Tryz.func33 rfl (by kernel_rfl) (Nat.le_of_ble_eq_true rfl) ?_
  rw [Tryz.results33]
  simp -implicitDefEqProofs [go_sem]
  intro qi hqi qz hqz
  have hne : qi ≠ qz := by rintro rfl; simp [upd] at hqz
  refine (changed_c w 78 [.ptr qi 0, .ptr qz 0] (zomW w w.z id) (zomE w id) _ hs (fun _ b hb => zoom1_c w w.z id b qi qz _ hs (by simp [upd, hne]) (by simp [upd]) hb)).mono ?_
  rintro e h' ⟨rfl, he⟩
  rw [he, chgV]
  have hsub : Sub h (upd (upd h qi (some (.cells [.int .i64 id]))) qz (some (.cells [.bool w.z]))) := ((Sub.refl _).upd hqi _).upd' hqz _
  by_cases hm : w.may = true
  · by_cases her : zomE w id = 0
    · rw [if_pos hm, if_pos her]
      simp -implicitDefEqProofs [go_sem]
      exact ⟨h, hsub, rfl, rfl⟩
    · rw [if_pos hm, if_neg her]
      simp -implicitDefEqProofs [go_sem]
      exact ⟨h, hsub, rfl, rfl⟩
  · rw [if_neg hm]
    simp -implicitDefEqProofs [go_sem]
    exact ⟨h, hsub, rfl, rfl⟩
end Go.Proofs

set_option linter.unusedVariables false
set_option linter.unusedSimpArgs false
set_option pp.deepTerms false
set_option pp.maxSteps 400
namespace Go.Proofs
open Go.Idl

noncomputable def Wn.same (a b : Wn) : Bool := (a.act == b.act) && (a.z == b.z) && a.tree.beq b.tree
theorem same18_c (a b : Wn) (h : Heap) (hs : a.tree.size < 100000000) : ICall Tryz.prog 11 [.agg a.row, .agg b.row] h (retP (.bool (a.same b)) h) := by
  refine icall_of_iwp (fun _ => 0) Tryz.func11 rfl (by kernel_rfl) (Nat.le_of_ble_eq_true rfl) ?_
  rw [Tryz.results11]
  simp -implicitDefEqProofs [go_sem]
  cases h1 : a.act == b.act with
  | false =>
    have hm : a.same b = false := by simp [Wn.same, h1]
    simp -implicitDefEqProofs [go_sem]
    exact ⟨h, Sub.refl _, by rw [hm], rfl⟩
  | true =>
    cases h2 : a.z == b.z with
    | false =>
      have hm : a.same b = false := by simp [Wn.same, h2]
      simp -implicitDefEqProofs [go_sem, h2]
      exact ⟨h, Sub.refl _, by rw [hm], rfl⟩
    | true =>
      have hm : a.same b = a.tree.beq b.tree := by simp [Wn.same, h1, h2]
      simp -implicitDefEqProofs [go_sem, h2]
      refine (same_c a.tree b.tree h (by omega)).mono ?_
      rintro e h' ⟨rfl, he⟩
      rw [he]
      simp -implicitDefEqProofs [go_sem]
      exact ⟨h, Sub.refl _, by rw [hm], rfl⟩

theorem leaf_c (r : Rct) (id : Int) (h : Heap) : ICall Tryz.prog 48 [.agg r.row, .int .i64 id] h (retP (.agg (Cel.mk 1 r id []).row) h) := by
  refine icall_of_iwp (fun _ => 0) Tryz.func48 rfl (by kernel_rfl) (Nat.le_of_ble_eq_true rfl) ?_
  rw [Tryz.results48, Cel.row_mk]
  simp -implicitDefEqProofs [go_sem]
  exact ⟨h, Sub.refl _, rfl, rfl⟩

theorem lsize_c (r : Rct) (h : Heap) : ICall Tryz.prog 114 [.agg r.row, .int .u8 1] h (retP (.int .i64 r.w) h) := by
  refine icall_of_iwp (fun _ => 0) Tryz.func114 rfl (by kernel_rfl) (Nat.le_of_ble_eq_true rfl) ?_
  rw [Tryz.results114]
  simp -implicitDefEqProofs [go_sem]
  exact ⟨h, Sub.refl _, rfl, rfl⟩

theorem wr78 : IntKind.i64.wrap (80 - 2) = 78 := by decide
theorem wr40 : IntKind.i64.wrap (80 / 2) = 40 := by decide
theorem wrm1 : IntKind.i64.wrap (-1) = -1 := by decide
theorem wrn1 : IntKind.i64.wrap (0 - 1) = -1 := by decide
theorem sizes80_c (h : Heap) : ICall Tryz.prog 154 [.int .i64 80, .int .i64 0] h (retP (.tup [.int .i64 40, .int .i64 39, .bool true]) h) := by
  refine icall_of_iwp (fun _ => 0) Tryz.func154 rfl (by kernel_rfl) (Nat.le_of_ble_eq_true rfl) ?_
  rw [Tryz.results154]
  simp -implicitDefEqProofs [go_sem]
  exact ⟨h, Sub.refl _, rfl, rfl⟩

theorem sized_c (r : Rct) (n id : Int) (h : Heap) : ICall Tryz.prog 155 [.agg r.row, .int .u8 1, .int .i64 n, .int .i64 id] h (retP (.agg (Cel.mk 1 ⟨r.x, r.y, n, r.h⟩ id []).row) h) := by
  refine icall_of_iwp (fun _ => 0) Tryz.func155 rfl (by kernel_rfl) (Nat.le_of_ble_eq_true rfl) ?_
  rw [Tryz.results155]
  have hsp : splice r.row 2 [.int .i64 n] = (Rct.mk r.x r.y n r.h).row := rfl
  simp -implicitDefEqProofs [go_sem, hsp]
  refine (leaf_c ⟨r.x, r.y, n, r.h⟩ id h).mono ?_
  rintro e h' ⟨rfl, he⟩
  rw [he]
  simp -implicitDefEqProofs [go_sem]
  exact ⟨h, Sub.refl _, rfl, rfl⟩

def rA : Rct := ⟨0, 0, 80, 24⟩
def tA : Cel := .mk 1 rA 0 []
def lA : Cel := .mk 1 ⟨0, 0, 40, 24⟩ 0 []
def lB : Cel := .mk 1 ⟨0, 0, 39, 24⟩ 1 []
def tB : Cel := .mk 2 rA 0 [lA, lB]
def tC : Cel := tB.setp 0 0
def wA : Wn := ⟨tA, 0, false⟩
def wB : Wn := ⟨tC, 1, false⟩
def wC : Wn := ⟨tC, 1, true⟩

theorem two_c (h : Heap) : ICall Tryz.prog 116 [.agg tA.row, .int .u8 1, .int .i64 0, .int .i64 1, .bool false] h (retP (.list .plain [lA.row, lB.row]) h) := by
  refine icall_of_iwp (fun _ => 0) Tryz.func116 rfl (by kernel_rfl) (Nat.le_of_ble_eq_true rfl) ?_
  rw [Tryz.results116]
  have hr : tA.r = rA := rfl
  have hid : tA.id = 0 := rfl
  simp -implicitDefEqProofs [go_sem, hr, hid]
  refine (lsize_c rA h).mono ?_
  rintro e h' ⟨rfl, he⟩
  rw [he]
  simp -implicitDefEqProofs [go_sem]
  refine (sizes80_c h).mono ?_
  rintro e h' ⟨rfl, he⟩
  rw [he]
  simp -implicitDefEqProofs [go_sem]
  refine iwp_drawn_of mixed [0, 1, 2, 3, 4, 5, 6, 7, 8, 9, 10, 11, 12, 13, 14] (by kernel_rfl) ?_
  simp -implicitDefEqProofs [go_sem, hr, hid]
  refine ⟨_, sized_c rA 40 0 h, ?_⟩
  simp -implicitDefEqProofs [go_sem, hr, hid]
  refine ⟨_, sized_c rA 39 1 h, ?_⟩
  simp -implicitDefEqProofs [go_sem, hr, hid]
  exact ⟨h, Sub.refl _, rfl, rfl⟩

theorem put0_c (c k : Cel) (h : Heap) (hs : k.size < 100000000000) : ICall Tryz.prog 149 [.agg c.row, .agg k.row, .list .plain []] h (retP (.tup [.agg k.row, .bool true]) h) := by
  refine icall_of_iwp (fun _ => 0) Tryz.func149 rfl (by kernel_rfl) (Nat.le_of_ble_eq_true rfl) ?_
  rw [Tryz.results149]
  simp -implicitDefEqProofs [go_sem]
  refine (clone_c k h hs).mono ?_
  rintro e h' ⟨rfl, he⟩
  rw [he]
  simp -implicitDefEqProofs [go_sem]
  exact ⟨h, Sub.refl _, rfl, rfl⟩

theorem at0_c (c : Cel) (h : Heap) (hs : c.size < 100000000000) : ICall Tryz.prog 61 [.agg c.row, .list .plain []] h (retP (.tup [.agg c.row, .bool true]) h) := by
  refine icall_of_iwp (fun _ => 0) Tryz.func61 rfl (by kernel_rfl) (Nat.le_of_ble_eq_true rfl) ?_
  rw [Tryz.results61]
  simp -implicitDefEqProofs [go_sem]
  refine iwp_loop (fun s => s = _) (fun _ => 0) rfl ?_
  rintro _ rfl
  simp -implicitDefEqProofs [go_sem]
  refine (clone_c c h hs).mono ?_
  rintro e h' ⟨rfl, he⟩
  rw [he]
  simp -implicitDefEqProofs [go_sem]
  exact ⟨h, Sub.refl _, rfl, rfl⟩

theorem findLeaf_c (c : Cel) (id : Int) (h : Heap) (hk : c.kind = 1) (hid : c.id = id) : ICall Tryz.prog 113 [.agg c.row, .int .i64 id] h (retP (.tup [.list .plain [], .bool true]) h) := by
  refine icall_of_iwp (fun _ => 0) Tryz.func113 rfl (by kernel_rfl) (Nat.le_of_ble_eq_true rfl) ?_
  rw [Tryz.results113]
  simp -implicitDefEqProofs [go_sem, hk, hid]
  exact ⟨h, Sub.refl _, rfl, rfl⟩

theorem join_c (h : Heap) : ICall Tryz.prog 115 [.agg tA.row, .list .plain [], .agg tA.row, .int .u8 1, .list .plain [lA.row, lB.row]] h (retP (.agg tB.row) h) := by
  refine icall_of_iwp (fun _ => 0) Tryz.func115 rfl (by kernel_rfl) (Nat.le_of_ble_eq_true rfl) ?_
  rw [Tryz.results115]
  have hneg : ¬ ((0 : Int) ≤ -1) := by omega
  have hr : tA.r = rA := rfl
  have hrow : [IV.int .u8 2, .int .i64 rA.x, .int .i64 rA.y, .int .i64 rA.w, .int .i64 rA.h, .int .i64 0, .list .plain [lA.row, lB.row]] = tB.row := by rw [Cel.row_eq]; rfl
  have hrow2 : [IV.int .u8 2, .int .i64 0, .int .i64 0, .int .i64 80, .int .i64 24, .int .i64 0, .list .plain [lA.row, lB.row]] = tB.row := by rw [Cel.row_eq]; rfl
  simp -implicitDefEqProofs [go_sem, hr, wrm1, wrn1, hneg]
  first | rw [hrow] | rw [hrow2] | skip
  refine (put0_c tA tB h (by decide +kernel)).mono ?_
  rintro e h' ⟨rfl, he⟩
  rw [he]
  simp -implicitDefEqProofs [go_sem]
  exact ⟨h, Sub.refl _, rfl, rfl⟩
end Go.Proofs

set_option linter.unusedVariables false
set_option linter.unusedSimpArgs false
set_option pp.deepTerms false
set_option pp.maxSteps 400
namespace Go.Proofs
open Go.Idl

set_option maxRecDepth 20000 in
theorem sizeL_c (l : List Cel) (hs : Cel.sizes l < 100000000000) (ih : ∀ d ∈ l, ∀ h, ICall Tryz.prog 117 [.list .plain (d.kids.map Cel.row)] h (retP (.int .i64 (Cel.sizes d.kids)) h)) (h : Heap) :
    ICall Tryz.prog 117 [.list .plain (l.map Cel.row)] h (retP (.int .i64 (Cel.sizes l)) h) := by
  have hlen := Cel.len_le l
  refine icall_of_iwp (fun _ => 0) Tryz.func117 rfl (by kernel_rfl) (Nat.le_of_ble_eq_true rfl) ?_
  rw [Tryz.results117]
  simp -implicitDefEqProofs [go_sem]
  refine iwp_loopF (rng [3,5] 10 20) (fun k => k == 5) (fun s => ∃ i n : Nat, i ≤ l.length ∧ s.t 10 = .int .i64 i ∧ s.t 3 = .int .i64 n ∧ n + i = l.length + Cel.sizes (l.take i) ∧ s.h = h) (fun s => l.length - tn (s.t 10)) ?_ ?_
  · exact ⟨0, l.length, Nat.zero_le _, by simp -implicitDefEqProofs [go_sem], by simp -implicitDefEqProofs [go_sem], by simp [Cel.sizes], by simp -implicitDefEqProofs [go_sem]⟩
  rintro J s hJ hf ⟨i, n, hi, h10, h3, hn, hh⟩
  simp -implicitDefEqProofs [go_sem, h10, h3, hh, hf.t, hf.m]
  refine cK_dec (fun hlt => ?_) (fun hge => ?_)
  · have hg : l[i]? = some l[i] := List.getElem?_eq_getElem hlt
    have hw := wrap_succ (i := i) (by omega)
    have hst := Cel.sizes_take l i hlt
    have hle := Cel.sizes_le l (i + 1)
    have hse := l[i].size_eq
    have hw2 : IntKind.i64.wrap ((n : Int) + (Cel.sizes l[i].kids : Int)) = ((n + Cel.sizes l[i].kids : Nat) : Int) := by rw [wrap_in (by omega)]; rfl
    simp -implicitDefEqProofs [go_sem, h10, h3, hh, hf.t, hf.m, hlt, hg]
    refine (ih _ (List.getElem_mem hlt) h).mono ?_
    rintro e h' ⟨rfl, he⟩
    rw [he]
    simp -implicitDefEqProofs [go_sem, h10, h3, hh, hf.t, hf.m, hf, hlt, hg, hw, hw2]
    exact hJ _ ⟨i + 1, n + Cel.sizes l[i].kids, by omega, by simp -implicitDefEqProofs [go_sem, hw], by simp -implicitDefEqProofs [go_sem, hw2], by omega, by simp -implicitDefEqProofs [go_sem, hh]⟩ (by simp [go_sem, h10, hw]; omega)
  · obtain rfl : i = l.length := by omega
    rw [List.take_length] at hn
    obtain rfl : n = Cel.sizes l := by omega
    simp -implicitDefEqProofs [go_sem, h10, h3, hh, hf.t, hf.m]
    exact ⟨h, Sub.refl _, rfl, rfl⟩

theorem sizeK_c (c : Cel) : ∀ h, c.size < 100000000000 → ICall Tryz.prog 117 [.list .plain (c.kids.map Cel.row)] h (retP (.int .i64 (Cel.sizes c.kids)) h) := by
  induction c using Cel.induct
  rename_i c ih
  intro h hs
  rw [c.size_eq] at hs
  exact sizeL_c c.kids (by omega) (fun d hd h => ih d hd h (by have := Cel.mem_le hd; omega)) h

theorem size_c (c : Cel) (h : Heap) (hs : c.size < 100000000000) : ICall Tryz.prog 117 [.list .plain [c.row]] h (retP (.int .i64 c.size) h) := by
  have := sizeL_c [c] (by simpa [Cel.sizes] using hs) (fun d hd h => by simp at hd; subst hd; exact sizeK_c _ h hs) h
  have e : Cel.sizes [c] = c.size := by simp [Cel.sizes]
  rw [e] at this
  exact this

theorem tA_tiles : tA.tiles = true := by decide +kernel
theorem tA_ids : tA.ids = [0] := by decide +kernel
theorem wA_may : wA.may = true := by decide +kernel
theorem wB_may : wB.may = true := by decide +kernel
theorem wC_may : wC.may = true := by decide +kernel
theorem wB_ids : wB.tree.ids = [0, 1] := by decide +kernel

set_option maxRecDepth 20000 in
set_option maxHeartbeats 4000000 in
theorem splitLeaf_c (h : Heap) : ICall Tryz.prog 77 [.agg tA.row, .int .i64 0, .int .u8 1, .int .i64 0, .int .i64 1, .bool false] h (retP (.tup [.agg tC.row, .int .i64 0]) h) := by
  refine icall_of_iwp (fun _ => 0) Tryz.func77 rfl (by kernel_rfl) (Nat.le_of_ble_eq_true rfl) ?_
  rw [Tryz.results77]
  have hr : tA.r = rA := rfl
  have hrw : rA.w = 80 := rfl
  have hrx : rA.x = 0 := rfl
  have hry : rA.y = 0 := rfl
  simp -implicitDefEqProofs [go_sem]
  refine (tTiles_c tA h (by decide +kernel)).mono ?_
  rintro e h' ⟨rfl, he⟩
  rw [he, tA_tiles]
  simp -implicitDefEqProofs [go_sem]
  refine (cLeaves_c tA h (by decide +kernel)).mono ?_
  rintro e h' ⟨rfl, he⟩
  rw [he, tA_ids]
  simp -implicitDefEqProofs [go_sem]
  refine (contains_c [0] 1 h (by simp)).mono ?_
  rintro e h' ⟨rfl, he⟩
  rw [he]
  simp -implicitDefEqProofs [go_sem]
  refine (findLeaf_c tA 0 h rfl rfl).mono ?_
  rintro e h' ⟨rfl, he⟩
  rw [he]
  simp -implicitDefEqProofs [go_sem]
  refine (at0_c tA h (by decide +kernel)).mono ?_
  rintro e h' ⟨rfl, he⟩
  rw [he]
  simp -implicitDefEqProofs [go_sem, hr]
  refine (lsize_c rA h).mono ?_
  rintro e h' ⟨rfl, he⟩
  rw [he]
  simp -implicitDefEqProofs [go_sem, hrw]
  refine iwp_drawn_alloc mixed 11 [0, 1, 2, 3, 4, 5, 6, 7, 8, 9, 10, 12] (by kernel_rfl) ?_
  simp -implicitDefEqProofs [go_sem]
  refine ⟨_, two_c h, ?_⟩
  simp -implicitDefEqProofs [go_sem]
  refine ⟨_, join_c h, ?_⟩
  simp -implicitDefEqProofs [go_sem]
  refine (size_c tB h (by decide +kernel)).mono ?_
  rintro e h' ⟨rfl, he⟩
  have hsz : tB.size = 3 := by decide +kernel
  rw [he, hsz]
  simp -implicitDefEqProofs [go_sem, hr, hrx, hry]
  refine (set_c tB 0 0 h (by decide +kernel)).mono ?_
  rintro e h' ⟨rfl, he⟩
  rw [he]
  simp -implicitDefEqProofs [go_sem]
  exact ⟨h, Sub.refl _, rfl, rfl⟩

theorem wset_c (w : Wn) (c : Cel) (b : Nat) (h : Heap) (hb : h b = some (.cells w.row)) : ICall Tryz.prog 42 [.ptr b 0, .agg c.row, .int .i64 0] h (retP (.int .i64 0) (upd h b (some (.cells (Wn.mk c w.act w.z).row)))) := by
  refine icall_of_iwp (fun _ => 0) Tryz.func42 rfl (by kernel_rfl) (Nat.le_of_ble_eq_true rfl) ?_
  rw [Tryz.results42]
  simp -implicitDefEqProofs [go_sem, hb]
  exact ⟨_, Sub.refl _, rfl, rfl⟩

set_option maxRecDepth 20000 in
set_option maxHeartbeats 4000000 in
theorem split1_c (b q1 q2 q3 q4 q5 : Nat) (h : Heap) (hbn : h b = none) (h1 : h q1 = some (.cells [.int .i64 0])) (h2 : h q2 = some (.cells [.int .u8 1])) (h3 : h q3 = some (.cells [.int .i64 0])) (h4 : h q4 = some (.cells [.int .i64 1])) (h5 : h q5 = some (.cells [.bool false])) :
    ICall Tryz.prog 76 [.ptr b 0, .ptr q1 0, .ptr q2 0, .ptr q3 0, .ptr q4 0, .ptr q5 0] (upd h b (some (.cells (Wn.mk tA 0 false).row))) (retP (.int .i64 0) (upd h b (some (.cells wB.row)))) := by
  have n1 : q1 ≠ b := by rintro rfl; rw [hbn] at h1; cases h1
  have n2 : q2 ≠ b := by rintro rfl; rw [hbn] at h2; cases h2
  have n3 : q3 ≠ b := by rintro rfl; rw [hbn] at h3; cases h3
  have n4 : q4 ≠ b := by rintro rfl; rw [hbn] at h4; cases h4
  have n5 : q5 ≠ b := by rintro rfl; rw [hbn] at h5; cases h5
  refine icall_of_iwp (fun _ => 0) Tryz.func76 rfl (by kernel_rfl) (Nat.le_of_ble_eq_true rfl) ?_
  rw [Tryz.results76]
  simp -implicitDefEqProofs [go_sem]
  refine iwp_drawn_alloc mixed 13 [0, 1, 2, 3, 4, 5, 6, 7, 8, 9, 10, 11, 12, 14, 15] (by kernel_rfl) ?_
  simp -implicitDefEqProofs [go_sem, h1, h2, h3, h4, h5, n1, n2, n3, n4, n5]
  refine ⟨_, splitLeaf_c _, ?_⟩
  simp -implicitDefEqProofs [go_sem, h1, h2, h3, h4, h5, n1, n2, n3, n4, n5]
  refine (wset_c ⟨tA, 1, false⟩ tC b _ (by simp [upd])).mono ?_
  rintro e h' ⟨rfl, he⟩
  rw [he]
  simp -implicitDefEqProofs [go_sem]
  exact ⟨_, Sub.refl _, rfl, rfl⟩
end Go.Proofs

set_option linter.unusedVariables false
set_option linter.unusedSimpArgs false
set_option pp.deepTerms false
set_option pp.maxSteps 400
namespace Go.Proofs
open Go.Idl

theorem upd_old {h : Heap} {q b : Nat} {x : IObj} (hq : h q = some x) (hb : h b = none) {o : Option IObj} : upd h b o q = some x := by
  have : q ≠ b := by rintro rfl; rw [hb] at hq; cases hq
  simp [upd, this, hq]

theorem new_c (h : Heap) : ICall Tryz.prog 9 [.int .i64 80, .int .i64 24, .int .i64 0] h (retP (.tup [.agg wA.row, .int .i64 0]) h) := by
  refine icall_of_iwp (fun _ => 0) Tryz.func9 rfl (by kernel_rfl) (Nat.le_of_ble_eq_true rfl) ?_
  rw [Tryz.results9]
  have hrow : [IV.int .i64 0, .int .i64 0, .int .i64 80, .int .i64 24] = rA.row := rfl
  have hrow2 : tA.row ++ [IV.int .i64 0, .bool false] = wA.row := rfl
  simp -implicitDefEqProofs [go_sem]
  rw [hrow]
  refine (leaf_c rA 0 h).mono ?_
  rintro e h' ⟨rfl, he⟩
  rw [he, show Cel.mk 1 rA 0 [] = tA from rfl]
  simp -implicitDefEqProofs [go_sem, hrow2]
  refine (wmay_c wA h (by decide +kernel)).mono ?_
  rintro e h' ⟨rfl, he⟩
  rw [he, wA_may]
  simp -implicitDefEqProofs [go_sem]
  exact ⟨h, Sub.refl _, rfl, rfl⟩

set_option maxRecDepth 20000 in
set_option maxHeartbeats 4000000 in
theorem split_c (h : Heap) : ICall Tryz.prog 32 [.agg wA.row, .int .i64 0, .int .u8 1, .int .i64 0, .int .i64 1, .bool false] h (retP (.tup [.agg wB.row, .int .i64 0]) h) := by
  refine icall_of_iwp (fun d => if d = 7 ∨ d = 8 ∨ d = 9 ∨ d = 10 ∨ d = 11 then 1 else 0) Tryz.func32 rfl (by kernel_rfl) (Nat.le_of_ble_eq_true rfl) ?_
  rw [Tryz.results32]
  simp -implicitDefEqProofs [go_sem]
  intro q1 e1 q2 e2 q3 e3 q4 e4 q5 e5
  have E2 : upd h q1 (some (.cells [.int .i64 0])) q2 = none := e2
  have a1 : upd h q1 (some (.cells [.int .i64 0])) q1 = some (.cells [.int .i64 0]) := by simp [upd]
  have s1 : Sub h (upd h q1 (some (.cells [.int .i64 0]))) := (Sub.refl _).upd e1 _
  have E3 : upd (upd h q1 (some (.cells [.int .i64 0]))) q2 (some (.cells [.int .u8 1])) q3 = none := e3
  have E4 : upd (upd (upd h q1 (some (.cells [.int .i64 0]))) q2 (some (.cells [.int .u8 1]))) q3 (some (.cells [.int .i64 0])) q4 = none := e4
  have E5 : upd (upd (upd (upd h q1 (some (.cells [.int .i64 0]))) q2 (some (.cells [.int .u8 1]))) q3 (some (.cells [.int .i64 0]))) q4 (some (.cells [.int .i64 1])) q5 = none := e5
  clear e2 e3 e4 e5
  generalize upd h q1 (some (.cells [.int .i64 0])) = H1 at *
  have b1 := upd_old a1 E2 (o := some (.cells [.int .u8 1]))
  have b2 : upd H1 q2 (some (.cells [.int .u8 1])) q2 = some (.cells [.int .u8 1]) := by simp [upd]
  have s2 := s1.upd' E2 (some (.cells [.int .u8 1]))
  clear a1 s1 E2
  generalize upd H1 q2 (some (.cells [.int .u8 1])) = H2 at *
  have c1 := upd_old b1 E3 (o := some (.cells [.int .i64 0]))
  have c2 := upd_old b2 E3 (o := some (.cells [.int .i64 0]))
  have c3 : upd H2 q3 (some (.cells [.int .i64 0])) q3 = some (.cells [.int .i64 0]) := by simp [upd]
  have s3 := s2.upd' E3 (some (.cells [.int .i64 0]))
  clear b1 b2 s2 E3
  generalize upd H2 q3 (some (.cells [.int .i64 0])) = H3 at *
  have d1 := upd_old c1 E4 (o := some (.cells [.int .i64 1]))
  have d2 := upd_old c2 E4 (o := some (.cells [.int .i64 1]))
  have d3 := upd_old c3 E4 (o := some (.cells [.int .i64 1]))
  have d4 : upd H3 q4 (some (.cells [.int .i64 1])) q4 = some (.cells [.int .i64 1]) := by simp [upd]
  have s4 := s3.upd' E4 (some (.cells [.int .i64 1]))
  clear c1 c2 c3 s3 E4
  generalize upd H3 q4 (some (.cells [.int .i64 1])) = H4 at *
  have f1 := upd_old d1 E5 (o := some (.cells [.bool false]))
  have f2 := upd_old d2 E5 (o := some (.cells [.bool false]))
  have f3 := upd_old d3 E5 (o := some (.cells [.bool false]))
  have f4 := upd_old d4 E5 (o := some (.cells [.bool false]))
  have f5 : upd H4 q5 (some (.cells [.bool false])) q5 = some (.cells [.bool false]) := by simp [upd]
  have s5 := s4.upd' E5 (some (.cells [.bool false]))
  clear d1 d2 d3 d4 s4 E5
  generalize upd H4 q5 (some (.cells [.bool false])) = H5 at *
  refine (changed_c wA 76 [.ptr q1 0, .ptr q2 0, .ptr q3 0, .ptr q4 0, .ptr q5 0] wB 0 H5 (by decide +kernel) (fun _ b hb => split1_c b q1 q2 q3 q4 q5 H5 hb f1 f2 f3 f4 f5)).mono ?_
  rintro e h' ⟨rfl, he⟩
  rw [he, chgV, if_pos wA_may, if_pos rfl]
  simp -implicitDefEqProofs [go_sem]
  exact ⟨h, s5, rfl, rfl⟩

def zoomedR (w : Wn) : List (List IV) := [(Pn.mk w.act w.tree.r).row]

set_option maxRecDepth 20000 in
theorem shownC_c (h : Heap) : ICall Tryz.prog 35 [.agg wC.row] h (retP (.list .plain [(Pn.mk 1 rA).row]) h) := by
  refine icall_of_iwp (fun _ => 0) Tryz.func35 rfl (by kernel_rfl) (Nat.le_of_ble_eq_true rfl) ?_
  rw [Tryz.results35]
  have hz : wC.z = true := rfl
  have ha : wC.act = 1 := rfl
  have hr : wC.tree.r = rA := rfl
  simp -implicitDefEqProofs [go_sem]
  refine (wmay_c wC h (by decide +kernel)).mono ?_
  rintro e h' ⟨rfl, he⟩
  rw [he, wC_may]
  simp -implicitDefEqProofs [go_sem, hz, ha, hr]
  exact ⟨h, Sub.refl _, rfl, rfl⟩

theorem eqI_pn (a b : Pn) (n : Nat) : eqI Tryz.prog (n + 3) 79 (.agg a.row) (.agg b.row) = some (decide (a.id = b.id) && decide (a.r = b.r)) := by
  have := eqI_rct a.r b.r n
  simp [eqI, eqFs, prt, Tryz.underlying79, Tryz.underlying3, stood_79, aggT_3, szT_3, aggT_23, szT_23, Pn.row, Rct.row, stood_23, Tryz.underlying23, Bool.decide_and] at this ⊢
  rw [this]
  congr 1
@[go_sem high] theorem eqI_pn' (a b : Pn) : eqI Tryz.prog 10000 79 (.agg a.row) (.agg b.row) = some (decide (a.id = b.id) && decide (a.r = b.r)) := eqI_pn a b 9997

theorem sameP_c (l : List Pn) (h : Heap) (hl : l.length < 100000000000) : ICall Tryz.prog 34 [.list .plain (l.map Pn.row), .list .plain (l.map Pn.row)] h (retP (.bool true) h) := by
  refine icall_of_iwp (fun _ => 0) Tryz.func34 rfl (by kernel_rfl) (Nat.le_of_ble_eq_true rfl) ?_
  rw [Tryz.results34]
  simp -implicitDefEqProofs [go_sem]
  refine iwp_loopF (rng [4,5] 13 26) nom (fun s => ∃ i : Nat, i ≤ l.length ∧ s.t 13 = .int .i64 i ∧ s.h = h) (fun s => l.length - tn (s.t 13)) ?_ ?_
  · exact ⟨0, Nat.zero_le _, by simp -implicitDefEqProofs [go_sem], by simp -implicitDefEqProofs [go_sem]⟩
  rintro J s hJ hf ⟨i, hi, h13, hh⟩
  simp -implicitDefEqProofs [go_sem, h13, hh, hf.t, hf.m]
  refine cK_dec (fun hlt => ?_) (fun hge => ?_)
  · have hg : l[i]? = some l[i] := List.getElem?_eq_getElem hlt
    have hw := wrap_succ (i := i) (by omega)
    simp -implicitDefEqProofs [go_sem, h13, hh, hf.t, hf.m, hlt, hg]
    refine iwp_drawn_of mixed [0, 1, 2, 3, 4, 5, 6, 7, 8] (by kernel_rfl) ?_
    simp -implicitDefEqProofs [go_sem, h13, hh, hf.t, hf.m, hlt, hg, hf, hw]
    exact hJ _ ⟨i + 1, by omega, by simp -implicitDefEqProofs [go_sem, hw], by simp -implicitDefEqProofs [go_sem, hh]⟩ (by simp [go_sem, h13, hw]; omega)
  · simp -implicitDefEqProofs [go_sem, h13, hh, hf.t, hf.m]
    exact ⟨h, Sub.refl _, rfl, rfl⟩

set_option maxRecDepth 20000 in
set_option maxHeartbeats 4000000 in
theorem awake18_c (h : Heap) : ICall Tryz.prog 6 [] h (retP (.bool true) h) := by
  refine icall_of_iwp (fun _ => 0) Tryz.func6 rfl (by kernel_rfl) (Nat.le_of_ble_eq_true rfl) ?_
  rw [Tryz.results6]
  have hact : wB.act = 1 := rfl
  have hz : chgV wB (zomW wB wB.z 1) (zomE wB 1) = .tup [.agg wC.row, .int .i64 0] := by
    have h1 : zomE wB 1 = 0 := by decide +kernel
    have h2 : zomW wB wB.z 1 = wC := by rw [zomW, if_pos h1]; rfl
    rw [chgV, if_pos wB_may, if_pos h1, h2]
  have hrow : [IV.int .i64 1, .int .i64 0, .int .i64 0, .int .i64 80, .int .i64 24] = (Pn.mk 1 rA).row := rfl
  simp -implicitDefEqProofs [go_sem]
  refine (new_c h).mono ?_
  rintro e h' ⟨rfl, he⟩
  rw [he]
  simp -implicitDefEqProofs [go_sem]
  refine (split_c h).mono ?_
  rintro e h' ⟨rfl, he⟩
  rw [he]
  simp -implicitDefEqProofs [go_sem]
  refine (zoom_c wB 1 h (by decide +kernel)).mono ?_
  rintro e h' ⟨rfl, he⟩
  rw [he, hz]
  simp -implicitDefEqProofs [go_sem, hact]
  refine (shownC_c h).mono ?_
  rintro e h' ⟨rfl, he⟩
  rw [he]
  simp -implicitDefEqProofs [go_sem, hact, hrow]
  refine (sameP_c [⟨1, rA⟩] h (by simp)).mono ?_
  rintro e h' ⟨rfl, he⟩
  rw [he]
  simp -implicitDefEqProofs [go_sem]
  exact ⟨h, Sub.refl _, rfl, rfl⟩
end Go.Proofs
