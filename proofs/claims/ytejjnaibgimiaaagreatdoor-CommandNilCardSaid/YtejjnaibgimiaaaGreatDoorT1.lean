/- This text is a part of the proofs of the statements of this seat: the ideal states and their rules, or what one of the functions that the statements reach comes to. Conditions: none beyond those that each theorem names. -/
import Derived.Test.YtejjnaibgimiaaaGreatDoorT0
import Derived.Test.YtejjnaibgimiaaaGreatDoorF15
import Derived.Sort.AssemblyPlain
set_option linter.unusedVariables false
set_option linter.unusedSimpArgs false
set_option pp.deepTerms false
set_option pp.maxSteps 400
namespace Go.Proofs
open Go.Idl

def checkR (b : Bool) (h : Heap) (e : IEnd) (h' : Heap) : Prop := h' = h ∧ if b = true then e = .ret .niliface else ∃ t x, e = .ret (.iface t x)

set_option maxRecDepth 20000 in
theorem tcheck_c (c : Cel) (h : Heap) (hs : c.size < 100000000000) : ICall Tryz.prog 246 [.agg c.row] h (checkR c.tiles h) := by
  have htf := tiles_fold c
  refine icall_of_iwp (fun d => if d = 5 then 1 else 0) Tryz.func246 rfl (by kernel_rfl) (Nat.le_of_ble_eq_true rfl) ?_
  rw [Tryz.results246]
  simp -implicitDefEqProofs [go_sem]
  intro b hb
  refine (cMay_c c _ hs).mono ?_
  rintro e h' ⟨rfl, he⟩
  rw [he]
  simp -implicitDefEqProofs [go_sem]
  refine cK_any (fun hm => ?_) (fun hm => ?_) <;> simp -implicitDefEqProofs [go_sem]
  · have hti : c.tiles = false := by rw [htf]; simp at hm; simp [hm]
    refine (faultNew_c 1 0 (by omega) _).mono ?_
    rintro e h' ⟨rfl, t, x, rfl⟩
    simp -implicitDefEqProofs [go_sem]
    refine (faultIn_c t x _ rfl _).mono ?_
    rintro e h' ⟨rfl, t', x', rfl⟩
    simp -implicitDefEqProofs [go_sem]
    exact ⟨h, (Sub.refl _).upd hb _, rfl, by rw [hti]; exact ⟨_, _, rfl⟩⟩
  · have hm' : c.may = true := by simpa using hm
    rw [hm', Bool.true_and] at htf
    have hmb := hm'
    rw [Cel.may, decide_eq_true_eq] at hmb
    have hH : upd h b (some (.cells [.int .i64 0, .list .tight []])) = Wk.at' b ⟨0, none, []⟩ h := by funext j; simp only [Wk.at', Wk.b1, Wk.v]
    rw [hH]
    refine (walk_c b c ⟨0, none, []⟩ h ⟨hb, rfl⟩ (by simpa using hs) (fun d hd => by have := (hmb.2.1 d hd).2; omega)).mono ?_
    intro e h' he
    simp only at he
    cases hf : c.all.foldlM oneStep [] with
    | none =>
      rw [hf] at he htf
      obtain ⟨rfl, s', hg, rfl⟩ := he
      have hti : c.tiles = false := by rw [htf]; rfl
      have hwb := s'.at_wb b h
      simp -implicitDefEqProofs [go_sem, hwb]
      refine (faultNew_c 5 _ (by omega) _).mono ?_
      rintro e h' ⟨rfl, t, x, rfl⟩
      simp -implicitDefEqProofs [go_sem]
      refine (faultIn_c t x _ rfl _).mono ?_
      rintro e h' ⟨rfl, t', x', rfl⟩
      simp -implicitDefEqProofs [go_sem]
      refine ⟨h, ?_, rfl, by rw [hti]; exact ⟨_, _, rfl⟩⟩
      intro b' o hb'
      obtain ⟨num, lk, ls⟩ := s'
      have h1 : b' ≠ b := by rintro rfl; rw [hb] at hb'; cases hb'
      cases lk with
      | none => simpa [Wk.at', Wk.b1, upd, h1] using hb'
      | some p =>
        have h2 : b' ≠ p.1 := by rintro rfl; have := hg.2.2.1; rw [this] at hb'; cases hb'
        simpa [Wk.at', Wk.b1, upd, h1, h2] using hb'
    | some ls' =>
      rw [hf] at he htf
      obtain ⟨rfl, s', _, hg, rfl⟩ := he
      have hti : c.tiles = true := by rw [htf]; rfl
      simp -implicitDefEqProofs [go_sem]
      refine ⟨h, ?_, rfl, by rw [hti]; rfl⟩
      intro b' o hb'
      obtain ⟨num, lk, ls⟩ := s'
      have h1 : b' ≠ b := by rintro rfl; rw [hb] at hb'; cases hb'
      cases lk with
      | none => simpa [Wk.at', Wk.b1, upd, h1] using hb'
      | some p =>
        have h2 : b' ≠ p.1 := by rintro rfl; have := hg.2.2.1; rw [this] at hb'; cases hb'
        simpa [Wk.at', Wk.b1, upd, h1, h2] using hb'

theorem tTiles1_c (c : Cel) (h : Heap) (hs : c.size < 100000000000) : ICall Tryz.prog 245 [.agg c.row] h (retP (.bool (!c.tiles)) h) := by
  refine icall_of_iwp (fun _ => 0) Tryz.func245 rfl (by kernel_rfl) (Nat.le_of_ble_eq_true rfl) ?_
  rw [Tryz.results245]
  simp -implicitDefEqProofs [go_sem]
  refine (tcheck_c c h hs).mono ?_
  rintro e h' ⟨rfl, he⟩
  cases ht : c.tiles with
  | true =>
    rw [ht, if_pos rfl] at he
    subst he
    simp -implicitDefEqProofs [go_sem]
    exact ⟨_, Sub.refl _, rfl, rfl⟩
  | false =>
    rw [ht, if_neg (by simp)] at he
    obtain ⟨t, x, rfl⟩ := he
    simp -implicitDefEqProofs [go_sem]
    exact ⟨_, Sub.refl _, rfl, rfl⟩

theorem tTiles_c (c : Cel) (h : Heap) (hs : c.size < 100000000000) : ICall Tryz.prog 197 [.list .plain [c.row]] h (retP (.bool c.tiles) h) := by
  refine icall_of_iwp (fun _ => 0) Tryz.func197 rfl (by kernel_rfl) (Nat.le_of_ble_eq_true rfl) ?_
  rw [Tryz.results197]
  simp -implicitDefEqProofs [go_sem]
  have hn := containsFunc_cel (l := [c]) (f := 245) (first := []) (cap := []) (Inv := fun i h' => h' = h ∧ (i = 1 → c.tiles = true)) (Hit := fun i h' => h' = h ∧ c.tiles = false) (by simp) (fun i hi h1 hh => by
    obtain ⟨rfl, _⟩ := hh
    obtain rfl : i = 0 := by simp at hi; exact hi
    refine (tTiles1_c c h1 hs).mono ?_
    rintro e h' ⟨rfl, rfl⟩
    cases hb : c.tiles with
    | false => exact .inr ⟨rfl, rfl, rfl⟩
    | true => exact .inl ⟨rfl, rfl, fun _ => rfl⟩) h ⟨rfl, fun h => by cases h⟩
  simp only [List.map_cons, List.map_nil] at hn
  refine hn.mono ?_
  rintro e h' (⟨rfl, rfl, hm⟩ | ⟨i, hi, rfl, rfl, hm⟩)
  · simp -implicitDefEqProofs [go_sem]
    exact ⟨h', Sub.refl _, by rw [hm rfl], rfl⟩
  · simp -implicitDefEqProofs [go_sem]
    exact ⟨h', Sub.refl _, by rw [hm], rfl⟩

/-- the leaves' numbers of some trees -/
def idsL (l : List Cel) : List Int := ((Cel.alls l).filter fun d => d.kind == 1).map Cel.id
theorem ids_eq (c : Cel) : c.ids = (if c.kind = 1 then [c.id] else []) ++ idsL c.kids := by
  rw [Cel.ids, Cel.leaves, c.all_eq, idsL, List.filter_cons]
  by_cases hk : c.kind = 1
  · simp [hk]
  · simp [hk]
theorem idsL_take (l : List Cel) (i : Nat) (h : i < l.length) : idsL (l.take (i + 1)) = idsL (l.take i) ++ l[i].ids := by
  rw [idsL, Cel.alls_take l i h, List.filter_append, List.map_append]; rfl
theorem idsL_len (l : List Cel) : (idsL l).length ≤ Cel.sizes l := by
  rw [idsL, List.length_map, ← Cel.alls_length]; exact List.length_filter_le _ _

set_option maxRecDepth 20000 in
set_option maxHeartbeats 4000000 in
theorem leavesL_c (l : List Cel) (hs : Cel.sizes l < 100000000000) (ih : ∀ c ∈ l, ∀ h, ICall Tryz.prog 84 [.list .plain (c.kids.map Cel.row)] h (retP (.list .plain ((idsL c.kids).map intRow)) h)) (h : Heap) :
    ICall Tryz.prog 84 [.list .plain (l.map Cel.row)] h (retP (.list .plain ((idsL l).map intRow)) h) := by
  have hlen := Cel.len_le l
  refine icall_of_iwp (fun _ => 0) Tryz.func84 rfl (by kernel_rfl) (Nat.le_of_ble_eq_true rfl) ?_
  rw [Tryz.results84]
  simp -implicitDefEqProofs [go_sem]
  refine iwp_loopF (rng [3,5] 8 25) (fun k => k == 5) (fun s => ∃ i, i ≤ l.length ∧ s.t 8 = .int .i64 i ∧ Own [19, 24] s.x 3 (s.t 3) ((idsL (l.take i)).map intRow) ∧ s.h = h) (fun s => l.length - tn (s.t 8)) ?_ ?_
  · exact ⟨0, Nat.zero_le _, by simp -implicitDefEqProofs [go_sem], by simp -implicitDefEqProofs [go_sem, Own.tight, idsL, Cel.alls], by simp -implicitDefEqProofs [go_sem]⟩
  rintro J s hJ hf ⟨i, hi, h8, ho, hh⟩
  obtain ⟨tk, h3⟩ := ho.list
  simp -implicitDefEqProofs [go_sem, h8, h3, hh, hf.t, hf.m]
  refine cK_dec (fun hlt => ?_) (fun hge => ?_)
  · have hg : l[i]? = some l[i] := List.getElem?_eq_getElem hlt
    have hw := wrap_succ (i := i) (by omega)
    have hst := Cel.sizes_take l i hlt
    have hle := Cel.sizes_le l (i + 1)
    have hl1 := idsL_len (l.take i)
    have hl2 := idsL_len (l[i].kids)
    have hsz := l[i].size_eq
    have htk := idsL_take l i hlt
    rw [ids_eq] at htk
    simp -implicitDefEqProofs [go_sem, h8, h3, hh, hf.t, hf.m, hlt, hg]
    refine cK_beq (fun hk => ?_) (fun hk => ?_)
    · simp -implicitDefEqProofs [go_sem, h8, h3, hh, hf.t, hf.m, hlt, hg]
      refine aK_own (z := 1) (S := [19, 24]) (rows := (idsL (l.take i)).map intRow) (by simpa -implicitDefEqProofs [go_sem, h3] using ho) (by simp) elT_33 elZ_3 (by simp [roomy, byT_3]; omega) (ints_uni _) (by simp [uni]) ?_
      intro r' x' ho' _
      simp -implicitDefEqProofs [go_sem, h8, h3, hh, hf.t, hf.m, hf, hw]
      refine (ih _ (List.getElem_mem hlt) h).mono ?_
      rintro e h' ⟨rfl, he⟩
      rw [he]
      simp -implicitDefEqProofs [go_sem, h8, h3, hh, hf.t, hf.m, hf, hw]
      refine aK_own (z := 1) (S := [19, 24]) (rows := (idsL (l.take i) ++ [l[i].id]).map intRow) (by rw [List.map_append]; exact ho') (by simp) elT_33 elZ_3 (by simp [roomy, byT_3]; omega) (ints_uni _) (ints_uni _) ?_
      intro r2 x2 ho2 _
      simp -implicitDefEqProofs [go_sem, h8, h3, hh, hf.t, hf.m, hf, hw]
      exact hJ _ ⟨i + 1, by omega, by simp -implicitDefEqProofs [go_sem, hw], by rw [htk, if_pos hk, ← List.append_assoc, List.map_append]; simpa -implicitDefEqProofs [go_sem] using ho2, by simp -implicitDefEqProofs [go_sem, hh]⟩ (by simp [go_sem, h8, hw]; omega)
    · simp -implicitDefEqProofs [go_sem, h8, h3, hh, hf.t, hf.m, hlt, hg]
      refine (ih _ (List.getElem_mem hlt) h).mono ?_
      rintro e h' ⟨rfl, he⟩
      rw [he]
      simp -implicitDefEqProofs [go_sem, h8, h3, hh, hf.t, hf.m, hf, hw]
      refine aK_own (z := 1) (S := [19, 24]) (rows := (idsL (l.take i)).map intRow) (by simpa -implicitDefEqProofs [go_sem, h3] using ho) (by simp) elT_33 elZ_3 (by simp [roomy, byT_3]; omega) (ints_uni _) (ints_uni _) ?_
      intro r2 x2 ho2 _
      simp -implicitDefEqProofs [go_sem, h8, h3, hh, hf.t, hf.m, hf, hw]
      exact hJ _ ⟨i + 1, by omega, by simp -implicitDefEqProofs [go_sem, hw], by rw [htk, if_neg hk, List.nil_append, List.map_append]; simpa -implicitDefEqProofs [go_sem] using ho2, by simp -implicitDefEqProofs [go_sem, hh]⟩ (by simp [go_sem, h8, hw]; omega)
  · obtain rfl : i = l.length := by omega
    rw [List.take_length] at ho h3
    simp -implicitDefEqProofs [go_sem, h8, h3, hh, hf.t, hf.m]
    exact ⟨h, Sub.refl _, rfl, rfl⟩

theorem leavesK_c (c : Cel) : ∀ h, c.size < 100000000000 → ICall Tryz.prog 84 [.list .plain (c.kids.map Cel.row)] h (retP (.list .plain ((idsL c.kids).map intRow)) h) := by
  induction c using Cel.induct
  rename_i c ih
  intro h hs
  rw [c.size_eq] at hs
  exact leavesL_c c.kids (by omega) (fun d hd h => ih d hd h (by have := Cel.mem_le hd; omega)) h

theorem cLeaves_c (c : Cel) (h : Heap) (hs : c.size < 100000000000) : ICall Tryz.prog 84 [.list .plain [c.row]] h (retP (.list .plain (c.ids.map intRow)) h) := by
  have := leavesL_c [c] (by simpa [Cel.sizes] using hs) (fun d hd h => by simp at hd; subst hd; exact leavesK_c _ h hs) h
  have e : idsL [c] = c.ids := by simp [idsL, Cel.alls, Cel.ids, Cel.leaves]
  rw [e] at this
  exact this

def cloR (l : List Cel) (h : Heap) (e : IEnd) (h' : Heap) : Prop :=
    (l = [] ∧ retP (.list .plain []) h e h') ∨ (l ≠ [] ∧ ∃ b cap, h b = none ∧ l.length ≤ cap ∧ e = .ret (.sl 7 b 0 l.length cap) ∧ h' = upd h b (some (.arr 128 7 (l.map Cel.row) cap)))
set_option maxRecDepth 20000 in
theorem cloneCel_c (l : List Cel) (h : Heap) (hs : l.length < 100000000000) : ICall Tryz.prog 216 [.list .plain (l.map Cel.row)] h (cloR l h) := by
  refine icall_of_iwp (fun d => if d = 7 then 2 else 0) Tryz.func216 rfl (by kernel_rfl) (Nat.le_of_ble_eq_true rfl) ?_
  rw [Tryz.results216]
  simp -implicitDefEqProofs [go_sem]
  refine ⟨⟨by simp [roomy, byT_128]; omega, fun hl => ⟨h, Sub.refl _, .inl ⟨hl, rfl, rfl⟩⟩, fun hl b cap hb hcap => ⟨_, Sub.refl _, .inr ⟨hl, b, cap, hb, hcap, rfl, rfl⟩⟩⟩, fun hl => ⟨h, Sub.refl _, .inl ⟨hl, rfl, rfl⟩⟩⟩

@[go_sem] theorem Cel.withKids_kids (c : Cel) (ks : List Cel) : (c.withKids ks).kids = ks := rfl
theorem Cel.withKids_rowK (c : Cel) (ks : List Cel) (x : IV) : (c.withKids ks).rowK x = c.rowK x := by rw [Cel.rowK_eq, Cel.rowK_eq]; rfl
@[go_sem high] theorem Cel.put6s (c : Cel) (z b o n cap : Nat) : splice c.row 6 [.sl z b o n cap] = c.rowK (.sl z b o n cap) := by rw [c.row_eq, c.rowK_eq]; rfl
@[go_sem high] theorem Cel.rowK_strC_sl (c : Cel) (z b o n cap : Nat) : (c.rowK (.sl z b o n cap)).map strC = c.rowK (.sl z b o n cap) := by rw [c.rowK_eq]; rfl
@[go_sem high] theorem Cel.rowK_strip_sl (c : Cel) (z b o n cap : Nat) : (c.rowK (.sl z b o n cap)).map strip = c.rowK (.sl z b o n cap) := by rw [c.rowK_eq]; rfl
theorem Cel.rowK_fz (c : Cel) (b : Nat) (ks : List Cel) (cap : Nat) : (c.rowK (.sl 7 b 0 ks.length cap)).map (fz1 b 7 (ks.map Cel.row)) = (c.withKids ks).row := by
  rw [c.rowK_eq, (c.withKids ks).row_eq]
  simp [fz1, Cel.withKids, Cel.kind, Cel.r, Cel.id, Cel.kids]
  rw [List.take_of_length_le (by simp)]

theorem set_mid {α : Type} (A B : List α) (x y : α) : (A ++ x :: B).set A.length y = A ++ y :: B := by
  induction A with
  | nil => rfl
  | cons a A ih => simp [ih]
end Go.Proofs

set_option linter.unusedVariables false
set_option linter.unusedSimpArgs false
set_option pp.deepTerms false
set_option pp.maxSteps 400
namespace Go.Proofs
open Go.Idl
open Go.Sort (swp ltInt insInner insOuter insertionSort)

/-- the array of a slice of numbers, in the heap -/
def rowsD (d : Array Int) : List (List IV) := d.toList.map intRow
def SH (h : Heap) (b cap : Nat) (d : Array Int) : Heap := upd h b (some (.arr 3 1 (rowsD d) cap))
theorem rowsD_get {d : Array Int} {i : Nat} (hi : i < d.size) : (rowsD d)[i]? = some [.int .i64 d[i]!] := by
  rw [rowsD, List.getElem?_map, Array.getElem?_toList, Array.getElem?_eq_getElem hi, getElem!_pos d i hi]; rfl
theorem rowsD_set (d : Array Int) (i : Nat) (x : Int) : (rowsD d).set i [.int .i64 x] = rowsD (d.setIfInBounds i x) := by
  rw [rowsD, rowsD, Array.toList_setIfInBounds, List.map_set]; rfl
theorem rowsD_swp (d : Array Int) (i j : Nat) : ((rowsD d).set i [.int .i64 d[j]!]).set j [.int .i64 d[i]!] = rowsD (swp d i j) := by
  rw [rowsD_set, rowsD_set]; rfl
theorem rowsD_get2 {d : Array Int} {i j : Nat} (hj : j < d.size) (x : Int) : ∃ r, ((rowsD d).set i [.int .i64 x])[j]? = some [r] := by
  rw [rowsD_set]
  exact ⟨_, rowsD_get (by simpa using hj)⟩
theorem swp_size (d : Array Int) (i j : Nat) : (swp d i j).size = d.size := by simp [swp]
theorem SH_at (h : Heap) (b cap : Nat) (d : Array Int) : SH h b cap d b = some (.arr 3 1 (rowsD d) cap) := by simp [SH, upd]

theorem isNaN_c (x : Int) (h : Heap) : ICall Tryz.prog 211 [.int .i64 x] h (retP (.bool false) h) := by
  refine icall_of_iwp (fun _ => 0) Tryz.func211 rfl (by kernel_rfl) (Nat.le_of_ble_eq_true rfl) ?_
  rw [Tryz.results211]
  simp -implicitDefEqProofs [go_sem]
  exact ⟨h, Sub.refl _, rfl, rfl⟩
theorem less_c (x y : Int) (h : Heap) : ICall Tryz.prog 145 [.int .i64 x, .int .i64 y] h (retP (.bool (ltInt x y)) h) := by
  refine icall_of_iwp (fun _ => 0) Tryz.func145 rfl (by kernel_rfl) (Nat.le_of_ble_eq_true rfl) ?_
  rw [Tryz.results145]
  simp -implicitDefEqProofs [go_sem]
  refine (isNaN_c x h).mono ?_
  rintro e h' ⟨rfl, he⟩
  rw [he]
  simp -implicitDefEqProofs [go_sem]
  exact ⟨h, Sub.refl _, rfl, rfl⟩

set_option maxRecDepth 20000 in
set_option maxHeartbeats 4000000 in
theorem insSort_c (d : Array Int) (a b bk cap : Nat) (h : Heap) (hb : b ≤ d.size) (hs : d.size < 100000000000) (ha : a < 100000000000) :
    ICall Tryz.prog 139 [.sl 1 bk 0 d.size cap, .int .i64 a, .int .i64 b] (SH h bk cap d) (retP (.tup []) (SH h bk cap (insertionSort ltInt d a b))) := by
  obtain ⟨n, hn⟩ : ∃ n, n = d.size := ⟨_, rfl⟩
  rw [← hn] at hb hs ⊢
  refine icall_of_iwp (fun _ => 0) Tryz.func139 rfl (by kernel_rfl) (Nat.le_of_ble_eq_true rfl) ?_
  rw [Tryz.results139]
  have hwa := wrap_succ (i := a) (by omega)
  simp -implicitDefEqProofs [go_sem, hwa]
  refine iwp_loopF (rng [6,7] 10 49) nom (fun s => ∃ (i : Nat) (d1 : Array Int), a + 1 ≤ i ∧ (i ≤ b ∨ i = a + 1) ∧ d1.size = n ∧ s.t 6 = .int .i64 i ∧ insOuter ltInt a b i d1 = insertionSort ltInt d a b ∧ s.h = SH h bk cap d1) (fun s => b - tn (s.t 6)) ?_ ?_
  · exact ⟨a + 1, d, Nat.le_refl _, .inr rfl, hn.symm, by simp -implicitDefEqProofs [go_sem, hwa], rfl, by simp -implicitDefEqProofs [go_sem]⟩
  rintro J s hJ hf2 ⟨i, d1, hi1, hi2, hd1, h6, hfin, hh⟩
  simp -implicitDefEqProofs [go_sem, h6, hh, hf2.t, hf2.m]
  refine cK_dec (fun hlt => ?_) (fun hge => ?_)
  · have hw := wrap_succ (i := i) (by omega)
    simp -implicitDefEqProofs [go_sem, h6, hh, hf2.t, hf2.m]
    refine iwp_loopF (rng [7] 16 49) nom (fun s => ∃ (j : Nat) (d2 : Array Int), a ≤ j ∧ j ≤ i ∧ d2.size = n ∧ s.t 7 = .int .i64 j ∧ insInner ltInt a j d2 = insInner ltInt a i d1 ∧ s.h = SH h bk cap d2) (fun s => tn (s.t 7)) ?_ ?_
    · exact ⟨i, d1, by omega, Nat.le_refl _, hd1, by simp -implicitDefEqProofs [go_sem], rfl, by simp -implicitDefEqProofs [go_sem, hh]⟩
    rintro J2 s3 hJ2 hf3 ⟨j, d2, hj1, hj2, hd2, h7, hin, hh3⟩
    simp -implicitDefEqProofs [go_sem, h7, hh3, hf3.t, hf3.m, hf2.t, hf2.m, h6]
    have hend : insInner ltInt a j d2 = d2 → insOuter ltInt a b (i + 1) d2 = insertionSort ltInt d a b := fun hx => by
      rw [insOuter, if_pos hlt, ← hin, hx] at hfin; exact hfin
    have hf4 := Fr.trans2 hf2 hf3 (by simp -implicitDefEqProofs [go_sem]) (rng_sub (by decide)) nom_sub
    refine iwp_drawn_of mixed [0,1,2,3,4,5,6,7,8,9,10,11,12,13,14] (by kernel_rfl) ?_
    simp -implicitDefEqProofs [go_sem, h7, hh3, hf3.t, hf3.m, hf2.t, hf2.m, h6]
    refine cK_dec (fun hja => ?_) (fun hja => ?_)
    · obtain ⟨k, hk⟩ : ∃ k, j = k + 1 := ⟨j - 1, by omega⟩
      have hw1 : IntKind.i64.wrap ((j : Int) - 1) = (k : Int) := by rw [wrap_in (by omega)]; omega
      have hg1 := rowsD_get (d := d2) (i := j) (by omega)
      have hg0 := rowsD_get (d := d2) (i := k) (by omega)
      have hl1 : j < n := by omega
      have hl0 : k < n := by omega
      simp -implicitDefEqProofs [go_sem, h7, hh3, hf3.t, hf3.m, hf2.t, hf2.m, h6, hja, hw1, hg1, hg0, hl1, hl0, SH_at]
      refine ⟨_, less_c _ _ _, ?_⟩
      simp -implicitDefEqProofs [go_sem, h7, hh3, hf3.t, hf3.m, hf2.t, hf2.m, h6, hja, hw1, hg1, hg0, hl1, hl0, SH_at]
      refine cK_any (fun k1 => ?_) (fun k1 => ?_)
      · obtain ⟨r2, hr2⟩ := rowsD_get2 (d := d2) (i := j) (j := k) (by omega) d2[k]!
        simp -implicitDefEqProofs [go_sem, h7, hh3, hf3.t, hf3.m, hf2.t, hf2.m, h6, hja, hw1, hg1, hg0, hl1, hl0, SH_at]
        refine iwp_drawn_of mixed [0,1,2,3,4,5,6,7,8,9,10,11,12,13,14,15,16,17] (by kernel_rfl) ?_
        simp -implicitDefEqProofs [go_sem, h7, hh3, hf3.t, hf3.m, hf3, hf2.t, hf2.m, h6, hja, hw1, hg1, hg0, hl1, hl0, hr2, SH_at]
        have hstep : insInner ltInt a k (swp d2 j k) = insInner ltInt a i d1 := by
          rw [← hin]; subst hk; rw [insInner, if_pos (by simp [k1]; omega)]
        refine hJ2 _ ⟨k, swp d2 j k, by omega, by omega, by rw [swp_size, hd2], by simp -implicitDefEqProofs [go_sem, hw1], hstep, ?_⟩ (by simp [go_sem, h7, hw1]; omega)
        funext q
        simp -implicitDefEqProofs [go_sem, hh3, SH, rowsD_swp]
        try (split <;> rfl)
      · have hx : insInner ltInt a j d2 = d2 := by subst hk; rw [insInner, if_neg (by simp [k1])]
        simp -implicitDefEqProofs [go_sem, h7, hh3, hf3.t, hf3.m, hf2.t, hf2.m, hf4, h6, hw]
        exact hJ _ ⟨i + 1, d2, by omega, .inl (by omega), hd2, by simp -implicitDefEqProofs [go_sem, hf3.t, h6, hw], hend hx, by simp -implicitDefEqProofs [go_sem, hh3]⟩ (by simp [go_sem, h6, hf3.t, hw]; omega)
    · have hx : insInner ltInt a j d2 = d2 := by
        cases j with
        | zero => rfl
        | succ j => rw [insInner, if_neg (by simp; omega)]
      simp -implicitDefEqProofs [go_sem, h7, hh3, hf3.t, hf3.m, hf2.t, hf2.m, hf4, h6, hw, hja]
      exact hJ _ ⟨i + 1, d2, by omega, .inl (by omega), hd2, by simp -implicitDefEqProofs [go_sem, hf3.t, h6, hw], hend hx, by simp -implicitDefEqProofs [go_sem, hh3]⟩ (by simp [go_sem, h6, hf3.t, hw]; omega)
  · simp -implicitDefEqProofs [go_sem, h6, hh, hf2.t, hf2.m]
    rw [insOuter, if_neg (by omega)] at hfin
    exact ⟨_, Sub.refl _, rfl, by rw [hfin]⟩
end Go.Proofs

set_option linter.unusedVariables false
set_option linter.unusedSimpArgs false
set_option pp.deepTerms false
set_option pp.maxSteps 400
namespace Go.Proofs
open Go.Idl
open Go.Sort (swp ltInt siftDown heapBuild heapPop heapSort)

theorem sift_a {hi first r : Nat} {d : Array Int} (h : ¬ 2 * r + 1 ≥ hi) (h2 : 2 * r + 2 < hi) (h3 : ltInt d[first + (2 * r + 1)]! d[first + (2 * r + 2)]! = true) :
    siftDown ltInt hi first r d = if ltInt d[first + r]! d[first + (2 * r + 2)]! = true then siftDown ltInt hi first (2 * r + 2) (swp d (first + r) (first + (2 * r + 2))) else d := by
  rw [siftDown, dif_neg h, if_pos (by simp only [Bool.and_eq_true, decide_eq_true_eq]; exact ⟨by omega, by rw [show first + (2 * r + 1) + 1 = first + (2 * r + 2) by omega]; exact h3⟩)]
  cases hl : ltInt d[first + r]! d[first + (2 * r + 2)]! with
  | true => rw [if_neg (by simp), dif_pos h2, if_pos rfl]
  | false => rw [if_pos (by simp), if_neg (by simp)]
theorem sift_b {hi first r : Nat} {d : Array Int} (h : ¬ 2 * r + 1 ≥ hi) (h2 : ¬ (2 * r + 2 < hi ∧ ltInt d[first + (2 * r + 1)]! d[first + (2 * r + 2)]! = true)) :
    siftDown ltInt hi first r d = if ltInt d[first + r]! d[first + (2 * r + 1)]! = true then siftDown ltInt hi first (2 * r + 1) (swp d (first + r) (first + (2 * r + 1))) else d := by
  rw [siftDown, dif_neg h, if_neg (by simp only [Bool.and_eq_true, decide_eq_true_eq]; intro hh; exact h2 ⟨by omega, by rw [show first + (2 * r + 2) = first + (2 * r + 1) + 1 by omega]; exact hh.2⟩)]
  cases hl : ltInt d[first + r]! d[first + (2 * r + 1)]! with
  | true => rw [if_neg (by simp), if_pos rfl]
  | false => rw [if_pos (by simp), if_neg (by simp)]

set_option maxRecDepth 20000 in
set_option maxHeartbeats 8000000 in
theorem sift_c (d : Array Int) (root hi first bk cap : Nat) (h : Heap) (hb : first + hi ≤ d.size) (hs : d.size < 10000000000) (hr : root < 10000000000) :
    ICall Tryz.prog 206 [.sl 1 bk 0 d.size cap, .int .i64 root, .int .i64 hi, .int .i64 first] (SH h bk cap d) (retP (.tup []) (SH h bk cap (siftDown ltInt hi first root d))) := by
  obtain ⟨n, hn⟩ : ∃ n, n = d.size := ⟨_, rfl⟩
  rw [← hn] at hb hs ⊢
  refine icall_of_iwp (fun _ => 0) Tryz.func206 rfl (by kernel_rfl) (Nat.le_of_ble_eq_true rfl) ?_
  rw [Tryz.results206]
  simp -implicitDefEqProofs [go_sem]
  refine iwp_loopF (rng [8,9] 11 76) nom (fun s => ∃ (r1 : Nat) (d1 : Array Int), r1 < 10000000000 ∧ d1.size = n ∧ s.t 8 = .int .i64 r1 ∧ siftDown ltInt hi first r1 d1 = siftDown ltInt hi first root d ∧ s.h = SH h bk cap d1) (fun s => hi - tn (s.t 8)) ?_ ?_
  · exact ⟨root, d, hr, hn.symm, by simp -implicitDefEqProofs [go_sem], rfl, by simp -implicitDefEqProofs [go_sem]⟩
  rintro J s hJ hf ⟨r1, d1, hr1, hd1, h8, hfin, hh⟩
  obtain ⟨c1, hc1⟩ : ∃ c, c = 2 * r1 + 1 := ⟨_, rfl⟩
  obtain ⟨c2, hc2⟩ : ∃ c, c = 2 * r1 + 2 := ⟨_, rfl⟩
  have hw0 : IntKind.i64.wrap (2 * (r1 : Int)) = ((2 * r1 : Nat) : Int) := by rw [wrap_in (by omega)]; rfl
  have hw1 : IntKind.i64.wrap (((2 * r1 : Nat) : Int) + 1) = (c1 : Int) := by rw [wrap_in (by omega), hc1]; rfl
  have hw2 : IntKind.i64.wrap ((c1 : Int) + 1) = (c2 : Int) := by rw [wrap_in (by omega)]; omega
  have hw1' : IntKind.i64.wrap (2 * (r1 : Int) + 1) = (c1 : Int) := by rw [wrap_in (by omega)]; omega
  simp -implicitDefEqProofs [go_sem, h8, hh, hf.t, hf.m, hw0, hw1, hw1']
  refine cK_dec (fun hge => ?_) (fun hlt => ?_)
  · have hx : siftDown ltInt hi first root d = d1 := by rw [← hfin, siftDown, dif_pos (by omega)]
    simp -implicitDefEqProofs [go_sem, h8, hh, hf.t, hf.m]
    exact ⟨_, Sub.refl _, rfl, by rw [hx]⟩
  obtain ⟨f1, hf1⟩ : ∃ x, x = first + c1 := ⟨_, rfl⟩
  obtain ⟨f2, hf2⟩ : ∃ x, x = first + c2 := ⟨_, rfl⟩
  obtain ⟨fr, hfr⟩ : ∃ x, x = first + r1 := ⟨_, rfl⟩
  have hwD : IntKind.i64.wrap ((first : Int) + (c2 : Int)) = (f2 : Int) := by rw [wrap_in (by omega), hf2]; rfl
  have hwE : IntKind.i64.wrap ((f1 : Int) + 1) = (f2 : Int) := by rw [wrap_in (by omega)]; omega
  have hwC : IntKind.i64.wrap ((first : Int) + (c1 : Int)) = (f1 : Int) := by rw [wrap_in (by omega), hf1]; rfl
  have hg1' := rowsD_get (d := d1) (i := f1) (by omega)
  have hl1' : f1 < n := by omega
  simp -implicitDefEqProofs [go_sem, h8, hh, hf.t, hf.m, hw1, hw2]
  refine iwp_drawn_of mixed [0,1,2,3,4,5,6,7,8,9,10,11,12,13,14,15,16,17,18,19] (by kernel_rfl) ?_
  simp -implicitDefEqProofs [go_sem, h8, hh, hf.t, hf.m, hw1, hw2]
  refine cK_dec (fun h2 => ?_) (fun h2 => ?_)
  · have hg2' := rowsD_get (d := d1) (i := f2) (by omega)
    have hl2' : f2 < n := by omega
    have eA : ltInt d1[f1]! d1[f2]! = true → siftDown ltInt hi first r1 d1 = if ltInt d1[fr]! d1[f2]! = true then siftDown ltInt hi first c2 (swp d1 fr f2) else d1 := fun k0 => by
      subst hf1; subst hf2; subst hfr; subst hc1; subst hc2
      exact sift_a (by omega) h2 k0
    simp -implicitDefEqProofs [go_sem, h8, hh, hf.t, hf.m, hw1, hw2, h2, hwC, hwE, hg1', hg2', hl1', hl2', SH_at]
    refine ⟨_, less_c _ _ _, ?_⟩
    simp -implicitDefEqProofs [go_sem, h8, hh, hf.t, hf.m, hw1, hw2, h2, hwC, hwE]
    refine cK_any (fun k0 => ?_) (fun k0 => ?_)
    · have hwA : IntKind.i64.wrap ((first : Int) + (r1 : Int)) = (fr : Int) := by rw [wrap_in (by omega), hfr]; rfl
      have hg1 := rowsD_get (d := d1) (i := fr) (by omega)
      have hg2 := rowsD_get (d := d1) (i := f2) (by omega)
      have hl1 : fr < n := by omega
      have hl2 : f2 < n := by omega
      simp -implicitDefEqProofs [go_sem, h8, hh, hf.t, hf.m, hwA, hw1, hw2]
      refine iwp_drawn_of mixed [0,1,2,3,4,5,6,7,8,9,10,11,12,13] (by kernel_rfl) ?_
      simp -implicitDefEqProofs [go_sem, h8, hh, hf.t, hf.m, hwA, hwC, hwD, hg1, hg2, hl1, hl2, SH_at]
      refine ⟨_, less_c _ _ _, ?_⟩
      simp -implicitDefEqProofs [go_sem, h8, hh, hf.t, hf.m]
      refine cK_any (fun k1 => ?_) (fun k1 => ?_)
      · have hx : siftDown ltInt hi first root d = d1 := by
          have k1' : ltInt d1[fr]! d1[f2]! = false := by simpa using k1
          rw [eA k0, if_neg (by rw [k1']; simp)] at hfin; exact hfin.symm
        simp -implicitDefEqProofs [go_sem, h8, hh, hf.t, hf.m]
        exact ⟨_, Sub.refl _, rfl, by rw [hx]⟩
      · have k1' : ltInt d1[fr]! d1[f2]! = true := by simpa using k1
        obtain ⟨r2, hr2⟩ := rowsD_get2 (d := d1) (i := fr) (j := f2) (by omega) d1[f2]!
        simp -implicitDefEqProofs [go_sem, h8, hh, hf.t, hf.m]
        refine iwp_drawn_of mixed [0,1,2,3,4,5,6,7,8,9,10,11,12,13,14,15,16,17,18,19,20,21,22,23] (by kernel_rfl) ?_
        simp -implicitDefEqProofs [go_sem, h8, hh, hf.t, hf.m, hf, hwA, hwC, hwD, hg1, hg2, hl1, hl2, hr2, SH_at]
        rw [eA k0, if_pos k1'] at hfin
        refine hJ _ ⟨c2, swp d1 fr f2, by omega, by rw [swp_size, hd1], by simp -implicitDefEqProofs [go_sem], hfin, ?_⟩ (by simp [go_sem, h8]; omega)
        funext q
        simp -implicitDefEqProofs [go_sem, hh, SH, rowsD_swp]
        try (split <;> rfl)
    · have eB : siftDown ltInt hi first r1 d1 = if ltInt d1[fr]! d1[f1]! = true then siftDown ltInt hi first c1 (swp d1 fr f1) else d1 := by
        subst hf1; subst hf2; subst hfr; subst hc1; subst hc2
        exact sift_b (by omega) (fun hh => by rw [hh.2] at k0; cases k0)
      have hwA : IntKind.i64.wrap ((first : Int) + (r1 : Int)) = (fr : Int) := by rw [wrap_in (by omega), hfr]; rfl
      have hg1 := rowsD_get (d := d1) (i := fr) (by omega)
      have hg2 := rowsD_get (d := d1) (i := f1) (by omega)
      have hl1 : fr < n := by omega
      have hl2 : f1 < n := by omega
      simp -implicitDefEqProofs [go_sem, h8, hh, hf.t, hf.m, hwA, hw1, hw2]
      refine iwp_drawn_of mixed [0,1,2,3,4,5,6,7,8,9,10,11,12,13] (by kernel_rfl) ?_
      simp -implicitDefEqProofs [go_sem, h8, hh, hf.t, hf.m, hwA, hwC, hwD, hg1, hg2, hl1, hl2, SH_at]
      refine ⟨_, less_c _ _ _, ?_⟩
      simp -implicitDefEqProofs [go_sem, h8, hh, hf.t, hf.m]
      refine cK_any (fun k1 => ?_) (fun k1 => ?_)
      · have hx : siftDown ltInt hi first root d = d1 := by
          have k1' : ltInt d1[fr]! d1[f1]! = false := by simpa using k1
          rw [eB, if_neg (by rw [k1']; simp)] at hfin; exact hfin.symm
        simp -implicitDefEqProofs [go_sem, h8, hh, hf.t, hf.m]
        exact ⟨_, Sub.refl _, rfl, by rw [hx]⟩
      · have k1' : ltInt d1[fr]! d1[f1]! = true := by simpa using k1
        obtain ⟨r2, hr2⟩ := rowsD_get2 (d := d1) (i := fr) (j := f1) (by omega) d1[f1]!
        simp -implicitDefEqProofs [go_sem, h8, hh, hf.t, hf.m]
        refine iwp_drawn_of mixed [0,1,2,3,4,5,6,7,8,9,10,11,12,13,14,15,16,17,18,19,20,21,22,23] (by kernel_rfl) ?_
        simp -implicitDefEqProofs [go_sem, h8, hh, hf.t, hf.m, hf, hwA, hwC, hwD, hg1, hg2, hl1, hl2, hr2, SH_at]
        rw [eB, if_pos k1'] at hfin
        refine hJ _ ⟨c1, swp d1 fr f1, by omega, by rw [swp_size, hd1], by simp -implicitDefEqProofs [go_sem], hfin, ?_⟩ (by simp [go_sem, h8]; omega)
        funext q
        simp -implicitDefEqProofs [go_sem, hh, SH, rowsD_swp]
        try (split <;> rfl)
  · have eB : siftDown ltInt hi first r1 d1 = if ltInt d1[fr]! d1[f1]! = true then siftDown ltInt hi first c1 (swp d1 fr f1) else d1 := by
      subst hf1; subst hf2; subst hfr; subst hc1; subst hc2
      exact sift_b (by omega) (fun hh => h2 hh.1)
    have hwA : IntKind.i64.wrap ((first : Int) + (r1 : Int)) = (fr : Int) := by rw [wrap_in (by omega), hfr]; rfl
    have hg1 := rowsD_get (d := d1) (i := fr) (by omega)
    have hg2 := rowsD_get (d := d1) (i := f1) (by omega)
    have hl1 : fr < n := by omega
    have hl2 : f1 < n := by omega
    simp -implicitDefEqProofs [go_sem, h8, hh, hf.t, hf.m, hwA, hw1, hw2, h2]
    refine iwp_drawn_of mixed [0,1,2,3,4,5,6,7,8,9,10,11,12,13] (by kernel_rfl) ?_
    simp -implicitDefEqProofs [go_sem, h8, hh, hf.t, hf.m, hwA, hwC, hwD, hg1, hg2, hl1, hl2, SH_at]
    refine ⟨_, less_c _ _ _, ?_⟩
    simp -implicitDefEqProofs [go_sem, h8, hh, hf.t, hf.m]
    refine cK_any (fun k1 => ?_) (fun k1 => ?_)
    · have hx : siftDown ltInt hi first root d = d1 := by
        have k1' : ltInt d1[fr]! d1[f1]! = false := by simpa using k1
        rw [eB, if_neg (by rw [k1']; simp)] at hfin; exact hfin.symm
      simp -implicitDefEqProofs [go_sem, h8, hh, hf.t, hf.m]
      exact ⟨_, Sub.refl _, rfl, by rw [hx]⟩
    · have k1' : ltInt d1[fr]! d1[f1]! = true := by simpa using k1
      obtain ⟨r2, hr2⟩ := rowsD_get2 (d := d1) (i := fr) (j := f1) (by omega) d1[f1]!
      simp -implicitDefEqProofs [go_sem, h8, hh, hf.t, hf.m]
      refine iwp_drawn_of mixed [0,1,2,3,4,5,6,7,8,9,10,11,12,13,14,15,16,17,18,19,20,21,22,23] (by kernel_rfl) ?_
      simp -implicitDefEqProofs [go_sem, h8, hh, hf.t, hf.m, hf, hwA, hwC, hwD, hg1, hg2, hl1, hl2, hr2, SH_at]
      rw [eB, if_pos k1'] at hfin
      refine hJ _ ⟨c1, swp d1 fr f1, by omega, by rw [swp_size, hd1], by simp -implicitDefEqProofs [go_sem], hfin, ?_⟩ (by simp [go_sem, h8]; omega)
      funext q
      simp -implicitDefEqProofs [go_sem, hh, SH, rowsD_swp]
      try (split <;> rfl)
end Go.Proofs

set_option linter.unusedVariables false
set_option linter.unusedSimpArgs false
set_option pp.deepTerms false
set_option pp.maxSteps 400
namespace Go.Proofs
open Go.Idl
open Go.Sort (swp ltInt siftDown heapBuild heapPop heapSort reverseLoop reverseRange)

theorem SH_swp (h : Heap) (b cap : Nat) (d : Array Int) (i j : Nat) (x : Option IObj) :
    upd (upd (SH h b cap d) b x) b (some (.arr 3 1 (((rowsD d).set i [.int .i64 d[j]!]).set j [.int .i64 d[i]!]) cap)) = SH h b cap (swp d i j) := by
  rw [rowsD_swp]; funext q; simp only [SH, upd]; split <;> rfl

def tz : IV → Nat
  | .int _ n => (n + 1).toNat
  | _ => 0
theorem tz_int (k : IntKind) (n : Int) : tz (.int k n) = (n + 1).toNat := rfl

theorem sift_size (hi first : Nat) : ∀ (m root : Nat) (d : Array Int), hi - root ≤ m → (siftDown ltInt hi first root d).size = d.size := by
  intro m
  induction m with
  | zero => intro root d h; rw [siftDown, dif_pos (by omega)]
  | succ m ih =>
    intro root d h
    rw [siftDown]
    split
    · rfl
    · split
      · split
        · rfl
        · split
          · rw [ih _ _ (by omega), swp_size]
          · rfl
      · split
        · rfl
        · rw [ih _ _ (by omega), swp_size]

set_option maxRecDepth 20000 in
set_option maxHeartbeats 4000000 in
theorem heapSort_c (d : Array Int) (a b bk cap : Nat) (h : Heap) (hab : a < b) (hb : b ≤ d.size) (hs : d.size < 10000000000) :
    ICall Tryz.prog 140 [.sl 1 bk 0 d.size cap, .int .i64 a, .int .i64 b] (SH h bk cap d) (retP (.tup []) (SH h bk cap (heapSort ltInt d a b))) := by
  obtain ⟨n, hn⟩ : ∃ n, n = d.size := ⟨_, rfl⟩
  rw [← hn] at hb hs ⊢
  refine icall_of_iwp (fun _ => 0) Tryz.func140 rfl (by kernel_rfl) (Nat.le_of_ble_eq_true rfl) ?_
  rw [Tryz.results140]
  obtain ⟨hi, hhi⟩ : ∃ x, x = b - a := ⟨_, rfl⟩
  have hw1 : IntKind.i64.wrap ((b : Int) - (a : Int)) = (hi : Int) := by rw [wrap_in (by omega)]; omega
  obtain ⟨p, hp⟩ : ∃ x, x = hi - 1 := ⟨_, rfl⟩
  obtain ⟨q, hq⟩ : ∃ x, x = (hi - 1) / 2 := ⟨_, rfl⟩
  have hw2 : IntKind.i64.wrap ((hi : Int) - 1) = (p : Int) := by rw [wrap_in (by omega)]; omega
  have hw4 : ((p : Int)).tdiv 2 = (q : Int) := by rw [Int.tdiv_eq_ediv_of_nonneg (by omega)]; omega
  have hw4' : (p : Int) / 2 = (q : Int) := by omega
  have hw3 : IntKind.i64.wrap (q : Int) = (q : Int) := wrap_in (by omega)
  have hd0 : heapSort ltInt d a b = heapPop ltInt a hi (heapBuild ltInt hi a (q + 1) d) := by rw [heapSort, ← hhi, hq]
  simp -implicitDefEqProofs [go_sem, hw1, hw2, hw3, hw4, hw4']
  refine iwp_loopF (rng [9] 18 27) nom (fun s => ∃ (k : Nat) (d1 : Array Int), k ≤ q + 1 ∧ d1.size = n ∧ s.t 9 = .int .i64 ((k : Int) - 1) ∧ heapBuild ltInt hi a k d1 = heapBuild ltInt hi a (q + 1) d ∧ s.h = SH h bk cap d1) (fun s => tz (s.t 9)) ?_ ?_
  · refine ⟨q + 1, d, Nat.le_refl _, hn.symm, ?_, rfl, by simp -implicitDefEqProofs [go_sem]⟩
    simp -implicitDefEqProofs [go_sem, hw3, hw4, hw4']
    try omega
  rintro J s hJ hf ⟨k, d1, hk, hd1, h9, hfin, hh⟩
  simp -implicitDefEqProofs [go_sem, h9, hh, hf.t, hf.m]
  refine cK_dec (fun hge => ?_) (fun hlt => ?_)
  · obtain ⟨m, hm⟩ : ∃ m, k = m + 1 := ⟨k - 1, by omega⟩
    have e1 : (k : Int) - 1 = (m : Int) := by omega
    have hw5 : IntKind.i64.wrap ((m : Int) - 1) = (m : Int) - 1 := wrap_in (by omega)
    rw [e1] at h9
    simp -implicitDefEqProofs [go_sem, h9, e1, hh, hf.t, hf.m]
    have hc := sift_c d1 m hi a bk cap h (by omega) (by omega) (by omega)
    rw [hd1] at hc
    refine hc.mono ?_
    rintro e h' ⟨rfl, he⟩
    rw [he]
    simp -implicitDefEqProofs [go_sem, h9, e1, hh, hf.t, hf.m, hf, hw5]
    refine hJ _ ⟨m, siftDown ltInt hi a m d1, by omega, by rw [sift_size _ _ _ _ _ (Nat.le_refl _), hd1], by simp -implicitDefEqProofs [go_sem, hw5], by rw [← hfin, hm, heapBuild], by simp -implicitDefEqProofs [go_sem]⟩ (by simp [go_sem, h9, hw5, tz_int])
  · obtain rfl : k = 0 := by omega
    rw [heapBuild] at hfin
    simp -implicitDefEqProofs [go_sem, h9, hh, hf.t, hf.m, hw2]
    clear hJ J
    refine iwp_loopF (rng [10] 29 56) nom (fun s => ∃ (k : Nat) (d2 : Array Int), k ≤ hi ∧ d2.size = n ∧ s.t 10 = .int .i64 ((k : Int) - 1) ∧ heapPop ltInt a k d2 = heapSort ltInt d a b ∧ s.h = SH h bk cap d2) (fun s => tz (s.t 10)) ?_ ?_
    · refine ⟨hi, d1, Nat.le_refl _, hd1, ?_, by rw [hd0, ← hfin], by simp -implicitDefEqProofs [go_sem, hh]⟩
      simp -implicitDefEqProofs [go_sem, hw2]
      omega
    rintro J s2 hJ hf2 ⟨k, d2, hk, hd2, h10, hfin2, hh2⟩
    simp -implicitDefEqProofs [go_sem, h10, hh2, hf2.t, hf2.m, hf.t, hf.m]
    refine cK_dec (fun hge2 => ?_) (fun hlt2 => ?_)
    · obtain ⟨m, hm⟩ : ∃ m, k = m + 1 := ⟨k - 1, by omega⟩
      have e1 : (k : Int) - 1 = (m : Int) := by omega
      have hw5 : IntKind.i64.wrap ((m : Int) - 1) = (m : Int) - 1 := wrap_in (by omega)
      obtain ⟨am, ham⟩ : ∃ x, x = a + m := ⟨_, rfl⟩
      have hw6 : IntKind.i64.wrap ((a : Int) + (m : Int)) = (am : Int) := by rw [wrap_in (by omega)]; omega
      rw [e1] at h10
      have hg1 := rowsD_get (d := d2) (i := a) (by omega)
      have hg2 := rowsD_get (d := d2) (i := am) (by omega)
      have hl1 : a < n := by omega
      have hl2 : am < n := by omega
      obtain ⟨r2, hr2⟩ := rowsD_get2 (d := d2) (i := a) (j := am) (by omega) d2[am]!
      simp -implicitDefEqProofs [go_sem, h10, e1, hh2, hf2.t, hf2.m, hf.t, hf.m]
      refine iwp_drawn_of mixed [0,1,2,3,4,5,6,7,8,9,10,11,12,13,14,15,16,17,18,19] (by kernel_rfl) ?_
      simp -implicitDefEqProofs [go_sem, h10, e1, hh2, hf2.t, hf2.m, hf.t, hf.m, hw6, hg1, hg2, hl1, hl2, hr2, SH_at]
      rw [SH_swp]
      have hc := sift_c (swp d2 a am) 0 m a bk cap h (by rw [swp_size]; omega) (by rw [swp_size]; omega) (by omega)
      rw [swp_size, hd2] at hc
      refine ICall.mono hc ?_
      rintro e h' ⟨rfl, he⟩
      rw [he]
      simp -implicitDefEqProofs [go_sem, h10, e1, hh2, hf2.t, hf2.m, hf2, hf.t, hf.m, hw5]
      refine hJ _ ⟨m, siftDown ltInt m a 0 (swp d2 a am), by omega, by rw [sift_size _ _ _ _ _ (Nat.le_refl _), swp_size, hd2], by simp -implicitDefEqProofs [go_sem, hw5], by rw [← hfin2, hm, heapPop, ham], by simp -implicitDefEqProofs [go_sem]⟩ (by simp [go_sem, h10, hw5, tz_int])
    · obtain rfl : k = 0 := by omega
      rw [heapPop] at hfin2
      simp -implicitDefEqProofs [go_sem, h10, hh2, hf2.t, hf2.m, hf.t, hf.m]
      exact ⟨_, Sub.refl _, rfl, by rw [hfin2]⟩

set_option maxRecDepth 20000 in
set_option maxHeartbeats 4000000 in
theorem reverseRange_c (d : Array Int) (a b bk cap : Nat) (h : Heap) (hab : a < b) (hb : b ≤ d.size) (hs : d.size < 10000000000) :
    ICall Tryz.prog 143 [.sl 1 bk 0 d.size cap, .int .i64 a, .int .i64 b] (SH h bk cap d) (retP (.tup []) (SH h bk cap (reverseRange d a b))) := by
  obtain ⟨n, hn⟩ : ∃ n, n = d.size := ⟨_, rfl⟩
  rw [← hn] at hb hs ⊢
  refine icall_of_iwp (fun _ => 0) Tryz.func143 rfl (by kernel_rfl) (Nat.le_of_ble_eq_true rfl) ?_
  rw [Tryz.results143]
  obtain ⟨p, hp⟩ : ∃ x, x = b - 1 := ⟨_, rfl⟩
  have hw1 : IntKind.i64.wrap ((b : Int) - 1) = (p : Int) := by rw [wrap_in (by omega)]; omega
  simp -implicitDefEqProofs [go_sem, hw1]
  refine iwp_loopF (rng [6,7] 11 32) nom (fun s => ∃ (i j : Nat) (d1 : Array Int), j < b ∧ i ≤ n ∧ d1.size = n ∧ s.t 6 = .int .i64 i ∧ s.t 7 = .int .i64 j ∧ reverseLoop i j d1 = reverseRange d a b ∧ s.h = SH h bk cap d1) (fun s => tn (s.t 7) - tn (s.t 6)) ?_ ?_
  · exact ⟨a, p, d, by omega, by omega, hn.symm, by simp -implicitDefEqProofs [go_sem], by simp -implicitDefEqProofs [go_sem, hw1], by rw [reverseRange, hp], by simp -implicitDefEqProofs [go_sem]⟩
  rintro J s hJ hf ⟨i, j, d1, hj, hi, hd1, h6, h7, hfin, hh⟩
  simp -implicitDefEqProofs [go_sem, h6, h7, hh, hf.t, hf.m]
  refine cK_dec (fun hlt => ?_) (fun hge => ?_)
  · have hg1 := rowsD_get (d := d1) (i := i) (by omega)
    have hg2 := rowsD_get (d := d1) (i := j) (by omega)
    have hl1 : i < n := by omega
    have hl2 : j < n := by omega
    have hw2 := wrap_succ (i := i) (by omega)
    obtain ⟨k, hk⟩ : ∃ x, x = j - 1 := ⟨_, rfl⟩
    have hw3 : IntKind.i64.wrap ((j : Int) - 1) = (k : Int) := by rw [wrap_in (by omega)]; omega
    obtain ⟨r2, hr2⟩ := rowsD_get2 (d := d1) (i := i) (j := j) (by omega) d1[j]!
    simp -implicitDefEqProofs [go_sem, h6, h7, hh, hf.t, hf.m]
    refine iwp_drawn_of mixed [0,1,2,3,4,5,6,7,8,9,10,11,12,13,14,15] (by kernel_rfl) ?_
    simp -implicitDefEqProofs [go_sem, h6, h7, hh, hf.t, hf.m, hf, hg1, hg2, hl1, hl2, hr2, SH_at, hw2, hw3]
    refine hJ _ ⟨i + 1, k, swp d1 i j, by omega, by omega, by rw [swp_size, hd1], by simp -implicitDefEqProofs [go_sem, hw2], by simp -implicitDefEqProofs [go_sem, hw3], by rw [← hfin, reverseLoop.eq_def i j, if_pos hlt, hk], ?_⟩ (by simp [go_sem, h6, h7, hw2, hw3]; omega)
    simp -implicitDefEqProofs [go_sem, hh]
    exact SH_swp _ _ _ _ _ _ _
  · rw [reverseLoop, if_neg (by omega)] at hfin
    simp -implicitDefEqProofs [go_sem, h6, h7, hh, hf.t, hf.m]
    exact ⟨_, Sub.refl _, rfl, by rw [hfin]⟩
end Go.Proofs

set_option linter.unusedVariables false
set_option linter.unusedSimpArgs false
set_option pp.deepTerms false
set_option pp.maxSteps 400
namespace Go.Proofs
open Go.Idl
open Go.Sort (swp ltInt scanUp scanDown partLoop partition partEqLoop partitionEqual)

/-- a loop with one way out: what holds there is said once -/
theorem iwp_loopE {P : Program} {hint : Nat → Nat} {a : Code} {Q : IExit → St → Prop} {st : St} (id : Nat) (M MM : Nat → Bool) (I : St → Prop) (E : St → Prop) (μ : St → Nat) (h0 : I st)
    (h : ∀ (Q2 : IExit → St → Prop) (J : St → Prop) s, (∀ s', Fr M MM st s' → E s' → Q2 (.exit id) s') → (∀ s', I s' → μ s' < μ s → J s') → Fr M MM st s → I s → iwp P hint a (seqQ (fun s' => Fr M MM st s' ∧ J s') Q2) s)
    (hrest : ∀ s', Fr M MM st s' → E s' → Q (.exit id) s') : iwp P hint (.loop a) Q st :=
  iwp_loopF M MM I μ h0 fun J s hJ hf hI => h Q J s hrest hJ hf hI

theorem scanUp_le (p : Int → Bool) (d : Array Int) (j : Nat) : ∀ (m i : Nat), j + 1 - i ≤ m → i ≤ scanUp p d j i ∧ (i ≤ j + 1 → scanUp p d j i ≤ j + 1) := by
  intro m
  induction m with
  | zero => intro i h; rw [scanUp, if_neg (by simp; omega)]; exact ⟨Nat.le_refl _, fun h => h⟩
  | succ m ih =>
    intro i h
    rw [scanUp]
    split
    · rename_i hc
      simp only [Bool.and_eq_true, decide_eq_true_eq] at hc
      have := ih (i + 1) (by omega)
      exact ⟨by omega, fun _ => this.2 (by omega)⟩
    · exact ⟨Nat.le_refl _, fun h => h⟩
theorem scanDown_le (p : Int → Bool) (d : Array Int) (i : Nat) (hi : 1 ≤ i) : ∀ (j : Nat), scanDown p d i j ≤ j ∧ (i ≤ j + 1 → i ≤ scanDown p d i j + 1) := by
  intro j
  induction j with
  | zero => exact ⟨Nat.le_refl _, fun h => h⟩
  | succ j ih =>
    rw [scanDown]
    split
    · rename_i hc
      simp only [Bool.and_eq_true, decide_eq_true_eq] at hc
      exact ⟨by omega, fun _ => ih.2 (by omega)⟩
    · exact ⟨Nat.le_refl _, fun h => h⟩

theorem partLoop_stop {a i j i2 j2 : Nat} {d : Array Int} (h1 : i2 = scanUp (fun x => ltInt x d[a]!) d j i) (h2 : j2 = scanDown (fun x => !ltInt x d[a]!) d i2 j) (h : i2 > j2) : partLoop ltInt a i j d = (j2, d) := by
  subst h1; subst h2; rw [partLoop]; exact if_pos h
theorem partLoop_go {a i j i2 j2 : Nat} {d : Array Int} (h1 : i2 = scanUp (fun x => ltInt x d[a]!) d j i) (h2 : j2 = scanDown (fun x => !ltInt x d[a]!) d i2 j) (h : ¬ i2 > j2) (hg : (j2 - 1) + 1 - (i2 + 1) < j + 1 - i) :
    partLoop ltInt a i j d = partLoop ltInt a (i2 + 1) (j2 - 1) (swp d i2 j2) := by
  subst h1; subst h2; rw [partLoop]; exact (if_neg h).trans (dif_pos hg)

set_option maxRecDepth 20000 in
set_option maxHeartbeats 8000000 in
theorem partition_c (d : Array Int) (a b pv bk cap : Nat) (h : Heap) (hap : a ≤ pv) (hpb : pv < b) (hb : b ≤ d.size) (hs : d.size < 10000000000) :
    ICall Tryz.prog 147 [.sl 1 bk 0 d.size cap, .int .i64 a, .int .i64 b, .int .i64 pv] (SH h bk cap d)
      (retP (.tup [.int .i64 (partition ltInt d a b pv).1, .bool (partition ltInt d a b pv).2.1]) (SH h bk cap (partition ltInt d a b pv).2.2)) := by
  obtain ⟨n, hn⟩ : ∃ n, n = d.size := ⟨_, rfl⟩
  rw [← hn] at hb hs ⊢
  refine icall_of_iwp (fun _ => 0) Tryz.func147 rfl (by kernel_rfl) (Nat.le_of_ble_eq_true rfl) ?_
  rw [Tryz.results147]
  obtain ⟨d0, hd0⟩ : ∃ x, x = swp d a pv := ⟨_, rfl⟩
  have hs0 : d0.size = n := by rw [hd0, swp_size, hn]
  obtain ⟨p, hp⟩ : ∃ x, x = b - 1 := ⟨_, rfl⟩
  have hwa := wrap_succ (i := a) (by omega)
  have hw1 : IntKind.i64.wrap ((b : Int) - 1) = (p : Int) := by rw [wrap_in (by omega)]; omega
  obtain ⟨ia, hia⟩ : ∃ x, x = scanUp (fun x => ltInt x d0[a]!) d0 p (a + 1) := ⟨_, rfl⟩
  obtain ⟨ja, hja⟩ : ∃ x, x = scanDown (fun x => !ltInt x d0[a]!) d0 ia p := ⟨_, rfl⟩
  have hpart : partition ltInt d a b pv = if ia > ja then (ja, true, swp d0 ja a) else ((partLoop ltInt a (ia + 1) (ja - 1) (swp d0 ia ja)).1, false, swp (partLoop ltInt a (ia + 1) (ja - 1) (swp d0 ia ja)).2 (partLoop ltInt a (ia + 1) (ja - 1) (swp d0 ia ja)).1 a) := by
    rw [partition, ← hd0, ← hp]; simp only; rw [← hia, ← hja]
  have hga := rowsD_get (d := d) (i := a) (by omega)
  have hgp := rowsD_get (d := d) (i := pv) (by omega)
  have hla : a < n := by omega
  have hlp : pv < n := by omega
  obtain ⟨r2, hr2⟩ := rowsD_get2 (d := d) (i := a) (j := pv) (by omega) d[pv]!
  simp -implicitDefEqProofs [go_sem]
  refine iwp_drawn_of mixed [0,1,2,3,4,5,6,7,8,9,10,11,12,13,14,15] (by kernel_rfl) ?_
  simp -implicitDefEqProofs [go_sem, hga, hgp, hla, hlp, hr2, SH_at, hwa, hw1]
  -- the first scan
  have hga0 := rowsD_get (d := d0) (i := a) (by omega)
  refine iwp_loopE 0 (rng [10] 30 46) nom (fun s => ∃ i : Nat, a + 1 ≤ i ∧ i ≤ b ∧ s.t 10 = .int .i64 i ∧ scanUp (fun x => ltInt x d0[a]!) d0 p i = ia ∧ s.h = SH h bk cap d0) (fun s => s.t 10 = .int .i64 ia ∧ a + 1 ≤ ia ∧ ia ≤ b ∧ s.h = SH h bk cap d0) (fun s => b - tn (s.t 10)) ?_ ?_ ?_
  · exact ⟨(a + 1), by omega, by omega, by simp -implicitDefEqProofs [go_sem, hwa], hia.symm, by simp -implicitDefEqProofs [go_sem]; rw [hd0]; exact SH_swp _ _ _ _ _ _ _⟩
  · rintro Q2 J s1 hE hJ hf1 ⟨i, hi1, hi2, hx10, hfin, hh⟩
    simp -implicitDefEqProofs [go_sem, hx10, hh, hf1.t, hf1.m]
    refine iwp_drawn_of mixed [0,1,2,3,4,5,6,7,8,9,10,11,12,13] (by kernel_rfl) ?_
    simp -implicitDefEqProofs [go_sem, hx10, hh, hf1.t, hf1.m]
    refine cK_dec (fun hle => ?_) (fun hle => ?_)
    · have hgi := rowsD_get (d := d0) (i := i) (by omega)
      have hli : i < n := by omega
      have hw := wrap_succ (i := i) (by omega)
      simp -implicitDefEqProofs [go_sem, hx10, hh, hf1.t, hf1.m, hle, hgi, hli, hla, hga0, SH_at]
      refine ⟨_, less_c _ _ _, ?_⟩
      simp -implicitDefEqProofs [go_sem, hx10, hh, hf1.t, hf1.m, hle]
      refine cK_any (fun k1 => ?_) (fun k1 => ?_)
      · simp -implicitDefEqProofs [go_sem, hx10, hh, hf1.t, hf1.m, hf1, hle, hw]
        refine hJ _ ⟨i + 1, by omega, by omega, by simp -implicitDefEqProofs [go_sem, hw], ?_, by simp -implicitDefEqProofs [go_sem, hh]⟩ (by simp [go_sem, hx10, hw]; omega)
        rw [scanUp, if_pos (by simpa [hle] using k1)] at hfin; exact hfin
      · simp -implicitDefEqProofs [go_sem, hx10, hh, hf1.t, hf1.m, hf1, hle]
        rw [scanUp, if_neg (by simpa [hle] using k1)] at hfin
        exact hE _ (by simp -implicitDefEqProofs [go_sem, hf1]) ⟨by simp -implicitDefEqProofs [go_sem, hx10, hfin], by omega, by omega, by simp -implicitDefEqProofs [go_sem, hh]⟩
    · simp -implicitDefEqProofs [go_sem, hx10, hh, hf1.t, hf1.m, hf1, hle]
      rw [scanUp, if_neg (by simp [hle])] at hfin
      exact hE _ (by simp -implicitDefEqProofs [go_sem, hf1]) ⟨by simp -implicitDefEqProofs [go_sem, hx10, hfin], by omega, by omega, by simp -implicitDefEqProofs [go_sem, hh]⟩
  rintro s1 hf1 ⟨hx10, hi1, hi2, hh⟩
  simp -implicitDefEqProofs [go_sem, hx10, hh, hf1.t, hf1.m]
  refine iwp_loopE 2 (rng [11] 46 63) nom (fun s => ∃ j : Nat, j < b ∧ s.t 11 = .int .i64 j ∧ scanDown (fun x => !ltInt x d0[a]!) d0 ia j = ja ∧ s.h = SH h bk cap d0) (fun s => s.t 11 = .int .i64 ja ∧ ja < b ∧ s.h = SH h bk cap d0) (fun s => tn (s.t 11)) ?_ ?_ ?_
  · exact ⟨p, by omega, by simp -implicitDefEqProofs [go_sem, hf1.t, hw1], hja.symm, by simp -implicitDefEqProofs [go_sem, hh]⟩
  · rintro Q2 J s2 hE hJ hf2 ⟨j, hi1, hx11, hfin, hh⟩
    simp -implicitDefEqProofs [go_sem, hx11, hh, hf1.t, hf1.m, hf2.t, hf2.m, hx10]
    refine iwp_drawn_of mixed [0,1,2,3,4,5,6,7,8,9,10,11,12,13,14] (by kernel_rfl) ?_
    simp -implicitDefEqProofs [go_sem, hx11, hh, hf1.t, hf1.m, hf2.t, hf2.m, hx10]
    refine cK_dec (fun hle => ?_) (fun hle => ?_)
    · have hgi := rowsD_get (d := d0) (i := j) (by omega)
      have hli : j < n := by omega
      obtain ⟨k, hk⟩ : ∃ k, j = k + 1 := ⟨j - 1, by omega⟩
      have hw : IntKind.i64.wrap ((j : Int) - 1) = (k : Int) := by rw [wrap_in (by omega)]; omega
      simp -implicitDefEqProofs [go_sem, hx11, hh, hf1.t, hf1.m, hf2.t, hf2.m, hx10, hle, hgi, hli, hla, hga0, SH_at]
      refine ⟨_, less_c _ _ _, ?_⟩
      simp -implicitDefEqProofs [go_sem, hx11, hh, hf1.t, hf1.m, hf2.t, hf2.m, hx10, hle]
      refine cK_any (fun k1 => ?_) (fun k1 => ?_)
      · simp -implicitDefEqProofs [go_sem, hx11, hh, hf1.t, hf1.m, hf2.t, hf2.m, hx10, hf2, hle, hw]
        refine hJ _ ⟨k, by omega, by simp -implicitDefEqProofs [go_sem, hw], ?_, by simp -implicitDefEqProofs [go_sem, hh]⟩ (by simp [go_sem, hx11, hw]; omega)
        subst hk; rw [scanDown, if_pos (by simpa [hle] using k1)] at hfin; exact hfin
      · simp -implicitDefEqProofs [go_sem, hx11, hh, hf1.t, hf1.m, hf2.t, hf2.m, hx10, hf2, hle]
        have hfin2 : j = ja := by subst hk; rw [scanDown, if_neg (by simpa [hle] using k1)] at hfin; exact hfin
        exact hE _ (by simp -implicitDefEqProofs [go_sem, hf2]) ⟨by simp -implicitDefEqProofs [go_sem, hx11, hfin2], by omega, by simp -implicitDefEqProofs [go_sem, hh]⟩
    · simp -implicitDefEqProofs [go_sem, hx11, hh, hf1.t, hf1.m, hf2.t, hf2.m, hx10, hf2, hle]
      have hfin2 : j = ja := by
        cases j with
        | zero => exact hfin
        | succ j => rw [scanDown, if_neg (by simp; omega)] at hfin; exact hfin
      exact hE _ (by simp -implicitDefEqProofs [go_sem, hf2]) ⟨by simp -implicitDefEqProofs [go_sem, hx11, hfin2], by omega, by simp -implicitDefEqProofs [go_sem, hh]⟩
  rintro s2 hf2 ⟨hx11, hj1, hh⟩
  simp -implicitDefEqProofs [go_sem, hx10, hx11, hh, hf2.t, hf2.m, hf1.t, hf1.m]
  refine cK_dec (fun hgt => ?_) (fun hgt => ?_)
  · rw [if_pos hgt] at hpart
    have hgj := rowsD_get (d := d0) (i := ja) (by omega)
    have hlj : ja < n := by omega
    obtain ⟨r3, hr3⟩ := rowsD_get2 (d := d0) (i := ja) (j := a) (by omega) d0[a]!
    simp -implicitDefEqProofs [go_sem, hx10, hx11, hh, hf2.t, hf2.m, hf1.t, hf1.m]
    refine iwp_drawn_of mixed [0,1,2,3,4,5,6,7,8,9,10,11,12,13,14,15] (by kernel_rfl) ?_
    simp -implicitDefEqProofs [go_sem, hx10, hx11, hh, hf2.t, hf2.m, hf1.t, hf1.m, hga0, hgj, hla, hlj, hr3, SH_at]
    rw [SH_swp, hpart]
    exact ⟨_, Sub.refl _, rfl, rfl⟩
  rw [if_neg (by omega)] at hpart
  obtain ⟨R, hR⟩ : ∃ x, x = partLoop ltInt a (ia + 1) (ja - 1) (swp d0 ia ja) := ⟨_, rfl⟩
  rw [← hR] at hpart
  have hgj := rowsD_get (d := d0) (i := ja) (by omega)
  have hlj : ja < n := by omega
  have hgi := rowsD_get (d := d0) (i := ia) (by omega)
  have hli : ia < n := by omega
  obtain ⟨r3, hr3⟩ := rowsD_get2 (d := d0) (i := ia) (j := ja) (by omega) d0[ja]!
  have hwi := wrap_succ (i := ia) (by omega)
  obtain ⟨jm, hjm⟩ : ∃ x, x = ja - 1 := ⟨_, rfl⟩
  have hwj : IntKind.i64.wrap ((ja : Int) - 1) = (jm : Int) := by rw [wrap_in (by omega)]; omega
  simp -implicitDefEqProofs [go_sem, hx10, hx11, hh, hf2.t, hf2.m, hf1.t, hf1.m]
  refine iwp_drawn_of mixed [0,1,2,3,4,5,6,7,8,9,10,11,12,13,14,15] (by kernel_rfl) ?_
  simp -implicitDefEqProofs [go_sem, hx10, hx11, hh, hf2.t, hf2.m, hf1.t, hf1.m, hgi, hgj, hli, hlj, hr3, SH_at, hwi, hwj]
  refine iwp_loopE 4 (rng [10,11] 99 153) nom (fun s => ∃ (i j : Nat) (d1 : Array Int), a + 1 ≤ i ∧ i ≤ b ∧ j < b ∧ d1.size = n ∧ s.t 10 = .int .i64 i ∧ s.t 11 = .int .i64 j ∧ partLoop ltInt a i j d1 = R ∧ s.h = SH h bk cap d1) (fun s => s.t 11 = .int .i64 R.1 ∧ R.1 < b ∧ R.2.size = n ∧ s.h = SH h bk cap R.2) (fun s => tn (s.t 11) + 1 - tn (s.t 10)) ?_ ?_ ?_
  · exact ⟨ia + 1, jm, swp d0 ia ja, by omega, by omega, by omega, by rw [swp_size, hs0], by simp -implicitDefEqProofs [go_sem, hwi], by simp -implicitDefEqProofs [go_sem, hwj], by rw [hR, hjm], by simp -implicitDefEqProofs [go_sem, hh]; exact SH_swp _ _ _ _ _ _ _⟩
  · rintro Q3 J3 s3 hE3 hJ3 hf3 ⟨i0, j0, d1, hi01, hi02, hj01, hd1, h10, h11, hfin3, hh3⟩
    obtain ⟨i2, hi2d⟩ : ∃ x, x = scanUp (fun x => ltInt x d1[a]!) d1 j0 i0 := ⟨_, rfl⟩
    obtain ⟨j2, hj2d⟩ : ∃ x, x = scanDown (fun x => !ltInt x d1[a]!) d1 i2 j0 := ⟨_, rfl⟩
    have hga0 := rowsD_get (d := d1) (i := a) (by omega)
    simp -implicitDefEqProofs [go_sem, h10, h11, hh3, hf3.t, hf3.m, hx10, hx11, hf2.t, hf2.m, hf1.t, hf1.m]
    refine iwp_loopE 6 (rng [10] 99 115) nom (fun s => ∃ i : Nat, a + 1 ≤ i ∧ i ≤ b ∧ s.t 10 = .int .i64 i ∧ scanUp (fun x => ltInt x d1[a]!) d1 j0 i = i2 ∧ s.h = SH h bk cap d1) (fun s => s.t 10 = .int .i64 i2 ∧ a + 1 ≤ i2 ∧ i2 ≤ b ∧ s.h = SH h bk cap d1) (fun s => b - tn (s.t 10)) ?_ ?_ ?_
    · exact ⟨i0, by omega, by omega, by simp -implicitDefEqProofs [go_sem, h10], hi2d.symm, by simp -implicitDefEqProofs [go_sem, hh3]⟩
    · rintro Q2 J s4 hE hJ hf4 ⟨i, hi1, hi2, hx10, hfin, hh⟩
      simp -implicitDefEqProofs [go_sem, hx10, hh, hf3.t, hf3.m, hf2.t, hf2.m, hf1.t, hf1.m, hf4.t, hf4.m, h11]
      refine iwp_drawn_of mixed [0,1,2,3,4,5,6,7,8,9,10,11,12,13] (by kernel_rfl) ?_
      simp -implicitDefEqProofs [go_sem, hx10, hh, hf3.t, hf3.m, hf2.t, hf2.m, hf1.t, hf1.m, hf4.t, hf4.m, h11]
      refine cK_dec (fun hle => ?_) (fun hle => ?_)
      · have hgi := rowsD_get (d := d1) (i := i) (by omega)
        have hli : i < n := by omega
        have hw := wrap_succ (i := i) (by omega)
        simp -implicitDefEqProofs [go_sem, hx10, hh, hf3.t, hf3.m, hf2.t, hf2.m, hf1.t, hf1.m, hf4.t, hf4.m, h11, hle, hgi, hli, hla, hga0, SH_at]
        refine ⟨_, less_c _ _ _, ?_⟩
        simp -implicitDefEqProofs [go_sem, hx10, hh, hf3.t, hf3.m, hf2.t, hf2.m, hf1.t, hf1.m, hf4.t, hf4.m, h11, hle]
        refine cK_any (fun k1 => ?_) (fun k1 => ?_)
        · simp -implicitDefEqProofs [go_sem, hx10, hh, hf3.t, hf3.m, hf2.t, hf2.m, hf1.t, hf1.m, hf4.t, hf4.m, h11, hf4, hle, hw]
          refine hJ _ ⟨i + 1, by omega, by omega, by simp -implicitDefEqProofs [go_sem, hw], ?_, by simp -implicitDefEqProofs [go_sem, hh]⟩ (by simp [go_sem, hx10, hw]; omega)
          rw [scanUp, if_pos (by simpa [hle] using k1)] at hfin; exact hfin
        · simp -implicitDefEqProofs [go_sem, hx10, hh, hf3.t, hf3.m, hf2.t, hf2.m, hf1.t, hf1.m, hf4.t, hf4.m, h11, hf4, hle]
          rw [scanUp, if_neg (by simpa [hle] using k1)] at hfin
          exact hE _ (by simp -implicitDefEqProofs [go_sem, hf4]) ⟨by simp -implicitDefEqProofs [go_sem, hx10, hfin], by omega, by omega, by simp -implicitDefEqProofs [go_sem, hh]⟩
      · simp -implicitDefEqProofs [go_sem, hx10, hh, hf3.t, hf3.m, hf2.t, hf2.m, hf1.t, hf1.m, hf4.t, hf4.m, h11, hf4, hle]
        rw [scanUp, if_neg (by simp [hle])] at hfin
        exact hE _ (by simp -implicitDefEqProofs [go_sem, hf4]) ⟨by simp -implicitDefEqProofs [go_sem, hx10, hfin], by omega, by omega, by simp -implicitDefEqProofs [go_sem, hh]⟩
    rintro s4 hf4 ⟨h10', hi21, hi22, hh4⟩
    simp -implicitDefEqProofs [go_sem, h10', h11, hh4, hf4.t, hf4.m, hf3.t, hf3.m, hf2.t, hf2.m, hf1.t, hf1.m]
    refine iwp_loopE 8 (rng [11] 115 132) nom (fun s => ∃ j : Nat, j < b ∧ s.t 11 = .int .i64 j ∧ scanDown (fun x => !ltInt x d1[a]!) d1 i2 j = j2 ∧ s.h = SH h bk cap d1) (fun s => s.t 11 = .int .i64 j2 ∧ j2 < b ∧ s.h = SH h bk cap d1) (fun s => tn (s.t 11)) ?_ ?_ ?_
    · exact ⟨j0, by omega, by simp -implicitDefEqProofs [go_sem, hf4.t, h11], hj2d.symm, by simp -implicitDefEqProofs [go_sem, hh4]⟩
    · rintro Q2 J s5 hE hJ hf5 ⟨j, hi1, hx11, hfin, hh⟩
      simp -implicitDefEqProofs [go_sem, hx11, hh, hf4.t, hf4.m, hf3.t, hf3.m, hf2.t, hf2.m, hf1.t, hf1.m, hf5.t, hf5.m, h10']
      refine iwp_drawn_of mixed [0,1,2,3,4,5,6,7,8,9,10,11,12,13,14] (by kernel_rfl) ?_
      simp -implicitDefEqProofs [go_sem, hx11, hh, hf4.t, hf4.m, hf3.t, hf3.m, hf2.t, hf2.m, hf1.t, hf1.m, hf5.t, hf5.m, h10']
      refine cK_dec (fun hle => ?_) (fun hle => ?_)
      · have hgi := rowsD_get (d := d1) (i := j) (by omega)
        have hli : j < n := by omega
        obtain ⟨k, hk⟩ : ∃ k, j = k + 1 := ⟨j - 1, by omega⟩
        have hw : IntKind.i64.wrap ((j : Int) - 1) = (k : Int) := by rw [wrap_in (by omega)]; omega
        simp -implicitDefEqProofs [go_sem, hx11, hh, hf4.t, hf4.m, hf3.t, hf3.m, hf2.t, hf2.m, hf1.t, hf1.m, hf5.t, hf5.m, h10', hle, hgi, hli, hla, hga0, SH_at]
        refine ⟨_, less_c _ _ _, ?_⟩
        simp -implicitDefEqProofs [go_sem, hx11, hh, hf4.t, hf4.m, hf3.t, hf3.m, hf2.t, hf2.m, hf1.t, hf1.m, hf5.t, hf5.m, h10', hle]
        refine cK_any (fun k1 => ?_) (fun k1 => ?_)
        · simp -implicitDefEqProofs [go_sem, hx11, hh, hf4.t, hf4.m, hf3.t, hf3.m, hf2.t, hf2.m, hf1.t, hf1.m, hf5.t, hf5.m, h10', hf5, hle, hw]
          refine hJ _ ⟨k, by omega, by simp -implicitDefEqProofs [go_sem, hw], ?_, by simp -implicitDefEqProofs [go_sem, hh]⟩ (by simp [go_sem, hx11, hw]; omega)
          subst hk; rw [scanDown, if_pos (by simpa [hle] using k1)] at hfin; exact hfin
        · simp -implicitDefEqProofs [go_sem, hx11, hh, hf4.t, hf4.m, hf3.t, hf3.m, hf2.t, hf2.m, hf1.t, hf1.m, hf5.t, hf5.m, h10', hf5, hle]
          have hfin2 : j = j2 := by subst hk; rw [scanDown, if_neg (by simpa [hle] using k1)] at hfin; exact hfin
          exact hE _ (by simp -implicitDefEqProofs [go_sem, hf5]) ⟨by simp -implicitDefEqProofs [go_sem, hx11, hfin2], by omega, by simp -implicitDefEqProofs [go_sem, hh]⟩
      · simp -implicitDefEqProofs [go_sem, hx11, hh, hf4.t, hf4.m, hf3.t, hf3.m, hf2.t, hf2.m, hf1.t, hf1.m, hf5.t, hf5.m, h10', hf5, hle]
        have hfin2 : j = j2 := by
          cases j with
          | zero => exact hfin
          | succ j => rw [scanDown, if_neg (by simp; omega)] at hfin; exact hfin
        exact hE _ (by simp -implicitDefEqProofs [go_sem, hf5]) ⟨by simp -implicitDefEqProofs [go_sem, hx11, hfin2], by omega, by simp -implicitDefEqProofs [go_sem, hh]⟩
    rintro s5 hf5 ⟨h11', hj21, hh5⟩
    have hfa := Fr.trans2 hf3 hf4 (by simp -implicitDefEqProofs [go_sem]) (rng_sub (by decide)) nom_sub
    have hfb := Fr.trans2 hfa hf5 (by simp -implicitDefEqProofs [go_sem]) (rng_sub (by decide)) nom_sub
    have hle1 := (scanUp_le (fun x => ltInt x d1[a]!) d1 j0 _ i0 (Nat.le_refl _)).1
    rw [← hi2d] at hle1
    have hle2 := (scanDown_le (fun x => !ltInt x d1[a]!) d1 i2 (by omega) j0).1
    rw [← hj2d] at hle2
    simp -implicitDefEqProofs [go_sem, h10', h11', hh5, hf5.t, hf5.m, hf4.t, hf4.m, hf3.t, hf3.m, hf2.t, hf2.m, hf1.t, hf1.m]
    refine cK_dec (fun hg3 => ?_) (fun hg3 => ?_)
    · rw [partLoop_stop hi2d hj2d hg3] at hfin3
      simp -implicitDefEqProofs [go_sem, h10', h11', hh5, hfb]
      exact hE3 _ (by simp -implicitDefEqProofs [go_sem, hfb]) (by rw [← hfin3]; exact ⟨by simp -implicitDefEqProofs [go_sem, h11'], hj21, hd1, by simp -implicitDefEqProofs [go_sem, hh5]⟩)
    · rw [partLoop_go hi2d hj2d (by omega) (by omega)] at hfin3
      have hgj2 := rowsD_get (d := d1) (i := j2) (by omega)
      have hlj2 : j2 < n := by omega
      have hgi2 := rowsD_get (d := d1) (i := i2) (by omega)
      have hli2 : i2 < n := by omega
      obtain ⟨r4, hr4⟩ := rowsD_get2 (d := d1) (i := i2) (j := j2) (by omega) d1[j2]!
      have hwi2 := wrap_succ (i := i2) (by omega)
      obtain ⟨jm2, hjm2⟩ : ∃ x, x = j2 - 1 := ⟨_, rfl⟩
      have hwj2 : IntKind.i64.wrap ((j2 : Int) - 1) = (jm2 : Int) := by rw [wrap_in (by omega)]; omega
      simp -implicitDefEqProofs [go_sem, h10', h11', hh5, hf5.t, hf5.m, hf4.t, hf4.m, hf3.t, hf3.m, hf2.t, hf2.m, hf1.t, hf1.m]
      refine iwp_drawn_of mixed [0,1,2,3,4,5,6,7,8,9,10,11,12,13,14,15] (by kernel_rfl) ?_
      simp -implicitDefEqProofs [go_sem, h10', h11', hh5, hf5.t, hf5.m, hf4.t, hf4.m, hf3.t, hf3.m, hf2.t, hf2.m, hf1.t, hf1.m, hgi2, hgj2, hli2, hlj2, hr4, SH_at, hwi2, hwj2, hfb]
      refine hJ3 _ ⟨i2 + 1, jm2, swp d1 i2 j2, by omega, by omega, by omega, by rw [swp_size, hd1], by simp -implicitDefEqProofs [go_sem, hwi2], by simp -implicitDefEqProofs [go_sem, hwj2], by rw [hjm2]; exact hfin3, by simp -implicitDefEqProofs [go_sem, hh5]; exact SH_swp _ _ _ _ _ _ _⟩ (by simp [go_sem, h10, h11, hwi2, hwj2]; omega)
  rintro s3 hf3 ⟨h11, hR1, hR2, hh3⟩
  have hgR := rowsD_get (d := R.2) (i := R.1) (by omega)
  have hlR : R.1 < n := by omega
  have hgA := rowsD_get (d := R.2) (i := a) (by omega)
  obtain ⟨r5, hr5⟩ := rowsD_get2 (d := R.2) (i := R.1) (j := a) (by omega) R.2[a]!
  simp -implicitDefEqProofs [go_sem, h11, hh3, hf3.t, hf3.m, hf2.t, hf2.m, hf1.t, hf1.m]
  refine iwp_drawn_of mixed [0,1,2,3,4,5,6,7,8,9,10,11,12,13,14,15] (by kernel_rfl) ?_
  simp -implicitDefEqProofs [go_sem, h11, hh3, hf3.t, hf3.m, hf2.t, hf2.m, hf1.t, hf1.m, hgR, hgA, hla, hlR, hr5, SH_at]
  rw [SH_swp, hpart]
  exact ⟨_, Sub.refl _, rfl, rfl⟩
end Go.Proofs

set_option linter.unusedVariables false
set_option linter.unusedSimpArgs false
set_option pp.deepTerms false
set_option pp.maxSteps 400
namespace Go.Proofs
open Go.Idl
open Go.Sort (swp ltInt scanSorted shiftDown shiftUp partialIns partialInsertionSort)

/-- two branches that join: what holds behind them is said once -/
theorem ifE {P : Program} {hint : Nat → Nat} {a b : Code} {Q : IExit → St → Prop} {st : St} {t : Bool} (M MM : Nat → Bool) (E : St → Prop)
    (h : ∀ Q2 : IExit → St → Prop, (∀ s', Fr M MM st s' → E s' → Q2 .normal s') → condK t (ifC P hint a b Q2 st)) (hrest : ∀ s', Fr M MM st s' → E s' → Q .normal s') : condK t (ifC P hint a b Q st) := h Q hrest

theorem shiftDown_size (j : Nat) : ∀ d : Array Int, (shiftDown ltInt j d).size = d.size := by
  induction j with
  | zero => intro d; rfl
  | succ j ih => intro d; rw [shiftDown]; split
                 · rfl
                 · rw [ih, swp_size]
theorem shiftUp_size (b : Nat) : ∀ (m j : Nat) (d : Array Int), b - j ≤ m → (shiftUp ltInt b j d).size = d.size := by
  intro m
  induction m with
  | zero => intro j d h; rw [shiftUp, if_neg (by omega)]
  | succ m ih =>
    intro j d h
    rw [shiftUp]
    split
    · split
      · rfl
      · rw [ih _ _ (by omega), swp_size]
    · rfl

set_option maxRecDepth 20000 in
set_option maxHeartbeats 8000000 in
theorem partialIns_c (d : Array Int) (a b bk cap : Nat) (h : Heap) (hab : a < b) (hb : b ≤ d.size) (hs : d.size < 10000000000) :
    ICall Tryz.prog 144 [.sl 1 bk 0 d.size cap, .int .i64 a, .int .i64 b] (SH h bk cap d)
      (retP (.bool (partialInsertionSort ltInt d a b).2) (SH h bk cap (partialInsertionSort ltInt d a b).1)) := by
  obtain ⟨n, hn⟩ : ∃ n, n = d.size := ⟨_, rfl⟩
  rw [← hn] at hb hs ⊢
  refine icall_of_iwp (fun _ => 0) Tryz.func144 rfl (by kernel_rfl) (Nat.le_of_ble_eq_true rfl) ?_
  rw [Tryz.results144]
  obtain ⟨R, hR⟩ : ∃ x, x = partialInsertionSort ltInt d a b := ⟨_, rfl⟩
  rw [← hR]
  have hwa := wrap_succ (i := a) (by omega)
  have hwba : IntKind.i64.wrap ((b : Int) - (a : Int)) = ((b - a : Nat) : Int) := by rw [wrap_in (by omega)]; omega
  simp -implicitDefEqProofs [go_sem, hwa]
  refine iwp_loopF (rng [7,8,9,10] 13 133) nom (fun s => ∃ (jn st i : Nat) (d1 : Array Int), jn + st = 5 ∧ a + 1 ≤ i ∧ i ≤ b ∧ d1.size = n ∧ s.t 8 = .int .i64 jn ∧ s.t 7 = .int .i64 i ∧ partialIns ltInt a b st i d1 = R ∧ s.h = SH h bk cap d1) (fun s => 5 - tn (s.t 8)) ?_ ?_
  · exact ⟨0, 5, a + 1, d, rfl, by omega, by omega, hn.symm, by simp -implicitDefEqProofs [go_sem], by simp -implicitDefEqProofs [go_sem, hwa], by rw [hR, partialInsertionSort], by simp -implicitDefEqProofs [go_sem]⟩
  rintro J s1 hJ hf1 ⟨jn, st, i0, d1, hjn, hi01, hi02, hd1, h8, h7, hfin, hh⟩
  simp -implicitDefEqProofs [go_sem, h8, h7, hh, hf1.t, hf1.m]
  refine cK_dec (fun hlt5 => ?_) (fun hge5 => ?_)
  · obtain ⟨st', rfl⟩ : ∃ x, st = x + 1 := ⟨st - 1, by omega⟩
    obtain ⟨i2, hi2⟩ : ∃ x, x = scanSorted ltInt d1 b i0 := ⟨_, rfl⟩
    have hwj := wrap_succ (i := jn) (by omega)
    simp -implicitDefEqProofs [go_sem, h8, h7, hh, hf1.t, hf1.m]
    refine iwp_loopE 2 (rng [7] 17 35) nom (fun s => ∃ i : Nat, a + 1 ≤ i ∧ i ≤ b ∧ s.t 7 = .int .i64 i ∧ scanSorted ltInt d1 b i = i2 ∧ s.h = SH h bk cap d1) (fun s => s.t 7 = .int .i64 i2 ∧ a + 1 ≤ i2 ∧ i2 ≤ b ∧ s.h = SH h bk cap d1) (fun s => b - tn (s.t 7)) ?_ ?_ ?_
    · exact ⟨i0, hi01, hi02, by simp -implicitDefEqProofs [go_sem, h7], hi2.symm, by simp -implicitDefEqProofs [go_sem, hh]⟩
    · rintro Q2 J2 s2 hE hJ2 hf2 ⟨i, hi1, hi2', hx7, hsc, hh2⟩
      simp -implicitDefEqProofs [go_sem, hx7, hh2, hf2.t, hf2.m, hf1.t, hf1.m]
      refine iwp_drawn_of mixed [0,1,2,3,4,5,6,7,8,9,10,11,12,13,14,15] (by kernel_rfl) ?_
      simp -implicitDefEqProofs [go_sem, hx7, hh2, hf2.t, hf2.m, hf1.t, hf1.m]
      refine cK_dec (fun hle => ?_) (fun hle => ?_)
      · have hgi := rowsD_get (d := d1) (i := i) (by omega)
        have hli : i < n := by omega
        obtain ⟨k, hk⟩ : ∃ x, x = i - 1 := ⟨_, rfl⟩
        have hgk := rowsD_get (d := d1) (i := k) (by omega)
        have hlk : k < n := by omega
        have hwk : IntKind.i64.wrap ((i : Int) - 1) = (k : Int) := by rw [wrap_in (by omega)]; omega
        have hw := wrap_succ (i := i) (by omega)
        simp -implicitDefEqProofs [go_sem, hx7, hh2, hf2.t, hf2.m, hf1.t, hf1.m, hle, hgi, hli, hgk, hlk, hwk, SH_at]
        refine ⟨_, less_c _ _ _, ?_⟩
        simp -implicitDefEqProofs [go_sem, hx7, hh2, hf2.t, hf2.m, hf1.t, hf1.m, hle]
        refine cK_any (fun k1 => ?_) (fun k1 => ?_)
        · simp -implicitDefEqProofs [go_sem, hx7, hh2, hf2.t, hf2.m, hf1.t, hf1.m, hf2, hle, hw]
          refine hJ2 _ ⟨i + 1, by omega, by omega, by simp -implicitDefEqProofs [go_sem, hw], ?_, by simp -implicitDefEqProofs [go_sem, hh2]⟩ (by simp [go_sem, hx7, hw]; omega)
          rw [scanSorted, if_pos (by rw [← hk]; simpa [hle] using k1)] at hsc; exact hsc
        · simp -implicitDefEqProofs [go_sem, hx7, hh2, hf2.t, hf2.m, hf1.t, hf1.m, hf2, hle]
          rw [scanSorted, if_neg (by rw [← hk]; simpa [hle] using k1)] at hsc
          exact hE _ (by simp -implicitDefEqProofs [go_sem, hf2]) ⟨by simp -implicitDefEqProofs [go_sem, hx7, hsc], by omega, by omega, by simp -implicitDefEqProofs [go_sem, hh2]⟩
      · simp -implicitDefEqProofs [go_sem, hx7, hh2, hf2.t, hf2.m, hf1.t, hf1.m, hf2, hle]
        rw [scanSorted, if_neg (by simp [hle])] at hsc
        exact hE _ (by simp -implicitDefEqProofs [go_sem, hf2]) ⟨by simp -implicitDefEqProofs [go_sem, hx7, hsc], by omega, by omega, by simp -implicitDefEqProofs [go_sem, hh2]⟩
    rintro s2 hf2 ⟨hx7, hb1, hb2, hh2⟩
    have hfa := Fr.trans2 hf1 hf2 (by simp -implicitDefEqProofs [go_sem]) (rng_sub (by decide)) nom_sub
    rw [partialIns] at hfin
    simp only [← hi2] at hfin
    simp -implicitDefEqProofs [go_sem, hx7, hh2, hf2.t, hf2.m, hf1.t, hf1.m]
    refine cK_beq (fun heq => ?_) (fun hne => ?_)
    · rw [if_pos (by omega)] at hfin
      simp -implicitDefEqProofs [go_sem, hx7, hh2, hf2.t, hf2.m, hf1.t, hf1.m]
      exact ⟨_, Sub.refl _, by rw [← hfin], by rw [← hfin]⟩
    rw [if_neg (by omega)] at hfin
    simp -implicitDefEqProofs [go_sem, hx7, hh2, hf2.t, hf2.m, hf1.t, hf1.m, hwba]
    refine cK_dec (fun h50 => ?_) (fun h50 => ?_)
    · rw [if_pos (by omega)] at hfin
      simp -implicitDefEqProofs [go_sem, hx7, hh2, hf2.t, hf2.m, hf1.t, hf1.m]
      exact ⟨_, Sub.refl _, by rw [← hfin], by rw [← hfin]⟩
    rw [if_neg (by omega)] at hfin
    obtain ⟨k2, hk2⟩ : ∃ x, x = i2 - 1 := ⟨_, rfl⟩
    obtain ⟨d2, hd2⟩ : ∃ x, x = swp d1 i2 k2 := ⟨_, rfl⟩
    have hs2 : d2.size = n := by rw [hd2, swp_size, hd1]
    obtain ⟨d3, hd3⟩ : ∃ x, x = if i2 - a ≥ 2 then shiftDown ltInt k2 d2 else d2 := ⟨_, rfl⟩
    have hs3 : d3.size = n := by
      rw [hd3]; split
      · rw [shiftDown_size, hs2]
      · exact hs2
    obtain ⟨d4, hd4⟩ : ∃ x, x = if b - i2 ≥ 2 then shiftUp ltInt b (i2 + 1) d3 else d3 := ⟨_, rfl⟩
    have hs4 : d4.size = n := by
      rw [hd4]; split
      · rw [shiftUp_size _ _ _ _ (Nat.le_refl _), hs3]
      · exact hs3
    rw [← hk2, ← hd2, ← hd3, ← hd4] at hfin
    have hgi := rowsD_get (d := d1) (i := i2) (by omega)
    have hli : i2 < n := by omega
    have hgk := rowsD_get (d := d1) (i := k2) (by omega)
    have hlk : k2 < n := by omega
    have hwk : IntKind.i64.wrap ((i2 : Int) - 1) = (k2 : Int) := by rw [wrap_in (by omega)]; omega
    have hwi : IntKind.i64.wrap ((i2 : Int) - (a : Int)) = (i2 : Int) - (a : Int) := wrap_in (by omega)
    have hwb : IntKind.i64.wrap ((b : Int) - (i2 : Int)) = (b : Int) - (i2 : Int) := wrap_in (by omega)
    obtain ⟨r3, hr3⟩ := rowsD_get2 (d := d1) (i := i2) (j := k2) (by omega) d1[k2]!
    simp -implicitDefEqProofs [go_sem, hx7, hh2, hf2.t, hf2.m, hf1.t, hf1.m]
    refine iwp_drawn_of mixed [0,1,2,3,4,5,6,7,8,9,10,11,12,13,14,15,16,17] (by kernel_rfl) ?_
    simp -implicitDefEqProofs [go_sem, hx7, hh2, hf2.t, hf2.m, hf1.t, hf1.m, hgi, hli, hgk, hlk, hwk, hwi, hr3, SH_at]
    refine ifE (rng [9] 62 95) nom (fun s => s.h = SH h bk cap d3) ?_ ?_
    · intro Q3 hE3
      refine cK_dec (fun hc2 => ?_) (fun hc2 => ?_)
      · have hd3' : d3 = shiftDown ltInt k2 d2 := by rw [hd3, if_pos (by omega)]
        simp -implicitDefEqProofs [go_sem, hx7, hh2, hf2.t, hf2.m, hf1.t, hf1.m, hwk]
        refine iwp_loopE 4 (rng [9] 64 95) nom (fun s => ∃ (j : Nat) (d5 : Array Int), j < n ∧ d5.size = n ∧ s.t 9 = .int .i64 j ∧ shiftDown ltInt j d5 = d3 ∧ s.h = SH h bk cap d5) (fun s => s.h = SH h bk cap d3) (fun s => tn (s.t 9)) ?_ ?_ ?_
        · exact ⟨k2, d2, hlk, hs2, by simp -implicitDefEqProofs [go_sem, hwk], hd3'.symm, by simp -implicitDefEqProofs [go_sem, hh2]; rw [hd2]; exact SH_swp _ _ _ _ _ _ _⟩
        · rintro Q4 J4 s4 hE4 hJ4 hf4 ⟨j, d5, hj, hs5, h9, hsd, hh4⟩
          simp -implicitDefEqProofs [go_sem, hx7, h9, hh4, hf4.t, hf4.m, hf2.t, hf2.m, hf1.t, hf1.m]
          refine cK_dec (fun hj1 => ?_) (fun hj1 => ?_)
          · obtain ⟨m, hm⟩ : ∃ x, j = x + 1 := ⟨j - 1, by omega⟩
            have hgj := rowsD_get (d := d5) (i := j) (by omega)
            have hgm := rowsD_get (d := d5) (i := m) (by omega)
            have hlm : m < n := by omega
            have hwm : IntKind.i64.wrap ((j : Int) - 1) = (m : Int) := by rw [wrap_in (by omega)]; omega
            obtain ⟨r4, hr4⟩ := rowsD_get2 (d := d5) (i := j) (j := m) (by omega) d5[m]!
            simp -implicitDefEqProofs [go_sem, hx7, h9, hh4, hf4.t, hf4.m, hf2.t, hf2.m, hf1.t, hf1.m]
            refine iwp_drawn_of mixed [0,1,2,3,4,5,6,7,8,9,10] (by kernel_rfl) ?_
            simp -implicitDefEqProofs [go_sem, hx7, h9, hh4, hf4.t, hf4.m, hf2.t, hf2.m, hf1.t, hf1.m, hgj, hgm, hj, hlm, hwm, SH_at]
            refine ⟨_, less_c _ _ _, ?_⟩
            simp -implicitDefEqProofs [go_sem, hx7, h9, hh4, hf4.t, hf4.m, hf2.t, hf2.m, hf1.t, hf1.m]
            refine cK_any (fun k1 => ?_) (fun k1 => ?_)
            · have hx : d5 = d3 := by subst hm; rw [shiftDown, if_pos (by simpa using k1)] at hsd; exact hsd
              simp -implicitDefEqProofs [go_sem, hx7, h9, hh4, hf4.t, hf4.m, hf4, hf2.t, hf2.m, hf1.t, hf1.m]
              exact hE4 _ (by simp -implicitDefEqProofs [go_sem, hf4]) (by simp -implicitDefEqProofs [go_sem, hh4, hx])
            · simp -implicitDefEqProofs [go_sem, hx7, h9, hh4, hf4.t, hf4.m, hf2.t, hf2.m, hf1.t, hf1.m]
              refine iwp_drawn_of mixed [0,1,2,3,4,5,6,7,8,9,10,11,12,13,14,15,16,17] (by kernel_rfl) ?_
              simp -implicitDefEqProofs [go_sem, hx7, h9, hh4, hf4.t, hf4.m, hf4, hf2.t, hf2.m, hf1.t, hf1.m, hgj, hgm, hj, hlm, hwm, hr4, SH_at]
              have hstep : shiftDown ltInt m (swp d5 j m) = d3 := by subst hm; rw [shiftDown, if_neg (by simpa using k1)] at hsd; exact hsd
              exact hJ4 _ ⟨m, swp d5 j m, hlm, by rw [swp_size, hs5], by simp -implicitDefEqProofs [go_sem, hwm], hstep, by simp -implicitDefEqProofs [go_sem, hh4]; exact SH_swp _ _ _ _ _ _ _⟩ (by simp [go_sem, h9, hwm]; omega)
          · obtain rfl : j = 0 := by omega
            rw [shiftDown] at hsd
            simp -implicitDefEqProofs [go_sem, hx7, h9, hh4, hf4.t, hf4.m, hf4, hf2.t, hf2.m, hf1.t, hf1.m]
            exact hE4 _ (by simp -implicitDefEqProofs [go_sem, hf4]) (by simp -implicitDefEqProofs [go_sem, hh4, hsd])
        · rintro s4 hf4 hh4
          simp -implicitDefEqProofs [go_sem]
          exact hE3 _ (Fr.trans2 (Fr.refl _ _ _) hf4 (by simp -implicitDefEqProofs [go_sem]) (rng_sub (by decide)) nom_sub) hh4
      · have hd3' : d3 = d2 := by rw [hd3, if_neg (by omega)]
        simp -implicitDefEqProofs [go_sem]
        exact hE3 _ (by simp -implicitDefEqProofs [go_sem]) (by simp -implicitDefEqProofs [go_sem, hh2]; rw [hd3', hd2]; exact SH_swp _ _ _ _ _ _ _)
    rintro s3 hf3 hh3
    have hfb := Fr.trans2 hfa hf3 (by simp -implicitDefEqProofs [go_sem]) (rng_sub (by decide)) nom_sub
    simp -implicitDefEqProofs [go_sem, hx7, hh3, hf3.t, hf3.m, hf2.t, hf2.m, hf1.t, hf1.m, hwb]
    refine ifE (rng [10] 99 133) nom (fun s => s.h = SH h bk cap d4) ?_ ?_
    · intro Q3 hE3
      refine cK_dec (fun hc2 => ?_) (fun hc2 => ?_)
      · have hd4' : d4 = shiftUp ltInt b (i2 + 1) d3 := by rw [hd4, if_pos (by omega)]
        have hwi1 := wrap_succ (i := i2) (by omega)
        simp -implicitDefEqProofs [go_sem, hx7, hh3, hf3.t, hf3.m, hf2.t, hf2.m, hf1.t, hf1.m, hwi1]
        refine iwp_loopE 6 (rng [10] 101 133) nom (fun s => ∃ (j : Nat) (d5 : Array Int), 1 ≤ j ∧ j ≤ b ∧ d5.size = n ∧ s.t 10 = .int .i64 j ∧ shiftUp ltInt b j d5 = d4 ∧ s.h = SH h bk cap d5) (fun s => s.h = SH h bk cap d4) (fun s => b - tn (s.t 10)) ?_ ?_ ?_
        · exact ⟨i2 + 1, d3, by omega, by omega, hs3, by simp -implicitDefEqProofs [go_sem, hwi1], hd4'.symm, by simp -implicitDefEqProofs [go_sem, hh3]⟩
        · rintro Q4 J4 s4 hE4 hJ4 hf4 ⟨j, d5, hj0, hjb, hs5, h10, hsd, hh4⟩
          simp -implicitDefEqProofs [go_sem, hx7, h10, hh4, hf4.t, hf4.m, hf3.t, hf3.m, hf2.t, hf2.m, hf1.t, hf1.m]
          refine cK_dec (fun hj1 => ?_) (fun hj1 => ?_)
          · obtain ⟨m, hm⟩ : ∃ x, x = j - 1 := ⟨_, rfl⟩
            have hj : j < n := by omega
            have hgj := rowsD_get (d := d5) (i := j) (by omega)
            have hgm := rowsD_get (d := d5) (i := m) (by omega)
            have hlm : m < n := by omega
            have hwm : IntKind.i64.wrap ((j : Int) - 1) = (m : Int) := by rw [wrap_in (by omega)]; omega
            have hwj2 := wrap_succ (i := j) (by omega)
            obtain ⟨r4, hr4⟩ := rowsD_get2 (d := d5) (i := j) (j := m) (by omega) d5[m]!
            simp -implicitDefEqProofs [go_sem, hx7, h10, hh4, hf4.t, hf4.m, hf3.t, hf3.m, hf2.t, hf2.m, hf1.t, hf1.m]
            refine iwp_drawn_of mixed [0,1,2,3,4,5,6,7,8,9,10] (by kernel_rfl) ?_
            simp -implicitDefEqProofs [go_sem, hx7, h10, hh4, hf4.t, hf4.m, hf3.t, hf3.m, hf2.t, hf2.m, hf1.t, hf1.m, hgj, hgm, hj, hlm, hwm, SH_at]
            refine ⟨_, less_c _ _ _, ?_⟩
            simp -implicitDefEqProofs [go_sem, hx7, h10, hh4, hf4.t, hf4.m, hf3.t, hf3.m, hf2.t, hf2.m, hf1.t, hf1.m]
            refine cK_any (fun k1 => ?_) (fun k1 => ?_)
            · have hx : d5 = d4 := by rw [shiftUp, if_pos hj1, if_pos (by rw [← hm]; simpa using k1)] at hsd; exact hsd
              simp -implicitDefEqProofs [go_sem, hx7, h10, hh4, hf4.t, hf4.m, hf4, hf3.t, hf3.m, hf2.t, hf2.m, hf1.t, hf1.m]
              exact hE4 _ (by simp -implicitDefEqProofs [go_sem, hf4]) (by simp -implicitDefEqProofs [go_sem, hh4, hx])
            · simp -implicitDefEqProofs [go_sem, hx7, h10, hh4, hf4.t, hf4.m, hf3.t, hf3.m, hf2.t, hf2.m, hf1.t, hf1.m]
              refine iwp_drawn_of mixed [0,1,2,3,4,5,6,7,8,9,10,11,12,13,14,15,16,17] (by kernel_rfl) ?_
              simp -implicitDefEqProofs [go_sem, hx7, h10, hh4, hf4.t, hf4.m, hf4, hf3.t, hf3.m, hf2.t, hf2.m, hf1.t, hf1.m, hgj, hgm, hj, hlm, hwm, hwj2, hr4, SH_at]
              have hstep : shiftUp ltInt b (j + 1) (swp d5 j m) = d4 := by rw [shiftUp, if_pos hj1, if_neg (by rw [← hm]; simpa using k1), ← hm] at hsd; exact hsd
              exact hJ4 _ ⟨j + 1, swp d5 j m, by omega, by omega, by rw [swp_size, hs5], by simp -implicitDefEqProofs [go_sem, hwj2], hstep, by simp -implicitDefEqProofs [go_sem, hh4]; exact SH_swp _ _ _ _ _ _ _⟩ (by simp [go_sem, h10, hwj2]; omega)
          · rw [shiftUp, if_neg (by omega)] at hsd
            simp -implicitDefEqProofs [go_sem, hx7, h10, hh4, hf4.t, hf4.m, hf4, hf3.t, hf3.m, hf2.t, hf2.m, hf1.t, hf1.m]
            exact hE4 _ (by simp -implicitDefEqProofs [go_sem, hf4]) (by simp -implicitDefEqProofs [go_sem, hh4, hsd])
        · rintro s4 hf4 hh4
          simp -implicitDefEqProofs [go_sem]
          exact hE3 _ (Fr.trans2 (Fr.refl _ _ _) hf4 (by simp -implicitDefEqProofs [go_sem]) (rng_sub (by decide)) nom_sub) hh4
      · have hd4' : d4 = d3 := by rw [hd4, if_neg (by omega)]
        simp -implicitDefEqProofs [go_sem]
        exact hE3 _ (by simp -implicitDefEqProofs [go_sem]) (by simp -implicitDefEqProofs [go_sem, hh3, hd4'])
    rintro s4 hf4 hh4
    have hfc := Fr.trans2 hfb hf4 (by simp -implicitDefEqProofs [go_sem]) (rng_sub (by decide)) nom_sub
    have h84 : s4.t 8 = .int .i64 jn := by rw [hf4.t 8 rfl]; simp -implicitDefEqProofs [go_sem, hf3.t, hf2.t, hf2.m, hf1.t, hf1.m, h8]
    have h74 : s4.t 7 = .int .i64 i2 := by rw [hf4.t 7 rfl]; simp -implicitDefEqProofs [go_sem, hf3.t, hx7, hf2.t, hf2.m, hf1.t, hf1.m]
    simp -implicitDefEqProofs [go_sem, h84, h74, hh4, hwj, hfc]
    exact hJ _ ⟨jn + 1, st', i2, d4, by omega, hb1, hb2, hs4, by simp -implicitDefEqProofs [go_sem, hwj], by simp -implicitDefEqProofs [go_sem, h74], hfin, by simp -implicitDefEqProofs [go_sem, hh4]⟩ (by simp [go_sem, h8, hwj]; omega)
  · obtain rfl : st = 0 := by omega
    rw [partialIns] at hfin
    simp -implicitDefEqProofs [go_sem, h8, h7, hh, hf1.t, hf1.m]
    exact ⟨_, Sub.refl _, by rw [← hfin], by rw [← hfin]⟩
end Go.Proofs

set_option linter.unusedVariables false
set_option linter.unusedSimpArgs false
set_option pp.deepTerms false
set_option pp.maxSteps 400
namespace Go.Proofs
open Go.Idl

/-- the table of lengths of bytes -/
def isTab (tb : ByteArray) : Prop := tb.size = 256 ∧ ∀ i : Fin 256, i.val < 2 ^ (tb.get! i.val).toNat ∧ (0 < i.val → 2 ^ (tb.get! i.val).toNat ≤ 2 * i.val) ∧ (tb.get! i.val).toNat ≤ 8

instance (tb : ByteArray) : Decidable (isTab tb) := by unfold isTab; exact inferInstance

def lenR (x : Nat) (h : Heap) (e : IEnd) (h' : Heap) : Prop := ∃ L : Nat, retP (.int .i64 L) h e h' ∧ x < 2 ^ L ∧ (0 < x → 2 ^ L ≤ 2 * x) ∧ L ≤ 64


theorem pop_idx {P : Program} {st : St} {t : TypeId} {x i : Operand} {s : ByteArray} {n : Nat} {k : IntKind} (ht : P.underlying t = some .string) (hx : st.ev x = .str s) (hi : st.ev i = .int k n) (h : n < s.size) :
    pop P st (.index t x i) = some (.int .u8 ((s.get! n).toNat : Nat)) := by
  have e : s.get! n = s[n]'h := by
    cases s with
    | mk bs => show bs[n]! = bs[n]; exact getElem!_pos bs n h
  simp only [pop, ht, hx, hi]
  rw [dif_pos ⟨by omega, by simpa using h⟩, e]
  simp

set_option maxRecDepth 20000 in
set_option maxHeartbeats 4000000 in
theorem len64_c (x : Nat) (h : Heap) (hx : x < 1099511627776) : ICall Tryz.prog 149 [.int .u64 x] h (lenR x h) := by
  refine icall_of_iwp (fun _ => 0) Tryz.func149 rfl (by kernel_rfl) (Nat.le_of_ble_eq_true rfl) ?_
  rw [Tryz.results149]
  generalize htab : Value.string _ = vt
  obtain ⟨tb, hvt, htb⟩ : ∃ tb : ByteArray, vt = .string tb ∧ isTab tb := ⟨_, htab.symm, by decide +kernel⟩
  clear htab
  subst hvt
  have f32 : (x : Int).fdiv 4294967296 = ((x / 4294967296 : Nat) : Int) := by rw [Int.fdiv_eq_ediv_of_nonneg _ (by omega)]; omega
  have f16 : (x : Int).fdiv 65536 = ((x / 65536 : Nat) : Int) := by rw [Int.fdiv_eq_ediv_of_nonneg _ (by omega)]; omega
  have f8 : (x : Int).fdiv 256 = ((x / 256 : Nat) : Int) := by rw [Int.fdiv_eq_ediv_of_nonneg _ (by omega)]; omega
  simp -implicitDefEqProofs [go_sem]
  refine cK_dec (fun h32 => ?_) (fun h32 => ?_)
  · obtain ⟨y, hy⟩ : ∃ y, y = x / 4294967296 := ⟨_, rfl⟩
    rw [← hy] at f32
    have n1 : ¬ ((65536 : Int) ≤ (y : Int)) := by omega
    have n2 : ¬ ((256 : Int) ≤ (y : Int)) := by omega
    have hvl : y < 256 := by omega
    have hw : IntKind.u8.wrap (y : Int) = (y : Int) := Go.IntWalk.u8_in _ (by omega)
    obtain ⟨v, hv⟩ : ∃ v, v = (tb.get! y).toNat := ⟨_, rfl⟩
    have ht := htb.2 ⟨y, hvl⟩
    simp only [← hv] at ht
    obtain ⟨t1, t2, t3⟩ := ht
    have hwv : IntKind.i64.wrap (v : Int) = (v : Int) := wrap_in (by omega)
    have hwL : IntKind.i64.wrap ((32 : Int) + (v : Int)) = ((32 + v : Nat) : Int) := by rw [wrap_in (by omega)]; rfl
    simp -implicitDefEqProofs [go_sem, f32, n1, n2, hw]
    rw [pop_idx (s := tb) (n := y) (k := .u8) Tryz.underlying9 rfl (by simp -implicitDefEqProofs [go_sem, f32, n1, n2, hw]) (by rw [htb.1]; exact hvl), ← hv]
    simp -implicitDefEqProofs [go_sem, f32, n1, n2, hw, hwv, hwL]
    refine ⟨h, Sub.refl _, 32 + v, ⟨by simp, rfl⟩, ?_, fun hx0 => ?_, by omega⟩
    · rw [Nat.pow_add]; omega
    · have := t2 (by omega); rw [Nat.pow_add]; omega
  simp -implicitDefEqProofs [go_sem]
  refine cK_dec (fun h16 => ?_) (fun h16 => ?_)
  · obtain ⟨y, hy⟩ : ∃ y, y = x / 65536 := ⟨_, rfl⟩
    rw [← hy] at f16
    have f8' : (y : Int).fdiv 256 = ((y / 256 : Nat) : Int) := by rw [Int.fdiv_eq_ediv_of_nonneg _ (by omega)]; omega
    have hw16 : IntKind.i64.wrap ((0 : Int) + 16) = 16 := by decide
    have hw24 : IntKind.i64.wrap ((16 : Int) + 8) = 24 := by decide
    have hw16' : IntKind.i64.wrap (16 : Int) = 16 := by decide
    have hw24' : IntKind.i64.wrap (24 : Int) = 24 := by decide
    simp -implicitDefEqProofs [go_sem, f16, hw16, hw16']
    refine cK_dec (fun h8 => ?_) (fun h8 => ?_)
    · obtain ⟨z, hz⟩ : ∃ z, z = y / 256 := ⟨_, rfl⟩
      rw [← hz] at f8'
      have hvl : z < 256 := by omega
      have hw : IntKind.u8.wrap (z : Int) = (z : Int) := Go.IntWalk.u8_in _ (by omega)
      obtain ⟨v, hv⟩ : ∃ v, v = (tb.get! z).toNat := ⟨_, rfl⟩
      have ht := htb.2 ⟨z, hvl⟩
      simp only [← hv] at ht
      obtain ⟨t1, t2, t3⟩ := ht
      have hwv : IntKind.i64.wrap (v : Int) = (v : Int) := wrap_in (by omega)
      have hwL : IntKind.i64.wrap ((24 : Int) + (v : Int)) = ((24 + v : Nat) : Int) := by rw [wrap_in (by omega)]; rfl
      simp -implicitDefEqProofs [go_sem, f16, f8', hw16, hw24, hw16', hw24', hw]
      rw [pop_idx (s := tb) (n := z) (k := .u8) Tryz.underlying9 rfl (by simp -implicitDefEqProofs [go_sem, f16, f8', hw16, hw24, hw16', hw24', hw]) (by rw [htb.1]; exact hvl), ← hv]
      simp -implicitDefEqProofs [go_sem, f16, f8', hw16, hw24, hw16', hw24', hw, hwv, hwL]
      refine ⟨h, Sub.refl _, 24 + v, ⟨by simp, rfl⟩, ?_, fun hx0 => ?_, by omega⟩
      · rw [Nat.pow_add]; omega
      · have := t2 (by omega); rw [Nat.pow_add]; omega
    · have hvl : y < 256 := by omega
      have hw : IntKind.u8.wrap (y : Int) = (y : Int) := Go.IntWalk.u8_in _ (by omega)
      obtain ⟨v, hv⟩ : ∃ v, v = (tb.get! y).toNat := ⟨_, rfl⟩
      have ht := htb.2 ⟨y, hvl⟩
      simp only [← hv] at ht
      obtain ⟨t1, t2, t3⟩ := ht
      have hwv : IntKind.i64.wrap (v : Int) = (v : Int) := wrap_in (by omega)
      have hwL : IntKind.i64.wrap ((16 : Int) + (v : Int)) = ((16 + v : Nat) : Int) := by rw [wrap_in (by omega)]; rfl
      simp -implicitDefEqProofs [go_sem, f16, hw16, hw16', hw]
      rw [pop_idx (s := tb) (n := y) (k := .u8) Tryz.underlying9 rfl (by simp -implicitDefEqProofs [go_sem, f16, hw16, hw16', hw]) (by rw [htb.1]; exact hvl), ← hv]
      simp -implicitDefEqProofs [go_sem, f16, hw16, hw16', hw, hwv, hwL]
      refine ⟨h, Sub.refl _, 16 + v, ⟨by simp, rfl⟩, ?_, fun hx0 => ?_, by omega⟩
      · rw [Nat.pow_add]; omega
      · have := t2 (by omega); rw [Nat.pow_add]; omega
  simp -implicitDefEqProofs [go_sem]
  refine cK_dec (fun h8 => ?_) (fun h8 => ?_)
  · obtain ⟨y, hy⟩ : ∃ y, y = x / 256 := ⟨_, rfl⟩
    rw [← hy] at f8
    have hw8 : IntKind.i64.wrap ((0 : Int) + 8) = 8 := by decide
    have hw8' : IntKind.i64.wrap (8 : Int) = 8 := by decide
    have hvl : y < 256 := by omega
    have hw : IntKind.u8.wrap (y : Int) = (y : Int) := Go.IntWalk.u8_in _ (by omega)
    obtain ⟨v, hv⟩ : ∃ v, v = (tb.get! y).toNat := ⟨_, rfl⟩
    have ht := htb.2 ⟨y, hvl⟩
    simp only [← hv] at ht
    obtain ⟨t1, t2, t3⟩ := ht
    have hwv : IntKind.i64.wrap (v : Int) = (v : Int) := wrap_in (by omega)
    have hwL : IntKind.i64.wrap ((8 : Int) + (v : Int)) = ((8 + v : Nat) : Int) := by rw [wrap_in (by omega)]; rfl
    simp -implicitDefEqProofs [go_sem, f8, hw8, hw8', hw]
    rw [pop_idx (s := tb) (n := y) (k := .u8) Tryz.underlying9 rfl (by simp -implicitDefEqProofs [go_sem, f8, hw8, hw8', hw]) (by rw [htb.1]; exact hvl), ← hv]
    simp -implicitDefEqProofs [go_sem, f8, hw8, hw8', hw, hwv, hwL]
    refine ⟨h, Sub.refl _, 8 + v, ⟨by simp, rfl⟩, ?_, fun hx0 => ?_, by omega⟩
    · rw [Nat.pow_add]; omega
    · have := t2 (by omega); rw [Nat.pow_add]; omega
  · have hvl : x < 256 := by omega
    have hw : IntKind.u8.wrap (x : Int) = (x : Int) := Go.IntWalk.u8_in _ (by omega)
    obtain ⟨v, hv⟩ : ∃ v, v = (tb.get! x).toNat := ⟨_, rfl⟩
    have ht := htb.2 ⟨x, hvl⟩
    simp only [← hv] at ht
    obtain ⟨t1, t2, t3⟩ := ht
    have hwv : IntKind.i64.wrap (v : Int) = (v : Int) := wrap_in (by omega)
    have hwL : IntKind.i64.wrap ((0 : Int) + (v : Int)) = ((0 + v : Nat) : Int) := by rw [wrap_in (by omega)]; rfl
    simp -implicitDefEqProofs [go_sem, hx, hw]
    rw [pop_idx (s := tb) (n := x) (k := .u8) Tryz.underlying9 rfl (by simp -implicitDefEqProofs [go_sem, hx, hw]) (by rw [htb.1]; exact hvl), ← hv]
    simp -implicitDefEqProofs [go_sem, hx, hw, hwv, hwL]
    refine ⟨h, Sub.refl _, 0 + v, ⟨by simp, rfl⟩, ?_, fun hx0 => ?_, by omega⟩
    · rw [Nat.pow_add]; omega
    · have := t2 (by omega); rw [Nat.pow_add]; omega
end Go.Proofs

set_option linter.unusedVariables false
set_option linter.unusedSimpArgs false
set_option pp.deepTerms false
set_option pp.maxSteps 400
namespace Go.Proofs
open Go.Idl
open Go.Sort (swp ltInt scanUp scanDown partEqLoop partitionEqual)

theorem partEqLoop_stop {a i j i2 j2 : Nat} {d : Array Int} (h1 : i2 = scanUp (fun x => !ltInt d[a]! x) d j i) (h2 : j2 = scanDown (fun x => ltInt d[a]! x) d i2 j) (h : i2 > j2) : partEqLoop ltInt a i j d = (i2, d) := by
  subst h1; subst h2; rw [partEqLoop]; exact if_pos h
theorem partEqLoop_go {a i j i2 j2 : Nat} {d : Array Int} (h1 : i2 = scanUp (fun x => !ltInt d[a]! x) d j i) (h2 : j2 = scanDown (fun x => ltInt d[a]! x) d i2 j) (h : ¬ i2 > j2) (hg : (j2 - 1) + 1 - (i2 + 1) < j + 1 - i) :
    partEqLoop ltInt a i j d = partEqLoop ltInt a (i2 + 1) (j2 - 1) (swp d i2 j2) := by
  subst h1; subst h2; rw [partEqLoop]; exact (if_neg h).trans (dif_pos hg)

set_option maxRecDepth 20000 in
set_option maxHeartbeats 8000000 in
theorem partitionEqual_c (d : Array Int) (a b pv bk cap : Nat) (h : Heap) (hap : a ≤ pv) (hpb : pv < b) (hb : b ≤ d.size) (hs : d.size < 10000000000) :
    ICall Tryz.prog 146 [.sl 1 bk 0 d.size cap, .int .i64 a, .int .i64 b, .int .i64 pv] (SH h bk cap d)
      (retP (.int .i64 (partitionEqual ltInt d a b pv).1) (SH h bk cap (partitionEqual ltInt d a b pv).2)) := by
  obtain ⟨n, hn⟩ : ∃ n, n = d.size := ⟨_, rfl⟩
  rw [← hn] at hb hs ⊢
  refine icall_of_iwp (fun _ => 0) Tryz.func146 rfl (by kernel_rfl) (Nat.le_of_ble_eq_true rfl) ?_
  rw [Tryz.results146]
  obtain ⟨d0, hd0⟩ : ∃ x, x = swp d a pv := ⟨_, rfl⟩
  have hs0 : d0.size = n := by rw [hd0, swp_size, hn]
  obtain ⟨p, hp⟩ : ∃ x, x = b - 1 := ⟨_, rfl⟩
  have hwa := wrap_succ (i := a) (by omega)
  have hw1 : IntKind.i64.wrap ((b : Int) - 1) = (p : Int) := by rw [wrap_in (by omega)]; omega
  obtain ⟨R, hR⟩ : ∃ x, x = partEqLoop ltInt a (a + 1) p d0 := ⟨_, rfl⟩
  have hpart : partitionEqual ltInt d a b pv = R := by rw [hR, partitionEqual, ← hd0, ← hp]
  have hga := rowsD_get (d := d) (i := a) (by omega)
  have hgp := rowsD_get (d := d) (i := pv) (by omega)
  have hla : a < n := by omega
  have hlp : pv < n := by omega
  obtain ⟨r2, hr2⟩ := rowsD_get2 (d := d) (i := a) (j := pv) (by omega) d[pv]!
  simp -implicitDefEqProofs [go_sem]
  refine iwp_drawn_of mixed [0,1,2,3,4,5,6,7,8,9,10,11,12,13,14,15] (by kernel_rfl) ?_
  simp -implicitDefEqProofs [go_sem, hga, hgp, hla, hlp, hr2, SH_at, hwa, hw1]
  refine iwp_loopE 0 (rng [9,10] 29 83) nom (fun s => ∃ (i j : Nat) (d1 : Array Int), a + 1 ≤ i ∧ i ≤ b ∧ j < b ∧ d1.size = n ∧ s.t 9 = .int .i64 i ∧ s.t 10 = .int .i64 j ∧ partEqLoop ltInt a i j d1 = R ∧ s.h = SH h bk cap d1) (fun s => s.t 9 = .int .i64 R.1 ∧ R.2.size = n ∧ s.h = SH h bk cap R.2) (fun s => tn (s.t 10) + 1 - tn (s.t 9)) ?_ ?_ ?_
  · exact ⟨a + 1, p, d0, by omega, by omega, by omega, hs0, by simp -implicitDefEqProofs [go_sem, hwa], by simp -implicitDefEqProofs [go_sem, hw1], by rw [hR], by simp -implicitDefEqProofs [go_sem]; rw [hd0]; exact SH_swp _ _ _ _ _ _ _⟩
  · rintro Q3 J3 s3 hE3 hJ3 hf3 ⟨i0, j0, d1, hi01, hi02, hj01, hd1, h10, h11, hfin3, hh3⟩
    obtain ⟨i2, hi2d⟩ : ∃ x, x = scanUp (fun x => !ltInt d1[a]! x) d1 j0 i0 := ⟨_, rfl⟩
    obtain ⟨j2, hj2d⟩ : ∃ x, x = scanDown (fun x => ltInt d1[a]! x) d1 i2 j0 := ⟨_, rfl⟩
    have hga0 := rowsD_get (d := d1) (i := a) (by omega)
    simp -implicitDefEqProofs [go_sem, h10, h11, hh3, hf3.t, hf3.m]
    refine iwp_loopE 2 (rng [9] 29 46) nom (fun s => ∃ i : Nat, a + 1 ≤ i ∧ i ≤ b ∧ s.t 9 = .int .i64 i ∧ scanUp (fun x => !ltInt d1[a]! x) d1 j0 i = i2 ∧ s.h = SH h bk cap d1) (fun s => s.t 9 = .int .i64 i2 ∧ a + 1 ≤ i2 ∧ i2 ≤ b ∧ s.h = SH h bk cap d1) (fun s => b - tn (s.t 9)) ?_ ?_ ?_
    · exact ⟨i0, by omega, by omega, by simp -implicitDefEqProofs [go_sem, h10], hi2d.symm, by simp -implicitDefEqProofs [go_sem, hh3]⟩
    · rintro Q2 J s4 hE hJ hf4 ⟨i, hi1, hi2, hx10, hfin, hh⟩
      simp -implicitDefEqProofs [go_sem, hx10, hh, hf3.t, hf3.m, hf4.t, hf4.m, h11]
      refine iwp_drawn_of mixed [0,1,2,3,4,5,6,7,8,9,10,11,12,13,14] (by kernel_rfl) ?_
      simp -implicitDefEqProofs [go_sem, hx10, hh, hf3.t, hf3.m, hf4.t, hf4.m, h11]
      refine cK_dec (fun hle => ?_) (fun hle => ?_)
      · have hgi := rowsD_get (d := d1) (i := i) (by omega)
        have hli : i < n := by omega
        have hw := wrap_succ (i := i) (by omega)
        simp -implicitDefEqProofs [go_sem, hx10, hh, hf3.t, hf3.m, hf4.t, hf4.m, h11, hle, hgi, hli, hla, hga0, SH_at]
        refine ⟨_, less_c _ _ _, ?_⟩
        simp -implicitDefEqProofs [go_sem, hx10, hh, hf3.t, hf3.m, hf4.t, hf4.m, h11, hle]
        refine cK_any (fun k1 => ?_) (fun k1 => ?_)
        · simp -implicitDefEqProofs [go_sem, hx10, hh, hf3.t, hf3.m, hf4.t, hf4.m, h11, hf4, hle, hw]
          refine hJ _ ⟨i + 1, by omega, by omega, by simp -implicitDefEqProofs [go_sem, hw], ?_, by simp -implicitDefEqProofs [go_sem, hh]⟩ (by simp [go_sem, hx10, hw]; omega)
          rw [scanUp, if_pos (by simpa [hle] using k1)] at hfin; exact hfin
        · simp -implicitDefEqProofs [go_sem, hx10, hh, hf3.t, hf3.m, hf4.t, hf4.m, h11, hf4, hle]
          rw [scanUp, if_neg (by simpa [hle] using k1)] at hfin
          exact hE _ (by simp -implicitDefEqProofs [go_sem, hf4]) ⟨by simp -implicitDefEqProofs [go_sem, hx10, hfin], by omega, by omega, by simp -implicitDefEqProofs [go_sem, hh]⟩
      · simp -implicitDefEqProofs [go_sem, hx10, hh, hf3.t, hf3.m, hf4.t, hf4.m, h11, hf4, hle]
        rw [scanUp, if_neg (by simp [hle])] at hfin
        exact hE _ (by simp -implicitDefEqProofs [go_sem, hf4]) ⟨by simp -implicitDefEqProofs [go_sem, hx10, hfin], by omega, by omega, by simp -implicitDefEqProofs [go_sem, hh]⟩
    rintro s4 hf4 ⟨h10', hi21, hi22, hh4⟩
    simp -implicitDefEqProofs [go_sem, h10', h11, hh4, hf4.t, hf4.m, hf3.t, hf3.m]
    refine iwp_loopE 4 (rng [10] 46 62) nom (fun s => ∃ j : Nat, j < b ∧ s.t 10 = .int .i64 j ∧ scanDown (fun x => ltInt d1[a]! x) d1 i2 j = j2 ∧ s.h = SH h bk cap d1) (fun s => s.t 10 = .int .i64 j2 ∧ j2 < b ∧ s.h = SH h bk cap d1) (fun s => tn (s.t 10)) ?_ ?_ ?_
    · exact ⟨j0, by omega, by simp -implicitDefEqProofs [go_sem, hf4.t, h11], hj2d.symm, by simp -implicitDefEqProofs [go_sem, hh4]⟩
    · rintro Q2 J s5 hE hJ hf5 ⟨j, hi1, hx11, hfin, hh⟩
      simp -implicitDefEqProofs [go_sem, hx11, hh, hf4.t, hf4.m, hf3.t, hf3.m, hf5.t, hf5.m, h10']
      refine iwp_drawn_of mixed [0,1,2,3,4,5,6,7,8,9,10,11,12,13] (by kernel_rfl) ?_
      simp -implicitDefEqProofs [go_sem, hx11, hh, hf4.t, hf4.m, hf3.t, hf3.m, hf5.t, hf5.m, h10']
      refine cK_dec (fun hle => ?_) (fun hle => ?_)
      · have hgi := rowsD_get (d := d1) (i := j) (by omega)
        have hli : j < n := by omega
        obtain ⟨k, hk⟩ : ∃ k, j = k + 1 := ⟨j - 1, by omega⟩
        have hw : IntKind.i64.wrap ((j : Int) - 1) = (k : Int) := by rw [wrap_in (by omega)]; omega
        simp -implicitDefEqProofs [go_sem, hx11, hh, hf4.t, hf4.m, hf3.t, hf3.m, hf5.t, hf5.m, h10', hle, hgi, hli, hla, hga0, SH_at]
        refine ⟨_, less_c _ _ _, ?_⟩
        simp -implicitDefEqProofs [go_sem, hx11, hh, hf4.t, hf4.m, hf3.t, hf3.m, hf5.t, hf5.m, h10', hle]
        refine cK_any (fun k1 => ?_) (fun k1 => ?_)
        · simp -implicitDefEqProofs [go_sem, hx11, hh, hf4.t, hf4.m, hf3.t, hf3.m, hf5.t, hf5.m, h10', hf5, hle, hw]
          refine hJ _ ⟨k, by omega, by simp -implicitDefEqProofs [go_sem, hw], ?_, by simp -implicitDefEqProofs [go_sem, hh]⟩ (by simp [go_sem, hx11, hw]; omega)
          subst hk; rw [scanDown, if_pos (by simpa [hle] using k1)] at hfin; exact hfin
        · simp -implicitDefEqProofs [go_sem, hx11, hh, hf4.t, hf4.m, hf3.t, hf3.m, hf5.t, hf5.m, h10', hf5, hle]
          have hfin2 : j = j2 := by subst hk; rw [scanDown, if_neg (by simpa [hle] using k1)] at hfin; exact hfin
          exact hE _ (by simp -implicitDefEqProofs [go_sem, hf5]) ⟨by simp -implicitDefEqProofs [go_sem, hx11, hfin2], by omega, by simp -implicitDefEqProofs [go_sem, hh]⟩
      · simp -implicitDefEqProofs [go_sem, hx11, hh, hf4.t, hf4.m, hf3.t, hf3.m, hf5.t, hf5.m, h10', hf5, hle]
        have hfin2 : j = j2 := by
          cases j with
          | zero => exact hfin
          | succ j => rw [scanDown, if_neg (by simp; omega)] at hfin; exact hfin
        exact hE _ (by simp -implicitDefEqProofs [go_sem, hf5]) ⟨by simp -implicitDefEqProofs [go_sem, hx11, hfin2], by omega, by simp -implicitDefEqProofs [go_sem, hh]⟩
    rintro s5 hf5 ⟨h11', hj21, hh5⟩
    have hfa := Fr.trans2 hf3 hf4 (by simp -implicitDefEqProofs [go_sem]) (rng_sub (by decide)) nom_sub
    have hfb := Fr.trans2 hfa hf5 (by simp -implicitDefEqProofs [go_sem]) (rng_sub (by decide)) nom_sub
    have hle1 := (scanUp_le (fun x => !ltInt d1[a]! x) d1 j0 _ i0 (Nat.le_refl _)).1
    rw [← hi2d] at hle1
    have hle2 := (scanDown_le (fun x => ltInt d1[a]! x) d1 i2 (by omega) j0).1
    rw [← hj2d] at hle2
    have h10'' : s5.t 9 = .int .i64 i2 := by rw [hf5.t 9 rfl]; simp -implicitDefEqProofs [go_sem, h10']
    simp -implicitDefEqProofs [go_sem, h10', h10'', h11', hh5, hf5.t, hf5.m, hf4.t, hf4.m, hf3.t, hf3.m]
    refine cK_dec (fun hg3 => ?_) (fun hg3 => ?_)
    · rw [partEqLoop_stop hi2d hj2d hg3] at hfin3
      simp -implicitDefEqProofs [go_sem, h10', h11', hh5, hfb]
      exact hE3 _ (by simp -implicitDefEqProofs [go_sem, hfb]) (by rw [← hfin3]; exact ⟨by simp -implicitDefEqProofs [go_sem, h10''], hd1, by simp -implicitDefEqProofs [go_sem, hh5]⟩)
    · rw [partEqLoop_go hi2d hj2d (by omega) (by omega)] at hfin3
      have hgj2 := rowsD_get (d := d1) (i := j2) (by omega)
      have hlj2 : j2 < n := by omega
      have hgi2 := rowsD_get (d := d1) (i := i2) (by omega)
      have hli2 : i2 < n := by omega
      obtain ⟨r4, hr4⟩ := rowsD_get2 (d := d1) (i := i2) (j := j2) (by omega) d1[j2]!
      have hwi2 := wrap_succ (i := i2) (by omega)
      obtain ⟨jm2, hjm2⟩ : ∃ x, x = j2 - 1 := ⟨_, rfl⟩
      have hwj2 : IntKind.i64.wrap ((j2 : Int) - 1) = (jm2 : Int) := by rw [wrap_in (by omega)]; omega
      simp -implicitDefEqProofs [go_sem, h10', h10'', h11', hh5, hf5.t, hf5.m, hf4.t, hf4.m, hf3.t, hf3.m]
      refine iwp_drawn_of mixed [0,1,2,3,4,5,6,7,8,9,10,11,12,13,14,15] (by kernel_rfl) ?_
      simp -implicitDefEqProofs [go_sem, h10', h10'', h11', hh5, hf5.t, hf5.m, hf4.t, hf4.m, hf3.t, hf3.m, hgi2, hgj2, hli2, hlj2, hr4, SH_at, hwi2, hwj2, hfb]
      refine hJ3 _ ⟨i2 + 1, jm2, swp d1 i2 j2, by omega, by omega, by omega, by rw [swp_size, hd1], by simp -implicitDefEqProofs [go_sem, hwi2], by simp -implicitDefEqProofs [go_sem, hwj2], by rw [hjm2]; exact hfin3, by simp -implicitDefEqProofs [go_sem, hh5]; exact SH_swp _ _ _ _ _ _ _⟩ (by simp [go_sem, h10, h11, hwi2, hwj2]; omega)
  rintro s3 hf3 ⟨h9, hR2, hh3⟩
  simp -implicitDefEqProofs [go_sem, h9, hh3, hf3.t, hf3.m]
  rw [hpart]
  exact ⟨_, Sub.refl _, rfl, rfl⟩
end Go.Proofs

set_option linter.unusedVariables false
set_option linter.unusedSimpArgs false
set_option pp.deepTerms false
set_option pp.maxSteps 400
namespace Go.Proofs
open Go.Idl
open Go.Sort (swp ltInt order2 median medianAdjacent choosePivot)

theorem upd_self {h : Heap} {q : Nat} {o : IObj} (hq : h q = some o) : upd h q (some o) = h := by
  funext j; simp only [upd]; split
  · rename_i e; rw [e, hq]
  · rfl
theorem upd_upd2 (h : Heap) (q : Nat) (x y : Option IObj) : upd (upd h q x) q y = upd h q y := by funext j; simp only [upd]; split <;> rfl

def swC (s : Nat) : IObj := .cells [.int .i64 s]

theorem order2_c (d : Array Int) (a b s bk cap q : Nat) (h : Heap) (hb : h bk = some (.arr 3 1 (rowsD d) cap)) (hq : h q = some (swC s)) (ha : a < d.size) (hb2 : b < d.size) (hs : s < 1000000) :
    ICall Tryz.prog 261 [.sl 1 bk 0 d.size cap, .int .i64 a, .int .i64 b, .ptr q 0] h
      (retP (.tup [.int .i64 (order2 ltInt d a b s).1, .int .i64 (order2 ltInt d a b s).2.1]) (upd h q (some (swC (order2 ltInt d a b s).2.2)))) := by
  obtain ⟨n, hn⟩ : ∃ n, n = d.size := ⟨_, rfl⟩
  rw [← hn] at ha hb2 ⊢
  have hq' : h q = some (.cells [.int .i64 s]) := hq
  have hw := wrap_succ (i := s) (by omega)
  have hga := rowsD_get (d := d) (i := a) (by omega)
  have hgb := rowsD_get (d := d) (i := b) (by omega)
  refine icall_of_iwp (fun _ => 0) Tryz.func261 rfl (by kernel_rfl) (Nat.le_of_ble_eq_true rfl) ?_
  rw [Tryz.results261]
  simp -implicitDefEqProofs [go_sem]
  refine iwp_drawn_of mixed [0,1,2,3,4,5,6,7,8] (by kernel_rfl) ?_
  simp -implicitDefEqProofs [go_sem, ha, hb2, hga, hgb, hb]
  refine ⟨_, less_c _ _ _, ?_⟩
  simp -implicitDefEqProofs [go_sem, ha, hb2, hga, hgb, hb]
  refine cK_any (fun k1 => ?_) (fun k1 => ?_) <;> simp -implicitDefEqProofs [go_sem, ha, hb2, hga, hgb, hb, hq', hw]
  · have e : order2 ltInt d a b s = (b, a, s + 1) := by rw [order2, if_pos k1]
    rw [e]
    exact ⟨_, Sub.refl _, rfl, by simp [swC]⟩
  · have e : order2 ltInt d a b s = (a, b, s) := by rw [order2, if_neg (by rw [k1]; simp)]
    rw [e]
    exact ⟨h, Sub.refl _, rfl, (upd_self hq).symm⟩

theorem order2_bd (d : Array Int) (a b s n : Nat) (ha : a < n) (hb : b < n) : (order2 ltInt d a b s).1 < n ∧ (order2 ltInt d a b s).2.1 < n ∧ (order2 ltInt d a b s).2.2 ≤ s + 1 := by
  rw [order2]; split <;> simp <;> omega

theorem median_bd (d : Array Int) (a b c s n : Nat) (ha : a < n) (hb : b < n) (hc : c < n) : (median ltInt d a b c s).1 < n ∧ (median ltInt d a b c s).2 ≤ s + 3 := by
  rw [median]
  have h1 := order2_bd d a b s n ha hb
  have h2 := order2_bd d (order2 ltInt d a b s).2.1 c (order2 ltInt d a b s).2.2 n h1.2.1 hc
  have h3 := order2_bd d (order2 ltInt d a b s).1 (order2 ltInt d (order2 ltInt d a b s).2.1 c (order2 ltInt d a b s).2.2).1 (order2 ltInt d (order2 ltInt d a b s).2.1 c (order2 ltInt d a b s).2.2).2.2 n h1.1 h2.1
  simp only
  exact ⟨h3.2.1, by omega⟩

theorem median_c (d : Array Int) (a b c s bk cap q : Nat) (h : Heap) (hb : h bk = some (.arr 3 1 (rowsD d) cap)) (hq : h q = some (swC s)) (ha : a < d.size) (hb2 : b < d.size) (hc : c < d.size) (hs : s < 10000) :
    ICall Tryz.prog 210 [.sl 1 bk 0 d.size cap, .int .i64 a, .int .i64 b, .int .i64 c, .ptr q 0] h
      (retP (.int .i64 (median ltInt d a b c s).1) (upd h q (some (swC (median ltInt d a b c s).2)))) := by
  have hne : bk ≠ q := by rintro rfl; rw [hb] at hq; cases hq
  have hbu : ∀ x, upd h q x bk = some (.arr 3 1 (rowsD d) cap) := fun x => by simp [upd, hne, hb]
  have hqu : ∀ x, upd h q (some x) q = some x := fun x => by simp [upd]
  obtain ⟨r1, hr1⟩ : ∃ r, r = order2 ltInt d a b s := ⟨_, rfl⟩
  obtain ⟨r2, hr2⟩ : ∃ r, r = order2 ltInt d r1.2.1 c r1.2.2 := ⟨_, rfl⟩
  obtain ⟨r3, hr3⟩ : ∃ r, r = order2 ltInt d r1.1 r2.1 r2.2.2 := ⟨_, rfl⟩
  have hm : median ltInt d a b c s = (r3.2.1, r3.2.2) := by rw [median, hr3, hr2, hr1]
  have b1 := order2_bd d a b s d.size ha hb2
  rw [← hr1] at b1
  have b2 := order2_bd d r1.2.1 c r1.2.2 d.size b1.2.1 hc
  rw [← hr2] at b2
  have b3 := order2_bd d r1.1 r2.1 r2.2.2 d.size b1.1 b2.1
  rw [← hr3] at b3
  have c1 := order2_c d a b s bk cap q h hb hq ha hb2 (by omega)
  rw [← hr1] at c1
  have c2 := order2_c d r1.2.1 c r1.2.2 bk cap q (upd h q (some (swC r1.2.2))) (hbu _) (hqu _) b1.2.1 hc (by omega)
  rw [← hr2, upd_upd2] at c2
  have c3 := order2_c d r1.1 r2.1 r2.2.2 bk cap q (upd h q (some (swC r2.2.2))) (hbu _) (hqu _) b1.1 b2.1 (by omega)
  rw [← hr3, upd_upd2] at c3
  refine icall_of_iwp (fun _ => 0) Tryz.func210 rfl (by kernel_rfl) (Nat.le_of_ble_eq_true rfl) ?_
  rw [Tryz.results210]
  simp -implicitDefEqProofs [go_sem]
  refine c1.mono ?_
  rintro e h' ⟨rfl, he⟩
  rw [he]
  simp -implicitDefEqProofs [go_sem]
  refine c2.mono ?_
  rintro e h' ⟨rfl, he⟩
  rw [he]
  simp -implicitDefEqProofs [go_sem]
  refine c3.mono ?_
  rintro e h' ⟨rfl, he⟩
  rw [he]
  simp -implicitDefEqProofs [go_sem]
  exact ⟨_, Sub.refl _, by rw [hm], by rw [hm]⟩

theorem medAdj_c (d : Array Int) (a s bk cap q : Nat) (h : Heap) (hb : h bk = some (.arr 3 1 (rowsD d) cap)) (hq : h q = some (swC s)) (ha0 : 1 ≤ a) (ha : a + 1 < d.size) (hs : s < 10000) (hsz : d.size < 10000000000) :
    ICall Tryz.prog 209 [.sl 1 bk 0 d.size cap, .int .i64 a, .ptr q 0] h
      (retP (.int .i64 (medianAdjacent ltInt d a s).1) (upd h q (some (swC (medianAdjacent ltInt d a s).2)))) := by
  obtain ⟨p, hp⟩ : ∃ x, x = a - 1 := ⟨_, rfl⟩
  have hw1 : IntKind.i64.wrap ((a : Int) - 1) = (p : Int) := by rw [wrap_in (by omega)]; omega
  obtain ⟨k, hk⟩ : ∃ x, x = a + 1 := ⟨_, rfl⟩
  have hw2 : IntKind.i64.wrap ((a : Int) + 1) = (k : Int) := by rw [wrap_in (by omega)]; omega
  have hm : medianAdjacent ltInt d a s = median ltInt d p a k s := by rw [medianAdjacent, hp, hk]
  refine icall_of_iwp (fun _ => 0) Tryz.func209 rfl (by kernel_rfl) (Nat.le_of_ble_eq_true rfl) ?_
  rw [Tryz.results209]
  simp -implicitDefEqProofs [go_sem, hw1, hw2]
  refine (median_c d p a k s bk cap q h hb hq (by omega) (by omega) (by omega) hs).mono ?_
  rintro e h' ⟨rfl, he⟩
  rw [he]
  simp -implicitDefEqProofs [go_sem]
  exact ⟨_, Sub.refl _, by rw [hm], by rw [hm]⟩
end Go.Proofs
