/- This text is a part of the proofs of the statements of this seat: the ideal states and their rules, or what one of the functions that the statements reach comes to. Conditions: none beyond those that each theorem names. -/
import Derived.Test.YtiloboepepdcgaaC17
set_option linter.unusedVariables false
set_option linter.unusedSimpArgs false
set_option pp.deepTerms false
set_option pp.maxSteps 400
namespace Go.Proofs
open Go.Idl

def checkR (b : Bool) (h : Heap) (e : IEnd) (h' : Heap) : Prop := h' = h ∧ if b = true then e = .ret .niliface else ∃ t x, e = .ret (.iface t x)

set_option maxRecDepth 20000 in
theorem tcheck_c (c : Cel) (h : Heap) (hs : c.size < 100000000000) : ICall Try.prog 110 [.agg c.row] h (checkR c.tiles h) := by
  have htf := tiles_fold c
  refine icall_of_iwp (fun d => if d = 5 then 1 else 0) Try.func110 rfl (by kernel_rfl) (Nat.le_of_ble_eq_true rfl) ?_
  rw [Try.results110]
  simp -implicitDefEqProofs [go_sem]
  intro b hb
  refine (cMay_c c _ hs).mono ?_
  rintro e h' ⟨rfl, he⟩
  rw [he]
  simp -implicitDefEqProofs [go_sem]
  refine cK_any (fun hm => ?_) (fun hm => ?_) <;> simp -implicitDefEqProofs [go_sem]
  · have hti : c.tiles = false := by rw [htf]; simp at hm; simp [hm]
    refine (faultNew_c 1 0 (by omega) _).mono ?_
    rintro e h' ⟨rfl, t, x, rfl⟩
    simp -implicitDefEqProofs [go_sem]
    refine (faultIn_c t x _ rfl _).mono ?_
    rintro e h' ⟨rfl, t', x', rfl⟩
    simp -implicitDefEqProofs [go_sem]
    exact ⟨h, (Sub.refl _).upd hb _, rfl, by rw [hti]; exact ⟨_, _, rfl⟩⟩
  · have hm' : c.may = true := by simpa using hm
    rw [hm', Bool.true_and] at htf
    have hmb := hm'
    rw [Cel.may, decide_eq_true_eq] at hmb
    have hH : upd h b (some (.cells [.int .i64 0, .list .tight []])) = Wk.at' b ⟨0, none, []⟩ h := by funext j; simp only [Wk.at', Wk.b1, Wk.v]
    rw [hH]
    refine (walk_c b c ⟨0, none, []⟩ h ⟨hb, rfl⟩ (by simpa using hs) (fun d hd => by have := (hmb.2.1 d hd).2; omega)).mono ?_
    intro e h' he
    simp only at he
    cases hf : c.all.foldlM oneStep [] with
    | none =>
      rw [hf] at he htf
      obtain ⟨rfl, s', hg, rfl⟩ := he
      have hti : c.tiles = false := by rw [htf]; rfl
      have hwb := s'.at_wb b h
      simp -implicitDefEqProofs [go_sem, hwb]
      refine (faultNew_c 5 _ (by omega) _).mono ?_
      rintro e h' ⟨rfl, t, x, rfl⟩
      simp -implicitDefEqProofs [go_sem]
      refine (faultIn_c t x _ rfl _).mono ?_
      rintro e h' ⟨rfl, t', x', rfl⟩
      simp -implicitDefEqProofs [go_sem]
      refine ⟨h, ?_, rfl, by rw [hti]; exact ⟨_, _, rfl⟩⟩
      intro b' o hb'
      obtain ⟨num, lk, ls⟩ := s'
      have h1 : b' ≠ b := by rintro rfl; rw [hb] at hb'; cases hb'
      cases lk with
      | none => simpa [Wk.at', Wk.b1, upd, h1] using hb'
      | some p =>
        have h2 : b' ≠ p.1 := by rintro rfl; have := hg.2.2.1; rw [this] at hb'; cases hb'
        simpa [Wk.at', Wk.b1, upd, h1, h2] using hb'
    | some ls' =>
      rw [hf] at he htf
      obtain ⟨rfl, s', _, hg, rfl⟩ := he
      have hti : c.tiles = true := by rw [htf]; rfl
      simp -implicitDefEqProofs [go_sem]
      refine ⟨h, ?_, rfl, by rw [hti]; rfl⟩
      intro b' o hb'
      obtain ⟨num, lk, ls⟩ := s'
      have h1 : b' ≠ b := by rintro rfl; rw [hb] at hb'; cases hb'
      cases lk with
      | none => simpa [Wk.at', Wk.b1, upd, h1] using hb'
      | some p =>
        have h2 : b' ≠ p.1 := by rintro rfl; have := hg.2.2.1; rw [this] at hb'; cases hb'
        simpa [Wk.at', Wk.b1, upd, h1, h2] using hb'

theorem tTiles1_c (c : Cel) (h : Heap) (hs : c.size < 100000000000) : ICall Try.prog 109 [.agg c.row] h (retP (.bool (!c.tiles)) h) := by
  refine icall_of_iwp (fun _ => 0) Try.func109 rfl (by kernel_rfl) (Nat.le_of_ble_eq_true rfl) ?_
  rw [Try.results109]
  simp -implicitDefEqProofs [go_sem]
  refine (tcheck_c c h hs).mono ?_
  rintro e h' ⟨rfl, he⟩
  cases ht : c.tiles with
  | true =>
    rw [ht, if_pos rfl] at he
    subst he
    simp -implicitDefEqProofs [go_sem]
    exact ⟨_, Sub.refl _, rfl, rfl⟩
  | false =>
    rw [ht, if_neg (by simp)] at he
    obtain ⟨t, x, rfl⟩ := he
    simp -implicitDefEqProofs [go_sem]
    exact ⟨_, Sub.refl _, rfl, rfl⟩

theorem tTiles_c (c : Cel) (h : Heap) (hs : c.size < 100000000000) : ICall Try.prog 86 [.list .plain [c.row]] h (retP (.bool c.tiles) h) := by
  refine icall_of_iwp (fun _ => 0) Try.func86 rfl (by kernel_rfl) (Nat.le_of_ble_eq_true rfl) ?_
  rw [Try.results86]
  simp -implicitDefEqProofs [go_sem]
  have hn := containsFunc_cel (l := [c]) (f := 109) (first := []) (cap := []) (Inv := fun i h' => h' = h ∧ (i = 1 → c.tiles = true)) (Hit := fun i h' => h' = h ∧ c.tiles = false) (by simp) (fun i hi h1 hh => by
    obtain ⟨rfl, _⟩ := hh
    obtain rfl : i = 0 := by simp at hi; exact hi
    refine (tTiles1_c c h1 hs).mono ?_
    rintro e h' ⟨rfl, rfl⟩
    cases hb : c.tiles with
    | false => exact .inr ⟨rfl, rfl, rfl⟩
    | true => exact .inl ⟨rfl, rfl, fun _ => rfl⟩) h ⟨rfl, fun h => by cases h⟩
  simp only [List.map_cons, List.map_nil] at hn
  refine hn.mono ?_
  rintro e h' (⟨rfl, rfl, hm⟩ | ⟨i, hi, rfl, rfl, hm⟩)
  · simp -implicitDefEqProofs [go_sem]
    exact ⟨h', Sub.refl _, by rw [hm rfl], rfl⟩
  · simp -implicitDefEqProofs [go_sem]
    exact ⟨h', Sub.refl _, by rw [hm], rfl⟩

/-- the leaves' numbers of some trees -/
def idsL (l : List Cel) : List Int := ((Cel.alls l).filter fun d => d.kind == 1).map Cel.id
theorem ids_eq (c : Cel) : c.ids = (if c.kind = 1 then [c.id] else []) ++ idsL c.kids := by
  rw [Cel.ids, Cel.leaves, c.all_eq, idsL, List.filter_cons]
  by_cases hk : c.kind = 1
  · simp [hk]
  · simp [hk]
theorem idsL_take (l : List Cel) (i : Nat) (h : i < l.length) : idsL (l.take (i + 1)) = idsL (l.take i) ++ l[i].ids := by
  rw [idsL, Cel.alls_take l i h, List.filter_append, List.map_append]; rfl
theorem idsL_len (l : List Cel) : (idsL l).length ≤ Cel.sizes l := by
  rw [idsL, List.length_map, ← Cel.alls_length]; exact List.length_filter_le _ _

set_option maxRecDepth 20000 in
set_option maxHeartbeats 4000000 in
theorem leavesL_c (l : List Cel) (hs : Cel.sizes l < 100000000000) (ih : ∀ c ∈ l, ∀ h, ICall Try.prog 87 [.list .plain (c.kids.map Cel.row)] h (retP (.list .plain ((idsL c.kids).map intRow)) h)) (h : Heap) :
    ICall Try.prog 87 [.list .plain (l.map Cel.row)] h (retP (.list .plain ((idsL l).map intRow)) h) := by
  have hlen := Cel.len_le l
  refine icall_of_iwp (fun _ => 0) Try.func87 rfl (by kernel_rfl) (Nat.le_of_ble_eq_true rfl) ?_
  rw [Try.results87]
  simp -implicitDefEqProofs [go_sem]
  refine iwp_loopF (rng [3,5] 8 25) (fun k => k == 5) (fun s => ∃ i, i ≤ l.length ∧ s.t 8 = .int .i64 i ∧ Own [19, 24] s.x 3 (s.t 3) ((idsL (l.take i)).map intRow) ∧ s.h = h) (fun s => l.length - tn (s.t 8)) ?_ ?_
  · exact ⟨0, Nat.zero_le _, by simp -implicitDefEqProofs [go_sem], by simp -implicitDefEqProofs [go_sem, Own.tight, idsL, Cel.alls], by simp -implicitDefEqProofs [go_sem]⟩
  rintro J s hJ hf ⟨i, hi, h8, ho, hh⟩
  obtain ⟨tk, h3⟩ := ho.list
  simp -implicitDefEqProofs [go_sem, h8, h3, hh, hf.t, hf.m]
  refine cK_dec (fun hlt => ?_) (fun hge => ?_)
  · have hg : l[i]? = some l[i] := List.getElem?_eq_getElem hlt
    have hw := wrap_succ (i := i) (by omega)
    have hst := Cel.sizes_take l i hlt
    have hle := Cel.sizes_le l (i + 1)
    have hl1 := idsL_len (l.take i)
    have hl2 := idsL_len (l[i].kids)
    have hsz := l[i].size_eq
    have htk := idsL_take l i hlt
    rw [ids_eq] at htk
    simp -implicitDefEqProofs [go_sem, h8, h3, hh, hf.t, hf.m, hlt, hg]
    refine cK_beq (fun hk => ?_) (fun hk => ?_)
    · simp -implicitDefEqProofs [go_sem, h8, h3, hh, hf.t, hf.m, hlt, hg]
      refine aK_own (z := 1) (S := [19, 24]) (rows := (idsL (l.take i)).map intRow) (by simpa -implicitDefEqProofs [go_sem, h3] using ho) (by simp) elT_45 elZ_3 (by simp [roomy, byT_3]; omega) (ints_uni _) (by simp [uni]) ?_
      intro r' x' ho' _
      simp -implicitDefEqProofs [go_sem, h8, h3, hh, hf.t, hf.m, hf, hw]
      refine (ih _ (List.getElem_mem hlt) h).mono ?_
      rintro e h' ⟨rfl, he⟩
      rw [he]
      simp -implicitDefEqProofs [go_sem, h8, h3, hh, hf.t, hf.m, hf, hw]
      refine aK_own (z := 1) (S := [19, 24]) (rows := (idsL (l.take i) ++ [l[i].id]).map intRow) (by rw [List.map_append]; exact ho') (by simp) elT_45 elZ_3 (by simp [roomy, byT_3]; omega) (ints_uni _) (ints_uni _) ?_
      intro r2 x2 ho2 _
      simp -implicitDefEqProofs [go_sem, h8, h3, hh, hf.t, hf.m, hf, hw]
      exact hJ _ ⟨i + 1, by omega, by simp -implicitDefEqProofs [go_sem, hw], by rw [htk, if_pos hk, ← List.append_assoc, List.map_append]; simpa -implicitDefEqProofs [go_sem] using ho2, by simp -implicitDefEqProofs [go_sem, hh]⟩ (by simp [go_sem, h8, hw]; omega)
    · simp -implicitDefEqProofs [go_sem, h8, h3, hh, hf.t, hf.m, hlt, hg]
      refine (ih _ (List.getElem_mem hlt) h).mono ?_
      rintro e h' ⟨rfl, he⟩
      rw [he]
      simp -implicitDefEqProofs [go_sem, h8, h3, hh, hf.t, hf.m, hf, hw]
      refine aK_own (z := 1) (S := [19, 24]) (rows := (idsL (l.take i)).map intRow) (by simpa -implicitDefEqProofs [go_sem, h3] using ho) (by simp) elT_45 elZ_3 (by simp [roomy, byT_3]; omega) (ints_uni _) (ints_uni _) ?_
      intro r2 x2 ho2 _
      simp -implicitDefEqProofs [go_sem, h8, h3, hh, hf.t, hf.m, hf, hw]
      exact hJ _ ⟨i + 1, by omega, by simp -implicitDefEqProofs [go_sem, hw], by rw [htk, if_neg hk, List.nil_append, List.map_append]; simpa -implicitDefEqProofs [go_sem] using ho2, by simp -implicitDefEqProofs [go_sem, hh]⟩ (by simp [go_sem, h8, hw]; omega)
  · obtain rfl : i = l.length := by omega
    rw [List.take_length] at ho h3
    simp -implicitDefEqProofs [go_sem, h8, h3, hh, hf.t, hf.m]
    exact ⟨h, Sub.refl _, rfl, rfl⟩

theorem leavesK_c (c : Cel) : ∀ h, c.size < 100000000000 → ICall Try.prog 87 [.list .plain (c.kids.map Cel.row)] h (retP (.list .plain ((idsL c.kids).map intRow)) h) := by
  induction c using Cel.induct
  rename_i c ih
  intro h hs
  rw [c.size_eq] at hs
  exact leavesL_c c.kids (by omega) (fun d hd h => ih d hd h (by have := Cel.mem_le hd; omega)) h

theorem cLeaves_c (c : Cel) (h : Heap) (hs : c.size < 100000000000) : ICall Try.prog 87 [.list .plain [c.row]] h (retP (.list .plain (c.ids.map intRow)) h) := by
  have := leavesL_c [c] (by simpa [Cel.sizes] using hs) (fun d hd h => by simp at hd; subst hd; exact leavesK_c _ h hs) h
  have e : idsL [c] = c.ids := by simp [idsL, Cel.alls, Cel.ids, Cel.leaves]
  rw [e] at this
  exact this

def cloR (l : List Cel) (h : Heap) (e : IEnd) (h' : Heap) : Prop :=
    (l = [] ∧ retP (.list .plain []) h e h') ∨ (l ≠ [] ∧ ∃ b cap, h b = none ∧ l.length ≤ cap ∧ e = .ret (.sl 7 b 0 l.length cap) ∧ h' = upd h b (some (.arr 72 7 (l.map Cel.row) cap)))
set_option maxRecDepth 20000 in
theorem cloneCel_c (l : List Cel) (h : Heap) (hs : l.length < 100000000000) : ICall Try.prog 139 [.list .plain (l.map Cel.row)] h (cloR l h) := by
  refine icall_of_iwp (fun d => if d = 7 then 2 else 0) Try.func139 rfl (by kernel_rfl) (Nat.le_of_ble_eq_true rfl) ?_
  rw [Try.results139]
  simp -implicitDefEqProofs [go_sem]
  refine ⟨⟨by simp [roomy, byT_72]; omega, fun hl => ⟨h, Sub.refl _, .inl ⟨hl, rfl, rfl⟩⟩, fun hl b cap hb hcap => ⟨_, Sub.refl _, .inr ⟨hl, b, cap, hb, hcap, rfl, rfl⟩⟩⟩, fun hl => ⟨h, Sub.refl _, .inl ⟨hl, rfl, rfl⟩⟩⟩

@[go_sem] theorem Cel.withKids_kids (c : Cel) (ks : List Cel) : (c.withKids ks).kids = ks := rfl
theorem Cel.withKids_rowK (c : Cel) (ks : List Cel) (x : IV) : (c.withKids ks).rowK x = c.rowK x := by rw [Cel.rowK_eq, Cel.rowK_eq]; rfl
@[go_sem high] theorem Cel.put6s (c : Cel) (z b o n cap : Nat) : splice c.row 6 [.sl z b o n cap] = c.rowK (.sl z b o n cap) := by rw [c.row_eq, c.rowK_eq]; rfl
@[go_sem high] theorem Cel.rowK_strC_sl (c : Cel) (z b o n cap : Nat) : (c.rowK (.sl z b o n cap)).map strC = c.rowK (.sl z b o n cap) := by rw [c.rowK_eq]; rfl
@[go_sem high] theorem Cel.rowK_strip_sl (c : Cel) (z b o n cap : Nat) : (c.rowK (.sl z b o n cap)).map strip = c.rowK (.sl z b o n cap) := by rw [c.rowK_eq]; rfl
theorem Cel.rowK_fz (c : Cel) (b : Nat) (ks : List Cel) (cap : Nat) : (c.rowK (.sl 7 b 0 ks.length cap)).map (fz1 b 7 (ks.map Cel.row)) = (c.withKids ks).row := by
  rw [c.rowK_eq, (c.withKids ks).row_eq]
  simp [fz1, Cel.withKids, Cel.kind, Cel.r, Cel.id, Cel.kids]
  rw [List.take_of_length_le (by simp)]

theorem set_mid {α : Type} (A B : List α) (x y : α) : (A ++ x :: B).set A.length y = A ++ y :: B := by
  induction A with
  | nil => rfl
  | cons a A ih => simp [ih]
end Go.Proofs
