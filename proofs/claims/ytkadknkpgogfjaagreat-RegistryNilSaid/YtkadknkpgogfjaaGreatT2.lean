/- This text is a part of the proofs of the statements of this seat: the ideal states and their rules, or what one of the functions that the statements reach comes to. Conditions: none beyond those that each theorem names. -/
import Derived.Test.YtkadknkpgogfjaaGreatT1
set_option linter.unusedVariables false
set_option linter.unusedSimpArgs false
set_option pp.deepTerms false
set_option pp.maxSteps 400
namespace Go.Proofs
open Go.Idl

set_option maxRecDepth 20000 in
set_option maxHeartbeats 4000000 in
theorem tcut_c (c : Cel) (h : Heap) (hs : c.kids.length < 100000000000) (hk1 : 2 ≤ c.kind) (hk3 : c.kind ≤ 3) : ICall Tryz.prog 166 [.agg c.row] h (retP (cutV (cutS c.r (c.kind - 1) c.szs)) h) := by
  refine icall_of_iwp (fun _ => 0) Tryz.func166 rfl (by kernel_rfl) (Nat.le_of_ble_eq_true rfl) ?_
  rw [Tryz.results166]
  simp -implicitDefEqProofs [go_sem]
  refine iwp_loopF (rng [5,7] 11 30) (fun k => k == 7) (fun s => ∃ i, i ≤ c.kids.length ∧ s.t 11 = .int .i64 i ∧ Own [23, 29] s.x 3 (s.t 5) ((c.szs.map intRow).take i) ∧ s.h = h) (fun s => c.kids.length - tn (s.t 11)) ?_ ?_
  · exact ⟨0, Nat.zero_le _, by simp -implicitDefEqProofs [go_sem], by simp -implicitDefEqProofs [go_sem, Own.tight], by simp -implicitDefEqProofs [go_sem]⟩
  rintro J s hJ hf ⟨i, hi, h11, ho, hh⟩
  obtain ⟨tk, h5⟩ := ho.list
  simp -implicitDefEqProofs [go_sem, h11, h5, hh, hf.t, hf.m]
  refine cK_dec (fun hlt => ?_) (fun hge => ?_)
  · have hg : c.kids[i]? = some c.kids[i] := List.getElem?_eq_getElem hlt
    have hw := wrap_succ (i := i) (by omega)
    have e1 : (c.szs.map intRow).take (i + 1) = (c.szs.map intRow).take i ++ [[.int .i64 (c.sz c.kids[i])]] := by
      rw [List.take_add_one]; simp [Cel.szs, hg, intRow]
    simp -implicitDefEqProofs [go_sem, h11, h5, hh, hf.t, hf.m, hlt, hg]
    refine cK_beq (fun hk => ?_) (fun hk => ?_)
    · simp -implicitDefEqProofs [go_sem, h11, h5, hh, hf.t, hf.m, hlt, hg]
      refine aK_own (z := 1) (S := [23, 29]) (by simpa -implicitDefEqProofs [go_sem, h5] using ho) (by simp) elT_22 elZ_3 (by simp [roomy, byT_3]; omega) (uni_take (ints_uni _) i) (by simp [uni]) ?_
      intro r' x' ho' _
      simp -implicitDefEqProofs [go_sem, h11, h5, hh, hf.t, hf.m, hf, hw]
      exact hJ _ ⟨i + 1, by omega, by simp -implicitDefEqProofs [go_sem, hw], by rw [e1, Cel.sz, if_pos hk]; simpa -implicitDefEqProofs [go_sem] using ho', by simp -implicitDefEqProofs [go_sem, hh]⟩ (by simp [go_sem, h11, hw]; omega)
    · simp -implicitDefEqProofs [go_sem, h11, h5, hh, hf.t, hf.m, hlt, hg]
      refine aK_own (z := 1) (S := [23, 29]) (by simpa -implicitDefEqProofs [go_sem, h5] using ho) (by simp) elT_22 elZ_3 (by simp [roomy, byT_3]; omega) (uni_take (ints_uni _) i) (by simp [uni]) ?_
      intro r' x' ho' _
      simp -implicitDefEqProofs [go_sem, h11, h5, hh, hf.t, hf.m, hf, hw]
      exact hJ _ ⟨i + 1, by omega, by simp -implicitDefEqProofs [go_sem, hw], by rw [e1, Cel.sz, if_neg hk]; simpa -implicitDefEqProofs [go_sem] using ho', by simp -implicitDefEqProofs [go_sem, hh]⟩ (by simp [go_sem, h11, hw]; omega)
  · have hw2 : IntKind.u8.wrap (c.kind - 2) = c.kind - 2 := wrap_u8 (by omega)
    have hw3 : IntKind.u8.wrap (c.kind - 2 + 1) = c.kind - 1 := by rw [wrap_u8 (by omega)]; omega
    rw [List.take_of_length_le (by simp [Cel.szs]; omega)] at ho h5
    simp -implicitDefEqProofs [go_sem, h11, h5, hh, hf.t, hf.m, hw2, hw3]
    refine (rCut_c c.r (c.kind - 1) c.szs h (by simp [Cel.szs]; exact hs)).mono ?_
    rintro e h' ⟨rfl, he⟩
    rw [he]
    cases hcut : cutS c.r (c.kind - 1) c.szs with
    | none =>
      simp -implicitDefEqProofs [go_sem, cutV]
      exact ⟨_, Sub.refl _, rfl, rfl⟩
    | some p =>
      obtain ⟨ps, ls⟩ := p
      simp -implicitDefEqProofs [go_sem, cutV]
      exact ⟨_, Sub.refl _, rfl, rfl⟩

theorem lines1_c (c : Cel) (r : Rct) (h : Heap) : ICall Tryz.prog 168 [.agg c.row, .agg r.row] h (retP (.bool (decide (c.r = r))) h) := by
  refine icall_of_iwp (fun _ => 0) Tryz.func168 rfl (by kernel_rfl) (Nat.le_of_ble_eq_true rfl) ?_
  rw [Tryz.results168]
  simp -implicitDefEqProofs [go_sem]
  exact ⟨h, Sub.refl _, rfl, rfl⟩

set_option maxRecDepth 20000 in
set_option maxHeartbeats 4000000 in
theorem equalFunc_c (l : List Cel) (ps : List Rct) (h : Heap) (hs : l.length < 100000000000) :
    ICall Tryz.prog 167 [.list .plain (l.map Cel.row), .list .plain (ps.map Rct.row), .fn (.func 168) [] []] h (retP (.bool (decide (ps = l.map Cel.r))) h) := by
  refine icall_of_iwp (fun _ => 0) Tryz.func167 rfl (by kernel_rfl) (Nat.le_of_ble_eq_true rfl) ?_
  rw [Tryz.results167]
  simp -implicitDefEqProofs [go_sem]
  refine cK_bne (fun h1 => ?_) (fun h1 => ?_) <;> simp -implicitDefEqProofs [go_sem]
  · exact ⟨h, Sub.refl _, by rw [decide_eq_false (fun e => by rw [e] at h1; simp at h1)], rfl⟩
  have hlen : l.length = ps.length := by omega
  refine iwp_loopF (rng [6,7,8,9] 17 31) (fun k => k == 8 || k == 9) (fun s => ∃ i, i ≤ l.length ∧ s.t 17 = .int .i64 i ∧ ps.take i = (l.map Cel.r).take i ∧ s.h = h) (fun s => l.length - tn (s.t 17)) ?_ ?_
  · exact ⟨0, Nat.zero_le _, by simp -implicitDefEqProofs [go_sem], by simp, by simp -implicitDefEqProofs [go_sem]⟩
  rintro J s hJ hf ⟨i, hi, h17, heq, hh⟩
  simp -implicitDefEqProofs [go_sem, h17, hh, hf.t, hf.m]
  refine cK_dec (fun hlt => ?_) (fun hge => ?_)
  · have hg : l[i]? = some l[i] := List.getElem?_eq_getElem hlt
    have hlt2 : i < ps.length := by omega
    have hg2 : ps[i]? = some ps[i] := List.getElem?_eq_getElem hlt2
    have hw := wrap_succ (i := i) (by omega)
    simp -implicitDefEqProofs [go_sem, h17, hh, hf.t, hf.m, hlt, hg, hlt2, hg2]
    refine (lines1_c l[i] ps[i] h).mono ?_
    rintro e h' ⟨rfl, he⟩
    rw [he]
    simp -implicitDefEqProofs [go_sem, h17, hh, hf.t, hf.m, hlt, hg, hlt2, hg2]
    refine cK_any (fun k1 => ?_) (fun k1 => ?_) <;> simp -implicitDefEqProofs [go_sem, h17, hh, hf.t, hf.m, hf, hw]
    · refine ⟨h, Sub.refl _, ?_, rfl⟩
      rw [decide_eq_false]
      intro e
      have : ps[i] = l[i].r := by simp [e]
      simp [this] at k1
    · refine hJ _ ⟨i + 1, by omega, by simp -implicitDefEqProofs [go_sem, hw], ?_, by simp -implicitDefEqProofs [go_sem, hh]⟩ (by simp [go_sem, h17, hw]; omega)
      have k2 : l[i].r = ps[i] := by simpa using k1
      rw [List.take_add_one, List.take_add_one, heq, hg2]
      simp [hg, k2]
  · simp -implicitDefEqProofs [go_sem, h17, hh, hf.t, hf.m]
    refine ⟨h, Sub.refl _, ?_, rfl⟩
    rw [List.take_of_length_le (by omega), List.take_of_length_le (by simp; omega)] at heq
    rw [decide_eq_true heq]

def lnsR (o : Option (List Rct)) (h : Heap) (e : IEnd) (h' : Heap) : Prop :=
  h' = h ∧ match o with
  | some ls => e = .ret (.tup [.list .plain (ls.map Rct.row), .bool true])
  | none => ∃ l', e = .ret (.tup [.list .plain l', .bool false])

theorem lines_c (c : Cel) (h : Heap) (hs : c.kids.length < 100000000000) (hk1 : 1 ≤ c.kind) (hk3 : c.kind ≤ 3) : ICall Tryz.prog 156 [.agg c.row] h (lnsR c.one h) := by
  refine icall_of_iwp (fun _ => 0) Tryz.func156 rfl (by kernel_rfl) (Nat.le_of_ble_eq_true rfl) ?_
  rw [Tryz.results156]
  simp -implicitDefEqProofs [go_sem]
  refine cK_beq (fun hk => ?_) (fun hk => ?_) <;> simp -implicitDefEqProofs [go_sem]
  · exact ⟨h, Sub.refl _, rfl, by rw [Cel.one, if_pos hk]; rfl⟩
  refine (tcut_c c h hs (by omega) hk3).mono ?_
  rintro e h' ⟨rfl, he⟩
  rw [he]
  cases hcut : cutS c.r (c.kind - 1) c.szs with
  | none =>
    simp -implicitDefEqProofs [go_sem, cutV]
    exact ⟨h, Sub.refl _, rfl, by rw [show c.one = none by rw [Cel.one, if_neg hk, hcut]]; exact ⟨_, rfl⟩⟩
  | some p =>
    obtain ⟨ps, ls⟩ := p
    have hone : c.one = if ps = c.kids.map Cel.r then some ls else none := by rw [Cel.one, if_neg hk, hcut]
    simp -implicitDefEqProofs [go_sem, cutV]
    refine (equalFunc_c c.kids ps h hs).mono ?_
    rintro e h' ⟨rfl, he⟩
    rw [he]
    simp -implicitDefEqProofs [go_sem]
    refine ⟨h, Sub.refl _, rfl, ?_⟩
    by_cases hps : ps = c.kids.map Cel.r
    · rw [hone, if_pos hps, decide_eq_true hps]
    · rw [hone, if_neg hps, decide_eq_false hps]; exact ⟨_, rfl⟩

/-! faults -/
def someE (h : Heap) (e : IEnd) (h' : Heap) : Prop := h' = h ∧ ∃ t x, e = .ret (.iface t x)

theorem faultNew_c (n k : Int) (hn : n ≠ 0) (h : Heap) : ICall Tryz.prog 135 [.int .i64 n, .int .i64 k] h (someE h) := by
  refine icall_of_iwp (fun d => if d = 10 then 1 else 0) Tryz.func135 rfl (by kernel_rfl) (Nat.le_of_ble_eq_true rfl) ?_
  rw [Tryz.results135]
  have hb : (n == 0) = false := by simpa using hn
  simp -implicitDefEqProofs [go_sem, hb]
  intro b hb
  exact ⟨h, (Sub.refl _).upd hb _, rfl, _, _, rfl⟩
set_option maxRecDepth 20000 in
theorem cloneStr_c (s : ByteArray) (h : Heap) : ICall Tryz.prog 155 [.list .plain [[.str s]]] h (retP (.list .plain [[.str s]]) h) := by
  refine icall_of_iwp (fun _ => 0) Tryz.func155 rfl (by kernel_rfl) (Nat.le_of_ble_eq_true rfl) ?_
  rw [Tryz.results155]
  simp -implicitDefEqProofs [go_sem]
  refine aK_own (z := 1) (S := [7]) Own.tight (by simp) elT_220 elZ_9 (by simp [roomy, byT_9]) (by simp [uni]) (by simp [uni]) ?_
  intro v x' ho _
  simp -implicitDefEqProofs [go_sem, ho.strip]
  exact ⟨h, Sub.refl _, rfl, rfl⟩
set_option maxRecDepth 20000 in
theorem faultIn_c (t : TypeId) (x : IV) (s : ByteArray) (hx : okV (.iface t x) = true) (h : Heap) : ICall Tryz.prog 134 [.iface t x, .list .plain [[.str s]]] h (someE h) := by
  refine icall_of_iwp (fun d => if d = 17 then 1 else 0) Tryz.func134 rfl (by kernel_rfl) (Nat.le_of_ble_eq_true rfl) ?_
  rw [Tryz.results134]
  simp -implicitDefEqProofs [go_sem]
  refine (cloneStr_c s h).mono ?_
  rintro e h' ⟨rfl, he⟩
  rw [he]
  simp -implicitDefEqProofs [go_sem]
  intro b hb
  exact ⟨h, (Sub.refl _).upd hb _, rfl, _, _, rfl⟩
end Go.Proofs

set_option linter.unusedVariables false
set_option linter.unusedSimpArgs false
set_option pp.deepTerms false
set_option pp.maxSteps 400
namespace Go.Proofs
open Go.Idl

def oneStep (ls : List Rct) (d : Cel) : Option (List Rct) := d.one.map (ls ++ ·)

theorem fold_len (c : Cel) : ∀ ls ls', c.all.foldlM oneStep ls = some ls' → ls'.length + 1 ≤ ls.length + c.size :=
  Cel.rec (motive_1 := fun c => ∀ ls ls', c.all.foldlM oneStep ls = some ls' → ls'.length + 1 ≤ ls.length + c.size)
    (motive_2 := fun l => ∀ ls ls', (Cel.alls l).foldlM oneStep ls = some ls' → ls'.length + l.length ≤ ls.length + Cel.sizes l)
    (fun k r id kids ih ls ls' h => by
      rw [Cel.all_eq, List.foldlM_cons] at h
      cases ho : (Cel.mk k r id kids).one with
      | none => rw [oneStep, ho] at h; cases h
      | some l1 =>
        rw [oneStep, ho] at h
        have h1 := ih _ _ h
        have h2 := one_len ho
        rw [Cel.size_eq]
        simp only [Cel.kids, List.length_append] at h1 h2 ⊢
        omega)
    (fun ls ls' h => by simp [Cel.alls] at h; subst h; simp [Cel.sizes])
    (fun c cs h1 h2 ls ls' h => by
      rw [Cel.alls, List.foldlM_append] at h
      cases hc : c.all.foldlM oneStep ls with
      | none => rw [hc] at h; cases h
      | some l1 =>
        rw [hc] at h
        have k1 := h1 _ _ hc
        have k2 := h2 _ _ h
        simp only [List.length_cons, Cel.sizes]; omega) c

theorem chkL_fold (l : List Cel) : ∀ (i : Nat) (acc : List Rct), chkL l i acc = match l.foldlM oneStep acc with | some ls => (ls, 0, 0) | none => ([], 5, (chkL l i acc).2.2) := by
  induction l with
  | nil => intro i acc; rfl
  | cons d l ih =>
    intro i acc
    rw [chkL, List.foldlM_cons]
    cases ho : d.one with
    | none => simp [oneStep, ho]
    | some ls =>
      simp only [oneStep, ho, Option.map_some]
      exact ih _ _
theorem tiles_fold (c : Cel) : c.tiles = (c.may && (c.all.foldlM oneStep []).isSome) := by
  rw [Cel.tiles, Cel.check]
  cases hm : c.may with
  | false => rfl
  | true =>
    simp only [if_true, Bool.true_and]
    rw [chkL_fold]
    cases c.all.foldlM oneStep [] <;> rfl

/-- the walker, and its lines -/
structure Wk where
  num : Int
  lk : Option (Nat × Nat)
  ls : List Rct
def Wk.v (s : Wk) : IV := match s.lk with | none => .list .tight [] | some (b, cap) => .sl 4 b 0 s.ls.length cap
def Wk.b1 (s : Wk) (base : Heap) : Heap := match s.lk with | none => base | some (b, cap) => upd base b (some (.arr 38 4 (s.ls.map Rct.row) cap))
def Wk.at' (wb : Nat) (s : Wk) (base : Heap) : Heap := upd (s.b1 base) wb (some (.cells [.int .i64 s.num, s.v]))
def Wk.Good (wb : Nat) (s : Wk) (base : Heap) : Prop := base wb = none ∧ match s.lk with | none => s.ls = [] | some (b, cap) => b ≠ wb ∧ base b = none ∧ s.ls.length ≤ cap

def walkR (wb : Nat) (t : Bool) (r : Option (List Rct)) (base : Heap) (e : IEnd) (h' : Heap) : Prop :=
  match r with
  | some ls' => e = .ret (.bool t) ∧ ∃ s' : Wk, s'.ls = ls' ∧ s'.Good wb base ∧ h' = s'.at' wb base
  | none => e = .ret (.bool !t) ∧ ∃ s' : Wk, s'.Good wb base ∧ h' = s'.at' wb base

theorem Wk.at_wb (wb : Nat) (s : Wk) (base : Heap) : s.at' wb base wb = some (.cells [.int .i64 s.num, s.v]) := by simp [Wk.at', upd]

theorem fold_len_alls : ∀ (l : List Cel) (ls ls' : List Rct), (Cel.alls l).foldlM oneStep ls = some ls' → ls'.length + l.length ≤ ls.length + Cel.sizes l
  | [], ls, ls', h => by simp [Cel.alls] at h; subst h; simp [Cel.sizes]
  | c :: cs, ls, ls', h => by
    rw [Cel.alls, List.foldlM_append] at h
    cases hc : c.all.foldlM oneStep ls with
    | none => rw [hc] at h; cases h
    | some l1 =>
      rw [hc] at h
      have k1 := fold_len c _ _ hc
      have k2 := fold_len_alls cs _ _ h
      simp only [List.length_cons, Cel.sizes]; omega

theorem Wk.at_q {wb qb : Nat} {s : Wk} {base : Heap} {o : IObj} (hg : s.Good wb base) (hq : base qb = some o) : s.at' wb base qb = some o := by
  have h1 : qb ≠ wb := by rintro rfl; rw [hg.1] at hq; cases hq
  obtain ⟨num, lk, ls⟩ := s
  cases lk with
  | none => simp [Wk.at', Wk.b1, upd, h1, hq]
  | some p =>
    obtain ⟨b, cap⟩ := p
    have h2 : qb ≠ b := by rintro rfl; have := hg.2.2.1; rw [this] at hq; cases hq
    simp [Wk.at', Wk.b1, upd, h1, h2, hq]
theorem Wk.sub {wb : Nat} (s : Wk) {base base' : Heap} (h : Sub base base') : Sub (s.at' wb base) (s.at' wb base') := by
  obtain ⟨num, lk, ls⟩ := s
  intro b o hb
  simp only [Wk.at', upd] at hb ⊢
  split at hb
  · rw [if_pos (by assumption)]; exact hb
  · rw [if_neg (by assumption)]
    cases lk with
    | none => exact h _ _ hb
    | some p =>
      simp only [Wk.b1, upd] at hb ⊢
      split at hb
      · rw [if_pos (by assumption)]; exact hb
      · rw [if_neg (by assumption)]; exact h _ _ hb
theorem sub_none {h h' : Heap} {b : Nat} (hs : Sub h h') (hn : h' b = none) : h b = none := by
  cases hb : h b with
  | none => rfl
  | some o => rw [hs _ _ hb] at hn; cases hn
theorem Wk.Good.of_sub {wb : Nat} {s : Wk} {base base' : Heap} (h : Sub base base') (hg : s.Good wb base') : s.Good wb base := by
  refine ⟨sub_none h hg.1, ?_⟩
  obtain ⟨num, lk, ls⟩ := s
  cases lk with
  | none => exact hg.2
  | some p => exact ⟨hg.2.1, sub_none h hg.2.2.1, hg.2.2.2⟩
theorem walkR_sub {wb : Nat} {t : Bool} {r : Option (List Rct)} {base base' : Heap} (h : Sub base base') {e : IEnd} {h' : Heap} (hr : walkR wb t r base' e h') : ∃ h2, Sub h2 h' ∧ walkR wb t r base e h2 := by
  cases r with
  | some ls' =>
    obtain ⟨rfl, s', h1, h2, rfl⟩ := hr
    exact ⟨s'.at' wb base, s'.sub h, rfl, s', h1, h2.of_sub h, rfl⟩
  | none =>
    obtain ⟨rfl, s', h2, rfl⟩ := hr
    exact ⟨s'.at' wb base, s'.sub h, rfl, s', h2.of_sub h, rfl⟩

theorem walk1_of {wb qb : Nat} {d : Cel} {s : Wk} {base : Heap} (hq : s.at' wb base qb = some (.cells [.ptr wb 0])) {r : Option (List Rct)}
    (ha : ICall Tryz.prog 136 [.ptr wb 0, .agg d.row] (s.at' wb base) (walkR wb true r base)) :
    ICall Tryz.prog 157 [.agg d.row, .ptr qb 0] (s.at' wb base) (walkR wb false r base) := by
  refine icall_of_iwp (fun _ => 0) Tryz.func157 rfl (by kernel_rfl) (Nat.le_of_ble_eq_true rfl) ?_
  rw [Tryz.results157]
  simp -implicitDefEqProofs [go_sem, hq]
  refine ha.mono ?_
  intro e h' he
  cases r with
  | some ls' =>
    obtain ⟨rfl, s', h1, h2, rfl⟩ := he
    simp -implicitDefEqProofs [go_sem]
    exact ⟨_, Sub.refl _, rfl, s', h1, h2, rfl⟩
  | none =>
    obtain ⟨rfl, s', h2, rfl⟩ := he
    simp -implicitDefEqProofs [go_sem]
    exact ⟨_, Sub.refl _, rfl, s', h2, rfl⟩

theorem sizes_rest (l : List Cel) (k : Nat) (h : k ≤ l.length) : Cel.sizes (l.take k) + (l.length - k) ≤ Cel.sizes l := by
  induction l generalizing k with
  | nil => simp [Cel.sizes]
  | cons c cs ih =>
    cases k with
    | zero => have := Cel.len_le (c :: cs); simp [Cel.sizes] at this ⊢; omega
    | succ k => have := ih k (by simpa using h); simp [Cel.sizes]; omega
theorem walkKids_c {wb qb : Nat} {l : List Cel} {base : Heap} (ih : ∀ d ∈ l, ∀ (s : Wk) (base : Heap), s.Good wb base → s.ls.length + d.size < 100000000000 → (∀ d' ∈ d.all, 1 ≤ d'.kind ∧ d'.kind ≤ 3) →
      ICall Tryz.prog 136 [.ptr wb 0, .agg d.row] (s.at' wb base) (walkR wb true (d.all.foldlM oneStep s.ls) base))
    (s : Wk) (hg : s.Good wb base) (hq : base qb = some (.cells [.ptr wb 0])) (hn : l.length < 100000000000) (hsz : s.ls.length + Cel.sizes l + 1 < 100000000000 + l.length) (hk : ∀ d ∈ l, ∀ d' ∈ d.all, 1 ≤ d'.kind ∧ d'.kind ≤ 3) :
    ICall Tryz.prog 110 [.list .plain (l.map Cel.row), .fn (.func 157) [] [.ptr qb 0]] (s.at' wb base) (walkR wb false ((Cel.alls l).foldlM oneStep s.ls) base) := by
  have hlen := Cel.len_le l
  refine (containsFunc_cel (Inv := fun i h => ∃ s2 : Wk, s2.Good wb base ∧ (Cel.alls (l.take i)).foldlM oneStep s.ls = some s2.ls ∧ h = s2.at' wb base)
    (Hit := fun i h => (Cel.alls l).foldlM oneStep s.ls = none ∧ ∃ s' : Wk, s'.Good wb base ∧ h = s'.at' wb base) (by omega) ?_ _ ⟨s, hg, by simp [Cel.alls], rfl⟩).mono ?_
  · rintro i hi h ⟨s2, hg2, hs2, rfl⟩
    have hle := sizes_rest l (i + 1) hi
    have hst := Cel.sizes_take l i hi
    have hfl := fold_len_alls _ _ _ hs2
    rw [List.length_take, Nat.min_eq_left (by omega)] at hfl
    refine (walk1_of (Wk.at_q hg2 hq) (ih _ (List.getElem_mem hi) s2 base hg2 (by omega) (hk _ (List.getElem_mem hi)))).mono ?_
    intro e h' he
    have htk := Cel.alls_take l i hi
    cases hr2 : l[i].all.foldlM oneStep s2.ls with
    | none =>
      rw [hr2] at he
      obtain ⟨rfl, s', h2, rfl⟩ := he
      refine .inr ⟨rfl, ?_, s', h2, rfl⟩
      apply alls_fold_all oneStep l (i + 1)
      rw [htk, List.foldlM_append, hs2]; exact hr2
    | some ls3 =>
      rw [hr2] at he
      obtain ⟨rfl, s', h1, h2, rfl⟩ := he
      refine .inl ⟨rfl, s', h2, ?_, rfl⟩
      rw [htk, List.foldlM_append, hs2, h1]; exact hr2
  · rintro e h' (⟨rfl, s2, hg2, hs2, rfl⟩ | ⟨i, hi, rfl, hn, s', h2, rfl⟩)
    · rw [List.take_length] at hs2
      rw [hs2]; exact ⟨rfl, s2, rfl, hg2, rfl⟩
    · rw [hn]; exact ⟨rfl, s', h2, rfl⟩

set_option maxRecDepth 20000 in
set_option maxHeartbeats 4000000 in
theorem walk_c (wb : Nat) (c : Cel) : ∀ (s : Wk) (base : Heap), s.Good wb base → s.ls.length + c.size < 100000000000 → (∀ d ∈ c.all, 1 ≤ d.kind ∧ d.kind ≤ 3) →
    ICall Tryz.prog 136 [.ptr wb 0, .agg c.row] (s.at' wb base) (walkR wb true (c.all.foldlM oneStep s.ls) base) := by
  induction c using Cel.induct
  rename_i c ih
  intro s base hg hsz hk
  have hlen := Cel.len_le c.kids
  rw [c.size_eq] at hsz
  have hkc := hk c (by rw [c.all_eq]; exact List.mem_cons_self)
  have hwb := s.at_wb wb base
  refine icall_of_iwp (fun d => if d = 2 then 1 else if d = 27 then 2 else 0) Tryz.func136 rfl (by kernel_rfl) (Nat.le_of_ble_eq_true rfl) ?_
  rw [Tryz.results136]
  simp -implicitDefEqProofs [go_sem]
  intro qb hqb
  refine (lines_c c _ (by omega) hkc.1 hkc.2).mono ?_
  rintro e h' ⟨rfl, he⟩
  have hqn : qb ≠ wb := by rintro rfl; rw [hwb] at hqb; cases hqb
  cases ho : c.one with
  | none =>
    rw [ho] at he
    obtain ⟨l', rfl⟩ := he
    simp -implicitDefEqProofs [go_sem]
    have hfold : c.all.foldlM oneStep s.ls = none := by rw [c.all_eq, List.foldlM_cons, oneStep, ho]; rfl
    exact ⟨s.at' wb base, (Sub.refl _).upd hqb _, by rw [hfold]; exact ⟨rfl, s, hg, rfl⟩⟩
  | some ls =>
    rw [ho] at he
    subst he
    simp -implicitDefEqProofs [go_sem, hwb, hqn, hqn.symm]
    refine iwp_drawn_of mixed [0, 1, 2, 3, 4, 5, 6, 7, 8, 9] (by kernel_rfl) ?_
    have hfold : c.all.foldlM oneStep s.ls = (Cel.alls c.kids).foldlM oneStep (s.ls ++ ls) := by rw [c.all_eq, List.foldlM_cons, oneStep, ho]; rfl
    have hll := one_len ho
    have hkk : ∀ d ∈ c.kids, ∀ d' ∈ d.all, 1 ≤ d'.kind ∧ d'.kind ≤ 3 := fun d hd d' hd' => hk d' (by
      rw [c.all_eq]; refine List.mem_cons_of_mem _ ?_
      obtain ⟨l1, l2, hl⟩ := List.append_of_mem hd
      rw [hl]
      have : ∀ (l1 l2 : List Cel), Cel.alls (l1 ++ l2) = Cel.alls l1 ++ Cel.alls l2 := by
        intro l1 l2
        induction l1 with
        | nil => rfl
        | cons x xs ihx => simp [Cel.alls, ihx]
      rw [this]; simp [Cel.alls, hd'])
    have tail : ∀ (s1 : Wk) (base2 H : Heap), s1.ls = s.ls ++ ls → s1.Good wb base2 → base2 qb = some (.cells [.ptr wb 0]) → Sub base base2 → H = s1.at' wb base2 →
        ICall Tryz.prog 110 [.list .plain (c.kids.map Cel.row), .fn (.func 157) [] [.ptr qb 0]] H (fun e h' => walkR wb false (c.all.foldlM oneStep s.ls) base2 e h' ∧ Sub base base2) := by
      intro s1 base2 H h1 h2 h3 h4 h5
      rw [h5, hfold, ← h1]
      refine (walkKids_c (fun d hd => ih d hd) s1 h2 h3 (by omega) (by rw [h1]; simp; omega) hkk).mono fun e h' he => ⟨he, h4⟩
    clear ih hk hkk
    have fin : ∀ (base2 : Heap) (e : IEnd) (h' : Heap), walkR wb false (c.all.foldlM oneStep s.ls) base2 e h' → Sub base base2 → ∃ b h2, e = .ret (.bool b) ∧ Sub h2 h' ∧ walkR wb true (c.all.foldlM oneStep s.ls) base (.ret (.bool !b)) h2 := by
      intro base2 e h' hr hs
      cases hc : c.all.foldlM oneStep s.ls with
      | some ls' =>
        rw [hc] at hr
        obtain ⟨rfl, s', h1, h2, rfl⟩ := hr
        exact ⟨false, s'.at' wb base, rfl, s'.sub hs, rfl, s', h1, h2.of_sub hs, rfl⟩
      | none =>
        rw [hc] at hr
        obtain ⟨rfl, s', h2, rfl⟩ := hr
        exact ⟨true, s'.at' wb base, rfl, s'.sub hs, rfl, s', h2.of_sub hs, rfl⟩
    clear hfold ho
    generalize c.all.foldlM oneStep s.ls = FR at tail fin ⊢
    obtain ⟨num, lk, ls0⟩ := s
    simp only at hsz
    have hbq : base qb = none := by
      have h1 := hqb
      simp only [Wk.at', upd, hqn, if_false] at h1
      cases lk with
      | none => exact h1
      | some p => simp only [Wk.b1, upd] at h1; split at h1; cases h1; exact h1
    have hsub : Sub base (upd base qb (some (.cells [.ptr wb 0]))) := (Sub.refl _).upd hbq _
    have hb2 : (upd base qb (some (.cells [.ptr wb 0]))) wb = none := by simp [upd, hqn.symm, hg.1]
    cases lk with
    | none =>
      have hls0 : ls0 = [] := hg.2
      subst hls0
      simp -implicitDefEqProofs [go_sem, hwb, hqn, hqn.symm, Wk.v]
      refine ⟨by simp [roomy, byT_38]; omega, ?_, ?_⟩
      · intro hls
        subst hls
        refine (tail ⟨IntKind.i64.wrap (num + 1), none, []⟩ (upd base qb (some (.cells [.ptr wb 0]))) _ rfl ⟨hb2, rfl⟩ (by simp [upd]) hsub ?_).mono ?_
        · funext j
          simp only [Wk.at', Wk.b1, Wk.v, upd]
          by_cases j1 : j = wb <;> simp [j1]
        · rintro e h' ⟨hr, hs⟩
          obtain ⟨b, h2, rfl, h3, h4⟩ := fin _ _ _ hr hs
          simp -implicitDefEqProofs [go_sem]
          exact ⟨h2, h3, h4⟩
      · intro hls b' cap' hb' hcap
        have hbw : b' ≠ wb := by rintro rfl; simp [upd] at hb'
        have hbq' : b' ≠ qb := by rintro rfl; simp [upd, hqn] at hb'
        have hbb : base b' = none := by simpa [upd, hbw, hbq', Wk.at', Wk.b1] using hb'
        simp -implicitDefEqProofs [go_sem, hbw, hbw.symm]
        refine (tail ⟨IntKind.i64.wrap (num + 1), some (b', cap'), ls⟩ (upd base qb (some (.cells [.ptr wb 0]))) _ rfl ⟨hb2, hbw, by simp [upd, hbq', hbb], by simpa using hcap⟩ (by simp [upd]) hsub ?_).mono ?_
        · funext j
          simp only [Wk.at', Wk.b1, Wk.v, upd]
          by_cases j1 : j = wb
          · simp [j1, hbw.symm]
          · by_cases j2 : j = b' <;> simp [j1, j2]
        · rintro e h' ⟨hr, hs⟩
          obtain ⟨b, h2, rfl, h3, h4⟩ := fin _ _ _ hr hs
          simp -implicitDefEqProofs [go_sem]
          exact ⟨h2, h3, h4⟩
    | some p =>
      obtain ⟨ab, cap⟩ := p
      obtain ⟨hg1, habw, habn, hcap0⟩ := hg
      simp only at hcap0
      have habq : ab ≠ qb := by
        rintro rfl
        simp [Wk.at', Wk.b1, upd, habw] at hqb
      have hat : Wk.at' wb ⟨num, some (ab, cap), ls0⟩ base ab = some (.arr 38 4 (ls0.map Rct.row) cap) := by simp [Wk.at', Wk.b1, upd, habw]
      simp -implicitDefEqProofs [go_sem, hwb, hqn, hqn.symm, Wk.v, habw, habw.symm, habq, hat]
      refine ⟨by simp [roomy, byT_38]; omega, ?_, ?_⟩
      · intro hfit
        refine (tail ⟨IntKind.i64.wrap (num + 1), some (ab, cap), ls0 ++ ls⟩ (upd base qb (some (.cells [.ptr wb 0]))) _ rfl ⟨hb2, habw, by simp [upd, habq, habn], by simpa using hfit⟩ (by simp [upd]) hsub ?_).mono ?_
        · funext j
          simp only [Wk.at', Wk.b1, Wk.v, upd]
          by_cases j1 : j = wb
          · simp [j1, habw.symm]
          · by_cases j2 : j = ab
            · simp [j1, j2, habq]
            · simp [j1, j2]
        · rintro e h' ⟨hr, hs⟩
          obtain ⟨b, h2, rfl, h3, h4⟩ := fin _ _ _ hr hs
          simp -implicitDefEqProofs [go_sem]
          exact ⟨h2, h3, h4⟩
      · intro hfit b' cap' hb' hcap
        have hbw : b' ≠ wb := by rintro rfl; simp [upd] at hb'
        have hbq' : b' ≠ qb := by rintro rfl; simp [upd, hqn] at hb'
        have hba : b' ≠ ab := by rintro rfl; simp [upd, habw, habq, hat] at hb'
        have hbb : base b' = none := by simpa [upd, hbw, hbq', hba, Wk.at', Wk.b1] using hb'
        simp -implicitDefEqProofs [go_sem, hbw, hbw.symm]
        have hsub2 : Sub base (upd (upd base qb (some (.cells [.ptr wb 0]))) ab (some (.arr 38 4 (ls0.map Rct.row) cap))) := hsub.upd (by simp [upd, habq, habn]) _
        refine (tail ⟨IntKind.i64.wrap (num + 1), some (b', cap'), ls0 ++ ls⟩ (upd (upd base qb (some (.cells [.ptr wb 0]))) ab (some (.arr 38 4 (ls0.map Rct.row) cap))) _ rfl
          ⟨by simp [upd, habw.symm, hqn.symm, hg1], hbw, by simp [upd, hbq', hba, hbb], by simpa using hcap⟩ (by simp [upd, habq.symm]) hsub2 ?_).mono ?_
        · funext j
          simp only [Wk.at', Wk.b1, Wk.v, upd]
          by_cases j1 : j = wb
          · simp [j1, hbw.symm]
          · by_cases j2 : j = b'
            · simp [j1, j2]
            · by_cases j3 : j = ab
              · simp [j1, j2, j3, habq, hba.symm, habw]
              · simp [j1, j2, j3]
        · rintro e h' ⟨hr, hs⟩
          obtain ⟨b, h2, rfl, h3, h4⟩ := fin _ _ _ hr hs
          simp -implicitDefEqProofs [go_sem]
          exact ⟨h2, h3, h4⟩
end Go.Proofs

set_option linter.unusedVariables false
set_option linter.unusedSimpArgs false
set_option pp.deepTerms false
set_option pp.maxSteps 400
namespace Go.Proofs
open Go.Idl

def checkR (b : Bool) (h : Heap) (e : IEnd) (h' : Heap) : Prop := h' = h ∧ if b = true then e = .ret .niliface else ∃ t x, e = .ret (.iface t x)

set_option maxRecDepth 20000 in
theorem tcheck_c (c : Cel) (h : Heap) (hs : c.size < 100000000000) : ICall Tryz.prog 112 [.agg c.row] h (checkR c.tiles h) := by
  have htf := tiles_fold c
  refine icall_of_iwp (fun d => if d = 5 then 1 else 0) Tryz.func112 rfl (by kernel_rfl) (Nat.le_of_ble_eq_true rfl) ?_
  rw [Tryz.results112]
  simp -implicitDefEqProofs [go_sem]
  intro b hb
  refine (cMay_c c _ hs).mono ?_
  rintro e h' ⟨rfl, he⟩
  rw [he]
  simp -implicitDefEqProofs [go_sem]
  refine cK_any (fun hm => ?_) (fun hm => ?_) <;> simp -implicitDefEqProofs [go_sem]
  · have hti : c.tiles = false := by rw [htf]; simp at hm; simp [hm]
    refine (faultNew_c 1 0 (by omega) _).mono ?_
    rintro e h' ⟨rfl, t, x, rfl⟩
    simp -implicitDefEqProofs [go_sem]
    refine (faultIn_c t x _ rfl _).mono ?_
    rintro e h' ⟨rfl, t', x', rfl⟩
    simp -implicitDefEqProofs [go_sem]
    exact ⟨h, (Sub.refl _).upd hb _, rfl, by rw [hti]; exact ⟨_, _, rfl⟩⟩
  · have hm' : c.may = true := by simpa using hm
    rw [hm', Bool.true_and] at htf
    have hmb := hm'
    rw [Cel.may, decide_eq_true_eq] at hmb
    have hH : upd h b (some (.cells [.int .i64 0, .list .tight []])) = Wk.at' b ⟨0, none, []⟩ h := by funext j; simp only [Wk.at', Wk.b1, Wk.v]
    rw [hH]
    refine (walk_c b c ⟨0, none, []⟩ h ⟨hb, rfl⟩ (by simpa using hs) (fun d hd => by have := (hmb.2.1 d hd).2; omega)).mono ?_
    intro e h' he
    simp only at he
    cases hf : c.all.foldlM oneStep [] with
    | none =>
      rw [hf] at he htf
      obtain ⟨rfl, s', hg, rfl⟩ := he
      have hti : c.tiles = false := by rw [htf]; rfl
      have hwb := s'.at_wb b h
      simp -implicitDefEqProofs [go_sem, hwb]
      refine (faultNew_c 5 _ (by omega) _).mono ?_
      rintro e h' ⟨rfl, t, x, rfl⟩
      simp -implicitDefEqProofs [go_sem]
      refine (faultIn_c t x _ rfl _).mono ?_
      rintro e h' ⟨rfl, t', x', rfl⟩
      simp -implicitDefEqProofs [go_sem]
      refine ⟨h, ?_, rfl, by rw [hti]; exact ⟨_, _, rfl⟩⟩
      intro b' o hb'
      obtain ⟨num, lk, ls⟩ := s'
      have h1 : b' ≠ b := by rintro rfl; rw [hb] at hb'; cases hb'
      cases lk with
      | none => simpa [Wk.at', Wk.b1, upd, h1] using hb'
      | some p =>
        have h2 : b' ≠ p.1 := by rintro rfl; have := hg.2.2.1; rw [this] at hb'; cases hb'
        simpa [Wk.at', Wk.b1, upd, h1, h2] using hb'
    | some ls' =>
      rw [hf] at he htf
      obtain ⟨rfl, s', _, hg, rfl⟩ := he
      have hti : c.tiles = true := by rw [htf]; rfl
      simp -implicitDefEqProofs [go_sem]
      refine ⟨h, ?_, rfl, by rw [hti]; rfl⟩
      intro b' o hb'
      obtain ⟨num, lk, ls⟩ := s'
      have h1 : b' ≠ b := by rintro rfl; rw [hb] at hb'; cases hb'
      cases lk with
      | none => simpa [Wk.at', Wk.b1, upd, h1] using hb'
      | some p =>
        have h2 : b' ≠ p.1 := by rintro rfl; have := hg.2.2.1; rw [this] at hb'; cases hb'
        simpa [Wk.at', Wk.b1, upd, h1, h2] using hb'

theorem tTiles1_c (c : Cel) (h : Heap) (hs : c.size < 100000000000) : ICall Tryz.prog 111 [.agg c.row] h (retP (.bool (!c.tiles)) h) := by
  refine icall_of_iwp (fun _ => 0) Tryz.func111 rfl (by kernel_rfl) (Nat.le_of_ble_eq_true rfl) ?_
  rw [Tryz.results111]
  simp -implicitDefEqProofs [go_sem]
  refine (tcheck_c c h hs).mono ?_
  rintro e h' ⟨rfl, he⟩
  cases ht : c.tiles with
  | true =>
    rw [ht, if_pos rfl] at he
    subst he
    simp -implicitDefEqProofs [go_sem]
    exact ⟨_, Sub.refl _, rfl, rfl⟩
  | false =>
    rw [ht, if_neg (by simp)] at he
    obtain ⟨t, x, rfl⟩ := he
    simp -implicitDefEqProofs [go_sem]
    exact ⟨_, Sub.refl _, rfl, rfl⟩

theorem tTiles_c (c : Cel) (h : Heap) (hs : c.size < 100000000000) : ICall Tryz.prog 89 [.list .plain [c.row]] h (retP (.bool c.tiles) h) := by
  refine icall_of_iwp (fun _ => 0) Tryz.func89 rfl (by kernel_rfl) (Nat.le_of_ble_eq_true rfl) ?_
  rw [Tryz.results89]
  simp -implicitDefEqProofs [go_sem]
  have hn := containsFunc_cel (l := [c]) (f := 111) (first := []) (cap := []) (Inv := fun i h' => h' = h ∧ (i = 1 → c.tiles = true)) (Hit := fun i h' => h' = h ∧ c.tiles = false) (by simp) (fun i hi h1 hh => by
    obtain ⟨rfl, _⟩ := hh
    obtain rfl : i = 0 := by simp at hi; exact hi
    refine (tTiles1_c c h1 hs).mono ?_
    rintro e h' ⟨rfl, rfl⟩
    cases hb : c.tiles with
    | false => exact .inr ⟨rfl, rfl, rfl⟩
    | true => exact .inl ⟨rfl, rfl, fun _ => rfl⟩) h ⟨rfl, fun h => by cases h⟩
  simp only [List.map_cons, List.map_nil] at hn
  refine hn.mono ?_
  rintro e h' (⟨rfl, rfl, hm⟩ | ⟨i, hi, rfl, rfl, hm⟩)
  · simp -implicitDefEqProofs [go_sem]
    exact ⟨h', Sub.refl _, by rw [hm rfl], rfl⟩
  · simp -implicitDefEqProofs [go_sem]
    exact ⟨h', Sub.refl _, by rw [hm], rfl⟩

/-- the leaves' numbers of some trees -/
def idsL (l : List Cel) : List Int := ((Cel.alls l).filter fun d => d.kind == 1).map Cel.id
theorem ids_eq (c : Cel) : c.ids = (if c.kind = 1 then [c.id] else []) ++ idsL c.kids := by
  rw [Cel.ids, Cel.leaves, c.all_eq, idsL, List.filter_cons]
  by_cases hk : c.kind = 1
  · simp [hk]
  · simp [hk]
theorem idsL_take (l : List Cel) (i : Nat) (h : i < l.length) : idsL (l.take (i + 1)) = idsL (l.take i) ++ l[i].ids := by
  rw [idsL, Cel.alls_take l i h, List.filter_append, List.map_append]; rfl
theorem idsL_len (l : List Cel) : (idsL l).length ≤ Cel.sizes l := by
  rw [idsL, List.length_map, ← Cel.alls_length]; exact List.length_filter_le _ _

set_option maxRecDepth 20000 in
set_option maxHeartbeats 4000000 in
theorem leavesL_c (l : List Cel) (hs : Cel.sizes l < 100000000000) (ih : ∀ c ∈ l, ∀ h, ICall Tryz.prog 36 [.list .plain (c.kids.map Cel.row)] h (retP (.list .plain ((idsL c.kids).map intRow)) h)) (h : Heap) :
    ICall Tryz.prog 36 [.list .plain (l.map Cel.row)] h (retP (.list .plain ((idsL l).map intRow)) h) := by
  have hlen := Cel.len_le l
  refine icall_of_iwp (fun _ => 0) Tryz.func36 rfl (by kernel_rfl) (Nat.le_of_ble_eq_true rfl) ?_
  rw [Tryz.results36]
  simp -implicitDefEqProofs [go_sem]
  refine iwp_loopF (rng [3,5] 8 25) (fun k => k == 5) (fun s => ∃ i, i ≤ l.length ∧ s.t 8 = .int .i64 i ∧ Own [19, 24] s.x 3 (s.t 3) ((idsL (l.take i)).map intRow) ∧ s.h = h) (fun s => l.length - tn (s.t 8)) ?_ ?_
  · exact ⟨0, Nat.zero_le _, by simp -implicitDefEqProofs [go_sem], by simp -implicitDefEqProofs [go_sem, Own.tight, idsL, Cel.alls], by simp -implicitDefEqProofs [go_sem]⟩
  rintro J s hJ hf ⟨i, hi, h8, ho, hh⟩
  obtain ⟨tk, h3⟩ := ho.list
  simp -implicitDefEqProofs [go_sem, h8, h3, hh, hf.t, hf.m]
  refine cK_dec (fun hlt => ?_) (fun hge => ?_)
  · have hg : l[i]? = some l[i] := List.getElem?_eq_getElem hlt
    have hw := wrap_succ (i := i) (by omega)
    have hst := Cel.sizes_take l i hlt
    have hle := Cel.sizes_le l (i + 1)
    have hl1 := idsL_len (l.take i)
    have hl2 := idsL_len (l[i].kids)
    have hsz := l[i].size_eq
    have htk := idsL_take l i hlt
    rw [ids_eq] at htk
    simp -implicitDefEqProofs [go_sem, h8, h3, hh, hf.t, hf.m, hlt, hg]
    refine cK_beq (fun hk => ?_) (fun hk => ?_)
    · simp -implicitDefEqProofs [go_sem, h8, h3, hh, hf.t, hf.m, hlt, hg]
      refine aK_own (z := 1) (S := [19, 24]) (rows := (idsL (l.take i)).map intRow) (by simpa -implicitDefEqProofs [go_sem, h3] using ho) (by simp) elT_22 elZ_3 (by simp [roomy, byT_3]; omega) (ints_uni _) (by simp [uni]) ?_
      intro r' x' ho' _
      simp -implicitDefEqProofs [go_sem, h8, h3, hh, hf.t, hf.m, hf, hw]
      refine (ih _ (List.getElem_mem hlt) h).mono ?_
      rintro e h' ⟨rfl, he⟩
      rw [he]
      simp -implicitDefEqProofs [go_sem, h8, h3, hh, hf.t, hf.m, hf, hw]
      refine aK_own (z := 1) (S := [19, 24]) (rows := (idsL (l.take i) ++ [l[i].id]).map intRow) (by rw [List.map_append]; exact ho') (by simp) elT_22 elZ_3 (by simp [roomy, byT_3]; omega) (ints_uni _) (ints_uni _) ?_
      intro r2 x2 ho2 _
      simp -implicitDefEqProofs [go_sem, h8, h3, hh, hf.t, hf.m, hf, hw]
      exact hJ _ ⟨i + 1, by omega, by simp -implicitDefEqProofs [go_sem, hw], by rw [htk, if_pos hk, ← List.append_assoc, List.map_append]; simpa -implicitDefEqProofs [go_sem] using ho2, by simp -implicitDefEqProofs [go_sem, hh]⟩ (by simp [go_sem, h8, hw]; omega)
    · simp -implicitDefEqProofs [go_sem, h8, h3, hh, hf.t, hf.m, hlt, hg]
      refine (ih _ (List.getElem_mem hlt) h).mono ?_
      rintro e h' ⟨rfl, he⟩
      rw [he]
      simp -implicitDefEqProofs [go_sem, h8, h3, hh, hf.t, hf.m, hf, hw]
      refine aK_own (z := 1) (S := [19, 24]) (rows := (idsL (l.take i)).map intRow) (by simpa -implicitDefEqProofs [go_sem, h3] using ho) (by simp) elT_22 elZ_3 (by simp [roomy, byT_3]; omega) (ints_uni _) (ints_uni _) ?_
      intro r2 x2 ho2 _
      simp -implicitDefEqProofs [go_sem, h8, h3, hh, hf.t, hf.m, hf, hw]
      exact hJ _ ⟨i + 1, by omega, by simp -implicitDefEqProofs [go_sem, hw], by rw [htk, if_neg hk, List.nil_append, List.map_append]; simpa -implicitDefEqProofs [go_sem] using ho2, by simp -implicitDefEqProofs [go_sem, hh]⟩ (by simp [go_sem, h8, hw]; omega)
  · obtain rfl : i = l.length := by omega
    rw [List.take_length] at ho h3
    simp -implicitDefEqProofs [go_sem, h8, h3, hh, hf.t, hf.m]
    exact ⟨h, Sub.refl _, rfl, rfl⟩

theorem leavesK_c (c : Cel) : ∀ h, c.size < 100000000000 → ICall Tryz.prog 36 [.list .plain (c.kids.map Cel.row)] h (retP (.list .plain ((idsL c.kids).map intRow)) h) := by
  induction c using Cel.induct
  rename_i c ih
  intro h hs
  rw [c.size_eq] at hs
  exact leavesL_c c.kids (by omega) (fun d hd h => ih d hd h (by have := Cel.mem_le hd; omega)) h

theorem cLeaves_c (c : Cel) (h : Heap) (hs : c.size < 100000000000) : ICall Tryz.prog 36 [.list .plain [c.row]] h (retP (.list .plain (c.ids.map intRow)) h) := by
  have := leavesL_c [c] (by simpa [Cel.sizes] using hs) (fun d hd h => by simp at hd; subst hd; exact leavesK_c _ h hs) h
  have e : idsL [c] = c.ids := by simp [idsL, Cel.alls, Cel.ids, Cel.leaves]
  rw [e] at this
  exact this

def cloR (l : List Cel) (h : Heap) (e : IEnd) (h' : Heap) : Prop :=
    (l = [] ∧ retP (.list .plain []) h e h') ∨ (l ≠ [] ∧ ∃ b cap, h b = none ∧ l.length ≤ cap ∧ e = .ret (.sl 7 b 0 l.length cap) ∧ h' = upd h b (some (.arr 41 7 (l.map Cel.row) cap)))
set_option maxRecDepth 20000 in
theorem cloneCel_c (l : List Cel) (h : Heap) (hs : l.length < 100000000000) : ICall Tryz.prog 97 [.list .plain (l.map Cel.row)] h (cloR l h) := by
  refine icall_of_iwp (fun d => if d = 7 then 2 else 0) Tryz.func97 rfl (by kernel_rfl) (Nat.le_of_ble_eq_true rfl) ?_
  rw [Tryz.results97]
  simp -implicitDefEqProofs [go_sem]
  refine ⟨⟨by simp [roomy, byT_41]; omega, fun hl => ⟨h, Sub.refl _, .inl ⟨hl, rfl, rfl⟩⟩, fun hl b cap hb hcap => ⟨_, Sub.refl _, .inr ⟨hl, b, cap, hb, hcap, rfl, rfl⟩⟩⟩, fun hl => ⟨h, Sub.refl _, .inl ⟨hl, rfl, rfl⟩⟩⟩

@[go_sem] theorem Cel.withKids_kids (c : Cel) (ks : List Cel) : (c.withKids ks).kids = ks := rfl
theorem Cel.withKids_rowK (c : Cel) (ks : List Cel) (x : IV) : (c.withKids ks).rowK x = c.rowK x := by rw [Cel.rowK_eq, Cel.rowK_eq]; rfl
@[go_sem high] theorem Cel.put6s (c : Cel) (z b o n cap : Nat) : splice c.row 6 [.sl z b o n cap] = c.rowK (.sl z b o n cap) := by rw [c.row_eq, c.rowK_eq]; rfl
@[go_sem high] theorem Cel.rowK_strC_sl (c : Cel) (z b o n cap : Nat) : (c.rowK (.sl z b o n cap)).map strC = c.rowK (.sl z b o n cap) := by rw [c.rowK_eq]; rfl
@[go_sem high] theorem Cel.rowK_strip_sl (c : Cel) (z b o n cap : Nat) : (c.rowK (.sl z b o n cap)).map strip = c.rowK (.sl z b o n cap) := by rw [c.rowK_eq]; rfl
theorem Cel.rowK_fz (c : Cel) (b : Nat) (ks : List Cel) (cap : Nat) : (c.rowK (.sl 7 b 0 ks.length cap)).map (fz1 b 7 (ks.map Cel.row)) = (c.withKids ks).row := by
  rw [c.rowK_eq, (c.withKids ks).row_eq]
  simp [fz1, Cel.withKids, Cel.kind, Cel.r, Cel.id, Cel.kids]
  rw [List.take_of_length_le (by simp)]

theorem set_mid {α : Type} (A B : List α) (x y : α) : (A ++ x :: B).set A.length y = A ++ y :: B := by
  induction A with
  | nil => rfl
  | cons a A ih => simp [ih]
end Go.Proofs

set_option linter.unusedVariables false
set_option linter.unusedSimpArgs false
set_option pp.deepTerms false
set_option pp.maxSteps 400
namespace Go.Proofs
open Go.Idl

/-- a pane -/
structure Pn where
  id : Int
  r : Rct
def Pn.row (p : Pn) : List IV := .int .i64 p.id :: p.r.row
@[go_sem] theorem Pn.row_len (p : Pn) : p.row.length = 5 := by simp [Pn.row, Rct.row]
@[go_sem] theorem Pn.row_take (p : Pn) : p.row.take 5 = p.row := by simp [Pn.row, Rct.row]
@[go_sem] theorem Pn.row_strip (p : Pn) : p.row.map strip = p.row := by simp [Pn.row, Rct.row, strip]
@[go_sem] theorem Pn.row_strC (p : Pn) : p.row.map strC = p.row := by simp [Pn.row, Rct.row, strC]
@[go_sem] theorem Pn.row_okV (p : Pn) : okV (.agg p.row) = true := rfl
@[go_sem high] theorem Pn.at0 (p : Pn) : p.row.take 1 = [.int .i64 p.id] := by simp [Pn.row]
@[go_sem high] theorem Pn.at1 (p : Pn) : (p.row.drop 1).take 4 = p.r.row := by simp [Pn.row, Rct.row]
@[go_sem high] theorem Pn.at1t (p : Pn) : p.row.tail.take 4 = p.r.row := by simp [Pn.row, Rct.row]
@[go_sem high] theorem Pn.rows_uni (l : List Pn) : uni 5 (l.map Pn.row) = true := by simp [uni, Pn.row_len]
def Cel.pn (d : Cel) : Pn := ⟨d.id, d.r⟩
def Cel.panes (c : Cel) : List Pn := c.leaves.map Cel.pn
theorem panes_len (c : Cel) : c.panes.length = c.leaves.length := by simp [Cel.panes]
@[go_sem] theorem Cel.pn_row (d : Cel) : IV.int .i64 d.id :: d.r.row = d.pn.row := rfl

end Go.Proofs

set_option linter.unusedVariables false
set_option linter.unusedSimpArgs false
set_option pp.deepTerms false
set_option pp.maxSteps 400
namespace Go.Proofs
open Go.Idl

def mm2 (f : Int → Int → Int) : IV → IV → Option IV
  | .int k x, .int k' y => if k = k' then some (.int k (f x y)) else none
  | _, _ => none
@[go_sem] theorem mm2_int (f : Int → Int → Int) (k : IntKind) (x y : Int) : mm2 f (.int k x) (.int k y) = some (.int k (f x y)) := by simp [mm2]
@[go_sem] theorem pop_max' (P : Program) (st : St) (a b : Operand) (ts : Array TypeId) : pop P st (.call ⟨.builtin .max, #[a, b], ts⟩) = mm2 max (st.ev a) (st.ev b) := by
  simp only [pop, List.map_cons, List.map_nil]; cases st.ev a <;> cases st.ev b <;> rfl
@[go_sem] theorem pop_min' (P : Program) (st : St) (a b : Operand) (ts : Array TypeId) : pop P st (.call ⟨.builtin .min, #[a, b], ts⟩) = mm2 min (st.ev a) (st.ev b) := by
  simp only [pop, List.map_cons, List.map_nil]; cases st.ev a <;> cases st.ev b <;> rfl

/-- a window -/
structure Wn where
  tree : Cel
  act : Int
  z : Bool

def Wn.row (w : Wn) : List IV := w.tree.row ++ [.int .i64 w.act, .bool w.z]
theorem Wn.row_eq (w : Wn) : w.row = [.int .u8 w.tree.kind, .int .i64 w.tree.r.x, .int .i64 w.tree.r.y, .int .i64 w.tree.r.w, .int .i64 w.tree.r.h, .int .i64 w.tree.id, .list .plain (w.tree.kids.map Cel.row), .int .i64 w.act, .bool w.z] := by
  rw [Wn.row, Cel.row_eq]; rfl
@[go_sem] theorem Wn.row_len (w : Wn) : w.row.length = 9 := by rw [w.row_eq]; rfl
@[go_sem high] theorem Wn.at0 (w : Wn) : w.row.take 7 = w.tree.row := by rw [w.row_eq, Cel.row_eq]; rfl
@[go_sem high] theorem Wn.at7 (w : Wn) : (w.row.drop 7).take 1 = [.int .i64 w.act] := by rw [w.row_eq]; rfl
@[go_sem high] theorem Wn.at8 (w : Wn) : (w.row.drop 8).take 1 = [.bool w.z] := by rw [w.row_eq]; rfl
@[go_sem high] theorem Wn.atk (w : Wn) : w.row.take 1 = [.int .u8 w.tree.kind] := by rw [w.row_eq]; rfl
@[go_sem high] theorem Wn.atx (w : Wn) : (w.row.drop 1).take 1 = [.int .i64 w.tree.r.x] := by rw [w.row_eq]; rfl
@[go_sem high] theorem Wn.aty (w : Wn) : (w.row.drop 2).take 1 = [.int .i64 w.tree.r.y] := by rw [w.row_eq]; rfl
@[go_sem high] theorem Wn.atxt (w : Wn) : w.row.tail.take 1 = [.int .i64 w.tree.r.x] := by rw [w.row_eq]; rfl
@[go_sem high] theorem Wn.atrt (w : Wn) : w.row.tail.take 4 = w.tree.r.row := by rw [w.row_eq]; rfl
@[go_sem high] theorem Wn.atr (w : Wn) : (w.row.drop 1).take 4 = w.tree.r.row := by rw [w.row_eq]; rfl
@[go_sem high] theorem Wn.at9 (w : Wn) : w.row.take 9 = w.row := by rw [w.row_eq]; rfl
@[go_sem high] theorem Wn.put0 (w : Wn) (c : Cel) : splice w.row 0 c.row = (Wn.mk c w.act w.z).row := by rw [w.row_eq, (Wn.mk c w.act w.z).row_eq, c.row_eq]; rfl
@[go_sem high] theorem Wn.put7 (w : Wn) (n : Int) : splice w.row 7 [.int .i64 n] = (Wn.mk w.tree n w.z).row := by rw [w.row_eq, Wn.row_eq]; rfl
@[go_sem high] theorem Wn.put8 (w : Wn) (b : Bool) : splice w.row 8 [.bool b] = (Wn.mk w.tree w.act b).row := by rw [w.row_eq, Wn.row_eq]; rfl
@[go_sem] theorem Wn.row_strip (w : Wn) : w.row.map strip = w.row := by rw [w.row_eq]; rfl
@[go_sem] theorem Wn.row_strC (w : Wn) : w.row.map strC = w.row := by rw [w.row_eq]; rfl
@[go_sem high] theorem Wn.row_drop7 (w : Wn) (c : Cel) : c.row ++ w.row.drop 7 = (Wn.mk c w.act w.z).row := by rw [w.row_eq, c.row_eq, Wn.row_eq]; rfl
@[go_sem] theorem Cel.row_strT (c : Cel) : c.row.map strT = c.row := by rw [c.row_eq]; rfl
@[go_sem] theorem Wn.row_strT (w : Wn) : w.row.map strT = w.row := by rw [w.row_eq]; rfl
@[go_sem] theorem upd_upd {α : Type} (f : Nat → α) (b : Nat) (x y : α) : upd (upd f b x) b y = upd f b y := by funext j; simp only [upd]; split <;> rfl
@[go_sem] theorem Wn.row_okV (w : Wn) : okV (.agg w.row) = true := by rw [w.row_eq]; rfl

/-- a window that may be -/
def Wn.may (w : Wn) : Bool := w.tree.tiles && (w.tree.r.x == 0) && (w.tree.r.y == 0) && decide (w.act ∈ w.tree.ids) && (!w.z || decide (1 < w.tree.ids.length))

/-- the same cells, set anew -/
def stepX (k : Int) (c : Cel) (x : Int) : Int := if k = 2 then IntKind.i64.wrap (x + IntKind.i64.wrap (c.r.w + 1)) else x
def stepY (k : Int) (c : Cel) (y : Int) : Int := if k = 2 then y else if k = 3 then IntKind.i64.wrap (y + IntKind.i64.wrap (c.r.h + 1)) else y
mutual
def Cel.setp : Cel → Int → Int → Cel
  | .mk k r id kids, x, y => .mk k ⟨x, y, r.w, r.h⟩ id (Cel.setps k kids x y)
def Cel.setps : Int → List Cel → Int → Int → List Cel
  | _, [], _, _ => []
  | k, c :: cs, x, y => c.setp x y :: Cel.setps k cs (stepX k c x) (stepY k c y)
end
theorem Cel.setp_eq (c : Cel) (x y : Int) : c.setp x y = .mk c.kind ⟨x, y, c.r.w, c.r.h⟩ c.id (Cel.setps c.kind c.kids x y) := by cases c; rw [Cel.setp]; rfl
theorem Cel.setps_length (k : Int) (l : List Cel) (x y : Int) : (Cel.setps k l x y).length = l.length := by
  induction l generalizing x y with
  | nil => simp [Cel.setps]
  | cons c cs ih => simp [Cel.setps, ih]
def posX (k : Int) (l : List Cel) (x : Int) : Int := l.foldl (fun x c => stepX k c x) x
def posY (k : Int) (l : List Cel) (y : Int) : Int := l.foldl (fun y c => stepY k c y) y
theorem posX_take (k : Int) (l : List Cel) (x : Int) (i : Nat) (h : i < l.length) : posX k (l.take (i + 1)) x = stepX k l[i] (posX k (l.take i) x) := by
  rw [posX, List.take_add_one, List.getElem?_eq_getElem h, List.foldl_append]; rfl
theorem posY_take (k : Int) (l : List Cel) (x : Int) (i : Nat) (h : i < l.length) : posY k (l.take (i + 1)) x = stepY k l[i] (posY k (l.take i) x) := by
  rw [posY, List.take_add_one, List.getElem?_eq_getElem h, List.foldl_append]; rfl
theorem Cel.setps_append (k : Int) (l m : List Cel) (x y : Int) : Cel.setps k (l ++ m) x y = Cel.setps k l x y ++ Cel.setps k m (posX k l x) (posY k l y) := by
  induction l generalizing x y with
  | nil => simp [Cel.setps, posX, posY]
  | cons c cs ih => simp [Cel.setps, ih, posX, posY]
theorem Cel.setps_take (k : Int) (l : List Cel) (x y : Int) (i : Nat) (h : i < l.length) :
    Cel.setps k (l.take (i + 1)) x y = Cel.setps k (l.take i) x y ++ [l[i].setp (posX k (l.take i) x) (posY k (l.take i) y)] := by
  rw [List.take_add_one, List.getElem?_eq_getElem h, Cel.setps_append]; simp [Cel.setps]

def Cel.withX (c : Cel) (x : Int) : Cel := .mk c.kind ⟨x, c.r.y, c.r.w, c.r.h⟩ c.id c.kids
def Cel.withY (c : Cel) (y : Int) : Cel := .mk c.kind ⟨c.r.x, y, c.r.w, c.r.h⟩ c.id c.kids
@[go_sem high] theorem Cel.put1 (c : Cel) (x : Int) : splice c.row 1 [.int .i64 x] = (c.withX x).row := by rw [c.row_eq, (c.withX x).row_eq]; rfl
@[go_sem high] theorem Cel.put2 (c : Cel) (y : Int) : splice c.row 2 [.int .i64 y] = (c.withY y).row := by rw [c.row_eq, (c.withY y).row_eq]; rfl
@[go_sem] theorem Cel.withX_kids (c : Cel) (x : Int) : (c.withX x).kids = c.kids := rfl
@[go_sem] theorem Cel.withY_kids (c : Cel) (x : Int) : (c.withY x).kids = c.kids := rfl
@[go_sem] theorem Cel.withX_kind (c : Cel) (x : Int) : (c.withX x).kind = c.kind := rfl
@[go_sem] theorem Cel.withY_kind (c : Cel) (x : Int) : (c.withY x).kind = c.kind := rfl

/-- what a function that hands back a cell with kids of its own comes to -/
def ownK (d : Cel) (h : Heap) (e : IEnd) (h' : Heap) : Prop :=
  (e = .ret (.agg d.row) ∧ h' = h) ∨
  (∃ b cap, h b = none ∧ e = .ret (.agg (d.rowK (.sl 7 b 0 d.kids.length cap))) ∧ h' = upd h b (some (.arr 41 7 (d.kids.map Cel.row) cap)))
theorem ownK_fz {d : Cel} {h : Heap} {P : Program} {f : FuncId} {args : List IV} (hc : ICall P f args h (ownK d h)) : ICall P f args h (retP (.agg d.row) h) := by
  refine hc.fz ?_
  rintro e h' (⟨rfl, rfl⟩ | ⟨b, cap, hb, rfl, rfl⟩)
  · exact .inl ⟨rfl, rfl⟩
  · refine .inr ⟨_, b, 41, 7, d.kids.map Cel.row, cap, rfl, by simp [upd], ?_, ?_⟩
    · have h1 := d.rowK_fz b d.kids cap
      have h2 : d.withKids d.kids = d := by cases d; rfl
      rw [h2] at h1
      simp only [fz3, fz2, h1]
    · funext j
      simp only [dropH, upd]
      split
      · rename_i e; rw [e, hb]
      · rfl
end Go.Proofs

set_option linter.unusedVariables false
set_option linter.unusedSimpArgs false
set_option pp.deepTerms false
set_option pp.maxSteps 400
namespace Go.Proofs
open Go.Idl

theorem Cel.withKids_self (c : Cel) : c.withKids c.kids = c := by cases c; rfl
theorem Cel.row_drop7 (c : Cel) : c.row.drop 7 = [] := by rw [c.row_eq]; rfl
theorem Cel.rowK_nil (d : Cel) : d.rowK (.list .plain []) = (d.withKids []).row := by rw [d.rowK_eq, (d.withKids []).row_eq]; rfl

set_option maxRecDepth 20000 in
set_option maxHeartbeats 4000000 in
theorem clone_c (c : Cel) : ∀ (h : Heap), c.size < 100000000000 → ICall Tryz.prog 64 [.agg c.row] h (retP (.agg c.row) h) := by
  induction c using Cel.induct
  rename_i c ih
  intro h hs
  have hlen := Cel.len_le c.kids
  rw [c.size_eq] at hs
  refine ownK_fz ?_
  refine icall_of_iwp (fun _ => 0) Tryz.func64 rfl (by kernel_rfl) (Nat.le_of_ble_eq_true rfl) ?_
  rw [Tryz.results64]
  simp -implicitDefEqProofs [go_sem]
  refine (cloneCel_c c.kids h (by omega)).mono ?_
  rintro e h' (⟨hkn, rfl, he⟩ | ⟨hkn, b, cap, hb, hcap, rfl, he⟩)
  · rw [he]
    have hkl : c.kids.length = 0 := by rw [hkn]; rfl
    simp -implicitDefEqProofs [go_sem, Cel.rowK_nil, hkl]
    refine iwp_loop (fun s => s = _) (fun _ => 0) rfl ?_
    rintro _ rfl
    simp -implicitDefEqProofs [go_sem, hkl]
    refine ⟨h, Sub.refl _, .inl ⟨?_, rfl⟩⟩
    rw [← hkn, Cel.withKids_self]
  · rw [he]
    simp -implicitDefEqProofs [go_sem]
    refine iwp_loopF (rng [3,4] 12 24) (fun k => k == 4) (fun s => ∃ i, i ≤ c.kids.length ∧ s.t 12 = .int .i64 i ∧ s.h = upd h b (some (.arr 41 7 (c.kids.map Cel.row) cap))) (fun s => c.kids.length - tn (s.t 12)) ?_ ?_
    · exact ⟨0, Nat.zero_le _, by simp -implicitDefEqProofs [go_sem], by simp -implicitDefEqProofs [go_sem]⟩
    rintro J s hJ hf ⟨i, hi, h12, hh⟩
    simp -implicitDefEqProofs [go_sem, h12, hf.t, hf.m]
    refine cK_dec (fun hlt => ?_) (fun hge => ?_)
    · have hg : c.kids[i]? = some c.kids[i] := List.getElem?_eq_getElem hlt
      have hw := wrap_succ (i := i) (by omega)
      have hst := Cel.sizes_take c.kids i hlt
      have hle := Cel.sizes_le c.kids (i + 1)
      obtain ⟨rowsI, hrowsI⟩ : ∃ r, r = c.kids.map Cel.row := ⟨_, rfl⟩
      rw [← hrowsI] at hh
      have hrow : rowsI[i]? = some c.kids[i].row := by rw [hrowsI, List.getElem?_map, hg]; rfl
      have hset : rowsI.set i c.kids[i].row = c.kids.map Cel.row := by
        rw [← hrowsI]
        have hil : i < rowsI.length := by rw [hrowsI]; simpa using hlt
        have : rowsI[i] = c.kids[i].row := by
          have := List.getElem?_eq_getElem hil
          rw [hrow] at this
          exact (Option.some.inj this).symm
        rw [← this, List.set_getElem_self]
      simp -implicitDefEqProofs [go_sem, h12, hf.t, hf.m, hh, hrow, hlt, hg]
      refine iwp_drawn_of mixed [0, 1, 2, 3, 4, 5, 6] (by kernel_rfl) ?_
      simp -implicitDefEqProofs [go_sem, h12, hh, hf.t, hf.m, hlt, hg, hrow]
      refine ⟨_, ih _ (List.getElem_mem hlt) _ (by omega), ?_⟩
      simp -implicitDefEqProofs [go_sem, h12, hh, hf.t, hf.m, hf, hlt, hg, hrow, hset, hw]
      refine hJ _ ⟨i + 1, by omega, by simp -implicitDefEqProofs [go_sem, hw], ?_⟩ (by simp [go_sem, h12, hw]; omega)
      funext j
      simp -implicitDefEqProofs [go_sem, hh, Cel.row_drop7, hset]
      try (split <;> rfl)
    · obtain rfl : i = c.kids.length := by omega
      simp -implicitDefEqProofs [go_sem, h12, hh, hf.t, hf.m]
      exact ⟨_, Sub.refl _, .inr ⟨b, cap, hb, rfl, rfl⟩⟩

set_option maxRecDepth 20000 in
set_option maxHeartbeats 4000000 in
theorem set_c (c : Cel) : ∀ (x y : Int) (h : Heap), c.size < 100000000000 → ICall Tryz.prog 95 [.agg c.row, .int .i64 x, .int .i64 y] h (retP (.agg (c.setp x y).row) h) := by
  induction c using Cel.induct
  rename_i c ih
  intro x y h hs
  have hlen := Cel.len_le c.kids
  rw [c.size_eq] at hs
  refine ownK_fz ?_
  have hcs : c.setp x y = ((c.withX x).withY y).withKids (Cel.setps c.kind c.kids x y) := by rw [c.setp_eq]; rfl
  refine icall_of_iwp (fun _ => 0) Tryz.func95 rfl (by kernel_rfl) (Nat.le_of_ble_eq_true rfl) ?_
  rw [Tryz.results95]
  simp -implicitDefEqProofs [go_sem]
  refine (cloneCel_c c.kids h (by omega)).mono ?_
  rintro e h' (⟨hkn, rfl, he⟩ | ⟨hkn, b, cap, hb, hcap, rfl, he⟩)
  · rw [he]
    have hkl : c.kids.length = 0 := by rw [hkn]; rfl
    simp -implicitDefEqProofs [go_sem, Cel.rowK_nil, hkl]
    refine iwp_loop (fun s => s = _) (fun _ => 0) rfl ?_
    rintro _ rfl
    simp -implicitDefEqProofs [go_sem, hkl]
    refine ⟨h, Sub.refl _, .inl ⟨?_, rfl⟩⟩
    rw [hcs, hkn]; simp [Cel.setps]
  · rw [he]
    simp -implicitDefEqProofs [go_sem]
    refine iwp_loopF (rng [1,2,7,8] 22 54) (fun k => k == 8) (fun s => ∃ i, i ≤ c.kids.length ∧ s.t 22 = .int .i64 i ∧ s.t 1 = .int .i64 (posX c.kind (c.kids.take i) x) ∧ s.t 2 = .int .i64 (posY c.kind (c.kids.take i) y) ∧ s.h = upd h b (some (.arr 41 7 ((Cel.setps c.kind (c.kids.take i) x y ++ c.kids.drop i).map Cel.row) cap))) (fun s => c.kids.length - tn (s.t 22)) ?_ ?_
    · exact ⟨0, Nat.zero_le _, by simp -implicitDefEqProofs [go_sem], by simp -implicitDefEqProofs [go_sem, posX], by simp -implicitDefEqProofs [go_sem, posY], by simp -implicitDefEqProofs [go_sem, Cel.setps]⟩
    rintro J s hJ hf ⟨i, hi, h22, h1, h2, hh⟩
    simp -implicitDefEqProofs [go_sem, h22, h1, h2, hf.t, hf.m]
    refine cK_dec (fun hlt => ?_) (fun hge => ?_)
    · have hg : c.kids[i]? = some c.kids[i] := List.getElem?_eq_getElem hlt
      have hw := wrap_succ (i := i) (by omega)
      have hst := Cel.sizes_take c.kids i hlt
      have hle := Cel.sizes_le c.kids (i + 1)
      have hnmt := Cel.setps_take c.kind c.kids x y i hlt
      have hx := posX_take c.kind c.kids x i hlt
      have hy := posY_take c.kind c.kids y i hlt
      have hnl : (Cel.setps c.kind (c.kids.take i) x y).length = i := by rw [Cel.setps_length]; simp; omega
      have hdk2 : c.kids.drop i = c.kids[i] :: c.kids.drop (i + 1) := List.drop_eq_getElem_cons hlt
      obtain ⟨rowsI, hrowsI⟩ : ∃ r, r = (Cel.setps c.kind (c.kids.take i) x y ++ c.kids.drop i).map Cel.row := ⟨_, rfl⟩
      rw [← hrowsI] at hh
      obtain ⟨px, hpx⟩ : ∃ p, p = posX c.kind (c.kids.take i) x := ⟨_, rfl⟩
      obtain ⟨py, hpy⟩ : ∃ p, p = posY c.kind (c.kids.take i) y := ⟨_, rfl⟩
      rw [← hpx] at h1 hx hnmt
      rw [← hpy] at h2 hy hnmt
      have hrow : rowsI[i]? = some c.kids[i].row := by
        rw [hrowsI, List.getElem?_map, List.getElem?_append_right (by omega), hnl, Nat.sub_self, hdk2]; rfl
      have hset : rowsI.set i (c.kids[i].setp px py).row = (Cel.setps c.kind (c.kids.take (i + 1)) x y ++ c.kids.drop (i + 1)).map Cel.row := by
        have h5 := set_mid (Cel.setps c.kind (c.kids.take i) x y) (c.kids.drop (i + 1)) c.kids[i] (c.kids[i].setp px py)
        rw [hnl] at h5
        rw [hrowsI, hdk2, ← List.map_set, h5, hnmt, List.append_assoc]; rfl
      simp -implicitDefEqProofs [go_sem, h22, h1, h2, hf.t, hf.m, hh, hrow, hlt, hg]
      refine iwp_drawn_of mixed [0, 1, 2, 3, 4, 5, 6, 7, 8] (by kernel_rfl) ?_
      simp -implicitDefEqProofs [go_sem, h22, h1, h2, hh, hf.t, hf.m, hlt, hg, hrow]
      refine ⟨_, ih _ (List.getElem_mem hlt) px py _ (by omega), ?_⟩
      simp -implicitDefEqProofs [go_sem, h22, h1, h2, hh, hf.t, hf.m, hf, hlt, hg, hrow, hset, hw]
      have fin : ∀ st : St, st.t 22 = .int .i64 ((i + 1 : Nat) : Int) → st.t 1 = .int .i64 (stepX c.kind c.kids[i] px) → st.t 2 = .int .i64 (stepY c.kind c.kids[i] py) → st.h = upd h b (some (.arr 41 7 ((Cel.setps c.kind (c.kids.take (i + 1)) x y ++ c.kids.drop (i + 1)).map Cel.row) cap)) → ∃ i, i ≤ c.kids.length ∧ st.t 22 = .int .i64 i ∧ st.t 1 = .int .i64 (posX c.kind (c.kids.take i) x) ∧ st.t 2 = .int .i64 (posY c.kind (c.kids.take i) y) ∧ st.h = upd h b (some (.arr 41 7 ((Cel.setps c.kind (c.kids.take i) x y ++ c.kids.drop i).map Cel.row) cap)) :=
        fun st a1 a2 a3 a4 => ⟨i + 1, by omega, a1, by rw [a2, hx], by rw [a3, hy], a4⟩
      refine cK_beq (fun k2 => ?_) (fun k2 => ?_) <;> simp -implicitDefEqProofs [go_sem, h22, h1, h2, hh, hf.t, hf.m, hf, hw]
      · refine hJ _ (fin _ (by simp -implicitDefEqProofs [go_sem, hw]) (by simp -implicitDefEqProofs [go_sem, stepX, k2]) (by simp -implicitDefEqProofs [go_sem, stepY, k2, h2]) ?_) (by simp [go_sem, h22, hw]; omega)
        funext j
        simp -implicitDefEqProofs [go_sem, hh, Cel.row_drop7, hset]
        try (split <;> rfl)
      refine cK_beq (fun k3 => ?_) (fun k3 => ?_) <;> simp -implicitDefEqProofs [go_sem, h22, h1, h2, hh, hf.t, hf.m, hf, hw]
      · refine hJ _ (fin _ (by simp -implicitDefEqProofs [go_sem, hw]) (by simp -implicitDefEqProofs [go_sem, stepX, k2, h1]) (by simp -implicitDefEqProofs [go_sem, stepY, k2, k3]) ?_) (by simp [go_sem, h22, hw]; omega)
        funext j
        simp -implicitDefEqProofs [go_sem, hh, Cel.row_drop7, hset]
        try (split <;> rfl)
      · refine hJ _ (fin _ (by simp -implicitDefEqProofs [go_sem, hw]) (by simp -implicitDefEqProofs [go_sem, stepX, k2, h1]) (by simp -implicitDefEqProofs [go_sem, stepY, k2, k3, h2]) ?_) (by simp [go_sem, h22, hw]; omega)
        funext j
        simp -implicitDefEqProofs [go_sem, hh, Cel.row_drop7, hset]
        try (split <;> rfl)
    · obtain rfl : i = c.kids.length := by omega
      rw [List.take_length, List.drop_length, List.append_nil] at hh
      simp -implicitDefEqProofs [go_sem, h22, h1, h2, hh, hf.t, hf.m]
      have hkk : (c.setp x y).kids = Cel.setps c.kind c.kids x y := by rw [hcs]; rfl
      refine ⟨_, Sub.refl _, .inr ⟨b, cap, hb, ?_, by rw [hkk]⟩⟩
      rw [hkk, Cel.setps_length, hcs, Cel.withKids_rowK]
end Go.Proofs

set_option linter.unusedVariables false
set_option linter.unusedSimpArgs false
set_option pp.deepTerms false
set_option pp.maxSteps 400
namespace Go.Proofs
open Go.Idl

theorem _root_.Go.Idl.Sub.upd' {h h2 : Heap} (hs : Sub h h2) {b : Nat} (hb : h2 b = none) (o : Option IObj) : Sub h (upd h2 b o) := by
  intro b' o' hb'
  have h1 := hs b' o' hb'
  have hne : b' ≠ b := by rintro rfl; rw [hb] at h1; cases h1
  simp [upd, hne, h1]

def idxF (l : List Int) (x : Int) (h : Heap) (e : IEnd) (h' : Heap) : Prop := h' = h ∧ ((x ∉ l ∧ e = .ret (.int .i64 (-1))) ∨ ∃ (i : Nat) (hi : i < l.length), l[i] = x ∧ e = .ret (.int .i64 i))
theorem indexF_c (l : List Int) (x : Int) (h : Heap) (hl : l.length < 100000000000) :
    ICall Tryz.prog 65 [.list .plain (l.map intRow), .int .i64 x] h (idxF l x h) := by
  refine icall_of_iwp (fun _ => 0) Tryz.func65 rfl (by kernel_rfl) (Nat.le_of_ble_eq_true rfl) ?_
  rw [Tryz.results65]
  simp -implicitDefEqProofs [go_sem]
  refine iwp_loopF (rng [4,5] 8 18) nom (fun s => ∃ i : Nat, i ≤ l.length ∧ s.t 8 = .int .i64 i ∧ x ∉ l.take i ∧ s.h = h) (fun s => l.length - tn (s.t 8)) ?_ ?_
  · exact ⟨0, Nat.zero_le _, by simp -implicitDefEqProofs [go_sem], by simp, by simp -implicitDefEqProofs [go_sem]⟩
  rintro J s hJ hf ⟨i, hi, h8, hnx, hh⟩
  simp -implicitDefEqProofs [go_sem, h8, hh, hf.t, hf.m]
  refine cK_dec (fun hlt => ?_) (fun hge => ?_)
  · have hg : l[i]? = some l[i] := List.getElem?_eq_getElem hlt
    have hw := wrap_succ (i := i) (by omega)
    simp -implicitDefEqProofs [go_sem, h8, hh, hf.t, hf.m, hlt, hg]
    refine cK_beq (fun k1 => ?_) (fun k1 => ?_) <;> simp -implicitDefEqProofs [go_sem, h8, hh, hf.t, hf.m, hf, hw]
    · exact ⟨h, Sub.refl _, rfl, .inr ⟨i, hlt, k1.symm, rfl⟩⟩
    · refine hJ _ ⟨i + 1, by omega, by simp -implicitDefEqProofs [go_sem, hw], ?_, by simp -implicitDefEqProofs [go_sem, hh]⟩ (by simp [go_sem, h8, hw]; omega)
      rw [List.take_add_one, hg]
      simp only [List.mem_append, not_or]
      exact ⟨hnx, by simp; exact k1⟩
  · simp -implicitDefEqProofs [go_sem, h8, hh, hf.t, hf.m]
    rw [List.take_of_length_le (by omega)] at hnx
    exact ⟨h, Sub.refl _, rfl, .inl ⟨hnx, rfl⟩⟩

theorem contains_c (l : List Int) (x : Int) (h : Heap) (hl : l.length < 100000000000) :
    ICall Tryz.prog 35 [.list .plain (l.map intRow), .int .i64 x] h (retP (.bool (decide (x ∈ l))) h) := by
  refine icall_of_iwp (fun _ => 0) Tryz.func35 rfl (by kernel_rfl) (Nat.le_of_ble_eq_true rfl) ?_
  rw [Tryz.results35]
  simp -implicitDefEqProofs [go_sem]
  refine (indexF_c l x h hl).mono ?_
  rintro e h' ⟨rfl, ⟨hn, rfl⟩ | ⟨i, hi, hx, rfl⟩⟩
  · simp -implicitDefEqProofs [go_sem]
    exact ⟨h', Sub.refl _, by rw [decide_eq_false hn], rfl⟩
  · have h0 : (0 : Int) ≤ (i : Int) := by omega
    simp -implicitDefEqProofs [go_sem, h0]
    exact ⟨h', Sub.refl _, by rw [decide_eq_true (hx ▸ List.getElem_mem hi)], rfl⟩

theorem idsz_le (c : Cel) : c.ids.length ≤ c.size := by
  have h1 := Cel.all_length c
  rw [Cel.ids, List.length_map, Cel.leaves]
  have := List.length_filter_le (fun d => d.kind == 1) c.all
  omega

set_option maxRecDepth 20000 in
theorem wmay_c (w : Wn) (h : Heap) (hs : w.tree.size < 100000000) : ICall Tryz.prog 83 [.agg w.row] h (retP (.bool w.may) h) := by
  have hl := idsz_le w.tree
  refine icall_of_iwp (fun _ => 0) Tryz.func83 rfl (by kernel_rfl) (Nat.le_of_ble_eq_true rfl) ?_
  rw [Tryz.results83]
  simp -implicitDefEqProofs [go_sem]
  refine (cLeaves_c w.tree h (by omega)).mono ?_
  rintro e h' ⟨rfl, he⟩
  rw [he]
  simp -implicitDefEqProofs [go_sem]
  refine (tTiles_c w.tree h (by omega)).mono ?_
  rintro e h' ⟨rfl, he⟩
  rw [he]
  cases ht : w.tree.tiles with
  | false =>
    have hm : w.may = false := by simp [Wn.may, ht]
    simp -implicitDefEqProofs [go_sem]
    exact ⟨h, Sub.refl _, by rw [hm], rfl⟩
  | true =>
    by_cases hx : w.tree.r.x = 0
    · by_cases hy : w.tree.r.y = 0
      · simp -implicitDefEqProofs [go_sem, hx, hy]
        refine (contains_c w.tree.ids w.act h (by omega)).mono ?_
        rintro e h' ⟨rfl, he⟩
        rw [he]
        by_cases ha : w.act ∈ w.tree.ids
        · cases hz : w.z with
          | false =>
            have hm : w.may = true := by simp [Wn.may, ht, hx, hy, ha, hz]
            simp -implicitDefEqProofs [go_sem, ha, hz]
            exact ⟨h, Sub.refl _, by rw [hm], rfl⟩
          | true =>
            have hm : w.may = decide (1 < w.tree.ids.length) := by simp [Wn.may, ht, hx, hy, ha, hz]
            simp -implicitDefEqProofs [go_sem, ha, hz]
            refine ⟨h, Sub.refl _, by rw [hm]; congr 1; simp; try omega, rfl⟩
        · have hm : w.may = false := by simp [Wn.may, ha]
          simp -implicitDefEqProofs [go_sem, ha]
          exact ⟨h, Sub.refl _, by rw [hm], rfl⟩
      · have hm : w.may = false := by simp [Wn.may, hy]
        have hyb : (w.tree.r.y == 0) = false := by simpa using hy
        simp -implicitDefEqProofs [go_sem, hx, hyb]
        exact ⟨h, Sub.refl _, by rw [hm], rfl⟩
    · have hm : w.may = false := by simp [Wn.may, hx]
      have hxb : (w.tree.r.x == 0) = false := by simpa using hx
      simp -implicitDefEqProofs [go_sem, hxb]
      exact ⟨h, Sub.refl _, by rw [hm], rfl⟩

def chgV (w w2 : Wn) (er : Int) : IV := if w.may = true then (if er = 0 then .tup [.agg w2.row, .int .i64 0] else .tup [.agg w.row, .int .i64 er]) else .tup [.agg w.row, .int .i64 1]

set_option maxRecDepth 20000 in
theorem changed_c (w : Wn) (f : FuncId) (cap : List IV) (w2 : Wn) (er : Int) (h : Heap) (hs : w.tree.size < 100000000)
    (hf : w.may = true → ∀ b, h b = none → ICall Tryz.prog f (.ptr b 0 :: cap) (upd h b (some (.cells (Wn.mk w.tree w.act false).row))) (retP (.int .i64 er) (upd h b (some (.cells w2.row))))) :
    ICall Tryz.prog 55 [.agg w.row, .fn (.func f) [] cap] h (retP (chgV w w2 er) h) := by
  refine icall_of_iwp (fun d => if d = 6 then 1 else 0) Tryz.func55 rfl (by kernel_rfl) (Nat.le_of_ble_eq_true rfl) ?_
  rw [Tryz.results55]
  simp -implicitDefEqProofs [go_sem]
  refine (wmay_c w h hs).mono ?_
  rintro e h' ⟨rfl, he⟩
  rw [he]
  cases hm : w.may with
  | false =>
    simp -implicitDefEqProofs [go_sem]
    exact ⟨h, Sub.refl _, by rw [chgV, if_neg (by rw [hm]; simp)], rfl⟩
  | true =>
    simp -implicitDefEqProofs [go_sem]
    intro b hb
    refine (hf hm b hb).mono ?_
    rintro e h' ⟨rfl, he⟩
    rw [he]
    by_cases her : er = 0
    · subst her
      simp -implicitDefEqProofs [go_sem]
      exact ⟨h, (Sub.refl _).upd hb _, by rw [chgV, if_pos hm, if_pos rfl], rfl⟩
    · have hb1 : (er != 0) = true := by simpa using her
      simp -implicitDefEqProofs [go_sem, hb1]
      exact ⟨h, (Sub.refl _).upd hb _, by rw [chgV, if_pos hm, if_neg her], rfl⟩

def zomE (w : Wn) (id : Int) : Int := if id ∈ w.tree.ids then (if w.tree.kind = 1 then 10 else 0) else 6
def zomW (w : Wn) (z : Bool) (id : Int) : Wn := if zomE w id = 0 then ⟨w.tree, id, !z || decide (w.act ≠ id)⟩ else ⟨w.tree, w.act, false⟩

end Go.Proofs

set_option linter.unusedVariables false
set_option linter.unusedSimpArgs false
set_option pp.deepTerms false
set_option pp.maxSteps 400
namespace Go.Proofs
open Go.Idl

noncomputable def Wn.same (a b : Wn) : Bool := (a.act == b.act) && (a.z == b.z) && a.tree.beq b.tree
theorem leaf_c (r : Rct) (id : Int) (h : Heap) : ICall Tryz.prog 87 [.agg r.row, .int .i64 id] h (retP (.agg (Cel.mk 1 r id []).row) h) := by
  refine icall_of_iwp (fun _ => 0) Tryz.func87 rfl (by kernel_rfl) (Nat.le_of_ble_eq_true rfl) ?_
  rw [Tryz.results87, Cel.row_mk]
  simp -implicitDefEqProofs [go_sem]
  exact ⟨h, Sub.refl _, rfl, rfl⟩

theorem lsize_c (r : Rct) (h : Heap) : ICall Tryz.prog 91 [.agg r.row, .int .u8 1] h (retP (.int .i64 r.w) h) := by
  refine icall_of_iwp (fun _ => 0) Tryz.func91 rfl (by kernel_rfl) (Nat.le_of_ble_eq_true rfl) ?_
  rw [Tryz.results91]
  simp -implicitDefEqProofs [go_sem]
  exact ⟨h, Sub.refl _, rfl, rfl⟩

theorem wr78 : IntKind.i64.wrap (80 - 2) = 78 := by decide
theorem wr40 : IntKind.i64.wrap (80 / 2) = 40 := by decide
theorem wrm1 : IntKind.i64.wrap (-1) = -1 := by decide
theorem wrn1 : IntKind.i64.wrap (0 - 1) = -1 := by decide
theorem sizes80_c (h : Heap) : ICall Tryz.prog 116 [.int .i64 80, .int .i64 0] h (retP (.tup [.int .i64 40, .int .i64 39, .bool true]) h) := by
  refine icall_of_iwp (fun _ => 0) Tryz.func116 rfl (by kernel_rfl) (Nat.le_of_ble_eq_true rfl) ?_
  rw [Tryz.results116]
  simp -implicitDefEqProofs [go_sem]
  exact ⟨h, Sub.refl _, rfl, rfl⟩

theorem sized_c (r : Rct) (n id : Int) (h : Heap) : ICall Tryz.prog 117 [.agg r.row, .int .u8 1, .int .i64 n, .int .i64 id] h (retP (.agg (Cel.mk 1 ⟨r.x, r.y, n, r.h⟩ id []).row) h) := by
  refine icall_of_iwp (fun _ => 0) Tryz.func117 rfl (by kernel_rfl) (Nat.le_of_ble_eq_true rfl) ?_
  rw [Tryz.results117]
  have hsp : splice r.row 2 [.int .i64 n] = (Rct.mk r.x r.y n r.h).row := rfl
  simp -implicitDefEqProofs [go_sem, hsp]
  refine (leaf_c ⟨r.x, r.y, n, r.h⟩ id h).mono ?_
  rintro e h' ⟨rfl, he⟩
  rw [he]
  simp -implicitDefEqProofs [go_sem]
  exact ⟨h, Sub.refl _, rfl, rfl⟩

def rA : Rct := ⟨0, 0, 80, 24⟩
def tA : Cel := .mk 1 rA 0 []
def lA : Cel := .mk 1 ⟨0, 0, 40, 24⟩ 0 []
def lB : Cel := .mk 1 ⟨0, 0, 39, 24⟩ 1 []
def tB : Cel := .mk 2 rA 0 [lA, lB]
def tC : Cel := tB.setp 0 0
def wA : Wn := ⟨tA, 0, false⟩
def wB : Wn := ⟨tC, 1, false⟩
def wC : Wn := ⟨tC, 1, true⟩

theorem two_c (h : Heap) : ICall Tryz.prog 93 [.agg tA.row, .int .u8 1, .int .i64 0, .int .i64 1, .bool false] h (retP (.list .plain [lA.row, lB.row]) h) := by
  refine icall_of_iwp (fun _ => 0) Tryz.func93 rfl (by kernel_rfl) (Nat.le_of_ble_eq_true rfl) ?_
  rw [Tryz.results93]
  have hr : tA.r = rA := rfl
  have hid : tA.id = 0 := rfl
  simp -implicitDefEqProofs [go_sem, hr, hid]
  refine (lsize_c rA h).mono ?_
  rintro e h' ⟨rfl, he⟩
  rw [he]
  simp -implicitDefEqProofs [go_sem]
  refine (sizes80_c h).mono ?_
  rintro e h' ⟨rfl, he⟩
  rw [he]
  simp -implicitDefEqProofs [go_sem]
  refine iwp_drawn_of mixed [0, 1, 2, 3, 4, 5, 6, 7, 8, 9, 10, 11, 12, 13, 14] (by kernel_rfl) ?_
  simp -implicitDefEqProofs [go_sem, hr, hid]
  refine ⟨_, sized_c rA 40 0 h, ?_⟩
  simp -implicitDefEqProofs [go_sem, hr, hid]
  refine ⟨_, sized_c rA 39 1 h, ?_⟩
  simp -implicitDefEqProofs [go_sem, hr, hid]
  exact ⟨h, Sub.refl _, rfl, rfl⟩

theorem put0_c (c k : Cel) (h : Heap) (hs : k.size < 100000000000) : ICall Tryz.prog 106 [.agg c.row, .agg k.row, .list .plain []] h (retP (.tup [.agg k.row, .bool true]) h) := by
  refine icall_of_iwp (fun _ => 0) Tryz.func106 rfl (by kernel_rfl) (Nat.le_of_ble_eq_true rfl) ?_
  rw [Tryz.results106]
  simp -implicitDefEqProofs [go_sem]
  refine (clone_c k h hs).mono ?_
  rintro e h' ⟨rfl, he⟩
  rw [he]
  simp -implicitDefEqProofs [go_sem]
  exact ⟨h, Sub.refl _, rfl, rfl⟩

theorem at0_c (c : Cel) (h : Heap) (hs : c.size < 100000000000) : ICall Tryz.prog 34 [.agg c.row, .list .plain []] h (retP (.tup [.agg c.row, .bool true]) h) := by
  refine icall_of_iwp (fun _ => 0) Tryz.func34 rfl (by kernel_rfl) (Nat.le_of_ble_eq_true rfl) ?_
  rw [Tryz.results34]
  simp -implicitDefEqProofs [go_sem]
  refine iwp_loop (fun s => s = _) (fun _ => 0) rfl ?_
  rintro _ rfl
  simp -implicitDefEqProofs [go_sem]
  refine (clone_c c h hs).mono ?_
  rintro e h' ⟨rfl, he⟩
  rw [he]
  simp -implicitDefEqProofs [go_sem]
  exact ⟨h, Sub.refl _, rfl, rfl⟩

theorem findLeaf_c (c : Cel) (id : Int) (h : Heap) (hk : c.kind = 1) (hid : c.id = id) : ICall Tryz.prog 90 [.agg c.row, .int .i64 id] h (retP (.tup [.list .plain [], .bool true]) h) := by
  refine icall_of_iwp (fun _ => 0) Tryz.func90 rfl (by kernel_rfl) (Nat.le_of_ble_eq_true rfl) ?_
  rw [Tryz.results90]
  simp -implicitDefEqProofs [go_sem, hk, hid]
  exact ⟨h, Sub.refl _, rfl, rfl⟩

theorem join_c (h : Heap) : ICall Tryz.prog 92 [.agg tA.row, .list .plain [], .agg tA.row, .int .u8 1, .list .plain [lA.row, lB.row]] h (retP (.agg tB.row) h) := by
  refine icall_of_iwp (fun _ => 0) Tryz.func92 rfl (by kernel_rfl) (Nat.le_of_ble_eq_true rfl) ?_
  rw [Tryz.results92]
  have hneg : ¬ ((0 : Int) ≤ -1) := by omega
  have hr : tA.r = rA := rfl
  have hrow : [IV.int .u8 2, .int .i64 rA.x, .int .i64 rA.y, .int .i64 rA.w, .int .i64 rA.h, .int .i64 0, .list .plain [lA.row, lB.row]] = tB.row := by rw [Cel.row_eq]; rfl
  have hrow2 : [IV.int .u8 2, .int .i64 0, .int .i64 0, .int .i64 80, .int .i64 24, .int .i64 0, .list .plain [lA.row, lB.row]] = tB.row := by rw [Cel.row_eq]; rfl
  simp -implicitDefEqProofs [go_sem, hr, wrm1, wrn1, hneg]
  first | rw [hrow] | rw [hrow2] | skip
  refine (put0_c tA tB h (by decide +kernel)).mono ?_
  rintro e h' ⟨rfl, he⟩
  rw [he]
  simp -implicitDefEqProofs [go_sem]
  exact ⟨h, Sub.refl _, rfl, rfl⟩
end Go.Proofs

set_option linter.unusedVariables false
set_option linter.unusedSimpArgs false
set_option pp.deepTerms false
set_option pp.maxSteps 400
namespace Go.Proofs
open Go.Idl

set_option maxRecDepth 20000 in
theorem sizeL_c (l : List Cel) (hs : Cel.sizes l < 100000000000) (ih : ∀ d ∈ l, ∀ h, ICall Tryz.prog 94 [.list .plain (d.kids.map Cel.row)] h (retP (.int .i64 (Cel.sizes d.kids)) h)) (h : Heap) :
    ICall Tryz.prog 94 [.list .plain (l.map Cel.row)] h (retP (.int .i64 (Cel.sizes l)) h) := by
  have hlen := Cel.len_le l
  refine icall_of_iwp (fun _ => 0) Tryz.func94 rfl (by kernel_rfl) (Nat.le_of_ble_eq_true rfl) ?_
  rw [Tryz.results94]
  simp -implicitDefEqProofs [go_sem]
  refine iwp_loopF (rng [3,5] 10 20) (fun k => k == 5) (fun s => ∃ i n : Nat, i ≤ l.length ∧ s.t 10 = .int .i64 i ∧ s.t 3 = .int .i64 n ∧ n + i = l.length + Cel.sizes (l.take i) ∧ s.h = h) (fun s => l.length - tn (s.t 10)) ?_ ?_
  · exact ⟨0, l.length, Nat.zero_le _, by simp -implicitDefEqProofs [go_sem], by simp -implicitDefEqProofs [go_sem], by simp [Cel.sizes], by simp -implicitDefEqProofs [go_sem]⟩
  rintro J s hJ hf ⟨i, n, hi, h10, h3, hn, hh⟩
  simp -implicitDefEqProofs [go_sem, h10, h3, hh, hf.t, hf.m]
  refine cK_dec (fun hlt => ?_) (fun hge => ?_)
  · have hg : l[i]? = some l[i] := List.getElem?_eq_getElem hlt
    have hw := wrap_succ (i := i) (by omega)
    have hst := Cel.sizes_take l i hlt
    have hle := Cel.sizes_le l (i + 1)
    have hse := l[i].size_eq
    have hw2 : IntKind.i64.wrap ((n : Int) + (Cel.sizes l[i].kids : Int)) = ((n + Cel.sizes l[i].kids : Nat) : Int) := by rw [wrap_in (by omega)]; rfl
    simp -implicitDefEqProofs [go_sem, h10, h3, hh, hf.t, hf.m, hlt, hg]
    refine (ih _ (List.getElem_mem hlt) h).mono ?_
    rintro e h' ⟨rfl, he⟩
    rw [he]
    simp -implicitDefEqProofs [go_sem, h10, h3, hh, hf.t, hf.m, hf, hlt, hg, hw, hw2]
    exact hJ _ ⟨i + 1, n + Cel.sizes l[i].kids, by omega, by simp -implicitDefEqProofs [go_sem, hw], by simp -implicitDefEqProofs [go_sem, hw2], by omega, by simp -implicitDefEqProofs [go_sem, hh]⟩ (by simp [go_sem, h10, hw]; omega)
  · obtain rfl : i = l.length := by omega
    rw [List.take_length] at hn
    obtain rfl : n = Cel.sizes l := by omega
    simp -implicitDefEqProofs [go_sem, h10, h3, hh, hf.t, hf.m]
    exact ⟨h, Sub.refl _, rfl, rfl⟩

theorem sizeK_c (c : Cel) : ∀ h, c.size < 100000000000 → ICall Tryz.prog 94 [.list .plain (c.kids.map Cel.row)] h (retP (.int .i64 (Cel.sizes c.kids)) h) := by
  induction c using Cel.induct
  rename_i c ih
  intro h hs
  rw [c.size_eq] at hs
  exact sizeL_c c.kids (by omega) (fun d hd h => ih d hd h (by have := Cel.mem_le hd; omega)) h

theorem size_c (c : Cel) (h : Heap) (hs : c.size < 100000000000) : ICall Tryz.prog 94 [.list .plain [c.row]] h (retP (.int .i64 c.size) h) := by
  have := sizeL_c [c] (by simpa [Cel.sizes] using hs) (fun d hd h => by simp at hd; subst hd; exact sizeK_c _ h hs) h
  have e : Cel.sizes [c] = c.size := by simp [Cel.sizes]
  rw [e] at this
  exact this

theorem tA_tiles : tA.tiles = true := by decide +kernel
theorem tA_ids : tA.ids = [0] := by decide +kernel
theorem wA_may : wA.may = true := by decide +kernel
theorem wB_may : wB.may = true := by decide +kernel
theorem wC_may : wC.may = true := by decide +kernel
theorem wB_ids : wB.tree.ids = [0, 1] := by decide +kernel

set_option maxRecDepth 20000 in
set_option maxHeartbeats 4000000 in
theorem splitLeaf_c (h : Heap) : ICall Tryz.prog 57 [.agg tA.row, .int .i64 0, .int .u8 1, .int .i64 0, .int .i64 1, .bool false] h (retP (.tup [.agg tC.row, .int .i64 0]) h) := by
  refine icall_of_iwp (fun _ => 0) Tryz.func57 rfl (by kernel_rfl) (Nat.le_of_ble_eq_true rfl) ?_
  rw [Tryz.results57]
  have hr : tA.r = rA := rfl
  have hrw : rA.w = 80 := rfl
  have hrx : rA.x = 0 := rfl
  have hry : rA.y = 0 := rfl
  simp -implicitDefEqProofs [go_sem]
  refine (tTiles_c tA h (by decide +kernel)).mono ?_
  rintro e h' ⟨rfl, he⟩
  rw [he, tA_tiles]
  simp -implicitDefEqProofs [go_sem]
  refine (cLeaves_c tA h (by decide +kernel)).mono ?_
  rintro e h' ⟨rfl, he⟩
  rw [he, tA_ids]
  simp -implicitDefEqProofs [go_sem]
  refine (contains_c [0] 1 h (by simp)).mono ?_
  rintro e h' ⟨rfl, he⟩
  rw [he]
  simp -implicitDefEqProofs [go_sem]
  refine (findLeaf_c tA 0 h rfl rfl).mono ?_
  rintro e h' ⟨rfl, he⟩
  rw [he]
  simp -implicitDefEqProofs [go_sem]
  refine (at0_c tA h (by decide +kernel)).mono ?_
  rintro e h' ⟨rfl, he⟩
  rw [he]
  simp -implicitDefEqProofs [go_sem, hr]
  refine (lsize_c rA h).mono ?_
  rintro e h' ⟨rfl, he⟩
  rw [he]
  simp -implicitDefEqProofs [go_sem, hrw]
  refine iwp_drawn_alloc mixed 11 [0, 1, 2, 3, 4, 5, 6, 7, 8, 9, 10, 12] (by kernel_rfl) ?_
  simp -implicitDefEqProofs [go_sem]
  refine ⟨_, two_c h, ?_⟩
  simp -implicitDefEqProofs [go_sem]
  refine ⟨_, join_c h, ?_⟩
  simp -implicitDefEqProofs [go_sem]
  refine (size_c tB h (by decide +kernel)).mono ?_
  rintro e h' ⟨rfl, he⟩
  have hsz : tB.size = 3 := by decide +kernel
  rw [he, hsz]
  simp -implicitDefEqProofs [go_sem, hr, hrx, hry]
  refine (set_c tB 0 0 h (by decide +kernel)).mono ?_
  rintro e h' ⟨rfl, he⟩
  rw [he]
  simp -implicitDefEqProofs [go_sem]
  exact ⟨h, Sub.refl _, rfl, rfl⟩

theorem wset_c (w : Wn) (c : Cel) (b : Nat) (h : Heap) (hb : h b = some (.cells w.row)) : ICall Tryz.prog 58 [.ptr b 0, .agg c.row, .int .i64 0] h (retP (.int .i64 0) (upd h b (some (.cells (Wn.mk c w.act w.z).row)))) := by
  refine icall_of_iwp (fun _ => 0) Tryz.func58 rfl (by kernel_rfl) (Nat.le_of_ble_eq_true rfl) ?_
  rw [Tryz.results58]
  simp -implicitDefEqProofs [go_sem, hb]
  exact ⟨_, Sub.refl _, rfl, rfl⟩

set_option maxRecDepth 20000 in
set_option maxHeartbeats 4000000 in
theorem split1_c (b q1 q2 q3 q4 q5 : Nat) (h : Heap) (hbn : h b = none) (h1 : h q1 = some (.cells [.int .i64 0])) (h2 : h q2 = some (.cells [.int .u8 1])) (h3 : h q3 = some (.cells [.int .i64 0])) (h4 : h q4 = some (.cells [.int .i64 1])) (h5 : h q5 = some (.cells [.bool false])) :
    ICall Tryz.prog 56 [.ptr b 0, .ptr q1 0, .ptr q2 0, .ptr q3 0, .ptr q4 0, .ptr q5 0] (upd h b (some (.cells (Wn.mk tA 0 false).row))) (retP (.int .i64 0) (upd h b (some (.cells wB.row)))) := by
  have n1 : q1 ≠ b := by rintro rfl; rw [hbn] at h1; cases h1
  have n2 : q2 ≠ b := by rintro rfl; rw [hbn] at h2; cases h2
  have n3 : q3 ≠ b := by rintro rfl; rw [hbn] at h3; cases h3
  have n4 : q4 ≠ b := by rintro rfl; rw [hbn] at h4; cases h4
  have n5 : q5 ≠ b := by rintro rfl; rw [hbn] at h5; cases h5
  refine icall_of_iwp (fun _ => 0) Tryz.func56 rfl (by kernel_rfl) (Nat.le_of_ble_eq_true rfl) ?_
  rw [Tryz.results56]
  simp -implicitDefEqProofs [go_sem]
  refine iwp_drawn_alloc mixed 13 [0, 1, 2, 3, 4, 5, 6, 7, 8, 9, 10, 11, 12, 14, 15] (by kernel_rfl) ?_
  simp -implicitDefEqProofs [go_sem, h1, h2, h3, h4, h5, n1, n2, n3, n4, n5]
  refine ⟨_, splitLeaf_c _, ?_⟩
  simp -implicitDefEqProofs [go_sem, h1, h2, h3, h4, h5, n1, n2, n3, n4, n5]
  refine (wset_c ⟨tA, 1, false⟩ tC b _ (by simp [upd])).mono ?_
  rintro e h' ⟨rfl, he⟩
  rw [he]
  simp -implicitDefEqProofs [go_sem]
  exact ⟨_, Sub.refl _, rfl, rfl⟩
end Go.Proofs

set_option linter.unusedVariables false
set_option linter.unusedSimpArgs false
set_option pp.deepTerms false
set_option pp.maxSteps 400
namespace Go.Proofs
open Go.Idl

theorem upd_old {h : Heap} {q b : Nat} {x : IObj} (hq : h q = some x) (hb : h b = none) {o : Option IObj} : upd h b o q = some x := by
  have : q ≠ b := by rintro rfl; rw [hb] at hq; cases hq
  simp [upd, this, hq]

theorem new_c (h : Heap) : ICall Tryz.prog 53 [.int .i64 80, .int .i64 24, .int .i64 0] h (retP (.tup [.agg wA.row, .int .i64 0]) h) := by
  refine icall_of_iwp (fun _ => 0) Tryz.func53 rfl (by kernel_rfl) (Nat.le_of_ble_eq_true rfl) ?_
  rw [Tryz.results53]
  have hrow : [IV.int .i64 0, .int .i64 0, .int .i64 80, .int .i64 24] = rA.row := rfl
  have hrow2 : tA.row ++ [IV.int .i64 0, .bool false] = wA.row := rfl
  simp -implicitDefEqProofs [go_sem]
  rw [hrow]
  refine (leaf_c rA 0 h).mono ?_
  rintro e h' ⟨rfl, he⟩
  rw [he, show Cel.mk 1 rA 0 [] = tA from rfl]
  simp -implicitDefEqProofs [go_sem, hrow2]
  refine (wmay_c wA h (by decide +kernel)).mono ?_
  rintro e h' ⟨rfl, he⟩
  rw [he, wA_may]
  simp -implicitDefEqProofs [go_sem]
  exact ⟨h, Sub.refl _, rfl, rfl⟩

set_option maxRecDepth 20000 in
set_option maxHeartbeats 4000000 in
theorem split_c (h : Heap) : ICall Tryz.prog 30 [.agg wA.row, .int .i64 0, .int .u8 1, .int .i64 0, .int .i64 1, .bool false] h (retP (.tup [.agg wB.row, .int .i64 0]) h) := by
  refine icall_of_iwp (fun d => if d = 7 ∨ d = 8 ∨ d = 9 ∨ d = 10 ∨ d = 11 then 1 else 0) Tryz.func30 rfl (by kernel_rfl) (Nat.le_of_ble_eq_true rfl) ?_
  rw [Tryz.results30]
  simp -implicitDefEqProofs [go_sem]
  intro q1 e1 q2 e2 q3 e3 q4 e4 q5 e5
  have E2 : upd h q1 (some (.cells [.int .i64 0])) q2 = none := e2
  have a1 : upd h q1 (some (.cells [.int .i64 0])) q1 = some (.cells [.int .i64 0]) := by simp [upd]
  have s1 : Sub h (upd h q1 (some (.cells [.int .i64 0]))) := (Sub.refl _).upd e1 _
  have E3 : upd (upd h q1 (some (.cells [.int .i64 0]))) q2 (some (.cells [.int .u8 1])) q3 = none := e3
  have E4 : upd (upd (upd h q1 (some (.cells [.int .i64 0]))) q2 (some (.cells [.int .u8 1]))) q3 (some (.cells [.int .i64 0])) q4 = none := e4
  have E5 : upd (upd (upd (upd h q1 (some (.cells [.int .i64 0]))) q2 (some (.cells [.int .u8 1]))) q3 (some (.cells [.int .i64 0]))) q4 (some (.cells [.int .i64 1])) q5 = none := e5
  clear e2 e3 e4 e5
  generalize upd h q1 (some (.cells [.int .i64 0])) = H1 at *
  have b1 := upd_old a1 E2 (o := some (.cells [.int .u8 1]))
  have b2 : upd H1 q2 (some (.cells [.int .u8 1])) q2 = some (.cells [.int .u8 1]) := by simp [upd]
  have s2 := s1.upd' E2 (some (.cells [.int .u8 1]))
  clear a1 s1 E2
  generalize upd H1 q2 (some (.cells [.int .u8 1])) = H2 at *
  have c1 := upd_old b1 E3 (o := some (.cells [.int .i64 0]))
  have c2 := upd_old b2 E3 (o := some (.cells [.int .i64 0]))
  have c3 : upd H2 q3 (some (.cells [.int .i64 0])) q3 = some (.cells [.int .i64 0]) := by simp [upd]
  have s3 := s2.upd' E3 (some (.cells [.int .i64 0]))
  clear b1 b2 s2 E3
  generalize upd H2 q3 (some (.cells [.int .i64 0])) = H3 at *
  have d1 := upd_old c1 E4 (o := some (.cells [.int .i64 1]))
  have d2 := upd_old c2 E4 (o := some (.cells [.int .i64 1]))
  have d3 := upd_old c3 E4 (o := some (.cells [.int .i64 1]))
  have d4 : upd H3 q4 (some (.cells [.int .i64 1])) q4 = some (.cells [.int .i64 1]) := by simp [upd]
  have s4 := s3.upd' E4 (some (.cells [.int .i64 1]))
  clear c1 c2 c3 s3 E4
  generalize upd H3 q4 (some (.cells [.int .i64 1])) = H4 at *
  have f1 := upd_old d1 E5 (o := some (.cells [.bool false]))
  have f2 := upd_old d2 E5 (o := some (.cells [.bool false]))
  have f3 := upd_old d3 E5 (o := some (.cells [.bool false]))
  have f4 := upd_old d4 E5 (o := some (.cells [.bool false]))
  have f5 : upd H4 q5 (some (.cells [.bool false])) q5 = some (.cells [.bool false]) := by simp [upd]
  have s5 := s4.upd' E5 (some (.cells [.bool false]))
  clear d1 d2 d3 d4 s4 E5
  generalize upd H4 q5 (some (.cells [.bool false])) = H5 at *
  refine (changed_c wA 56 [.ptr q1 0, .ptr q2 0, .ptr q3 0, .ptr q4 0, .ptr q5 0] wB 0 H5 (by decide +kernel) (fun _ b hb => split1_c b q1 q2 q3 q4 q5 H5 hb f1 f2 f3 f4 f5)).mono ?_
  rintro e h' ⟨rfl, he⟩
  rw [he, chgV, if_pos wA_may, if_pos rfl]
  simp -implicitDefEqProofs [go_sem]
  exact ⟨h, s5, rfl, rfl⟩

def zoomedR (w : Wn) : List (List IV) := [(Pn.mk w.act w.tree.r).row]

set_option maxRecDepth 20000 in
theorem shownC_c (h : Heap) : ICall Tryz.prog 62 [.agg wC.row] h (retP (.list .plain [(Pn.mk 1 rA).row]) h) := by
  refine icall_of_iwp (fun _ => 0) Tryz.func62 rfl (by kernel_rfl) (Nat.le_of_ble_eq_true rfl) ?_
  rw [Tryz.results62]
  have hz : wC.z = true := rfl
  have ha : wC.act = 1 := rfl
  have hr : wC.tree.r = rA := rfl
  simp -implicitDefEqProofs [go_sem]
  refine (wmay_c wC h (by decide +kernel)).mono ?_
  rintro e h' ⟨rfl, he⟩
  rw [he, wC_may]
  simp -implicitDefEqProofs [go_sem, hz, ha, hr]
  exact ⟨h, Sub.refl _, rfl, rfl⟩

theorem eqI_pn (a b : Pn) (n : Nat) : eqI Tryz.prog (n + 3) 159 (.agg a.row) (.agg b.row) = some (decide (a.id = b.id) && decide (a.r = b.r)) := by
  have := eqI_rct a.r b.r n
  simp [eqI, eqFs, prt, Tryz.underlying159, Tryz.underlying3, stood_159, aggT_3, szT_3, aggT_38, szT_38, Pn.row, Rct.row, stood_38, Tryz.underlying38, Bool.decide_and] at this ⊢
  rw [this]
  congr 1
@[go_sem high] theorem eqI_pn' (a b : Pn) : eqI Tryz.prog 10000 159 (.agg a.row) (.agg b.row) = some (decide (a.id = b.id) && decide (a.r = b.r)) := eqI_pn a b 9997

end Go.Proofs

set_option linter.unusedVariables false
set_option linter.unusedSimpArgs false
set_option pp.deepTerms false
set_option pp.maxSteps 400
namespace Go.Proofs
open Go.Idl

end Go.Proofs

set_option linter.unusedVariables false
set_option linter.unusedSimpArgs false
set_option pp.deepTerms false
set_option pp.maxSteps 400
namespace Go.Proofs
open Go.Idl

def panesL (l : List Cel) : List Pn := ((Cel.alls l).filter fun d => d.kind == 1).map Cel.pn
theorem panes_eq (c : Cel) : c.panes = (if c.kind = 1 then [c.pn] else []) ++ panesL c.kids := by
  rw [Cel.panes, Cel.leaves, c.all_eq, panesL, List.filter_cons]
  by_cases hk : c.kind = 1
  · simp [hk]
  · simp [hk]
theorem panesL_take (l : List Cel) (i : Nat) (h : i < l.length) : panesL (l.take (i + 1)) = panesL (l.take i) ++ l[i].panes := by
  rw [panesL, Cel.alls_take l i h, List.filter_append, List.map_append]; rfl
theorem panesL_len (l : List Cel) : (panesL l).length ≤ Cel.sizes l := by
  rw [panesL, List.length_map, ← Cel.alls_length]; exact List.length_filter_le _ _
theorem panes_size (c : Cel) : c.panes.length ≤ c.size := by
  rw [panes_len, ← c.all_length]; exact List.length_filter_le _ _

set_option maxRecDepth 20000 in
set_option maxHeartbeats 4000000 in
theorem list_c (c : Cel) : ∀ h, c.size < 100000000 → ICall Tryz.prog 96 [.agg c.row] h (retP (.list .plain (c.panes.map Pn.row)) h) := by
  induction c using Cel.induct
  rename_i c ih
  intro h hs
  have hlen := Cel.len_le c.kids
  rw [c.size_eq] at hs
  refine icall_of_iwp (fun _ => 0) Tryz.func96 rfl (by kernel_rfl) (Nat.le_of_ble_eq_true rfl) ?_
  rw [Tryz.results96]
  simp -implicitDefEqProofs [go_sem]
  refine cK_beq (fun hk => ?_) (fun hk => ?_)
  · obtain ⟨P0, hP0⟩ : ∃ P, P = [c.pn] := ⟨_, rfl⟩
    have hpe : c.panes = P0 ++ panesL c.kids := by rw [panes_eq, if_pos hk, hP0]
    have hP1 : P0.length ≤ 1 := by rw [hP0]; simp
    simp -implicitDefEqProofs [go_sem]
    refine aK_own (z := 5) (S := [16, 27]) Own.tight (by simp) elT_118 elZ_159 (by simp [roomy, byT_159]) (by simp [uni]) (by simp [uni, Pn.row_len, Rct.row_len]) ?_
    intro v0 x0 ho0 _
    have ho0 : Own [16, 27] x0 159 v0 (P0.map Pn.row) := by rw [hP0]; exact ho0
    obtain ⟨tk0, hv0⟩ := ho0.list
    simp -implicitDefEqProofs [go_sem]
    refine iwp_loopF (rng [3,5] 20 28) (fun k => k == 5) (fun s => ∃ i, i ≤ c.kids.length ∧ s.t 20 = .int .i64 i ∧ Own [16, 27] s.x 159 (s.t 3) ((P0 ++ panesL (c.kids.take i)).map Pn.row) ∧ s.h = h) (fun s => c.kids.length - tn (s.t 20)) ?_ ?_
    · exact ⟨0, Nat.zero_le _, by simp -implicitDefEqProofs [go_sem], by first | (simpa -implicitDefEqProofs [go_sem, panesL, Cel.alls] using ho0) | (simp -implicitDefEqProofs [go_sem, panesL, Cel.alls]; exact ho0 _), by simp -implicitDefEqProofs [go_sem]⟩
    rintro J s hJ hf ⟨i, hi, h20, ho, hh⟩
    obtain ⟨rowsI, hrowsI⟩ : ∃ r, r = (P0 ++ panesL (c.kids.take i)).map Pn.row := ⟨_, rfl⟩
    rw [← hrowsI] at ho
    have hl1 := panesL_len (c.kids.take i)
    have hrl : rowsI.length = P0.length + (panesL (c.kids.take i)).length := by rw [hrowsI, List.length_map, List.length_append]
    have hru : uni 5 rowsI = true := by rw [hrowsI]; exact Pn.rows_uni _
    obtain ⟨tk, h3⟩ := ho.list
    simp -implicitDefEqProofs [go_sem, h20, h3, hh, hf.t, hf.m]
    refine cK_dec (fun hlt => ?_) (fun hge => ?_)
    · have hg : c.kids[i]? = some c.kids[i] := List.getElem?_eq_getElem hlt
      have hw := wrap_succ (i := i) (by omega)
      have hst := Cel.sizes_take c.kids i hlt
      have hle := Cel.sizes_le c.kids (i + 1)
      have hl2 := panes_size c.kids[i]
      have htk := panesL_take c.kids i hlt
      simp -implicitDefEqProofs [go_sem, h20, h3, hh, hf.t, hf.m, hlt, hg]
      refine (ih _ (List.getElem_mem hlt) h (by omega)).mono ?_
      rintro e h' ⟨rfl, he⟩
      rw [he]
      simp -implicitDefEqProofs [go_sem, h20, h3, hh, hf.t, hf.m, hf, hw]
      refine aK_own (z := 5) (S := [16, 27]) (rows := rowsI) (by simpa -implicitDefEqProofs [go_sem, h3] using ho) (by simp) elT_118 elZ_159 (by simp only [roomy, byT_159, hrl, List.length_map]; omega) hru (Pn.rows_uni _) ?_
      intro r2 x2 ho2 _
      simp -implicitDefEqProofs [go_sem, h20, h3, hh, hf.t, hf.m, hf, hw]
      exact hJ _ ⟨i + 1, by omega, by simp -implicitDefEqProofs [go_sem, hw], by rw [htk, ← List.append_assoc, List.map_append, ← hrowsI]; exact ho2, by simp -implicitDefEqProofs [go_sem, hh]⟩ (by simp [go_sem, h20, hw]; omega)
    · obtain rfl : i = c.kids.length := by omega
      rw [List.take_length, ← hpe] at hrowsI
      simp -implicitDefEqProofs [go_sem, h20, h3, hh, hf.t, hf.m]
      exact ⟨h, Sub.refl _, by rw [hrowsI], rfl⟩
  · obtain ⟨P0, hP0⟩ : ∃ P : List Pn, P = [] := ⟨_, rfl⟩
    have hpe : c.panes = P0 ++ panesL c.kids := by rw [panes_eq, if_neg hk, hP0]
    have hP1 : P0.length ≤ 1 := by rw [hP0]; simp
    have ho0 : ∀ x, Own [16, 27] x 159 (.list .tight []) (P0.map Pn.row) := fun x => by rw [hP0]; exact Own.tight
    simp -implicitDefEqProofs [go_sem]
    refine iwp_loopF (rng [3,5] 20 28) (fun k => k == 5) (fun s => ∃ i, i ≤ c.kids.length ∧ s.t 20 = .int .i64 i ∧ Own [16, 27] s.x 159 (s.t 3) ((P0 ++ panesL (c.kids.take i)).map Pn.row) ∧ s.h = h) (fun s => c.kids.length - tn (s.t 20)) ?_ ?_
    · exact ⟨0, Nat.zero_le _, by simp -implicitDefEqProofs [go_sem], by first | (simpa -implicitDefEqProofs [go_sem, panesL, Cel.alls] using ho0) | (simp -implicitDefEqProofs [go_sem, panesL, Cel.alls]; exact ho0 _), by simp -implicitDefEqProofs [go_sem]⟩
    rintro J s hJ hf ⟨i, hi, h20, ho, hh⟩
    obtain ⟨rowsI, hrowsI⟩ : ∃ r, r = (P0 ++ panesL (c.kids.take i)).map Pn.row := ⟨_, rfl⟩
    rw [← hrowsI] at ho
    have hl1 := panesL_len (c.kids.take i)
    have hrl : rowsI.length = P0.length + (panesL (c.kids.take i)).length := by rw [hrowsI, List.length_map, List.length_append]
    have hru : uni 5 rowsI = true := by rw [hrowsI]; exact Pn.rows_uni _
    obtain ⟨tk, h3⟩ := ho.list
    simp -implicitDefEqProofs [go_sem, h20, h3, hh, hf.t, hf.m]
    refine cK_dec (fun hlt => ?_) (fun hge => ?_)
    · have hg : c.kids[i]? = some c.kids[i] := List.getElem?_eq_getElem hlt
      have hw := wrap_succ (i := i) (by omega)
      have hst := Cel.sizes_take c.kids i hlt
      have hle := Cel.sizes_le c.kids (i + 1)
      have hl2 := panes_size c.kids[i]
      have htk := panesL_take c.kids i hlt
      simp -implicitDefEqProofs [go_sem, h20, h3, hh, hf.t, hf.m, hlt, hg]
      refine (ih _ (List.getElem_mem hlt) h (by omega)).mono ?_
      rintro e h' ⟨rfl, he⟩
      rw [he]
      simp -implicitDefEqProofs [go_sem, h20, h3, hh, hf.t, hf.m, hf, hw]
      refine aK_own (z := 5) (S := [16, 27]) (rows := rowsI) (by simpa -implicitDefEqProofs [go_sem, h3] using ho) (by simp) elT_118 elZ_159 (by simp only [roomy, byT_159, hrl, List.length_map]; omega) hru (Pn.rows_uni _) ?_
      intro r2 x2 ho2 _
      simp -implicitDefEqProofs [go_sem, h20, h3, hh, hf.t, hf.m, hf, hw]
      exact hJ _ ⟨i + 1, by omega, by simp -implicitDefEqProofs [go_sem, hw], by rw [htk, ← List.append_assoc, List.map_append, ← hrowsI]; exact ho2, by simp -implicitDefEqProofs [go_sem, hh]⟩ (by simp [go_sem, h20, hw]; omega)
    · obtain rfl : i = c.kids.length := by omega
      rw [List.take_length, ← hpe] at hrowsI
      simp -implicitDefEqProofs [go_sem, h20, h3, hh, hf.t, hf.m]
      exact ⟨h, Sub.refl _, by rw [hrowsI], rfl⟩
end Go.Proofs

set_option linter.unusedVariables false
set_option linter.unusedSimpArgs false
set_option pp.deepTerms false
set_option pp.maxSteps 400
namespace Go.Proofs
open Go.Idl

@[go_sem high] theorem Wn.rows_uni (l : List Wn) : uni 9 (l.map Wn.row) = true := by simp [uni, Wn.row_len]

theorem indexFunc_wn {l : List Wn} {f : FuncId} {first cap : List IV} {Inv Hit : Nat → Heap → Prop} (hl : l.length < 100000000000)
    (hstep : ∀ i (hi : i < l.length) h, Inv i h → ICall Tryz.prog f (first ++ [.agg l[i].row] ++ cap) h fun e h' => (e = .ret (.bool false) ∧ Inv (i + 1) h') ∨ (e = .ret (.bool true) ∧ Hit i h')) (h : Heap) (h0 : Inv 0 h) :
    ICall Tryz.prog 107 [.list .plain (l.map Wn.row), .fn (.func f) first cap] h (idxR Inv Hit l.length) := by
  refine icall_of_iwp (fun _ => 0) Tryz.func107 rfl (by kernel_rfl) (Nat.le_of_ble_eq_true rfl) ?_
  rw [Tryz.results107]
  simp -implicitDefEqProofs [go_sem]
  refine iwp_loopF (rng [4,5] 8 18) nom (fun s => ∃ i, i ≤ l.length ∧ s.t 8 = .int .i64 i ∧ Inv i s.h) (fun s => l.length - tn (s.t 8)) ?_ ?_
  · exact ⟨0, Nat.zero_le _, by simp -implicitDefEqProofs [go_sem], by simpa -implicitDefEqProofs [go_sem] using h0⟩
  rintro J s hJ hf ⟨i, hi, h8, hinv⟩
  simp -implicitDefEqProofs [go_sem, h8, hf.t, hf.m]
  refine cK_dec (fun hlt => ?_) (fun hge => ?_)
  · have hg : l[i]? = some l[i] := List.getElem?_eq_getElem hlt
    have hw := wrap_succ (i := i) (by omega)
    simp -implicitDefEqProofs [go_sem, h8, hf.t, hf.m, hlt, hg]
    have hs := hstep i hlt _ hinv
    simp only [List.append_assoc, List.singleton_append, List.cons_append, List.nil_append] at hs
    refine hs.mono ?_
    rintro e h' (⟨rfl, hi'⟩ | ⟨rfl, hi'⟩)
    · simp -implicitDefEqProofs [go_sem, h8, hf.t, hf.m, hf, hlt, hg, hw]
      exact hJ _ ⟨i + 1, by omega, by simp -implicitDefEqProofs [go_sem, hw], by simpa -implicitDefEqProofs [go_sem] using hi'⟩ (by simp [go_sem, h8, hw]; omega)
    · simp -implicitDefEqProofs [go_sem, h8, hf.t, hf.m, hf, hlt, hg, hw]
      exact ⟨h', Sub.refl _, .inr ⟨i, hlt, rfl, hi'⟩⟩
  · simp -implicitDefEqProofs [go_sem, h8, hf.t, hf.m]
    obtain rfl : i = l.length := by omega
    exact ⟨s.h, Sub.refl _, .inl ⟨rfl, hinv⟩⟩

theorem containsFunc_wn {l : List Wn} {f : FuncId} {first cap : List IV} {Inv Hit : Nat → Heap → Prop} (hl : l.length < 100000000000)
    (hstep : ∀ i (hi : i < l.length) h, Inv i h → ICall Tryz.prog f (first ++ [.agg l[i].row] ++ cap) h fun e h' => (e = .ret (.bool false) ∧ Inv (i + 1) h') ∨ (e = .ret (.bool true) ∧ Hit i h')) (h : Heap) (h0 : Inv 0 h) :
    ICall Tryz.prog 81 [.list .plain (l.map Wn.row), .fn (.func f) first cap] h (conR Inv Hit l.length) := by
  refine icall_of_iwp (fun _ => 0) Tryz.func81 rfl (by kernel_rfl) (Nat.le_of_ble_eq_true rfl) ?_
  rw [Tryz.results81]
  simp -implicitDefEqProofs [go_sem]
  refine (indexFunc_wn hl hstep h h0).mono ?_
  rintro e h' (⟨rfl, hi'⟩ | ⟨i, hi, rfl, hi'⟩)
  · simp -implicitDefEqProofs [go_sem]
    exact ⟨h', Sub.refl _, .inl ⟨rfl, hi'⟩⟩
  · simp -implicitDefEqProofs [go_sem]
    exact ⟨h', Sub.refl _, .inr ⟨i, hi, rfl, hi'⟩⟩

theorem wMay1_c (w : Wn) (h : Heap) (hs : w.tree.size < 100000000) : ICall Tryz.prog 82 [.agg w.row] h (retP (.bool (!w.may)) h) := by
  refine icall_of_iwp (fun _ => 0) Tryz.func82 rfl (by kernel_rfl) (Nat.le_of_ble_eq_true rfl) ?_
  rw [Tryz.results82]
  simp -implicitDefEqProofs [go_sem]
  refine (wmay_c w h hs).mono ?_
  rintro e h' ⟨rfl, he⟩
  rw [he]
  simp -implicitDefEqProofs [go_sem]
  exact ⟨h, Sub.refl _, rfl, rfl⟩

theorem wMay_c (w : Wn) (h : Heap) (hs : w.tree.size < 100000000) : ICall Tryz.prog 48 [.list .plain [w.row]] h (retP (.bool w.may) h) := by
  refine icall_of_iwp (fun _ => 0) Tryz.func48 rfl (by kernel_rfl) (Nat.le_of_ble_eq_true rfl) ?_
  rw [Tryz.results48]
  simp -implicitDefEqProofs [go_sem]
  have hn := containsFunc_wn (l := [w]) (f := 82) (first := []) (cap := []) (Inv := fun i h' => h' = h ∧ (i = 1 → w.may = true)) (Hit := fun i h' => h' = h ∧ w.may = false) (by simp) (fun i hi h1 hh => by
    obtain ⟨rfl, _⟩ := hh
    obtain rfl : i = 0 := by simp at hi; exact hi
    refine (wMay1_c w h1 hs).mono ?_
    rintro e h' ⟨rfl, rfl⟩
    cases hb : w.may with
    | false => exact .inr ⟨rfl, rfl, rfl⟩
    | true => exact .inl ⟨rfl, rfl, fun _ => rfl⟩) h ⟨rfl, fun h => by cases h⟩
  simp only [List.map_cons, List.map_nil] at hn
  refine hn.mono ?_
  rintro e h' (⟨rfl, rfl, hm⟩ | ⟨i, hi, rfl, rfl, hm⟩)
  · simp -implicitDefEqProofs [go_sem]
    exact ⟨h', Sub.refl _, by rw [hm rfl], rfl⟩
  · simp -implicitDefEqProofs [go_sem]
    exact ⟨h', Sub.refl _, by rw [hm], rfl⟩

def Wn.shown (w : Wn) : List Pn := if w.may = true then (if w.z = true then [⟨w.act, w.tree.r⟩] else w.tree.panes) else []

set_option maxRecDepth 20000 in
theorem shown_c (w : Wn) (h : Heap) (hs : w.tree.size < 100000000) : ICall Tryz.prog 62 [.agg w.row] h (retP (.list .plain (w.shown.map Pn.row)) h) := by
  refine icall_of_iwp (fun _ => 0) Tryz.func62 rfl (by kernel_rfl) (Nat.le_of_ble_eq_true rfl) ?_
  rw [Tryz.results62]
  simp -implicitDefEqProofs [go_sem]
  refine (wmay_c w h hs).mono ?_
  rintro e h' ⟨rfl, he⟩
  rw [he]
  cases hm : w.may with
  | false =>
    simp -implicitDefEqProofs [go_sem]
    exact ⟨h, Sub.refl _, by rw [Wn.shown, if_neg (by rw [hm]; simp)]; rfl, rfl⟩
  | true =>
    cases hz : w.z with
    | true =>
      simp -implicitDefEqProofs [go_sem, hz]
      exact ⟨h, Sub.refl _, by rw [Wn.shown, if_pos hm, if_pos hz]; rfl, rfl⟩
    | false =>
      simp -implicitDefEqProofs [go_sem, hz]
      refine (list_c w.tree h hs).mono ?_
      rintro e h' ⟨rfl, he⟩
      rw [he]
      simp -implicitDefEqProofs [go_sem]
      exact ⟨h, Sub.refl _, by rw [Wn.shown, if_pos hm, if_neg (by rw [hz]; simp)], rfl⟩
end Go.Proofs

set_option linter.unusedVariables false
set_option linter.unusedSimpArgs false
set_option pp.deepTerms false
set_option pp.maxSteps 400
namespace Go.Proofs
open Go.Idl

theorem _root_.Go.Idl.Sub.updC {h h2 : Heap} (hs : Sub h h2) {b : Nat} (hb : h2 b = none) (o : Option IObj) : Sub h (upd h2 b o) := by
  intro b2 o2 h3
  simp only [upd]
  split
  · rename_i e; rw [e] at h3; rw [hs _ _ h3] at hb; cases hb
  · exact hs _ _ h3

/-- a new array of ints -/
def newInts (l : List Int) (h : Heap) (e : IEnd) (h' : Heap) : Prop := ∃ b cap, h b = none ∧ l.length ≤ cap ∧ e = .ret (.sl 1 b 0 l.length cap) ∧ h' = upd h b (some (.arr 3 1 (l.map intRow) cap))

def WI (h : Heap) (l : List Int) (v : IV) (sh : Heap) : Prop :=
  Sub h sh ∧ ((l = [] ∧ v = .list .tight []) ∨ ∃ b cap, h b = none ∧ l.length ≤ cap ∧ v = .sl 1 b 0 l.length cap ∧ sh b = some (.arr 3 1 (l.map intRow) cap))

theorem WI.app {h : Heap} {l : List Int} {v : IV} {st : St} (hw : WI h l v st.h) (l2 : List Int) (hl : l.length + l2.length < 1000000000000) {d : Nat} {t : TypeId} (ht : elT Tryz.prog t = some 3) {tk : Tok} {K : St → Prop}
    (hK : ∀ s v', WI h (l ++ l2) v' s.h → (∀ k, k ≠ d → s.t k = st.t k) → s.t d = v' → s.m = st.m → (∀ (M MM : Nat → Bool) (st0 s0 : St), Fr M MM st0 s0 → Fr M MM st0 st = Fr M MM st0 s0 → M d = true → Fr M MM st0 s) → K s) : iappB Tryz.prog st d t v (.list tk (l2.map intRow)) K := by
  obtain ⟨hsub, hw⟩ := hw
  have hz : elZ Tryz.prog 3 = some 1 := elZ_3
  rcases hw with ⟨rfl, rfl⟩ | ⟨b, cap, hb, hcap, rfl, hsb⟩
  · simp only [iappB, ht, Option.bind_some, hz]
    refine ⟨⟨by simp [roomy, byT_3]; simp at hl; omega, by simp [uni], ints_uni _⟩, fun hn => ?_, fun hn b' cap' hb' hc => ?_⟩
    · have : l2 = [] := by simpa using hn
      subst this
      exact hK _ _ ⟨hsub, .inl ⟨rfl, rfl⟩⟩ (fun k hk => by simp [go_sem, hk]) (by simp [go_sem]) rfl (fun M MM st0 s0 hF0 he hM => by have hF : Fr M MM st0 st := he ▸ hF0; first | (simpa -implicitDefEqProofs [go_sem, hM] using hF) | (rw [Fr.put_eq hM]; exact ⟨hF.t, hF.m⟩))
    · simp only [List.nil_append, List.length_nil, Nat.zero_add, List.length_map] at hc ⊢
      refine hK _ _ ⟨?_, .inr ⟨b', cap', sub_none hsub hb', hc, rfl, ?_⟩⟩ (fun k hk => by simp [go_sem, hk]) (by simp [go_sem]) rfl (fun M MM st0 s0 hF0 he hM => by have hF : Fr M MM st0 st := he ▸ hF0; first | (simpa -implicitDefEqProofs [go_sem, hM] using hF) | (rw [Fr.put_eq hM]; exact ⟨hF.t, hF.m⟩))
      · exact hsub.updC hb' _
      · simp [go_sem]
  · simp only [iappB, hsb, ht]
    refine ⟨⟨trivial, trivial, trivial, hz, by simp, trivial, by simp [roomy, byT_3]; omega, ints_uni _⟩, fun hfit => ?_, fun hno b' cap' hb' hc => ?_⟩
    · simp only [List.length_map] at hfit ⊢
      rw [← List.map_append]
      refine hK _ (.sl 1 b 0 (l ++ l2).length cap) ⟨?_, .inr ⟨b, cap, hb, by simp; omega, rfl, ?_⟩⟩ (fun k hk => by simp [go_sem, hk]) (by simp [go_sem]) rfl (fun M MM st0 s0 hF0 he hM => by have hF : Fr M MM st0 st := he ▸ hF0; first | (simpa -implicitDefEqProofs [go_sem, hM] using hF) | (rw [Fr.put_eq hM]; exact ⟨hF.t, hF.m⟩))
      · intro b2 o hb2
        simp only [go_sem]
        rw [if_neg (by rintro rfl; rw [hb] at hb2; cases hb2)]
        exact hsub _ _ hb2
      · simp [go_sem]
    · simp only [List.length_map] at hc ⊢
      rw [← List.map_append]
      refine hK _ (.sl 1 b' 0 (l ++ l2).length cap') ⟨?_, .inr ⟨b', cap', sub_none hsub hb', by simp; omega, rfl, ?_⟩⟩ (fun k hk => by simp [go_sem, hk]) (by simp [go_sem]) rfl (fun M MM st0 s0 hF0 he hM => by have hF : Fr M MM st0 st := he ▸ hF0; first | (simpa -implicitDefEqProofs [go_sem, hM] using hF) | (rw [Fr.put_eq hM]; exact ⟨hF.t, hF.m⟩))
      · exact hsub.updC hb' _
      · simp [go_sem]
end Go.Proofs

set_option linter.unusedVariables false
set_option linter.unusedSimpArgs false
set_option pp.deepTerms false
set_option pp.maxSteps 400
namespace Go.Proofs
open Go.Idl

set_option maxRecDepth 20000 in
set_option maxHeartbeats 4000000 in
theorem leavesW_c (l : List Cel) (hs : Cel.sizes l < 100000000000) (h : Heap) (hne : idsL l ≠ []) :
    ICall Tryz.prog 36 [.list .plain (l.map Cel.row)] h (newInts (idsL l) h) := by
  have hlen := Cel.len_le l
  refine icall_of_iwp (fun d => if d = 19 ∨ d = 24 then 2 else 0) Tryz.func36 rfl (by kernel_rfl) (Nat.le_of_ble_eq_true rfl) ?_
  rw [Tryz.results36]
  simp -implicitDefEqProofs [go_sem]
  refine iwp_loopF (rng [3,5] 8 25) (fun k => k == 5) (fun s => ∃ i, i ≤ l.length ∧ s.t 8 = .int .i64 i ∧ WI h (idsL (l.take i)) (s.t 3) s.h) (fun s => l.length - tn (s.t 8)) ?_ ?_
  · exact ⟨0, Nat.zero_le _, by simp -implicitDefEqProofs [go_sem], by simp -implicitDefEqProofs [go_sem]; exact ⟨Sub.refl _, .inl ⟨rfl, rfl⟩⟩⟩
  rintro J s hJ hf ⟨i, hi, h8, hw0⟩
  obtain ⟨v, h3⟩ : ∃ v, s.t 3 = v := ⟨_, rfl⟩
  rw [h3] at hw0
  simp -implicitDefEqProofs [go_sem, h8, h3, hf.t, hf.m]
  refine cK_dec (fun hlt => ?_) (fun hge => ?_)
  · have hg : l[i]? = some l[i] := List.getElem?_eq_getElem hlt
    have hw := wrap_succ (i := i) (by omega)
    have hst := Cel.sizes_take l i hlt
    have hle := Cel.sizes_le l (i + 1)
    have hl1 := idsL_len (l.take i)
    have hl2 := idsL_len (l[i].kids)
    have hsz := l[i].size_eq
    have htk := idsL_take l i hlt
    rw [ids_eq] at htk
    simp -implicitDefEqProofs [go_sem, h8, h3, hf.t, hf.m, hlt, hg]
    refine cK_beq (fun hk => ?_) (fun hk => ?_)
    · simp -implicitDefEqProofs [go_sem, h8, h3, hf.t, hf.m, hlt, hg]
      refine WI.app (l := idsL (l.take i)) (v := v) (by simpa -implicitDefEqProofs [go_sem] using hw0) [l[i].id] (by simp; omega) elT_22 ?_
      intro s2 v2 hw2 hfr ht2 hm2 hFr
      have hf2 := hFr _ _ _ _ hf (by simp -implicitDefEqProofs [go_sem]) (by simp -implicitDefEqProofs [go_sem])
      simp -implicitDefEqProofs [go_sem, hfr, ht2, hm2, h8, h3, hf.t, hf.m, hlt, hg]
      refine (leavesK_c l[i] s2.h (by omega)).mono ?_
      rintro e h' ⟨rfl, he⟩
      rw [he]
      simp -implicitDefEqProofs [go_sem, hfr, ht2, hm2, h8, h3, hf.t, hf.m, hf2, hw]
      refine WI.app (l := idsL (l.take i) ++ [l[i].id]) (v := v2) (by simpa -implicitDefEqProofs [go_sem] using hw2) (idsL l[i].kids) (by simp; omega) elT_22 ?_
      intro s3 v3 hw3 hfr3 ht3 hm3 hFr3
      have hf3 := hFr3 _ _ _ _ hf2 (by simp -implicitDefEqProofs [go_sem]) (by simp -implicitDefEqProofs [go_sem])
      simp -implicitDefEqProofs [go_sem, hfr3, ht3, hm3, hfr, ht2, hm2, h8, h3, hf.t, hf.m, hf3, hw]
      refine hJ _ ⟨i + 1, by omega, by simp -implicitDefEqProofs [go_sem, hw, hfr3, hfr, h8], ?_⟩ (by simp [go_sem, h8, hw, hfr3, hfr]; omega)
      rw [htk, if_pos hk, ← List.append_assoc]
      simpa -implicitDefEqProofs [go_sem] using hw3
    · simp -implicitDefEqProofs [go_sem, h8, h3, hf.t, hf.m, hlt, hg]
      refine (leavesK_c l[i] s.h (by omega)).mono ?_
      rintro e h' ⟨rfl, he⟩
      rw [he]
      simp -implicitDefEqProofs [go_sem, h8, h3, hf.t, hf.m, hf, hw]
      refine WI.app (l := idsL (l.take i)) (v := v) (by simpa -implicitDefEqProofs [go_sem] using hw0) (idsL l[i].kids) (by omega) elT_22 ?_
      intro s3 v3 hw3 hfr3 ht3 hm3 hFr3
      have hf3 := hFr3 _ _ _ _ hf (by simp -implicitDefEqProofs [go_sem]) (by simp -implicitDefEqProofs [go_sem])
      simp -implicitDefEqProofs [go_sem, hfr3, ht3, hm3, h8, h3, hf.t, hf.m, hf3, hw]
      refine hJ _ ⟨i + 1, by omega, by simp -implicitDefEqProofs [go_sem, hw, hfr3, h8], ?_⟩ (by simp [go_sem, h8, hw, hfr3]; omega)
      rw [htk, if_neg hk, List.nil_append]
      simpa -implicitDefEqProofs [go_sem] using hw3
  · obtain rfl : i = l.length := by omega
    rw [List.take_length] at hw0
    obtain ⟨hsub, ⟨hnil, _⟩ | ⟨b, cap, hb, hcap, rfl, hsb⟩⟩ := hw0
    · exact absurd hnil hne
    simp -implicitDefEqProofs [go_sem, h8, h3, hf.t, hf.m]
    refine ⟨upd h b (some (.arr 3 1 ((idsL l).map intRow) cap)), ?_, b, cap, hb, hcap, rfl, rfl⟩
    intro b2 o hb2
    simp only [upd] at hb2
    split at hb2
    · rename_i e; rw [e, hsb]; exact hb2
    · exact hsub _ _ hb2
end Go.Proofs

set_option linter.unusedVariables false
set_option linter.unusedSimpArgs false
set_option pp.deepTerms false
set_option pp.maxSteps 400
namespace Go.Proofs
open Go.Idl

theorem cLeavesW_c (c : Cel) (h : Heap) (hs : c.size < 100000000000) (hne : c.ids ≠ []) : ICall Tryz.prog 36 [.list .plain [c.row]] h (newInts c.ids h) := by
  have e : idsL [c] = c.ids := by simp [idsL, Cel.alls, Cel.ids, Cel.leaves]
  have := leavesW_c [c] (by simpa [Cel.sizes] using hs) h (by rw [e]; exact hne)
  rw [e] at this
  exact this

end Go.Proofs

set_option linter.unusedVariables false
set_option linter.unusedSimpArgs false
set_option pp.deepTerms false
set_option pp.maxSteps 400
namespace Go.Proofs
open Go.Idl

theorem ids_pos (c : Cel) : (∀ d ∈ c.all, d.Ok) → 0 < c.ids.length := by
  induction c using Cel.induct
  rename_i c ih
  intro h
  rw [ids_eq, List.length_append]
  have hc := (h c (by rw [c.all_eq]; exact List.mem_cons_self)).2
  by_cases hk : c.kind = 1
  · rw [if_pos hk]; simp; omega
  · have h2 : 2 ≤ c.kids.length := by omega
    cases hks : c.kids with
    | nil => rw [hks] at h2; simp at h2
    | cons d ds =>
      have := ih d (by rw [hks]; exact List.mem_cons_self) (fun x hx => h x (by rw [c.all_eq, hks, Cel.alls]; exact List.mem_cons_of_mem _ (List.mem_append_left _ hx)))
      have e : idsL (d :: ds) = d.ids ++ idsL ds := by simp [idsL, Cel.alls, Cel.ids, Cel.leaves]
      rw [e, List.length_append]; omega
theorem tiles_may {c : Cel} (h : c.tiles = true) : c.size ≤ 20000 ∧ (∀ d ∈ c.all, d.Ok) ∧ c.ids.Nodup := by
  rw [tiles_fold, Bool.and_eq_true] at h
  have := h.1
  rwa [Cel.may, decide_eq_true_eq] at this

def Cel.zero : Cel := .mk 0 ⟨0, 0, 0, 0⟩ 0 []
theorem Cel.zero_row : Cel.zero.row = [.int .u8 0, .int .i64 0, .int .i64 0, .int .i64 0, .int .i64 0, .int .i64 0, .list .plain []] := by rw [Cel.row_eq]; rfl
end Go.Proofs
