/- This text is a part of the proofs of the statements of this seat: the ideal states and their rules, or what one of the functions that the statements reach comes to. Conditions: none beyond those that each theorem names. -/
import Derived.Test.YtghpaalcedgcaaaGreatCC
set_option linter.unusedVariables false
set_option linter.unusedSimpArgs false
set_option pp.deepTerms false
set_option pp.maxSteps 400
namespace Go.Proofs
open Go.Idl

set_option maxRecDepth 20000 in
set_option maxHeartbeats 4000000 in
theorem tcut_c (c : Cel) (h : Heap) (hs : c.kids.length < 100000000000) (hk1 : 2 ≤ c.kind) (hk3 : c.kind ≤ 3) : ICall Tryz.prog 186 [.agg c.row] h (retP (cutV (cutS c.r (c.kind - 1) c.szs)) h) := by
  refine icall_of_iwp (fun _ => 0) Tryz.func186 rfl (by kernel_rfl) (Nat.le_of_ble_eq_true rfl) ?_
  rw [Tryz.results186]
  simp -implicitDefEqProofs [go_sem]
  refine iwp_loopF (rng [5,7] 11 30) (fun k => k == 7) (fun s => ∃ i, i ≤ c.kids.length ∧ s.t 11 = .int .i64 i ∧ Own [23, 29] s.x 3 (s.t 5) ((c.szs.map intRow).take i) ∧ s.h = h) (fun s => c.kids.length - tn (s.t 11)) ?_ ?_
  · exact ⟨0, Nat.zero_le _, by simp -implicitDefEqProofs [go_sem], by simp -implicitDefEqProofs [go_sem, Own.tight], by simp -implicitDefEqProofs [go_sem]⟩
  rintro J s hJ hf ⟨i, hi, h11, ho, hh⟩
  obtain ⟨tk, h5⟩ := ho.list
  simp -implicitDefEqProofs [go_sem, h11, h5, hh, hf.t, hf.m]
  refine cK_dec (fun hlt => ?_) (fun hge => ?_)
  · have hg : c.kids[i]? = some c.kids[i] := List.getElem?_eq_getElem hlt
    have hw := wrap_succ (i := i) (by omega)
    have e1 : (c.szs.map intRow).take (i + 1) = (c.szs.map intRow).take i ++ [[.int .i64 (c.sz c.kids[i])]] := by
      rw [List.take_add_one]; simp [Cel.szs, hg, intRow]
    simp -implicitDefEqProofs [go_sem, h11, h5, hh, hf.t, hf.m, hlt, hg]
    refine cK_beq (fun hk => ?_) (fun hk => ?_)
    · simp -implicitDefEqProofs [go_sem, h11, h5, hh, hf.t, hf.m, hlt, hg]
      refine aK_own (z := 1) (S := [23, 29]) (by simpa -implicitDefEqProofs [go_sem, h5] using ho) (by simp) elT_40 elZ_3 (by simp [roomy, byT_3]; omega) (uni_take (ints_uni _) i) (by simp [uni]) ?_
      intro r' x' ho' _
      simp -implicitDefEqProofs [go_sem, h11, h5, hh, hf.t, hf.m, hf, hw]
      exact hJ _ ⟨i + 1, by omega, by simp -implicitDefEqProofs [go_sem, hw], by rw [e1, Cel.sz, if_pos hk]; simpa -implicitDefEqProofs [go_sem] using ho', by simp -implicitDefEqProofs [go_sem, hh]⟩ (by simp [go_sem, h11, hw]; omega)
    · simp -implicitDefEqProofs [go_sem, h11, h5, hh, hf.t, hf.m, hlt, hg]
      refine aK_own (z := 1) (S := [23, 29]) (by simpa -implicitDefEqProofs [go_sem, h5] using ho) (by simp) elT_40 elZ_3 (by simp [roomy, byT_3]; omega) (uni_take (ints_uni _) i) (by simp [uni]) ?_
      intro r' x' ho' _
      simp -implicitDefEqProofs [go_sem, h11, h5, hh, hf.t, hf.m, hf, hw]
      exact hJ _ ⟨i + 1, by omega, by simp -implicitDefEqProofs [go_sem, hw], by rw [e1, Cel.sz, if_neg hk]; simpa -implicitDefEqProofs [go_sem] using ho', by simp -implicitDefEqProofs [go_sem, hh]⟩ (by simp [go_sem, h11, hw]; omega)
  · have hw2 : IntKind.u8.wrap (c.kind - 2) = c.kind - 2 := wrap_u8 (by omega)
    have hw3 : IntKind.u8.wrap (c.kind - 2 + 1) = c.kind - 1 := by rw [wrap_u8 (by omega)]; omega
    rw [List.take_of_length_le (by simp [Cel.szs]; omega)] at ho h5
    simp -implicitDefEqProofs [go_sem, h11, h5, hh, hf.t, hf.m, hw2, hw3]
    refine (rCut_c c.r (c.kind - 1) c.szs h (by simp [Cel.szs]; exact hs)).mono ?_
    rintro e h' ⟨rfl, he⟩
    rw [he]
    cases hcut : cutS c.r (c.kind - 1) c.szs with
    | none =>
      simp -implicitDefEqProofs [go_sem, cutV]
      exact ⟨_, Sub.refl _, rfl, rfl⟩
    | some p =>
      obtain ⟨ps, ls⟩ := p
      simp -implicitDefEqProofs [go_sem, cutV]
      exact ⟨_, Sub.refl _, rfl, rfl⟩

theorem lines1_c (c : Cel) (r : Rct) (h : Heap) : ICall Tryz.prog 188 [.agg c.row, .agg r.row] h (retP (.bool (decide (c.r = r))) h) := by
  refine icall_of_iwp (fun _ => 0) Tryz.func188 rfl (by kernel_rfl) (Nat.le_of_ble_eq_true rfl) ?_
  rw [Tryz.results188]
  simp -implicitDefEqProofs [go_sem]
  exact ⟨h, Sub.refl _, rfl, rfl⟩

set_option maxRecDepth 20000 in
set_option maxHeartbeats 4000000 in
theorem equalFunc_c (l : List Cel) (ps : List Rct) (h : Heap) (hs : l.length < 100000000000) :
    ICall Tryz.prog 187 [.list .plain (l.map Cel.row), .list .plain (ps.map Rct.row), .fn (.func 188) [] []] h (retP (.bool (decide (ps = l.map Cel.r))) h) := by
  refine icall_of_iwp (fun _ => 0) Tryz.func187 rfl (by kernel_rfl) (Nat.le_of_ble_eq_true rfl) ?_
  rw [Tryz.results187]
  simp -implicitDefEqProofs [go_sem]
  refine cK_bne (fun h1 => ?_) (fun h1 => ?_) <;> simp -implicitDefEqProofs [go_sem]
  · exact ⟨h, Sub.refl _, by rw [decide_eq_false (fun e => by rw [e] at h1; simp at h1)], rfl⟩
  have hlen : l.length = ps.length := by omega
  refine iwp_loopF (rng [6,7,8,9] 17 31) (fun k => k == 8 || k == 9) (fun s => ∃ i, i ≤ l.length ∧ s.t 17 = .int .i64 i ∧ ps.take i = (l.map Cel.r).take i ∧ s.h = h) (fun s => l.length - tn (s.t 17)) ?_ ?_
  · exact ⟨0, Nat.zero_le _, by simp -implicitDefEqProofs [go_sem], by simp, by simp -implicitDefEqProofs [go_sem]⟩
  rintro J s hJ hf ⟨i, hi, h17, heq, hh⟩
  simp -implicitDefEqProofs [go_sem, h17, hh, hf.t, hf.m]
  refine cK_dec (fun hlt => ?_) (fun hge => ?_)
  · have hg : l[i]? = some l[i] := List.getElem?_eq_getElem hlt
    have hlt2 : i < ps.length := by omega
    have hg2 : ps[i]? = some ps[i] := List.getElem?_eq_getElem hlt2
    have hw := wrap_succ (i := i) (by omega)
    simp -implicitDefEqProofs [go_sem, h17, hh, hf.t, hf.m, hlt, hg, hlt2, hg2]
    refine (lines1_c l[i] ps[i] h).mono ?_
    rintro e h' ⟨rfl, he⟩
    rw [he]
    simp -implicitDefEqProofs [go_sem, h17, hh, hf.t, hf.m, hlt, hg, hlt2, hg2]
    refine cK_any (fun k1 => ?_) (fun k1 => ?_) <;> simp -implicitDefEqProofs [go_sem, h17, hh, hf.t, hf.m, hf, hw]
    · refine ⟨h, Sub.refl _, ?_, rfl⟩
      rw [decide_eq_false]
      intro e
      have : ps[i] = l[i].r := by simp [e]
      simp [this] at k1
    · refine hJ _ ⟨i + 1, by omega, by simp -implicitDefEqProofs [go_sem, hw], ?_, by simp -implicitDefEqProofs [go_sem, hh]⟩ (by simp [go_sem, h17, hw]; omega)
      have k2 : l[i].r = ps[i] := by simpa using k1
      rw [List.take_add_one, List.take_add_one, heq, hg2]
      simp [hg, k2]
  · simp -implicitDefEqProofs [go_sem, h17, hh, hf.t, hf.m]
    refine ⟨h, Sub.refl _, ?_, rfl⟩
    rw [List.take_of_length_le (by omega), List.take_of_length_le (by simp; omega)] at heq
    rw [decide_eq_true heq]

def lnsR (o : Option (List Rct)) (h : Heap) (e : IEnd) (h' : Heap) : Prop :=
  h' = h ∧ match o with
  | some ls => e = .ret (.tup [.list .plain (ls.map Rct.row), .bool true])
  | none => ∃ l', e = .ret (.tup [.list .plain l', .bool false])

theorem lines_c (c : Cel) (h : Heap) (hs : c.kids.length < 100000000000) (hk1 : 1 ≤ c.kind) (hk3 : c.kind ≤ 3) : ICall Tryz.prog 167 [.agg c.row] h (lnsR c.one h) := by
  refine icall_of_iwp (fun _ => 0) Tryz.func167 rfl (by kernel_rfl) (Nat.le_of_ble_eq_true rfl) ?_
  rw [Tryz.results167]
  simp -implicitDefEqProofs [go_sem]
  refine cK_beq (fun hk => ?_) (fun hk => ?_) <;> simp -implicitDefEqProofs [go_sem]
  · exact ⟨h, Sub.refl _, rfl, by rw [Cel.one, if_pos hk]; rfl⟩
  refine (tcut_c c h hs (by omega) hk3).mono ?_
  rintro e h' ⟨rfl, he⟩
  rw [he]
  cases hcut : cutS c.r (c.kind - 1) c.szs with
  | none =>
    simp -implicitDefEqProofs [go_sem, cutV]
    exact ⟨h, Sub.refl _, rfl, by rw [show c.one = none by rw [Cel.one, if_neg hk, hcut]]; exact ⟨_, rfl⟩⟩
  | some p =>
    obtain ⟨ps, ls⟩ := p
    have hone : c.one = if ps = c.kids.map Cel.r then some ls else none := by rw [Cel.one, if_neg hk, hcut]
    simp -implicitDefEqProofs [go_sem, cutV]
    refine (equalFunc_c c.kids ps h hs).mono ?_
    rintro e h' ⟨rfl, he⟩
    rw [he]
    simp -implicitDefEqProofs [go_sem]
    refine ⟨h, Sub.refl _, rfl, ?_⟩
    by_cases hps : ps = c.kids.map Cel.r
    · rw [hone, if_pos hps, decide_eq_true hps]
    · rw [hone, if_neg hps, decide_eq_false hps]; exact ⟨_, rfl⟩

/-! faults -/
def someE (h : Heap) (e : IEnd) (h' : Heap) : Prop := h' = h ∧ ∃ t x, e = .ret (.iface t x)

theorem faultNew_c (n k : Int) (hn : n ≠ 0) (h : Heap) : ICall Tryz.prog 133 [.int .i64 n, .int .i64 k] h (someE h) := by
  refine icall_of_iwp (fun d => if d = 10 then 1 else 0) Tryz.func133 rfl (by kernel_rfl) (Nat.le_of_ble_eq_true rfl) ?_
  rw [Tryz.results133]
  have hb : (n == 0) = false := by simpa using hn
  simp -implicitDefEqProofs [go_sem, hb]
  intro b hb
  exact ⟨h, (Sub.refl _).upd hb _, rfl, _, _, rfl⟩
set_option maxRecDepth 20000 in
theorem cloneStr_c (s : ByteArray) (h : Heap) : ICall Tryz.prog 166 [.list .plain [[.str s]]] h (retP (.list .plain [[.str s]]) h) := by
  refine icall_of_iwp (fun _ => 0) Tryz.func166 rfl (by kernel_rfl) (Nat.le_of_ble_eq_true rfl) ?_
  rw [Tryz.results166]
  simp -implicitDefEqProofs [go_sem]
  refine aK_own (z := 1) (S := [7]) Own.tight (by simp) elT_227 elZ_9 (by simp [roomy, byT_9]) (by simp [uni]) (by simp [uni]) ?_
  intro v x' ho _
  simp -implicitDefEqProofs [go_sem, ho.strip]
  exact ⟨h, Sub.refl _, rfl, rfl⟩
set_option maxRecDepth 20000 in
theorem faultIn_c (t : TypeId) (x : IV) (s : ByteArray) (hx : okV (.iface t x) = true) (h : Heap) : ICall Tryz.prog 132 [.iface t x, .list .plain [[.str s]]] h (someE h) := by
  refine icall_of_iwp (fun d => if d = 17 then 1 else 0) Tryz.func132 rfl (by kernel_rfl) (Nat.le_of_ble_eq_true rfl) ?_
  rw [Tryz.results132]
  simp -implicitDefEqProofs [go_sem]
  refine (cloneStr_c s h).mono ?_
  rintro e h' ⟨rfl, he⟩
  rw [he]
  simp -implicitDefEqProofs [go_sem]
  intro b hb
  exact ⟨h, (Sub.refl _).upd hb _, rfl, _, _, rfl⟩
end Go.Proofs

set_option linter.unusedVariables false
set_option linter.unusedSimpArgs false
set_option pp.deepTerms false
set_option pp.maxSteps 400
namespace Go.Proofs
open Go.Idl

def oneStep (ls : List Rct) (d : Cel) : Option (List Rct) := d.one.map (ls ++ ·)

theorem fold_len (c : Cel) : ∀ ls ls', c.all.foldlM oneStep ls = some ls' → ls'.length + 1 ≤ ls.length + c.size :=
  Cel.rec (motive_1 := fun c => ∀ ls ls', c.all.foldlM oneStep ls = some ls' → ls'.length + 1 ≤ ls.length + c.size)
    (motive_2 := fun l => ∀ ls ls', (Cel.alls l).foldlM oneStep ls = some ls' → ls'.length + l.length ≤ ls.length + Cel.sizes l)
    (fun k r id kids ih ls ls' h => by
      rw [Cel.all_eq, List.foldlM_cons] at h
      cases ho : (Cel.mk k r id kids).one with
      | none => rw [oneStep, ho] at h; cases h
      | some l1 =>
        rw [oneStep, ho] at h
        have h1 := ih _ _ h
        have h2 := one_len ho
        rw [Cel.size_eq]
        simp only [Cel.kids, List.length_append] at h1 h2 ⊢
        omega)
    (fun ls ls' h => by simp [Cel.alls] at h; subst h; simp [Cel.sizes])
    (fun c cs h1 h2 ls ls' h => by
      rw [Cel.alls, List.foldlM_append] at h
      cases hc : c.all.foldlM oneStep ls with
      | none => rw [hc] at h; cases h
      | some l1 =>
        rw [hc] at h
        have k1 := h1 _ _ hc
        have k2 := h2 _ _ h
        simp only [List.length_cons, Cel.sizes]; omega) c

theorem chkL_fold (l : List Cel) : ∀ (i : Nat) (acc : List Rct), chkL l i acc = match l.foldlM oneStep acc with | some ls => (ls, 0, 0) | none => ([], 5, (chkL l i acc).2.2) := by
  induction l with
  | nil => intro i acc; rfl
  | cons d l ih =>
    intro i acc
    rw [chkL, List.foldlM_cons]
    cases ho : d.one with
    | none => simp [oneStep, ho]
    | some ls =>
      simp only [oneStep, ho, Option.map_some]
      exact ih _ _
theorem tiles_fold (c : Cel) : c.tiles = (c.may && (c.all.foldlM oneStep []).isSome) := by
  rw [Cel.tiles, Cel.check]
  cases hm : c.may with
  | false => rfl
  | true =>
    simp only [if_true, Bool.true_and]
    rw [chkL_fold]
    cases c.all.foldlM oneStep [] <;> rfl

/-- the walker, and its lines -/
structure Wk where
  num : Int
  lk : Option (Nat × Nat)
  ls : List Rct
def Wk.v (s : Wk) : IV := match s.lk with | none => .list .tight [] | some (b, cap) => .sl 4 b 0 s.ls.length cap
def Wk.b1 (s : Wk) (base : Heap) : Heap := match s.lk with | none => base | some (b, cap) => upd base b (some (.arr 23 4 (s.ls.map Rct.row) cap))
def Wk.at' (wb : Nat) (s : Wk) (base : Heap) : Heap := upd (s.b1 base) wb (some (.cells [.int .i64 s.num, s.v]))
def Wk.Good (wb : Nat) (s : Wk) (base : Heap) : Prop := base wb = none ∧ match s.lk with | none => s.ls = [] | some (b, cap) => b ≠ wb ∧ base b = none ∧ s.ls.length ≤ cap

def walkR (wb : Nat) (t : Bool) (r : Option (List Rct)) (base : Heap) (e : IEnd) (h' : Heap) : Prop :=
  match r with
  | some ls' => e = .ret (.bool t) ∧ ∃ s' : Wk, s'.ls = ls' ∧ s'.Good wb base ∧ h' = s'.at' wb base
  | none => e = .ret (.bool !t) ∧ ∃ s' : Wk, s'.Good wb base ∧ h' = s'.at' wb base

theorem Wk.at_wb (wb : Nat) (s : Wk) (base : Heap) : s.at' wb base wb = some (.cells [.int .i64 s.num, s.v]) := by simp [Wk.at', upd]

theorem fold_len_alls : ∀ (l : List Cel) (ls ls' : List Rct), (Cel.alls l).foldlM oneStep ls = some ls' → ls'.length + l.length ≤ ls.length + Cel.sizes l
  | [], ls, ls', h => by simp [Cel.alls] at h; subst h; simp [Cel.sizes]
  | c :: cs, ls, ls', h => by
    rw [Cel.alls, List.foldlM_append] at h
    cases hc : c.all.foldlM oneStep ls with
    | none => rw [hc] at h; cases h
    | some l1 =>
      rw [hc] at h
      have k1 := fold_len c _ _ hc
      have k2 := fold_len_alls cs _ _ h
      simp only [List.length_cons, Cel.sizes]; omega

theorem Wk.at_q {wb qb : Nat} {s : Wk} {base : Heap} {o : IObj} (hg : s.Good wb base) (hq : base qb = some o) : s.at' wb base qb = some o := by
  have h1 : qb ≠ wb := by rintro rfl; rw [hg.1] at hq; cases hq
  obtain ⟨num, lk, ls⟩ := s
  cases lk with
  | none => simp [Wk.at', Wk.b1, upd, h1, hq]
  | some p =>
    obtain ⟨b, cap⟩ := p
    have h2 : qb ≠ b := by rintro rfl; have := hg.2.2.1; rw [this] at hq; cases hq
    simp [Wk.at', Wk.b1, upd, h1, h2, hq]
theorem Wk.sub {wb : Nat} (s : Wk) {base base' : Heap} (h : Sub base base') : Sub (s.at' wb base) (s.at' wb base') := by
  obtain ⟨num, lk, ls⟩ := s
  intro b o hb
  simp only [Wk.at', upd] at hb ⊢
  split at hb
  · rw [if_pos (by assumption)]; exact hb
  · rw [if_neg (by assumption)]
    cases lk with
    | none => exact h _ _ hb
    | some p =>
      simp only [Wk.b1, upd] at hb ⊢
      split at hb
      · rw [if_pos (by assumption)]; exact hb
      · rw [if_neg (by assumption)]; exact h _ _ hb
theorem sub_none {h h' : Heap} {b : Nat} (hs : Sub h h') (hn : h' b = none) : h b = none := by
  cases hb : h b with
  | none => rfl
  | some o => rw [hs _ _ hb] at hn; cases hn
theorem Wk.Good.of_sub {wb : Nat} {s : Wk} {base base' : Heap} (h : Sub base base') (hg : s.Good wb base') : s.Good wb base := by
  refine ⟨sub_none h hg.1, ?_⟩
  obtain ⟨num, lk, ls⟩ := s
  cases lk with
  | none => exact hg.2
  | some p => exact ⟨hg.2.1, sub_none h hg.2.2.1, hg.2.2.2⟩
theorem walkR_sub {wb : Nat} {t : Bool} {r : Option (List Rct)} {base base' : Heap} (h : Sub base base') {e : IEnd} {h' : Heap} (hr : walkR wb t r base' e h') : ∃ h2, Sub h2 h' ∧ walkR wb t r base e h2 := by
  cases r with
  | some ls' =>
    obtain ⟨rfl, s', h1, h2, rfl⟩ := hr
    exact ⟨s'.at' wb base, s'.sub h, rfl, s', h1, h2.of_sub h, rfl⟩
  | none =>
    obtain ⟨rfl, s', h2, rfl⟩ := hr
    exact ⟨s'.at' wb base, s'.sub h, rfl, s', h2.of_sub h, rfl⟩

theorem walk1_of {wb qb : Nat} {d : Cel} {s : Wk} {base : Heap} (hq : s.at' wb base qb = some (.cells [.ptr wb 0])) {r : Option (List Rct)}
    (ha : ICall Tryz.prog 134 [.ptr wb 0, .agg d.row] (s.at' wb base) (walkR wb true r base)) :
    ICall Tryz.prog 168 [.agg d.row, .ptr qb 0] (s.at' wb base) (walkR wb false r base) := by
  refine icall_of_iwp (fun _ => 0) Tryz.func168 rfl (by kernel_rfl) (Nat.le_of_ble_eq_true rfl) ?_
  rw [Tryz.results168]
  simp -implicitDefEqProofs [go_sem, hq]
  refine ha.mono ?_
  intro e h' he
  cases r with
  | some ls' =>
    obtain ⟨rfl, s', h1, h2, rfl⟩ := he
    simp -implicitDefEqProofs [go_sem]
    exact ⟨_, Sub.refl _, rfl, s', h1, h2, rfl⟩
  | none =>
    obtain ⟨rfl, s', h2, rfl⟩ := he
    simp -implicitDefEqProofs [go_sem]
    exact ⟨_, Sub.refl _, rfl, s', h2, rfl⟩

theorem sizes_rest (l : List Cel) (k : Nat) (h : k ≤ l.length) : Cel.sizes (l.take k) + (l.length - k) ≤ Cel.sizes l := by
  induction l generalizing k with
  | nil => simp [Cel.sizes]
  | cons c cs ih =>
    cases k with
    | zero => have := Cel.len_le (c :: cs); simp [Cel.sizes] at this ⊢; omega
    | succ k => have := ih k (by simpa using h); simp [Cel.sizes]; omega
theorem walkKids_c {wb qb : Nat} {l : List Cel} {base : Heap} (ih : ∀ d ∈ l, ∀ (s : Wk) (base : Heap), s.Good wb base → s.ls.length + d.size < 100000000000 → (∀ d' ∈ d.all, 1 ≤ d'.kind ∧ d'.kind ≤ 3) →
      ICall Tryz.prog 134 [.ptr wb 0, .agg d.row] (s.at' wb base) (walkR wb true (d.all.foldlM oneStep s.ls) base))
    (s : Wk) (hg : s.Good wb base) (hq : base qb = some (.cells [.ptr wb 0])) (hn : l.length < 100000000000) (hsz : s.ls.length + Cel.sizes l + 1 < 100000000000 + l.length) (hk : ∀ d ∈ l, ∀ d' ∈ d.all, 1 ≤ d'.kind ∧ d'.kind ≤ 3) :
    ICall Tryz.prog 83 [.list .plain (l.map Cel.row), .fn (.func 168) [] [.ptr qb 0]] (s.at' wb base) (walkR wb false ((Cel.alls l).foldlM oneStep s.ls) base) := by
  have hlen := Cel.len_le l
  refine (containsFunc_cel (Inv := fun i h => ∃ s2 : Wk, s2.Good wb base ∧ (Cel.alls (l.take i)).foldlM oneStep s.ls = some s2.ls ∧ h = s2.at' wb base)
    (Hit := fun i h => (Cel.alls l).foldlM oneStep s.ls = none ∧ ∃ s' : Wk, s'.Good wb base ∧ h = s'.at' wb base) (by omega) ?_ _ ⟨s, hg, by simp [Cel.alls], rfl⟩).mono ?_
  · rintro i hi h ⟨s2, hg2, hs2, rfl⟩
    have hle := sizes_rest l (i + 1) hi
    have hst := Cel.sizes_take l i hi
    have hfl := fold_len_alls _ _ _ hs2
    rw [List.length_take, Nat.min_eq_left (by omega)] at hfl
    refine (walk1_of (Wk.at_q hg2 hq) (ih _ (List.getElem_mem hi) s2 base hg2 (by omega) (hk _ (List.getElem_mem hi)))).mono ?_
    intro e h' he
    have htk := Cel.alls_take l i hi
    cases hr2 : l[i].all.foldlM oneStep s2.ls with
    | none =>
      rw [hr2] at he
      obtain ⟨rfl, s', h2, rfl⟩ := he
      refine .inr ⟨rfl, ?_, s', h2, rfl⟩
      apply alls_fold_all oneStep l (i + 1)
      rw [htk, List.foldlM_append, hs2]; exact hr2
    | some ls3 =>
      rw [hr2] at he
      obtain ⟨rfl, s', h1, h2, rfl⟩ := he
      refine .inl ⟨rfl, s', h2, ?_, rfl⟩
      rw [htk, List.foldlM_append, hs2, h1]; exact hr2
  · rintro e h' (⟨rfl, s2, hg2, hs2, rfl⟩ | ⟨i, hi, rfl, hn, s', h2, rfl⟩)
    · rw [List.take_length] at hs2
      rw [hs2]; exact ⟨rfl, s2, rfl, hg2, rfl⟩
    · rw [hn]; exact ⟨rfl, s', h2, rfl⟩

set_option maxRecDepth 20000 in
set_option maxHeartbeats 4000000 in
theorem walk_c (wb : Nat) (c : Cel) : ∀ (s : Wk) (base : Heap), s.Good wb base → s.ls.length + c.size < 100000000000 → (∀ d ∈ c.all, 1 ≤ d.kind ∧ d.kind ≤ 3) →
    ICall Tryz.prog 134 [.ptr wb 0, .agg c.row] (s.at' wb base) (walkR wb true (c.all.foldlM oneStep s.ls) base) := by
  induction c using Cel.induct
  rename_i c ih
  intro s base hg hsz hk
  have hlen := Cel.len_le c.kids
  rw [c.size_eq] at hsz
  have hkc := hk c (by rw [c.all_eq]; exact List.mem_cons_self)
  have hwb := s.at_wb wb base
  refine icall_of_iwp (fun d => if d = 2 then 1 else if d = 27 then 2 else 0) Tryz.func134 rfl (by kernel_rfl) (Nat.le_of_ble_eq_true rfl) ?_
  rw [Tryz.results134]
  simp -implicitDefEqProofs [go_sem]
  intro qb hqb
  refine (lines_c c _ (by omega) hkc.1 hkc.2).mono ?_
  rintro e h' ⟨rfl, he⟩
  have hqn : qb ≠ wb := by rintro rfl; rw [hwb] at hqb; cases hqb
  cases ho : c.one with
  | none =>
    rw [ho] at he
    obtain ⟨l', rfl⟩ := he
    simp -implicitDefEqProofs [go_sem]
    have hfold : c.all.foldlM oneStep s.ls = none := by rw [c.all_eq, List.foldlM_cons, oneStep, ho]; rfl
    exact ⟨s.at' wb base, (Sub.refl _).upd hqb _, by rw [hfold]; exact ⟨rfl, s, hg, rfl⟩⟩
  | some ls =>
    rw [ho] at he
    subst he
    simp -implicitDefEqProofs [go_sem, hwb, hqn, hqn.symm]
    refine iwp_drawn_of mixed [0, 1, 2, 3, 4, 5, 6, 7, 8, 9] (by kernel_rfl) ?_
    have hfold : c.all.foldlM oneStep s.ls = (Cel.alls c.kids).foldlM oneStep (s.ls ++ ls) := by rw [c.all_eq, List.foldlM_cons, oneStep, ho]; rfl
    have hll := one_len ho
    have hkk : ∀ d ∈ c.kids, ∀ d' ∈ d.all, 1 ≤ d'.kind ∧ d'.kind ≤ 3 := fun d hd d' hd' => hk d' (by
      rw [c.all_eq]; refine List.mem_cons_of_mem _ ?_
      obtain ⟨l1, l2, hl⟩ := List.append_of_mem hd
      rw [hl]
      have : ∀ (l1 l2 : List Cel), Cel.alls (l1 ++ l2) = Cel.alls l1 ++ Cel.alls l2 := by
        intro l1 l2
        induction l1 with
        | nil => rfl
        | cons x xs ihx => simp [Cel.alls, ihx]
      rw [this]; simp [Cel.alls, hd'])
    have tail : ∀ (s1 : Wk) (base2 H : Heap), s1.ls = s.ls ++ ls → s1.Good wb base2 → base2 qb = some (.cells [.ptr wb 0]) → Sub base base2 → H = s1.at' wb base2 →
        ICall Tryz.prog 83 [.list .plain (c.kids.map Cel.row), .fn (.func 168) [] [.ptr qb 0]] H (fun e h' => walkR wb false (c.all.foldlM oneStep s.ls) base2 e h' ∧ Sub base base2) := by
      intro s1 base2 H h1 h2 h3 h4 h5
      rw [h5, hfold, ← h1]
      refine (walkKids_c (fun d hd => ih d hd) s1 h2 h3 (by omega) (by rw [h1]; simp; omega) hkk).mono fun e h' he => ⟨he, h4⟩
    clear ih hk hkk
    have fin : ∀ (base2 : Heap) (e : IEnd) (h' : Heap), walkR wb false (c.all.foldlM oneStep s.ls) base2 e h' → Sub base base2 → ∃ b h2, e = .ret (.bool b) ∧ Sub h2 h' ∧ walkR wb true (c.all.foldlM oneStep s.ls) base (.ret (.bool !b)) h2 := by
      intro base2 e h' hr hs
      cases hc : c.all.foldlM oneStep s.ls with
      | some ls' =>
        rw [hc] at hr
        obtain ⟨rfl, s', h1, h2, rfl⟩ := hr
        exact ⟨false, s'.at' wb base, rfl, s'.sub hs, rfl, s', h1, h2.of_sub hs, rfl⟩
      | none =>
        rw [hc] at hr
        obtain ⟨rfl, s', h2, rfl⟩ := hr
        exact ⟨true, s'.at' wb base, rfl, s'.sub hs, rfl, s', h2.of_sub hs, rfl⟩
    clear hfold ho
    generalize c.all.foldlM oneStep s.ls = FR at tail fin ⊢
    obtain ⟨num, lk, ls0⟩ := s
    simp only at hsz
    have hbq : base qb = none := by
      have h1 := hqb
      simp only [Wk.at', upd, hqn, if_false] at h1
      cases lk with
      | none => exact h1
      | some p => simp only [Wk.b1, upd] at h1; split at h1; cases h1; exact h1
    have hsub : Sub base (upd base qb (some (.cells [.ptr wb 0]))) := (Sub.refl _).upd hbq _
    have hb2 : (upd base qb (some (.cells [.ptr wb 0]))) wb = none := by simp [upd, hqn.symm, hg.1]
    cases lk with
    | none =>
      have hls0 : ls0 = [] := hg.2
      subst hls0
      simp -implicitDefEqProofs [go_sem, hwb, hqn, hqn.symm, Wk.v]
      refine ⟨by simp [roomy, byT_23]; omega, ?_, ?_⟩
      · intro hls
        subst hls
        refine (tail ⟨IntKind.i64.wrap (num + 1), none, []⟩ (upd base qb (some (.cells [.ptr wb 0]))) _ rfl ⟨hb2, rfl⟩ (by simp [upd]) hsub ?_).mono ?_
        · funext j
          simp only [Wk.at', Wk.b1, Wk.v, upd]
          by_cases j1 : j = wb <;> simp [j1]
        · rintro e h' ⟨hr, hs⟩
          obtain ⟨b, h2, rfl, h3, h4⟩ := fin _ _ _ hr hs
          simp -implicitDefEqProofs [go_sem]
          exact ⟨h2, h3, h4⟩
      · intro hls b' cap' hb' hcap
        have hbw : b' ≠ wb := by rintro rfl; simp [upd] at hb'
        have hbq' : b' ≠ qb := by rintro rfl; simp [upd, hqn] at hb'
        have hbb : base b' = none := by simpa [upd, hbw, hbq', Wk.at', Wk.b1] using hb'
        simp -implicitDefEqProofs [go_sem, hbw, hbw.symm]
        refine (tail ⟨IntKind.i64.wrap (num + 1), some (b', cap'), ls⟩ (upd base qb (some (.cells [.ptr wb 0]))) _ rfl ⟨hb2, hbw, by simp [upd, hbq', hbb], by simpa using hcap⟩ (by simp [upd]) hsub ?_).mono ?_
        · funext j
          simp only [Wk.at', Wk.b1, Wk.v, upd]
          by_cases j1 : j = wb
          · simp [j1, hbw.symm]
          · by_cases j2 : j = b' <;> simp [j1, j2]
        · rintro e h' ⟨hr, hs⟩
          obtain ⟨b, h2, rfl, h3, h4⟩ := fin _ _ _ hr hs
          simp -implicitDefEqProofs [go_sem]
          exact ⟨h2, h3, h4⟩
    | some p =>
      obtain ⟨ab, cap⟩ := p
      obtain ⟨hg1, habw, habn, hcap0⟩ := hg
      simp only at hcap0
      have habq : ab ≠ qb := by
        rintro rfl
        simp [Wk.at', Wk.b1, upd, habw] at hqb
      have hat : Wk.at' wb ⟨num, some (ab, cap), ls0⟩ base ab = some (.arr 23 4 (ls0.map Rct.row) cap) := by simp [Wk.at', Wk.b1, upd, habw]
      simp -implicitDefEqProofs [go_sem, hwb, hqn, hqn.symm, Wk.v, habw, habw.symm, habq, hat]
      refine ⟨by simp [roomy, byT_23]; omega, ?_, ?_⟩
      · intro hfit
        refine (tail ⟨IntKind.i64.wrap (num + 1), some (ab, cap), ls0 ++ ls⟩ (upd base qb (some (.cells [.ptr wb 0]))) _ rfl ⟨hb2, habw, by simp [upd, habq, habn], by simpa using hfit⟩ (by simp [upd]) hsub ?_).mono ?_
        · funext j
          simp only [Wk.at', Wk.b1, Wk.v, upd]
          by_cases j1 : j = wb
          · simp [j1, habw.symm]
          · by_cases j2 : j = ab
            · simp [j1, j2, habq]
            · simp [j1, j2]
        · rintro e h' ⟨hr, hs⟩
          obtain ⟨b, h2, rfl, h3, h4⟩ := fin _ _ _ hr hs
          simp -implicitDefEqProofs [go_sem]
          exact ⟨h2, h3, h4⟩
      · intro hfit b' cap' hb' hcap
        have hbw : b' ≠ wb := by rintro rfl; simp [upd] at hb'
        have hbq' : b' ≠ qb := by rintro rfl; simp [upd, hqn] at hb'
        have hba : b' ≠ ab := by rintro rfl; simp [upd, habw, habq, hat] at hb'
        have hbb : base b' = none := by simpa [upd, hbw, hbq', hba, Wk.at', Wk.b1] using hb'
        simp -implicitDefEqProofs [go_sem, hbw, hbw.symm]
        have hsub2 : Sub base (upd (upd base qb (some (.cells [.ptr wb 0]))) ab (some (.arr 23 4 (ls0.map Rct.row) cap))) := hsub.upd (by simp [upd, habq, habn]) _
        refine (tail ⟨IntKind.i64.wrap (num + 1), some (b', cap'), ls0 ++ ls⟩ (upd (upd base qb (some (.cells [.ptr wb 0]))) ab (some (.arr 23 4 (ls0.map Rct.row) cap))) _ rfl
          ⟨by simp [upd, habw.symm, hqn.symm, hg1], hbw, by simp [upd, hbq', hba, hbb], by simpa using hcap⟩ (by simp [upd, habq.symm]) hsub2 ?_).mono ?_
        · funext j
          simp only [Wk.at', Wk.b1, Wk.v, upd]
          by_cases j1 : j = wb
          · simp [j1, hbw.symm]
          · by_cases j2 : j = b'
            · simp [j1, j2]
            · by_cases j3 : j = ab
              · simp [j1, j2, j3, habq, hba.symm, habw]
              · simp [j1, j2, j3]
        · rintro e h' ⟨hr, hs⟩
          obtain ⟨b, h2, rfl, h3, h4⟩ := fin _ _ _ hr hs
          simp -implicitDefEqProofs [go_sem]
          exact ⟨h2, h3, h4⟩
end Go.Proofs

set_option linter.unusedVariables false
set_option linter.unusedSimpArgs false
set_option pp.deepTerms false
set_option pp.maxSteps 400
namespace Go.Proofs
open Go.Idl

def checkR (b : Bool) (h : Heap) (e : IEnd) (h' : Heap) : Prop := h' = h ∧ if b = true then e = .ret .niliface else ∃ t x, e = .ret (.iface t x)

set_option maxRecDepth 20000 in
theorem tcheck_c (c : Cel) (h : Heap) (hs : c.size < 100000000000) : ICall Tryz.prog 85 [.agg c.row] h (checkR c.tiles h) := by
  have htf := tiles_fold c
  refine icall_of_iwp (fun d => if d = 5 then 1 else 0) Tryz.func85 rfl (by kernel_rfl) (Nat.le_of_ble_eq_true rfl) ?_
  rw [Tryz.results85]
  simp -implicitDefEqProofs [go_sem]
  intro b hb
  refine (cMay_c c _ hs).mono ?_
  rintro e h' ⟨rfl, he⟩
  rw [he]
  simp -implicitDefEqProofs [go_sem]
  refine cK_any (fun hm => ?_) (fun hm => ?_) <;> simp -implicitDefEqProofs [go_sem]
  · have hti : c.tiles = false := by rw [htf]; simp at hm; simp [hm]
    refine (faultNew_c 1 0 (by omega) _).mono ?_
    rintro e h' ⟨rfl, t, x, rfl⟩
    simp -implicitDefEqProofs [go_sem]
    refine (faultIn_c t x _ rfl _).mono ?_
    rintro e h' ⟨rfl, t', x', rfl⟩
    simp -implicitDefEqProofs [go_sem]
    exact ⟨h, (Sub.refl _).upd hb _, rfl, by rw [hti]; exact ⟨_, _, rfl⟩⟩
  · have hm' : c.may = true := by simpa using hm
    rw [hm', Bool.true_and] at htf
    have hmb := hm'
    rw [Cel.may, decide_eq_true_eq] at hmb
    have hH : upd h b (some (.cells [.int .i64 0, .list .tight []])) = Wk.at' b ⟨0, none, []⟩ h := by funext j; simp only [Wk.at', Wk.b1, Wk.v]
    rw [hH]
    refine (walk_c b c ⟨0, none, []⟩ h ⟨hb, rfl⟩ (by simpa using hs) (fun d hd => by have := (hmb.2.1 d hd).2; omega)).mono ?_
    intro e h' he
    simp only at he
    cases hf : c.all.foldlM oneStep [] with
    | none =>
      rw [hf] at he htf
      obtain ⟨rfl, s', hg, rfl⟩ := he
      have hti : c.tiles = false := by rw [htf]; rfl
      have hwb := s'.at_wb b h
      simp -implicitDefEqProofs [go_sem, hwb]
      refine (faultNew_c 5 _ (by omega) _).mono ?_
      rintro e h' ⟨rfl, t, x, rfl⟩
      simp -implicitDefEqProofs [go_sem]
      refine (faultIn_c t x _ rfl _).mono ?_
      rintro e h' ⟨rfl, t', x', rfl⟩
      simp -implicitDefEqProofs [go_sem]
      refine ⟨h, ?_, rfl, by rw [hti]; exact ⟨_, _, rfl⟩⟩
      intro b' o hb'
      obtain ⟨num, lk, ls⟩ := s'
      have h1 : b' ≠ b := by rintro rfl; rw [hb] at hb'; cases hb'
      cases lk with
      | none => simpa [Wk.at', Wk.b1, upd, h1] using hb'
      | some p =>
        have h2 : b' ≠ p.1 := by rintro rfl; have := hg.2.2.1; rw [this] at hb'; cases hb'
        simpa [Wk.at', Wk.b1, upd, h1, h2] using hb'
    | some ls' =>
      rw [hf] at he htf
      obtain ⟨rfl, s', _, hg, rfl⟩ := he
      have hti : c.tiles = true := by rw [htf]; rfl
      simp -implicitDefEqProofs [go_sem]
      refine ⟨h, ?_, rfl, by rw [hti]; rfl⟩
      intro b' o hb'
      obtain ⟨num, lk, ls⟩ := s'
      have h1 : b' ≠ b := by rintro rfl; rw [hb] at hb'; cases hb'
      cases lk with
      | none => simpa [Wk.at', Wk.b1, upd, h1] using hb'
      | some p =>
        have h2 : b' ≠ p.1 := by rintro rfl; have := hg.2.2.1; rw [this] at hb'; cases hb'
        simpa [Wk.at', Wk.b1, upd, h1, h2] using hb'

theorem tTiles1_c (c : Cel) (h : Heap) (hs : c.size < 100000000000) : ICall Tryz.prog 84 [.agg c.row] h (retP (.bool (!c.tiles)) h) := by
  refine icall_of_iwp (fun _ => 0) Tryz.func84 rfl (by kernel_rfl) (Nat.le_of_ble_eq_true rfl) ?_
  rw [Tryz.results84]
  simp -implicitDefEqProofs [go_sem]
  refine (tcheck_c c h hs).mono ?_
  rintro e h' ⟨rfl, he⟩
  cases ht : c.tiles with
  | true =>
    rw [ht, if_pos rfl] at he
    subst he
    simp -implicitDefEqProofs [go_sem]
    exact ⟨_, Sub.refl _, rfl, rfl⟩
  | false =>
    rw [ht, if_neg (by simp)] at he
    obtain ⟨t, x, rfl⟩ := he
    simp -implicitDefEqProofs [go_sem]
    exact ⟨_, Sub.refl _, rfl, rfl⟩

theorem tTiles_c (c : Cel) (h : Heap) (hs : c.size < 100000000000) : ICall Tryz.prog 40 [.list .plain [c.row]] h (retP (.bool c.tiles) h) := by
  refine icall_of_iwp (fun _ => 0) Tryz.func40 rfl (by kernel_rfl) (Nat.le_of_ble_eq_true rfl) ?_
  rw [Tryz.results40]
  simp -implicitDefEqProofs [go_sem]
  have hn := containsFunc_cel (l := [c]) (f := 84) (first := []) (cap := []) (Inv := fun i h' => h' = h ∧ (i = 1 → c.tiles = true)) (Hit := fun i h' => h' = h ∧ c.tiles = false) (by simp) (fun i hi h1 hh => by
    obtain ⟨rfl, _⟩ := hh
    obtain rfl : i = 0 := by simp at hi; exact hi
    refine (tTiles1_c c h1 hs).mono ?_
    rintro e h' ⟨rfl, rfl⟩
    cases hb : c.tiles with
    | false => exact .inr ⟨rfl, rfl, rfl⟩
    | true => exact .inl ⟨rfl, rfl, fun _ => rfl⟩) h ⟨rfl, fun h => by cases h⟩
  simp only [List.map_cons, List.map_nil] at hn
  refine hn.mono ?_
  rintro e h' (⟨rfl, rfl, hm⟩ | ⟨i, hi, rfl, rfl, hm⟩)
  · simp -implicitDefEqProofs [go_sem]
    exact ⟨h', Sub.refl _, by rw [hm rfl], rfl⟩
  · simp -implicitDefEqProofs [go_sem]
    exact ⟨h', Sub.refl _, by rw [hm], rfl⟩

/-- the leaves' numbers of some trees -/
def idsL (l : List Cel) : List Int := ((Cel.alls l).filter fun d => d.kind == 1).map Cel.id
theorem ids_eq (c : Cel) : c.ids = (if c.kind = 1 then [c.id] else []) ++ idsL c.kids := by
  rw [Cel.ids, Cel.leaves, c.all_eq, idsL, List.filter_cons]
  by_cases hk : c.kind = 1
  · simp [hk]
  · simp [hk]
theorem idsL_take (l : List Cel) (i : Nat) (h : i < l.length) : idsL (l.take (i + 1)) = idsL (l.take i) ++ l[i].ids := by
  rw [idsL, Cel.alls_take l i h, List.filter_append, List.map_append]; rfl
theorem idsL_len (l : List Cel) : (idsL l).length ≤ Cel.sizes l := by
  rw [idsL, List.length_map, ← Cel.alls_length]; exact List.length_filter_le _ _

set_option maxRecDepth 20000 in
set_option maxHeartbeats 4000000 in
theorem leavesL_c (l : List Cel) (hs : Cel.sizes l < 100000000000) (ih : ∀ c ∈ l, ∀ h, ICall Tryz.prog 38 [.list .plain (c.kids.map Cel.row)] h (retP (.list .plain ((idsL c.kids).map intRow)) h)) (h : Heap) :
    ICall Tryz.prog 38 [.list .plain (l.map Cel.row)] h (retP (.list .plain ((idsL l).map intRow)) h) := by
  have hlen := Cel.len_le l
  refine icall_of_iwp (fun _ => 0) Tryz.func38 rfl (by kernel_rfl) (Nat.le_of_ble_eq_true rfl) ?_
  rw [Tryz.results38]
  simp -implicitDefEqProofs [go_sem]
  refine iwp_loopF (rng [3,5] 8 25) (fun k => k == 5) (fun s => ∃ i, i ≤ l.length ∧ s.t 8 = .int .i64 i ∧ Own [19, 24] s.x 3 (s.t 3) ((idsL (l.take i)).map intRow) ∧ s.h = h) (fun s => l.length - tn (s.t 8)) ?_ ?_
  · exact ⟨0, Nat.zero_le _, by simp -implicitDefEqProofs [go_sem], by simp -implicitDefEqProofs [go_sem, Own.tight, idsL, Cel.alls], by simp -implicitDefEqProofs [go_sem]⟩
  rintro J s hJ hf ⟨i, hi, h8, ho, hh⟩
  obtain ⟨tk, h3⟩ := ho.list
  simp -implicitDefEqProofs [go_sem, h8, h3, hh, hf.t, hf.m]
  refine cK_dec (fun hlt => ?_) (fun hge => ?_)
  · have hg : l[i]? = some l[i] := List.getElem?_eq_getElem hlt
    have hw := wrap_succ (i := i) (by omega)
    have hst := Cel.sizes_take l i hlt
    have hle := Cel.sizes_le l (i + 1)
    have hl1 := idsL_len (l.take i)
    have hl2 := idsL_len (l[i].kids)
    have hsz := l[i].size_eq
    have htk := idsL_take l i hlt
    rw [ids_eq] at htk
    simp -implicitDefEqProofs [go_sem, h8, h3, hh, hf.t, hf.m, hlt, hg]
    refine cK_beq (fun hk => ?_) (fun hk => ?_)
    · simp -implicitDefEqProofs [go_sem, h8, h3, hh, hf.t, hf.m, hlt, hg]
      refine aK_own (z := 1) (S := [19, 24]) (rows := (idsL (l.take i)).map intRow) (by simpa -implicitDefEqProofs [go_sem, h3] using ho) (by simp) elT_40 elZ_3 (by simp [roomy, byT_3]; omega) (ints_uni _) (by simp [uni]) ?_
      intro r' x' ho' _
      simp -implicitDefEqProofs [go_sem, h8, h3, hh, hf.t, hf.m, hf, hw]
      refine (ih _ (List.getElem_mem hlt) h).mono ?_
      rintro e h' ⟨rfl, he⟩
      rw [he]
      simp -implicitDefEqProofs [go_sem, h8, h3, hh, hf.t, hf.m, hf, hw]
      refine aK_own (z := 1) (S := [19, 24]) (rows := (idsL (l.take i) ++ [l[i].id]).map intRow) (by rw [List.map_append]; exact ho') (by simp) elT_40 elZ_3 (by simp [roomy, byT_3]; omega) (ints_uni _) (ints_uni _) ?_
      intro r2 x2 ho2 _
      simp -implicitDefEqProofs [go_sem, h8, h3, hh, hf.t, hf.m, hf, hw]
      exact hJ _ ⟨i + 1, by omega, by simp -implicitDefEqProofs [go_sem, hw], by rw [htk, if_pos hk, ← List.append_assoc, List.map_append]; simpa -implicitDefEqProofs [go_sem] using ho2, by simp -implicitDefEqProofs [go_sem, hh]⟩ (by simp [go_sem, h8, hw]; omega)
    · simp -implicitDefEqProofs [go_sem, h8, h3, hh, hf.t, hf.m, hlt, hg]
      refine (ih _ (List.getElem_mem hlt) h).mono ?_
      rintro e h' ⟨rfl, he⟩
      rw [he]
      simp -implicitDefEqProofs [go_sem, h8, h3, hh, hf.t, hf.m, hf, hw]
      refine aK_own (z := 1) (S := [19, 24]) (rows := (idsL (l.take i)).map intRow) (by simpa -implicitDefEqProofs [go_sem, h3] using ho) (by simp) elT_40 elZ_3 (by simp [roomy, byT_3]; omega) (ints_uni _) (ints_uni _) ?_
      intro r2 x2 ho2 _
      simp -implicitDefEqProofs [go_sem, h8, h3, hh, hf.t, hf.m, hf, hw]
      exact hJ _ ⟨i + 1, by omega, by simp -implicitDefEqProofs [go_sem, hw], by rw [htk, if_neg hk, List.nil_append, List.map_append]; simpa -implicitDefEqProofs [go_sem] using ho2, by simp -implicitDefEqProofs [go_sem, hh]⟩ (by simp [go_sem, h8, hw]; omega)
  · obtain rfl : i = l.length := by omega
    rw [List.take_length] at ho h3
    simp -implicitDefEqProofs [go_sem, h8, h3, hh, hf.t, hf.m]
    exact ⟨h, Sub.refl _, rfl, rfl⟩

theorem leavesK_c (c : Cel) : ∀ h, c.size < 100000000000 → ICall Tryz.prog 38 [.list .plain (c.kids.map Cel.row)] h (retP (.list .plain ((idsL c.kids).map intRow)) h) := by
  induction c using Cel.induct
  rename_i c ih
  intro h hs
  rw [c.size_eq] at hs
  exact leavesL_c c.kids (by omega) (fun d hd h => ih d hd h (by have := Cel.mem_le hd; omega)) h

theorem cLeaves_c (c : Cel) (h : Heap) (hs : c.size < 100000000000) : ICall Tryz.prog 38 [.list .plain [c.row]] h (retP (.list .plain (c.ids.map intRow)) h) := by
  have := leavesL_c [c] (by simpa [Cel.sizes] using hs) (fun d hd h => by simp at hd; subst hd; exact leavesK_c _ h hs) h
  have e : idsL [c] = c.ids := by simp [idsL, Cel.alls, Cel.ids, Cel.leaves]
  rw [e] at this
  exact this

def cloR (l : List Cel) (h : Heap) (e : IEnd) (h' : Heap) : Prop :=
    (l = [] ∧ retP (.list .plain []) h e h') ∨ (l ≠ [] ∧ ∃ b cap, h b = none ∧ l.length ≤ cap ∧ e = .ret (.sl 7 b 0 l.length cap) ∧ h' = upd h b (some (.arr 26 7 (l.map Cel.row) cap)))
set_option maxRecDepth 20000 in
theorem cloneCel_c (l : List Cel) (h : Heap) (hs : l.length < 100000000000) : ICall Tryz.prog 142 [.list .plain (l.map Cel.row)] h (cloR l h) := by
  refine icall_of_iwp (fun d => if d = 7 then 2 else 0) Tryz.func142 rfl (by kernel_rfl) (Nat.le_of_ble_eq_true rfl) ?_
  rw [Tryz.results142]
  simp -implicitDefEqProofs [go_sem]
  refine ⟨⟨by simp [roomy, byT_26]; omega, fun hl => ⟨h, Sub.refl _, .inl ⟨hl, rfl, rfl⟩⟩, fun hl b cap hb hcap => ⟨_, Sub.refl _, .inr ⟨hl, b, cap, hb, hcap, rfl, rfl⟩⟩⟩, fun hl => ⟨h, Sub.refl _, .inl ⟨hl, rfl, rfl⟩⟩⟩

@[go_sem] theorem Cel.withKids_kids (c : Cel) (ks : List Cel) : (c.withKids ks).kids = ks := rfl
theorem Cel.withKids_rowK (c : Cel) (ks : List Cel) (x : IV) : (c.withKids ks).rowK x = c.rowK x := by rw [Cel.rowK_eq, Cel.rowK_eq]; rfl
@[go_sem high] theorem Cel.put6s (c : Cel) (z b o n cap : Nat) : splice c.row 6 [.sl z b o n cap] = c.rowK (.sl z b o n cap) := by rw [c.row_eq, c.rowK_eq]; rfl
@[go_sem high] theorem Cel.rowK_strC_sl (c : Cel) (z b o n cap : Nat) : (c.rowK (.sl z b o n cap)).map strC = c.rowK (.sl z b o n cap) := by rw [c.rowK_eq]; rfl
@[go_sem high] theorem Cel.rowK_strip_sl (c : Cel) (z b o n cap : Nat) : (c.rowK (.sl z b o n cap)).map strip = c.rowK (.sl z b o n cap) := by rw [c.rowK_eq]; rfl
theorem Cel.rowK_fz (c : Cel) (b : Nat) (ks : List Cel) (cap : Nat) : (c.rowK (.sl 7 b 0 ks.length cap)).map (fz1 b 7 (ks.map Cel.row)) = (c.withKids ks).row := by
  rw [c.rowK_eq, (c.withKids ks).row_eq]
  simp [fz1, Cel.withKids, Cel.kind, Cel.r, Cel.id, Cel.kids]
  rw [List.take_of_length_le (by simp)]

theorem set_mid {α : Type} (A B : List α) (x y : α) : (A ++ x :: B).set A.length y = A ++ y :: B := by
  induction A with
  | nil => rfl
  | cons a A ih => simp [ih]
end Go.Proofs
