/- This text is a part of the proofs of the statements of this seat: the ideal states and their rules, or what one of the functions that the statements reach comes to. Conditions: none beyond those that each theorem names. -/
import Derived.Test.YtiloboepepdcgaaC16
set_option linter.unusedVariables false
set_option linter.unusedSimpArgs false
set_option pp.deepTerms false
set_option pp.maxSteps 400
namespace Go.Proofs
open Go.Idl

def oneStep (ls : List Rct) (d : Cel) : Option (List Rct) := d.one.map (ls ++ ·)

theorem fold_len (c : Cel) : ∀ ls ls', c.all.foldlM oneStep ls = some ls' → ls'.length + 1 ≤ ls.length + c.size :=
  Cel.rec (motive_1 := fun c => ∀ ls ls', c.all.foldlM oneStep ls = some ls' → ls'.length + 1 ≤ ls.length + c.size)
    (motive_2 := fun l => ∀ ls ls', (Cel.alls l).foldlM oneStep ls = some ls' → ls'.length + l.length ≤ ls.length + Cel.sizes l)
    (fun k r id kids ih ls ls' h => by
      rw [Cel.all_eq, List.foldlM_cons] at h
      cases ho : (Cel.mk k r id kids).one with
      | none => rw [oneStep, ho] at h; cases h
      | some l1 =>
        rw [oneStep, ho] at h
        have h1 := ih _ _ h
        have h2 := one_len ho
        rw [Cel.size_eq]
        simp only [Cel.kids, List.length_append] at h1 h2 ⊢
        omega)
    (fun ls ls' h => by simp [Cel.alls] at h; subst h; simp [Cel.sizes])
    (fun c cs h1 h2 ls ls' h => by
      rw [Cel.alls, List.foldlM_append] at h
      cases hc : c.all.foldlM oneStep ls with
      | none => rw [hc] at h; cases h
      | some l1 =>
        rw [hc] at h
        have k1 := h1 _ _ hc
        have k2 := h2 _ _ h
        simp only [List.length_cons, Cel.sizes]; omega) c

theorem chkL_fold (l : List Cel) : ∀ (i : Nat) (acc : List Rct), chkL l i acc = match l.foldlM oneStep acc with | some ls => (ls, 0, 0) | none => ([], 5, (chkL l i acc).2.2) := by
  induction l with
  | nil => intro i acc; rfl
  | cons d l ih =>
    intro i acc
    rw [chkL, List.foldlM_cons]
    cases ho : d.one with
    | none => simp [oneStep, ho]
    | some ls =>
      simp only [oneStep, ho, Option.map_some]
      exact ih _ _
theorem tiles_fold (c : Cel) : c.tiles = (c.may && (c.all.foldlM oneStep []).isSome) := by
  rw [Cel.tiles, Cel.check]
  cases hm : c.may with
  | false => rfl
  | true =>
    simp only [if_true, Bool.true_and]
    rw [chkL_fold]
    cases c.all.foldlM oneStep [] <;> rfl

/-- the walker, and its lines -/
structure Wk where
  num : Int
  lk : Option (Nat × Nat)
  ls : List Rct
def Wk.v (s : Wk) : IV := match s.lk with | none => .list .tight [] | some (b, cap) => .sl 4 b 0 s.ls.length cap
def Wk.b1 (s : Wk) (base : Heap) : Heap := match s.lk with | none => base | some (b, cap) => upd base b (some (.arr 65 4 (s.ls.map Rct.row) cap))
def Wk.at' (wb : Nat) (s : Wk) (base : Heap) : Heap := upd (s.b1 base) wb (some (.cells [.int .i64 s.num, s.v]))
def Wk.Good (wb : Nat) (s : Wk) (base : Heap) : Prop := base wb = none ∧ match s.lk with | none => s.ls = [] | some (b, cap) => b ≠ wb ∧ base b = none ∧ s.ls.length ≤ cap

def walkR (wb : Nat) (t : Bool) (r : Option (List Rct)) (base : Heap) (e : IEnd) (h' : Heap) : Prop :=
  match r with
  | some ls' => e = .ret (.bool t) ∧ ∃ s' : Wk, s'.ls = ls' ∧ s'.Good wb base ∧ h' = s'.at' wb base
  | none => e = .ret (.bool !t) ∧ ∃ s' : Wk, s'.Good wb base ∧ h' = s'.at' wb base

theorem Wk.at_wb (wb : Nat) (s : Wk) (base : Heap) : s.at' wb base wb = some (.cells [.int .i64 s.num, s.v]) := by simp [Wk.at', upd]

theorem fold_len_alls : ∀ (l : List Cel) (ls ls' : List Rct), (Cel.alls l).foldlM oneStep ls = some ls' → ls'.length + l.length ≤ ls.length + Cel.sizes l
  | [], ls, ls', h => by simp [Cel.alls] at h; subst h; simp [Cel.sizes]
  | c :: cs, ls, ls', h => by
    rw [Cel.alls, List.foldlM_append] at h
    cases hc : c.all.foldlM oneStep ls with
    | none => rw [hc] at h; cases h
    | some l1 =>
      rw [hc] at h
      have k1 := fold_len c _ _ hc
      have k2 := fold_len_alls cs _ _ h
      simp only [List.length_cons, Cel.sizes]; omega

theorem Wk.at_q {wb qb : Nat} {s : Wk} {base : Heap} {o : IObj} (hg : s.Good wb base) (hq : base qb = some o) : s.at' wb base qb = some o := by
  have h1 : qb ≠ wb := by rintro rfl; rw [hg.1] at hq; cases hq
  obtain ⟨num, lk, ls⟩ := s
  cases lk with
  | none => simp [Wk.at', Wk.b1, upd, h1, hq]
  | some p =>
    obtain ⟨b, cap⟩ := p
    have h2 : qb ≠ b := by rintro rfl; have := hg.2.2.1; rw [this] at hq; cases hq
    simp [Wk.at', Wk.b1, upd, h1, h2, hq]
theorem Wk.sub {wb : Nat} (s : Wk) {base base' : Heap} (h : Sub base base') : Sub (s.at' wb base) (s.at' wb base') := by
  obtain ⟨num, lk, ls⟩ := s
  intro b o hb
  simp only [Wk.at', upd] at hb ⊢
  split at hb
  · rw [if_pos (by assumption)]; exact hb
  · rw [if_neg (by assumption)]
    cases lk with
    | none => exact h _ _ hb
    | some p =>
      simp only [Wk.b1, upd] at hb ⊢
      split at hb
      · rw [if_pos (by assumption)]; exact hb
      · rw [if_neg (by assumption)]; exact h _ _ hb
theorem sub_none {h h' : Heap} {b : Nat} (hs : Sub h h') (hn : h' b = none) : h b = none := by
  cases hb : h b with
  | none => rfl
  | some o => rw [hs _ _ hb] at hn; cases hn
theorem Wk.Good.of_sub {wb : Nat} {s : Wk} {base base' : Heap} (h : Sub base base') (hg : s.Good wb base') : s.Good wb base := by
  refine ⟨sub_none h hg.1, ?_⟩
  obtain ⟨num, lk, ls⟩ := s
  cases lk with
  | none => exact hg.2
  | some p => exact ⟨hg.2.1, sub_none h hg.2.2.1, hg.2.2.2⟩
theorem walkR_sub {wb : Nat} {t : Bool} {r : Option (List Rct)} {base base' : Heap} (h : Sub base base') {e : IEnd} {h' : Heap} (hr : walkR wb t r base' e h') : ∃ h2, Sub h2 h' ∧ walkR wb t r base e h2 := by
  cases r with
  | some ls' =>
    obtain ⟨rfl, s', h1, h2, rfl⟩ := hr
    exact ⟨s'.at' wb base, s'.sub h, rfl, s', h1, h2.of_sub h, rfl⟩
  | none =>
    obtain ⟨rfl, s', h2, rfl⟩ := hr
    exact ⟨s'.at' wb base, s'.sub h, rfl, s', h2.of_sub h, rfl⟩

theorem walk1_of {wb qb : Nat} {d : Cel} {s : Wk} {base : Heap} (hq : s.at' wb base qb = some (.cells [.ptr wb 0])) {r : Option (List Rct)}
    (ha : ICall Try.prog 138 [.ptr wb 0, .agg d.row] (s.at' wb base) (walkR wb true r base)) :
    ICall Try.prog 157 [.agg d.row, .ptr qb 0] (s.at' wb base) (walkR wb false r base) := by
  refine icall_of_iwp (fun _ => 0) Try.func157 rfl (by kernel_rfl) (Nat.le_of_ble_eq_true rfl) ?_
  rw [Try.results157]
  simp -implicitDefEqProofs [go_sem, hq]
  refine ha.mono ?_
  intro e h' he
  cases r with
  | some ls' =>
    obtain ⟨rfl, s', h1, h2, rfl⟩ := he
    simp -implicitDefEqProofs [go_sem]
    exact ⟨_, Sub.refl _, rfl, s', h1, h2, rfl⟩
  | none =>
    obtain ⟨rfl, s', h2, rfl⟩ := he
    simp -implicitDefEqProofs [go_sem]
    exact ⟨_, Sub.refl _, rfl, s', h2, rfl⟩

theorem sizes_rest (l : List Cel) (k : Nat) (h : k ≤ l.length) : Cel.sizes (l.take k) + (l.length - k) ≤ Cel.sizes l := by
  induction l generalizing k with
  | nil => simp [Cel.sizes]
  | cons c cs ih =>
    cases k with
    | zero => have := Cel.len_le (c :: cs); simp [Cel.sizes] at this ⊢; omega
    | succ k => have := ih k (by simpa using h); simp [Cel.sizes]; omega
theorem walkKids_c {wb qb : Nat} {l : List Cel} {base : Heap} (ih : ∀ d ∈ l, ∀ (s : Wk) (base : Heap), s.Good wb base → s.ls.length + d.size < 100000000000 → (∀ d' ∈ d.all, 1 ≤ d'.kind ∧ d'.kind ≤ 3) →
      ICall Try.prog 138 [.ptr wb 0, .agg d.row] (s.at' wb base) (walkR wb true (d.all.foldlM oneStep s.ls) base))
    (s : Wk) (hg : s.Good wb base) (hq : base qb = some (.cells [.ptr wb 0])) (hn : l.length < 100000000000) (hsz : s.ls.length + Cel.sizes l + 1 < 100000000000 + l.length) (hk : ∀ d ∈ l, ∀ d' ∈ d.all, 1 ≤ d'.kind ∧ d'.kind ≤ 3) :
    ICall Try.prog 108 [.list .plain (l.map Cel.row), .fn (.func 157) [] [.ptr qb 0]] (s.at' wb base) (walkR wb false ((Cel.alls l).foldlM oneStep s.ls) base) := by
  have hlen := Cel.len_le l
  refine (containsFunc_cel (Inv := fun i h => ∃ s2 : Wk, s2.Good wb base ∧ (Cel.alls (l.take i)).foldlM oneStep s.ls = some s2.ls ∧ h = s2.at' wb base)
    (Hit := fun i h => (Cel.alls l).foldlM oneStep s.ls = none ∧ ∃ s' : Wk, s'.Good wb base ∧ h = s'.at' wb base) (by omega) ?_ _ ⟨s, hg, by simp [Cel.alls], rfl⟩).mono ?_
  · rintro i hi h ⟨s2, hg2, hs2, rfl⟩
    have hle := sizes_rest l (i + 1) hi
    have hst := Cel.sizes_take l i hi
    have hfl := fold_len_alls _ _ _ hs2
    rw [List.length_take, Nat.min_eq_left (by omega)] at hfl
    refine (walk1_of (Wk.at_q hg2 hq) (ih _ (List.getElem_mem hi) s2 base hg2 (by omega) (hk _ (List.getElem_mem hi)))).mono ?_
    intro e h' he
    have htk := Cel.alls_take l i hi
    cases hr2 : l[i].all.foldlM oneStep s2.ls with
    | none =>
      rw [hr2] at he
      obtain ⟨rfl, s', h2, rfl⟩ := he
      refine .inr ⟨rfl, ?_, s', h2, rfl⟩
      apply alls_fold_all oneStep l (i + 1)
      rw [htk, List.foldlM_append, hs2]; exact hr2
    | some ls3 =>
      rw [hr2] at he
      obtain ⟨rfl, s', h1, h2, rfl⟩ := he
      refine .inl ⟨rfl, s', h2, ?_, rfl⟩
      rw [htk, List.foldlM_append, hs2, h1]; exact hr2
  · rintro e h' (⟨rfl, s2, hg2, hs2, rfl⟩ | ⟨i, hi, rfl, hn, s', h2, rfl⟩)
    · rw [List.take_length] at hs2
      rw [hs2]; exact ⟨rfl, s2, rfl, hg2, rfl⟩
    · rw [hn]; exact ⟨rfl, s', h2, rfl⟩

set_option maxRecDepth 20000 in
set_option maxHeartbeats 4000000 in
theorem walk_c (wb : Nat) (c : Cel) : ∀ (s : Wk) (base : Heap), s.Good wb base → s.ls.length + c.size < 100000000000 → (∀ d ∈ c.all, 1 ≤ d.kind ∧ d.kind ≤ 3) →
    ICall Try.prog 138 [.ptr wb 0, .agg c.row] (s.at' wb base) (walkR wb true (c.all.foldlM oneStep s.ls) base) := by
  induction c using Cel.induct
  rename_i c ih
  intro s base hg hsz hk
  have hlen := Cel.len_le c.kids
  rw [c.size_eq] at hsz
  have hkc := hk c (by rw [c.all_eq]; exact List.mem_cons_self)
  have hwb := s.at_wb wb base
  refine icall_of_iwp (fun d => if d = 2 then 1 else if d = 27 then 2 else 0) Try.func138 rfl (by kernel_rfl) (Nat.le_of_ble_eq_true rfl) ?_
  rw [Try.results138]
  simp -implicitDefEqProofs [go_sem]
  intro qb hqb
  refine (lines_c c _ (by omega) hkc.1 hkc.2).mono ?_
  rintro e h' ⟨rfl, he⟩
  have hqn : qb ≠ wb := by rintro rfl; rw [hwb] at hqb; cases hqb
  cases ho : c.one with
  | none =>
    rw [ho] at he
    obtain ⟨l', rfl⟩ := he
    simp -implicitDefEqProofs [go_sem]
    have hfold : c.all.foldlM oneStep s.ls = none := by rw [c.all_eq, List.foldlM_cons, oneStep, ho]; rfl
    exact ⟨s.at' wb base, (Sub.refl _).upd hqb _, by rw [hfold]; exact ⟨rfl, s, hg, rfl⟩⟩
  | some ls =>
    rw [ho] at he
    subst he
    simp -implicitDefEqProofs [go_sem, hwb, hqn, hqn.symm]
    refine iwp_drawn_of mixed [0, 1, 2, 3, 4, 5, 6, 7, 8, 9] (by kernel_rfl) ?_
    have hfold : c.all.foldlM oneStep s.ls = (Cel.alls c.kids).foldlM oneStep (s.ls ++ ls) := by rw [c.all_eq, List.foldlM_cons, oneStep, ho]; rfl
    have hll := one_len ho
    have hkk : ∀ d ∈ c.kids, ∀ d' ∈ d.all, 1 ≤ d'.kind ∧ d'.kind ≤ 3 := fun d hd d' hd' => hk d' (by
      rw [c.all_eq]; refine List.mem_cons_of_mem _ ?_
      obtain ⟨l1, l2, hl⟩ := List.append_of_mem hd
      rw [hl]
      have : ∀ (l1 l2 : List Cel), Cel.alls (l1 ++ l2) = Cel.alls l1 ++ Cel.alls l2 := by
        intro l1 l2
        induction l1 with
        | nil => rfl
        | cons x xs ihx => simp [Cel.alls, ihx]
      rw [this]; simp [Cel.alls, hd'])
    have tail : ∀ (s1 : Wk) (base2 H : Heap), s1.ls = s.ls ++ ls → s1.Good wb base2 → base2 qb = some (.cells [.ptr wb 0]) → Sub base base2 → H = s1.at' wb base2 →
        ICall Try.prog 108 [.list .plain (c.kids.map Cel.row), .fn (.func 157) [] [.ptr qb 0]] H (fun e h' => walkR wb false (c.all.foldlM oneStep s.ls) base2 e h' ∧ Sub base base2) := by
      intro s1 base2 H h1 h2 h3 h4 h5
      rw [h5, hfold, ← h1]
      refine (walkKids_c (fun d hd => ih d hd) s1 h2 h3 (by omega) (by rw [h1]; simp; omega) hkk).mono fun e h' he => ⟨he, h4⟩
    clear ih hk hkk
    have fin : ∀ (base2 : Heap) (e : IEnd) (h' : Heap), walkR wb false (c.all.foldlM oneStep s.ls) base2 e h' → Sub base base2 → ∃ b h2, e = .ret (.bool b) ∧ Sub h2 h' ∧ walkR wb true (c.all.foldlM oneStep s.ls) base (.ret (.bool !b)) h2 := by
      intro base2 e h' hr hs
      cases hc : c.all.foldlM oneStep s.ls with
      | some ls' =>
        rw [hc] at hr
        obtain ⟨rfl, s', h1, h2, rfl⟩ := hr
        exact ⟨false, s'.at' wb base, rfl, s'.sub hs, rfl, s', h1, h2.of_sub hs, rfl⟩
      | none =>
        rw [hc] at hr
        obtain ⟨rfl, s', h2, rfl⟩ := hr
        exact ⟨true, s'.at' wb base, rfl, s'.sub hs, rfl, s', h2.of_sub hs, rfl⟩
    clear hfold ho
    generalize c.all.foldlM oneStep s.ls = FR at tail fin ⊢
    obtain ⟨num, lk, ls0⟩ := s
    simp only at hsz
    have hbq : base qb = none := by
      have h1 := hqb
      simp only [Wk.at', upd, hqn, if_false] at h1
      cases lk with
      | none => exact h1
      | some p => simp only [Wk.b1, upd] at h1; split at h1; cases h1; exact h1
    have hsub : Sub base (upd base qb (some (.cells [.ptr wb 0]))) := (Sub.refl _).upd hbq _
    have hb2 : (upd base qb (some (.cells [.ptr wb 0]))) wb = none := by simp [upd, hqn.symm, hg.1]
    cases lk with
    | none =>
      have hls0 : ls0 = [] := hg.2
      subst hls0
      simp -implicitDefEqProofs [go_sem, hwb, hqn, hqn.symm, Wk.v]
      refine ⟨by simp [roomy, byT_65]; omega, ?_, ?_⟩
      · intro hls
        subst hls
        refine (tail ⟨IntKind.i64.wrap (num + 1), none, []⟩ (upd base qb (some (.cells [.ptr wb 0]))) _ rfl ⟨hb2, rfl⟩ (by simp [upd]) hsub ?_).mono ?_
        · funext j
          simp only [Wk.at', Wk.b1, Wk.v, upd]
          by_cases j1 : j = wb <;> simp [j1]
        · rintro e h' ⟨hr, hs⟩
          obtain ⟨b, h2, rfl, h3, h4⟩ := fin _ _ _ hr hs
          simp -implicitDefEqProofs [go_sem]
          exact ⟨h2, h3, h4⟩
      · intro hls b' cap' hb' hcap
        have hbw : b' ≠ wb := by rintro rfl; simp [upd] at hb'
        have hbq' : b' ≠ qb := by rintro rfl; simp [upd, hqn] at hb'
        have hbb : base b' = none := by simpa [upd, hbw, hbq', Wk.at', Wk.b1] using hb'
        simp -implicitDefEqProofs [go_sem, hbw, hbw.symm]
        refine (tail ⟨IntKind.i64.wrap (num + 1), some (b', cap'), ls⟩ (upd base qb (some (.cells [.ptr wb 0]))) _ rfl ⟨hb2, hbw, by simp [upd, hbq', hbb], by simpa using hcap⟩ (by simp [upd]) hsub ?_).mono ?_
        · funext j
          simp only [Wk.at', Wk.b1, Wk.v, upd]
          by_cases j1 : j = wb
          · simp [j1, hbw.symm]
          · by_cases j2 : j = b' <;> simp [j1, j2]
        · rintro e h' ⟨hr, hs⟩
          obtain ⟨b, h2, rfl, h3, h4⟩ := fin _ _ _ hr hs
          simp -implicitDefEqProofs [go_sem]
          exact ⟨h2, h3, h4⟩
    | some p =>
      obtain ⟨ab, cap⟩ := p
      obtain ⟨hg1, habw, habn, hcap0⟩ := hg
      simp only at hcap0
      have habq : ab ≠ qb := by
        rintro rfl
        simp [Wk.at', Wk.b1, upd, habw] at hqb
      have hat : Wk.at' wb ⟨num, some (ab, cap), ls0⟩ base ab = some (.arr 65 4 (ls0.map Rct.row) cap) := by simp [Wk.at', Wk.b1, upd, habw]
      simp -implicitDefEqProofs [go_sem, hwb, hqn, hqn.symm, Wk.v, habw, habw.symm, habq, hat]
      refine ⟨by simp [roomy, byT_65]; omega, ?_, ?_⟩
      · intro hfit
        refine (tail ⟨IntKind.i64.wrap (num + 1), some (ab, cap), ls0 ++ ls⟩ (upd base qb (some (.cells [.ptr wb 0]))) _ rfl ⟨hb2, habw, by simp [upd, habq, habn], by simpa using hfit⟩ (by simp [upd]) hsub ?_).mono ?_
        · funext j
          simp only [Wk.at', Wk.b1, Wk.v, upd]
          by_cases j1 : j = wb
          · simp [j1, habw.symm]
          · by_cases j2 : j = ab
            · simp [j1, j2, habq]
            · simp [j1, j2]
        · rintro e h' ⟨hr, hs⟩
          obtain ⟨b, h2, rfl, h3, h4⟩ := fin _ _ _ hr hs
          simp -implicitDefEqProofs [go_sem]
          exact ⟨h2, h3, h4⟩
      · intro hfit b' cap' hb' hcap
        have hbw : b' ≠ wb := by rintro rfl; simp [upd] at hb'
        have hbq' : b' ≠ qb := by rintro rfl; simp [upd, hqn] at hb'
        have hba : b' ≠ ab := by rintro rfl; simp [upd, habw, habq, hat] at hb'
        have hbb : base b' = none := by simpa [upd, hbw, hbq', hba, Wk.at', Wk.b1] using hb'
        simp -implicitDefEqProofs [go_sem, hbw, hbw.symm]
        have hsub2 : Sub base (upd (upd base qb (some (.cells [.ptr wb 0]))) ab (some (.arr 65 4 (ls0.map Rct.row) cap))) := hsub.upd (by simp [upd, habq, habn]) _
        refine (tail ⟨IntKind.i64.wrap (num + 1), some (b', cap'), ls0 ++ ls⟩ (upd (upd base qb (some (.cells [.ptr wb 0]))) ab (some (.arr 65 4 (ls0.map Rct.row) cap))) _ rfl
          ⟨by simp [upd, habw.symm, hqn.symm, hg1], hbw, by simp [upd, hbq', hba, hbb], by simpa using hcap⟩ (by simp [upd, habq.symm]) hsub2 ?_).mono ?_
        · funext j
          simp only [Wk.at', Wk.b1, Wk.v, upd]
          by_cases j1 : j = wb
          · simp [j1, hbw.symm]
          · by_cases j2 : j = b'
            · simp [j1, j2]
            · by_cases j3 : j = ab
              · simp [j1, j2, j3, habq, hba.symm, habw]
              · simp [j1, j2, j3]
        · rintro e h' ⟨hr, hs⟩
          obtain ⟨b, h2, rfl, h3, h4⟩ := fin _ _ _ hr hs
          simp -implicitDefEqProofs [go_sem]
          exact ⟨h2, h3, h4⟩
end Go.Proofs
