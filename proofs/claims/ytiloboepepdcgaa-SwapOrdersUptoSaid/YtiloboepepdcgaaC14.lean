/- This text is a part of the proofs of the statements of this seat: the ideal states and their rules, or what one of the functions that the statements reach comes to. Conditions: none beyond those that each theorem names. -/
import Derived.Test.YtiloboepepdcgaaC13
set_option linter.unusedVariables false
set_option linter.unusedSimpArgs false
set_option pp.deepTerms false
set_option pp.maxSteps 400
namespace Go.Proofs
open Go.Idl

def ents (l : List Int) : List (IV × IV) := l.map fun i => (.int .i64 i, .bool true)
/-- the heap of cell.may's closure -/
def mayH (nb qb mb : Nat) (s : Nat × List Int) (base : Heap) : Heap := upd (upd (upd base mb (some (.map (ents s.2)))) qb (some (.cells [.mapv mb]))) nb (some (.cells [.int .i64 s.1]))
def mayStep (s : Nat × List Int) (d : Cel) : Option (Nat × List Int) :=
  if s.1 + 1 ≤ 20000 ∧ d.nodeB = true ∧ d.r.may = true ∧ ¬ (d.kind = 1 ∧ d.id ∈ s.2) then some (s.1 + 1, if d.kind = 1 then s.2 ++ [d.id] else s.2) else none

theorem ents_find (n : Int) : ∀ l : List Int, ifind (.int .i64) (.int .i64 n) (ents l) = some (if n ∈ l then some (.bool true) else none)
  | [] => by simp [ents, ifind]
  | a :: l => by
    have ih := ents_find n l
    rw [ents] at ih ⊢
    simp only [List.map_cons, ifind, kEq]
    by_cases h : n = a
    · subst h; simp
    · have h' : (n == a) = false := by simpa using h
      simp [h', ih, h]
theorem ents_put (n : Int) : ∀ l : List Int, n ∉ l → iput (.int .i64) (.int .i64 n) (.bool true) (ents l) = some (ents (l ++ [n]))
  | [], _ => by simp [ents, iput]
  | a :: l, hn => by
    have ih := ents_put n l (fun h => hn (List.mem_cons_of_mem _ h))
    rw [ents] at ih ⊢
    have h : ¬ n = a := fun h => hn (h ▸ List.mem_cons_self)
    have h' : (n == a) = false := by simpa using h
    simp only [List.map_cons, iput, kEq, h', ih]
    simp [ents]
def mayR (nb qb mb : Nat) (r : Option (Nat × List Int)) (base : Heap) (e : IEnd) (h' : Heap) : Prop :=
      match r with
      | some s' => e = .ret (.bool true) ∧ h' = mayH nb qb mb s' base
      | none => e = .ret (.bool false) ∧ ∃ s', h' = mayH nb qb mb s' base

set_option maxRecDepth 20000 in
set_option maxHeartbeats 4000000 in
theorem may1_c {nb qb mb : Nat} (h1 : nb ≠ qb) (h2 : nb ≠ mb) (h3 : qb ≠ mb) (s : Nat × List Int) (hs : s.1 < 100000000000) (d : Cel) (base : Heap) :
    ICall Try.prog 162 [.agg d.row, .ptr nb 0, .ptr qb 0] (mayH nb qb mb s base) (mayR nb qb mb (mayStep s d) base) := by
  obtain ⟨n, ids⟩ := s
  simp only at hs
  obtain ⟨m, hm⟩ : ∃ m, m = n + 1 := ⟨_, rfl⟩
  have g1 : mayH nb qb mb (n, ids) base nb = some (.cells [.int .i64 n]) := by simp [mayH, upd]
  have g2 : upd (mayH nb qb mb (n, ids) base) nb (some (.cells [.int .i64 m])) = mayH nb qb mb (m, ids) base := by
    funext j; simp only [mayH, upd]; split <;> rfl
  have g3 : mayH nb qb mb (m, ids) base nb = some (.cells [.int .i64 m]) := by simp [mayH, upd]
  have g4 : mayH nb qb mb (m, ids) base qb = some (.cells [.mapv mb]) := by simp [mayH, upd, h1.symm]
  have g5 : mayH nb qb mb (m, ids) base mb = some (.map (ents ids)) := by simp [mayH, upd, h2.symm, h3.symm]
  have hw : IntKind.i64.wrap ((n : Int) + 1) = (m : Int) := by rw [wrap_in (by omega)]; omega
  have hno : ¬ (m ≤ 20000 ∧ d.nodeB = true ∧ d.r.may = true ∧ ¬ (d.kind = 1 ∧ d.id ∈ ids)) → mayStep (n, ids) d = none := fun h => by rw [mayStep, if_neg (by rw [← hm]; exact h)]
  refine icall_of_iwp (fun _ => 0) Try.func162 rfl (by kernel_rfl) (Nat.le_of_ble_eq_true rfl) ?_
  rw [Try.results162]
  simp -implicitDefEqProofs [go_sem, g1, hw, g2, g3]
  refine cK_dec (fun k1 => ?_) (fun k1 => ?_) <;> simp -implicitDefEqProofs [go_sem, g1, g2, g3]
  · rw [hno (by omega)]
    exact ⟨_, Sub.refl _, rfl, _, rfl⟩
  refine (node_c d _).mono ?_
  rintro e h' ⟨rfl, rfl⟩
  simp -implicitDefEqProofs [go_sem]
  refine cK_any (fun k2 => ?_) (fun k2 => ?_) <;> simp -implicitDefEqProofs [go_sem]
  · rw [hno (fun h => by simp [h.2.1] at k2)]
    exact ⟨_, Sub.refl _, rfl, _, rfl⟩
  have hrm := rMay_c [d.r] (by simp) (mayH nb qb mb (m, ids) base)
  simp only [List.map_cons, List.map_nil, List.all_cons, List.all_nil, Bool.and_true] at hrm
  refine hrm.mono ?_
  rintro e h' ⟨rfl, rfl⟩
  simp -implicitDefEqProofs [go_sem]
  refine cK_any (fun k3 => ?_) (fun k3 => ?_) <;> simp -implicitDefEqProofs [go_sem]
  · rw [hno (fun h => by simp [h.2.2.1] at k3)]
    exact ⟨_, Sub.refl _, rfl, _, rfl⟩
  have k2' : d.nodeB = true := by simpa using k2
  have k3' : d.r.may = true := by simpa using k3
  refine cK_beq (fun k4 => ?_) (fun k4 => ?_)
  · by_cases hin : d.id ∈ ids
    · simp -implicitDefEqProofs [go_sem, g4, g5, k4, ents_find, hin]
      rw [hno (fun h => h.2.2.2 ⟨k4, hin⟩)]
      exact ⟨_, Sub.refl _, rfl, _, rfl⟩
    · have hput := ents_put _ _ hin
      simp -implicitDefEqProofs [go_sem, g4, g5, k4, ents_find, hin, hput]
      have hst : mayStep (n, ids) d = some (m, ids ++ [d.id]) := by
        rw [mayStep, if_pos ⟨by simp only; omega, k2', k3', fun h => hin h.2⟩, if_pos k4, ← hm]
      refine ⟨_, Sub.refl _, ?_⟩
      rw [hst]
      refine ⟨rfl, ?_⟩
      funext j
      simp only [mayH, upd]
      by_cases j1 : j = mb
      · subst j1; simp [h2.symm, h3.symm]
      · simp [j1]
  · have hst : mayStep (n, ids) d = some (m, ids) := by
      rw [mayStep, if_pos ⟨by simp only; omega, k2', k3', fun h => k4 h.1⟩, if_neg k4, ← hm]
    have kb : (d.kind == 1) = false := by simpa using k4
    simp -implicitDefEqProofs [go_sem, g4, g5, kb]
    refine ⟨_, Sub.refl _, ?_⟩
    rw [hst]
    exact ⟨rfl, rfl⟩

def mayM (nb qb mb : Nat) (h1 : nb ≠ qb) (h2 : nb ≠ mb) (h3 : qb ≠ mb) : HM (Nat × List Int) where
  at' := mayH nb qb mb
  up s base b hb s' o := by
    have e1 : b ≠ nb := by rintro rfl; simp [mayH, upd] at hb
    have e2 : b ≠ qb := by rintro rfl; simp [mayH, upd] at hb; split at hb <;> simp_all
    have e3 : b ≠ mb := by rintro rfl; simp [mayH, upd] at hb; split at hb <;> simp_all
    funext j
    simp only [mayH, upd]
    by_cases j1 : j = b
    · subst j1; simp [e1, e2, e3]
    · simp [j1]
  ub s base b hb s' o := by
    have e1 : b ≠ nb := by rintro rfl; simp [mayH, upd] at hb
    have e2 : b ≠ qb := by rintro rfl; simp [mayH, upd] at hb; split at hb <;> simp_all
    have e3 : b ≠ mb := by rintro rfl; simp [mayH, upd] at hb; split at hb <;> simp_all
    simp [mayH, upd, e1, e2, e3]
  sub s base base' h := by
    intro b o hb
    simp only [mayH, upd] at hb ⊢
    split at hb
    · rw [if_pos (by assumption)]; exact hb
    · rw [if_neg (by assumption)]
      split at hb
      · rw [if_pos (by assumption)]; exact hb
      · rw [if_neg (by assumption)]
        split at hb
        · rw [if_pos (by assumption)]; exact hb
        · rw [if_neg (by assumption)]; exact h _ _ hb
  bn s base b hb := by
    simp only [mayH, upd] at hb
    split at hb
    · cases hb
    · split at hb
      · cases hb
      · split at hb
        · cases hb
        · exact hb

set_option maxRecDepth 20000 in
set_option maxHeartbeats 4000000 in
theorem cmay_c (c : Cel) (h : Heap) (hs : c.size < 100000000000) : ICall Try.prog 154 [.agg c.row] h (retP (.bool (c.all.foldlM mayStep (0, [])).isSome) h) := by
  refine icall_of_iwp (fun d => if d = 3 ∨ d = 4 then 1 else 0) Try.func154 rfl (by kernel_rfl) (Nat.le_of_ble_eq_true rfl) ?_
  rw [Try.results154]
  simp -implicitDefEqProofs [go_sem]
  intro b hb b1 hb1 b2 hb2
  have e1 : b1 ≠ b := by rintro rfl; simp [upd] at hb1
  have e2 : b2 ≠ b1 := by rintro rfl; simp [upd] at hb2
  have e3 : b2 ≠ b := by rintro rfl; simp [upd, e1.symm] at hb2
  have hH : (upd (upd (upd (upd (upd h b (some (.map []))) b1 (some (.cells [.nilmap]))) b1 (some (.cells [.mapv b]))) b2 (some (.cells [.int .i64 0]))) b2 (some (.cells [.int .i64 0]))) = (mayM b2 b1 b e2 e3 e1).at' (0, []) h := by
    funext j
    simp only [mayM, mayH, upd, ents, List.map_nil]
    by_cases j1 : j = b2
    · simp [j1]
    · by_cases j2 : j = b1
      · simp [j2]
      · simp [j1, j2]
  rw [hH]
  have hc := all_of (mayM b2 b1 b e2 e3 e1) mayStep (f := 162) (first := []) (cap := [.ptr b2 0, .ptr b1 0]) 99999999999 (by omega) (fun s => s.1 < 100000000) 
    (fun s d s' hg hs' => by
      unfold mayStep at hs'
      split at hs'
      · cases hs'; simp only; omega
      · cases hs')
    (fun s d base hg hd => (may1_c e2 e3 e1 s (by omega) d base).mono (fun e h' he => by
      unfold mayR at he
      unfold stepR
      cases hst : mayStep s d with
      | none => rw [hst] at he; exact he
      | some s' => rw [hst] at he; exact he)) c (0, []) h (by simp) (by omega)
  refine hc.mono ?_
  intro e h' he
  have hsub : ∀ s', Sub h ((mayM b2 b1 b e2 e3 e1).at' s' h) := by
    intro s' b' o hb'
    have hb1' : h b1 = none := by simpa [upd, e1] using hb1
    have hb2' : h b2 = none := by simpa [upd, e2, e3] using hb2
    simp only [mayM, mayH, upd]
    rw [if_neg (by rintro rfl; rw [hb2'] at hb'; cases hb'), if_neg (by rintro rfl; rw [hb1'] at hb'; cases hb'), if_neg (by rintro rfl; rw [hb] at hb'; cases hb')]
    exact hb'
  cases hr : c.all.foldlM mayStep (0, []) with
  | none =>
    rw [hr] at he
    obtain ⟨rfl, s', rfl⟩ := he
    simp -implicitDefEqProofs [go_sem]
    exact ⟨h, hsub _, rfl, rfl⟩
  | some s' =>
    rw [hr] at he
    obtain ⟨rfl, rfl⟩ := he
    simp -implicitDefEqProofs [go_sem]
    exact ⟨h, hsub _, rfl, rfl⟩

theorem foldl_may (l : List Cel) : ∀ (n : Nat) (ids : List Int), (l.foldlM mayStep (n, ids)).isSome = true ↔ (l = [] ∨ n + l.length ≤ 20000) ∧ (∀ d ∈ l, d.Ok) ∧ ((l.filter fun d => d.kind == 1).map Cel.id).Nodup ∧ ∀ d ∈ l, d.kind = 1 → d.id ∉ ids := by
  induction l with
  | nil => intro n ids; simp [List.foldlM]
  | cons d l ih =>
    intro n ids
    rw [List.foldlM_cons]
    have hOk : d.Ok ↔ d.nodeB = true ∧ d.r.may = true := by simp only [Cel.Ok, Cel.nodeB, decide_eq_true_eq]; exact And.comm
    by_cases hc : n + 1 ≤ 20000 ∧ d.nodeB = true ∧ d.r.may = true ∧ ¬ (d.kind = 1 ∧ d.id ∈ ids)
    · have hst : mayStep (n, ids) d = some (n + 1, if d.kind = 1 then ids ++ [d.id] else ids) := by rw [mayStep, if_pos hc]
      rw [hst]
      refine (ih _ _).trans ?_
      have hd : d.Ok := hOk.2 ⟨hc.2.1, hc.2.2.1⟩
      have hlen : (l = [] ∨ n + 1 + l.length ≤ 20000) ↔ (d :: l = [] ∨ n + (d :: l).length ≤ 20000) := by
        constructor
        · rintro (rfl | h)
          · right; simp; omega
          · right; simp; omega
        · rintro (h | h)
          · cases h
          · right; simp at h; omega
      rw [hlen]
      simp only [List.forall_mem_cons, hd, true_and]
      refine and_congr_right fun _ => and_congr_right fun _ => ?_
      by_cases hk : d.kind = 1
      · have hk' : (d.kind == 1) = true := by simpa using hk
        simp only [hk, if_true, List.filter_cons, beq_self_eq_true, List.map_cons, List.nodup_cons, List.mem_map, List.mem_filter, List.mem_append, List.mem_singleton, not_or]
        constructor
        · rintro ⟨h1, h2⟩
          refine ⟨⟨?_, h1⟩, ?_, fun x hx hxk => (h2 x hx hxk).1⟩
          · rintro ⟨x, ⟨hx, hxk⟩, hxe⟩
            exact (h2 x hx (by simpa using hxk)).2 hxe
          · intro _ h; exact hc.2.2.2 ⟨hk, h⟩
        · rintro ⟨⟨h0, h1⟩, h2, h3⟩
          refine ⟨h1, fun x hx hxk => ⟨h3 x hx hxk, fun he => h0 ⟨x, ⟨hx, by simpa using hxk⟩, he⟩⟩⟩
      · have hk' : (d.kind == 1) = false := by simpa using hk
        simp only [hk, if_false, List.filter_cons, hk', false_implies, true_and]
        simp
    · have hst : mayStep (n, ids) d = none := by rw [mayStep, if_neg hc]
      rw [hst]
      constructor
      · intro h; cases h
      · rintro ⟨h1, h2, h3, h4⟩
        exfalso
        apply hc
        have hd := hOk.1 (h2 d List.mem_cons_self)
        refine ⟨?_, hd.1, hd.2, fun h => h4 d List.mem_cons_self h.1 h.2⟩
        rcases h1 with h1 | h1
        · cases h1
        · simp at h1; omega

theorem may_fold (c : Cel) : (c.all.foldlM mayStep (0, [])).isSome = c.may := by
  rw [Bool.eq_iff_iff, foldl_may, Cel.may, decide_eq_true_eq]
  have h1 : c.all ≠ [] := by rw [c.all_eq]; simp
  have h2 := Cel.all_length c
  simp only [h1, false_or, Nat.zero_add, h2, List.not_mem_nil, not_false_eq_true, implies_true, and_true]
  rfl

theorem cmay'_c (c : Cel) (h : Heap) (hs : c.size < 100000000000) : ICall Try.prog 154 [.agg c.row] h (retP (.bool c.may) h) := by
  have := cmay_c c h hs
  rwa [may_fold] at this

theorem cmay1_c (c : Cel) (h : Heap) (hs : c.size < 100000000000) : ICall Try.prog 153 [.agg c.row] h (retP (.bool (!c.may)) h) := by
  refine icall_of_iwp (fun _ => 0) Try.func153 rfl (by kernel_rfl) (Nat.le_of_ble_eq_true rfl) ?_
  rw [Try.results153]
  simp -implicitDefEqProofs [go_sem]
  refine (cmay'_c c h hs).mono ?_
  rintro e h' ⟨rfl, rfl⟩
  simp -implicitDefEqProofs [go_sem]
  exact ⟨h', Sub.refl _, rfl, rfl⟩

theorem cMay_c (c : Cel) (h : Heap) (hs : c.size < 100000000000) : ICall Try.prog 135 [.list .plain [c.row]] h (retP (.bool c.may) h) := by
  refine icall_of_iwp (fun _ => 0) Try.func135 rfl (by kernel_rfl) (Nat.le_of_ble_eq_true rfl) ?_
  rw [Try.results135]
  simp -implicitDefEqProofs [go_sem]
  have hn := none_cel (l := [c]) (f := 153) (first := []) (cap := []) (Inv := fun i h' => h' = h ∧ (i = 1 → c.may = true)) (Hit := fun i h' => h' = h ∧ c.may = false) (by simp) (fun i hi h1 hh => by
    obtain ⟨rfl, _⟩ := hh
    obtain rfl : i = 0 := by simp at hi; exact hi
    refine (cmay1_c c h1 hs).mono ?_
    rintro e h' ⟨rfl, rfl⟩
    cases hb : c.may with
    | false => exact .inr ⟨rfl, rfl, rfl⟩
    | true => exact .inl ⟨rfl, rfl, fun _ => rfl⟩) h ⟨rfl, fun h => by cases h⟩
  simp only [List.map_cons, List.map_nil] at hn
  refine hn.mono ?_
  rintro e h' (⟨rfl, rfl, hm⟩ | ⟨i, hi, rfl, rfl, hm⟩)
  · simp -implicitDefEqProofs [go_sem]
    exact ⟨h', Sub.refl _, by rw [hm rfl], rfl⟩
  · simp -implicitDefEqProofs [go_sem]
    exact ⟨h', Sub.refl _, by rw [hm], rfl⟩
end Go.Proofs
