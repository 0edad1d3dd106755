/- This text is a part of the proofs of the statements of this seat: the ideal states and their rules, or what one of the functions that the statements reach comes to. Conditions: none beyond those that each theorem names. -/
import Derived.Test.YtiloboepepdcgaaC12
set_option linter.unusedVariables false
set_option linter.unusedSimpArgs false
set_option pp.deepTerms false
set_option pp.maxSteps 400
namespace Go.Proofs
open Go.Idl

def Cel.nodeB (c : Cel) : Bool := decide ((c.kind = 1 ∧ c.kids.length = 0 ∧ 0 ≤ c.id ∧ c.id ≤ 2147483647) ∨ ((c.kind = 2 ∨ c.kind = 3) ∧ 2 ≤ c.kids.length ∧ c.id = 0))

set_option maxRecDepth 20000 in
set_option maxHeartbeats 4000000 in
theorem node_c (c : Cel) (h : Heap) : ICall Try.prog 163 [.agg c.row] h (retP (.bool c.nodeB) h) := by
  refine icall_of_iwp (fun _ => 0) Try.func163 rfl (by kernel_rfl) (Nat.le_of_ble_eq_true rfl) ?_
  rw [Try.results163]
  simp -implicitDefEqProofs [go_sem]
  refine cK_beq (fun k1 => ?_) (fun k1 => ?_) <;> simp -implicitDefEqProofs [go_sem]
  · refine cK_beq (fun k2 => ?_) (fun k2 => ?_) <;> simp -implicitDefEqProofs [go_sem]
    rotate_left
    · exact ⟨h, Sub.refl _, by rw [show c.nodeB = false by rw [Cel.nodeB, decide_eq_false_iff_not]; omega], rfl⟩
    refine cK_dec (fun k3 => ?_) (fun k3 => ?_) <;> simp -implicitDefEqProofs [go_sem]
    rotate_left
    · exact ⟨h, Sub.refl _, by rw [show c.nodeB = false by rw [Cel.nodeB, decide_eq_false_iff_not]; omega], rfl⟩
    refine ⟨h, Sub.refl _, ?_, rfl⟩
    rw [Cel.nodeB]; congr 2; rw [decide_eq_decide]; omega
  · refine cK_beq (fun k2 => ?_) (fun k2 => ?_)
    · simp -implicitDefEqProofs [go_sem, k2]
      refine cK_dec (fun k3 => ?_) (fun k3 => ?_) <;> simp -implicitDefEqProofs [go_sem]
      rotate_left
      · exact ⟨h, Sub.refl _, by rw [show c.nodeB = false by rw [Cel.nodeB, decide_eq_false_iff_not]; omega], rfl⟩
      refine ⟨h, Sub.refl _, ?_, rfl⟩
      rw [Cel.nodeB]; congr 2; rw [Bool.eq_iff_iff]; simp only [beq_iff_eq, decide_eq_true_eq]; omega
    · simp -implicitDefEqProofs [go_sem, k2]
      refine cK_beq (fun k4 => ?_) (fun k4 => ?_)
      · simp -implicitDefEqProofs [go_sem, k4]
        refine cK_dec (fun k3 => ?_) (fun k3 => ?_) <;> simp -implicitDefEqProofs [go_sem]
        rotate_left
        · exact ⟨h, Sub.refl _, by rw [show c.nodeB = false by rw [Cel.nodeB, decide_eq_false_iff_not]; omega], rfl⟩
        refine ⟨h, Sub.refl _, ?_, rfl⟩
        rw [Cel.nodeB]; congr 2; rw [Bool.eq_iff_iff]; simp only [beq_iff_eq, decide_eq_true_eq]; omega
      · simp -implicitDefEqProofs [go_sem, k4]
        exact ⟨h, Sub.refl _, by rw [show c.nodeB = false by rw [Cel.nodeB, decide_eq_false_iff_not]; omega], rfl⟩

def nonR (Inv Hit : Nat → Heap → Prop) (n : Nat) (e : IEnd) (h' : Heap) : Prop := (e = .ret (.bool true) ∧ Inv n h') ∨ ∃ i : Nat, i < n ∧ e = .ret (.bool false) ∧ Hit i h'

theorem none_cel {l : List Cel} {f : FuncId} {first cap : List IV} {Inv Hit : Nat → Heap → Prop} (hl : l.length < 100000000000)
    (hstep : ∀ i (hi : i < l.length) h, Inv i h → ICall Try.prog f (first ++ [.agg l[i].row] ++ cap) h fun e h' => (e = .ret (.bool false) ∧ Inv (i + 1) h') ∨ (e = .ret (.bool true) ∧ Hit i h')) (h : Heap) (h0 : Inv 0 h) :
    ICall Try.prog 152 [.list .plain (l.map Cel.row), .fn (.func f) first cap] h (nonR Inv Hit l.length) := by
  refine icall_of_iwp (fun _ => 0) Try.func152 rfl (by kernel_rfl) (Nat.le_of_ble_eq_true rfl) ?_
  rw [Try.results152]
  simp -implicitDefEqProofs [go_sem]
  refine (containsFunc_cel hl hstep h h0).mono ?_
  rintro e h' (⟨rfl, hi'⟩ | ⟨i, hi, rfl, hi'⟩)
  · simp -implicitDefEqProofs [go_sem]
    exact ⟨h', Sub.refl _, .inl ⟨rfl, hi'⟩⟩
  · simp -implicitDefEqProofs [go_sem]
    exact ⟨h', Sub.refl _, .inr ⟨i, hi, rfl, hi'⟩⟩

/-- objects of the heap that hold a state, over any other objects -/
structure HM (σ : Type) where
  at' : σ → Heap → Heap
  up : ∀ s base b, at' s base b = none → ∀ s' o, upd (at' s' base) b (some o) = at' s' (upd base b (some o))
  ub : ∀ s base b, at' s base b = none → ∀ s' o, at' s' (upd base b (some o)) b = some o
  sub : ∀ s base base', Sub base base' → Sub (at' s base) (at' s base')
  bn : ∀ s base b, at' s base b = none → base b = none

def stepR {σ : Type} (M : HM σ) (t : Bool) (r : Option σ) (base : Heap) (e : IEnd) (h' : Heap) : Prop :=
  match r with
  | some s' => e = .ret (.bool t) ∧ h' = M.at' s' base
  | none => e = .ret (.bool !t) ∧ ∃ s', h' = M.at' s' base

theorem all1_of {σ : Type} (M : HM σ) (step : σ → Cel → Option σ) {f : FuncId} {first cap : List IV} {d : Cel} {s : σ} {base : Heap} {b : Nat} (hb : M.at' s base b = some (.cells [.fn (.func f) first cap]))
    (ha : ICall Try.prog 161 [.agg d.row, .fn (.func f) first cap] (M.at' s base) (stepR M true (d.all.foldlM step s) base)) :
    ICall Try.prog 169 [.agg d.row, .ptr b 0] (M.at' s base) (stepR M false (d.all.foldlM step s) base) := by
  refine icall_of_iwp (fun _ => 0) Try.func169 rfl (by kernel_rfl) (Nat.le_of_ble_eq_true rfl) ?_
  rw [Try.results169]
  simp -implicitDefEqProofs [go_sem, hb]
  refine ha.mono ?_
  intro e h' he
  cases hr : d.all.foldlM step s with
  | some s' =>
    rw [hr] at he
    obtain ⟨rfl, rfl⟩ := he
    simp -implicitDefEqProofs [go_sem]
    exact ⟨_, Sub.refl _, rfl, rfl⟩
  | none =>
    rw [hr] at he
    obtain ⟨rfl, s', rfl⟩ := he
    simp -implicitDefEqProofs [go_sem]
    exact ⟨_, Sub.refl _, rfl, s', rfl⟩

theorem alls_fold {σ : Type} (step : σ → Cel → Option σ) : ∀ (l : List Cel) (i : Nat) (h : i < l.length) (s : σ), (Cel.alls (l.take i)).foldlM step s = none → (Cel.alls l).foldlM step s = none
  | [], i, h, _, _ => by simp at h
  | c :: cs, 0, h, s, hn => by simp [Cel.alls] at hn
  | c :: cs, i + 1, h, s, hn => by
    simp only [List.take_succ_cons, Cel.alls, List.foldlM_append] at hn ⊢
    cases hc : c.all.foldlM step s with
    | none => rfl
    | some s1 =>
      rw [hc] at hn
      exact alls_fold step cs i (by simpa using h) s1 hn
theorem alls_fold_all {σ : Type} (step : σ → Cel → Option σ) (l : List Cel) (i : Nat) (s : σ) (hn : (Cel.alls (l.take i)).foldlM step s = none) : (Cel.alls l).foldlM step s = none := by
  by_cases h : i < l.length
  · exact alls_fold step l i h s hn
  · rwa [List.take_of_length_le (by omega)] at hn

theorem all_of {σ : Type} (M : HM σ) (step : σ → Cel → Option σ) {f : FuncId} {first cap : List IV} (N : Nat) (hN : N < 100000000000)
    (G : σ → Prop) (hG : ∀ s d s', G s → step s d = some s' → G s') (hw : ∀ s d base, G s → d.size ≤ N → ICall Try.prog f (first ++ [.agg d.row] ++ cap) (M.at' s base) (stepR M true (step s d) base)) (c : Cel) :
    ∀ (s : σ) (base : Heap), G s → c.size ≤ N → ICall Try.prog 161 [.agg c.row, .fn (.func f) first cap] (M.at' s base) (stepR M true (c.all.foldlM step s) base) := by
  induction c using Cel.induct
  rename_i c ih
  intro s base hg hc
  have hlen := Cel.len_le c.kids
  rw [c.size_eq] at hc
  have hc0 : c.size ≤ N := by rw [c.size_eq]; exact hc
  refine icall_of_iwp (fun d => if d = 3 then 1 else 0) Try.func161 rfl (by kernel_rfl) (Nat.le_of_ble_eq_true rfl) ?_
  rw [Try.results161]
  simp -implicitDefEqProofs [go_sem]
  intro b hb
  have hup := M.up s base b hb s
  have hsub : Sub base (upd base b (some (.cells [.fn (.func f) first cap]))) := (Sub.refl base).upd (M.bn _ _ _ hb) _
  have hub := fun s' => M.ub s base b hb s' (.cells [.fn (.func f) first cap])
  generalize hbase : upd base b (some (.cells [.fn (.func f) first cap])) = base' at hsub hub
  have hup' := hup (.cells [.fn (.func f) first cap])
  rw [hbase] at hup'
  simp -implicitDefEqProofs [go_sem, hup']
  have hcall := hw s c base' hg hc0
  simp only [List.append_assoc, List.singleton_append, List.cons_append, List.nil_append] at hcall
  refine hcall.mono ?_
  intro e h' he
  cases hr : step s c with
  | none =>
    rw [hr] at he
    obtain ⟨rfl, s', rfl⟩ := he
    simp -implicitDefEqProofs [go_sem]
    exact ⟨M.at' s' base, M.sub _ _ _ hsub, by rw [c.all_eq, List.foldlM_cons, hr]; exact ⟨rfl, s', rfl⟩⟩
  | some s1 =>
    rw [hr] at he
    obtain ⟨rfl, rfl⟩ := he
    have hg1 := hG _ _ _ hg hr
    have hfold : c.all.foldlM step s = (Cel.alls c.kids).foldlM step s1 := by rw [c.all_eq, List.foldlM_cons, hr]; rfl
    simp -implicitDefEqProofs [go_sem]
    refine (none_cel (Inv := fun i h => ∃ s2, G s2 ∧ (Cel.alls (c.kids.take i)).foldlM step s1 = some s2 ∧ h = M.at' s2 base') (Hit := fun i h => (Cel.alls c.kids).foldlM step s1 = none ∧ ∃ s', h = M.at' s' base') (by omega) ?_ _ ⟨s1, hg1, by simp [Cel.alls], rfl⟩).mono ?_
    · rintro i hi h ⟨s2, hg2, hs2, rfl⟩
      have hle := Cel.mem_le (List.getElem_mem hi)
      have h1 := all1_of M step (hub s2) (ih _ (List.getElem_mem hi) s2 base' hg2 (by omega))
      refine h1.mono ?_
      intro e h' he
      have htk := Cel.alls_take c.kids i hi
      cases hr2 : c.kids[i].all.foldlM step s2 with
      | none =>
        rw [hr2] at he
        obtain ⟨rfl, s', rfl⟩ := he
        refine .inr ⟨rfl, ?_, s', rfl⟩
        apply alls_fold_all step c.kids (i + 1)
        rw [htk, List.foldlM_append, hs2]; exact hr2
      | some s3 =>
        rw [hr2] at he
        obtain ⟨rfl, rfl⟩ := he
        refine .inl ⟨rfl, s3, ?_, ?_, rfl⟩
        · have : ∀ (l : List Cel) (s s' : σ), G s → l.foldlM step s = some s' → G s' := by
            intro l
            induction l with
            | nil => intro s s' hg h; cases h; exact hg
            | cons d l ihl =>
              intro s s' hg h
              rw [List.foldlM_cons] at h
              cases hd : step s d with
              | none => rw [hd] at h; cases h
              | some s4 => rw [hd] at h; exact ihl s4 s' (hG _ _ _ hg hd) h
          exact this _ _ _ hg2 hr2
        · rw [htk, List.foldlM_append, hs2]; exact hr2
    · rintro e h' (⟨rfl, s2, _, hs2, rfl⟩ | ⟨i, hi, rfl, hn, s', rfl⟩)
      · rw [List.take_length] at hs2
        simp -implicitDefEqProofs [go_sem]
        exact ⟨M.at' s2 base, M.sub _ _ _ hsub, by rw [hfold, hs2]; exact ⟨rfl, rfl⟩⟩
      · simp -implicitDefEqProofs [go_sem]
        exact ⟨M.at' s' base, M.sub _ _ _ hsub, by rw [hfold, hn]; exact ⟨rfl, s', rfl⟩⟩
end Go.Proofs
