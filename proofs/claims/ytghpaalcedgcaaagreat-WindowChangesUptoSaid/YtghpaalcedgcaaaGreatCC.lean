/- This text is a part of the proofs of the statements of this seat: the ideal states and their rules, or what one of the functions that the statements reach comes to. Conditions: none beyond those that each theorem names. -/
import Derived.Test.YtghpaalcedgcaaaGreatCB
import Derived.Test.YtghpaalcedgcaaaGreatIdl8
set_option linter.unusedVariables false
set_option linter.unusedSimpArgs false
set_option pp.deepTerms false
set_option pp.maxSteps 400
namespace Go.Proofs
open Go.Idl

def idxR (Inv Hit : Nat → Heap → Prop) (n : Nat) (e : IEnd) (h' : Heap) : Prop := (e = .ret (.int .i64 (-1)) ∧ Inv n h') ∨ ∃ i : Nat, i < n ∧ e = .ret (.int .i64 i) ∧ Hit i h'
def conR (Inv Hit : Nat → Heap → Prop) (n : Nat) (e : IEnd) (h' : Heap) : Prop := (e = .ret (.bool false) ∧ Inv n h') ∨ ∃ i : Nat, i < n ∧ e = .ret (.bool true) ∧ Hit i h'
set_option maxRecDepth 20000 in
set_option maxHeartbeats 4000000 in
theorem rmay_c (r : Rct) (h : Heap) : ICall Tryz.prog 140 [.agg r.row] h (retP (.bool r.may) h) := by
  refine icall_of_iwp (fun _ => 0) Tryz.func140 rfl (by kernel_rfl) (Nat.le_of_ble_eq_true rfl) ?_
  rw [Tryz.results140]
  simp -implicitDefEqProofs [go_sem]
  refine cK_dec (fun h0 => ?_) (fun h0 => ?_) <;> simp -implicitDefEqProofs [go_sem]
  rotate_left
  · exact ⟨h, Sub.refl _, by simp [retP, Rct.may]; omega⟩
  refine cK_dec (fun h1 => ?_) (fun h1 => ?_) <;> simp -implicitDefEqProofs [go_sem]
  rotate_left
  · exact ⟨h, Sub.refl _, by simp [retP, Rct.may]; omega⟩
  refine cK_dec (fun h2 => ?_) (fun h2 => ?_) <;> simp -implicitDefEqProofs [go_sem]
  rotate_left
  · exact ⟨h, Sub.refl _, by simp [retP, Rct.may]; omega⟩
  rw [wrap_in (by omega)]
  refine cK_dec (fun h3 => ?_) (fun h3 => ?_) <;> simp -implicitDefEqProofs [go_sem]
  rotate_left
  · exact ⟨h, Sub.refl _, by simp [retP, Rct.may]; omega⟩
  refine cK_dec (fun h4 => ?_) (fun h4 => ?_) <;> simp -implicitDefEqProofs [go_sem]
  rotate_left
  · exact ⟨h, Sub.refl _, by simp [retP, Rct.may]; omega⟩
  refine cK_dec (fun h5 => ?_) (fun h5 => ?_) <;> simp -implicitDefEqProofs [go_sem]
  rotate_left
  · exact ⟨h, Sub.refl _, by simp [retP, Rct.may]; omega⟩
  refine cK_dec (fun h6 => ?_) (fun h6 => ?_) <;> simp -implicitDefEqProofs [go_sem]
  rotate_left
  · exact ⟨h, Sub.refl _, by simp [retP, Rct.may]; omega⟩
  rw [wrap_in (by omega)]
  refine ⟨h, Sub.refl _, ?_, rfl⟩
  rw [Rct.may]
  congr 2
  rw [decide_eq_decide]
  omega

theorem rmay1_c (r : Rct) (h : Heap) : ICall Tryz.prog 139 [.agg r.row] h (retP (.bool (!r.may)) h) := by
  refine icall_of_iwp (fun _ => 0) Tryz.func139 rfl (by kernel_rfl) (Nat.le_of_ble_eq_true rfl) ?_
  rw [Tryz.results139]
  simp -implicitDefEqProofs [go_sem]
  refine (rmay_c r h).mono ?_
  rintro e h' ⟨rfl, rfl⟩
  simp -implicitDefEqProofs [go_sem]
  exact ⟨h', Sub.refl _, rfl, rfl⟩

theorem indexFunc_rct {l : List Rct} {f : FuncId} {first cap : List IV} {Inv Hit : Nat → Heap → Prop} (hl : l.length < 100000000000)
    (hstep : ∀ i (hi : i < l.length) h, Inv i h → ICall Tryz.prog f (first ++ [.agg l[i].row] ++ cap) h fun e h' => (e = .ret (.bool false) ∧ Inv (i + 1) h') ∨ (e = .ret (.bool true) ∧ Hit i h')) (h : Heap) (h0 : Inv 0 h) :
    ICall Tryz.prog 172 [.list .plain (l.map Rct.row), .fn (.func f) first cap] h (idxR Inv Hit l.length) := by
  refine icall_of_iwp (fun _ => 0) Tryz.func172 rfl (by kernel_rfl) (Nat.le_of_ble_eq_true rfl) ?_
  rw [Tryz.results172]
  simp -implicitDefEqProofs [go_sem]
  refine iwp_loopF (rng [4,5] 8 18) nom (fun s => ∃ i, i ≤ l.length ∧ s.t 8 = .int .i64 i ∧ Inv i s.h) (fun s => l.length - tn (s.t 8)) ?_ ?_
  · exact ⟨0, Nat.zero_le _, by simp -implicitDefEqProofs [go_sem], by simpa -implicitDefEqProofs [go_sem] using h0⟩
  rintro J s hJ hf ⟨i, hi, h8, hinv⟩
  simp -implicitDefEqProofs [go_sem, h8, hf.t, hf.m]
  refine cK_dec (fun hlt => ?_) (fun hge => ?_)
  · have hg : l[i]? = some l[i] := List.getElem?_eq_getElem hlt
    have hw := wrap_succ (i := i) (by omega)
    simp -implicitDefEqProofs [go_sem, h8, hf.t, hf.m, hlt, hg]
    have hs := hstep i hlt _ hinv
    simp only [List.append_assoc, List.singleton_append, List.cons_append, List.nil_append] at hs
    refine hs.mono ?_
    rintro e h' (⟨rfl, hi'⟩ | ⟨rfl, hi'⟩)
    · simp -implicitDefEqProofs [go_sem, h8, hf.t, hf.m, hf, hlt, hg, hw]
      exact hJ _ ⟨i + 1, by omega, by simp -implicitDefEqProofs [go_sem, hw], by simpa -implicitDefEqProofs [go_sem] using hi'⟩ (by simp [go_sem, h8, hw]; omega)
    · simp -implicitDefEqProofs [go_sem, h8, hf.t, hf.m, hf, hlt, hg, hw]
      exact ⟨h', Sub.refl _, .inr ⟨i, hlt, rfl, hi'⟩⟩
  · simp -implicitDefEqProofs [go_sem, h8, hf.t, hf.m]
    obtain rfl : i = l.length := by omega
    exact ⟨s.h, Sub.refl _, .inl ⟨rfl, hinv⟩⟩

theorem containsFunc_rct {l : List Rct} {f : FuncId} {first cap : List IV} {Inv Hit : Nat → Heap → Prop} (hl : l.length < 100000000000)
    (hstep : ∀ i (hi : i < l.length) h, Inv i h → ICall Tryz.prog f (first ++ [.agg l[i].row] ++ cap) h fun e h' => (e = .ret (.bool false) ∧ Inv (i + 1) h') ∨ (e = .ret (.bool true) ∧ Hit i h')) (h : Heap) (h0 : Inv 0 h) :
    ICall Tryz.prog 138 [.list .plain (l.map Rct.row), .fn (.func f) first cap] h (conR Inv Hit l.length) := by
  refine icall_of_iwp (fun _ => 0) Tryz.func138 rfl (by kernel_rfl) (Nat.le_of_ble_eq_true rfl) ?_
  rw [Tryz.results138]
  simp -implicitDefEqProofs [go_sem]
  refine (indexFunc_rct hl hstep h h0).mono ?_
  rintro e h' (⟨rfl, hi'⟩ | ⟨i, hi, rfl, hi'⟩)
  · simp -implicitDefEqProofs [go_sem]
    exact ⟨h', Sub.refl _, .inl ⟨rfl, hi'⟩⟩
  · simp -implicitDefEqProofs [go_sem]
    exact ⟨h', Sub.refl _, .inr ⟨i, hi, rfl, hi'⟩⟩

theorem indexFunc_cel {l : List Cel} {f : FuncId} {first cap : List IV} {Inv Hit : Nat → Heap → Prop} (hl : l.length < 100000000000)
    (hstep : ∀ i (hi : i < l.length) h, Inv i h → ICall Tryz.prog f (first ++ [.agg l[i].row] ++ cap) h fun e h' => (e = .ret (.bool false) ∧ Inv (i + 1) h') ∨ (e = .ret (.bool true) ∧ Hit i h')) (h : Heap) (h0 : Inv 0 h) :
    ICall Tryz.prog 130 [.list .plain (l.map Cel.row), .fn (.func f) first cap] h (idxR Inv Hit l.length) := by
  refine icall_of_iwp (fun _ => 0) Tryz.func130 rfl (by kernel_rfl) (Nat.le_of_ble_eq_true rfl) ?_
  rw [Tryz.results130]
  simp -implicitDefEqProofs [go_sem]
  refine iwp_loopF (rng [4,5] 8 18) nom (fun s => ∃ i, i ≤ l.length ∧ s.t 8 = .int .i64 i ∧ Inv i s.h) (fun s => l.length - tn (s.t 8)) ?_ ?_
  · exact ⟨0, Nat.zero_le _, by simp -implicitDefEqProofs [go_sem], by simpa -implicitDefEqProofs [go_sem] using h0⟩
  rintro J s hJ hf ⟨i, hi, h8, hinv⟩
  simp -implicitDefEqProofs [go_sem, h8, hf.t, hf.m]
  refine cK_dec (fun hlt => ?_) (fun hge => ?_)
  · have hg : l[i]? = some l[i] := List.getElem?_eq_getElem hlt
    have hw := wrap_succ (i := i) (by omega)
    simp -implicitDefEqProofs [go_sem, h8, hf.t, hf.m, hlt, hg]
    have hs := hstep i hlt _ hinv
    simp only [List.append_assoc, List.singleton_append, List.cons_append, List.nil_append] at hs
    refine hs.mono ?_
    rintro e h' (⟨rfl, hi'⟩ | ⟨rfl, hi'⟩)
    · simp -implicitDefEqProofs [go_sem, h8, hf.t, hf.m, hf, hlt, hg, hw]
      exact hJ _ ⟨i + 1, by omega, by simp -implicitDefEqProofs [go_sem, hw], by simpa -implicitDefEqProofs [go_sem] using hi'⟩ (by simp [go_sem, h8, hw]; omega)
    · simp -implicitDefEqProofs [go_sem, h8, hf.t, hf.m, hf, hlt, hg, hw]
      exact ⟨h', Sub.refl _, .inr ⟨i, hlt, rfl, hi'⟩⟩
  · simp -implicitDefEqProofs [go_sem, h8, hf.t, hf.m]
    obtain rfl : i = l.length := by omega
    exact ⟨s.h, Sub.refl _, .inl ⟨rfl, hinv⟩⟩

theorem containsFunc_cel {l : List Cel} {f : FuncId} {first cap : List IV} {Inv Hit : Nat → Heap → Prop} (hl : l.length < 100000000000)
    (hstep : ∀ i (hi : i < l.length) h, Inv i h → ICall Tryz.prog f (first ++ [.agg l[i].row] ++ cap) h fun e h' => (e = .ret (.bool false) ∧ Inv (i + 1) h') ∨ (e = .ret (.bool true) ∧ Hit i h')) (h : Heap) (h0 : Inv 0 h) :
    ICall Tryz.prog 83 [.list .plain (l.map Cel.row), .fn (.func f) first cap] h (conR Inv Hit l.length) := by
  refine icall_of_iwp (fun _ => 0) Tryz.func83 rfl (by kernel_rfl) (Nat.le_of_ble_eq_true rfl) ?_
  rw [Tryz.results83]
  simp -implicitDefEqProofs [go_sem]
  refine (indexFunc_cel hl hstep h h0).mono ?_
  rintro e h' (⟨rfl, hi'⟩ | ⟨i, hi, rfl, hi'⟩)
  · simp -implicitDefEqProofs [go_sem]
    exact ⟨h', Sub.refl _, .inl ⟨rfl, hi'⟩⟩
  · simp -implicitDefEqProofs [go_sem]
    exact ⟨h', Sub.refl _, .inr ⟨i, hi, rfl, hi'⟩⟩

theorem rMay_c (l : List Rct) (hl : l.length < 100000000000) (h : Heap) : ICall Tryz.prog 89 [.list .plain (l.map Rct.row)] h (retP (.bool (l.all Rct.may)) h) := by
  refine icall_of_iwp (fun _ => 0) Tryz.func89 rfl (by kernel_rfl) (Nat.le_of_ble_eq_true rfl) ?_
  rw [Tryz.results89]
  simp -implicitDefEqProofs [go_sem]
  refine (containsFunc_rct (Inv := fun i h' => h' = h ∧ ∀ r ∈ l.take i, r.may = true) (Hit := fun i h' => h' = h ∧ ∃ hi : i < l.length, l[i].may = false) hl ?_ h ⟨rfl, by simp⟩).mono ?_
  · rintro i hi h1 ⟨rfl, hall⟩
    refine (rmay1_c l[i] h1).mono ?_
    rintro e h' ⟨rfl, rfl⟩
    cases hb : l[i].may with
    | false => exact .inr ⟨rfl, rfl, hi, hb⟩
    | true =>
      refine .inl ⟨rfl, rfl, fun r hr => ?_⟩
      rw [List.take_add_one, List.getElem?_eq_getElem hi] at hr
      rcases List.mem_append.1 hr with h1 | h1
      · exact hall r h1
      · simp at h1; subst h1; exact hb
  · rintro e h' (⟨rfl, rfl, hall⟩ | ⟨i, hi, rfl, rfl, _, hb⟩)
    · simp -implicitDefEqProofs [go_sem]
      refine ⟨h', Sub.refl _, ?_, rfl⟩
      have : l.all Rct.may = true := by rw [List.all_eq_true]; rw [List.take_length] at hall; exact hall
      rw [this]
    · simp -implicitDefEqProofs [go_sem]
      refine ⟨h', Sub.refl _, ?_, rfl⟩
      have : l.all Rct.may = false := by rw [List.all_eq_false]; exact ⟨_, List.getElem_mem hi, by simp [hb]⟩
      rw [this]
end Go.Proofs

set_option linter.unusedVariables false
set_option linter.unusedSimpArgs false
set_option pp.deepTerms false
set_option pp.maxSteps 400
namespace Go.Proofs
open Go.Idl

def Cel.nodeB (c : Cel) : Bool := decide ((c.kind = 1 ∧ c.kids.length = 0 ∧ 0 ≤ c.id ∧ c.id ≤ 2147483647) ∨ ((c.kind = 2 ∨ c.kind = 3) ∧ 2 ≤ c.kids.length ∧ c.id = 0))

set_option maxRecDepth 20000 in
set_option maxHeartbeats 4000000 in
theorem node_c (c : Cel) (h : Heap) : ICall Tryz.prog 185 [.agg c.row] h (retP (.bool c.nodeB) h) := by
  refine icall_of_iwp (fun _ => 0) Tryz.func185 rfl (by kernel_rfl) (Nat.le_of_ble_eq_true rfl) ?_
  rw [Tryz.results185]
  simp -implicitDefEqProofs [go_sem]
  refine cK_beq (fun k1 => ?_) (fun k1 => ?_) <;> simp -implicitDefEqProofs [go_sem]
  · refine cK_beq (fun k2 => ?_) (fun k2 => ?_) <;> simp -implicitDefEqProofs [go_sem]
    rotate_left
    · exact ⟨h, Sub.refl _, by rw [show c.nodeB = false by rw [Cel.nodeB, decide_eq_false_iff_not]; omega], rfl⟩
    refine cK_dec (fun k3 => ?_) (fun k3 => ?_) <;> simp -implicitDefEqProofs [go_sem]
    rotate_left
    · exact ⟨h, Sub.refl _, by rw [show c.nodeB = false by rw [Cel.nodeB, decide_eq_false_iff_not]; omega], rfl⟩
    refine ⟨h, Sub.refl _, ?_, rfl⟩
    rw [Cel.nodeB]; congr 2; rw [decide_eq_decide]; omega
  · refine cK_beq (fun k2 => ?_) (fun k2 => ?_)
    · simp -implicitDefEqProofs [go_sem, k2]
      refine cK_dec (fun k3 => ?_) (fun k3 => ?_) <;> simp -implicitDefEqProofs [go_sem]
      rotate_left
      · exact ⟨h, Sub.refl _, by rw [show c.nodeB = false by rw [Cel.nodeB, decide_eq_false_iff_not]; omega], rfl⟩
      refine ⟨h, Sub.refl _, ?_, rfl⟩
      rw [Cel.nodeB]; congr 2; rw [Bool.eq_iff_iff]; simp only [beq_iff_eq, decide_eq_true_eq]; omega
    · simp -implicitDefEqProofs [go_sem, k2]
      refine cK_beq (fun k4 => ?_) (fun k4 => ?_)
      · simp -implicitDefEqProofs [go_sem, k4]
        refine cK_dec (fun k3 => ?_) (fun k3 => ?_) <;> simp -implicitDefEqProofs [go_sem]
        rotate_left
        · exact ⟨h, Sub.refl _, by rw [show c.nodeB = false by rw [Cel.nodeB, decide_eq_false_iff_not]; omega], rfl⟩
        refine ⟨h, Sub.refl _, ?_, rfl⟩
        rw [Cel.nodeB]; congr 2; rw [Bool.eq_iff_iff]; simp only [beq_iff_eq, decide_eq_true_eq]; omega
      · simp -implicitDefEqProofs [go_sem, k4]
        exact ⟨h, Sub.refl _, by rw [show c.nodeB = false by rw [Cel.nodeB, decide_eq_false_iff_not]; omega], rfl⟩

def nonR (Inv Hit : Nat → Heap → Prop) (n : Nat) (e : IEnd) (h' : Heap) : Prop := (e = .ret (.bool true) ∧ Inv n h') ∨ ∃ i : Nat, i < n ∧ e = .ret (.bool false) ∧ Hit i h'

theorem none_cel {l : List Cel} {f : FuncId} {first cap : List IV} {Inv Hit : Nat → Heap → Prop} (hl : l.length < 100000000000)
    (hstep : ∀ i (hi : i < l.length) h, Inv i h → ICall Tryz.prog f (first ++ [.agg l[i].row] ++ cap) h fun e h' => (e = .ret (.bool false) ∧ Inv (i + 1) h') ∨ (e = .ret (.bool true) ∧ Hit i h')) (h : Heap) (h0 : Inv 0 h) :
    ICall Tryz.prog 163 [.list .plain (l.map Cel.row), .fn (.func f) first cap] h (nonR Inv Hit l.length) := by
  refine icall_of_iwp (fun _ => 0) Tryz.func163 rfl (by kernel_rfl) (Nat.le_of_ble_eq_true rfl) ?_
  rw [Tryz.results163]
  simp -implicitDefEqProofs [go_sem]
  refine (containsFunc_cel hl hstep h h0).mono ?_
  rintro e h' (⟨rfl, hi'⟩ | ⟨i, hi, rfl, hi'⟩)
  · simp -implicitDefEqProofs [go_sem]
    exact ⟨h', Sub.refl _, .inl ⟨rfl, hi'⟩⟩
  · simp -implicitDefEqProofs [go_sem]
    exact ⟨h', Sub.refl _, .inr ⟨i, hi, rfl, hi'⟩⟩

/-- objects of the heap that hold a state, over any other objects -/
structure HM (σ : Type) where
  at' : σ → Heap → Heap
  up : ∀ s base b, at' s base b = none → ∀ s' o, upd (at' s' base) b (some o) = at' s' (upd base b (some o))
  ub : ∀ s base b, at' s base b = none → ∀ s' o, at' s' (upd base b (some o)) b = some o
  sub : ∀ s base base', Sub base base' → Sub (at' s base) (at' s base')
  bn : ∀ s base b, at' s base b = none → base b = none

def stepR {σ : Type} (M : HM σ) (t : Bool) (r : Option σ) (base : Heap) (e : IEnd) (h' : Heap) : Prop :=
  match r with
  | some s' => e = .ret (.bool t) ∧ h' = M.at' s' base
  | none => e = .ret (.bool !t) ∧ ∃ s', h' = M.at' s' base

theorem all1_of {σ : Type} (M : HM σ) (step : σ → Cel → Option σ) {f : FuncId} {first cap : List IV} {d : Cel} {s : σ} {base : Heap} {b : Nat} (hb : M.at' s base b = some (.cells [.fn (.func f) first cap]))
    (ha : ICall Tryz.prog 183 [.agg d.row, .fn (.func f) first cap] (M.at' s base) (stepR M true (d.all.foldlM step s) base)) :
    ICall Tryz.prog 194 [.agg d.row, .ptr b 0] (M.at' s base) (stepR M false (d.all.foldlM step s) base) := by
  refine icall_of_iwp (fun _ => 0) Tryz.func194 rfl (by kernel_rfl) (Nat.le_of_ble_eq_true rfl) ?_
  rw [Tryz.results194]
  simp -implicitDefEqProofs [go_sem, hb]
  refine ha.mono ?_
  intro e h' he
  cases hr : d.all.foldlM step s with
  | some s' =>
    rw [hr] at he
    obtain ⟨rfl, rfl⟩ := he
    simp -implicitDefEqProofs [go_sem]
    exact ⟨_, Sub.refl _, rfl, rfl⟩
  | none =>
    rw [hr] at he
    obtain ⟨rfl, s', rfl⟩ := he
    simp -implicitDefEqProofs [go_sem]
    exact ⟨_, Sub.refl _, rfl, s', rfl⟩

theorem alls_fold {σ : Type} (step : σ → Cel → Option σ) : ∀ (l : List Cel) (i : Nat) (h : i < l.length) (s : σ), (Cel.alls (l.take i)).foldlM step s = none → (Cel.alls l).foldlM step s = none
  | [], i, h, _, _ => by simp at h
  | c :: cs, 0, h, s, hn => by simp [Cel.alls] at hn
  | c :: cs, i + 1, h, s, hn => by
    simp only [List.take_succ_cons, Cel.alls, List.foldlM_append] at hn ⊢
    cases hc : c.all.foldlM step s with
    | none => rfl
    | some s1 =>
      rw [hc] at hn
      exact alls_fold step cs i (by simpa using h) s1 hn
theorem alls_fold_all {σ : Type} (step : σ → Cel → Option σ) (l : List Cel) (i : Nat) (s : σ) (hn : (Cel.alls (l.take i)).foldlM step s = none) : (Cel.alls l).foldlM step s = none := by
  by_cases h : i < l.length
  · exact alls_fold step l i h s hn
  · rwa [List.take_of_length_le (by omega)] at hn

theorem all_of {σ : Type} (M : HM σ) (step : σ → Cel → Option σ) {f : FuncId} {first cap : List IV} (N : Nat) (hN : N < 100000000000)
    (G : σ → Prop) (hG : ∀ s d s', G s → step s d = some s' → G s') (hw : ∀ s d base, G s → d.size ≤ N → ICall Tryz.prog f (first ++ [.agg d.row] ++ cap) (M.at' s base) (stepR M true (step s d) base)) (c : Cel) :
    ∀ (s : σ) (base : Heap), G s → c.size ≤ N → ICall Tryz.prog 183 [.agg c.row, .fn (.func f) first cap] (M.at' s base) (stepR M true (c.all.foldlM step s) base) := by
  induction c using Cel.induct
  rename_i c ih
  intro s base hg hc
  have hlen := Cel.len_le c.kids
  rw [c.size_eq] at hc
  have hc0 : c.size ≤ N := by rw [c.size_eq]; exact hc
  refine icall_of_iwp (fun d => if d = 3 then 1 else 0) Tryz.func183 rfl (by kernel_rfl) (Nat.le_of_ble_eq_true rfl) ?_
  rw [Tryz.results183]
  simp -implicitDefEqProofs [go_sem]
  intro b hb
  have hup := M.up s base b hb s
  have hsub : Sub base (upd base b (some (.cells [.fn (.func f) first cap]))) := (Sub.refl base).upd (M.bn _ _ _ hb) _
  have hub := fun s' => M.ub s base b hb s' (.cells [.fn (.func f) first cap])
  generalize hbase : upd base b (some (.cells [.fn (.func f) first cap])) = base' at hsub hub
  have hup' := hup (.cells [.fn (.func f) first cap])
  rw [hbase] at hup'
  simp -implicitDefEqProofs [go_sem, hup']
  have hcall := hw s c base' hg hc0
  simp only [List.append_assoc, List.singleton_append, List.cons_append, List.nil_append] at hcall
  refine hcall.mono ?_
  intro e h' he
  cases hr : step s c with
  | none =>
    rw [hr] at he
    obtain ⟨rfl, s', rfl⟩ := he
    simp -implicitDefEqProofs [go_sem]
    exact ⟨M.at' s' base, M.sub _ _ _ hsub, by rw [c.all_eq, List.foldlM_cons, hr]; exact ⟨rfl, s', rfl⟩⟩
  | some s1 =>
    rw [hr] at he
    obtain ⟨rfl, rfl⟩ := he
    have hg1 := hG _ _ _ hg hr
    have hfold : c.all.foldlM step s = (Cel.alls c.kids).foldlM step s1 := by rw [c.all_eq, List.foldlM_cons, hr]; rfl
    simp -implicitDefEqProofs [go_sem]
    refine (none_cel (Inv := fun i h => ∃ s2, G s2 ∧ (Cel.alls (c.kids.take i)).foldlM step s1 = some s2 ∧ h = M.at' s2 base') (Hit := fun i h => (Cel.alls c.kids).foldlM step s1 = none ∧ ∃ s', h = M.at' s' base') (by omega) ?_ _ ⟨s1, hg1, by simp [Cel.alls], rfl⟩).mono ?_
    · rintro i hi h ⟨s2, hg2, hs2, rfl⟩
      have hle := Cel.mem_le (List.getElem_mem hi)
      have h1 := all1_of M step (hub s2) (ih _ (List.getElem_mem hi) s2 base' hg2 (by omega))
      refine h1.mono ?_
      intro e h' he
      have htk := Cel.alls_take c.kids i hi
      cases hr2 : c.kids[i].all.foldlM step s2 with
      | none =>
        rw [hr2] at he
        obtain ⟨rfl, s', rfl⟩ := he
        refine .inr ⟨rfl, ?_, s', rfl⟩
        apply alls_fold_all step c.kids (i + 1)
        rw [htk, List.foldlM_append, hs2]; exact hr2
      | some s3 =>
        rw [hr2] at he
        obtain ⟨rfl, rfl⟩ := he
        refine .inl ⟨rfl, s3, ?_, ?_, rfl⟩
        · have : ∀ (l : List Cel) (s s' : σ), G s → l.foldlM step s = some s' → G s' := by
            intro l
            induction l with
            | nil => intro s s' hg h; cases h; exact hg
            | cons d l ihl =>
              intro s s' hg h
              rw [List.foldlM_cons] at h
              cases hd : step s d with
              | none => rw [hd] at h; cases h
              | some s4 => rw [hd] at h; exact ihl s4 s' (hG _ _ _ hg hd) h
          exact this _ _ _ hg2 hr2
        · rw [htk, List.foldlM_append, hs2]; exact hr2
    · rintro e h' (⟨rfl, s2, _, hs2, rfl⟩ | ⟨i, hi, rfl, hn, s', rfl⟩)
      · rw [List.take_length] at hs2
        simp -implicitDefEqProofs [go_sem]
        exact ⟨M.at' s2 base, M.sub _ _ _ hsub, by rw [hfold, hs2]; exact ⟨rfl, rfl⟩⟩
      · simp -implicitDefEqProofs [go_sem]
        exact ⟨M.at' s' base, M.sub _ _ _ hsub, by rw [hfold, hn]; exact ⟨rfl, s', rfl⟩⟩
end Go.Proofs

set_option linter.unusedVariables false
set_option linter.unusedSimpArgs false
set_option pp.deepTerms false
set_option pp.maxSteps 400
namespace Go.Proofs
open Go.Idl

def ents (l : List Int) : List (IV × IV) := l.map fun i => (.int .i64 i, .bool true)
/-- the heap of cell.may's closure -/
def mayH (nb qb mb : Nat) (s : Nat × List Int) (base : Heap) : Heap := upd (upd (upd base mb (some (.map (ents s.2)))) qb (some (.cells [.mapv mb]))) nb (some (.cells [.int .i64 s.1]))
def mayStep (s : Nat × List Int) (d : Cel) : Option (Nat × List Int) :=
  if s.1 + 1 ≤ 20000 ∧ d.nodeB = true ∧ d.r.may = true ∧ ¬ (d.kind = 1 ∧ d.id ∈ s.2) then some (s.1 + 1, if d.kind = 1 then s.2 ++ [d.id] else s.2) else none

theorem ents_find (n : Int) : ∀ l : List Int, ifind (.int .i64) (.int .i64 n) (ents l) = some (if n ∈ l then some (.bool true) else none)
  | [] => by simp [ents, ifind]
  | a :: l => by
    have ih := ents_find n l
    rw [ents] at ih ⊢
    simp only [List.map_cons, ifind, kEq]
    by_cases h : n = a
    · subst h; simp
    · have h' : (n == a) = false := by simpa using h
      simp [h', ih, h]
theorem ents_put (n : Int) : ∀ l : List Int, n ∉ l → iput (.int .i64) (.int .i64 n) (.bool true) (ents l) = some (ents (l ++ [n]))
  | [], _ => by simp [ents, iput]
  | a :: l, hn => by
    have ih := ents_put n l (fun h => hn (List.mem_cons_of_mem _ h))
    rw [ents] at ih ⊢
    have h : ¬ n = a := fun h => hn (h ▸ List.mem_cons_self)
    have h' : (n == a) = false := by simpa using h
    simp only [List.map_cons, iput, kEq, h', ih]
    simp [ents]
def mayR (nb qb mb : Nat) (r : Option (Nat × List Int)) (base : Heap) (e : IEnd) (h' : Heap) : Prop :=
      match r with
      | some s' => e = .ret (.bool true) ∧ h' = mayH nb qb mb s' base
      | none => e = .ret (.bool false) ∧ ∃ s', h' = mayH nb qb mb s' base

set_option maxRecDepth 20000 in
set_option maxHeartbeats 4000000 in
theorem may1_c {nb qb mb : Nat} (h1 : nb ≠ qb) (h2 : nb ≠ mb) (h3 : qb ≠ mb) (s : Nat × List Int) (hs : s.1 < 100000000000) (d : Cel) (base : Heap) :
    ICall Tryz.prog 184 [.agg d.row, .ptr nb 0, .ptr qb 0] (mayH nb qb mb s base) (mayR nb qb mb (mayStep s d) base) := by
  obtain ⟨n, ids⟩ := s
  simp only at hs
  obtain ⟨m, hm⟩ : ∃ m, m = n + 1 := ⟨_, rfl⟩
  have g1 : mayH nb qb mb (n, ids) base nb = some (.cells [.int .i64 n]) := by simp [mayH, upd]
  have g2 : upd (mayH nb qb mb (n, ids) base) nb (some (.cells [.int .i64 m])) = mayH nb qb mb (m, ids) base := by
    funext j; simp only [mayH, upd]; split <;> rfl
  have g3 : mayH nb qb mb (m, ids) base nb = some (.cells [.int .i64 m]) := by simp [mayH, upd]
  have g4 : mayH nb qb mb (m, ids) base qb = some (.cells [.mapv mb]) := by simp [mayH, upd, h1.symm]
  have g5 : mayH nb qb mb (m, ids) base mb = some (.map (ents ids)) := by simp [mayH, upd, h2.symm, h3.symm]
  have hw : IntKind.i64.wrap ((n : Int) + 1) = (m : Int) := by rw [wrap_in (by omega)]; omega
  have hno : ¬ (m ≤ 20000 ∧ d.nodeB = true ∧ d.r.may = true ∧ ¬ (d.kind = 1 ∧ d.id ∈ ids)) → mayStep (n, ids) d = none := fun h => by rw [mayStep, if_neg (by rw [← hm]; exact h)]
  refine icall_of_iwp (fun _ => 0) Tryz.func184 rfl (by kernel_rfl) (Nat.le_of_ble_eq_true rfl) ?_
  rw [Tryz.results184]
  simp -implicitDefEqProofs [go_sem, g1, hw, g2, g3]
  refine cK_dec (fun k1 => ?_) (fun k1 => ?_) <;> simp -implicitDefEqProofs [go_sem, g1, g2, g3]
  · rw [hno (by omega)]
    exact ⟨_, Sub.refl _, rfl, _, rfl⟩
  refine (node_c d _).mono ?_
  rintro e h' ⟨rfl, rfl⟩
  simp -implicitDefEqProofs [go_sem]
  refine cK_any (fun k2 => ?_) (fun k2 => ?_) <;> simp -implicitDefEqProofs [go_sem]
  · rw [hno (fun h => by simp [h.2.1] at k2)]
    exact ⟨_, Sub.refl _, rfl, _, rfl⟩
  have hrm := rMay_c [d.r] (by simp) (mayH nb qb mb (m, ids) base)
  simp only [List.map_cons, List.map_nil, List.all_cons, List.all_nil, Bool.and_true] at hrm
  refine hrm.mono ?_
  rintro e h' ⟨rfl, rfl⟩
  simp -implicitDefEqProofs [go_sem]
  refine cK_any (fun k3 => ?_) (fun k3 => ?_) <;> simp -implicitDefEqProofs [go_sem]
  · rw [hno (fun h => by simp [h.2.2.1] at k3)]
    exact ⟨_, Sub.refl _, rfl, _, rfl⟩
  have k2' : d.nodeB = true := by simpa using k2
  have k3' : d.r.may = true := by simpa using k3
  refine cK_beq (fun k4 => ?_) (fun k4 => ?_)
  · by_cases hin : d.id ∈ ids
    · simp -implicitDefEqProofs [go_sem, g4, g5, k4, ents_find, hin]
      rw [hno (fun h => h.2.2.2 ⟨k4, hin⟩)]
      exact ⟨_, Sub.refl _, rfl, _, rfl⟩
    · have hput := ents_put _ _ hin
      simp -implicitDefEqProofs [go_sem, g4, g5, k4, ents_find, hin, hput]
      have hst : mayStep (n, ids) d = some (m, ids ++ [d.id]) := by
        rw [mayStep, if_pos ⟨by simp only; omega, k2', k3', fun h => hin h.2⟩, if_pos k4, ← hm]
      refine ⟨_, Sub.refl _, ?_⟩
      rw [hst]
      refine ⟨rfl, ?_⟩
      funext j
      simp only [mayH, upd]
      by_cases j1 : j = mb
      · subst j1; simp [h2.symm, h3.symm]
      · simp [j1]
  · have hst : mayStep (n, ids) d = some (m, ids) := by
      rw [mayStep, if_pos ⟨by simp only; omega, k2', k3', fun h => k4 h.1⟩, if_neg k4, ← hm]
    have kb : (d.kind == 1) = false := by simpa using k4
    simp -implicitDefEqProofs [go_sem, g4, g5, kb]
    refine ⟨_, Sub.refl _, ?_⟩
    rw [hst]
    exact ⟨rfl, rfl⟩

def mayM (nb qb mb : Nat) (h1 : nb ≠ qb) (h2 : nb ≠ mb) (h3 : qb ≠ mb) : HM (Nat × List Int) where
  at' := mayH nb qb mb
  up s base b hb s' o := by
    have e1 : b ≠ nb := by rintro rfl; simp [mayH, upd] at hb
    have e2 : b ≠ qb := by rintro rfl; simp [mayH, upd] at hb; split at hb <;> simp_all
    have e3 : b ≠ mb := by rintro rfl; simp [mayH, upd] at hb; split at hb <;> simp_all
    funext j
    simp only [mayH, upd]
    by_cases j1 : j = b
    · subst j1; simp [e1, e2, e3]
    · simp [j1]
  ub s base b hb s' o := by
    have e1 : b ≠ nb := by rintro rfl; simp [mayH, upd] at hb
    have e2 : b ≠ qb := by rintro rfl; simp [mayH, upd] at hb; split at hb <;> simp_all
    have e3 : b ≠ mb := by rintro rfl; simp [mayH, upd] at hb; split at hb <;> simp_all
    simp [mayH, upd, e1, e2, e3]
  sub s base base' h := by
    intro b o hb
    simp only [mayH, upd] at hb ⊢
    split at hb
    · rw [if_pos (by assumption)]; exact hb
    · rw [if_neg (by assumption)]
      split at hb
      · rw [if_pos (by assumption)]; exact hb
      · rw [if_neg (by assumption)]
        split at hb
        · rw [if_pos (by assumption)]; exact hb
        · rw [if_neg (by assumption)]; exact h _ _ hb
  bn s base b hb := by
    simp only [mayH, upd] at hb
    split at hb
    · cases hb
    · split at hb
      · cases hb
      · split at hb
        · cases hb
        · exact hb

set_option maxRecDepth 20000 in
set_option maxHeartbeats 4000000 in
theorem cmay_c (c : Cel) (h : Heap) (hs : c.size < 100000000000) : ICall Tryz.prog 165 [.agg c.row] h (retP (.bool (c.all.foldlM mayStep (0, [])).isSome) h) := by
  refine icall_of_iwp (fun d => if d = 3 ∨ d = 4 then 1 else 0) Tryz.func165 rfl (by kernel_rfl) (Nat.le_of_ble_eq_true rfl) ?_
  rw [Tryz.results165]
  simp -implicitDefEqProofs [go_sem]
  intro b hb b1 hb1 b2 hb2
  have e1 : b1 ≠ b := by rintro rfl; simp [upd] at hb1
  have e2 : b2 ≠ b1 := by rintro rfl; simp [upd] at hb2
  have e3 : b2 ≠ b := by rintro rfl; simp [upd, e1.symm] at hb2
  have hH : (upd (upd (upd (upd (upd h b (some (.map []))) b1 (some (.cells [.nilmap]))) b1 (some (.cells [.mapv b]))) b2 (some (.cells [.int .i64 0]))) b2 (some (.cells [.int .i64 0]))) = (mayM b2 b1 b e2 e3 e1).at' (0, []) h := by
    funext j
    simp only [mayM, mayH, upd, ents, List.map_nil]
    by_cases j1 : j = b2
    · simp [j1]
    · by_cases j2 : j = b1
      · simp [j2]
      · simp [j1, j2]
  rw [hH]
  have hc := all_of (mayM b2 b1 b e2 e3 e1) mayStep (f := 184) (first := []) (cap := [.ptr b2 0, .ptr b1 0]) 99999999999 (by omega) (fun s => s.1 < 100000000) 
    (fun s d s' hg hs' => by
      unfold mayStep at hs'
      split at hs'
      · cases hs'; simp only; omega
      · cases hs')
    (fun s d base hg hd => (may1_c e2 e3 e1 s (by omega) d base).mono (fun e h' he => by
      unfold mayR at he
      unfold stepR
      cases hst : mayStep s d with
      | none => rw [hst] at he; exact he
      | some s' => rw [hst] at he; exact he)) c (0, []) h (by simp) (by omega)
  refine hc.mono ?_
  intro e h' he
  have hsub : ∀ s', Sub h ((mayM b2 b1 b e2 e3 e1).at' s' h) := by
    intro s' b' o hb'
    have hb1' : h b1 = none := by simpa [upd, e1] using hb1
    have hb2' : h b2 = none := by simpa [upd, e2, e3] using hb2
    simp only [mayM, mayH, upd]
    rw [if_neg (by rintro rfl; rw [hb2'] at hb'; cases hb'), if_neg (by rintro rfl; rw [hb1'] at hb'; cases hb'), if_neg (by rintro rfl; rw [hb] at hb'; cases hb')]
    exact hb'
  cases hr : c.all.foldlM mayStep (0, []) with
  | none =>
    rw [hr] at he
    obtain ⟨rfl, s', rfl⟩ := he
    simp -implicitDefEqProofs [go_sem]
    exact ⟨h, hsub _, rfl, rfl⟩
  | some s' =>
    rw [hr] at he
    obtain ⟨rfl, rfl⟩ := he
    simp -implicitDefEqProofs [go_sem]
    exact ⟨h, hsub _, rfl, rfl⟩

theorem foldl_may (l : List Cel) : ∀ (n : Nat) (ids : List Int), (l.foldlM mayStep (n, ids)).isSome = true ↔ (l = [] ∨ n + l.length ≤ 20000) ∧ (∀ d ∈ l, d.Ok) ∧ ((l.filter fun d => d.kind == 1).map Cel.id).Nodup ∧ ∀ d ∈ l, d.kind = 1 → d.id ∉ ids := by
  induction l with
  | nil => intro n ids; simp [List.foldlM]
  | cons d l ih =>
    intro n ids
    rw [List.foldlM_cons]
    have hOk : d.Ok ↔ d.nodeB = true ∧ d.r.may = true := by simp only [Cel.Ok, Cel.nodeB, decide_eq_true_eq]; exact And.comm
    by_cases hc : n + 1 ≤ 20000 ∧ d.nodeB = true ∧ d.r.may = true ∧ ¬ (d.kind = 1 ∧ d.id ∈ ids)
    · have hst : mayStep (n, ids) d = some (n + 1, if d.kind = 1 then ids ++ [d.id] else ids) := by rw [mayStep, if_pos hc]
      rw [hst]
      refine (ih _ _).trans ?_
      have hd : d.Ok := hOk.2 ⟨hc.2.1, hc.2.2.1⟩
      have hlen : (l = [] ∨ n + 1 + l.length ≤ 20000) ↔ (d :: l = [] ∨ n + (d :: l).length ≤ 20000) := by
        constructor
        · rintro (rfl | h)
          · right; simp; omega
          · right; simp; omega
        · rintro (h | h)
          · cases h
          · right; simp at h; omega
      rw [hlen]
      simp only [List.forall_mem_cons, hd, true_and]
      refine and_congr_right fun _ => and_congr_right fun _ => ?_
      by_cases hk : d.kind = 1
      · have hk' : (d.kind == 1) = true := by simpa using hk
        simp only [hk, if_true, List.filter_cons, beq_self_eq_true, List.map_cons, List.nodup_cons, List.mem_map, List.mem_filter, List.mem_append, List.mem_singleton, not_or]
        constructor
        · rintro ⟨h1, h2⟩
          refine ⟨⟨?_, h1⟩, ?_, fun x hx hxk => (h2 x hx hxk).1⟩
          · rintro ⟨x, ⟨hx, hxk⟩, hxe⟩
            exact (h2 x hx (by simpa using hxk)).2 hxe
          · intro _ h; exact hc.2.2.2 ⟨hk, h⟩
        · rintro ⟨⟨h0, h1⟩, h2, h3⟩
          refine ⟨h1, fun x hx hxk => ⟨h3 x hx hxk, fun he => h0 ⟨x, ⟨hx, by simpa using hxk⟩, he⟩⟩⟩
      · have hk' : (d.kind == 1) = false := by simpa using hk
        simp only [hk, if_false, List.filter_cons, hk', false_implies, true_and]
        simp
    · have hst : mayStep (n, ids) d = none := by rw [mayStep, if_neg hc]
      rw [hst]
      constructor
      · intro h; cases h
      · rintro ⟨h1, h2, h3, h4⟩
        exfalso
        apply hc
        have hd := hOk.1 (h2 d List.mem_cons_self)
        refine ⟨?_, hd.1, hd.2, fun h => h4 d List.mem_cons_self h.1 h.2⟩
        rcases h1 with h1 | h1
        · cases h1
        · simp at h1; omega

theorem may_fold (c : Cel) : (c.all.foldlM mayStep (0, [])).isSome = c.may := by
  rw [Bool.eq_iff_iff, foldl_may, Cel.may, decide_eq_true_eq]
  have h1 : c.all ≠ [] := by rw [c.all_eq]; simp
  have h2 := Cel.all_length c
  simp only [h1, false_or, Nat.zero_add, h2, List.not_mem_nil, not_false_eq_true, implies_true, and_true]
  rfl

theorem cmay'_c (c : Cel) (h : Heap) (hs : c.size < 100000000000) : ICall Tryz.prog 165 [.agg c.row] h (retP (.bool c.may) h) := by
  have := cmay_c c h hs
  rwa [may_fold] at this

theorem cmay1_c (c : Cel) (h : Heap) (hs : c.size < 100000000000) : ICall Tryz.prog 164 [.agg c.row] h (retP (.bool (!c.may)) h) := by
  refine icall_of_iwp (fun _ => 0) Tryz.func164 rfl (by kernel_rfl) (Nat.le_of_ble_eq_true rfl) ?_
  rw [Tryz.results164]
  simp -implicitDefEqProofs [go_sem]
  refine (cmay'_c c h hs).mono ?_
  rintro e h' ⟨rfl, rfl⟩
  simp -implicitDefEqProofs [go_sem]
  exact ⟨h', Sub.refl _, rfl, rfl⟩

theorem cMay_c (c : Cel) (h : Heap) (hs : c.size < 100000000000) : ICall Tryz.prog 131 [.list .plain [c.row]] h (retP (.bool c.may) h) := by
  refine icall_of_iwp (fun _ => 0) Tryz.func131 rfl (by kernel_rfl) (Nat.le_of_ble_eq_true rfl) ?_
  rw [Tryz.results131]
  simp -implicitDefEqProofs [go_sem]
  have hn := none_cel (l := [c]) (f := 164) (first := []) (cap := []) (Inv := fun i h' => h' = h ∧ (i = 1 → c.may = true)) (Hit := fun i h' => h' = h ∧ c.may = false) (by simp) (fun i hi h1 hh => by
    obtain ⟨rfl, _⟩ := hh
    obtain rfl : i = 0 := by simp at hi; exact hi
    refine (cmay1_c c h1 hs).mono ?_
    rintro e h' ⟨rfl, rfl⟩
    cases hb : c.may with
    | false => exact .inr ⟨rfl, rfl, rfl⟩
    | true => exact .inl ⟨rfl, rfl, fun _ => rfl⟩) h ⟨rfl, fun h => by cases h⟩
  simp only [List.map_cons, List.map_nil] at hn
  refine hn.mono ?_
  rintro e h' (⟨rfl, rfl, hm⟩ | ⟨i, hi, rfl, rfl, hm⟩)
  · simp -implicitDefEqProofs [go_sem]
    exact ⟨h', Sub.refl _, by rw [hm rfl], rfl⟩
  · simp -implicitDefEqProofs [go_sem]
    exact ⟨h', Sub.refl _, by rw [hm], rfl⟩
end Go.Proofs

set_option linter.unusedVariables false
set_option linter.unusedSimpArgs false
set_option pp.deepTerms false
set_option pp.maxSteps 400
namespace Go.Proofs
open Go.Idl

def turnR (r : Rct) (ax : Int) : Rct := if ax = 2 then ⟨r.y, r.x, r.h, r.w⟩ else if ax = 1 then r else ⟨0, 0, 0, 0⟩
def turnB (ax : Int) : Bool := decide (ax = 1 ∨ ax = 2)

@[go_sem] theorem Rct.zero_row : [IV.int .i64 0, IV.int .i64 0, IV.int .i64 0, IV.int .i64 0].length = 4 := rfl
theorem turned_c (r : Rct) (ax : Int) (h : Heap) : ICall Tryz.prog 199 [.agg r.row, .int .u8 ax] h (retP (.tup [.agg (turnR r ax).row, .bool (turnB ax)]) h) := by
  refine icall_of_iwp (fun _ => 0) Tryz.func199 rfl (by kernel_rfl) (Nat.le_of_ble_eq_true rfl) ?_
  rw [Tryz.results199]
  simp -implicitDefEqProofs [go_sem]
  refine cK_beq (fun k1 => ?_) (fun k1 => ?_)
  · simp -implicitDefEqProofs [go_sem]
    exact ⟨h, Sub.refl _, by rw [turnR, if_pos k1, turnB, k1]; rfl, rfl⟩
  · simp -implicitDefEqProofs [go_sem]
    refine cK_beq (fun k2 => ?_) (fun k2 => ?_)
    · simp -implicitDefEqProofs [go_sem]
      exact ⟨h, Sub.refl _, by rw [turnR, if_neg k1, if_pos k2, turnB, k2]; rfl, rfl⟩
    · simp -implicitDefEqProofs [go_sem]
      exact ⟨h, Sub.refl _, by rw [turnR, if_neg k1, if_neg k2, turnB, decide_eq_false (by omega)]; rfl, rfl⟩

set_option maxRecDepth 20000 in
set_option maxHeartbeats 4000000 in
theorem rCut_c (r : Rct) (ax : Int) (l : List Int) (h : Heap) (hl : l.length < 100000000000) : ICall Tryz.prog 195 [.agg r.row, .int .u8 ax, .list .plain (l.map intRow)] h (retP (cutV (cutS r ax l)) h) := by
  refine icall_of_iwp (fun _ => 0) Tryz.func195 rfl (by kernel_rfl) (Nat.le_of_ble_eq_true rfl) ?_
  rw [Tryz.results195]
  simp -implicitDefEqProofs [go_sem]
  refine (turned_c r ax h).mono ?_
  rintro e h' ⟨rfl, rfl⟩
  simp -implicitDefEqProofs [go_sem]
  refine cK_any (fun hm => ?_) (fun hm => ?_) <;> simp -implicitDefEqProofs [go_sem]
  · exact ⟨h', Sub.refl _, by rw [cutS, if_neg (by simp [turnB] at hm; omega)]; rfl, rfl⟩
  have hax : ax = 1 ∨ ax = 2 := by simp [turnB] at hm; omega
  refine (rmay_c r h').mono ?_
  rintro e h'' ⟨rfl, rfl⟩
  simp -implicitDefEqProofs [go_sem]
  refine cK_any (fun hm2 => ?_) (fun hm2 => ?_) <;> simp -implicitDefEqProofs [go_sem]
  · exact ⟨h'', Sub.refl _, by rw [cutS, if_neg (by simp at hm2; simp [hm2])]; rfl, rfl⟩
  refine cK_beq (fun h3 => ?_) (fun h3 => ?_) <;> simp -implicitDefEqProofs [go_sem]
  · exact ⟨h'', Sub.refl _, by rw [cutS, if_neg (by intro h; apply h.2.2.2; apply List.eq_nil_of_length_eq_zero; omega)]; rfl, rfl⟩
  have hm' : r.may = true := by simpa using hm2
  have hmb := hm'
  simp only [Rct.may, decide_eq_true_eq] at hmb
  have hne : l ≠ [] := fun e => h3 (by simp [e])
  clear hm hm2
  rcases hax with rfl | rfl
  · have hcs : cutS r 1 l = match cutF true r l with | some (off, ps, ls) => if off = cutW true r then some (ps, ls) else none | none => none := by
      rw [cutS, if_pos ⟨hm', by omega, by omega, hne⟩]; rfl
    have htr : turnR r 1 = r := rfl
    simp -implicitDefEqProofs [go_sem, htr]
    refine iwp_loopF (rng [6,7,8,11,12,13,14,15,16,17,18,19] 42 98) (fun k => k == 16 || k == 18) (fun s => ∃ i off ps ls, i ≤ l.length ∧ s.t 42 = .int .i64 i ∧ Own [94] s.x 23 (s.t 11) (ps.map Rct.row) ∧ Own [63] s.x 23 (s.t 12) (ls.map Rct.row) ∧ s.t 13 = .int .i64 (r.x + off) ∧ cutF true r (l.take i) = some (off, ps, ls) ∧ s.h = h'')
       (fun s => l.length - tn (s.t 42)) ?_ ?_
    · exact ⟨0, 0, [], [], by simp, by simp -implicitDefEqProofs [go_sem], by simp -implicitDefEqProofs [go_sem, Own.tight], by simp -implicitDefEqProofs [go_sem, Own.tight], by simp -implicitDefEqProofs [go_sem], rfl, by simp -implicitDefEqProofs [go_sem]⟩
    · rintro J s hJ hf ⟨i, off, ps, ls, hi, h42, ho1, ho2, h13, hF, hh⟩
      obtain ⟨tk1, h11⟩ := ho1.list
      obtain ⟨tk2, h12⟩ := ho2.list
      have hlen := cutF_len _ _ _ _ _ _ hF
      rw [List.length_take, Nat.min_eq_left hi] at hlen
      have hoff : 0 ≤ off ∧ off ≤ 10000 := by
        refine ⟨hlen.2.2.1, ?_⟩
        by_cases hz : l.take i = []
        · rw [hz] at hF; cases hF; omega
        · have := hlen.2.2.2 hz; simp only [cutW] at this; simp at this; omega
      have hwo : IntKind.i64.wrap (r.x + off + 1) = r.x + (off + 1) := by rw [wrap_in (by omega)]; omega
      simp -implicitDefEqProofs [go_sem, h42, h11, h12, h13, hh, hf.t, hf.m]
      refine cK_dec (fun hlt => ?_) (fun hge => ?_)
      · have hg : l[i]? = some l[i] := List.getElem?_eq_getElem hlt
        have hw := wrap_succ (i := i) (by omega)
        have hst := cutF_succ true r l i hlt
        rw [hF, cutStep] at hst
        have hbad : cutBad true r off l[i] ps → cutV (cutS r 1 l) = .tup [.list .plain [], .list .plain [], .bool false] := fun hb => by
          rw [if_pos hb] at hst
          rw [hcs, cutF_stop _ _ _ _ hst]; rfl
        simp -implicitDefEqProofs [go_sem, h42, h11, h12, h13, hh, hf.t, hf.m, hlt, hg]
        refine cK_dec (fun hi0 => ?_) (fun hi0 => ?_)
        · simp -implicitDefEqProofs [go_sem, h42, h11, h12, h13, hh, hf.t, hf.m, hlt, hg]
          refine (turned_c (⟨r.x + off, r.y, 1, r.h⟩ : Rct) 1 h'').mono ?_
          rintro e h4 ⟨rfl, h4e⟩
          rw [h4e]
          rw [show turnR (⟨r.x + off, r.y, 1, r.h⟩ : Rct) 1 = cutP true r off 1 from rfl]
          simp -implicitDefEqProofs [go_sem, h42, h11, h12, h13, hh, hf.t, hf.m, hlt, hg]
          refine aK_own (z := 4) (S := [63]) (rows := ls.map Rct.row) (by simpa -implicitDefEqProofs [go_sem, h12] using ho2) (by simp) elT_140 elZ_23 (by simp [roomy, byT_23]; omega) (Rct.rows_uni _) (by simp [uni, Rct.row_len]) ?_
          intro v2' x' ho2' hx'
          have ho1' : Own [94] x' 23 (s.t 11) (ps.map Rct.row) := ho1.congr (fun s hs => hx' s (by simp at hs ⊢; omega))
          have hps : ∃ p ps0, ps = p :: ps0 := by
            cases ps with
            | nil => simp at hlen; omega
            | cons p ps0 => exact ⟨p, ps0, rfl⟩
          have hcO : cutO off ps = off + 1 := by obtain ⟨p, ps0, rfl⟩ := hps; rfl
          have hcL : cutL true r off ps ls = ls ++ [cutP true r off 1] := by obtain ⟨p, ps0, rfl⟩ := hps; rfl
          have ho2c : Own [63] x' 23 v2' ((cutL true r off ps ls).map Rct.row) := by rw [hcL, List.map_append]; exact ho2'
          clear ho2' hx' ho1 ho2
          simp -implicitDefEqProofs [go_sem, h42, h11, h12, h13, hh, hf.t, hf.m, hlt, hg, hwo]
          refine cK_dec (fun hb1 => ?_) (fun hb1 => ?_) <;> simp -implicitDefEqProofs [go_sem, h42, h11, h12, h13, hh, hf.t, hf.m, hlt, hg, hwo]
          · exact ⟨h'', Sub.refl _, by rw [hbad (.inl hb1)], rfl⟩
          have hw1 : IntKind.i64.wrap (r.x + r.w) = r.x + r.w := wrap_in (by omega)
          have hw2 : IntKind.i64.wrap (r.x + r.w - (r.x + (off + 1))) = r.w - (off + 1) := by rw [wrap_in (by omega)]; omega
          have hw2' : IntKind.i64.wrap (r.w - (off + 1)) = r.w - (off + 1) := wrap_in (by omega)
          simp -implicitDefEqProofs [go_sem, hw1, hw2, hw2']
          refine cK_dec (fun hb2 => ?_) (fun hb2 => ?_) <;> simp -implicitDefEqProofs [go_sem, h42, h11, h12, h13, hh, hf.t, hf.m, hlt, hg, hw1, hw2, hw2', hwo]
          · exact ⟨h'', Sub.refl _, by rw [hbad (.inr (.inr (by rw [hcO]; simp only [cutW]; simp; omega)))], rfl⟩
          refine (turned_c (⟨r.x + (off + 1), r.y, l[i], r.h⟩ : Rct) 1 h'').mono ?_
          rintro e h5 ⟨rfl, h5e⟩
          rw [h5e]
          rw [show turnR (⟨r.x + (off + 1), r.y, l[i], r.h⟩ : Rct) 1 = cutP true r (off + 1) l[i] from rfl]
          simp -implicitDefEqProofs [go_sem, h42, h11, h12, h13, hh, hf.t, hf.m, hlt, hg, hw1, hw2, hw2', hwo]
          refine aK_own (z := 4) (S := [94]) (rows := ps.map Rct.row) (by simpa -implicitDefEqProofs [go_sem, h11] using ho1') (by simp) elT_140 elZ_23 (by simp [roomy, byT_23]; omega) (Rct.rows_uni _) (by simp [uni, Rct.row_len]) ?_
          intro v1' x'' ho1'' hx''
          have hw3 : IntKind.i64.wrap (r.x + (off + 1) + l[i]) = r.x + (off + 1 + l[i]) := by rw [wrap_in (by omega)]; omega
          simp -implicitDefEqProofs [go_sem, h42, h11, h12, h13, hh, hf.t, hf.m, hf, hlt, hg, hw, hw1, hw2, hw3, hwo]
          refine hJ _ ⟨i + 1, off + 1 + l[i], ps ++ [cutP true r (off + 1) l[i]], cutL true r off ps ls, by omega, by simp -implicitDefEqProofs [go_sem, hw], ?_, ?_, by simp -implicitDefEqProofs [go_sem, hw3], ?_, by simp -implicitDefEqProofs [go_sem]⟩ (by simp [go_sem, h42, hw]; omega)
          · rw [List.map_append]; simpa -implicitDefEqProofs [go_sem] using ho1''
          · have := ho2c.congr (x' := x'') (fun s hs => hx'' s (by simp at hs ⊢; omega))
            simpa -implicitDefEqProofs [go_sem, h12] using this
          · rw [hst, if_neg (by rw [cutBad, hcO]; simp only [cutW]; simp; omega), hcO]
        · have hi0' : i = 0 := by omega
          have hps : ps = [] := List.eq_nil_of_length_eq_zero (by omega)
          have hcO : cutO off ps = off := by rw [hps]; rfl
          have hcL : cutL true r off ps ls = ls := by rw [hps]; rfl
          have ho2c : Own [63] s.x 23 (s.t 12) ((cutL true r off ps ls).map Rct.row) := by rw [hcL]; exact ho2
          simp -implicitDefEqProofs [go_sem, h42, h11, h12, h13, hh, hf.t, hf.m, hlt, hg]
          refine cK_dec (fun hb1 => ?_) (fun hb1 => ?_) <;> simp -implicitDefEqProofs [go_sem, h42, h11, h12, h13, hh, hf.t, hf.m, hlt, hg]
          · exact ⟨h'', Sub.refl _, by rw [hbad (.inl hb1)], rfl⟩
          have hw1 : IntKind.i64.wrap (r.x + r.w) = r.x + r.w := wrap_in (by omega)
          have hw2 : IntKind.i64.wrap (r.x + r.w - (r.x + (off))) = r.w - (off) := by rw [wrap_in (by omega)]; omega
          have hw2' : IntKind.i64.wrap (r.w - (off)) = r.w - (off) := wrap_in (by omega)
          simp -implicitDefEqProofs [go_sem, hw1, hw2, hw2']
          refine cK_dec (fun hb2 => ?_) (fun hb2 => ?_) <;> simp -implicitDefEqProofs [go_sem, h42, h11, h12, h13, hh, hf.t, hf.m, hlt, hg, hw1, hw2, hw2']
          · exact ⟨h'', Sub.refl _, by rw [hbad (.inr (.inr (by rw [hcO]; simp only [cutW]; simp; omega)))], rfl⟩
          refine (turned_c (⟨r.x + (off), r.y, l[i], r.h⟩ : Rct) 1 h'').mono ?_
          rintro e h5 ⟨rfl, h5e⟩
          rw [h5e]
          rw [show turnR (⟨r.x + (off), r.y, l[i], r.h⟩ : Rct) 1 = cutP true r (off) l[i] from rfl]
          simp -implicitDefEqProofs [go_sem, h42, h11, h12, h13, hh, hf.t, hf.m, hlt, hg, hw1, hw2, hw2']
          refine aK_own (z := 4) (S := [94]) (rows := ps.map Rct.row) (by simpa -implicitDefEqProofs [go_sem, h11] using ho1) (by simp) elT_140 elZ_23 (by simp [roomy, byT_23]; omega) (Rct.rows_uni _) (by simp [uni, Rct.row_len]) ?_
          intro v1' x'' ho1'' hx''
          have hw3 : IntKind.i64.wrap (r.x + (off) + l[i]) = r.x + (off + l[i]) := by rw [wrap_in (by omega)]; omega
          simp -implicitDefEqProofs [go_sem, h42, h11, h12, h13, hh, hf.t, hf.m, hf, hlt, hg, hw, hw1, hw2, hw3]
          refine hJ _ ⟨i + 1, off + l[i], ps ++ [cutP true r (off) l[i]], cutL true r off ps ls, by omega, by simp -implicitDefEqProofs [go_sem, hw], ?_, ?_, by simp -implicitDefEqProofs [go_sem, hw3], ?_, by simp -implicitDefEqProofs [go_sem]⟩ (by simp [go_sem, h42, hw]; omega)
          · rw [List.map_append]; simpa -implicitDefEqProofs [go_sem] using ho1''
          · have := ho2c.congr (x' := x'') (fun s hs => hx'' s (by simp at hs ⊢; omega))
            simpa -implicitDefEqProofs [go_sem, h12] using this
          · rw [hst, if_neg (by rw [cutBad, hcO]; simp only [cutW]; simp; omega), hcO]
      · have hii : i = l.length := by omega
        rw [hii, List.take_length] at hF
        have hw1 : IntKind.i64.wrap (r.x + r.w) = r.x + r.w := wrap_in (by omega)
        simp -implicitDefEqProofs [go_sem, h42, h11, h12, h13, hh, hf.t, hf.m, hw1]
        refine cK_bne (fun hb => ?_) (fun hb => ?_) <;> simp -implicitDefEqProofs [go_sem, h42, h11, h12, h13, hh, hf.t, hf.m]
        · exact ⟨h'', Sub.refl _, by rw [hcs, hF]; simp only [cutW]; simp [show ¬ off = r.w from by omega]; rfl, rfl⟩
        · exact ⟨h'', Sub.refl _, by rw [hcs, hF]; simp only [cutW]; simp [show off = r.w from by omega]; rfl, rfl⟩
  · have hcs : cutS r 2 l = match cutF false r l with | some (off, ps, ls) => if off = cutW false r then some (ps, ls) else none | none => none := by
      rw [cutS, if_pos ⟨hm', by omega, by omega, hne⟩]; rfl
    have htr : turnR r 2 = (⟨r.y, r.x, r.h, r.w⟩ : Rct) := rfl
    simp -implicitDefEqProofs [go_sem, htr]
    refine iwp_loopF (rng [6,7,8,11,12,13,14,15,16,17,18,19] 42 98) (fun k => k == 16 || k == 18) (fun s => ∃ i off ps ls, i ≤ l.length ∧ s.t 42 = .int .i64 i ∧ Own [94] s.x 23 (s.t 11) (ps.map Rct.row) ∧ Own [63] s.x 23 (s.t 12) (ls.map Rct.row) ∧ s.t 13 = .int .i64 (r.y + off) ∧ cutF false r (l.take i) = some (off, ps, ls) ∧ s.h = h'')
       (fun s => l.length - tn (s.t 42)) ?_ ?_
    · exact ⟨0, 0, [], [], by simp, by simp -implicitDefEqProofs [go_sem], by simp -implicitDefEqProofs [go_sem, Own.tight], by simp -implicitDefEqProofs [go_sem, Own.tight], by simp -implicitDefEqProofs [go_sem], rfl, by simp -implicitDefEqProofs [go_sem]⟩
    · rintro J s hJ hf ⟨i, off, ps, ls, hi, h42, ho1, ho2, h13, hF, hh⟩
      obtain ⟨tk1, h11⟩ := ho1.list
      obtain ⟨tk2, h12⟩ := ho2.list
      have hlen := cutF_len _ _ _ _ _ _ hF
      rw [List.length_take, Nat.min_eq_left hi] at hlen
      have hoff : 0 ≤ off ∧ off ≤ 10000 := by
        refine ⟨hlen.2.2.1, ?_⟩
        by_cases hz : l.take i = []
        · rw [hz] at hF; cases hF; omega
        · have := hlen.2.2.2 hz; simp only [cutW] at this; simp at this; omega
      have hwo : IntKind.i64.wrap (r.y + off + 1) = r.y + (off + 1) := by rw [wrap_in (by omega)]; omega
      simp -implicitDefEqProofs [go_sem, h42, h11, h12, h13, hh, hf.t, hf.m]
      refine cK_dec (fun hlt => ?_) (fun hge => ?_)
      · have hg : l[i]? = some l[i] := List.getElem?_eq_getElem hlt
        have hw := wrap_succ (i := i) (by omega)
        have hst := cutF_succ false r l i hlt
        rw [hF, cutStep] at hst
        have hbad : cutBad false r off l[i] ps → cutV (cutS r 2 l) = .tup [.list .plain [], .list .plain [], .bool false] := fun hb => by
          rw [if_pos hb] at hst
          rw [hcs, cutF_stop _ _ _ _ hst]; rfl
        simp -implicitDefEqProofs [go_sem, h42, h11, h12, h13, hh, hf.t, hf.m, hlt, hg]
        refine cK_dec (fun hi0 => ?_) (fun hi0 => ?_)
        · simp -implicitDefEqProofs [go_sem, h42, h11, h12, h13, hh, hf.t, hf.m, hlt, hg]
          refine (turned_c (⟨r.y + off, r.x, 1, r.w⟩ : Rct) 2 h'').mono ?_
          rintro e h4 ⟨rfl, h4e⟩
          rw [h4e]
          rw [show turnR (⟨r.y + off, r.x, 1, r.w⟩ : Rct) 2 = cutP false r off 1 from rfl]
          simp -implicitDefEqProofs [go_sem, h42, h11, h12, h13, hh, hf.t, hf.m, hlt, hg]
          refine aK_own (z := 4) (S := [63]) (rows := ls.map Rct.row) (by simpa -implicitDefEqProofs [go_sem, h12] using ho2) (by simp) elT_140 elZ_23 (by simp [roomy, byT_23]; omega) (Rct.rows_uni _) (by simp [uni, Rct.row_len]) ?_
          intro v2' x' ho2' hx'
          have ho1' : Own [94] x' 23 (s.t 11) (ps.map Rct.row) := ho1.congr (fun s hs => hx' s (by simp at hs ⊢; omega))
          have hps : ∃ p ps0, ps = p :: ps0 := by
            cases ps with
            | nil => simp at hlen; omega
            | cons p ps0 => exact ⟨p, ps0, rfl⟩
          have hcO : cutO off ps = off + 1 := by obtain ⟨p, ps0, rfl⟩ := hps; rfl
          have hcL : cutL false r off ps ls = ls ++ [cutP false r off 1] := by obtain ⟨p, ps0, rfl⟩ := hps; rfl
          have ho2c : Own [63] x' 23 v2' ((cutL false r off ps ls).map Rct.row) := by rw [hcL, List.map_append]; exact ho2'
          clear ho2' hx' ho1 ho2
          simp -implicitDefEqProofs [go_sem, h42, h11, h12, h13, hh, hf.t, hf.m, hlt, hg, hwo]
          refine cK_dec (fun hb1 => ?_) (fun hb1 => ?_) <;> simp -implicitDefEqProofs [go_sem, h42, h11, h12, h13, hh, hf.t, hf.m, hlt, hg, hwo]
          · exact ⟨h'', Sub.refl _, by rw [hbad (.inl hb1)], rfl⟩
          have hw1 : IntKind.i64.wrap (r.y + r.h) = r.y + r.h := wrap_in (by omega)
          have hw2 : IntKind.i64.wrap (r.y + r.h - (r.y + (off + 1))) = r.h - (off + 1) := by rw [wrap_in (by omega)]; omega
          have hw2' : IntKind.i64.wrap (r.h - (off + 1)) = r.h - (off + 1) := wrap_in (by omega)
          simp -implicitDefEqProofs [go_sem, hw1, hw2, hw2']
          refine cK_dec (fun hb2 => ?_) (fun hb2 => ?_) <;> simp -implicitDefEqProofs [go_sem, h42, h11, h12, h13, hh, hf.t, hf.m, hlt, hg, hw1, hw2, hw2', hwo]
          · exact ⟨h'', Sub.refl _, by rw [hbad (.inr (.inr (by rw [hcO]; simp only [cutW]; simp; omega)))], rfl⟩
          refine (turned_c (⟨r.y + (off + 1), r.x, l[i], r.w⟩ : Rct) 2 h'').mono ?_
          rintro e h5 ⟨rfl, h5e⟩
          rw [h5e]
          rw [show turnR (⟨r.y + (off + 1), r.x, l[i], r.w⟩ : Rct) 2 = cutP false r (off + 1) l[i] from rfl]
          simp -implicitDefEqProofs [go_sem, h42, h11, h12, h13, hh, hf.t, hf.m, hlt, hg, hw1, hw2, hw2', hwo]
          refine aK_own (z := 4) (S := [94]) (rows := ps.map Rct.row) (by simpa -implicitDefEqProofs [go_sem, h11] using ho1') (by simp) elT_140 elZ_23 (by simp [roomy, byT_23]; omega) (Rct.rows_uni _) (by simp [uni, Rct.row_len]) ?_
          intro v1' x'' ho1'' hx''
          have hw3 : IntKind.i64.wrap (r.y + (off + 1) + l[i]) = r.y + (off + 1 + l[i]) := by rw [wrap_in (by omega)]; omega
          simp -implicitDefEqProofs [go_sem, h42, h11, h12, h13, hh, hf.t, hf.m, hf, hlt, hg, hw, hw1, hw2, hw3, hwo]
          refine hJ _ ⟨i + 1, off + 1 + l[i], ps ++ [cutP false r (off + 1) l[i]], cutL false r off ps ls, by omega, by simp -implicitDefEqProofs [go_sem, hw], ?_, ?_, by simp -implicitDefEqProofs [go_sem, hw3], ?_, by simp -implicitDefEqProofs [go_sem]⟩ (by simp [go_sem, h42, hw]; omega)
          · rw [List.map_append]; simpa -implicitDefEqProofs [go_sem] using ho1''
          · have := ho2c.congr (x' := x'') (fun s hs => hx'' s (by simp at hs ⊢; omega))
            simpa -implicitDefEqProofs [go_sem, h12] using this
          · rw [hst, if_neg (by rw [cutBad, hcO]; simp only [cutW]; simp; omega), hcO]
        · have hi0' : i = 0 := by omega
          have hps : ps = [] := List.eq_nil_of_length_eq_zero (by omega)
          have hcO : cutO off ps = off := by rw [hps]; rfl
          have hcL : cutL false r off ps ls = ls := by rw [hps]; rfl
          have ho2c : Own [63] s.x 23 (s.t 12) ((cutL false r off ps ls).map Rct.row) := by rw [hcL]; exact ho2
          simp -implicitDefEqProofs [go_sem, h42, h11, h12, h13, hh, hf.t, hf.m, hlt, hg]
          refine cK_dec (fun hb1 => ?_) (fun hb1 => ?_) <;> simp -implicitDefEqProofs [go_sem, h42, h11, h12, h13, hh, hf.t, hf.m, hlt, hg]
          · exact ⟨h'', Sub.refl _, by rw [hbad (.inl hb1)], rfl⟩
          have hw1 : IntKind.i64.wrap (r.y + r.h) = r.y + r.h := wrap_in (by omega)
          have hw2 : IntKind.i64.wrap (r.y + r.h - (r.y + (off))) = r.h - (off) := by rw [wrap_in (by omega)]; omega
          have hw2' : IntKind.i64.wrap (r.h - (off)) = r.h - (off) := wrap_in (by omega)
          simp -implicitDefEqProofs [go_sem, hw1, hw2, hw2']
          refine cK_dec (fun hb2 => ?_) (fun hb2 => ?_) <;> simp -implicitDefEqProofs [go_sem, h42, h11, h12, h13, hh, hf.t, hf.m, hlt, hg, hw1, hw2, hw2']
          · exact ⟨h'', Sub.refl _, by rw [hbad (.inr (.inr (by rw [hcO]; simp only [cutW]; simp; omega)))], rfl⟩
          refine (turned_c (⟨r.y + (off), r.x, l[i], r.w⟩ : Rct) 2 h'').mono ?_
          rintro e h5 ⟨rfl, h5e⟩
          rw [h5e]
          rw [show turnR (⟨r.y + (off), r.x, l[i], r.w⟩ : Rct) 2 = cutP false r (off) l[i] from rfl]
          simp -implicitDefEqProofs [go_sem, h42, h11, h12, h13, hh, hf.t, hf.m, hlt, hg, hw1, hw2, hw2']
          refine aK_own (z := 4) (S := [94]) (rows := ps.map Rct.row) (by simpa -implicitDefEqProofs [go_sem, h11] using ho1) (by simp) elT_140 elZ_23 (by simp [roomy, byT_23]; omega) (Rct.rows_uni _) (by simp [uni, Rct.row_len]) ?_
          intro v1' x'' ho1'' hx''
          have hw3 : IntKind.i64.wrap (r.y + (off) + l[i]) = r.y + (off + l[i]) := by rw [wrap_in (by omega)]; omega
          simp -implicitDefEqProofs [go_sem, h42, h11, h12, h13, hh, hf.t, hf.m, hf, hlt, hg, hw, hw1, hw2, hw3]
          refine hJ _ ⟨i + 1, off + l[i], ps ++ [cutP false r (off) l[i]], cutL false r off ps ls, by omega, by simp -implicitDefEqProofs [go_sem, hw], ?_, ?_, by simp -implicitDefEqProofs [go_sem, hw3], ?_, by simp -implicitDefEqProofs [go_sem]⟩ (by simp [go_sem, h42, hw]; omega)
          · rw [List.map_append]; simpa -implicitDefEqProofs [go_sem] using ho1''
          · have := ho2c.congr (x' := x'') (fun s hs => hx'' s (by simp at hs ⊢; omega))
            simpa -implicitDefEqProofs [go_sem, h12] using this
          · rw [hst, if_neg (by rw [cutBad, hcO]; simp only [cutW]; simp; omega), hcO]
      · have hii : i = l.length := by omega
        rw [hii, List.take_length] at hF
        have hw1 : IntKind.i64.wrap (r.y + r.h) = r.y + r.h := wrap_in (by omega)
        simp -implicitDefEqProofs [go_sem, h42, h11, h12, h13, hh, hf.t, hf.m, hw1]
        refine cK_bne (fun hb => ?_) (fun hb => ?_) <;> simp -implicitDefEqProofs [go_sem, h42, h11, h12, h13, hh, hf.t, hf.m]
        · exact ⟨h'', Sub.refl _, by rw [hcs, hF]; simp only [cutW]; simp [show ¬ off = r.h from by omega]; rfl, rfl⟩
        · exact ⟨h'', Sub.refl _, by rw [hcs, hF]; simp only [cutW]; simp [show off = r.h from by omega]; rfl, rfl⟩
end Go.Proofs
