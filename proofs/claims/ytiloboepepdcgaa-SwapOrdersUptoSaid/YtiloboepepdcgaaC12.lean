/- This text is a part of the proofs of the statements of this seat: the ideal states and their rules, or what one of the functions that the statements reach comes to. Conditions: none beyond those that each theorem names. -/
import Derived.Test.YtiloboepepdcgaaC11
set_option linter.unusedVariables false
set_option linter.unusedSimpArgs false
set_option pp.deepTerms false
set_option pp.maxSteps 400
namespace Go.Proofs
open Go.Idl

def idxR (Inv Hit : Nat → Heap → Prop) (n : Nat) (e : IEnd) (h' : Heap) : Prop := (e = .ret (.int .i64 (-1)) ∧ Inv n h') ∨ ∃ i : Nat, i < n ∧ e = .ret (.int .i64 i) ∧ Hit i h'
def conR (Inv Hit : Nat → Heap → Prop) (n : Nat) (e : IEnd) (h' : Heap) : Prop := (e = .ret (.bool false) ∧ Inv n h') ∨ ∃ i : Nat, i < n ∧ e = .ret (.bool true) ∧ Hit i h'
set_option maxRecDepth 20000 in
set_option maxHeartbeats 4000000 in
theorem rmay_c (r : Rct) (h : Heap) : ICall Try.prog 94 [.agg r.row] h (retP (.bool r.may) h) := by
  refine icall_of_iwp (fun _ => 0) Try.func94 rfl (by kernel_rfl) (Nat.le_of_ble_eq_true rfl) ?_
  rw [Try.results94]
  simp -implicitDefEqProofs [go_sem]
  refine cK_dec (fun h0 => ?_) (fun h0 => ?_) <;> simp -implicitDefEqProofs [go_sem]
  rotate_left
  · exact ⟨h, Sub.refl _, by simp [retP, Rct.may]; omega⟩
  refine cK_dec (fun h1 => ?_) (fun h1 => ?_) <;> simp -implicitDefEqProofs [go_sem]
  rotate_left
  · exact ⟨h, Sub.refl _, by simp [retP, Rct.may]; omega⟩
  refine cK_dec (fun h2 => ?_) (fun h2 => ?_) <;> simp -implicitDefEqProofs [go_sem]
  rotate_left
  · exact ⟨h, Sub.refl _, by simp [retP, Rct.may]; omega⟩
  rw [wrap_in (by omega)]
  refine cK_dec (fun h3 => ?_) (fun h3 => ?_) <;> simp -implicitDefEqProofs [go_sem]
  rotate_left
  · exact ⟨h, Sub.refl _, by simp [retP, Rct.may]; omega⟩
  refine cK_dec (fun h4 => ?_) (fun h4 => ?_) <;> simp -implicitDefEqProofs [go_sem]
  rotate_left
  · exact ⟨h, Sub.refl _, by simp [retP, Rct.may]; omega⟩
  refine cK_dec (fun h5 => ?_) (fun h5 => ?_) <;> simp -implicitDefEqProofs [go_sem]
  rotate_left
  · exact ⟨h, Sub.refl _, by simp [retP, Rct.may]; omega⟩
  refine cK_dec (fun h6 => ?_) (fun h6 => ?_) <;> simp -implicitDefEqProofs [go_sem]
  rotate_left
  · exact ⟨h, Sub.refl _, by simp [retP, Rct.may]; omega⟩
  rw [wrap_in (by omega)]
  refine ⟨h, Sub.refl _, ?_, rfl⟩
  rw [Rct.may]
  congr 2
  rw [decide_eq_decide]
  omega

theorem rmay1_c (r : Rct) (h : Heap) : ICall Try.prog 93 [.agg r.row] h (retP (.bool (!r.may)) h) := by
  refine icall_of_iwp (fun _ => 0) Try.func93 rfl (by kernel_rfl) (Nat.le_of_ble_eq_true rfl) ?_
  rw [Try.results93]
  simp -implicitDefEqProofs [go_sem]
  refine (rmay_c r h).mono ?_
  rintro e h' ⟨rfl, rfl⟩
  simp -implicitDefEqProofs [go_sem]
  exact ⟨h', Sub.refl _, rfl, rfl⟩

theorem indexFunc_rct {l : List Rct} {f : FuncId} {first cap : List IV} {Inv Hit : Nat → Heap → Prop} (hl : l.length < 100000000000)
    (hstep : ∀ i (hi : i < l.length) h, Inv i h → ICall Try.prog f (first ++ [.agg l[i].row] ++ cap) h fun e h' => (e = .ret (.bool false) ∧ Inv (i + 1) h') ∨ (e = .ret (.bool true) ∧ Hit i h')) (h : Heap) (h0 : Inv 0 h) :
    ICall Try.prog 123 [.list .plain (l.map Rct.row), .fn (.func f) first cap] h (idxR Inv Hit l.length) := by
  refine icall_of_iwp (fun _ => 0) Try.func123 rfl (by kernel_rfl) (Nat.le_of_ble_eq_true rfl) ?_
  rw [Try.results123]
  simp -implicitDefEqProofs [go_sem]
  refine iwp_loopF (rng [4,5] 8 18) nom (fun s => ∃ i, i ≤ l.length ∧ s.t 8 = .int .i64 i ∧ Inv i s.h) (fun s => l.length - tn (s.t 8)) ?_ ?_
  · exact ⟨0, Nat.zero_le _, by simp -implicitDefEqProofs [go_sem], by simpa -implicitDefEqProofs [go_sem] using h0⟩
  rintro J s hJ hf ⟨i, hi, h8, hinv⟩
  simp -implicitDefEqProofs [go_sem, h8, hf.t, hf.m]
  refine cK_dec (fun hlt => ?_) (fun hge => ?_)
  · have hg : l[i]? = some l[i] := List.getElem?_eq_getElem hlt
    have hw := wrap_succ (i := i) (by omega)
    simp -implicitDefEqProofs [go_sem, h8, hf.t, hf.m, hlt, hg]
    have hs := hstep i hlt _ hinv
    simp only [List.append_assoc, List.singleton_append, List.cons_append, List.nil_append] at hs
    refine hs.mono ?_
    rintro e h' (⟨rfl, hi'⟩ | ⟨rfl, hi'⟩)
    · simp -implicitDefEqProofs [go_sem, h8, hf.t, hf.m, hf, hlt, hg, hw]
      exact hJ _ ⟨i + 1, by omega, by simp -implicitDefEqProofs [go_sem, hw], by simpa -implicitDefEqProofs [go_sem] using hi'⟩ (by simp [go_sem, h8, hw]; omega)
    · simp -implicitDefEqProofs [go_sem, h8, hf.t, hf.m, hf, hlt, hg, hw]
      exact ⟨h', Sub.refl _, .inr ⟨i, hlt, rfl, hi'⟩⟩
  · simp -implicitDefEqProofs [go_sem, h8, hf.t, hf.m]
    obtain rfl : i = l.length := by omega
    exact ⟨s.h, Sub.refl _, .inl ⟨rfl, hinv⟩⟩

theorem containsFunc_rct {l : List Rct} {f : FuncId} {first cap : List IV} {Inv Hit : Nat → Heap → Prop} (hl : l.length < 100000000000)
    (hstep : ∀ i (hi : i < l.length) h, Inv i h → ICall Try.prog f (first ++ [.agg l[i].row] ++ cap) h fun e h' => (e = .ret (.bool false) ∧ Inv (i + 1) h') ∨ (e = .ret (.bool true) ∧ Hit i h')) (h : Heap) (h0 : Inv 0 h) :
    ICall Try.prog 92 [.list .plain (l.map Rct.row), .fn (.func f) first cap] h (conR Inv Hit l.length) := by
  refine icall_of_iwp (fun _ => 0) Try.func92 rfl (by kernel_rfl) (Nat.le_of_ble_eq_true rfl) ?_
  rw [Try.results92]
  simp -implicitDefEqProofs [go_sem]
  refine (indexFunc_rct hl hstep h h0).mono ?_
  rintro e h' (⟨rfl, hi'⟩ | ⟨i, hi, rfl, hi'⟩)
  · simp -implicitDefEqProofs [go_sem]
    exact ⟨h', Sub.refl _, .inl ⟨rfl, hi'⟩⟩
  · simp -implicitDefEqProofs [go_sem]
    exact ⟨h', Sub.refl _, .inr ⟨i, hi, rfl, hi'⟩⟩

theorem indexFunc_cel {l : List Cel} {f : FuncId} {first cap : List IV} {Inv Hit : Nat → Heap → Prop} (hl : l.length < 100000000000)
    (hstep : ∀ i (hi : i < l.length) h, Inv i h → ICall Try.prog f (first ++ [.agg l[i].row] ++ cap) h fun e h' => (e = .ret (.bool false) ∧ Inv (i + 1) h') ∨ (e = .ret (.bool true) ∧ Hit i h')) (h : Heap) (h0 : Inv 0 h) :
    ICall Try.prog 134 [.list .plain (l.map Cel.row), .fn (.func f) first cap] h (idxR Inv Hit l.length) := by
  refine icall_of_iwp (fun _ => 0) Try.func134 rfl (by kernel_rfl) (Nat.le_of_ble_eq_true rfl) ?_
  rw [Try.results134]
  simp -implicitDefEqProofs [go_sem]
  refine iwp_loopF (rng [4,5] 8 18) nom (fun s => ∃ i, i ≤ l.length ∧ s.t 8 = .int .i64 i ∧ Inv i s.h) (fun s => l.length - tn (s.t 8)) ?_ ?_
  · exact ⟨0, Nat.zero_le _, by simp -implicitDefEqProofs [go_sem], by simpa -implicitDefEqProofs [go_sem] using h0⟩
  rintro J s hJ hf ⟨i, hi, h8, hinv⟩
  simp -implicitDefEqProofs [go_sem, h8, hf.t, hf.m]
  refine cK_dec (fun hlt => ?_) (fun hge => ?_)
  · have hg : l[i]? = some l[i] := List.getElem?_eq_getElem hlt
    have hw := wrap_succ (i := i) (by omega)
    simp -implicitDefEqProofs [go_sem, h8, hf.t, hf.m, hlt, hg]
    have hs := hstep i hlt _ hinv
    simp only [List.append_assoc, List.singleton_append, List.cons_append, List.nil_append] at hs
    refine hs.mono ?_
    rintro e h' (⟨rfl, hi'⟩ | ⟨rfl, hi'⟩)
    · simp -implicitDefEqProofs [go_sem, h8, hf.t, hf.m, hf, hlt, hg, hw]
      exact hJ _ ⟨i + 1, by omega, by simp -implicitDefEqProofs [go_sem, hw], by simpa -implicitDefEqProofs [go_sem] using hi'⟩ (by simp [go_sem, h8, hw]; omega)
    · simp -implicitDefEqProofs [go_sem, h8, hf.t, hf.m, hf, hlt, hg, hw]
      exact ⟨h', Sub.refl _, .inr ⟨i, hlt, rfl, hi'⟩⟩
  · simp -implicitDefEqProofs [go_sem, h8, hf.t, hf.m]
    obtain rfl : i = l.length := by omega
    exact ⟨s.h, Sub.refl _, .inl ⟨rfl, hinv⟩⟩

theorem containsFunc_cel {l : List Cel} {f : FuncId} {first cap : List IV} {Inv Hit : Nat → Heap → Prop} (hl : l.length < 100000000000)
    (hstep : ∀ i (hi : i < l.length) h, Inv i h → ICall Try.prog f (first ++ [.agg l[i].row] ++ cap) h fun e h' => (e = .ret (.bool false) ∧ Inv (i + 1) h') ∨ (e = .ret (.bool true) ∧ Hit i h')) (h : Heap) (h0 : Inv 0 h) :
    ICall Try.prog 108 [.list .plain (l.map Cel.row), .fn (.func f) first cap] h (conR Inv Hit l.length) := by
  refine icall_of_iwp (fun _ => 0) Try.func108 rfl (by kernel_rfl) (Nat.le_of_ble_eq_true rfl) ?_
  rw [Try.results108]
  simp -implicitDefEqProofs [go_sem]
  refine (indexFunc_cel hl hstep h h0).mono ?_
  rintro e h' (⟨rfl, hi'⟩ | ⟨i, hi, rfl, hi'⟩)
  · simp -implicitDefEqProofs [go_sem]
    exact ⟨h', Sub.refl _, .inl ⟨rfl, hi'⟩⟩
  · simp -implicitDefEqProofs [go_sem]
    exact ⟨h', Sub.refl _, .inr ⟨i, hi, rfl, hi'⟩⟩

theorem rMay_c (l : List Rct) (hl : l.length < 100000000000) (h : Heap) : ICall Try.prog 70 [.list .plain (l.map Rct.row)] h (retP (.bool (l.all Rct.may)) h) := by
  refine icall_of_iwp (fun _ => 0) Try.func70 rfl (by kernel_rfl) (Nat.le_of_ble_eq_true rfl) ?_
  rw [Try.results70]
  simp -implicitDefEqProofs [go_sem]
  refine (containsFunc_rct (Inv := fun i h' => h' = h ∧ ∀ r ∈ l.take i, r.may = true) (Hit := fun i h' => h' = h ∧ ∃ hi : i < l.length, l[i].may = false) hl ?_ h ⟨rfl, by simp⟩).mono ?_
  · rintro i hi h1 ⟨rfl, hall⟩
    refine (rmay1_c l[i] h1).mono ?_
    rintro e h' ⟨rfl, rfl⟩
    cases hb : l[i].may with
    | false => exact .inr ⟨rfl, rfl, hi, hb⟩
    | true =>
      refine .inl ⟨rfl, rfl, fun r hr => ?_⟩
      rw [List.take_add_one, List.getElem?_eq_getElem hi] at hr
      rcases List.mem_append.1 hr with h1 | h1
      · exact hall r h1
      · simp at h1; subst h1; exact hb
  · rintro e h' (⟨rfl, rfl, hall⟩ | ⟨i, hi, rfl, rfl, _, hb⟩)
    · simp -implicitDefEqProofs [go_sem]
      refine ⟨h', Sub.refl _, ?_, rfl⟩
      have : l.all Rct.may = true := by rw [List.all_eq_true]; rw [List.take_length] at hall; exact hall
      rw [this]
    · simp -implicitDefEqProofs [go_sem]
      refine ⟨h', Sub.refl _, ?_, rfl⟩
      have : l.all Rct.may = false := by rw [List.all_eq_false]; exact ⟨_, List.getElem_mem hi, by simp [hb]⟩
      rw [this]
end Go.Proofs
