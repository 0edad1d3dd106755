/- This text is a part of the proofs of the statements of this seat: the ideal states and their rules, or what one of the functions that the statements reach comes to. Conditions: none beyond those that each theorem names. -/
import Derived.Test.YtiloboepepdcgaaM2
import Derived.Test.YtiloboepepdcgaaM3
set_option linter.unusedVariables false
set_option linter.unusedSimpArgs false
set_option pp.deepTerms false
set_option pp.maxSteps 400
namespace Go.Proofs
open Go.Idl

/-- an event -/
structure Ev where
  kind : Int
  w : Int
  h : Int
  text : ByteArray
instance : DecidableEq Ev := fun a b => decidable_of_iff (a.kind = b.kind ∧ a.w = b.w ∧ a.h = b.h ∧ a.text = b.text) (by cases a; cases b; simp)
def Ev.row (e : Ev) : List IV := [.int .u8 e.kind, .int .i64 e.w, .int .i64 e.h, .str e.text]
theorem evs_uni (l : List Ev) : uni 4 (l.map Ev.row) = true := by simp [uni, Ev.row]
attribute [go_sem high] evs_uni

/-- what a record holds -/
def RecIs (h : Heap) (rb eb cap : Nat) (l : List Ev) : Prop :=
  (l = [] ∧ h rb = some (.cells [.list .tight []])) ∨
  (l ≠ [] ∧ h rb = some (.cells [.sl 4 eb 0 l.length cap]) ∧ h eb = some (.arr 38 4 (l.map Ev.row) cap) ∧ l.length ≤ cap)
def recR (rb eb : Nat) (l : List Ev) (ev : Ev) (h : Heap) (e : IEnd) (h' : Heap) : Prop :=
  e = .ret (.tup []) ∧ ∃ eb' cap', ((eb' = eb ∧ l ≠ []) ∨ h eb' = none) ∧ eb' ≠ rb ∧ RecIs h' rb eb' cap' (l ++ [ev]) ∧ ∀ j, j ≠ rb → j ≠ eb' → h' j = h j
theorem RecIs.some {h rb eb cap l} (hr : RecIs h rb eb cap l) : ∃ v, h rb = some (.cells [v]) := by
  rcases hr with ⟨_, h1⟩ | ⟨_, h1, _⟩ <;> exact ⟨_, h1⟩

theorem put_nil_c (e : Ev) (h : Heap) : ICall Try.prog 61 [.nilptr, .agg e.row] h (retP (.tup []) h) := by
  refine icall_of_iwp (fun _ => 0) Try.func61 rfl (by kernel_rfl) (Nat.le_of_ble_eq_true rfl) ?_
  rw [Try.results61]
  simp -implicitDefEqProofs [go_sem, Ev.row]
  exact ⟨_, Sub.refl _, rfl, rfl⟩

theorem put_c (rb eb cap : Nat) (l : List Ev) (e : Ev) (h : Heap) (hr : RecIs h rb eb cap l) (hne : eb ≠ rb) (hl : l.length < 1000000000) :
    ICall Try.prog 61 [.ptr rb 0, .agg e.row] h (recR rb eb l e h) := by
  refine icall_of_iwp (fun d => if d = 13 then 2 else 0) Try.func61 rfl (by kernel_rfl) (Nat.le_of_ble_eq_true rfl) ?_
  rw [Try.results61]
  have hroom : roomy Try.prog 38 (l.length + 1) := by simp only [roomy, byT_38]; omega
  rcases hr with ⟨rfl, h1⟩ | ⟨h0, h1, h2, h3⟩
  · have hroom' : roomy Try.prog 38 1 := by simpa using hroom
    simp -implicitDefEqProofs [go_sem, Ev.row, h1]
    refine iwp_drawn_of mixed [0,1,2,3,4,5,6,7,8,9,10] (by kernel_rfl) ?_
    simp -implicitDefEqProofs [go_sem, Ev.row, h1, hroom']
    intro b' cap' hb' hc'
    have hbr : b' ≠ rb := by rintro rfl; rw [h1] at hb'; cases hb'
    have hbr' : rb ≠ b' := Ne.symm hbr
    simp -implicitDefEqProofs [go_sem, Ev.row, h1, hroom', hbr, hbr']
    refine ⟨_, Sub.refl _, rfl, b', cap', .inr hb', hbr, .inr ⟨by simp, ?_, ?_, hc'⟩, ?_⟩
    · simp -implicitDefEqProofs [go_sem, hbr, hbr']
    · simp -implicitDefEqProofs [go_sem, hbr, hbr', Ev.row]
    · intro j hj1 hj2
      simp -implicitDefEqProofs [go_sem, hj1, hj2]
  · simp -implicitDefEqProofs [go_sem, Ev.row, h1, h2]
    refine iwp_drawn_of mixed [0,1,2,3,4,5,6,7,8,9,10] (by kernel_rfl) ?_
    have hne' : rb ≠ eb := Ne.symm hne
    simp -implicitDefEqProofs [go_sem, Ev.row, h1, h2, hroom, hne, hne']
    refine ⟨fun hfit => ?_, fun hbig b' cap' hb' hc' => ?_⟩
    · refine ⟨_, Sub.refl _, rfl, eb, cap, .inl ⟨rfl, h0⟩, hne, .inr ⟨by simp, ?_, ?_, by simpa using hfit⟩, ?_⟩
      · simp -implicitDefEqProofs [go_sem, hne, hne']
      · simp -implicitDefEqProofs [go_sem, hne, hne', Ev.row]
      · intro j hj1 hj2
        simp -implicitDefEqProofs [go_sem, hj1, hj2]
    · have hbr : b' ≠ rb := by rintro rfl; rw [h1] at hb'; cases hb'
      have hbr' : rb ≠ b' := Ne.symm hbr
      simp -implicitDefEqProofs [go_sem, hbr, hbr']
      refine ⟨_, Sub.refl _, rfl, b', cap', .inr hb', hbr, .inr ⟨by simp, ?_, ?_, by simpa using hc'⟩, ?_⟩
      · simp -implicitDefEqProofs [go_sem, hbr, hbr']
      · simp -implicitDefEqProofs [go_sem, hbr, hbr', Ev.row]
      · intro j hj1 hj2
        simp -implicitDefEqProofs [go_sem, hj1, hj2]
end Go.Proofs
