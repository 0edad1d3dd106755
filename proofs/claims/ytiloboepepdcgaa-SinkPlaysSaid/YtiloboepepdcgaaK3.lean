/- This text is a part of the proofs of the statements of this seat: the ideal states and their rules, or what one of the functions that the statements reach comes to. Conditions: none beyond those that each theorem names. -/
import Derived.Test.YtiloboepepdcgaaK2
set_option linter.unusedVariables false
set_option linter.unusedSimpArgs false
set_option pp.deepTerms false
set_option pp.maxSteps 400
namespace Go.Proofs
open Go.Idl

def byteRow (b : UInt8) : List IV := [.int .u8 b.toNat]
theorem bytesOf_rows (l : List UInt8) : bytesOf (l.map byteRow) = some l := by
  induction l with
  | nil => rfl
  | cons b bs ih => simp [byteRow, bytesOf, ih] at *

@[go_sem] theorem meth_Size : methT Try.prog 28 "Size" = some 32 := by kernel_rfl
@[go_sem] theorem meth_Input : methT Try.prog 28 "Input" = some 33 := by kernel_rfl
@[go_sem] theorem meth_Close : methT Try.prog 28 "Close" = some 34 := by kernel_rfl

theorem size_c (rb eb cap : Nat) (l : List Ev) (w hh : Int) (h : Heap) (hr : RecIs h rb eb cap l) (hne : eb ≠ rb) (hl : l.length < 1000000000) :
    ICall Try.prog 32 [.ptr rb 0, .int .i64 w, .int .i64 hh] h (recR rb eb l ⟨1, w, hh, ⟨#[]⟩⟩ h) := by
  refine icall_of_iwp (fun _ => 0) Try.func32 rfl (by kernel_rfl) (Nat.le_of_ble_eq_true rfl) ?_
  rw [Try.results32]
  simp -implicitDefEqProofs [go_sem]
  refine (put_c rb eb cap l ⟨1, w, hh, ⟨#[]⟩⟩ h hr hne hl).mono ?_
  rintro e h' ⟨rfl, he⟩
  simp -implicitDefEqProofs [go_sem]
  exact ⟨_, Sub.refl _, rfl, he⟩
theorem input_c (rb eb cap : Nat) (l : List Ev) (tk : Tok) (bs : List UInt8) (h : Heap) (hr : RecIs h rb eb cap l) (hne : eb ≠ rb) (hl : l.length < 1000000000) :
    ICall Try.prog 33 [.ptr rb 0, .list .plain (bs.map byteRow)] h (recR rb eb l ⟨2, 0, 0, ⟨bs.toArray⟩⟩ h) := by
  refine icall_of_iwp (fun _ => 0) Try.func33 rfl (by kernel_rfl) (Nat.le_of_ble_eq_true rfl) ?_
  rw [Try.results33]
  simp -implicitDefEqProofs [go_sem, bytesOf_rows]
  refine (put_c rb eb cap l ⟨2, 0, 0, ⟨bs.toArray⟩⟩ h hr hne hl).mono ?_
  rintro e h' ⟨rfl, he⟩
  simp -implicitDefEqProofs [go_sem]
  exact ⟨_, Sub.refl _, rfl, he⟩
theorem close_c (rb eb cap : Nat) (l : List Ev) (h : Heap) (hr : RecIs h rb eb cap l) (hne : eb ≠ rb) (hl : l.length < 1000000000) :
    ICall Try.prog 34 [.ptr rb 0] h (recR rb eb l ⟨3, 0, 0, ⟨#[]⟩⟩ h) := by
  refine icall_of_iwp (fun _ => 0) Try.func34 rfl (by kernel_rfl) (Nat.le_of_ble_eq_true rfl) ?_
  rw [Try.results34]
  simp -implicitDefEqProofs [go_sem]
  refine (put_c rb eb cap l ⟨3, 0, 0, ⟨#[]⟩⟩ h hr hne hl).mono ?_
  rintro e h' ⟨rfl, he⟩
  simp -implicitDefEqProofs [go_sem]
  exact ⟨_, Sub.refl _, rfl, he⟩
/-! at a nil record -/
theorem size_nil_c (w hh : Int) (h : Heap) : ICall Try.prog 32 [.nilptr, .int .i64 w, .int .i64 hh] h (retP (.tup []) h) := by
  refine icall_of_iwp (fun _ => 0) Try.func32 rfl (by kernel_rfl) (Nat.le_of_ble_eq_true rfl) ?_
  rw [Try.results32]
  simp -implicitDefEqProofs [go_sem]
  refine (put_nil_c ⟨1, w, hh, ⟨#[]⟩⟩ h).mono ?_
  rintro e h' ⟨rfl, he⟩
  simp -implicitDefEqProofs [go_sem]
  exact ⟨_, Sub.refl _, rfl, he⟩
theorem input_nil_c (bs : List UInt8) (h : Heap) : ICall Try.prog 33 [.nilptr, .list .plain (bs.map byteRow)] h (retP (.tup []) h) := by
  refine icall_of_iwp (fun _ => 0) Try.func33 rfl (by kernel_rfl) (Nat.le_of_ble_eq_true rfl) ?_
  rw [Try.results33]
  simp -implicitDefEqProofs [go_sem, bytesOf_rows]
  refine (put_nil_c ⟨2, 0, 0, ⟨bs.toArray⟩⟩ h).mono ?_
  rintro e h' ⟨rfl, he⟩
  simp -implicitDefEqProofs [go_sem]
  exact ⟨_, Sub.refl _, rfl, he⟩
theorem close_nil_c (h : Heap) : ICall Try.prog 34 [.nilptr] h (retP (.tup []) h) := by
  refine icall_of_iwp (fun _ => 0) Try.func34 rfl (by kernel_rfl) (Nat.le_of_ble_eq_true rfl) ?_
  rw [Try.results34]
  simp -implicitDefEqProofs [go_sem]
  refine (put_nil_c ⟨3, 0, 0, ⟨#[]⟩⟩ h).mono ?_
  rintro e h' ⟨rfl, he⟩
  simp -implicitDefEqProofs [go_sem]
  exact ⟨_, Sub.refl _, rfl, he⟩

/-! what a record was told -/
theorem cloneE_c (h : Heap) (eb cap : Nat) (l : List Ev) (hh : h eb = some (.arr 38 4 (l.map Ev.row) cap)) (hl : l.length < 1000000000) :
    ICall Try.prog 58 [.sl 4 eb 0 l.length cap] h (retP (.list .plain (l.map Ev.row)) h) := by
  refine icall_of_iwp (fun d => if d = 7 then 7 else 0) Try.func58 rfl (by kernel_rfl) (Nat.le_of_ble_eq_true rfl) ?_
  rw [Try.results58]
  have hroom : roomy Try.prog 38 l.length := by simp only [roomy, byT_38]; omega
  simp -implicitDefEqProofs [go_sem, hh, hroom]
  refine ⟨fun h0 => ?_, fun h0 => ?_⟩
  · subst h0; exact ⟨_, Sub.refl _, rfl, rfl⟩
  · exact ⟨_, Sub.refl _, by rw [List.take_of_length_le (by simp)], rfl⟩
theorem cloneE0_c (h : Heap) : ICall Try.prog 58 [.list .plain []] h (retP (.list .plain []) h) := by
  refine icall_of_iwp (fun d => if d = 7 then 2 else 0) Try.func58 rfl (by kernel_rfl) (Nat.le_of_ble_eq_true rfl) ?_
  rw [Try.results58]
  have hroom : roomy Try.prog 38 0 := by simp [roomy]
  simp -implicitDefEqProofs [go_sem, hroom]
  exact ⟨_, Sub.refl _, rfl, rfl⟩
theorem events0_c (rb : Nat) (h : Heap) (h1 : h rb = some (.cells [.list .tight []])) : ICall Try.prog 21 [.ptr rb 0] h (retP (.list .plain []) h) := by
  refine icall_of_iwp (fun _ => 0) Try.func21 rfl (by kernel_rfl) (Nat.le_of_ble_eq_true rfl) ?_
  rw [Try.results21]
  simp -implicitDefEqProofs [go_sem, h1]
  refine (cloneE0_c h).mono ?_
  rintro e h' ⟨rfl, he⟩
  simp -implicitDefEqProofs [go_sem]
  exact ⟨_, Sub.refl _, rfl, he⟩
theorem events1_c (rb eb cap : Nat) (l : List Ev) (h : Heap) (h1 : h rb = some (.cells [.sl 4 eb 0 l.length cap])) (h2 : h eb = some (.arr 38 4 (l.map Ev.row) cap)) (hl : l.length < 1000000000) : ICall Try.prog 21 [.ptr rb 0] h (retP (.list .plain (l.map Ev.row)) h) := by
  refine icall_of_iwp (fun _ => 0) Try.func21 rfl (by kernel_rfl) (Nat.le_of_ble_eq_true rfl) ?_
  rw [Try.results21]
  simp -implicitDefEqProofs [go_sem, h1]
  refine (cloneE_c h eb cap l h2 hl).mono ?_
  rintro e h' ⟨rfl, he⟩
  simp -implicitDefEqProofs [go_sem]
  exact ⟨_, Sub.refl _, rfl, he⟩
theorem events_c (rb eb cap : Nat) (l : List Ev) (h : Heap) (hr : RecIs h rb eb cap l) (hl : l.length < 1000000000) :
    ICall Try.prog 21 [.ptr rb 0] h (retP (.list .plain (l.map Ev.row)) h) :=
  hr.elim (fun g => by rw [g.1]; exact events0_c rb h g.2) (fun g => events1_c rb eb cap l h g.2.1 g.2.2.1 hl)
theorem events_nil_c (h : Heap) : ICall Try.prog 21 [.nilptr] h (retP (.list .plain []) h) := by
  refine icall_of_iwp (fun _ => 0) Try.func21 rfl (by kernel_rfl) (Nat.le_of_ble_eq_true rfl) ?_
  rw [Try.results21]
  simp -implicitDefEqProofs [go_sem]
  exact ⟨_, Sub.refl _, rfl, rfl⟩

/-! new ones -/
theorem newRec_c (h : Heap) : ICall Try.prog 16 [] h (fun e h' => ∃ rb, h rb = none ∧ e = .ret (.ptr rb 0) ∧ h' = upd h rb (some (.cells [.list .tight []]))) := by
  refine icall_of_iwp (fun d => if d = 2 then 1 else 0) Try.func16 rfl (by kernel_rfl) (Nat.le_of_ble_eq_true rfl) ?_
  rw [Try.results16]
  simp -implicitDefEqProofs [go_sem]
  intro b hb
  exact ⟨_, Sub.refl _, b, hb, rfl, rfl⟩
theorem newBoard_c (h : Heap) : ICall Try.prog 15 [] h (fun e h' => ∃ bb mb, h bb = none ∧ h mb = none ∧ bb ≠ mb ∧ e = .ret (.ptr bb 0) ∧ h' = upd (upd h mb (some (.map []))) bb (some (.cells [.mapv mb]))) := by
  refine icall_of_iwp (fun d => if d = 3 then 1 else 0) Try.func15 rfl (by kernel_rfl) (Nat.le_of_ble_eq_true rfl) ?_
  rw [Try.results15]
  simp -implicitDefEqProofs [go_sem]
  intro mb hmb bb hbb
  have hne : bb ≠ mb := by rintro rfl; simp at hbb
  simp only [hne, if_false] at hbb
  exact ⟨_, Sub.refl _, bb, hbb, mb, hmb, hne, rfl, rfl⟩

/-! has -/
def hasV (L : List PB) (id : Int) : IV := match L.find? fun p => p.m.is id with | some p => .ptr p.pb 0 | none => .nilptr
theorem has_c {k tag h bb mb L} (hB : BoardAt k tag h bb mb L) (id : Int) : ICall Try.prog 51 [.ptr bb 0, .int .i64 id] h (retP (hasV L id) h) := by
  refine icall_of_iwp (fun d => 0) Try.func51 rfl (by kernel_rfl) (Nat.le_of_ble_eq_true rfl) ?_
  rw [Try.results51]
  have h1 := hB.hb
  have h2 := hB.hm
  simp -implicitDefEqProofs [go_sem, h1, h2, find_live]
  refine ⟨_, Sub.refl _, ?_, rfl⟩
  unfold hasV
  cases L.find? fun p => p.m.is id <;> rfl
theorem has_nil_c (id : Int) (h : Heap) : ICall Try.prog 51 [.nilptr, .int .i64 id] h (retP .nilptr h) := by
  refine icall_of_iwp (fun d => 0) Try.func51 rfl (by kernel_rfl) (Nat.le_of_ble_eq_true rfl) ?_
  rw [Try.results51]
  simp -implicitDefEqProofs [go_sem]
  exact ⟨_, Sub.refl _, rfl, rfl⟩
end Go.Proofs
