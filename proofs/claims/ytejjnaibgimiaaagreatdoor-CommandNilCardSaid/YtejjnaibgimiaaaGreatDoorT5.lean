/- This text is a part of the proofs of the statements of this seat: the ideal states and their rules, or what one of the functions that the statements reach comes to. Conditions: none beyond those that each theorem names. -/
import Derived.Test.YtejjnaibgimiaaaGreatDoorT1
set_option linter.unusedVariables false
set_option linter.unusedSimpArgs false
set_option pp.deepTerms false
set_option pp.maxSteps 400
namespace Go.Proofs
open Go.Idl

@[go_sem] theorem pop_index {P : Program} {st : St} (t : TypeId) (x i : Operand) : pop P st (.index t x i) = match P.underlying t, st.ev x, st.ev i with
    | some .string, .str s, .int _ n => if h : 0 ≤ n ∧ n.toNat < s.size then some (.int .u8 (s[n.toNat]'h.2).toNat) else none
    | _, _, _ => none := rfl

/-! names -/
def okc (n : Nat) : Bool := (decide (97 ≤ n ∧ n ≤ 122)) || (decide (65 ≤ n ∧ n ≤ 90)) || (decide (48 ≤ n ∧ n ≤ 57)) || n == 45 || n == 95
def nameB (s : ByteArray) : Bool := s.data.toList.all (fun c => okc c.toNat) && decide (1 ≤ s.size ∧ s.size ≤ 30)

theorem nameB_bad {s : ByteArray} {i : Nat} (hi : i < s.size) (h : okc s[i].toNat = false) : nameB s = false := by
  have : s.data.toList.all (fun c => okc c.toNat) = false := by
    rw [List.all_eq_false]
    exact ⟨s[i], by simp [ByteArray.getElem_eq_getElem_data], by simp [h]⟩
  simp [nameB, this]
theorem nameB_all {s : ByteArray} (h : ∀ j, (hj : j < s.size) → okc s[j].toNat = true) : nameB s = decide (1 ≤ s.size ∧ s.size ≤ 30) := by
  have : s.data.toList.all (fun c => okc c.toNat) = true := by
    rw [List.all_eq_true]
    intro x hx
    obtain ⟨j, hj, rfl⟩ := List.getElem_of_mem hx
    have hj' : j < s.size := by simpa using hj
    exact h j hj'
  simp [nameB, this]

theorem or32 (c : Nat) (hc : c ≤ 255) : ∃ o : Int, IntKind.u8.wrap ((BitVec.ofInt IntKind.u8.bits (c : Int) ||| BitVec.ofInt IntKind.u8.bits 32).toNat : Nat) = o ∧ (o < 97 ↔ (c ≤ 64 ∨ c = 96)) ∧ (122 < o ↔ ((91 ≤ c ∧ c ≤ 95) ∨ 123 ≤ c)) := by
  have : ∀ c : Fin 256, (IntKind.u8.wrap ((BitVec.ofInt IntKind.u8.bits (c.1 : Int) ||| BitVec.ofInt IntKind.u8.bits 32).toNat : Nat) < 97 ↔ (c.1 ≤ 64 ∨ c.1 = 96)) ∧ (122 < IntKind.u8.wrap ((BitVec.ofInt IntKind.u8.bits (c.1 : Int) ||| BitVec.ofInt IntKind.u8.bits 32).toNat : Nat) ↔ ((91 ≤ c.1 ∧ c.1 ≤ 95) ∨ 123 ≤ c.1)) := by decide +kernel
  exact ⟨_, rfl, this ⟨c, by omega⟩⟩

set_option maxRecDepth 20000 in
theorem name_c (s : ByteArray) (hs : s.size < 100000000) (h : Heap) : ICall Tryz.prog 169 [.str s] h (retP (.bool (nameB s)) h) := by
  refine icall_of_iwp (fun _ => 0) Tryz.func169 rfl (by kernel_rfl) (Nat.le_of_ble_eq_true rfl) ?_
  rw [Tryz.results169]
  simp -implicitDefEqProofs [go_sem]
  refine iwp_loopF (rng [3,4] 7 38) nom (fun st => ∃ i : Nat, i ≤ s.size ∧ st.t 7 = .int .i64 i ∧ st.h = h ∧ ∀ j, (hj : j < s.size) → j < i → okc s[j].toNat = true) (fun st => s.size - tn (st.t 7)) ?_ ?_
  · exact ⟨0, Nat.zero_le _, by simp -implicitDefEqProofs [go_sem], by simp -implicitDefEqProofs [go_sem], fun j _ hj => by omega⟩
  rintro J st hJ hf ⟨i, hi, h7, hh, hpre⟩
  simp -implicitDefEqProofs [go_sem, h7, hh, hf.t, hf.m]
  refine cK_dec (fun hlt => ?_) (fun hlt => ?_)
  · have hlt' : i < s.size := by omega
    have hw := wrap_succ (i := i) (by omega)
    obtain ⟨c, hc⟩ : ∃ c : Nat, s[i].toNat = c := ⟨_, rfl⟩
    have good : okc c = true → ∀ j, (hj : j < s.size) → j < i + 1 → okc s[j].toNat = true := by
      intro hg j hj hj1
      by_cases hji : j = i
      · subst hji; rw [hc]; exact hg
      · exact hpre j hj (by omega)
    have bad : okc c = false → nameB s = false := fun hb => nameB_bad hlt' (by rw [hc]; exact hb)
    have hc255 : c ≤ 255 := by have := s[i].toNat_lt; omega
    obtain ⟨o, ho, q1, q2⟩ := or32 c hc255
    simp -implicitDefEqProofs [go_sem] at ho
    obtain k | k | k | k | k | k | k | k | k | k | k : (97 ≤ c ∧ c ≤ 122) ∨ (123 ≤ c ∧ c ≤ 255) ∨ (96 ≤ c ∧ c ≤ 96) ∨ (95 ≤ c ∧ c ≤ 95) ∨ (91 ≤ c ∧ c ≤ 94) ∨ (65 ≤ c ∧ c ≤ 90) ∨ (58 ≤ c ∧ c ≤ 64) ∨ (48 ≤ c ∧ c ≤ 57) ∨ (46 ≤ c ∧ c ≤ 47) ∨ (45 ≤ c ∧ c ≤ 45) ∨ (0 ≤ c ∧ c ≤ 44) := by omega
    · have g1 : ¬ (o < 97) := by omega
      have g2 : ¬ (122 < o) := by omega
      have g3 : ¬ ((c : Int) < 48) := by omega
      have g4 : (57 < (c : Int)) := by omega
      have g5 : ((c : Int) != 45) = true := by simp; omega
      have g6 : ((c : Int) != 95) = true := by simp; omega
      have hg : okc c = true := by simp [okc]; omega
      simp -implicitDefEqProofs [go_sem, h7, hh, hf.t, hf.m, hf, hlt', hc, ho, g1, g2, g3, g4, g5, g6, hw]
      exact hJ _ ⟨i + 1, by omega, by simp -implicitDefEqProofs [go_sem, hw], by simp -implicitDefEqProofs [go_sem, hh], good hg⟩ (by simp [go_sem, h7, hw]; omega)
    · have g1 : ¬ (o < 97) := by omega
      have g2 : (122 < o) := by omega
      have g3 : ¬ ((c : Int) < 48) := by omega
      have g4 : (57 < (c : Int)) := by omega
      have g5 : ((c : Int) != 45) = true := by simp; omega
      have g6 : ((c : Int) != 95) = true := by simp; omega
      have hb : nameB s = false := bad (by simp [okc]; omega)
      simp -implicitDefEqProofs [go_sem, h7, hh, hf.t, hf.m, hf, hlt', hc, ho, g1, g2, g3, g4, g5, g6, hw]
      exact ⟨_, Sub.refl _, by rw [hb], rfl⟩
    · have g1 : (o < 97) := by omega
      have g2 : ¬ (122 < o) := by omega
      have g3 : ¬ ((c : Int) < 48) := by omega
      have g4 : (57 < (c : Int)) := by omega
      have g5 : ((c : Int) != 45) = true := by simp; omega
      have g6 : ((c : Int) != 95) = true := by simp; omega
      have hb : nameB s = false := bad (by simp [okc]; omega)
      simp -implicitDefEqProofs [go_sem, h7, hh, hf.t, hf.m, hf, hlt', hc, ho, g1, g2, g3, g4, g5, g6, hw]
      exact ⟨_, Sub.refl _, by rw [hb], rfl⟩
    · have g1 : ¬ (o < 97) := by omega
      have g2 : (122 < o) := by omega
      have g3 : ¬ ((c : Int) < 48) := by omega
      have g4 : (57 < (c : Int)) := by omega
      have g5 : ((c : Int) != 45) = true := by simp; omega
      have g6 : ((c : Int) != 95) = false := by simp; omega
      have hg : okc c = true := by simp [okc]; omega
      simp -implicitDefEqProofs [go_sem, h7, hh, hf.t, hf.m, hf, hlt', hc, ho, g1, g2, g3, g4, g5, g6, hw]
      exact hJ _ ⟨i + 1, by omega, by simp -implicitDefEqProofs [go_sem, hw], by simp -implicitDefEqProofs [go_sem, hh], good hg⟩ (by simp [go_sem, h7, hw]; omega)
    · have g1 : ¬ (o < 97) := by omega
      have g2 : (122 < o) := by omega
      have g3 : ¬ ((c : Int) < 48) := by omega
      have g4 : (57 < (c : Int)) := by omega
      have g5 : ((c : Int) != 45) = true := by simp; omega
      have g6 : ((c : Int) != 95) = true := by simp; omega
      have hb : nameB s = false := bad (by simp [okc]; omega)
      simp -implicitDefEqProofs [go_sem, h7, hh, hf.t, hf.m, hf, hlt', hc, ho, g1, g2, g3, g4, g5, g6, hw]
      exact ⟨_, Sub.refl _, by rw [hb], rfl⟩
    · have g1 : ¬ (o < 97) := by omega
      have g2 : ¬ (122 < o) := by omega
      have g3 : ¬ ((c : Int) < 48) := by omega
      have g4 : (57 < (c : Int)) := by omega
      have g5 : ((c : Int) != 45) = true := by simp; omega
      have g6 : ((c : Int) != 95) = true := by simp; omega
      have hg : okc c = true := by simp [okc]; omega
      simp -implicitDefEqProofs [go_sem, h7, hh, hf.t, hf.m, hf, hlt', hc, ho, g1, g2, g3, g4, g5, g6, hw]
      exact hJ _ ⟨i + 1, by omega, by simp -implicitDefEqProofs [go_sem, hw], by simp -implicitDefEqProofs [go_sem, hh], good hg⟩ (by simp [go_sem, h7, hw]; omega)
    · have g1 : (o < 97) := by omega
      have g2 : ¬ (122 < o) := by omega
      have g3 : ¬ ((c : Int) < 48) := by omega
      have g4 : (57 < (c : Int)) := by omega
      have g5 : ((c : Int) != 45) = true := by simp; omega
      have g6 : ((c : Int) != 95) = true := by simp; omega
      have hb : nameB s = false := bad (by simp [okc]; omega)
      simp -implicitDefEqProofs [go_sem, h7, hh, hf.t, hf.m, hf, hlt', hc, ho, g1, g2, g3, g4, g5, g6, hw]
      exact ⟨_, Sub.refl _, by rw [hb], rfl⟩
    · have g1 : (o < 97) := by omega
      have g2 : ¬ (122 < o) := by omega
      have g3 : ¬ ((c : Int) < 48) := by omega
      have g4 : ¬ (57 < (c : Int)) := by omega
      have g5 : ((c : Int) != 45) = true := by simp; omega
      have g6 : ((c : Int) != 95) = true := by simp; omega
      have hg : okc c = true := by simp [okc]; omega
      simp -implicitDefEqProofs [go_sem, h7, hh, hf.t, hf.m, hf, hlt', hc, ho, g1, g2, g3, g4, g5, g6, hw]
      exact hJ _ ⟨i + 1, by omega, by simp -implicitDefEqProofs [go_sem, hw], by simp -implicitDefEqProofs [go_sem, hh], good hg⟩ (by simp [go_sem, h7, hw]; omega)
    · have g1 : (o < 97) := by omega
      have g2 : ¬ (122 < o) := by omega
      have g3 : ((c : Int) < 48) := by omega
      have g4 : ¬ (57 < (c : Int)) := by omega
      have g5 : ((c : Int) != 45) = true := by simp; omega
      have g6 : ((c : Int) != 95) = true := by simp; omega
      have hb : nameB s = false := bad (by simp [okc]; omega)
      simp -implicitDefEqProofs [go_sem, h7, hh, hf.t, hf.m, hf, hlt', hc, ho, g1, g2, g3, g4, g5, g6, hw]
      exact ⟨_, Sub.refl _, by rw [hb], rfl⟩
    · have g1 : (o < 97) := by omega
      have g2 : ¬ (122 < o) := by omega
      have g3 : ((c : Int) < 48) := by omega
      have g4 : ¬ (57 < (c : Int)) := by omega
      have g5 : ((c : Int) != 45) = false := by simp; omega
      have g6 : ((c : Int) != 95) = true := by simp; omega
      have hg : okc c = true := by simp [okc]; omega
      simp -implicitDefEqProofs [go_sem, h7, hh, hf.t, hf.m, hf, hlt', hc, ho, g1, g2, g3, g4, g5, g6, hw]
      exact hJ _ ⟨i + 1, by omega, by simp -implicitDefEqProofs [go_sem, hw], by simp -implicitDefEqProofs [go_sem, hh], good hg⟩ (by simp [go_sem, h7, hw]; omega)
    · have g1 : (o < 97) := by omega
      have g2 : ¬ (122 < o) := by omega
      have g3 : ((c : Int) < 48) := by omega
      have g4 : ¬ (57 < (c : Int)) := by omega
      have g5 : ((c : Int) != 45) = true := by simp; omega
      have g6 : ((c : Int) != 95) = true := by simp; omega
      have hb : nameB s = false := bad (by simp [okc]; omega)
      simp -implicitDefEqProofs [go_sem, h7, hh, hf.t, hf.m, hf, hlt', hc, ho, g1, g2, g3, g4, g5, g6, hw]
      exact ⟨_, Sub.refl _, by rw [hb], rfl⟩
  · have hall : ∀ j, (hj : j < s.size) → okc s[j].toNat = true := fun j hj => hpre j hj (by omega)
    have hnb := nameB_all hall
    simp -implicitDefEqProofs [go_sem, h7, hh, hf.t, hf.m]
    refine cK_dec (fun h0 => ?_) (fun h0 => ?_)
    · simp -implicitDefEqProofs [go_sem, h7, hh, hf.t, hf.m, h0]
      have h1 : 1 ≤ s.size := by omega
      exact ⟨_, Sub.refl _, by rw [hnb]; simp [h1] <;> omega, rfl⟩
    · simp -implicitDefEqProofs [go_sem, h7, hh, hf.t, hf.m, h0]
      have h1 : ¬ 1 ≤ s.size := by omega
      exact ⟨_, Sub.refl _, by rw [hnb]; simp [h1] <;> omega, rfl⟩
end Go.Proofs
