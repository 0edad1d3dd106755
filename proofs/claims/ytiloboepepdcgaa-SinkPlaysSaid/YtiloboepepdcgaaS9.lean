/- This text is a part of the proofs of the statements of this seat: the ideal states and their rules, or what one of the functions that the statements reach comes to. Conditions: none beyond those that each theorem names. -/
import Derived.Test.YtiloboepepdcgaaF15
import Derived.Test.YtiloboepepdcgaaB0
set_option linter.unusedVariables false
set_option linter.unusedSimpArgs false
set_option pp.deepTerms false
set_option pp.maxSteps 400
namespace Go.Proofs
open Go.Idl

/-- the table of lengths of bytes -/
def isTab (tb : ByteArray) : Prop := tb.size = 256 ∧ ∀ i : Fin 256, i.val < 2 ^ (tb.get! i.val).toNat ∧ (0 < i.val → 2 ^ (tb.get! i.val).toNat ≤ 2 * i.val) ∧ (tb.get! i.val).toNat ≤ 8

instance (tb : ByteArray) : Decidable (isTab tb) := by unfold isTab; exact inferInstance

def lenR (x : Nat) (h : Heap) (e : IEnd) (h' : Heap) : Prop := ∃ L : Nat, retP (.int .i64 L) h e h' ∧ x < 2 ^ L ∧ (0 < x → 2 ^ L ≤ 2 * x) ∧ L ≤ 64


theorem pop_idx {P : Program} {st : St} {t : TypeId} {x i : Operand} {s : ByteArray} {n : Nat} {k : IntKind} (ht : P.underlying t = some .string) (hx : st.ev x = .str s) (hi : st.ev i = .int k n) (h : n < s.size) :
    pop P st (.index t x i) = some (.int .u8 ((s.get! n).toNat : Nat)) := by
  have e : s.get! n = s[n]'h := by
    cases s with
    | mk bs => show bs[n]! = bs[n]; exact getElem!_pos bs n h
  simp only [pop, ht, hx, hi]
  rw [dif_pos ⟨by omega, by simpa using h⟩, e]
  simp

set_option maxRecDepth 20000 in
set_option maxHeartbeats 4000000 in
theorem len64_c (x : Nat) (h : Heap) (hx : x < 1099511627776) : ICall Try.prog 122 [.int .u64 x] h (lenR x h) := by
  refine icall_of_iwp (fun _ => 0) Try.func122 rfl (by kernel_rfl) (Nat.le_of_ble_eq_true rfl) ?_
  rw [Try.results122]
  generalize htab : Value.string _ = vt
  obtain ⟨tb, hvt, htb⟩ : ∃ tb : ByteArray, vt = .string tb ∧ isTab tb := ⟨_, htab.symm, by decide +kernel⟩
  clear htab
  subst hvt
  have f32 : (x : Int).fdiv 4294967296 = ((x / 4294967296 : Nat) : Int) := by rw [Int.fdiv_eq_ediv_of_nonneg _ (by omega)]; omega
  have f16 : (x : Int).fdiv 65536 = ((x / 65536 : Nat) : Int) := by rw [Int.fdiv_eq_ediv_of_nonneg _ (by omega)]; omega
  have f8 : (x : Int).fdiv 256 = ((x / 256 : Nat) : Int) := by rw [Int.fdiv_eq_ediv_of_nonneg _ (by omega)]; omega
  simp -implicitDefEqProofs [go_sem]
  refine cK_dec (fun h32 => ?_) (fun h32 => ?_)
  · obtain ⟨y, hy⟩ : ∃ y, y = x / 4294967296 := ⟨_, rfl⟩
    rw [← hy] at f32
    have n1 : ¬ ((65536 : Int) ≤ (y : Int)) := by omega
    have n2 : ¬ ((256 : Int) ≤ (y : Int)) := by omega
    have hvl : y < 256 := by omega
    have hw : IntKind.u8.wrap (y : Int) = (y : Int) := Go.IntWalk.u8_in _ (by omega)
    obtain ⟨v, hv⟩ : ∃ v, v = (tb.get! y).toNat := ⟨_, rfl⟩
    have ht := htb.2 ⟨y, hvl⟩
    simp only [← hv] at ht
    obtain ⟨t1, t2, t3⟩ := ht
    have hwv : IntKind.i64.wrap (v : Int) = (v : Int) := wrap_in (by omega)
    have hwL : IntKind.i64.wrap ((32 : Int) + (v : Int)) = ((32 + v : Nat) : Int) := by rw [wrap_in (by omega)]; rfl
    simp -implicitDefEqProofs [go_sem, f32, n1, n2, hw]
    rw [pop_idx (s := tb) (n := y) (k := .u8) Try.underlying9 rfl (by simp -implicitDefEqProofs [go_sem, f32, n1, n2, hw]) (by rw [htb.1]; exact hvl), ← hv]
    simp -implicitDefEqProofs [go_sem, f32, n1, n2, hw, hwv, hwL]
    refine ⟨h, Sub.refl _, 32 + v, ⟨by simp, rfl⟩, ?_, fun hx0 => ?_, by omega⟩
    · rw [Nat.pow_add]; omega
    · have := t2 (by omega); rw [Nat.pow_add]; omega
  simp -implicitDefEqProofs [go_sem]
  refine cK_dec (fun h16 => ?_) (fun h16 => ?_)
  · obtain ⟨y, hy⟩ : ∃ y, y = x / 65536 := ⟨_, rfl⟩
    rw [← hy] at f16
    have f8' : (y : Int).fdiv 256 = ((y / 256 : Nat) : Int) := by rw [Int.fdiv_eq_ediv_of_nonneg _ (by omega)]; omega
    have hw16 : IntKind.i64.wrap ((0 : Int) + 16) = 16 := by decide
    have hw24 : IntKind.i64.wrap ((16 : Int) + 8) = 24 := by decide
    have hw16' : IntKind.i64.wrap (16 : Int) = 16 := by decide
    have hw24' : IntKind.i64.wrap (24 : Int) = 24 := by decide
    simp -implicitDefEqProofs [go_sem, f16, hw16, hw16']
    refine cK_dec (fun h8 => ?_) (fun h8 => ?_)
    · obtain ⟨z, hz⟩ : ∃ z, z = y / 256 := ⟨_, rfl⟩
      rw [← hz] at f8'
      have hvl : z < 256 := by omega
      have hw : IntKind.u8.wrap (z : Int) = (z : Int) := Go.IntWalk.u8_in _ (by omega)
      obtain ⟨v, hv⟩ : ∃ v, v = (tb.get! z).toNat := ⟨_, rfl⟩
      have ht := htb.2 ⟨z, hvl⟩
      simp only [← hv] at ht
      obtain ⟨t1, t2, t3⟩ := ht
      have hwv : IntKind.i64.wrap (v : Int) = (v : Int) := wrap_in (by omega)
      have hwL : IntKind.i64.wrap ((24 : Int) + (v : Int)) = ((24 + v : Nat) : Int) := by rw [wrap_in (by omega)]; rfl
      simp -implicitDefEqProofs [go_sem, f16, f8', hw16, hw24, hw16', hw24', hw]
      rw [pop_idx (s := tb) (n := z) (k := .u8) Try.underlying9 rfl (by simp -implicitDefEqProofs [go_sem, f16, f8', hw16, hw24, hw16', hw24', hw]) (by rw [htb.1]; exact hvl), ← hv]
      simp -implicitDefEqProofs [go_sem, f16, f8', hw16, hw24, hw16', hw24', hw, hwv, hwL]
      refine ⟨h, Sub.refl _, 24 + v, ⟨by simp, rfl⟩, ?_, fun hx0 => ?_, by omega⟩
      · rw [Nat.pow_add]; omega
      · have := t2 (by omega); rw [Nat.pow_add]; omega
    · have hvl : y < 256 := by omega
      have hw : IntKind.u8.wrap (y : Int) = (y : Int) := Go.IntWalk.u8_in _ (by omega)
      obtain ⟨v, hv⟩ : ∃ v, v = (tb.get! y).toNat := ⟨_, rfl⟩
      have ht := htb.2 ⟨y, hvl⟩
      simp only [← hv] at ht
      obtain ⟨t1, t2, t3⟩ := ht
      have hwv : IntKind.i64.wrap (v : Int) = (v : Int) := wrap_in (by omega)
      have hwL : IntKind.i64.wrap ((16 : Int) + (v : Int)) = ((16 + v : Nat) : Int) := by rw [wrap_in (by omega)]; rfl
      simp -implicitDefEqProofs [go_sem, f16, hw16, hw16', hw]
      rw [pop_idx (s := tb) (n := y) (k := .u8) Try.underlying9 rfl (by simp -implicitDefEqProofs [go_sem, f16, hw16, hw16', hw]) (by rw [htb.1]; exact hvl), ← hv]
      simp -implicitDefEqProofs [go_sem, f16, hw16, hw16', hw, hwv, hwL]
      refine ⟨h, Sub.refl _, 16 + v, ⟨by simp, rfl⟩, ?_, fun hx0 => ?_, by omega⟩
      · rw [Nat.pow_add]; omega
      · have := t2 (by omega); rw [Nat.pow_add]; omega
  simp -implicitDefEqProofs [go_sem]
  refine cK_dec (fun h8 => ?_) (fun h8 => ?_)
  · obtain ⟨y, hy⟩ : ∃ y, y = x / 256 := ⟨_, rfl⟩
    rw [← hy] at f8
    have hw8 : IntKind.i64.wrap ((0 : Int) + 8) = 8 := by decide
    have hw8' : IntKind.i64.wrap (8 : Int) = 8 := by decide
    have hvl : y < 256 := by omega
    have hw : IntKind.u8.wrap (y : Int) = (y : Int) := Go.IntWalk.u8_in _ (by omega)
    obtain ⟨v, hv⟩ : ∃ v, v = (tb.get! y).toNat := ⟨_, rfl⟩
    have ht := htb.2 ⟨y, hvl⟩
    simp only [← hv] at ht
    obtain ⟨t1, t2, t3⟩ := ht
    have hwv : IntKind.i64.wrap (v : Int) = (v : Int) := wrap_in (by omega)
    have hwL : IntKind.i64.wrap ((8 : Int) + (v : Int)) = ((8 + v : Nat) : Int) := by rw [wrap_in (by omega)]; rfl
    simp -implicitDefEqProofs [go_sem, f8, hw8, hw8', hw]
    rw [pop_idx (s := tb) (n := y) (k := .u8) Try.underlying9 rfl (by simp -implicitDefEqProofs [go_sem, f8, hw8, hw8', hw]) (by rw [htb.1]; exact hvl), ← hv]
    simp -implicitDefEqProofs [go_sem, f8, hw8, hw8', hw, hwv, hwL]
    refine ⟨h, Sub.refl _, 8 + v, ⟨by simp, rfl⟩, ?_, fun hx0 => ?_, by omega⟩
    · rw [Nat.pow_add]; omega
    · have := t2 (by omega); rw [Nat.pow_add]; omega
  · have hvl : x < 256 := by omega
    have hw : IntKind.u8.wrap (x : Int) = (x : Int) := Go.IntWalk.u8_in _ (by omega)
    obtain ⟨v, hv⟩ : ∃ v, v = (tb.get! x).toNat := ⟨_, rfl⟩
    have ht := htb.2 ⟨x, hvl⟩
    simp only [← hv] at ht
    obtain ⟨t1, t2, t3⟩ := ht
    have hwv : IntKind.i64.wrap (v : Int) = (v : Int) := wrap_in (by omega)
    have hwL : IntKind.i64.wrap ((0 : Int) + (v : Int)) = ((0 + v : Nat) : Int) := by rw [wrap_in (by omega)]; rfl
    simp -implicitDefEqProofs [go_sem, hx, hw]
    rw [pop_idx (s := tb) (n := x) (k := .u8) Try.underlying9 rfl (by simp -implicitDefEqProofs [go_sem, hx, hw]) (by rw [htb.1]; exact hvl), ← hv]
    simp -implicitDefEqProofs [go_sem, hx, hw, hwv, hwL]
    refine ⟨h, Sub.refl _, 0 + v, ⟨by simp, rfl⟩, ?_, fun hx0 => ?_, by omega⟩
    · rw [Nat.pow_add]; omega
    · have := t2 (by omega); rw [Nat.pow_add]; omega
end Go.Proofs
