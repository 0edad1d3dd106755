/- This text is a part of the proofs of the statements of this seat: the ideal states and their rules, or what one of the functions that the statements reach comes to. Conditions: none beyond those that each theorem names. -/
import Derived.Test.YtejjnaibgimiaaaGreatDoorT3
set_option linter.unusedVariables false
set_option linter.unusedSimpArgs false
set_option pp.deepTerms false
set_option pp.maxSteps 400
namespace Go.Proofs
open Go.Idl

/-! numbers as digits -/
def digB (n : Int) : ByteArray := if n < 0 ∨ 2147483647 < n then ⟨#[]⟩ else itoaB n
theorem digits_c (n : Int) (h : Heap) (hi : 0 ≤ n → n ≤ 2147483647 → ICall Tryz.prog 102 [.int .i64 n] h (retP (.str (itoaB n)) h)) : ICall Tryz.prog 64 [.int .i64 n] h (retP (.str (digB n)) h) := by
  refine icall_of_iwp (fun _ => 0) Tryz.func64 rfl (by kernel_rfl) (Nat.le_of_ble_eq_true rfl) ?_
  rw [Tryz.results64]
  simp -implicitDefEqProofs [go_sem]
  refine cK_dec (fun h1 => ?_) (fun h1 => ?_)
  · simp -implicitDefEqProofs [go_sem, h1]
    exact ⟨h, Sub.refl _, by rw [digB, if_pos (.inl h1)], rfl⟩
  simp -implicitDefEqProofs [go_sem, h1]
  refine cK_dec (fun h2 => ?_) (fun h2 => ?_)
  · simp -implicitDefEqProofs [go_sem, h1, h2]
    exact ⟨h, Sub.refl _, by rw [digB, if_pos (.inr h2)], rfl⟩
  simp -implicitDefEqProofs [go_sem, h1, h2]
  refine (hi (by omega) (by omega)).mono ?_
  rintro e h' ⟨rfl, rfl⟩
  simp -implicitDefEqProofs [go_sem]
  exact ⟨h', Sub.refl _, by rw [digB, if_neg (by omega)], rfl⟩
def digL (l : List Int) : ByteArray := joinB (l.map digB) ⟨#[44]⟩
theorem joinTail_len (sep : List UInt8) : ∀ (l : List (List UInt8)) (N : Nat), (∀ x ∈ l, x.length ≤ N) → (Lib.joinTail sep l).length ≤ l.length * (sep.length + N)
  | [], N, _ => by simp [Lib.joinTail]
  | x :: l, N, h => by
    have h1 := joinTail_len sep l N fun y hy => h y (List.mem_cons_of_mem _ hy)
    have h2 := h x List.mem_cons_self
    simp only [Lib.joinTail, List.map_cons, List.flatten_cons, List.length_append, List.length_cons] at h1 ⊢
    have : (l.length + 1) * (sep.length + N) = l.length * (sep.length + N) + (sep.length + N) := by rw [Nat.add_mul]; omega
    omega
theorem join_len (l : List (List UInt8)) (sep : List UInt8) (N : Nat) (h : ∀ x ∈ l, x.length ≤ N) : (Lib.join l sep).length ≤ l.length * (sep.length + N) := by
  cases l with
  | nil => simp [Lib.join, List.intercalate]
  | cons x l =>
    rw [Lib.join_cons]
    have h1 := joinTail_len sep l N fun y hy => h y (List.mem_cons_of_mem _ hy)
    have h2 := h x List.mem_cons_self
    simp only [List.length_append, List.length_cons]
    have : (l.length + 1) * (sep.length + N) = l.length * (sep.length + N) + (sep.length + N) := by rw [Nat.add_mul]; omega
    omega
theorem nDigits_le (n : Nat) (k : Nat) (h : n < 10 ^ (k + 1)) : (Lib.decDigits n).length ≤ k + 1 := by
  induction k generalizing n with
  | zero => rw [Lib.decDigits, dif_pos (by simpa using h)]; simp
  | succ k ih =>
    rw [Lib.decDigits]
    split
    · simp
    · have := ih (n / 10) (by rw [Nat.div_lt_iff_lt_mul (by omega)]; rw [Nat.pow_succ] at h; omega)
      simp; omega
theorem digB_len (n : Int) : (digB n).data.toList.length ≤ 10 := by
  unfold digB
  split
  · simp
  · unfold itoaB Lib.itoa
    rw [if_neg (by omega)]
    have := nDigits_le n.toNat 9 (by omega)
    simpa using this
set_option maxRecDepth 20000 in
theorem Digits_c (l : List Int) (h : Heap) (hl : l.length ≤ 1000000) (hi : ∀ n ∈ l, 0 ≤ n → n ≤ 2147483647 → ICall Tryz.prog 102 [.int .i64 n] h (retP (.str (itoaB n)) h)) : ICall Tryz.prog 43 [.list .plain (l.map intRow)] h (retP (.str (digL l)) h) := by
  refine icall_of_iwp (fun _ => 0) Tryz.func43 rfl (by kernel_rfl) (Nat.le_of_ble_eq_true rfl) ?_
  rw [Tryz.results43]
  simp -implicitDefEqProofs [go_sem]
  refine iwp_loopF (rng [3,5] 8 17) nom (fun s => ∃ i v, i ≤ l.length ∧ s.t 8 = .int .i64 i ∧ s.t 3 = v ∧ Idl.Own [16] s.x 9 v (((l.take i).map digB).map strRow) ∧ s.h = h) (fun s => l.length - tn (s.t 8)) ?_ ?_
  · exact ⟨0, .list .tight [], Nat.zero_le _, by simp -implicitDefEqProofs [go_sem], by simp -implicitDefEqProofs [go_sem], Idl.Own.tight, by simp -implicitDefEqProofs [go_sem]⟩
  rintro J s hJ hf ⟨i, v, hle, h8, h3, ho, hh⟩
  simp -implicitDefEqProofs [go_sem, h8, h3, hh, hf.t, hf.m]
  refine cK_dec (fun hlt => ?_) (fun hge => ?_)
  · have hlt' : i < l.length := by omega
    have hg : l[i]? = some l[i] := List.getElem?_eq_getElem hlt'
    have hw := wrap_succ (i := i) (by omega)
    simp -implicitDefEqProofs [go_sem, h8, h3, hh, hf.t, hf.m, hlt', hg, intRow]
    refine (digits_c l[i] h (hi _ (List.getElem_mem _))).mono ?_
    rintro e h' ⟨rfl, he⟩
    rw [he]
    simp -implicitDefEqProofs [go_sem, h8, h3, hh, hf.t, hf.m]
    refine aK_own (z := 1) (S := [16]) ho (by simp) elT_23 elZ_9 (by simp [roomy, byT_9]; omega) (strs_uni _) (by simp [uni]) ?_
    intro r x' ho' _
    simp -implicitDefEqProofs [go_sem, h8, h3, hh, hf.t, hf.m, hf, hw]
    refine hJ _ ⟨i + 1, r, by omega, by simp -implicitDefEqProofs [go_sem, hw], by simp -implicitDefEqProofs [go_sem], ?_, by simp -implicitDefEqProofs [go_sem]⟩ (by simp [go_sem, h8, hw]; omega)
    have e1 : l.take (i + 1) = l.take i ++ [l[i]] := by rw [List.take_add_one, hg]; rfl
    show Idl.Own [16] x' _ r _
    rw [e1, List.map_append, List.map_append]
    exact ho'
  · obtain rfl : i = l.length := by omega
    rw [List.take_length] at ho
    simp -implicitDefEqProofs [go_sem, h8, h3, hh, hf.t, hf.m, ho.strip]
    have hjl := join_len ((l.map digB).map (·.data.toList)) [44] 10 (fun x hx => by
      obtain ⟨y, hy, rfl⟩ := List.mem_map.1 hx
      obtain ⟨n, _, rfl⟩ := List.mem_map.1 hy
      exact digB_len n)
    simp only [List.length_map, List.length_cons, List.length_nil] at hjl
    have hjc := sjoin_c (l.map digB) ⟨#[44]⟩ .plain h (by simp; omega) (by show (Lib.join ((l.map digB).map (·.data.toList)) [44]).length ≤ _; omega)
    rw [List.map_map] at hjc
    refine hjc.mono ?_
    rintro e h' ⟨rfl, he⟩
    rw [he]
    simp -implicitDefEqProofs [go_sem]
    exact ⟨h, Sub.refl _, rfl, rfl⟩
end Go.Proofs
