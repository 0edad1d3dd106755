/- This text is a part of the proofs of the statements of this seat: the ideal states and their rules, or what one of the functions that the statements reach comes to. Conditions: none beyond those that each theorem names. -/
import Derived.Test.YtiloboepepdcgaaS12
set_option linter.unusedVariables false
set_option linter.unusedSimpArgs false
set_option pp.deepTerms false
set_option pp.maxSteps 400
namespace Go.Proofs
open Go.Idl
open Go.Sort (swp ltInt PermIn SortedIn)

def sortL (l : List Int) : List Int := l.mergeSort fun x y => decide (x ≤ y)
theorem sortL_len (l : List Int) : (sortL l).length = l.length := List.length_mergeSort _
theorem sortL_perm (l : List Int) : (sortL l).Perm l := List.mergeSort_perm _ _
theorem sorted_is (d d' : Array Int) (h1 : PermIn 0 d.size d d') (h2 : SortedIn ltInt 0 d.size d') : d' = (sortL d.toList).toArray := by
  have h := Go.Sort.sorted_unique_holds Go.Sort.swo_ltInt (fun x y h1 h2 => by simp only [ltInt, decide_eq_false_iff_not] at h1 h2; omega) d _ h1 h2
  have e : (fun x y => !ltInt y x) = (fun x y : Int => decide (x ≤ y)) := by
    funext x y
    by_cases h : x ≤ y
    · simp [ltInt, h]
    · simp [ltInt, h]; omega
  rw [e] at h
  rw [sortL, ← h]

theorem insSort_nil (h : Heap) : ICall Try.prog 112 [.list .plain [], .int .i64 0, .int .i64 0] h (retP (.tup []) h) := by
  refine icall_of_iwp (fun _ => 0) Try.func112 rfl (by kernel_rfl) (Nat.le_of_ble_eq_true rfl) ?_
  rw [Try.results112]
  have w1 : IntKind.i64.wrap 1 = 1 := wrap_in (by omega)
  simp -implicitDefEqProofs [go_sem, w1]
  refine iwp_loopF (rng [] 3 100) nom (fun s => s.t 6 = .int .i64 1 ∧ s.h = h) (fun s => 0) ⟨by simp -implicitDefEqProofs [go_sem, w1], by simp -implicitDefEqProofs [go_sem]⟩ ?_
  rintro J s hJ hf ⟨h6, hh⟩
  simp -implicitDefEqProofs [go_sem, h6, hh, hf.t, hf.m]
  exact ⟨_, Sub.refl _, rfl, rfl⟩

theorem pdq_nil (L : Int) (h : Heap) : ICall Try.prog 89 [.list .plain [], .int .i64 0, .int .i64 0, .int .i64 L] h (retP (.tup []) h) := by
  refine icall_of_iwp (fun _ => 0) Try.func89 rfl (by kernel_rfl) (Nat.le_of_ble_eq_true rfl) ?_
  rw [Try.results89]
  have w1 : IntKind.i64.wrap 0 = 0 := wrap_in (by omega)
  simp -implicitDefEqProofs [go_sem]
  refine iwp_loopF (rng [] 0 200) nom (fun s => s.t 0 = .list .plain [] ∧ s.t 1 = .int .i64 0 ∧ s.t 2 = .int .i64 0 ∧ s.h = h) (fun s => 0) ⟨by simp -implicitDefEqProofs [go_sem], by simp -implicitDefEqProofs [go_sem], by simp -implicitDefEqProofs [go_sem], by simp -implicitDefEqProofs [go_sem]⟩ ?_
  rintro J s hJ hf ⟨h0, h1, h2, hh⟩
  simp -implicitDefEqProofs [go_sem, h0, h1, h2, hh, hf.t, hf.m, w1]
  refine (insSort_nil h).mono ?_
  rintro e h' ⟨rfl, he⟩
  rw [he]
  simp -implicitDefEqProofs [go_sem]
  exact ⟨_, Sub.refl _, rfl, rfl⟩

theorem sort_c (d : Array Int) (bk cap : Nat) (h : Heap) (hs : d.size < 10000000000) :
    ICall Try.prog 66 [.sl 1 bk 0 d.size cap] (SH h bk cap d) (retP (.tup []) (SH h bk cap (sortL d.toList).toArray)) := by
  obtain ⟨n, hn⟩ : ∃ n, n = d.size := ⟨_, rfl⟩
  refine icall_of_iwp (fun _ => 0) Try.func66 rfl (by kernel_rfl) (Nat.le_of_ble_eq_true rfl) ?_
  rw [Try.results66, ← hn]
  have hw : IntKind.u64.wrap (n : Int) = (n : Int) := Go.IntWalk.u64_in _ (by omega)
  simp -implicitDefEqProofs [go_sem, hw]
  refine (len_c n _ (by omega)).mono ?_
  rintro e h' ⟨L, ⟨rfl, he⟩, l1, l2, l3⟩
  rw [he]
  simp -implicitDefEqProofs [go_sem]
  have hp := pdq_c d.size 0 d.size L d bk cap h (Nat.le_refl _) (Nat.zero_le _) (Nat.le_refl _) hs (by omega) (.inl rfl)
  rw [← hn] at hp
  refine hp.mono ?_
  rintro e h' ⟨d', p1, p2, rfl, he⟩
  rw [he]
  simp -implicitDefEqProofs [go_sem]
  exact ⟨_, Sub.refl _, rfl, by rw [sorted_is d d' (by rw [← hn]; exact p1) (by rw [← hn]; exact p2)]⟩
theorem sort_nil (h : Heap) : ICall Try.prog 66 [.list .plain []] h (retP (.tup []) h) := by
  refine icall_of_iwp (fun _ => 0) Try.func66 rfl (by kernel_rfl) (Nat.le_of_ble_eq_true rfl) ?_
  rw [Try.results66]
  have hw : IntKind.u64.wrap 0 = 0 := Go.IntWalk.u64_in _ (by omega)
  simp -implicitDefEqProofs [go_sem, hw]
  refine (len_c 0 _ (by omega)).mono ?_
  rintro e h' ⟨L, ⟨rfl, he⟩, l1, l2, l3⟩
  rw [he]
  simp -implicitDefEqProofs [go_sem]
  refine (pdq_nil _ h).mono ?_
  rintro e h' ⟨rfl, he⟩
  rw [he]
  simp -implicitDefEqProofs [go_sem]
  exact ⟨_, Sub.refl _, rfl, rfl⟩
end Go.Proofs
