/- This text is a part of the proofs of the statements of this seat: the ideal states and their rules, or what one of the functions that the statements reach comes to. Conditions: none beyond those that each theorem names. -/
import Derived.Test.YtghpaalcedgcaaaGreatMA
set_option linter.unusedVariables false
set_option linter.unusedSimpArgs false
set_option pp.deepTerms false
set_option pp.maxSteps 400
namespace Go.Proofs
open Go.Idl

/-! lists of ids: Values, Compact, IndexFunc -/
def valuesR (tk : Tok) (l : List Int) (h : Heap) (e : IEnd) (h' : Heap) : Prop := ∃ bx, h bx = none ∧ e = .ret (.fn (.func 144) [] [.ptr bx 0]) ∧ h' = upd h bx (some (.cells [.list tk (l.map intRow)]))
theorem values_c (l : List Int) (h : Heap) : ICall Tryz.prog 102 [.list .plain (l.map intRow)] h (valuesR .plain l h) := by
  refine icall_of_iwp (fun d => if d = 1 then 1 else 0) Tryz.func102 rfl (by kernel_rfl) (Nat.le_of_ble_eq_true rfl) ?_
  rw [Tryz.results102]
  simp -implicitDefEqProofs [go_sem]
  intro b hb
  exact ⟨_, Sub.refl _, b, hb, rfl, rfl⟩

def adjD (a : Array Int) : Prop := ∃ j, j + 1 < a.size ∧ a[j]! = a[j+1]!
def compR (a : Array Int) (b cap : Nat) (h : Heap) (e : IEnd) (h' : Heap) : Prop := h' = h ∧ ∃ m : Nat, e = .ret (.sl 1 b 0 m cap) ∧ m ≤ a.size ∧ (m < a.size ↔ adjD a)
theorem SH_sub {h : Heap} {b cap : Nat} {a : Array Int} (hb : h b = none) : Sub h (SH h b cap a) := (Sub.refl h).upd hb _
theorem compact0_c (h : Heap) : ICall Tryz.prog 103 [.list .plain []] h (retP (.list .plain []) h) := by
  refine icall_of_iwp (fun _ => 0) Tryz.func103 rfl (by kernel_rfl) (Nat.le_of_ble_eq_true rfl) ?_
  rw [Tryz.results103]
  simp -implicitDefEqProofs [go_sem]
  exact ⟨_, Sub.refl _, rfl, rfl⟩
set_option maxRecDepth 20000 in
set_option maxHeartbeats 4000000 in
theorem compact_c (a : Array Int) (b cap : Nat) (h : Heap) (hb : h b = none) (hs : a.size < 1000000000) (hc : a.size ≤ cap) (h0 : 0 < a.size) : ICall Tryz.prog 103 [.sl 1 b 0 a.size cap] (SH h b cap a) (compR a b cap h) := by
  obtain ⟨n, hn⟩ : ∃ n, n = a.size := ⟨_, rfl⟩
  unfold compR
  rw [← hn] at hs hc h0 ⊢
  refine icall_of_iwp (fun _ => 0) Tryz.func103 rfl (by kernel_rfl) (Nat.le_of_ble_eq_true rfl) ?_
  rw [Tryz.results103]
  simp -implicitDefEqProofs [go_sem]
  refine cK_dec (fun hlt => ?_) (fun hge => ?_)
  · simp -implicitDefEqProofs [go_sem]
    refine ⟨h, SH_sub hb, rfl, ?_⟩
    rintro ⟨j, hj, _⟩
    omega
  simp -implicitDefEqProofs [go_sem]
  refine iwp_loopF (rng [3,4,5] 10 60) nom (fun s => ∃ i : Nat, 1 ≤ i ∧ i ≤ n ∧ s.t 3 = .int .i64 i ∧ s.h = SH h b cap a ∧ ∀ j, j + 1 < i → a[j]! ≠ a[j+1]!) (fun s => n - tn (s.t 3)) ?_ ?_
  · exact ⟨1, Nat.le_refl _, by omega, by simp -implicitDefEqProofs [go_sem], by simp -implicitDefEqProofs [go_sem], fun j hj => by omega⟩
  rintro J s hJ hf ⟨i, hi1, hi2, h3, hh, hno⟩
  simp -implicitDefEqProofs [go_sem, h3, hh, hf.t, hf.m]
  refine cK_dec (fun hlt => ?_) (fun hge => ?_)
  · obtain ⟨k, hk⟩ : ∃ k, i = k + 1 := ⟨i - 1, by omega⟩
    have hw := wrap_succ (i := i) (by omega)
    have hw1 : IntKind.i64.wrap ((i : Int) - 1) = (k : Int) := by rw [wrap_in (by omega)]; omega
    have hg1 := rowsD_get (d := a) (i := i) (by omega)
    have hg0 := rowsD_get (d := a) (i := k) (by omega)
    have hl1 : i < n := by omega
    have hl0 : k < n := by omega
    simp -implicitDefEqProofs [go_sem, h3, hh, hf.t, hf.m, hlt]
    refine iwp_drawn_of mixed [0,1,2,3,4,5,6,7,8,9] (by kernel_rfl) ?_
    simp -implicitDefEqProofs [go_sem, h3, hh, hf.t, hf.m, hw1, hg1, hg0, hl1, hl0, SH_at]
    refine cK_any (fun heq => ?_) (fun heq => ?_)
    · have hadj : adjD a := ⟨k, by omega, by rw [← hk]; exact (beq_iff_eq.1 heq).symm⟩
      have hic : i < cap := by omega
      simp -implicitDefEqProofs [go_sem, h3, hh, hf.t, hf.m, hl1, hi2, hc, hic, SH_at]
      refine iwp_loopF (rng [3,5] 29 54) nom (fun s => ∃ (i' k2 : Nat) (a' : Array Int), 1 ≤ i' ∧ 1 ≤ k2 ∧ i' < i + k2 ∧ i + k2 ≤ n ∧ a'.size = n ∧ s.t 3 = .int .i64 i' ∧ s.t 5 = .int .i64 k2 ∧ s.h = SH h b cap a') (fun s => n - tn (s.t 5)) ?_ ?_
      · exact ⟨i, 1, a, by omega, Nat.le_refl _, by omega, by omega, hn.symm, by simp -implicitDefEqProofs [go_sem, h3], by simp -implicitDefEqProofs [go_sem], by simp -implicitDefEqProofs [go_sem, hh]⟩
      rintro J2 s2 hJ2 hf2 ⟨i2, k2, a2, q1, q2, q3, q4, q5, h3', h5', hh2⟩
      simp -implicitDefEqProofs [go_sem, h3', h5', hh2, hf2.t, hf2.m, hf.t, hf.m]
      refine cK_dec (fun hlt2 => ?_) (fun hge2 => ?_)
      · obtain ⟨k3, hk3⟩ : ∃ k3, k2 = k3 + 1 := ⟨k2 - 1, by omega⟩
        have hw2 := wrap_succ (i := k2) (by omega)
        have hw4 := wrap_succ (i := i2) (by omega)
        have hw3 : IntKind.i64.wrap ((k2 : Int) - 1) = (k3 : Int) := by rw [wrap_in (by omega)]; omega
        have hg3 := rowsD_get (d := a2) (i := i + k2) (by omega)
        have hg4 := rowsD_get (d := a2) (i := i + k3) (by omega)
        have hg5 := rowsD_get (d := a2) (i := i2) (by omega)
        have hl3 : k2 < n - i := by omega
        have hl4 : k3 < n - i := by omega
        have hl5 : i2 < n := by omega
        simp -implicitDefEqProofs [go_sem, h3', h5', hh2, hf2.t, hf2.m, hf.t, hf.m, hlt2]
        refine iwp_drawn_of mixed [0,1,2,3,4,5,6,7,8,9] (by kernel_rfl) ?_
        simp -implicitDefEqProofs [go_sem, h3', h5', hh2, hf2.t, hf2.m, hf.t, hf.m, hw3, hg3, hg4, hl3, hl4, SH_at]
        refine cK_any (fun hq => ?_) (fun hq => ?_)
        · simp -implicitDefEqProofs [go_sem, h3', h5', hh2, hf2.t, hf2.m, hf.t, hf.m, hf2, hw2, hw4, hw3, hg3, hg4, hg5, hl3, hl4, hl5, SH_at]
          refine hJ2 _ ⟨i2 + 1, k2 + 1, a2.setIfInBounds i2 a2[i + k2]!, by omega, by omega, by omega, by omega, by simp [q5], by simp -implicitDefEqProofs [go_sem, hw4], by simp -implicitDefEqProofs [go_sem, hw2], ?_⟩ (by simp [go_sem, h5', hw2]; omega)
          funext q
          simp -implicitDefEqProofs [go_sem, hh2, SH, rowsD_set]
          try (split <;> rfl)
        · simp -implicitDefEqProofs [go_sem, h3', h5', hh2, hf2.t, hf2.m, hf.t, hf.m, hf2, hw2, hw4, hw3, hg3, hg4, hg5, hl3, hl4, hl5, SH_at]
          exact hJ2 _ ⟨i2, k2 + 1, a2, by omega, by omega, by omega, by omega, q5, by simp -implicitDefEqProofs [go_sem, h3'], by simp -implicitDefEqProofs [go_sem, hw2], by simp -implicitDefEqProofs [go_sem, hh2]⟩ (by simp [go_sem, h5', hw2]; omega)
      · have hl5 : i2 ≤ n := by omega
        have hl6 : i2 < cap := by omega
        have hlr : (rowsD a2).length = n := by rw [rowsD_len, q5]
        have h0c : 0 < cap := by omega
        have hl7 : i2 ≤ cap := by omega
        simp -implicitDefEqProofs [go_sem, h3', h5', hh2, hf2.t, hf2.m, hf.t, hf.m, hf2, hl5, hl6, hl7, h0c, hlr, hc, SH_at]
        exact ⟨h, by rw [SH_upd]; exact (Sub.refl h).upd hb _, rfl, ⟨fun _ => hadj, fun _ => by omega⟩⟩
    · simp -implicitDefEqProofs [go_sem, h3, hh, hf.t, hf.m, hf, hw]
      exact hJ _ ⟨i + 1, by omega, by omega, by simp -implicitDefEqProofs [go_sem, hw], by simp -implicitDefEqProofs [go_sem, hh], fun j hj => by
        by_cases hji : j + 1 < i
        · exact hno j hji
        · obtain rfl : j = k := by omega
          rw [← hk]; exact fun e => by rw [e] at heq; simp at heq⟩ (by simp [go_sem, h3, hw]; omega)
  · simp -implicitDefEqProofs [go_sem, h3, hh, hf.t, hf.m]
    refine ⟨h, SH_sub hb, rfl, ?_⟩
    rintro ⟨j, hj, hja⟩
    exact absurd hja (hno j (by omega))

theorem sortL_sorted (l : List Int) : (sortL l).Pairwise (· ≤ ·) := by
  have := List.pairwise_mergeSort (le := fun x y : Int => decide (x ≤ y)) (by intro a b c; simp; omega) (by intro a b; simp; omega) l
  exact this.imp (by simp)
theorem sorted_unique : ∀ {a b : List Int}, a.Perm b → a.Pairwise (· ≤ ·) → b.Pairwise (· ≤ ·) → a = b
  | [], b, hp, _, _ => (List.nil_perm.1 hp).symm
  | x :: a, b, hp, ha, hb => by
    cases b with
    | nil => exact absurd hp.length_eq (by simp)
    | cons y b =>
      have hx : x ∈ y :: b := hp.subset (List.mem_cons_self)
      have hy : y ∈ x :: a := hp.symm.subset (List.mem_cons_self)
      have h1 : x ≤ y := by
        rcases List.mem_cons.1 hy with h | h
        · omega
        · exact (List.pairwise_cons.1 ha).1 y h
      have h2 : y ≤ x := by
        rcases List.mem_cons.1 hx with h | h
        · omega
        · exact (List.pairwise_cons.1 hb).1 x h
      obtain rfl : x = y := by omega
      rw [sorted_unique ((List.perm_cons x).1 hp) (List.pairwise_cons.1 ha).2 (List.pairwise_cons.1 hb).2]
theorem sortL_congr {a b : List Int} (h : a.Perm b) : sortL a = sortL b := sorted_unique (((sortL_perm a).trans h).trans (sortL_perm b).symm) (sortL_sorted a) (sortL_sorted b)
theorem adj_sort {ss : List Int} : adjD (sortL ss).toArray ↔ ¬ ss.Nodup := by
  have hs : (sortL ss).Pairwise (· ≤ ·) := by
    have := List.pairwise_mergeSort (le := fun x y : Int => decide (x ≤ y)) (by intro a b c; simp; omega) (by intro a b; simp; omega) ss
    exact this.imp (by simp)
  have hp := sortL_perm ss
  rw [← hp.nodup_iff]
  generalize sortL ss = l at hs
  constructor
  · rintro ⟨j, hj, he⟩ hn
    simp only [List.size_toArray] at hj
    have h1 : l.toArray[j]! = l[j] := by rw [getElem!_pos l.toArray j (by simp; omega)]; simp
    have h2 : l.toArray[j+1]! = l[j+1] := by rw [getElem!_pos l.toArray (j+1) (by simp; omega)]; simp
    rw [h1, h2] at he
    exact (List.pairwise_iff_getElem.1 hn j (j+1) (by omega) hj (by omega)) he
  · intro hn
    apply Classical.byContradiction
    intro hc
    apply hn
    have hlt : ∀ j, (h : j + 1 < l.length) → l[j] < l[j+1] := by
      intro j h
      have h1 : l.toArray[j]! = l[j] := by rw [getElem!_pos l.toArray j (by simp; omega)]; simp
      have h2 : l.toArray[j+1]! = l[j+1] := by rw [getElem!_pos l.toArray (j+1) (by simp; omega)]; simp
      have hle := List.pairwise_iff_getElem.1 hs j (j+1) (by omega) h (by omega)
      have hne : l[j] ≠ l[j+1] := fun e => hc ⟨j, by simpa using h, by rw [h1, h2]; exact e⟩
      omega
    have hlt2 : ∀ d j, (h : j + d + 1 < l.length) → l[j] < l[j+d+1] := by
      intro d
      induction d with
      | zero => exact fun j h => hlt j h
      | succ d ih =>
        intro j h
        have := ih j (by omega)
        have := hlt (j+d+1) (by omega)
        have e : j + (d+1) + 1 = j + d + 1 + 1 := by omega
        simp only [e]
        omega
    rw [List.Nodup, List.pairwise_iff_getElem]
    intro i j hi hj hij
    have := hlt2 (j - i - 1) i (by omega)
    have e : i + (j - i - 1) + 1 = j := by omega
    simp only [e] at this
    omega
end Go.Proofs
