/- This text is a part of the proofs of the statements of this seat: the ideal states and their rules, or what one of the functions that the statements reach comes to. Conditions: none beyond those that each theorem names. -/
import Derived.Test.YtiloboepepdcgaaMA
import Derived.Test.YtiloboepepdcgaaGD
import Derived.Test.YtiloboepepdcgaaCB
set_option linter.unusedVariables false
set_option linter.unusedSimpArgs false
set_option pp.deepTerms false
set_option pp.maxSteps 400
namespace Go.Proofs
open Go.Idl

/-! lists of ids: Values, Compact, IndexFunc -/
def valuesR (tk : Tok) (l : List Int) (h : Heap) (e : IEnd) (h' : Heap) : Prop := ∃ bx, h bx = none ∧ e = .ret (.fn (.func 81) [] [.ptr bx 0]) ∧ h' = upd h bx (some (.cells [.list tk (l.map intRow)]))
theorem values_c (l : List Int) (h : Heap) : ICall Try.prog 54 [.list .plain (l.map intRow)] h (valuesR .plain l h) := by
  refine icall_of_iwp (fun d => if d = 1 then 1 else 0) Try.func54 rfl (by kernel_rfl) (Nat.le_of_ble_eq_true rfl) ?_
  rw [Try.results54]
  simp -implicitDefEqProofs [go_sem]
  intro b hb
  exact ⟨_, Sub.refl _, b, hb, rfl, rfl⟩

def adjD (a : Array Int) : Prop := ∃ j, j + 1 < a.size ∧ a[j]! = a[j+1]!
def compR (a : Array Int) (b cap : Nat) (h : Heap) (e : IEnd) (h' : Heap) : Prop := h' = h ∧ ∃ m : Nat, e = .ret (.sl 1 b 0 m cap) ∧ m ≤ a.size ∧ (m < a.size ↔ adjD a)
theorem SH_sub {h : Heap} {b cap : Nat} {a : Array Int} (hb : h b = none) : Sub h (SH h b cap a) := (Sub.refl h).upd hb _
theorem compact0_c (h : Heap) : ICall Try.prog 55 [.list .plain []] h (retP (.list .plain []) h) := by
  refine icall_of_iwp (fun _ => 0) Try.func55 rfl (by kernel_rfl) (Nat.le_of_ble_eq_true rfl) ?_
  rw [Try.results55]
  simp -implicitDefEqProofs [go_sem]
  exact ⟨_, Sub.refl _, rfl, rfl⟩
set_option maxRecDepth 20000 in
set_option maxHeartbeats 4000000 in
theorem compact_c (a : Array Int) (b cap : Nat) (h : Heap) (hb : h b = none) (hs : a.size < 1000000000) (hc : a.size ≤ cap) (h0 : 0 < a.size) : ICall Try.prog 55 [.sl 1 b 0 a.size cap] (SH h b cap a) (compR a b cap h) := by
  obtain ⟨n, hn⟩ : ∃ n, n = a.size := ⟨_, rfl⟩
  unfold compR
  rw [← hn] at hs hc h0 ⊢
  refine icall_of_iwp (fun _ => 0) Try.func55 rfl (by kernel_rfl) (Nat.le_of_ble_eq_true rfl) ?_
  rw [Try.results55]
  simp -implicitDefEqProofs [go_sem]
  refine cK_dec (fun hlt => ?_) (fun hge => ?_)
  · simp -implicitDefEqProofs [go_sem]
    refine ⟨h, SH_sub hb, rfl, ?_⟩
    rintro ⟨j, hj, _⟩
    omega
  simp -implicitDefEqProofs [go_sem]
  refine iwp_loopF (rng [3,4,5] 10 60) nom (fun s => ∃ i : Nat, 1 ≤ i ∧ i ≤ n ∧ s.t 3 = .int .i64 i ∧ s.h = SH h b cap a ∧ ∀ j, j + 1 < i → a[j]! ≠ a[j+1]!) (fun s => n - tn (s.t 3)) ?_ ?_
  · exact ⟨1, Nat.le_refl _, by omega, by simp -implicitDefEqProofs [go_sem], by simp -implicitDefEqProofs [go_sem], fun j hj => by omega⟩
  rintro J s hJ hf ⟨i, hi1, hi2, h3, hh, hno⟩
  simp -implicitDefEqProofs [go_sem, h3, hh, hf.t, hf.m]
  refine cK_dec (fun hlt => ?_) (fun hge => ?_)
  · obtain ⟨k, hk⟩ : ∃ k, i = k + 1 := ⟨i - 1, by omega⟩
    have hw := wrap_succ (i := i) (by omega)
    have hw1 : IntKind.i64.wrap ((i : Int) - 1) = (k : Int) := by rw [wrap_in (by omega)]; omega
    have hg1 := rowsD_get (d := a) (i := i) (by omega)
    have hg0 := rowsD_get (d := a) (i := k) (by omega)
    have hl1 : i < n := by omega
    have hl0 : k < n := by omega
    simp -implicitDefEqProofs [go_sem, h3, hh, hf.t, hf.m, hlt]
    refine iwp_drawn_of mixed [0,1,2,3,4,5,6,7,8,9] (by kernel_rfl) ?_
    simp -implicitDefEqProofs [go_sem, h3, hh, hf.t, hf.m, hw1, hg1, hg0, hl1, hl0, SH_at]
    refine cK_any (fun heq => ?_) (fun heq => ?_)
    · have hadj : adjD a := ⟨k, by omega, by rw [← hk]; exact (beq_iff_eq.1 heq).symm⟩
      have hic : i < cap := by omega
      simp -implicitDefEqProofs [go_sem, h3, hh, hf.t, hf.m, hl1, hi2, hc, hic, SH_at]
      refine iwp_loopF (rng [3,5] 29 54) nom (fun s => ∃ (i' k2 : Nat) (a' : Array Int), 1 ≤ i' ∧ 1 ≤ k2 ∧ i' < i + k2 ∧ i + k2 ≤ n ∧ a'.size = n ∧ s.t 3 = .int .i64 i' ∧ s.t 5 = .int .i64 k2 ∧ s.h = SH h b cap a') (fun s => n - tn (s.t 5)) ?_ ?_
      · exact ⟨i, 1, a, by omega, Nat.le_refl _, by omega, by omega, hn.symm, by simp -implicitDefEqProofs [go_sem, h3], by simp -implicitDefEqProofs [go_sem], by simp -implicitDefEqProofs [go_sem, hh]⟩
      rintro J2 s2 hJ2 hf2 ⟨i2, k2, a2, q1, q2, q3, q4, q5, h3', h5', hh2⟩
      simp -implicitDefEqProofs [go_sem, h3', h5', hh2, hf2.t, hf2.m, hf.t, hf.m]
      refine cK_dec (fun hlt2 => ?_) (fun hge2 => ?_)
      · obtain ⟨k3, hk3⟩ : ∃ k3, k2 = k3 + 1 := ⟨k2 - 1, by omega⟩
        have hw2 := wrap_succ (i := k2) (by omega)
        have hw4 := wrap_succ (i := i2) (by omega)
        have hw3 : IntKind.i64.wrap ((k2 : Int) - 1) = (k3 : Int) := by rw [wrap_in (by omega)]; omega
        have hg3 := rowsD_get (d := a2) (i := i + k2) (by omega)
        have hg4 := rowsD_get (d := a2) (i := i + k3) (by omega)
        have hg5 := rowsD_get (d := a2) (i := i2) (by omega)
        have hl3 : k2 < n - i := by omega
        have hl4 : k3 < n - i := by omega
        have hl5 : i2 < n := by omega
        simp -implicitDefEqProofs [go_sem, h3', h5', hh2, hf2.t, hf2.m, hf.t, hf.m, hlt2]
        refine iwp_drawn_of mixed [0,1,2,3,4,5,6,7,8,9] (by kernel_rfl) ?_
        simp -implicitDefEqProofs [go_sem, h3', h5', hh2, hf2.t, hf2.m, hf.t, hf.m, hw3, hg3, hg4, hl3, hl4, SH_at]
        refine cK_any (fun hq => ?_) (fun hq => ?_)
        · simp -implicitDefEqProofs [go_sem, h3', h5', hh2, hf2.t, hf2.m, hf.t, hf.m, hf2, hw2, hw4, hw3, hg3, hg4, hg5, hl3, hl4, hl5, SH_at]
          refine hJ2 _ ⟨i2 + 1, k2 + 1, a2.setIfInBounds i2 a2[i + k2]!, by omega, by omega, by omega, by omega, by simp [q5], by simp -implicitDefEqProofs [go_sem, hw4], by simp -implicitDefEqProofs [go_sem, hw2], ?_⟩ (by simp [go_sem, h5', hw2]; omega)
          funext q
          simp -implicitDefEqProofs [go_sem, hh2, SH, rowsD_set]
          try (split <;> rfl)
        · simp -implicitDefEqProofs [go_sem, h3', h5', hh2, hf2.t, hf2.m, hf.t, hf.m, hf2, hw2, hw4, hw3, hg3, hg4, hg5, hl3, hl4, hl5, SH_at]
          exact hJ2 _ ⟨i2, k2 + 1, a2, by omega, by omega, by omega, by omega, q5, by simp -implicitDefEqProofs [go_sem, h3'], by simp -implicitDefEqProofs [go_sem, hw2], by simp -implicitDefEqProofs [go_sem, hh2]⟩ (by simp [go_sem, h5', hw2]; omega)
      · have hl5 : i2 ≤ n := by omega
        have hl6 : i2 < cap := by omega
        have hlr : (rowsD a2).length = n := by rw [rowsD_len, q5]
        have h0c : 0 < cap := by omega
        have hl7 : i2 ≤ cap := by omega
        simp -implicitDefEqProofs [go_sem, h3', h5', hh2, hf2.t, hf2.m, hf.t, hf.m, hf2, hl5, hl6, hl7, h0c, hlr, hc, SH_at]
        exact ⟨h, by rw [SH_upd]; exact (Sub.refl h).upd hb _, rfl, ⟨fun _ => hadj, fun _ => by omega⟩⟩
    · simp -implicitDefEqProofs [go_sem, h3, hh, hf.t, hf.m, hf, hw]
      exact hJ _ ⟨i + 1, by omega, by omega, by simp -implicitDefEqProofs [go_sem, hw], by simp -implicitDefEqProofs [go_sem, hh], fun j hj => by
        by_cases hji : j + 1 < i
        · exact hno j hji
        · obtain rfl : j = k := by omega
          rw [← hk]; exact fun e => by rw [e] at heq; simp at heq⟩ (by simp [go_sem, h3, hw]; omega)
  · simp -implicitDefEqProofs [go_sem, h3, hh, hf.t, hf.m]
    refine ⟨h, SH_sub hb, rfl, ?_⟩
    rintro ⟨j, hj, hja⟩
    exact absurd hja (hno j (by omega))

theorem sortL_sorted (l : List Int) : (sortL l).Pairwise (· ≤ ·) := by
  have := List.pairwise_mergeSort (le := fun x y : Int => decide (x ≤ y)) (by intro a b c; simp; omega) (by intro a b; simp; omega) l
  exact this.imp (by simp)
theorem sorted_unique : ∀ {a b : List Int}, a.Perm b → a.Pairwise (· ≤ ·) → b.Pairwise (· ≤ ·) → a = b
  | [], b, hp, _, _ => (List.nil_perm.1 hp).symm
  | x :: a, b, hp, ha, hb => by
    cases b with
    | nil => exact absurd hp.length_eq (by simp)
    | cons y b =>
      have hx : x ∈ y :: b := hp.subset (List.mem_cons_self)
      have hy : y ∈ x :: a := hp.symm.subset (List.mem_cons_self)
      have h1 : x ≤ y := by
        rcases List.mem_cons.1 hy with h | h
        · omega
        · exact (List.pairwise_cons.1 ha).1 y h
      have h2 : y ≤ x := by
        rcases List.mem_cons.1 hx with h | h
        · omega
        · exact (List.pairwise_cons.1 hb).1 x h
      obtain rfl : x = y := by omega
      rw [sorted_unique ((List.perm_cons x).1 hp) (List.pairwise_cons.1 ha).2 (List.pairwise_cons.1 hb).2]
theorem sortL_congr {a b : List Int} (h : a.Perm b) : sortL a = sortL b := sorted_unique (((sortL_perm a).trans h).trans (sortL_perm b).symm) (sortL_sorted a) (sortL_sorted b)
theorem adj_sort {ss : List Int} : adjD (sortL ss).toArray ↔ ¬ ss.Nodup := by
  have hs : (sortL ss).Pairwise (· ≤ ·) := by
    have := List.pairwise_mergeSort (le := fun x y : Int => decide (x ≤ y)) (by intro a b c; simp; omega) (by intro a b; simp; omega) ss
    exact this.imp (by simp)
  have hp := sortL_perm ss
  rw [← hp.nodup_iff]
  generalize sortL ss = l at hs
  constructor
  · rintro ⟨j, hj, he⟩ hn
    simp only [List.size_toArray] at hj
    have h1 : l.toArray[j]! = l[j] := by rw [getElem!_pos l.toArray j (by simp; omega)]; simp
    have h2 : l.toArray[j+1]! = l[j+1] := by rw [getElem!_pos l.toArray (j+1) (by simp; omega)]; simp
    rw [h1, h2] at he
    exact (List.pairwise_iff_getElem.1 hn j (j+1) (by omega) hj (by omega)) he
  · intro hn
    apply Classical.byContradiction
    intro hc
    apply hn
    have hlt : ∀ j, (h : j + 1 < l.length) → l[j] < l[j+1] := by
      intro j h
      have h1 : l.toArray[j]! = l[j] := by rw [getElem!_pos l.toArray j (by simp; omega)]; simp
      have h2 : l.toArray[j+1]! = l[j+1] := by rw [getElem!_pos l.toArray (j+1) (by simp; omega)]; simp
      have hle := List.pairwise_iff_getElem.1 hs j (j+1) (by omega) h (by omega)
      have hne : l[j] ≠ l[j+1] := fun e => hc ⟨j, by simpa using h, by rw [h1, h2]; exact e⟩
      omega
    have hlt2 : ∀ d j, (h : j + d + 1 < l.length) → l[j] < l[j+d+1] := by
      intro d
      induction d with
      | zero => exact fun j h => hlt j h
      | succ d ih =>
        intro j h
        have := ih j (by omega)
        have := hlt (j+d+1) (by omega)
        have e : j + (d+1) + 1 = j + d + 1 + 1 := by omega
        simp only [e]
        omega
    rw [List.Nodup, List.pairwise_iff_getElem]
    intro i j hi hj hij
    have := hlt2 (j - i - 1) i (by omega)
    have e : i + (j - i - 1) + 1 = j := by omega
    simp only [e] at this
    omega
end Go.Proofs

set_option linter.unusedVariables false
set_option linter.unusedSimpArgs false
set_option pp.deepTerms false
set_option pp.maxSteps 400
namespace Go.Proofs
open Go.Idl

def mkV (x : Cel × Int) : IV := .tup [.agg x.1.row, .int .i64 x.2]
theorem mkV_bad {p w h size : Int} {ids : List Int} (hn : ¬ (1 ≤ p ∧ p ≤ 5 ∧ (Rct.mk 0 0 w h).may = true ∧ rightL ids)) : mkV (makeV p w h size ids) = .tup [.agg Cel.zero.row, .int .i64 1] := by rw [makeV, if_neg hn]; rfl
theorem mkV_ok {p w h size : Int} {ids : List Int} (hn : 1 ≤ p ∧ p ≤ 5 ∧ (Rct.mk 0 0 w h).may = true ∧ rightL ids) : mkV (makeV p w h size ids) = madeR (madeC p ⟨0, 0, w, h⟩ size ids) := by
  rw [makeV, if_pos hn]; cases madeC p ⟨0, 0, w, h⟩ size ids <;> rfl
theorem sortL_rng {ids : List Int} (hne : ids ≠ []) : (∀ n ∈ ids, 0 ≤ n ∧ n ≤ 2147483647) ↔ ¬ (sortL ids).toArray[0]! < 0 ∧ ¬ (2147483647 : Int) < (sortL ids).toArray[ids.length - 1]! := by
  have hs := sortL_sorted ids
  have hl := sortL_len ids
  have hp : 0 < ids.length := List.length_pos_iff.2 hne
  have hm : ∀ n, n ∈ ids ↔ n ∈ sortL ids := fun n => ((sortL_perm ids).mem_iff).symm
  have e0 : (sortL ids).toArray[0]! = (sortL ids)[0] := by rw [getElem!_pos _ 0 (by simp; omega)]; simp
  have e1 : (sortL ids).toArray[ids.length - 1]! = (sortL ids)[ids.length - 1] := by rw [getElem!_pos _ (ids.length - 1) (by simp; omega)]; simp
  rw [e0, e1]
  constructor
  · intro h
    have a := h _ ((hm _).2 (List.getElem_mem (show 0 < (sortL ids).length by omega)))
    have b := h _ ((hm _).2 (List.getElem_mem (show ids.length - 1 < (sortL ids).length by omega)))
    omega
  · rintro ⟨a, b⟩ n hn
    obtain ⟨i, hi, rfl⟩ := List.getElem_of_mem ((hm n).1 hn)
    have lo : (sortL ids)[0] ≤ (sortL ids)[i] := by
      rcases Nat.eq_zero_or_pos i with h | h
      · subst h; exact Int.le_refl _
      · exact List.pairwise_iff_getElem.1 hs 0 i (by omega) hi h
    have hi2 : (sortL ids)[i] ≤ (sortL ids)[ids.length - 1] := by
      by_cases h : i = ids.length - 1
      · subst h; exact Int.le_refl _
      · exact List.pairwise_iff_getElem.1 hs i (ids.length - 1) hi (by omega) (by omega)
    omega
set_option maxRecDepth 20000 in
set_option maxHeartbeats 4000000 in
theorem pMake_c (p w hh size : Int) (ids : List Int) (h : Heap) (hl : ids.length ≤ 100000000) :
    ICall Try.prog 41 [.int .u8 p, .int .i64 w, .int .i64 hh, .int .i64 size, .list .plain (ids.map intRow)] h (retP (mkV (makeV p w hh size ids)) h) := by
  refine icall_of_iwp (fun _ => 0) Try.func41 rfl (by kernel_rfl) (Nat.le_of_ble_eq_true rfl) ?_
  rw [Try.results41]
  have hR : [IV.int .i64 0, .int .i64 0, .int .i64 w, .int .i64 hh] = (Rct.mk 0 0 w hh).row := rfl
  simp -implicitDefEqProofs [go_sem, hR]
  refine (values_c ids h).mono ?_
  rintro e h' ⟨bx, hbx, rfl, rfl⟩
  simp -implicitDefEqProofs [go_sem]
  refine (sorted_c (values_it (upd_same _ _ _) (by omega)) (by omega) (by rintro ss rfl; exact Nat.le_refl _) rfl).mono ?_
  rintro e h' ⟨ss, hss, hcase⟩
  rw [hss] at hcase
  clear hss ss
  have hsub1 := (Sub.refl h).upd hbx (some (.cells [.list .plain (ids.map intRow)]))
  rcases hcase with ⟨rfl, rfl, rfl⟩ | ⟨hne, b, cap, hb, hle, rfl, rfl⟩
  · simp -implicitDefEqProofs [go_sem]
    refine cK_dec (fun p1 => ?_) (fun p1 => ?_)
    · simp -implicitDefEqProofs [go_sem]
      exact ⟨h, hsub1, by rw [mkV_bad (by omega), Cel.zero_row], rfl⟩
    simp -implicitDefEqProofs [go_sem]
    refine cK_dec (fun p2 => ?_) (fun p2 => ?_)
    · simp -implicitDefEqProofs [go_sem]
      exact ⟨h, hsub1, by rw [mkV_bad (by omega), Cel.zero_row], rfl⟩
    simp -implicitDefEqProofs [go_sem]
    refine (rMay_c [⟨0, 0, w, hh⟩] (by simp) _).mono ?_
    rintro e h' ⟨rfl, rfl⟩
    simp -implicitDefEqProofs [go_sem]
    cases hm : (Rct.mk 0 0 w hh).may with
    | false =>
      simp -implicitDefEqProofs [go_sem]
      exact ⟨h, hsub1, by rw [mkV_bad (by rw [hm]; simp), Cel.zero_row], rfl⟩
    | true =>
      simp -implicitDefEqProofs [go_sem]
      exact ⟨h, hsub1, by rw [mkV_bad (by rintro ⟨_, _, _, h, _⟩; simp at h), Cel.zero_row], rfl⟩
  · have hsl := sortL_len ids
    have hp : 0 < ids.length := List.length_pos_iff.2 hne
    have hbxb : b ≠ bx := fun e => by subst e; rw [upd_same] at hb; cases hb
    have hb' : h b = none := by rw [upd_ne _ _ hbxb] at hb; exact hb
    have hsub2 : Sub h (SH (upd h bx (some (.cells [.list .plain (ids.map intRow)]))) b cap (sortL ids).toArray) := ((Sub.refl h).upd hbx _).upd hb' _
    obtain ⟨a, ha⟩ : ∃ a, a = (sortL ids).toArray := ⟨_, rfl⟩
    have has : a.size = ids.length := by rw [ha]; simp [hsl]
    rw [← ha] at hsub2 ⊢
    simp -implicitDefEqProofs [go_sem]
    refine cK_dec (fun p1 => ?_) (fun p1 => ?_)
    · simp -implicitDefEqProofs [go_sem]
      exact ⟨h, hsub2, by rw [mkV_bad (by omega), Cel.zero_row], rfl⟩
    simp -implicitDefEqProofs [go_sem]
    refine cK_dec (fun p2 => ?_) (fun p2 => ?_)
    · simp -implicitDefEqProofs [go_sem]
      exact ⟨h, hsub2, by rw [mkV_bad (by omega), Cel.zero_row], rfl⟩
    simp -implicitDefEqProofs [go_sem]
    refine (rMay_c [⟨0, 0, w, hh⟩] (by simp) _).mono ?_
    rintro e h' ⟨rfl, rfl⟩
    simp -implicitDefEqProofs [go_sem]
    cases hm : (Rct.mk 0 0 w hh).may with
    | false =>
      simp -implicitDefEqProofs [go_sem]
      exact ⟨h, hsub2, by rw [mkV_bad (by rw [hm]; simp), Cel.zero_row], rfl⟩
    | true =>
      have hn1 : ¬ (ids.length : Int) < 1 := by omega
      have hd1 : decide ((ids.length : Int) < 1) = false := by simp; omega
      simp -implicitDefEqProofs [go_sem, hd1]
      refine cK_dec (fun p3 => ?_) (fun p3 => ?_)
      · simp -implicitDefEqProofs [go_sem]
        exact ⟨h, hsub2, by rw [mkV_bad (by rintro ⟨_, _, _, _, h, _⟩; omega), Cel.zero_row], rfl⟩
      have hg0 := rowsD_get (d := a) (i := 0) (by omega)
      have hg1 := rowsD_get (d := a) (i := ids.length - 1) (by omega)
      have hw1 : IntKind.i64.wrap ((ids.length : Int) - 1) = ((ids.length - 1 : Nat) : Int) := by rw [wrap_in (by omega)]; omega
      have hrng := sortL_rng hne
      rw [← ha] at hrng
      simp -implicitDefEqProofs [go_sem, hg0, hp, SH_at]
      refine cK_dec (fun p4 => ?_) (fun p4 => ?_)
      · simp -implicitDefEqProofs [go_sem]
        exact ⟨h, hsub2, by rw [mkV_bad (by rintro ⟨_, _, _, _, _, h, _⟩; exact (hrng.1 h).1 p4), Cel.zero_row], rfl⟩
      have hp1 : ids.length - 1 < ids.length := by omega
      simp -implicitDefEqProofs [go_sem, hg0, hg1, hw1, hp, hp1, SH_at]
      refine cK_dec (fun p5 => ?_) (fun p5 => ?_)
      · simp -implicitDefEqProofs [go_sem]
        exact ⟨h, hsub2, by rw [mkV_bad (by rintro ⟨_, _, _, _, _, h, _⟩; exact (hrng.1 h).2 p5), Cel.zero_row], rfl⟩
      simp -implicitDefEqProofs [go_sem]
      have hcomp := compact_c a b cap (upd h bx (some (.cells [.list .plain (ids.map intRow)]))) hb (by omega) (by rw [has]; omega) (by omega)
      rw [has] at hcomp
      refine hcomp.mono ?_
      rintro e h' ⟨rfl, m, rfl, hm1, hm2⟩
      rw [has] at hm1 hm2
      rw [ha, adj_sort] at hm2
      simp -implicitDefEqProofs [go_sem]
      refine cK_dec (fun p6 => ?_) (fun p6 => ?_)
      · simp -implicitDefEqProofs [go_sem]
        exact ⟨h, hsub1, by rw [mkV_bad (by rintro ⟨_, _, _, _, _, _, h⟩; exact hm2.1 (by omega) h), Cel.zero_row], rfl⟩
      have hok : 1 ≤ p ∧ p ≤ 5 ∧ (Rct.mk 0 0 w hh).may = true ∧ rightL ids := ⟨by omega, by omega, hm, by omega, by omega, hrng.2 ⟨p4, p5⟩, Decidable.byContradiction fun h => by have := hm2.2 h; omega⟩
      simp -implicitDefEqProofs [go_sem]
      refine (made_c p ⟨0, 0, w, hh⟩ size ids _ hm hne (by omega)).mono ?_
      rintro e h' ⟨rfl, rfl⟩
      have hfin := mkV_ok (size := size) hok
      cases hmd : madeC p ⟨0, 0, w, hh⟩ size ids <;> simp -implicitDefEqProofs [go_sem, madeR]
      · exact ⟨h, hsub1, by rw [hfin, hmd, madeR], rfl⟩
      · exact ⟨h, hsub1, by rw [hfin, hmd, madeR], rfl⟩
end Go.Proofs

set_option linter.unusedVariables false
set_option linter.unusedSimpArgs false
set_option pp.deepTerms false
set_option pp.maxSteps 400
namespace Go.Proofs
open Go.Idl

/-! the reference's layouts -/
def refV : Option Cel → IV
  | some c => .tup [.agg c.row, .bool true]
  | none => .tup [.agg Cel.zero.row, .bool false]
theorem rleaf_c (r : Rct) (id : Int) (h : Heap) : ICall Try.prog 101 [.agg r.row, .int .i64 id] h (retP (.agg (lf r id).row) h) := by
  refine icall_of_iwp (fun _ => 0) Try.func101 rfl (by kernel_rfl) (Nat.le_of_ble_eq_true rfl) ?_
  rw [Try.results101, lf, Cel.row_mk]
  simp -implicitDefEqProofs [go_sem]
  exact ⟨h, Sub.refl _, rfl, rfl⟩
def okR (ids : List Int) (i : Nat) : Prop := ∀ j, j < i → ∀ n, ids[j]? = some n → 0 ≤ n ∧ n ≤ 2147483647 ∧ n ∉ ids.take j
theorem okR_all {ids : List Int} : okR ids ids.length ↔ (∀ n ∈ ids, 0 ≤ n ∧ n ≤ 2147483647) ∧ ids.Nodup := by
  constructor
  · intro h
    refine ⟨fun n hn => ?_, ?_⟩
    · obtain ⟨j, hj, rfl⟩ := List.getElem_of_mem hn
      have := h j hj _ (List.getElem?_eq_getElem hj)
      exact ⟨this.1, this.2.1⟩
    · rw [List.Nodup, List.pairwise_iff_getElem]
      intro i j hi hj hij e
      refine (h j hj _ (List.getElem?_eq_getElem hj)).2.2 ?_
      rw [← e, List.mem_take_iff_getElem]
      exact ⟨i, by omega, rfl⟩
  · rintro ⟨h1, h2⟩ j hj n hn
    obtain ⟨hj2, rfl⟩ := List.getElem?_eq_some_iff.1 hn
    refine ⟨(h1 _ (List.getElem_mem hj2)).1, (h1 _ (List.getElem_mem hj2)).2, fun hm => ?_⟩
    rw [List.mem_take_iff_getElem] at hm
    obtain ⟨i, hi, e⟩ := hm
    rw [List.Nodup, List.pairwise_iff_getElem] at h2
    exact h2 i j (by omega) hj2 (by omega) e
open Classical in
set_option maxRecDepth 20000 in
set_option maxHeartbeats 4000000 in
theorem right_c (ids : List Int) (hl : ids.length ≤ 100000000) (h : Heap) : ICall Try.prog 73 [.list .plain (ids.map intRow)] h (retP (.bool (decide (rightL ids))) h) := by
  refine icall_of_iwp (fun _ => 0) Try.func73 rfl (by kernel_rfl) (Nat.le_of_ble_eq_true rfl) ?_
  rw [Try.results73]
  simp -implicitDefEqProofs [go_sem]
  refine iwp_loopF (rng [2,3] 6 31) nom (fun s => ∃ i : Nat, i ≤ ids.length ∧ s.t 6 = .int .i64 i ∧ s.h = h ∧ okR ids i) (fun s => ids.length - tn (s.t 6)) ?_ ?_
  · exact ⟨0, Nat.zero_le _, by simp -implicitDefEqProofs [go_sem], by simp -implicitDefEqProofs [go_sem], fun j hj => by omega⟩
  rintro J s hJ hf ⟨i, hi, h6, hh, hok⟩
  simp -implicitDefEqProofs [go_sem, h6, hh, hf.t, hf.m]
  have no : i < ids.length → ∀ n, ids[i]? = some n → ¬ (0 ≤ n ∧ n ≤ 2147483647 ∧ n ∉ ids.take i) → decide (rightL ids) = false := fun hlt n hn hc => by
    rw [decide_eq_false_iff_not]
    rintro ⟨_, _, h1, h2⟩
    exact hc (okR_all.2 ⟨h1, h2⟩ i hlt n hn)
  refine cK_dec (fun hlt => ?_) (fun hge => ?_)
  · have hlt' : i < ids.length := by omega
    have hg : ids[i]? = some ids[i] := List.getElem?_eq_getElem hlt'
    have hg2 : (ids.map intRow)[i]? = some [.int .i64 ids[i]] := by simp [hg, intRow]
    have hw := wrap_succ (i := i) (by omega)
    simp -implicitDefEqProofs [go_sem, h6, hh, hf.t, hf.m, hlt', hg2]
    refine iwp_drawn_of mixed [0,1,2,3,4,5,6,7,8,9,10,11,12,13,14,15,16,17,18,19,20,21] (by kernel_rfl) ?_
    simp -implicitDefEqProofs [go_sem, h6, hh, hf.t, hf.m, hlt', hg2]
    refine cK_dec (fun h0 => ?_) (fun h0 => ?_)
    · simp -implicitDefEqProofs [go_sem, h6, hh, hf.t, hf.m, hlt', hg2, h0]
      exact ⟨_, Sub.refl _, by rw [no hlt' _ hg (by omega)], rfl⟩
    simp -implicitDefEqProofs [go_sem, h6, hh, hf.t, hf.m, hlt', hg2, h0]
    refine cK_dec (fun h1 => ?_) (fun h1 => ?_)
    · simp -implicitDefEqProofs [go_sem, h6, hh, hf.t, hf.m, hlt', hg2, h0, h1]
      exact ⟨_, Sub.refl _, by rw [no hlt' _ hg (by omega)], rfl⟩
    have hi3 : (i : Int) ≤ (ids.length : Int) := by omega
    have hin := in_c (ids.take i) ids[i] h (by simp; omega)
    rw [List.map_take] at hin
    simp -implicitDefEqProofs [go_sem, h6, hh, hf.t, hf.m, hlt', hg2, h0, h1, hi]
    refine ⟨_, hin, ?_⟩
    simp -implicitDefEqProofs [go_sem, h6, hh, hf.t, hf.m, hlt', hg2, h0, h1]
    refine cK_dec (fun h2 => ?_) (fun h2 => ?_)
    · simp -implicitDefEqProofs [go_sem, h6, hh, hf.t, hf.m, hlt', hg2, h0, h1, h2]
      exact ⟨_, Sub.refl _, by rw [no hlt' _ hg (by rintro ⟨_, _, h⟩; exact h h2)], rfl⟩
    simp -implicitDefEqProofs [go_sem, h6, hh, hf.t, hf.m, hf, hlt', hg2, h0, h1, h2, hw]
    refine hJ _ ⟨i + 1, by omega, by simp -implicitDefEqProofs [go_sem, hw], by simp -implicitDefEqProofs [go_sem, hh], fun j hj n hn => ?_⟩ (by simp [go_sem, h6, hw]; omega)
    by_cases hji : j = i
    · subst hji; rw [hg] at hn; cases hn; exact ⟨by omega, by omega, h2⟩
    · exact hok j (by omega) n hn
  · obtain rfl : i = ids.length := by omega
    have hall := okR_all.1 hok
    simp -implicitDefEqProofs [go_sem, h6, hh, hf.t, hf.m]
    refine cK_dec (fun h1 => ?_) (fun h1 => ?_)
    · simp -implicitDefEqProofs [go_sem, h6, hh, hf.t, hf.m]
      refine ⟨_, Sub.refl _, ?_, rfl⟩
      congr 2
      rw [decide_eq_decide, rightL]
      exact ⟨fun h => ⟨by omega, by omega, hall.1, hall.2⟩, fun h => by omega⟩
    · simp -implicitDefEqProofs [go_sem, h6, hh, hf.t, hf.m]
      refine ⟨_, Sub.refl _, ?_, rfl⟩
      have : decide (rightL ids) = false := by rw [decide_eq_false_iff_not]; rintro ⟨h, _⟩; omega
      rw [this]
end Go.Proofs
