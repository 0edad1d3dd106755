/- This text is a part of the proofs of the statements of this seat: the ideal states and their rules, or what one of the functions that the statements reach comes to. Conditions: none beyond those that each theorem names. -/
import Derived.Test.YtiloboepepdcgaaK18
set_option linter.unusedVariables false
set_option linter.unusedSimpArgs false
set_option pp.deepTerms false
set_option pp.maxSteps 400
namespace Go.Proofs
open Go.Idl

theorem sortL_strict {l : List Int} (nd : l.Nodup) : (sortL l).Pairwise (· < ·) := by
  have h2 : (sortL l).Nodup := (sortL_perm l).nodup_iff.2 nd
  exact ((sortL_sorted l).and h2).imp (by intro a b ⟨h1, h2⟩; omega)
def NextIs (least : Int) (l : List PM) (n : Int) : Prop := (n = -1 ∧ ∀ x ∈ liveM l, ¬ least < x) ∨ (n ∈ liveM l ∧ least < n ∧ ∀ x ∈ liveM l, least < x → n ≤ x)
theorem liveM_snoc (l : List PM) (p : PM) : liveM (l ++ [p]) = if p.gone = true then liveM l else liveM l ++ [p.id] := by
  cases h : p.gone <;> simp [liveM, h]
theorem NextIs.skip {least l n} {p : PM} (h : NextIs least l n) (hp : p.gone = true ∨ ¬ least < p.id ∨ (0 ≤ n ∧ n ≤ p.id)) : NextIs least (l ++ [p]) n := by
  rw [NextIs, liveM_snoc]
  cases hg : p.gone with
  | true => simpa [NextIs] using h
  | false =>
    simp only [Bool.false_eq_true, if_false, List.mem_append, List.mem_singleton]
    have hp : ¬ least < p.id ∨ (0 ≤ n ∧ n ≤ p.id) := by
      rcases hp with h | h
      · rw [hg] at h; cases h
      · exact h
    rcases h with ⟨h1, h2⟩ | ⟨h1, h2, h3⟩
    · refine .inl ⟨h1, fun x hx => ?_⟩
      rcases hx with hx | rfl
      · exact h2 x hx
      · rcases hp with hp | hp
        · exact hp
        · omega
    · refine .inr ⟨.inl h1, h2, fun x hx hlx => ?_⟩
      rcases hx with hx | rfl
      · exact h3 x hx hlx
      · rcases hp with hp | hp
        · exact absurd hlx hp
        · exact hp.2
theorem NextIs.take {least l n} {p : PM} (hl0 : -1 ≤ least) (h : NextIs least l n) (hg : p.gone = false) (hl : least < p.id) (hp : n < 0 ∨ p.id < n) : NextIs least (l ++ [p]) p.id := by
  rw [NextIs, liveM_snoc, hg]
  simp only [Bool.false_eq_true, if_false, List.mem_append, List.mem_singleton]
  refine .inr ⟨.inr trivial, hl, fun x hx hlx => ?_⟩
  rcases hx with hx | rfl
  · rcases h with ⟨h1, h2⟩ | ⟨h1, h2, h3⟩
    · exact absurd hlx (h2 x hx)
    · have := h3 x hx hlx
      rcases hp with hp | hp
      · omega
      · omega
  · omega
def leastOf (S : List Int) : Nat → Int | 0 => -1 | k + 1 => S[k]?.getD 0
theorem next_sort {L : List PM} {n : Int} {k : Nat} (nd : (liveM L).Nodup) (h0 : ∀ x ∈ liveM L, 0 ≤ x) (hk : k ≤ (sortL (liveM L)).length) (h : NextIs (leastOf (sortL (liveM L)) k) L n) :
    (n < 0 ∧ k = (sortL (liveM L)).length) ∨ (0 ≤ n ∧ (sortL (liveM L))[k]? = some n) := by
  have hst := sortL_strict nd
  have hmem : ∀ x, x ∈ sortL (liveM L) ↔ x ∈ liveM L := fun x => (sortL_perm _).mem_iff
  generalize sortL (liveM L) = S at *
  have hgt : ∀ hk' : k < S.length, leastOf S k < S[k] := by
    intro hk'
    cases k with
    | zero =>
      have := h0 _ ((hmem _).1 (List.getElem_mem hk'))
      simp only [leastOf]; omega
    | succ k =>
      simp only [leastOf, List.getElem?_eq_getElem (show k < S.length by omega), Option.getD_some]
      exact List.pairwise_iff_getElem.1 hst k (k + 1) (by omega) hk' (by omega)
  rcases h with ⟨rfl, h2⟩ | ⟨h1, h2, h3⟩
  · left
    refine ⟨by omega, ?_⟩
    apply Classical.byContradiction
    intro hne
    have hk' : k < S.length := by omega
    exact h2 _ ((hmem _).1 (List.getElem_mem hk')) (hgt hk')
  · right
    refine ⟨h0 _ h1, ?_⟩
    obtain ⟨m, hm, rfl⟩ := List.getElem_of_mem ((hmem _).2 h1)
    have hmk : k ≤ m := by
      apply Classical.byContradiction
      intro hlt
      cases k with
      | zero => omega
      | succ k =>
        simp only [leastOf, List.getElem?_eq_getElem (show k < S.length by omega), Option.getD_some] at h2
        by_cases hmk : m = k
        · subst hmk; omega
        · have := List.pairwise_iff_getElem.1 hst m k hm (by omega) (by omega)
          omega
    have hk' : k < S.length := by omega
    have hle := h3 _ ((hmem _).1 (List.getElem_mem hk')) (hgt hk')
    by_cases hkm : k = m
    · subst hkm; exact List.getElem?_eq_getElem hm
    · have := List.pairwise_iff_getElem.1 hst k m hk' hm (by omega)
      omega

theorem intR_uni (l : List Int) : uni 1 (l.map intRow) = true := by simp [uni, intRow]
def lnV : IV → Nat | .list _ rows => rows.length | _ => 0
set_option maxRecDepth 20000 in
set_option maxHeartbeats 4000000 in
theorem rpanes_c (L : List PM) (hl : L.length < 10000000) (nd : (liveM L).Nodup) (h0 : ∀ x ∈ liveM L, 0 ≤ x) (h : Heap) :
    ICall Try.prog 31 [bV L] h (retP (.list .plain ((sortL (liveM L)).map intRow)) h) := by
  refine icall_of_iwp (fun _ => 0) Try.func31 rfl (by kernel_rfl) (Nat.le_of_ble_eq_true rfl) ?_
  rw [Try.results31]
  obtain ⟨S, hS⟩ : ∃ S, S = sortL (liveM L) := ⟨_, rfl⟩
  have hSl : S.length < 10000000 := by
    rw [hS, sortL_len]
    have := List.length_filter_le (fun p : PM => !p.gone) L
    simp only [liveM, List.length_map]; omega
  have hnx : ∀ {n : Int} {k : Nat}, k ≤ S.length → NextIs (leastOf S k) L n → (n < 0 ∧ k = S.length) ∨ (0 ≤ n ∧ S[k]? = some n) := by
    intro n k hk hN; rw [hS] at hk hN ⊢; exact next_sort nd h0 hk hN
  rw [← hS]
  simp -implicitDefEqProofs [go_sem, bV]
  refine iwp_loopF (rng [3,4,5,6,7] 9 52) nom (fun s => ∃ (k : Nat) (v : IV), k ≤ S.length ∧ s.t 3 = v ∧ Go.Idl.Own [50] s.x 3 v ((S.take k).map intRow) ∧ s.t 4 = .int .i64 (leastOf S k) ∧ s.h = h) (fun s => S.length - lnV (s.t 3)) ?_ ?_
  · exact ⟨0, .list .tight [], Nat.zero_le _, by simp -implicitDefEqProofs [go_sem], Go.Idl.Own.tight, by simp -implicitDefEqProofs [go_sem, leastOf], by simp -implicitDefEqProofs [go_sem]⟩
  rintro J s hJ hf ⟨k, v, hk, h3, ho, h4, hh⟩
  simp -implicitDefEqProofs [go_sem, h3, h4, hh, hf.t, hf.m]
  have hl0 : -1 ≤ leastOf S k := by
    cases k with
    | zero => simp [leastOf]
    | succ k =>
      have hk' : k < S.length := by omega
      have hm : S[k] ∈ sortL (liveM L) := by rw [← hS]; exact List.getElem_mem hk'
      have := h0 _ ((sortL_perm _).mem_iff.1 hm)
      simp only [leastOf, List.getElem?_eq_getElem hk', Option.getD_some]; omega
  obtain ⟨tk, hv⟩ := ho.list
  subst hv
  refine iwp_loopF (rng [5,6,7] 12 44) nom (fun s2 => ∃ (j : Nat) (n : Int), j ≤ L.length ∧ s2.t 12 = .int .i64 j ∧ s2.t 5 = .int .i64 n ∧ NextIs (leastOf S k) (L.take j) n ∧ s2.h = h ∧ s2.x = s.x) (fun s2 => L.length - tn (s2.t 12)) ?_ ?_
  · exact ⟨0, -1, Nat.zero_le _, by simp -implicitDefEqProofs [go_sem], by simp -implicitDefEqProofs [go_sem], .inl ⟨rfl, by simp [liveM]⟩, by simp -implicitDefEqProofs [go_sem, hh], by simp -implicitDefEqProofs [go_sem]⟩
  rintro J2 s2 hJ2 hf2 ⟨j, n, hj, h12, h5, hN, hh2, hxx⟩
  simp -implicitDefEqProofs [go_sem, h12, h5, hh2, hf2.t, hf2.m, h3, h4, hh, hf.t, hf.m]
  refine cK_dec (fun hlt => ?_) (fun hlt => ?_)
  · have hlt' : j < L.length := by omega
    have hw := wrap_succ (i := j) (by omega)
    have hrow : (L.map PM.row)[j]? = some L[j].row := by simp [hlt']
    have htk : L.take (j + 1) = L.take j ++ [L[j]] := by rw [List.take_add_one, List.getElem?_eq_getElem hlt']; rfl
    simp -implicitDefEqProofs [go_sem, h12, h5, hh2, hf2.t, hf2.m, h3, h4, hh, hf.t, hf.m, hlt', hrow, PM.row]
    have fin : ∀ (s' : St) (n' : Int), s'.t 12 = .int .i64 ((j + 1 : Nat) : Int) → s'.t 5 = .int .i64 n' → s'.h = h → s'.x = s.x → NextIs (leastOf S k) (L.take (j + 1)) n' → J2 s' := fun s' n' g1 g2 g3 g4 g5 => hJ2 _ ⟨j + 1, n', by omega, g1, g2, g5, g3, g4⟩ (by simp [go_sem, h12, g1]; omega)
    cases hg : L[j].gone with
    | true =>
      simp -implicitDefEqProofs [go_sem, h12, h5, hh2, hf2.t, hf2.m, hf2, h3, h4, hh, hf.t, hf.m, hlt', hrow, PM.row, hg, hw]
      exact fin _ n (by simp -implicitDefEqProofs [go_sem, hw]) (by simp -implicitDefEqProofs [go_sem, h5]) (by simp -implicitDefEqProofs [go_sem, hh2]) (by simp -implicitDefEqProofs [go_sem, hxx]) (by rw [htk]; exact hN.skip (.inl hg))
    | false =>
      simp -implicitDefEqProofs [go_sem, h12, h5, hh2, hf2.t, hf2.m, hf2, h3, h4, hh, hf.t, hf.m, hlt', hrow, PM.row, hg, hw]
      refine cK_dec (fun ha => ?_) (fun ha => ?_)
      · simp -implicitDefEqProofs [go_sem, h12, h5, hh2, hf2.t, hf2.m, hf2, h3, h4, hh, hf.t, hf.m, hlt', hrow, PM.row, hg, hw]
        refine cK_dec (fun hb => ?_) (fun hb => ?_)
        · simp -implicitDefEqProofs [go_sem, h12, h5, hh2, hf2.t, hf2.m, hf2, h3, h4, hh, hf.t, hf.m, hlt', hrow, PM.row, hg, hw]
          exact fin _ L[j].id (by simp -implicitDefEqProofs [go_sem, hw]) (by simp -implicitDefEqProofs [go_sem, h5]) (by simp -implicitDefEqProofs [go_sem, hh2]) (by simp -implicitDefEqProofs [go_sem, hxx]) (by rw [htk]; exact NextIs.take hl0 hN hg (by omega) (.inl hb))
        · simp -implicitDefEqProofs [go_sem, h12, h5, hh2, hf2.t, hf2.m, hf2, h3, h4, hh, hf.t, hf.m, hlt', hrow, PM.row, hg, hw]
          refine cK_dec (fun hc => ?_) (fun hc => ?_)
          · simp -implicitDefEqProofs [go_sem, h12, h5, hh2, hf2.t, hf2.m, hf2, h3, h4, hh, hf.t, hf.m, hlt', hrow, PM.row, hg, hw]
            exact fin _ L[j].id (by simp -implicitDefEqProofs [go_sem, hw]) (by simp -implicitDefEqProofs [go_sem, h5]) (by simp -implicitDefEqProofs [go_sem, hh2]) (by simp -implicitDefEqProofs [go_sem, hxx]) (by rw [htk]; exact NextIs.take hl0 hN hg (by omega) (.inr hc))
          · simp -implicitDefEqProofs [go_sem, h12, h5, hh2, hf2.t, hf2.m, hf2, h3, h4, hh, hf.t, hf.m, hlt', hrow, PM.row, hg, hw]
            exact fin _ n (by simp -implicitDefEqProofs [go_sem, hw]) (by simp -implicitDefEqProofs [go_sem, h5]) (by simp -implicitDefEqProofs [go_sem, hh2]) (by simp -implicitDefEqProofs [go_sem, hxx]) (by rw [htk]; exact hN.skip (.inr (.inr ⟨by omega, by omega⟩)))
      · simp -implicitDefEqProofs [go_sem, h12, h5, hh2, hf2.t, hf2.m, hf2, h3, h4, hh, hf.t, hf.m, hlt', hrow, PM.row, hg, hw]
        exact fin _ n (by simp -implicitDefEqProofs [go_sem, hw]) (by simp -implicitDefEqProofs [go_sem, h5]) (by simp -implicitDefEqProofs [go_sem, hh2]) (by simp -implicitDefEqProofs [go_sem, hxx]) (by rw [htk]; exact hN.skip (.inr (.inl (by omega))))
  · simp -implicitDefEqProofs [go_sem, h12, h5, hh2, hf2.t, hf2.m, h3, h4, hh, hf.t, hf.m]
    obtain rfl : j = L.length := by omega
    rw [List.take_length] at hN
    rcases hnx hk hN with ⟨hn0, hkS⟩ | ⟨hn0, hkS⟩
    · simp -implicitDefEqProofs [go_sem, h12, h5, hh2, hf2.t, hf2.m, h3, h4, hh, hf.t, hf.m, hn0]
      exact ⟨_, Sub.refl _, by rw [hkS, List.take_of_length_le (l := List.map intRow S) (by simp)], rfl⟩
    · have hn1 : ¬ n < 0 := by omega
      have hkl : k < S.length := (List.getElem?_eq_some_iff.1 hkS).1
      have htk : S.take (k + 1) = S.take k ++ [n] := by rw [List.take_add_one, hkS]; rfl
      have hlst : leastOf S (k + 1) = n := by simp only [leastOf, hkS, Option.getD_some]
      simp -implicitDefEqProofs [go_sem, h12, h5, hh2, hf2.t, hf2.m, h3, h4, hh, hf.t, hf.m, hn1]
      refine aK_own (e := 3) (z := 1) (S := [50]) (rows := (S.take k).map intRow) (ys := [n].map intRow) (by simpa -implicitDefEqProofs [go_sem, hxx] using ho) (by simp) elT_45 elZ_3 (by simp [roomy, byT_3]; omega) (intR_uni _) (intR_uni _) ?_
      intro r x' ho2 hx2
      have hf4 := Fr.trans2 hf hf2 (by simp -implicitDefEqProofs [go_sem]) (rng_sub (by decide)) nom_sub
      have hlr : ((S.take k).map intRow).length = k := by simp; omega
      simp -implicitDefEqProofs [go_sem, h12, h5, hh2, hf2.t, hf2.m, hf2, h3, h4, hh, hf.t, hf.m, hf, hf4]
      obtain ⟨tk3, hv3⟩ := ho2.list
      refine hJ _ ⟨k + 1, r, by omega, by simp -implicitDefEqProofs [go_sem], ?_, by rw [hlst]; simp -implicitDefEqProofs [go_sem, h5], by simp -implicitDefEqProofs [go_sem, hh2]⟩ ?_
      · rw [htk, List.map_append]; simpa -implicitDefEqProofs [go_sem] using ho2
      · simp -implicitDefEqProofs [go_sem, h3, hv3, lnV]; omega
end Go.Proofs
