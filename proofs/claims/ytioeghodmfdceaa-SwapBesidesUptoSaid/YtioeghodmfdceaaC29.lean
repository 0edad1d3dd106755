/- This text is a part of the proofs of the statements of this seat: the ideal states and their rules, or what one of the functions that the statements reach comes to. Conditions: none beyond those that each theorem names. -/
import Derived.Test.YtioeghodmfdceaaC28
set_option linter.unusedVariables false
set_option linter.unusedSimpArgs false
set_option pp.deepTerms false
set_option pp.maxSteps 400
namespace Go.Proofs
open Go.Idl

theorem emod_add (i b n : Int) : (i + b % n) % n = (i + b) % n := by
  conv => rhs; rw [← Int.emod_add_mul_ediv b n, ← Int.add_assoc, Int.add_mul_emod_self_left]
theorem emod_cases {i b n : Int} (h0 : 0 ≤ i) (h1 : i < n) : ((i + b) % n = i + b % n ∧ i + b % n < n) ∨ ((i + b) % n = i + b % n - n ∧ n ≤ i + b % n) := by
  have h2 := Int.emod_nonneg b (show n ≠ 0 by omega)
  have h3 := Int.emod_lt_of_pos b (show 0 < n by omega)
  rw [← emod_add]
  by_cases h : i + b % n < n
  · exact .inl ⟨Int.emod_eq_of_lt (by omega) h, h⟩
  · refine .inr ⟨?_, by omega⟩
    rw [← Int.sub_emod_right, Int.emod_eq_of_lt (by omega) (by omega)]
theorem tmod_bounds (b n : Int) (hn : 0 < n) : -n < b.tmod n ∧ b.tmod n < n := by
  have h1 := Int.emod_nonneg b (show n ≠ 0 by omega)
  have h2 := Int.emod_lt_of_pos b hn
  have hb := tmod_cases b n hn
  omega
theorem next_run {i b n : Int} (h0 : 0 ≤ i) (h1 : i < n) : -n < (i + b.tmod n).tmod n ∧ (i + b.tmod n).tmod n < n ∧ ((i + b.tmod n).tmod n + n).tmod n = (i + b) % n := by
  have h2 := Int.emod_nonneg b (show n ≠ 0 by omega)
  have h3 := Int.emod_lt_of_pos b (show 0 < n by omega)
  have hb := tmod_cases b n (by omega)
  have hc := emod_cases (b := b) h0 h1
  have ht := tmod_bounds (i + b.tmod n) n (by omega)
  refine ⟨ht.1, ht.2, ?_⟩
  have key : ∀ x : Int, -n < x → x < 2 * n → (x.tmod n = x ∧ x < n) ∨ (x.tmod n = x - n ∧ n ≤ x) := by
    intro x hx1 hx2
    by_cases c1 : x < 0
    · exact .inl ⟨tmod_neg c1 hx1, by omega⟩
    · by_cases c2 : x < n
      · exact .inl ⟨tmod_small (by omega) c2, c2⟩
      · exact .inr ⟨tmod_big (by omega) hx2, by omega⟩
  have k1 := key (i + b.tmod n) (by omega) (by omega)
  have k2 := key ((i + b.tmod n).tmod n + n) (by omega) (by omega)
  omega

/-- a measure of what goes up to nought -/
def tng (v : IV) : Nat := match v with | .int _ i => (-i).toNat | _ => 0
@[go_sem] theorem tng_int (k : IntKind) (i : Int) : tng (.int k i) = (-i).toNat := rfl

/-- the number of the pane so many places behind -/
def nxI (n i : Nat) (b : Int) : Nat := (((i : Int) + b) % (n : Int)).toNat
theorem nxI_lt {n i : Nat} (b : Int) (h : i < n) : nxI n i b < n ∧ ((nxI n i b : Nat) : Int) = ((i : Int) + b) % (n : Int) := by
  have h2 := Int.emod_nonneg ((i : Int) + b) (show (n : Int) ≠ 0 by omega)
  have h3 := Int.emod_lt_of_pos ((i : Int) + b) (show 0 < (n : Int) by omega)
  unfold nxI; omega
def nxR (l : List Pn) (id b : Int) (h : Heap) (e : IEnd) (h' : Heap) : Prop :=
  h' = h ∧ (((∀ p ∈ l, p.id ≠ id) ∧ e = .ret (.tup [.int .i64 0, .bool false])) ∨
    ∃ (i : Nat) (hi : i < l.length), isFnd l id i ∧ l[i].id = id ∧ e = .ret (.tup [.int .i64 (l[nxI l.length i b]'(nxI_lt b hi).1).id, .bool true]))

set_option maxRecDepth 20000 in
set_option maxHeartbeats 4000000 in
theorem next_c (c : Cel) (id b : Int) (h : Heap) (hs : c.size < 100000000) : ICall Try.prog 34 [.agg c.row, .int .i64 id, .int .i64 b] h (nxR c.panes id b h) := by
  have hps := panes_size c
  refine icall_of_iwp (fun _ => 0) Try.func34 rfl (by kernel_rfl) (Nat.le_of_ble_eq_true rfl) ?_
  rw [Try.results34]
  simp -implicitDefEqProofs [go_sem]
  refine (list_c c h hs).mono ?_
  rintro e h' ⟨rfl, he⟩
  rw [he]
  simp -implicitDefEqProofs [go_sem]
  refine (find_c c.panes id h (by omega)).mono ?_
  rintro e h' ⟨he, v, rfl, hfnd⟩
  rw [he]
  have hfnd0 := hfnd
  rcases hfnd with ⟨rfl, hno⟩ | ⟨i, hi, rfl, hid, hfst⟩
  · simp -implicitDefEqProofs [go_sem]
    exact ⟨h, Sub.refl _, rfl, .inl ⟨hno, rfl⟩⟩
  · have hni : ¬ ((i : Int) < 0) := by omega
    obtain ⟨n, hn⟩ : ∃ n, n = c.panes.length := ⟨_, rfl⟩
    obtain ⟨k1, k2, k3⟩ := next_run (i := (i : Int)) (b := b) (n := (n : Int)) (by omega) (by omega)
    have kb := tmod_bounds b (n : Int) (by omega)
    have hnx := nxI_lt b hi
    rw [← hn] at hnx
    obtain ⟨x, hx⟩ : ∃ x, x = nxI n i b := ⟨_, rfl⟩
    rw [← hx] at hnx
    have hw1 : IntKind.i64.wrap ((i : Int) + b.tmod (n : Int)) = (i : Int) + b.tmod (n : Int) := wrap_in (by omega)
    have hw2 : IntKind.i64.wrap (((i : Int) + b.tmod (n : Int)).tmod (n : Int) + (n : Int)) = ((i : Int) + b.tmod (n : Int)).tmod (n : Int) + (n : Int) := wrap_in (by omega)
    have hne : ¬ n = 0 := by omega
    rw [← hnx.2] at k3
    have hxl : x < c.panes.length := by omega
    have hg : c.panes[x]? = some c.panes[x] := List.getElem?_eq_getElem hxl
    simp -implicitDefEqProofs [go_sem, hni, ← hn, hne, hw1, hw2, k3, hnx.1, hg]
    refine ⟨h, Sub.refl _, rfl, .inr ⟨i, hi, hfnd0, hid, ?_⟩⟩
    subst hx; subst hn; rfl

set_option maxRecDepth 20000 in
set_option maxHeartbeats 4000000 in
theorem next07_c (c : Cel) (id b : Int) (h : Heap) (hs : c.size < 100000000) : ICall Try.prog 20 [.agg c.row, .int .i64 id, .int .i64 b] h (nxR c.panes id b h) := by
  have hps := panes_size c
  refine icall_of_iwp (fun _ => 0) Try.func20 rfl (by kernel_rfl) (Nat.le_of_ble_eq_true rfl) ?_
  rw [Try.results20]
  simp -implicitDefEqProofs [go_sem]
  refine (list07_c c h hs).mono ?_
  rintro e h' ⟨rfl, he⟩
  rw [he]
  simp -implicitDefEqProofs [go_sem]
  refine (find07_c c.panes id h (by omega)).mono ?_
  rintro e h' ⟨he, v, rfl, hfnd⟩
  rw [he]
  have hfnd0 := hfnd
  rcases hfnd with ⟨rfl, hno⟩ | ⟨i, hi, rfl, hid, hfst⟩
  · simp -implicitDefEqProofs [go_sem]
    exact ⟨h, Sub.refl _, rfl, .inl ⟨hno, rfl⟩⟩
  · have hni : ¬ ((i : Int) < 0) := by omega
    obtain ⟨n, hn⟩ : ∃ n, n = c.panes.length := ⟨_, rfl⟩
    have kb := tmod_bounds b (n : Int) (by omega)
    have kc := tmod_cases b (n : Int) (by omega)
    have hnx := nxI_lt b hi
    rw [← hn] at hnx
    obtain ⟨x, hx⟩ : ∃ x, x = nxI n i b := ⟨_, rfl⟩
    rw [← hx] at hnx
    have hne : ¬ n = 0 := by omega
    have hst0 : ((i : Int) + b.tmod (n : Int)) % (n : Int) = (x : Int) := by
      rw [hnx.2]
      rcases kc with kc | ⟨kc, _⟩
      · rw [kc, emod_add]
      · rw [kc, ← Int.add_sub_assoc, Int.sub_emod_right, emod_add]
    simp -implicitDefEqProofs [go_sem, hni, ← hn, hne]
    refine iwp_loopF (rng [9,10] 22 31) nom (fun s => ∃ (k : Nat) (st : Int), k < n ∧ s.t 9 = .int .i64 k ∧ s.t 10 = .int .i64 st ∧ ((k : Int) + st) % (n : Int) = (x : Int) ∧ -(n : Int) < st ∧ st < n ∧ s.h = h) (fun s => tn (s.t 10)) ?_ ?_
    · exact ⟨i, b.tmod (n : Int), by omega, by simp -implicitDefEqProofs [go_sem], by simp -implicitDefEqProofs [go_sem], hst0, kb.1, kb.2, by simp -implicitDefEqProofs [go_sem]⟩
    rintro J s hJ hf ⟨k, st, hk, h9, h10, hmod, hs1, hs2, hh⟩
    simp -implicitDefEqProofs [go_sem, h9, h10, hh, hf.t, hf.m]
    refine cK_dec (fun hgt => ?_) (fun hle => ?_)
    · have hw1 : IntKind.i64.wrap ((k : Int) + 1) = (k : Int) + 1 := wrap_in (by omega)
      have hw2 : IntKind.i64.wrap (st - 1) = st - 1 := wrap_in (by omega)
      simp -implicitDefEqProofs [go_sem, h9, h10, hh, hf.t, hf.m, hw1, ← hn]
      refine cK_beq (fun hkn => ?_) (fun hkn => ?_)
      · simp -implicitDefEqProofs [go_sem, h9, h10, hh, hf.t, hf.m, hf, hw2]
        refine hJ _ ⟨0, st - 1, by omega, by simp -implicitDefEqProofs [go_sem], by simp -implicitDefEqProofs [go_sem], ?_, by omega, by omega, by simp -implicitDefEqProofs [go_sem, hh]⟩ (by simp [go_sem, h10]; omega)
        rw [← hmod, ← Int.sub_emod_right ((k : Int) + st)]; congr 1; omega
      · simp -implicitDefEqProofs [go_sem, h9, h10, hh, hf.t, hf.m, hf, hw2, hw1]
        refine hJ _ ⟨k + 1, st - 1, by omega, by simp -implicitDefEqProofs [go_sem], by simp -implicitDefEqProofs [go_sem], ?_, by omega, by omega, by simp -implicitDefEqProofs [go_sem, hh]⟩ (by simp [go_sem, h10]; omega)
        rw [← hmod]; congr 1; omega
    · simp -implicitDefEqProofs [go_sem, h9, h10, hh, hf.t, hf.m]
      clear hJ J
      refine iwp_loopF (rng [9,10] 32 42) nom (fun s => ∃ (k : Nat) (st : Int), k < n ∧ s.t 9 = .int .i64 k ∧ s.t 10 = .int .i64 st ∧ ((k : Int) + st) % (n : Int) = (x : Int) ∧ -(n : Int) < st ∧ st ≤ 0 ∧ s.h = h) (fun s => tng (s.t 10)) ?_ ?_
      · exact ⟨k, st, hk, by simp -implicitDefEqProofs [go_sem, h9], by simp -implicitDefEqProofs [go_sem, h10], hmod, hs1, by omega, by simp -implicitDefEqProofs [go_sem, hh]⟩
      rintro J s2 hJ hf2 ⟨k, st, hk, h9, h10, hmod, hs1, hs2, hh⟩
      simp -implicitDefEqProofs [go_sem, h9, h10, hh, hf2.t, hf2.m]
      refine cK_dec (fun hlt => ?_) (fun hge => ?_)
      · have hw1 : IntKind.i64.wrap ((k : Int) - 1) = (k : Int) - 1 := wrap_in (by omega)
        have hw2 : IntKind.i64.wrap (st + 1) = st + 1 := wrap_in (by omega)
        have hw3 : IntKind.i64.wrap ((n : Int) - 1) = (n : Int) - 1 := wrap_in (by omega)
        simp -implicitDefEqProofs [go_sem, h9, h10, hh, hf2.t, hf2.m, hf.t, hf.m, hw1]
        refine cK_dec (fun hkn => ?_) (fun hkn => ?_)
        · simp -implicitDefEqProofs [go_sem, h9, h10, hh, hf2.t, hf2.m, hf.t, hf.m, hf2, hw2, ← hn, hw3]
          refine hJ _ ⟨n - 1, st + 1, by omega, by simp -implicitDefEqProofs [go_sem]; omega, by simp -implicitDefEqProofs [go_sem], ?_, by omega, by omega, by simp -implicitDefEqProofs [go_sem, hh]⟩ (by simp [go_sem, h10, tng]; omega)
          rw [← hmod, ← Int.add_emod_right ((k : Int) + st)]; congr 1; omega
        · simp -implicitDefEqProofs [go_sem, h9, h10, hh, hf2.t, hf2.m, hf.t, hf.m, hf2, hw2, hw1]
          refine hJ _ ⟨k - 1, st + 1, by omega, by simp -implicitDefEqProofs [go_sem]; omega, by simp -implicitDefEqProofs [go_sem], ?_, by omega, by omega, by simp -implicitDefEqProofs [go_sem, hh]⟩ (by simp [go_sem, h10, tng]; omega)
          rw [← hmod]; congr 1; omega
      · have hkx : k = x := by
          have h0 : st = 0 := by omega
          rw [h0, Int.add_zero, Int.emod_eq_of_lt (by omega) (by omega)] at hmod
          omega
        have hxl : k < c.panes.length := by omega
        have hkl : k < n := by omega
        have hg : c.panes[k]? = some c.panes[k] := List.getElem?_eq_getElem hxl
        simp -implicitDefEqProofs [go_sem, h9, h10, hh, hf2.t, hf2.m, hf.t, hf.m, ← hn, hkl, hg]
        refine ⟨h, Sub.refl _, rfl, .inr ⟨i, hi, hfnd0, hid, ?_⟩⟩
        subst hkx; subst hx; subst hn; rfl
end Go.Proofs
