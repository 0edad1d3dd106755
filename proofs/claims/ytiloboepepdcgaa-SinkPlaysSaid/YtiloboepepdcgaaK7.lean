/- This text is a part of the proofs of the statements of this seat: the ideal states and their rules, or what one of the functions that the statements reach comes to. Conditions: none beyond those that each theorem names. -/
import Derived.Test.YtiloboepepdcgaaK6
set_option linter.unusedVariables false
set_option linter.unusedSimpArgs false
set_option pp.deepTerms false
set_option pp.maxSteps 400
namespace Go.Proofs
open Go.Idl

/-! lists of ids: Values, Compact, IndexFunc -/
def valuesR (tk : Tok) (l : List Int) (h : Heap) (e : IEnd) (h' : Heap) : Prop := ∃ bx, h bx = none ∧ e = .ret (.fn (.func 81) [] [.ptr bx 0]) ∧ h' = upd h bx (some (.cells [.list tk (l.map intRow)]))
theorem values_c (l : List Int) (h : Heap) : ICall Try.prog 54 [.list .plain (l.map intRow)] h (valuesR .plain l h) := by
  refine icall_of_iwp (fun d => if d = 1 then 1 else 0) Try.func54 rfl (by kernel_rfl) (Nat.le_of_ble_eq_true rfl) ?_
  rw [Try.results54]
  simp -implicitDefEqProofs [go_sem]
  intro b hb
  exact ⟨_, Sub.refl _, b, hb, rfl, rfl⟩

def adjD (a : Array Int) : Prop := ∃ j, j + 1 < a.size ∧ a[j]! = a[j+1]!
def compR (a : Array Int) (b cap : Nat) (h : Heap) (e : IEnd) (h' : Heap) : Prop := h' = h ∧ ∃ m : Nat, e = .ret (.sl 1 b 0 m cap) ∧ m ≤ a.size ∧ (m < a.size ↔ adjD a)
theorem SH_sub {h : Heap} {b cap : Nat} {a : Array Int} (hb : h b = none) : Sub h (SH h b cap a) := (Sub.refl h).upd hb _
theorem compact0_c (h : Heap) : ICall Try.prog 55 [.list .plain []] h (retP (.list .plain []) h) := by
  refine icall_of_iwp (fun _ => 0) Try.func55 rfl (by kernel_rfl) (Nat.le_of_ble_eq_true rfl) ?_
  rw [Try.results55]
  simp -implicitDefEqProofs [go_sem]
  exact ⟨_, Sub.refl _, rfl, rfl⟩
set_option maxRecDepth 20000 in
set_option maxHeartbeats 4000000 in
theorem compact_c (a : Array Int) (b cap : Nat) (h : Heap) (hb : h b = none) (hs : a.size < 1000000000) (hc : a.size ≤ cap) (h0 : 0 < a.size) : ICall Try.prog 55 [.sl 1 b 0 a.size cap] (SH h b cap a) (compR a b cap h) := by
  obtain ⟨n, hn⟩ : ∃ n, n = a.size := ⟨_, rfl⟩
  unfold compR
  rw [← hn] at hs hc h0 ⊢
  refine icall_of_iwp (fun _ => 0) Try.func55 rfl (by kernel_rfl) (Nat.le_of_ble_eq_true rfl) ?_
  rw [Try.results55]
  simp -implicitDefEqProofs [go_sem]
  refine cK_dec (fun hlt => ?_) (fun hge => ?_)
  · simp -implicitDefEqProofs [go_sem]
    refine ⟨h, SH_sub hb, rfl, ?_⟩
    rintro ⟨j, hj, _⟩
    omega
  simp -implicitDefEqProofs [go_sem]
  refine iwp_loopF (rng [3,4,5] 10 60) nom (fun s => ∃ i : Nat, 1 ≤ i ∧ i ≤ n ∧ s.t 3 = .int .i64 i ∧ s.h = SH h b cap a ∧ ∀ j, j + 1 < i → a[j]! ≠ a[j+1]!) (fun s => n - tn (s.t 3)) ?_ ?_
  · exact ⟨1, Nat.le_refl _, by omega, by simp -implicitDefEqProofs [go_sem], by simp -implicitDefEqProofs [go_sem], fun j hj => by omega⟩
  rintro J s hJ hf ⟨i, hi1, hi2, h3, hh, hno⟩
  simp -implicitDefEqProofs [go_sem, h3, hh, hf.t, hf.m]
  refine cK_dec (fun hlt => ?_) (fun hge => ?_)
  · obtain ⟨k, hk⟩ : ∃ k, i = k + 1 := ⟨i - 1, by omega⟩
    have hw := wrap_succ (i := i) (by omega)
    have hw1 : IntKind.i64.wrap ((i : Int) - 1) = (k : Int) := by rw [wrap_in (by omega)]; omega
    have hg1 := rowsD_get (d := a) (i := i) (by omega)
    have hg0 := rowsD_get (d := a) (i := k) (by omega)
    have hl1 : i < n := by omega
    have hl0 : k < n := by omega
    simp -implicitDefEqProofs [go_sem, h3, hh, hf.t, hf.m, hlt]
    refine iwp_drawn_of mixed [0,1,2,3,4,5,6,7,8,9] (by kernel_rfl) ?_
    simp -implicitDefEqProofs [go_sem, h3, hh, hf.t, hf.m, hw1, hg1, hg0, hl1, hl0, SH_at]
    refine cK_any (fun heq => ?_) (fun heq => ?_)
    · have hadj : adjD a := ⟨k, by omega, by rw [← hk]; exact (beq_iff_eq.1 heq).symm⟩
      have hic : i < cap := by omega
      simp -implicitDefEqProofs [go_sem, h3, hh, hf.t, hf.m, hl1, hi2, hc, hic, SH_at]
      refine iwp_loopF (rng [3,5] 29 54) nom (fun s => ∃ (i' k2 : Nat) (a' : Array Int), 1 ≤ i' ∧ 1 ≤ k2 ∧ i' < i + k2 ∧ i + k2 ≤ n ∧ a'.size = n ∧ s.t 3 = .int .i64 i' ∧ s.t 5 = .int .i64 k2 ∧ s.h = SH h b cap a') (fun s => n - tn (s.t 5)) ?_ ?_
      · exact ⟨i, 1, a, by omega, Nat.le_refl _, by omega, by omega, hn.symm, by simp -implicitDefEqProofs [go_sem, h3], by simp -implicitDefEqProofs [go_sem], by simp -implicitDefEqProofs [go_sem, hh]⟩
      rintro J2 s2 hJ2 hf2 ⟨i2, k2, a2, q1, q2, q3, q4, q5, h3', h5', hh2⟩
      simp -implicitDefEqProofs [go_sem, h3', h5', hh2, hf2.t, hf2.m, hf.t, hf.m]
      refine cK_dec (fun hlt2 => ?_) (fun hge2 => ?_)
      · obtain ⟨k3, hk3⟩ : ∃ k3, k2 = k3 + 1 := ⟨k2 - 1, by omega⟩
        have hw2 := wrap_succ (i := k2) (by omega)
        have hw4 := wrap_succ (i := i2) (by omega)
        have hw3 : IntKind.i64.wrap ((k2 : Int) - 1) = (k3 : Int) := by rw [wrap_in (by omega)]; omega
        have hg3 := rowsD_get (d := a2) (i := i + k2) (by omega)
        have hg4 := rowsD_get (d := a2) (i := i + k3) (by omega)
        have hg5 := rowsD_get (d := a2) (i := i2) (by omega)
        have hl3 : k2 < n - i := by omega
        have hl4 : k3 < n - i := by omega
        have hl5 : i2 < n := by omega
        simp -implicitDefEqProofs [go_sem, h3', h5', hh2, hf2.t, hf2.m, hf.t, hf.m, hlt2]
        refine iwp_drawn_of mixed [0,1,2,3,4,5,6,7,8,9] (by kernel_rfl) ?_
        simp -implicitDefEqProofs [go_sem, h3', h5', hh2, hf2.t, hf2.m, hf.t, hf.m, hw3, hg3, hg4, hl3, hl4, SH_at]
        refine cK_any (fun hq => ?_) (fun hq => ?_)
        · simp -implicitDefEqProofs [go_sem, h3', h5', hh2, hf2.t, hf2.m, hf.t, hf.m, hf2, hw2, hw4, hw3, hg3, hg4, hg5, hl3, hl4, hl5, SH_at]
          refine hJ2 _ ⟨i2 + 1, k2 + 1, a2.setIfInBounds i2 a2[i + k2]!, by omega, by omega, by omega, by omega, by simp [q5], by simp -implicitDefEqProofs [go_sem, hw4], by simp -implicitDefEqProofs [go_sem, hw2], ?_⟩ (by simp [go_sem, h5', hw2]; omega)
          funext q
          simp -implicitDefEqProofs [go_sem, hh2, SH, rowsD_set]
          try (split <;> rfl)
        · simp -implicitDefEqProofs [go_sem, h3', h5', hh2, hf2.t, hf2.m, hf.t, hf.m, hf2, hw2, hw4, hw3, hg3, hg4, hg5, hl3, hl4, hl5, SH_at]
          exact hJ2 _ ⟨i2, k2 + 1, a2, by omega, by omega, by omega, by omega, q5, by simp -implicitDefEqProofs [go_sem, h3'], by simp -implicitDefEqProofs [go_sem, hw2], by simp -implicitDefEqProofs [go_sem, hh2]⟩ (by simp [go_sem, h5', hw2]; omega)
      · have hl5 : i2 ≤ n := by omega
        have hl6 : i2 < cap := by omega
        have hlr : (rowsD a2).length = n := by rw [rowsD_len, q5]
        have h0c : 0 < cap := by omega
        have hl7 : i2 ≤ cap := by omega
        simp -implicitDefEqProofs [go_sem, h3', h5', hh2, hf2.t, hf2.m, hf.t, hf.m, hf2, hl5, hl6, hl7, h0c, hlr, hc, SH_at]
        exact ⟨h, by rw [SH_upd]; exact (Sub.refl h).upd hb _, rfl, ⟨fun _ => hadj, fun _ => by omega⟩⟩
    · simp -implicitDefEqProofs [go_sem, h3, hh, hf.t, hf.m, hf, hw]
      exact hJ _ ⟨i + 1, by omega, by omega, by simp -implicitDefEqProofs [go_sem, hw], by simp -implicitDefEqProofs [go_sem, hh], fun j hj => by
        by_cases hji : j + 1 < i
        · exact hno j hji
        · obtain rfl : j = k := by omega
          rw [← hk]; exact fun e => by rw [e] at heq; simp at heq⟩ (by simp [go_sem, h3, hw]; omega)
  · simp -implicitDefEqProofs [go_sem, h3, hh, hf.t, hf.m]
    refine ⟨h, SH_sub hb, rfl, ?_⟩
    rintro ⟨j, hj, hja⟩
    exact absurd hja (hno j (by omega))

def idxI (Inv Hit : Nat → Heap → Prop) (n : Nat) (e : IEnd) (h' : Heap) : Prop := (e = .ret (.int .i64 (-1)) ∧ Inv n h') ∨ ∃ i : Nat, i < n ∧ e = .ret (.int .i64 i) ∧ Hit i h'
def conI (Inv Hit : Nat → Heap → Prop) (n : Nat) (e : IEnd) (h' : Heap) : Prop := (e = .ret (.bool false) ∧ Inv n h') ∨ ∃ i : Nat, i < n ∧ e = .ret (.bool true) ∧ Hit i h'
set_option maxRecDepth 20000 in
theorem indexFunc_int {l : List Int} {f : FuncId} {first cap : List IV} {Inv Hit : Nat → Heap → Prop} (hl : l.length < 100000000000)
    (hstep : ∀ i (hi : i < l.length) h, Inv i h → ICall Try.prog f (first ++ [.int .i64 l[i]] ++ cap) h fun e h' => (e = .ret (.bool false) ∧ Inv (i + 1) h') ∨ (e = .ret (.bool true) ∧ Hit i h')) (h : Heap) (h0 : Inv 0 h) :
    ICall Try.prog 82 [.list .plain (l.map intRow), .fn (.func f) first cap] h (idxI Inv Hit l.length) := by
  refine icall_of_iwp (fun _ => 0) Try.func82 rfl (by kernel_rfl) (Nat.le_of_ble_eq_true rfl) ?_
  rw [Try.results82]
  simp -implicitDefEqProofs [go_sem]
  refine iwp_loopF (rng [4,5] 8 18) nom (fun s => ∃ i, i ≤ l.length ∧ s.t 8 = .int .i64 i ∧ Inv i s.h) (fun s => l.length - tn (s.t 8)) ?_ ?_
  · exact ⟨0, Nat.zero_le _, by simp -implicitDefEqProofs [go_sem], by simpa -implicitDefEqProofs [go_sem] using h0⟩
  rintro J s hJ hf ⟨i, hi, h8, hinv⟩
  simp -implicitDefEqProofs [go_sem, h8, hf.t, hf.m]
  refine cK_dec (fun hlt => ?_) (fun hge => ?_)
  · have hg : l[i]? = some l[i] := List.getElem?_eq_getElem hlt
    have hg' : (l.map intRow)[i]? = some [.int .i64 l[i]] := by simp [hg, intRow]
    have hw := wrap_succ (i := i) (by omega)
    simp -implicitDefEqProofs [go_sem, h8, hf.t, hf.m, hlt, hg, hg', intRow]
    have hs := hstep i hlt _ hinv
    simp only [List.append_assoc, List.singleton_append, List.cons_append, List.nil_append] at hs
    refine hs.mono ?_
    rintro e h' (⟨rfl, hi'⟩ | ⟨rfl, hi'⟩)
    · simp -implicitDefEqProofs [go_sem, h8, hf.t, hf.m, hf, hlt, hg, hw]
      exact hJ _ ⟨i + 1, by omega, by simp -implicitDefEqProofs [go_sem, hw], by simpa -implicitDefEqProofs [go_sem] using hi'⟩ (by simp [go_sem, h8, hw]; omega)
    · simp -implicitDefEqProofs [go_sem, h8, hf.t, hf.m, hf, hlt, hg, hw]
      exact ⟨h', Sub.refl _, .inr ⟨i, hlt, rfl, hi'⟩⟩
  · simp -implicitDefEqProofs [go_sem, h8, hf.t, hf.m]
    obtain rfl : i = l.length := by omega
    exact ⟨s.h, Sub.refl _, .inl ⟨rfl, hinv⟩⟩

theorem containsFunc_int {l : List Int} {f : FuncId} {first cap : List IV} {Inv Hit : Nat → Heap → Prop} (hl : l.length < 100000000000)
    (hstep : ∀ i (hi : i < l.length) h, Inv i h → ICall Try.prog f (first ++ [.int .i64 l[i]] ++ cap) h fun e h' => (e = .ret (.bool false) ∧ Inv (i + 1) h') ∨ (e = .ret (.bool true) ∧ Hit i h')) (h : Heap) (h0 : Inv 0 h) :
    ICall Try.prog 56 [.list .plain (l.map intRow), .fn (.func f) first cap] h (conI Inv Hit l.length) := by
  refine icall_of_iwp (fun _ => 0) Try.func56 rfl (by kernel_rfl) (Nat.le_of_ble_eq_true rfl) ?_
  rw [Try.results56]
  simp -implicitDefEqProofs [go_sem]
  refine (indexFunc_int hl hstep h h0).mono ?_
  rintro e h' (⟨rfl, hi'⟩ | ⟨i, hi, rfl, hi'⟩)
  · simp -implicitDefEqProofs [go_sem]
    exact ⟨h', Sub.refl _, .inl ⟨rfl, hi'⟩⟩
  · simp -implicitDefEqProofs [go_sem]
    exact ⟨h', Sub.refl _, .inr ⟨i, hi, rfl, hi'⟩⟩

theorem drop1_c {k tag h bb mb L} (hB : BoardAt k tag h bb mb L) (id : Int) {qb : Nat} (hq : h qb = some (.cells [.ptr bb 0])) :
    ICall Try.prog 57 [.int .i64 id, .ptr qb 0] h (retP (.bool (L.find? fun p => p.m.is id).isNone) h) := by
  refine icall_of_iwp (fun _ => 0) Try.func57 rfl (by kernel_rfl) (Nat.le_of_ble_eq_true rfl) ?_
  rw [Try.results57]
  simp -implicitDefEqProofs [go_sem, hq]
  refine (has_c hB id).mono ?_
  rintro e h' ⟨rfl, he⟩
  rw [he]
  unfold hasV
  cases hfd : L.find? fun p => p.m.is id <;> simp -implicitDefEqProofs [go_sem]
  · exact ⟨_, Sub.refl _, rfl, rfl⟩
  · exact ⟨_, Sub.refl _, rfl, rfl⟩
end Go.Proofs
