/- This text is a part of the proofs of the statements of this seat: the ideal states and their rules, or what one of the functions that the statements reach comes to. Conditions: none beyond those that each theorem names. -/
import Derived.Test.YtiloboepepdcgaaK12
set_option linter.unusedVariables false
set_option linter.unusedSimpArgs false
set_option pp.deepTerms false
set_option pp.maxSteps 400
namespace Go.Proofs
open Go.Idl

/-! Panes as a list; Ints -/
theorem sortL_sorted (l : List Int) : (sortL l).Pairwise (· ≤ ·) := by
  have := List.pairwise_mergeSort (le := fun x y : Int => decide (x ≤ y)) (by intro a b c; simp; omega) (by intro a b; simp; omega) l
  exact this.imp (by simp)
theorem sorted_unique : ∀ {a b : List Int}, a.Perm b → a.Pairwise (· ≤ ·) → b.Pairwise (· ≤ ·) → a = b
  | [], b, hp, _, _ => (List.nil_perm.1 hp).symm
  | x :: a, b, hp, ha, hb => by
    cases b with
    | nil => exact absurd hp.length_eq (by simp)
    | cons y b =>
      have hx : x ∈ y :: b := hp.subset (List.mem_cons_self)
      have hy : y ∈ x :: a := hp.symm.subset (List.mem_cons_self)
      have h1 : x ≤ y := by
        rcases List.mem_cons.1 hy with h | h
        · omega
        · exact (List.pairwise_cons.1 ha).1 y h
      have h2 : y ≤ x := by
        rcases List.mem_cons.1 hx with h | h
        · omega
        · exact (List.pairwise_cons.1 hb).1 x h
      obtain rfl : x = y := by omega
      rw [sorted_unique ((List.perm_cons x).1 hp) (List.pairwise_cons.1 ha).2 (List.pairwise_cons.1 hb).2]
theorem sortL_congr {a b : List Int} (h : a.Perm b) : sortL a = sortL b := sorted_unique (((sortL_perm a).trans h).trans (sortL_perm b).symm) (sortL_sorted a) (sortL_sorted b)
theorem panes_z {k tag h bb mb L} (hB : BoardAt k tag h bb mb L) (hin : ∀ p ∈ L, inR p.m.id) (hl : L.length < 1000000000) : ICall Try.prog 30 [.ptr bb 0] h (retP (.list .plain ((sortL (liveM (L.map (·.m)))).map intRow)) h) := by
  refine (panes_c hB hin hl).fz ?_
  rintro e h' ⟨ss, hss, ⟨rfl, rfl, rfl⟩ | ⟨hne, b, cap, hb, hle, rfl, rfl⟩⟩
  · have : liveM (L.map (·.m)) = [] := List.nil_perm.1 hss
    rw [this]
    exact .inl ⟨by simp [sortL], rfl⟩
  · refine .inr ⟨_, b, 3, 1, rowsD (sortL ss).toArray, cap, rfl, SH_at _ _ _ _, ?_, ?_⟩
    · have hlen : (rowsD (sortL ss).toArray).length = ss.length := by simp [rowsD, sortL_len]
      simp only [fz3, fz2, fz1, hlen]
      rw [if_pos ⟨trivial, trivial, by omega⟩, List.drop_zero, List.take_of_length_le (by omega), ← sortL_congr hss, rowsD]
    · funext j
      simp only [dropH, SH, upd]
      split
      · rename_i e; rw [e, hb]
      · rfl
set_option maxRecDepth 20000 in
theorem intsEq_c (a b : List Int) (ha : a.length < 100000000) (hbl : b.length < 100000000) (h : Heap) : ICall Try.prog 29 [.list .plain (a.map intRow), .list .plain (b.map intRow)] h (retP (.bool (decide (a = b))) h) := by
  refine icall_of_iwp (fun _ => 0) Try.func29 rfl (by kernel_rfl) (Nat.le_of_ble_eq_true rfl) ?_
  rw [Try.results29]
  simp -implicitDefEqProofs [go_sem]
  refine cK_any (fun hne => ?_) (fun hne => ?_)
  · have hab : a ≠ b := by rintro rfl; simp at hne
    simp -implicitDefEqProofs [go_sem]
    exact ⟨_, Sub.refl _, by simp [hab], rfl⟩
  have hlen : a.length = b.length := by
    have : (a.length : Int) = b.length := by simpa using hne
    omega
  simp -implicitDefEqProofs [go_sem]
  refine iwp_loopF (rng [5] 13 26) nom (fun s => ∃ i : Nat, i ≤ a.length ∧ s.t 13 = .int .i64 i ∧ s.h = h ∧ a.take i = b.take i) (fun s => a.length - tn (s.t 13)) ?_ ?_
  · exact ⟨0, Nat.zero_le _, by simp -implicitDefEqProofs [go_sem], by simp -implicitDefEqProofs [go_sem], rfl⟩
  rintro J s hJ hf ⟨i, hi, h13, hh, hpre⟩
  simp -implicitDefEqProofs [go_sem, h13, hh, hf.t, hf.m]
  refine cK_dec (fun hlt => ?_) (fun hlt => ?_)
  · have hlb : i < b.length := by omega
    have hlt' : i < a.length := by omega
    have hw := wrap_succ (i := i) (by omega)
    simp -implicitDefEqProofs [go_sem, h13, hh, hf.t, hf.m]
    refine iwp_drawn_of mixed [0,1,2,3,4,5,6,7,8] (by kernel_rfl) ?_
    simp -implicitDefEqProofs [go_sem, h13, hh, hf.t, hf.m, hlt', hlb, intRow]
    refine cK_any (fun hq => ?_) (fun hq => ?_)
    · have hab : a ≠ b := by rintro rfl; simp at hq
      simp -implicitDefEqProofs [go_sem]
      exact ⟨_, Sub.refl _, by simp [hab], hh⟩
    · have hab : a[i] = b[i] := by simpa using hq
      simp -implicitDefEqProofs [go_sem, h13, hh, hf.t, hf.m, hf, hw]
      exact hJ _ ⟨i + 1, by omega, by simp -implicitDefEqProofs [go_sem, hw], by simp -implicitDefEqProofs [go_sem, hh], by rw [List.take_add_one, List.take_add_one, hpre, List.getElem?_eq_getElem hlt', List.getElem?_eq_getElem hlb, hab]⟩ (by simp [go_sem, h13, hw]; omega)
  · simp -implicitDefEqProofs [go_sem, h13, hh, hf.t, hf.m]
    have hab : a = b := by
      have hia : i = a.length := by omega
      rw [hia, List.take_length, hlen, List.take_length] at hpre; exact hpre
    exact ⟨_, Sub.refl _, by simp [hab], rfl⟩

/-! two boards beside one another -/
theorem BoardAt.frm {k k' tag h bb mb L tag' h'} (hB : BoardAt k tag h bb mb L) (hF : Frm k' tag h tag' h') (hk : k ≠ k') : BoardAt k tag' h' bb mb L := by
  have key : ∀ j o t, h j = some o → tag j = t → t.1 = k → h' j = some o ∧ tag' j = t := by
    intro j o t ho ht hk1
    obtain ⟨g1, g2⟩ := hF j o ho (by rw [ht, hk1]; exact hk)
    exact ⟨g1, g2.trans ht⟩
  refine ⟨(key _ _ _ hB.hb hB.tb rfl).1, (key _ _ _ hB.hb hB.tb rfl).2, (key _ _ _ hB.hm hB.tm rfl).1, (key _ _ _ hB.hm hB.tm rfl).2, ?_, hB.nd⟩
  intro i p hp
  obtain ⟨q1, q2, q3, q4⟩ := hB.hp i p hp
  obtain ⟨v, hv⟩ := q2.some
  refine ⟨fun hg => key _ _ _ (q1 hg).1 (q1 hg).2 rfl, ?_, (key _ _ _ hv q3 rfl).2, fun he => ?_⟩
  · refine q2.keep ?_ (fun he => ?_)
    · rw [hv]; exact (key _ _ _ hv q3 rfl).1
    · rcases q2 with ⟨g0, _⟩ | ⟨_, _, g2, _⟩
      · exact absurd g0 he
      · rw [g2]; exact (key _ _ _ g2 (q4 he) rfl).1
  · rcases q2 with ⟨g0, _⟩ | ⟨_, _, g2, _⟩
    · exact absurd g0 he
    · exact (key _ _ _ g2 (q4 he) rfl).2

theorem psh_id (p : PM) (x : Pn) : (psh p x).id = p.id ∧ (psh p x).gone = p.gone := by unfold psh; split <;> exact ⟨rfl, rfl⟩
theorem psend_id (p : PM) (i : Int) (bs : List UInt8) : (psend p i bs).id = p.id ∧ (psend p i bs).gone = p.gone := by unfold psend; split <;> exact ⟨rfl, rfl⟩
theorem is_ne {p q : PM} (hne : p.id ≠ q.id) {i : Int} (h : p.is i = true) : q.is i = false := by
  cases h2 : q.is i with
  | false => rfl
  | true => simp [PM.is] at h h2; exact absurd (h.2.trans h2.2.symm) hne
theorem show1_two {p q : PM} (hne : p.id ≠ q.id) (x : Pn) : (show1 [p, q] x).1 = [psh p x, psh q x] := by
  unfold show1
  cases h : PM.is x.id p with
  | true =>
    have h2 := is_ne hne h
    have e2 : psh q x = q := by simp [psh, h2]
    rw [e2]
    simp only [List.findIdx?_cons, h, if_true, List.getElem?_cons_zero, psh, true_and]
    split <;> simp_all
  | false =>
    have e1 : psh p x = p := by simp [psh, h]
    rw [e1]
    cases h2 : PM.is x.id q with
    | true =>
      simp only [List.findIdx?_cons, h, h2, psh, true_and]
      simp
      split <;> simp_all
    | false => simp [List.findIdx?_cons, h, h2, psh]
theorem sendM_two {p q : PM} (hne : p.id ≠ q.id) (i : Int) (bs : List UInt8) : (sendM [p, q] i bs).1 = [psend p i bs, psend q i bs] := by
  unfold sendM
  cases h : PM.is i p with
  | true =>
    have h2 := is_ne hne h
    have e2 : psend q i bs = q := by simp [psend, h2]
    rw [e2]
    simp only [List.findIdx?_cons, h, if_true, List.getElem?_cons_zero, psend, true_and]
    split <;> simp_all
  | false =>
    have e1 : psend p i bs = p := by simp [psend, h]
    rw [e1]
    cases h2 : PM.is i q with
    | true =>
      simp only [List.findIdx?_cons, h, h2, psend, true_and]
      simp
      split <;> simp_all
    | false => simp [List.findIdx?_cons, h, h2, psend]

/-- the two boards of SinkApart -/
structure Two (h0 : Heap) (tag : Nat → Nat × Nat × Nat) (h : Heap) (ba ma ra bb mb rb : Nat) (id other : Int) (n : Nat) (p p' q : PM) : Prop where
  a : ∃ A : PB, A.m = p ∧ A.rb = ra ∧ BoardAt 1 tag h ba ma [A]
  b : ∃ A B : PB, A.m = p' ∧ B.m = q ∧ A.rb = rb ∧ BoardAt 2 tag h bb mb [A, B]
  s : Sub h0 h
  f : ∀ j o, h0 j = some o → (tag j).1 = 3
  ids : p.id = id ∧ p'.id = id ∧ q.id = other ∧ id ≠ other
  gs : p.gone = false ∧ p'.gone = false
  l : p.evs.length ≤ n ∧ p'.evs.length ≤ n ∧ q.evs.length ≤ n
theorem map_two {L : List PB} {p q : PM} (h : L.map (·.m) = [p, q]) : ∃ A B : PB, L = [A, B] ∧ A.m = p ∧ B.m = q := by
  match L, h with
  | [A, B], h => simp at h; exact ⟨A, B, rfl, h.1, h.2⟩
theorem two_a {h0 tag h ba ma ra bb mb rb id other n p p' q} (T : Two h0 tag h ba ma ra bb mb rb id other n p p' q) {A : PB} (hA : A.rb = ra) {tag' h' L'} {p2 : PM} (hB : BoardAt 1 tag' h' ba ma L') (hF : Frm 1 tag h tag' h') (hS : Stay [A] L') (hm : L'.map (·.m) = [p2])
    (h1 : p2.id = p.id) (h2 : p2.gone = p.gone) (h3 : p2.evs.length ≤ n + 1) : Two h0 tag' h' ba ma ra bb mb rb id other (n + 1) p2 p' q := by
  obtain ⟨A', rfl, hA'⟩ := List.map_eq_singleton_iff.1 hm
  obtain ⟨A2, hq2, hq3⟩ := hS 0 A rfl
  simp only [List.getElem?_cons_zero, Option.some.injEq] at hq2
  subst hq2
  obtain ⟨⟨_, _, _, _⟩, ⟨B1, B2, b1, b2, b3, b4⟩, s, f, ids, gs, l⟩ := T
  refine ⟨⟨A', hA', hq3.trans hA, hB⟩, ⟨B1, B2, b1, b2, b3, b4.frm hF (by omega)⟩, fun j o hj => (hF j o (s j o hj) (by rw [f j o hj]; omega)).1, fun j o hj => by rw [(hF j o (s j o hj) (by rw [f j o hj]; omega)).2]; exact f j o hj, ⟨h1.trans ids.1, ids.2⟩, ⟨h2.trans gs.1, gs.2⟩, ⟨h3, by omega, by omega⟩⟩
theorem two_b {h0 tag h ba ma ra bb mb rb id other n p p' q} (T : Two h0 tag h ba ma ra bb mb rb id other n p p' q) {A B : PB} (hA : A.rb = rb) {tag' h' L'} {p2 q2 : PM} (hB : BoardAt 2 tag' h' bb mb L') (hF : Frm 2 tag h tag' h') (hS : Stay [A, B] L') (hm : L'.map (·.m) = [p2, q2])
    (h1 : p2.id = p'.id) (h2 : p2.gone = p'.gone) (h3 : p2.evs.length ≤ n + 1) (h4 : q2.id = q.id) (h5 : q2.evs.length ≤ n + 1) : Two h0 tag' h' ba ma ra bb mb rb id other (n + 1) p p2 q2 := by
  obtain ⟨A', B', rfl, hA', hB'⟩ := map_two hm
  obtain ⟨A2, hq2, hq3⟩ := hS 0 A rfl
  simp only [List.getElem?_cons_zero, Option.some.injEq] at hq2
  subst hq2
  obtain ⟨⟨A1, a1, a2, a3⟩, _, s, f, ids, gs, l⟩ := T
  refine ⟨⟨A1, a1, a2, a3.frm hF (by omega)⟩, ⟨A', B', hA', hB', hq3.trans hA, hB⟩, fun j o hj => (hF j o (s j o hj) (by rw [f j o hj]; omega)).1, fun j o hj => by rw [(hF j o (s j o hj) (by rw [f j o hj]; omega)).2]; exact f j o hj, ⟨ids.1, h1.trans ids.2.1, h4.trans ids.2.2.1, ids.2.2.2⟩, ⟨gs.1, h2.trans gs.2⟩, ⟨by omega, h3, h5⟩⟩
theorem evsLe_one {B : Nat} {p : PM} (h : p.evs.length ≤ B) : evsLe B [p] := by intro x hx; simp at hx; rw [hx]; exact h
theorem evsLe_two {B : Nat} {p q : PM} (h : p.evs.length ≤ B) (h2 : q.evs.length ≤ B) : evsLe B [p, q] := by intro x hx; simp at hx; rcases hx with rfl | rfl <;> assumption
end Go.Proofs
