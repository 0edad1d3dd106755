/- This text is a part of the proofs of the statements of this seat: the ideal states and their rules, or what one of the functions that the statements reach comes to. Conditions: none beyond those that each theorem names. -/
import Derived.Test.YtiloboepepdcgaaK10
set_option linter.unusedVariables false
set_option linter.unusedSimpArgs false
set_option pp.deepTerms false
set_option pp.maxSteps 400
namespace Go.Proofs
open Go.Idl

/-! how many events there are; boards of one pane -/
theorem show1_evs {B : Nat} {L : List PM} (x : Pn) (h : evsLe B L) : evsLe (B + 1) (show1 L x).1 := by
  have h0 : evsLe (B + 1) L := h.mono (by omega)
  unfold show1
  cases hf : L.findIdx? (PM.is x.id) with
  | none => exact h0
  | some i =>
    cases hi : L[i]? with
    | none => simp only [hi]; exact h0
    | some p =>
      simp only [hi]
      split
      · exact h0
      · refine h0.set ?_
        have := h p (List.mem_of_getElem? hi)
        simp only [PM.size, List.length_append, List.length_cons, List.length_nil]; omega
theorem showM_evs (l : List Pn) : ∀ (B : Nat) (L : List PM), evsLe B L → evsLe (B + l.length) (showM L l).1 := by
  induction l with
  | nil => intro B L h; exact h
  | cons x r ih =>
    intro B L h
    have := ih (B + 1) _ (show1_evs x h)
    simp only [showM, List.length_cons]
    exact this.mono (by omega)
theorem sendM_evs {B : Nat} {L : List PM} (id : Int) (bs : List UInt8) (h : evsLe B L) : evsLe (B + 1) (sendM L id bs).1 := by
  have h0 : evsLe (B + 1) L := h.mono (by omega)
  unfold sendM
  cases hf : L.findIdx? (PM.is id) with
  | none => exact h0
  | some i =>
    cases hi : L[i]? with
    | none => simp only [hi]; exact h0
    | some p =>
      simp only [hi]
      split
      · exact h0
      · refine h0.set ?_
        have := h p (List.mem_of_getElem? hi)
        simp only [PM.put, List.length_append, List.length_cons, List.length_nil]; omega
def psh (p : PM) (x : Pn) : PM := if p.is x.id = true ∧ ¬ (p.told = true ∧ p.w = x.w ∧ p.h = x.h) then p.size x.w x.h else p
theorem show1_one (p : PM) (x : Pn) : (show1 [p] x).1 = [psh p x] := by
  unfold show1 psh
  cases h : PM.is x.id p with
  | true =>
    simp only [List.findIdx?_cons, h, if_true, List.getElem?_cons_zero, true_and]
    split <;> simp_all
  | false => simp [List.findIdx?_cons, h]
theorem showM_one (l : List Pn) : ∀ p : PM, (showM [p] l).1 = [l.foldl psh p] := by
  induction l with
  | nil => intro p; rfl
  | cons x r ih => intro p; simp only [showM, show1_one, ih, List.foldl_cons]
def psend (p : PM) (id : Int) (bs : List UInt8) : PM := if p.is id = true ∧ bs ≠ [] then p.put ⟨2, 0, 0, ⟨bs.toArray⟩⟩ else p
theorem sendM_one (p : PM) (id : Int) (bs : List UInt8) : (sendM [p] id bs).1 = [psend p id bs] := by
  unfold sendM psend
  cases h : PM.is id p with
  | true =>
    simp only [List.findIdx?_cons, h, if_true, List.getElem?_cons_zero, true_and]
    split <;> simp_all
  | false => simp [List.findIdx?_cons, h]
def pdrop (p : PM) : PM := { p.put ⟨3, 0, 0, ⟨#[]⟩⟩ with gone := true }
theorem dropM1_one {p : PM} {id : Int} (h : p.is id = true) : dropM1 [p] id = [pdrop p] := by
  simp [dropM1, List.findIdx?_cons, h, pdrop]
theorem is_gone {p : PM} (id : Int) (h : p.gone = true) : p.is id = false := by simp [PM.is, h]
theorem psh_gone {p : PM} (l : List Pn) (h : p.gone = true) : l.foldl psh p = p := by
  induction l with
  | nil => rfl
  | cons x r ih => rw [List.foldl_cons, psh, if_neg (by rw [is_gone _ h]; simp)]; exact ih
theorem psend_gone {p : PM} (id : Int) (bs : List UInt8) (h : p.gone = true) : psend p id bs = p := by rw [psend, if_neg (by rw [is_gone _ h]; simp)]

/-! no size is told twice -/
def scanE : Int × Int → List Ev → Option (Int × Int)
  | s, [] => some s
  | s, e :: r => if e.kind = 3 ∨ (e.kind = 1 ∧ e.w = s.1 ∧ e.h = s.2) then none else scanE (if e.kind = 1 then (e.w, e.h) else s) r
theorem scanE_append (a b : List Ev) : ∀ s, scanE s (a ++ b) = (scanE s a).bind fun s' => scanE s' b := by
  induction a with
  | nil => intro s; rfl
  | cons e r ih =>
    intro s
    simp only [List.cons_append, scanE]
    split
    · rfl
    · exact ih _
def OnceI (id : Int) (p : PM) : Prop := p.gone = false ∧ p.id = id ∧ scanE (0, 0) p.evs = some (if p.told = true then (p.w, p.h) else (0, 0))
theorem OnceI.psh {id : Int} {p : PM} (h : OnceI id p) (x : Pn) (hx : 1 ≤ x.w ∧ 1 ≤ x.h) : OnceI id (psh p x) := by
  obtain ⟨h1, h2, h3⟩ := h
  unfold Go.Proofs.psh
  split
  · rename_i hc
    refine ⟨h1, h2, ?_⟩
    simp only [PM.size, scanE_append, h3, Option.bind_some, scanE, if_true]
    rw [if_neg]
    rintro (h | ⟨_, g1, g2⟩)
    · simp at h
    · cases ht : p.told with
      | true => simp [ht] at g1 g2; exact hc.2 ⟨ht, g1.symm, g2.symm⟩
      | false => simp [ht] at g1; omega
  · exact ⟨h1, h2, h3⟩
theorem OnceI.pshs {id : Int} (l : List Pn) : ∀ {p : PM}, OnceI id p → (∀ x ∈ l, 1 ≤ x.w ∧ 1 ≤ x.h) → OnceI id (l.foldl Go.Proofs.psh p) := by
  induction l with
  | nil => intro p h _; exact h
  | cons x r ih => intro p h hx; exact ih (h.psh x (hx x (List.mem_cons_self))) (fun y hy => hx y (List.mem_cons_of_mem _ hy))
theorem OnceI.psend {id : Int} {p : PM} (h : OnceI id p) (i : Int) (bs : List UInt8) : OnceI id (psend p i bs) := by
  obtain ⟨h1, h2, h3⟩ := h
  unfold Go.Proofs.psend
  split
  · refine ⟨h1, h2, ?_⟩
    simp only [PM.put, scanE_append, h3, Option.bind_some, scanE]
    simp
    rfl
  · exact ⟨h1, h2, h3⟩

/-! good -/
def goodL (l : List Pn) : Prop := (∀ x ∈ l, 1 ≤ x.w ∧ 1 ≤ x.h) ∧ l.length ≤ 20
set_option maxRecDepth 20000 in
theorem good_c (l : List Pn) (hl : l.length < 100000000) (h : Heap) : ICall Try.prog 13 [.list .plain (l.map Pn.row)] h (fun e h' => h' = h ∧ ∃ b, e = .ret (.bool b) ∧ (b = true ↔ goodL l)) := by
  refine icall_of_iwp (fun _ => 0) Try.func13 rfl (by kernel_rfl) (Nat.le_of_ble_eq_true rfl) ?_
  rw [Try.results13]
  simp -implicitDefEqProofs [go_sem]
  refine iwp_loopF (rng [3] 4 29) nom (fun s => ∃ i : Nat, i ≤ l.length ∧ s.t 3 = .int .i64 i ∧ s.h = h ∧ ∀ j x, j < i → l[j]? = some x → 1 ≤ x.w ∧ 1 ≤ x.h) (fun s => l.length - tn (s.t 3)) ?_ ?_
  · exact ⟨0, Nat.zero_le _, by simp -implicitDefEqProofs [go_sem], by simp -implicitDefEqProofs [go_sem], fun j x hj => by omega⟩
  rintro J s hJ hf ⟨i, hi, h3, hh, hpre⟩
  simp -implicitDefEqProofs [go_sem, h3, hh, hf.t, hf.m]
  refine cK_dec (fun hlt => ?_) (fun hlt => ?_)
  · have hlt' : i < l.length := by omega
    have hw := wrap_succ (i := i) (by omega)
    have hg : l[i]? = some l[i] := List.getElem?_eq_getElem hlt'
    have hga : (l.map Pn.row)[i]? = some l[i].row := by simp [hlt']
    simp -implicitDefEqProofs [go_sem, h3, hh, hf.t, hf.m, hlt', hga, Pn.row_len, Pn.row]
    refine cK_dec (fun hw1 => ?_) (fun hw1 => ?_)
    · simp -implicitDefEqProofs [go_sem, h3, hh, hf.t, hf.m, hlt', hga, Pn.row_len, Pn.row]
      refine ⟨h, Sub.refl _, rfl, fun hgl => ?_⟩
      have := hgl.1 _ (List.getElem_mem hlt')
      omega
    simp -implicitDefEqProofs [go_sem, h3, hh, hf.t, hf.m, hlt', hga, Pn.row_len, Pn.row]
    refine cK_dec (fun hh1 => ?_) (fun hh1 => ?_)
    · simp -implicitDefEqProofs [go_sem, h3, hh, hf.t, hf.m, hlt', hga, Pn.row_len, Pn.row]
      refine ⟨h, Sub.refl _, rfl, fun hgl => ?_⟩
      have := hgl.1 _ (List.getElem_mem hlt')
      omega
    simp -implicitDefEqProofs [go_sem, h3, hh, hf.t, hf.m, hf, hw]
    refine hJ _ ⟨i + 1, by omega, by simp -implicitDefEqProofs [go_sem, hw], by simp -implicitDefEqProofs [go_sem, hh], fun j x hj hx => ?_⟩ (by simp [go_sem, h3, hw]; omega)
    by_cases hji : j < i
    · exact hpre j x hji hx
    · obtain rfl : j = i := by omega
      rw [hg] at hx; cases hx; omega
  · simp -implicitDefEqProofs [go_sem, h3, hh, hf.t, hf.m]
    have hall : ∀ x ∈ l, 1 ≤ x.w ∧ 1 ≤ x.h := fun x hx => by
      obtain ⟨j, hj, rfl⟩ := List.getElem_of_mem hx
      exact hpre j _ (by omega) (List.getElem?_eq_getElem hj)
    refine ⟨h, Sub.refl _, rfl, ?_⟩
    by_cases h20 : l.length ≤ 20
    · exact .inr ⟨by omega, hall, h20⟩
    · exact .inl ⟨by omega, fun hg => h20 hg.2⟩

/-- a board of one pane, whose record lies at rb -/
def One (k : Nat) (h0 : Heap) (tag : Nat → Nat × Nat × Nat) (h : Heap) (bb mb rb : Nat) (p : PM) : Prop := ∃ q : PB, q.m = p ∧ q.rb = rb ∧ BoardAt k tag h bb mb [q] ∧ Frm k (fun _ => (k+1, 0, 0)) h0 tag h
theorem one_next {k : Nat} {h0 : Heap} {tag h bb mb} {q : PB} {tag' h' L'} {p' : PM} (hF0 : Frm k (fun _ => (k+1, 0, 0)) h0 tag h) (hB : BoardAt k tag' h' bb mb L') (hF : Frm k tag h tag' h') (hS : Stay [q] L') (hm : L'.map (·.m) = [p']) : One k h0 tag' h' bb mb q.rb p' := by
  obtain ⟨q', rfl, hq'⟩ := List.map_eq_singleton_iff.1 hm
  obtain ⟨q2, hq2, hq3⟩ := hS 0 q rfl
  simp only [List.getElem?_cons_zero, Option.some.injEq] at hq2
  subst hq2
  exact ⟨q', hq', hq3, hB, hF0.trans hF⟩
theorem show_one {k h0 tag h bb mb rb p} (h1 : One k h0 tag h bb mb rb p) (l : List Pn) (hl : l.length < 100000000) (hev : p.evs.length < 100000000) :
    ICall Try.prog 18 [.ptr bb 0, .list .plain (l.map Pn.row)] h (fun e h' => (∃ n : Int, e = .ret (.int .i64 n)) ∧ ∃ tag', One k h0 tag' h' bb mb rb (l.foldl psh p)) := by
  obtain ⟨q, rfl, rfl, hB0, hF0⟩ := h1
  refine (show_c hB0 l q.m.evs.length (by intro x hx; simp at hx; rw [hx]; exact Nat.le_refl _) (by omega)).mono ?_
  rintro e h' ⟨tag', L', rfl, hB, hF, hS, hm⟩
  refine ⟨⟨_, rfl⟩, tag', ?_⟩
  have hm' : L'.map (·.m) = [l.foldl psh q.m] := by rw [hm]; exact showM_one l q.m
  exact one_next hF0 hB hF hS hm'
theorem send_one {k h0 tag h bb mb rb p} (h1 : One k h0 tag h bb mb rb p) (id : Int) (bs : List UInt8) (hl : bs.length < 100000000) (hev : p.evs.length < 10000000) :
    ICall Try.prog 19 [.ptr bb 0, .int .i64 id, .list .plain (bs.map byteRow)] h (fun e h' => (∃ n : Int, e = .ret (.int .i64 n)) ∧ ∃ tag', One k h0 tag' h' bb mb rb (psend p id bs)) := by
  obtain ⟨q, rfl, rfl, hB0, hF0⟩ := h1
  refine (send_c hB0 id bs q.m.evs.length (by intro x hx; simp at hx; rw [hx]; exact Nat.le_refl _) (by omega) (by omega)).mono ?_
  rintro e h' ⟨tag', L', rfl, hB, hF, hS, hm⟩
  refine ⟨⟨_, rfl⟩, tag', ?_⟩
  have hm' : L'.map (·.m) = [psend q.m id bs] := by rw [hm]; exact sendM_one q.m id bs
  exact one_next hF0 hB hF hS hm'
theorem drop_one {k h0 tag h bb mb rb p} (h1 : One k h0 tag h bb mb rb p) (id : Int) (his : p.is id = true) (hev : p.evs.length < 10000000) :
    ICall Try.prog 20 [.ptr bb 0, .list .plain [[.int .i64 id]]] h (fun e h' => (∃ n : Int, e = .ret (.int .i64 n)) ∧ ∃ tag', One k h0 tag' h' bb mb rb (pdrop p)) := by
  obtain ⟨q, rfl, rfl, hB0, hF0⟩ := h1
  have hd := drop_c hB0 [id] q.m.evs.length (by intro x hx; simp at hx; rw [hx]; exact Nat.le_refl _) (by omega) (by simp)
  simp only [List.map, intRow] at hd
  refine hd.mono ?_
  rintro e h' ⟨tag', L', hB, hF, hS, hm⟩
  have hok : dropOk ([q].map (·.m)) [id] := ⟨by simp, by intro i hi; simp at hi; subst hi; simp [hasM, List.findIdx?_cons, his]⟩
  rcases hm with ⟨_, rfl, hm⟩ | ⟨hno, _⟩
  · refine ⟨⟨_, rfl⟩, tag', ?_⟩
    have hm' : L'.map (·.m) = [pdrop q.m] := by rw [hm]; exact dropM1_one his
    exact one_next hF0 hB hF hS hm'
  · exact absurd hok hno
theorem events_one {k h0 tag h bb mb rb p} (h1 : One k h0 tag h bb mb rb p) (hev : p.evs.length < 1000000000) : ICall Try.prog 21 [.ptr rb 0] h (retP (.list .plain (p.evs.map Ev.row)) h) := by
  obtain ⟨q, rfl, rfl, hB0, hF0⟩ := h1
  exact events_c q.rb q.eb q.cap q.m.evs h (hB0.recs (i := 0) rfl) hev
end Go.Proofs
