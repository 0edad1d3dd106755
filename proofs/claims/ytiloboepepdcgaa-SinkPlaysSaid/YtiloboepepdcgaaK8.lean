/- This text is a part of the proofs of the statements of this seat: the ideal states and their rules, or what one of the functions that the statements reach comes to. Conditions: none beyond those that each theorem names. -/
import Derived.Test.YtiloboepepdcgaaK7
set_option linter.unusedVariables false
set_option linter.unusedSimpArgs false
set_option pp.deepTerms false
set_option pp.maxSteps 400
namespace Go.Proofs
open Go.Idl

/-! Drop -/
theorem idel_live {L : List PB} {i : Nat} {p : PB} (nd : ((L.filter fun p => !p.m.gone).map fun p => p.m.id).Nodup) (hi : L[i]? = some p) (hg : p.m.gone = false) {p' : PB} (hg' : p'.m.gone = true) :
    idel (.int .i64) (.int .i64 p.m.id) (liveE L) = some (liveE (L.set i p')) ∧ ((L.set i p').filter fun p => !p.m.gone).map (fun p => p.m.id) = ((L.filter fun p => !p.m.gone).map fun p => p.m.id).erase p.m.id := by
  induction L generalizing i with
  | nil => simp at hi
  | cons q r ih =>
    cases i with
    | zero =>
      simp only [List.getElem?_cons_zero, Option.some.injEq] at hi
      subst hi
      simp [liveE, List.filter_cons, hg, hg', idel, kEq]
    | succ i =>
      simp only [List.getElem?_cons_succ] at hi
      have hmem : p.m.id ∈ (r.filter fun p => !p.m.gone).map fun p => p.m.id := List.mem_map.2 ⟨p, List.mem_filter.2 ⟨List.mem_of_getElem? hi, by simp [hg]⟩, rfl⟩
      cases hq : q.m.gone with
      | true =>
        simp only [List.filter_cons, hq] at nd
        obtain ⟨k1, k2⟩ := ih (by simpa using nd) hi
        simp only [liveE] at k1
        simp [List.set_cons_succ, liveE, List.filter_cons, hq, k1, k2]
      | false =>
        simp only [List.filter_cons, hq] at nd
        simp only [Bool.not_false, if_true, List.map_cons, List.nodup_cons] at nd
        obtain ⟨k1, k2⟩ := ih nd.2 hi
        have hne : p.m.id ≠ q.m.id := fun e => nd.1 (e ▸ hmem)
        have hne' : (q.m.id == p.m.id) = false := by simpa using Ne.symm hne
        have hne2 : (p.m.id == q.m.id) = false := by simpa using hne
        simp only [liveE] at k1
        simp [List.set_cons_succ, liveE, List.filter_cons, hq, idel, kEq, hne, hne2, k1, k2, List.erase_cons, hne']

theorem BoardAt.drop {k tag h bb mb L} (hB : BoardAt k tag h bb mb L) {i : Nat} {p : PB} (hi : L[i]? = some p) (hg : p.m.gone = false) :
    BoardAt k tag (upd h mb (some (.map (liveE (L.set i { p with m := { p.m with gone := true } }))))) bb mb (L.set i { p with m := { p.m with gone := true } }) ∧
    Frm k tag h tag (upd h mb (some (.map (liveE (L.set i { p with m := { p.m with gone := true } }))))) ∧ Stay L (L.set i { p with m := { p.m with gone := true } }) := by
  have hlt := (List.getElem?_eq_some_iff.1 hi).1
  obtain ⟨e1, e2⟩ := idel_live (p' := { p with m := { p.m with gone := true } }) hB.nd hi hg rfl
  have hbm : bb ≠ mb := by rintro e; have h1 := hB.tb; have h2 := hB.tm; rw [e, h2] at h1; simp at h1
  have htm := hB.tm
  have keep : ∀ j o t, h j = some o → tag j = t → t ≠ (k, 1, 0) → upd h mb (some (.map (liveE (L.set i { p with m := { p.m with gone := true } })))) j = h j := by
    intro j o t ho ht hn
    refine upd_ne _ _ ?_
    rintro rfl
    exact hn (by rw [← ht, htm])
  refine ⟨⟨?_, hB.tb, upd_same _ _ _, hB.tm, ?_, ?_⟩, ?_, ?_⟩
  · rw [upd_ne _ _ hbm]; exact hB.hb
  · intro i2 p2 hp2
    have old : ∀ q, L[i2]? = some q → RecIs (upd h mb (some (.map (liveE (L.set i { p with m := { p.m with gone := true } }))))) q.rb q.eb q.cap q.m.evs := by
      intro q hq
      obtain ⟨r1, r2, r3, r4⟩ := hB.hp i2 q hq
      obtain ⟨v, hv⟩ := r2.some
      refine r2.keep (keep _ _ _ hv r3 (by simp)) (fun he => ?_)
      rcases r2 with ⟨g0, _⟩ | ⟨_, _, g2, _⟩
      · exact absurd g0 he
      · exact keep _ _ _ g2 (r4 he) (by simp)
    rw [List.getElem?_set] at hp2
    split at hp2
    · rename_i hii
      subst hii
      cases hp2
      obtain ⟨r1, r2, r3, r4⟩ := hB.hp i p hi
      exact ⟨fun h => (by cases h), old p hi, r3, r4⟩
    · rename_i hii
      obtain ⟨r1, r2, r3, r4⟩ := hB.hp i2 p2 hp2
      refine ⟨fun hg2 => ⟨?_, (r1 hg2).2⟩, old p2 hp2, r3, r4⟩
      rw [keep _ _ _ (r1 hg2).1 (r1 hg2).2 (by simp)]; exact (r1 hg2).1
  · rw [e2]; exact hB.nd.erase _
  · intro j o ho ht
    refine ⟨?_, rfl⟩
    rw [keep j o _ ho rfl (by rintro e; rw [e] at ht; exact ht rfl)]; exact ho
  · intro i2 p2 hp2
    by_cases hii : i = i2
    · subst hii
      rw [hi] at hp2; cases hp2
      exact ⟨{ p with m := { p.m with gone := true } }, by rw [List.getElem?_set]; simp [hlt], rfl⟩
    · exact ⟨p2, by rw [List.getElem?_set]; simp [hii, hp2], rfl⟩

def dropM1 (L : List PM) (id : Int) : List PM :=
  match L.findIdx? (PM.is id) with
  | none => L
  | some i => match L[i]? with | none => L | some p => L.set i { p.put ⟨3, 0, 0, ⟨#[]⟩⟩ with gone := true }
def hasM (L : List PM) (id : Int) : Bool := (L.findIdx? (PM.is id)).isSome
def dropOk (L : List PM) (ids : List Int) : Prop := ids.Nodup ∧ ∀ id ∈ ids, hasM L id = true
def dropR (k : Nat) (tag : Nat → Nat × Nat × Nat) (h : Heap) (bb mb : Nat) (L : List PB) (ids : List Int) (e : IEnd) (h' : Heap) : Prop :=
  ∃ tag' L', BoardAt k tag' h' bb mb L' ∧ Frm k tag h tag' h' ∧ Stay L L' ∧
    ((dropOk (L.map (·.m)) ids ∧ e = .ret (.int .i64 0) ∧ L'.map (·.m) = ids.foldl dropM1 (L.map (·.m))) ∨ (¬ dropOk (L.map (·.m)) ids ∧ e = .ret (.int .i64 6) ∧ L' = L))

theorem find_has {L : List PB} (id : Int) : (L.find? fun p => p.m.is id).isNone = !hasM (L.map (·.m)) id := by
  cases hfd : L.find? fun p => p.m.is id with
  | none => simp [hasM, find_no hfd]
  | some p =>
    obtain ⟨ix, hix, hfi, his⟩ := find_ix hfd
    simp [hasM, hfi]
theorem find_hasM {L : List PM} {id : Int} (h : hasM L id = true) : ∃ i p, L.findIdx? (PM.is id) = some i ∧ L[i]? = some p ∧ p.gone = false ∧ p.id = id := by
  unfold hasM at h
  obtain ⟨i, hi⟩ := Option.isSome_iff_exists.1 h
  obtain ⟨hl, h1, _⟩ := List.findIdx?_eq_some_iff_getElem.1 hi
  refine ⟨i, L[i], hi, List.getElem?_eq_getElem hl, ?_⟩
  simpa [PM.is] using h1
theorem hasM_drop {L : List PM} {a b : Int} (hne : a ≠ b) (hb : hasM L b = true) : hasM (dropM1 L a) b = true := by
  unfold dropM1
  cases hf : L.findIdx? (PM.is a) with
  | none => exact hb
  | some i =>
    obtain ⟨hl, h1, _⟩ := List.findIdx?_eq_some_iff_getElem.1 hf
    simp only [List.getElem?_eq_getElem hl]
    obtain ⟨j, p, hj, hp, hg, hid⟩ := find_hasM hb
    obtain ⟨hjl, hj1, _⟩ := List.findIdx?_eq_some_iff_getElem.1 hj
    have hij : i ≠ j := by
      rintro rfl
      simp only [PM.is, Bool.and_eq_true, beq_iff_eq] at h1 hj1
      exact hne (h1.2.symm.trans hj1.2)
    unfold hasM
    rw [List.findIdx?_isSome, List.any_eq_true]
    refine ⟨p, ?_, by simp [PM.is, hg, hid]⟩
    refine List.mem_of_getElem? (i := j) ?_
    rw [List.getElem?_set_ne hij]; exact hp
theorem dropM1_evs {B : Nat} {L : List PM} (id : Int) (h : evsLe B L) : evsLe (B + 1) (dropM1 L id) := by
  unfold dropM1
  have h0 : evsLe (B + 1) L := fun p hp => Nat.le_succ_of_le (h p hp)
  cases hf : L.findIdx? (PM.is id) with
  | none => exact h0
  | some i =>
    cases hi : L[i]? with
    | none => simp only [hi]; exact h0
    | some p =>
      simp only [hi]
      intro q hq
      rcases List.mem_or_eq_of_mem_set hq with hq | rfl
      · exact h0 q hq
      · simp only [PM.put, List.length_append, List.length_cons, List.length_nil]
        have := h p (List.mem_of_getElem? hi); omega

theorem adj_sort {ss : List Int} : adjD (sortL ss).toArray ↔ ¬ ss.Nodup := by
  have hs : (sortL ss).Pairwise (· ≤ ·) := by
    have := List.pairwise_mergeSort (le := fun x y : Int => decide (x ≤ y)) (by intro a b c; simp; omega) (by intro a b; simp; omega) ss
    exact this.imp (by simp)
  have hp := sortL_perm ss
  rw [← hp.nodup_iff]
  generalize sortL ss = l at hs
  constructor
  · rintro ⟨j, hj, he⟩ hn
    simp only [List.size_toArray] at hj
    have h1 : l.toArray[j]! = l[j] := by rw [getElem!_pos l.toArray j (by simp; omega)]; simp
    have h2 : l.toArray[j+1]! = l[j+1] := by rw [getElem!_pos l.toArray (j+1) (by simp; omega)]; simp
    rw [h1, h2] at he
    exact (List.pairwise_iff_getElem.1 hn j (j+1) (by omega) hj (by omega)) he
  · intro hn
    apply Classical.byContradiction
    intro hc
    apply hn
    have hlt : ∀ j, (h : j + 1 < l.length) → l[j] < l[j+1] := by
      intro j h
      have h1 : l.toArray[j]! = l[j] := by rw [getElem!_pos l.toArray j (by simp; omega)]; simp
      have h2 : l.toArray[j+1]! = l[j+1] := by rw [getElem!_pos l.toArray (j+1) (by simp; omega)]; simp
      have hle := List.pairwise_iff_getElem.1 hs j (j+1) (by omega) h (by omega)
      have hne : l[j] ≠ l[j+1] := fun e => hc ⟨j, by simpa using h, by rw [h1, h2]; exact e⟩
      omega
    have hlt2 : ∀ d j, (h : j + d + 1 < l.length) → l[j] < l[j+d+1] := by
      intro d
      induction d with
      | zero => exact fun j h => hlt j h
      | succ d ih =>
        intro j h
        have := ih j (by omega)
        have := hlt (j+d+1) (by omega)
        have e : j + (d+1) + 1 = j + d + 1 + 1 := by omega
        simp only [e]
        omega
    rw [List.Nodup, List.pairwise_iff_getElem]
    intro i j hi hj hij
    have := hlt2 (j - i - 1) i (by omega)
    have e : i + (j - i - 1) + 1 = j := by omega
    simp only [e] at this
    omega

set_option maxRecDepth 20000 in
set_option maxHeartbeats 4000000 in
theorem drop_c {k tag h bb mb L} (hB : BoardAt k tag h bb mb L) (ids : List Int) (B : Nat) (hev : evsLe B (L.map (·.m))) (hb : B < 100000000) (hl : ids.length < 100000000) :
    ICall Try.prog 20 [.ptr bb 0, .list .plain (ids.map intRow)] h (dropR k tag h bb mb L ids) := by
  refine icall_of_iwp (fun d => if d = 2 then 1 else 0) Try.func20 rfl (by kernel_rfl) (Nat.le_of_ble_eq_true rfl) ?_
  rw [Try.results20]
  simp -implicitDefEqProofs [go_sem]
  intro qb hqb
  refine (values_c ids _).mono ?_
  rintro e h' ⟨bx, hbx, rfl, rfl⟩
  simp -implicitDefEqProofs [go_sem]
  refine (sorted_c (values_it (upd_same _ _ _) (by omega)) (by omega) (by rintro ss rfl; exact Nat.le_refl _) rfl).mono ?_
  have hB1 := hB.grow hqb (some (.cells [.ptr bb 0])) (k+1, 0, 0)
  have hF1 := Frm.grow (k := k) (tag := tag) hqb (some (.cells [.ptr bb 0])) (k+1, 0, 0)
  have hB2 := hB1.grow hbx (some (.cells [.list .plain (ids.map intRow)])) (k+1, 0, 0)
  have hF2 := Frm.grow (k := k) (tag := upd tag qb (k+1, 0, 0)) hbx (some (.cells [.list .plain (ids.map intRow)])) (k+1, 0, 0)
  have hF := hF1.trans hF2
  have hqbx : qb ≠ bx := by rintro rfl; simp [upd] at hbx
  have hHq : (upd (upd h qb (some (.cells [.ptr bb 0]))) bx (some (.cells [.list .plain (ids.map intRow)]))) qb = some (.cells [.ptr bb 0]) := by rw [upd_ne _ _ hqbx, upd_same]
  have hTq : (upd (upd tag qb (k+1, 0, 0)) bx (k+1, 0, 0)) qb = (k+1, 0, 0) := by rw [upd_ne _ _ hqbx, upd_same]
  generalize hH : (upd (upd h qb (some (.cells [.ptr bb 0]))) bx (some (.cells [.list .plain (ids.map intRow)]))) = H at *
  generalize hTg : (upd (upd tag qb (k+1, 0, 0)) bx (k+1, 0, 0)) = tagH at *
  clear hH hTg hB1 hF1 hF2
  rintro e h' ⟨ss, hss, hcase⟩
  rw [hss] at hcase
  clear hss ss
  have hcon := containsFunc_int (l := ids) (f := 57) (first := []) (cap := [.ptr qb 0])
    (Inv := fun i h' => h' = H ∧ ∀ j, j < i → ∀ x, ids[j]? = some x → hasM (L.map (·.m)) x = true) (Hit := fun i h' => h' = H ∧ ∃ x, ids[i]? = some x ∧ hasM (L.map (·.m)) x = false) (by omega)
    (fun i hi h' hI => by
      obtain ⟨rfl, hI⟩ := hI
      refine (drop1_c hB2 ids[i] hHq).mono ?_
      rintro e h' ⟨rfl, rfl⟩
      rw [find_has]
      cases hx : hasM (L.map (·.m)) ids[i] with
      | false => exact .inr ⟨rfl, rfl, ids[i], List.getElem?_eq_getElem hi, hx⟩
      | true =>
        refine .inl ⟨rfl, rfl, fun j hj x hjx => ?_⟩
        by_cases hji : j < i
        · exact hI j hji x hjx
        · obtain rfl : j = i := by omega
          rw [List.getElem?_eq_getElem hi] at hjx
          cases hjx; exact hx) H ⟨rfl, fun j hj => by omega⟩
  simp only [List.nil_append] at hcon
  rcases hcase with ⟨rfl, rfl, hq0⟩ | ⟨hne, b, cp, hb, hle, rfl, rfl⟩
  · rw [hq0]
    simp -implicitDefEqProofs [go_sem]
    refine (compact0_c _).mono ?_
    rintro e h2 ⟨rfl, he⟩
    rw [he]
    simp -implicitDefEqProofs [go_sem]
    refine hcon.mono ?_
    rintro e h2 (⟨rfl, hq1, _⟩ | ⟨i, hi, _⟩)
    rotate_left
    · simp at hi
    rw [hq1]
    simp -implicitDefEqProofs [go_sem]
    refine iwp_loopF (rng [7] 24 44) nom (fun s => s.t 24 = .int .i64 0 ∧ s.h = H) (fun s => 0) ?_ ?_
    · exact ⟨by simp -implicitDefEqProofs [go_sem], by simp -implicitDefEqProofs [go_sem]⟩
    rintro J s hJ hf ⟨h24, hh⟩
    simp -implicitDefEqProofs [go_sem, h24, hh, hf.t, hf.m]
    exact ⟨_, Sub.refl _, tagH, L, hB2, hF, Stay.refl _, .inl ⟨⟨List.nodup_nil, by simp⟩, rfl, rfl⟩⟩
  · simp -implicitDefEqProofs [go_sem]
    have hsz : (sortL ids).toArray.size = ids.length := by simp [sortL_len]
    have hpos : 0 < ids.length := List.length_pos_iff.2 hne
    have hcc := compact_c (sortL ids).toArray b cp H hb (by omega) (by omega) (by omega)
    rw [hsz] at hcc
    refine hcc.mono ?_
    rintro e h' ⟨hq0, m, rfl, hm1, hm2⟩
    rw [hq0]
    rw [hsz, adj_sort] at hm2
    rw [hsz] at hm1
    by_cases hmn : m < ids.length
    · simp -implicitDefEqProofs [go_sem, hmn]
      exact ⟨_, Sub.refl _, tagH, L, hB2, hF, Stay.refl _, .inr ⟨fun hok => (hm2.1 hmn) hok.1, rfl, rfl⟩⟩
    have hnd : ids.Nodup := by
      apply Classical.byContradiction
      exact fun hn => hmn (hm2.2 hn)
    simp -implicitDefEqProofs [go_sem, hmn]
    refine hcon.mono ?_
    rintro e h2 (⟨rfl, hq1, hall⟩ | ⟨i, hi, rfl, hq1, x, hx, hxf⟩)
    all_goals rw [hq1]
    · simp -implicitDefEqProofs [go_sem, hmn]
      have hok : dropOk (L.map (·.m)) ids := ⟨hnd, fun x hx => by
        obtain ⟨j, hj, rfl⟩ := List.getElem_of_mem hx
        exact hall j hj _ (List.getElem?_eq_getElem hj)⟩
      refine iwp_loopF (rng [7] 24 44) nom (fun s => ∃ (i : Nat) (tag' : Nat → Nat × Nat × Nat) (Li : List PB), i ≤ ids.length ∧ s.t 24 = .int .i64 i ∧ BoardAt k tag' s.h bb mb Li ∧ Frm k tagH H tag' s.h ∧ Stay L Li ∧
        Li.map (·.m) = (ids.take i).foldl dropM1 (L.map (·.m)) ∧ evsLe (B + i) (Li.map (·.m)) ∧ ∀ j x, i ≤ j → ids[j]? = some x → hasM (Li.map (·.m)) x = true) (fun s => ids.length - tn (s.t 24)) ?_ ?_
      · exact ⟨0, tagH, L, Nat.zero_le _, by simp -implicitDefEqProofs [go_sem], by simpa -implicitDefEqProofs [go_sem] using hB2, by simpa -implicitDefEqProofs [go_sem] using Frm.refl _ _ _, Stay.refl _, rfl, hev, fun j x _ hx => hok.2 x (List.mem_of_getElem? hx)⟩
      rintro J s hJ hf ⟨i, tag', Li, hi, h24, hBi, hFi, hSi, hLi, hei, hhas⟩
      simp -implicitDefEqProofs [go_sem, h24, hf.t, hf.m]
      refine cK_dec (fun hlt => ?_) (fun hge => ?_)
      · have hg : ids[i]? = some ids[i] := List.getElem?_eq_getElem hlt
        have hg' : (ids.map intRow)[i]? = some [.int .i64 ids[i]] := by simp [hg, intRow]
        have hw := wrap_succ (i := i) (by omega)
        have hqs : s.h qb = some (.cells [.ptr bb 0]) := (hFi qb _ hHq (by rw [hTq]; simp)).1
        have h1 := hBi.hb
        have h2 := hBi.hm
        have hq := hhas i _ (Nat.le_refl _) hg
        cases hfd : Li.find? fun p => p.m.is ids[i] with
        | none => have := find_has (L := Li) ids[i]; rw [hfd, hq] at this; cases this
        | some p =>
        obtain ⟨ix, hix, hfi, his⟩ := find_ix hfd
        have hgp : p.m.gone = false := by simp [PM.is] at his; exact his.1
        have hpid : p.m.id = ids[i] := by simp [PM.is] at his; exact his.2
        obtain ⟨q1, q2, q3, q4⟩ := hBi.hp ix p hix
        have hpc := (q1 hgp).1
        obtain ⟨eb, e1, e2, e3⟩ := eb_pick hBi hix
        have hel : p.m.evs.length ≤ B + i := hei p.m (List.mem_map.2 ⟨p, List.mem_of_getElem? hix, rfl⟩)
        simp -implicitDefEqProofs [go_sem, h24, hf.t, hf.m, hlt, hg, hg', intRow, hqs, h1, h2, find_live, hfd, hpc, paneC]
        refine (close_c p.rb eb p.cap p.m.evs _ e3 e1 (by omega)).mono ?_
        intro e h3 hR
        obtain ⟨p', tag2, k0, k1, k2, k3⟩ := told_turn hBi hix hgp (m' := p.m.put ⟨3, 0, 0, ⟨#[]⟩⟩) (ev := ⟨3, 0, 0, ⟨#[]⟩⟩) hgp rfl rfl eb e2 hpc (fun j hj => rfl) hR
        obtain ⟨rfl, _⟩ := hR
        have hlt2 := (List.getElem?_eq_some_iff.1 hix).1
        have hix' : (Li.set ix p')[ix]? = some p' := by rw [List.getElem?_set]; simp [hlt2]
        have hgp' : p'.m.gone = false := by rw [k0]; exact hgp
        have hid' : p'.m.id = ids[i] := by rw [k0]; exact hpid
        obtain ⟨d1, d2, d3⟩ := k1.drop hix' hgp'
        obtain ⟨i1, i2⟩ := idel_live (p' := { p' with m := { p'.m with gone := true } }) k1.nd hix' hgp' rfl
        rw [hid'] at i1
        have h1' := k1.hb
        have h2' := k1.hm
        have hqs' : h3 qb = some (.cells [.ptr bb 0]) := by
          have t1 := hFi qb _ hHq (by rw [hTq]; simp)
          exact (k2 qb _ hqs (by rw [t1.2, hTq]; simp)).1
        simp -implicitDefEqProofs [go_sem, h24, hf.t, hf.m, hf, hlt, hg, hg', intRow, hqs', h1', h2', i1, hw]
        rw [List.set_set] at d1 d2 d3
        have hmm : (Li.set ix { p' with m := { p'.m with gone := true } }).map (·.m) = dropM1 (Li.map (·.m)) ids[i] := by
          simp only [dropM1, hfi, List.getElem?_map, hix, Option.map_some, map_set_m, k0]
        have hmm2 : (Li.set ix { p' with m := { p'.m with gone := true } }).map (·.m) = (ids.take (i+1)).foldl dropM1 (L.map (·.m)) := by
          rw [hmm, List.take_add_one, hg, List.foldl_append, ← hLi]; rfl
        refine hJ _ ⟨i + 1, tag2, Li.set ix { p' with m := { p'.m with gone := true } }, by omega, by simp -implicitDefEqProofs [go_sem, hw], ?_, ?_, (hSi.trans k3).trans ?_, hmm2, ?_, ?_⟩ (by simp [go_sem, h24, hw]; omega)
        · simpa -implicitDefEqProofs [go_sem] using d1
        · simpa -implicitDefEqProofs [go_sem] using (hFi.trans k2).trans d2
        · exact d3
        · rw [hmm]; exact dropM1_evs _ hei
        · intro j x hj hx
          rw [hmm]
          refine hasM_drop ?_ (hhas j x (by omega) hx)
          rintro rfl
          obtain ⟨hjl, hjx⟩ := List.getElem?_eq_some_iff.1 hx
          exact (List.pairwise_iff_getElem.1 hnd i j hlt hjl (by omega)) hjx.symm
      · simp -implicitDefEqProofs [go_sem, h24, hf.t, hf.m]
        obtain rfl : i = ids.length := by omega
        exact ⟨_, Sub.refl _, tag', Li, hBi, hF.trans hFi, hSi, .inl ⟨hok, rfl, by rw [hLi, List.take_length]⟩⟩
    · simp -implicitDefEqProofs [go_sem, hmn]
      exact ⟨_, Sub.refl _, tagH, L, hB2, hF, Stay.refl _, .inr ⟨fun hok => (by have := hok.2 x (List.mem_of_getElem? hx); rw [hxf] at this; cases this), rfl, rfl⟩⟩
end Go.Proofs
