/- This text is a part of the proofs of the statements of this seat: the ideal states and their rules, or what one of the functions that the statements reach comes to. Conditions: none beyond those that each theorem names. -/
import Derived.Test.YtiloboepepdcgaaK4
set_option linter.unusedVariables false
set_option linter.unusedSimpArgs false
set_option pp.deepTerms false
set_option pp.maxSteps 400
namespace Go.Proofs
open Go.Idl

structure Pn where
  id : Int
  x : Int
  y : Int
  w : Int
  h : Int
def Pn.row (p : Pn) : List IV := [.int .i64 p.id, .int .i64 p.x, .int .i64 p.y, .int .i64 p.w, .int .i64 p.h]
theorem pns_uni (l : List Pn) : uni 5 (l.map Pn.row) = true := by simp [uni, Pn.row]
attribute [go_sem high] pns_uni
theorem Pn.row_len (p : Pn) : p.row.length = 5 := rfl

def PM.size (p : PM) (w h : Int) : PM := { p with told := true, w := w, h := h, evs := p.evs ++ [⟨1, w, h, ⟨#[]⟩⟩] }
/-- a pane is shown: what is told, and how often -/
def show1 (L : List PM) (x : Pn) : List PM × Nat :=
  match L.findIdx? (PM.is x.id) with
  | none => (L, 0)
  | some i =>
    match L[i]? with
    | none => (L, 0)
    | some p => if p.told = true ∧ p.w = x.w ∧ p.h = x.h then (L, 0) else (L.set i (p.size x.w x.h), 1)
def showM (L : List PM) : List Pn → List PM × Nat
  | [] => (L, 0)
  | x :: r => ((showM (show1 L x).1 r).1, (show1 L x).2 + (showM (show1 L x).1 r).2)
theorem showM_drop (L : List PM) (l : List Pn) (i : Nat) (hi : i < l.length) : showM L (l.drop i) = ((showM (show1 L l[i]).1 (l.drop (i + 1))).1, (show1 L l[i]).2 + (showM (show1 L l[i]).1 (l.drop (i + 1))).2) := by
  rw [List.drop_eq_getElem_cons hi]; rfl
def evsLe (B : Nat) (L : List PM) : Prop := ∀ p ∈ L, p.evs.length ≤ B
theorem evsLe.mono {B B' L} (h : evsLe B L) (hb : B ≤ B') : evsLe B' L := fun p hp => Nat.le_trans (h p hp) hb
theorem evsLe.set {B L i} {p : PM} (h : evsLe B L) (hp : p.evs.length ≤ B) : evsLe B (L.set i p) := fun q hq => by
  rcases List.mem_or_eq_of_mem_set hq with h1 | h1
  · exact h q h1
  · rw [h1]; exact hp

theorem find_ix {L : List PB} {id : Int} {p : PB} (h : (L.find? fun p => p.m.is id) = some p) : ∃ i, L[i]? = some p ∧ (L.map (·.m)).findIdx? (PM.is id) = some i ∧ p.m.is id = true := by
  induction L with
  | nil => cases h
  | cons q r ih =>
    rw [List.find?_cons] at h
    cases hq : q.m.is id with
    | true =>
      rw [hq] at h
      cases h
      exact ⟨0, rfl, by simp [List.findIdx?_cons, hq], hq⟩
    | false =>
      rw [hq] at h
      obtain ⟨i, h1, h2, h3⟩ := ih h
      exact ⟨i + 1, by simpa using h1, by simp [List.findIdx?_cons, hq, h2], h3⟩
theorem find_no {L : List PB} {id : Int} (h : (L.find? fun p => p.m.is id) = none) : (L.map (·.m)).findIdx? (PM.is id) = none := by
  rw [List.findIdx?_eq_none_iff]
  intro x hx
  obtain ⟨p, hp, rfl⟩ := List.mem_map.1 hx
  have := List.find?_eq_none.1 h p hp
  simpa using this

/-- one pane's record is told something -/
theorem told_turn {k tag h bb mb L} (hB : BoardAt k tag h bb mb L) {i : Nat} {p : PB} (hi : L[i]? = some p) (hg : p.m.gone = false) {m' : PM} {ev : Ev} (h1 : m'.gone = false) (h2 : m'.id = p.m.id) (h3 : m'.evs = p.m.evs ++ [ev])
    {hx : Heap} {e : IEnd} {h' : Heap} (eb : Nat) (hebk : p.m.evs ≠ [] → eb = p.eb) (hx1 : hx p.pb = some (.cells (paneC { p with m := m' }))) (hx2 : ∀ j, j ≠ p.pb → hx j = h j) (hR : recR p.rb eb p.m.evs ev hx e h') :
    ∃ p' tag', p'.m = m' ∧ BoardAt k tag' h' bb mb (L.set i p') ∧ Frm k tag h tag' h' ∧ Stay L (L.set i p') := by
  obtain ⟨rfl, eb', cap', heb, hne, hrec, hfr⟩ := hR
  obtain ⟨q1, q2, q3, q4⟩ := hB.hp i p hi
  obtain ⟨v, hv⟩ := q2.some
  have hrp : p.rb ≠ p.pb := by rintro e; have := (q1 hg).2; rw [← e, q3] at this; simp at this
  have hnp : eb' ≠ p.pb := by
    rintro e0
    rcases heb with ⟨e1, h0⟩ | e1
    · have := q4 h0
      rw [← hebk h0, ← e1, e0] at this
      have h5 := (q1 hg).2
      rw [this] at h5; simp at h5
    · rw [e0, hx1] at e1; cases e1
  obtain ⟨k1, k2, k3⟩ := hB.turn hi (p' := ⟨m', p.pb, p.rb, eb', cap'⟩) (h' := h') (h1.trans hg.symm) h2 rfl rfl
    (fun _ => by rw [hfr p.pb (Ne.symm hrp) (Ne.symm hnp)]; exact hx1) (by rw [h3]; exact hrec)
    (heb.elim (fun g => .inl ⟨g.1.trans (hebk g.2), g.2⟩) (fun g => .inr (by rw [← hx2 eb' hnp]; exact g)))
    (fun j j1 j2 j3 => by rw [hfr j j2 j3, hx2 j j1]) (fun g => by rw [hg] at g; cases g)
  exact ⟨_, _, rfl, k1, k2, k3⟩

theorem map_set_m (L : List PB) (i : Nat) (p : PB) : (L.set i p).map (·.m) = (L.map (·.m)).set i p.m := by rw [List.map_set]

/-- the parameters of told_turn's first premise, where nothing was told before -/
theorem eb_pick {k tag h bb mb L} (hB : BoardAt k tag h bb mb L) {i : Nat} {p : PB} (hi : L[i]? = some p) : ∃ eb, eb ≠ p.rb ∧ (p.m.evs ≠ [] → eb = p.eb) ∧ RecIs h p.rb eb p.cap p.m.evs := by
  obtain ⟨q1, q2, q3, q4⟩ := hB.hp i p hi
  by_cases h0 : p.m.evs = []
  · refine ⟨p.rb + 1, by omega, fun h => absurd h0 h, ?_⟩
    rcases q2 with g | g
    · exact .inl g
    · exact absurd h0 g.1
  · refine ⟨p.eb, ?_, fun _ => rfl, q2⟩
    rintro e; have := q4 h0; rw [e, q3] at this; simp at this

def showR (k : Nat) (tag : Nat → Nat × Nat × Nat) (h : Heap) (bb mb : Nat) (L : List PB) (l : List Pn) (e : IEnd) (h' : Heap) : Prop :=
  ∃ tag' L', e = .ret (.int .i64 ((showM (L.map (·.m)) l).2 : Nat)) ∧ BoardAt k tag' h' bb mb L' ∧ Frm k tag h tag' h' ∧ Stay L L' ∧ L'.map (·.m) = (showM (L.map (·.m)) l).1
set_option maxRecDepth 20000 in
set_option maxHeartbeats 4000000 in
theorem show_c {k tag h bb mb L} (hB : BoardAt k tag h bb mb L) (l : List Pn) (B : Nat) (hev : evsLe B (L.map (·.m))) (hb : B + l.length < 1000000000) :
    ICall Try.prog 18 [.ptr bb 0, .list .plain (l.map Pn.row)] h (showR k tag h bb mb L l) := by
  refine icall_of_iwp (fun d => if d = 52 then 8 else if d = 55 then 8 else if d = 57 then 9 else if d = 59 then 9 else if d = 61 then 9 else 0) Try.func18 rfl (by kernel_rfl) (Nat.le_of_ble_eq_true rfl) ?_
  rw [Try.results18]
  simp -implicitDefEqProofs [go_sem]
  refine iwp_loopF (rng [5,7,8] 11 76) (fun k => k == 7) (fun s => ∃ (i c : Nat) (tag' : Nat → Nat × Nat × Nat) (L' : List PB), i ≤ l.length ∧ s.t 11 = .int .i64 i ∧ s.t 5 = .int .i64 c ∧ c ≤ i ∧ BoardAt k tag' s.h bb mb L' ∧ Frm k tag h tag' s.h ∧ Stay L L' ∧ evsLe (B + i) (L'.map (·.m)) ∧
    showM (L.map (·.m)) l = ((showM (L'.map (·.m)) (l.drop i)).1, c + (showM (L'.map (·.m)) (l.drop i)).2)) (fun s => l.length - tn (s.t 11)) ?_ ?_
  · exact ⟨0, 0, tag, L, Nat.zero_le _, by simp -implicitDefEqProofs [go_sem], by simp -implicitDefEqProofs [go_sem], Nat.le_refl _, by simpa -implicitDefEqProofs [go_sem] using hB, by simpa -implicitDefEqProofs [go_sem] using Frm.refl k tag h, Stay.refl L, hev, by simp⟩
  rintro J s hJ hf ⟨i, c, tag', L', hi, h11, h5, hci, hB', hF', hS', hE', hM⟩
  simp -implicitDefEqProofs [go_sem, h11, h5, hf.t, hf.m]
  refine cK_dec (fun hlt => ?_) (fun hlt => ?_)
  · have hlt' : i < l.length := by omega
    have hw := wrap_succ (i := i) (by omega)
    have hwc := wrap_succ (i := c) (by omega)
    have hstep := showM_drop (L'.map (·.m)) l i hlt'
    simp -implicitDefEqProofs [go_sem, h11, h5, hf.t, hf.m, hlt', Pn.row]
    refine (has_c hB' l[i].id).mono ?_
    rintro e h' ⟨rfl, he⟩
    rw [he]
    unfold hasV
    cases hfd : L'.find? fun p => p.m.is l[i].id with
    | none =>
      have hno := find_no hfd
      have h1 : show1 (L'.map (·.m)) l[i] = (L'.map (·.m), 0) := by simp only [show1, hno]
      rw [h1] at hstep
      simp -implicitDefEqProofs [go_sem, h11, h5, hf.t, hf.m]
      refine iwp_drawn_of mixed [0,1,2,3,4,5,6,7,8,9,10,11,12,13,14,15,16,17,18,19,20,21,22,23,24,25,26,27] (by kernel_rfl) ?_
      simp -implicitDefEqProofs [go_sem, h11, h5, hf.t, hf.m, hf, hw]
      refine hJ _ ⟨i + 1, c, tag', L', hlt', by simp -implicitDefEqProofs [go_sem, h11, hw], by simp -implicitDefEqProofs [go_sem, h5], by omega, by simpa -implicitDefEqProofs [go_sem] using hB', by simpa -implicitDefEqProofs [go_sem] using hF', hS', hE'.mono (by omega), ?_⟩ (by simp [go_sem, h11, hw]; omega)
      rw [hM, hstep]; simp
    | some p =>
      obtain ⟨ix, hix, hfi, his⟩ := find_ix hfd
      have hgp : p.m.gone = false := by simp [PM.is] at his; exact his.1
      obtain ⟨q1, q2, q3, q4⟩ := hB'.hp ix p hix
      have hpc := (q1 hgp).1
      simp -implicitDefEqProofs [go_sem, h11, h5, hf.t, hf.m]
      refine iwp_drawn_of mixed [0,1,2,3,4,5,6,7,8,9,10,11,12,13,14,15,16,17,18,19,20,21,22,23,24,25,26,27] (by kernel_rfl) ?_
      by_cases hsm : p.m.told = true ∧ p.m.w = l[i].w ∧ p.m.h = l[i].h
      · obtain ⟨s1, s2, s3⟩ := hsm
        have h1 : show1 (L'.map (·.m)) l[i] = (L'.map (·.m), 0) := by simp only [show1, hfi, List.getElem?_map, hix, Option.map_some, s1, s2, s3, and_self, if_true]
        rw [h1] at hstep
        simp -implicitDefEqProofs [go_sem, h11, h5, hf.t, hf.m, hf, hpc, paneC, s1, s2, s3, hw]
        refine hJ _ ⟨i + 1, c, tag', L', hlt', by simp -implicitDefEqProofs [go_sem, h11, hw], by simp -implicitDefEqProofs [go_sem, h5], by omega, by simpa -implicitDefEqProofs [go_sem] using hB', by simpa -implicitDefEqProofs [go_sem] using hF', hS', hE'.mono (by omega), ?_⟩ (by simp [go_sem, h11, hw]; omega)
        rw [hM, hstep]; simp
      · have h1 : show1 (L'.map (·.m)) l[i] = ((L'.map (·.m)).set ix (p.m.size l[i].w l[i].h), 1) := by simp only [show1, hfi, List.getElem?_map, hix, Option.map_some, if_neg hsm]
        rw [h1] at hstep
        obtain ⟨eb, e1, e2, e3⟩ := eb_pick hB' hix
        have hel : p.m.evs.length ≤ B + i := hE' p.m (List.mem_map.2 ⟨p, List.mem_of_getElem? hix, rfl⟩)
        have hpr : p.pb ≠ p.rb := by rintro e; have := (q1 hgp).2; rw [e, q3] at this; simp at this
        have hebp : eb ≠ p.pb ∨ p.m.evs = [] := by
          by_cases h0 : p.m.evs = []
          · exact .inr h0
          · left; rintro e; have h5 := q4 h0; rw [← e2 h0, e, (q1 hgp).2] at h5; simp at h5
        have hsz := fun (hx : Heap) (hr : RecIs hx p.rb eb p.cap p.m.evs) => size_c p.rb eb p.cap p.m.evs l[i].w l[i].h hx hr e1 (by omega)
        have hrx : RecIs (upd s.h p.pb (some (.cells (paneC { p with m := p.m.size l[i].w l[i].h })))) p.rb eb p.cap p.m.evs := e3.keep (upd_ne _ _ (Ne.symm hpr)) (fun he => upd_ne _ _ (hebp.resolve_right he))
        have hfin := hsz _ hrx
        clear hsz
        have hcase : p.m.told = false ∨ (p.m.told = true ∧ p.m.w = l[i].w ∧ (p.m.h == l[i].h) = false) ∨ (p.m.told = true ∧ (p.m.w == l[i].w) = false) := by
          cases ht : p.m.told
          · exact .inl rfl
          · by_cases hwe : p.m.w = l[i].w
            · refine .inr (.inl ⟨rfl, hwe, ?_⟩)
              have : p.m.h ≠ l[i].h := fun h => hsm ⟨ht, hwe, h⟩
              simpa using this
            · exact .inr (.inr ⟨rfl, by simpa using hwe⟩)
        have hfl : ∀ c1 c2 c3 : Option IObj, upd (upd (upd s.h p.pb c1) p.pb c2) p.pb c3 = upd s.h p.pb c3 := fun c1 c2 c3 => by funext j; simp only [upd]; split <;> rfl
        rcases hcase with ht | ⟨ht, hwe, hhe⟩ | ⟨ht, hwb⟩ <;> (first
          | simp -implicitDefEqProofs [go_sem, h11, h5, hf.t, hf.m, hf, hpc, paneC, ht, hwe, hhe]
          | simp -implicitDefEqProofs [go_sem, h11, h5, hf.t, hf.m, hf, hpc, paneC, ht, hwb]
          | simp -implicitDefEqProofs [go_sem, h11, h5, hf.t, hf.m, hf, hpc, paneC, ht])
        all_goals (
          refine iwp_drawn_of mixed [0,1,2,3,4,5,6,7,8,9,10,11,12,13,14,15,16,17] (by kernel_rfl) ?_
          simp -implicitDefEqProofs [go_sem, h11, h5, hf.t, hf.m, hf, hpc, paneC]
          refine iwp_drawn_of mixed [0,1,2,3,4,5,6,7,8,9,10] (by kernel_rfl) ?_
          simp -implicitDefEqProofs [go_sem, h11, h5, hf.t, hf.m, hf, hpc, paneC]
          rw [hfl]
          refine hfin.mono ?_
          intro e h' hR
          obtain ⟨p', tag2, k0, k1, k2, k3⟩ := told_turn hB' hix hgp (m' := p.m.size l[i].w l[i].h) (ev := ⟨1, l[i].w, l[i].h, ⟨#[]⟩⟩) hgp rfl rfl eb e2 (upd_same _ _ _) (fun j hj => upd_ne _ _ hj) hR
          obtain ⟨rfl, _⟩ := hR
          simp -implicitDefEqProofs [go_sem, h11, h5, hf.t, hf.m, hf, hw, hwc]
          refine hJ _ ⟨i + 1, c + 1, tag2, L'.set ix p', hlt', by simp -implicitDefEqProofs [go_sem, h11, hw], by simp -implicitDefEqProofs [go_sem, h5, hwc], by omega, by simpa -implicitDefEqProofs [go_sem] using k1, by simpa -implicitDefEqProofs [go_sem] using hF'.trans k2, hS'.trans k3, ?_, ?_⟩ (by simp [go_sem, h11, hw]; omega)
          · rw [map_set_m, k0]
            refine (hE'.mono (by omega)).set ?_
            simp only [PM.size, List.length_append, List.length_cons, List.length_nil]; omega
          · rw [hM, hstep, map_set_m, k0]; simp; omega)
  · have hi2 : i = l.length := by omega
    simp -implicitDefEqProofs [go_sem, h11, h5, hf.t, hf.m]
    rw [hi2] at hM
    simp [showM] at hM
    refine ⟨_, Sub.refl _, tag', L', ?_, hB', hF', hS', ?_⟩
    · rw [hM]
    · rw [hM]
end Go.Proofs
