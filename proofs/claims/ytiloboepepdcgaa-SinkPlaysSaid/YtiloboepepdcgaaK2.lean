/- This text is a part of the proofs of the statements of this seat: the ideal states and their rules, or what one of the functions that the statements reach comes to. Conditions: none beyond those that each theorem names. -/
import Derived.Test.YtiloboepepdcgaaK1
set_option linter.unusedVariables false
set_option linter.unusedSimpArgs false
set_option pp.deepTerms false
set_option pp.maxSteps 400
namespace Go.Proofs
open Go.Idl

/-- a pane of a board, as a model -/
structure PM where
  id : Int
  told : Bool
  w : Int
  h : Int
  evs : List Ev
  gone : Bool
/-- .. and where it lies -/
structure PB where
  m : PM
  pb : Nat
  rb : Nat
  eb : Nat
  cap : Nat
def paneC (p : PB) : List IV := [.iface 28 (.ptr p.rb 0), .bool p.m.told, .int .i64 p.m.w, .int .i64 p.m.h]
def PM.is (id : Int) (p : PM) : Bool := !p.gone && (p.id == id)
def liveE (L : List PB) : List (IV × IV) := (L.filter fun p => !p.m.gone).map fun p => (.int .i64 p.m.id, .ptr p.pb 0)

theorem find_live (id : Int) : ∀ L : List PB, ifind (.int .i64) (.int .i64 id) (liveE L) = some ((L.find? fun p => p.m.is id).map fun p => .ptr p.pb 0)
  | [] => rfl
  | p :: r => by
    have ih := find_live id r
    cases hg : p.m.gone with
    | true =>
      have e1 : liveE (p :: r) = liveE r := by simp [liveE, hg]
      rw [e1, ih, List.find?_cons]
      simp [PM.is, hg]
    | false =>
      have e1 : liveE (p :: r) = (.int .i64 p.m.id, .ptr p.pb 0) :: liveE r := by simp [liveE, hg]
      rw [e1, List.find?_cons]
      simp only [ifind, kEq, if_true]
      by_cases hi : id = p.m.id
      · simp [PM.is, hg, hi]
      · have h1 : (id == p.m.id) = false := by simpa using hi
        have h2 : (p.m.id == id) = false := by simpa using Ne.symm hi
        simp [PM.is, hg, h1, h2, ih]

structure BoardAt (k : Nat) (tag : Nat → Nat × Nat × Nat) (h : Heap) (bb mb : Nat) (L : List PB) : Prop where
  hb : h bb = some (.cells [.mapv mb])
  tb : tag bb = (k, 0, 0)
  hm : h mb = some (.map (liveE L))
  tm : tag mb = (k, 1, 0)
  hp : ∀ i p, L[i]? = some p → (p.m.gone = false → h p.pb = some (.cells (paneC p)) ∧ tag p.pb = (k, 2, i)) ∧ RecIs h p.rb p.eb p.cap p.m.evs ∧ tag p.rb = (k, 3, i) ∧ (p.m.evs ≠ [] → tag p.eb = (k, 4, i))
  nd : ((L.filter fun p => !p.m.gone).map fun p => p.m.id).Nodup

def Frm (k : Nat) (tag : Nat → Nat × Nat × Nat) (h : Heap) (tag' : Nat → Nat × Nat × Nat) (h' : Heap) : Prop := ∀ j o, h j = some o → (tag j).1 ≠ k → h' j = some o ∧ tag' j = tag j
theorem Frm.refl (k tag h) : Frm k tag h tag h := fun _ _ h _ => ⟨h, rfl⟩
theorem Frm.trans {k tag h tag1 h1 tag2 h2} (a : Frm k tag h tag1 h1) (b : Frm k tag1 h1 tag2 h2) : Frm k tag h tag2 h2 := fun j o ho ht => by
  obtain ⟨g1, g2⟩ := a j o ho ht
  obtain ⟨g3, g4⟩ := b j o g1 (by rw [g2]; exact ht)
  exact ⟨g3, g4.trans g2⟩
/-- the records stay where they are -/
def Stay (L L' : List PB) : Prop := ∀ (i : Nat) (p : PB), L[i]? = some p → ∃ p' : PB, L'[i]? = some p' ∧ p'.rb = p.rb
theorem Stay.refl (L : List PB) : Stay L L := fun i p h => ⟨p, h, rfl⟩
theorem Stay.trans {A B C} (a : Stay A B) (b : Stay B C) : Stay A C := fun i p h => by
  obtain ⟨p1, h1, e1⟩ := a i p h
  obtain ⟨p2, h2, e2⟩ := b i p1 h1
  exact ⟨p2, h2, e2.trans e1⟩

theorem liveE_set {L : List PB} {i : Nat} {p p' : PB} (hi : L[i]? = some p) (h1 : p'.m.gone = p.m.gone) (h2 : p'.m.id = p.m.id) (h3 : p'.pb = p.pb) : liveE (L.set i p') = liveE L ∧ ((L.set i p').filter fun p => !p.m.gone).map (fun p => p.m.id) = (L.filter fun p => !p.m.gone).map fun p => p.m.id := by
  induction L generalizing i with
  | nil => simp at hi
  | cons q r ih =>
    cases i with
    | zero =>
      simp only [List.getElem?_cons_zero, Option.some.injEq] at hi
      subst hi
      simp only [List.set_cons_zero, liveE, List.filter_cons, h1]
      split <;> simp [h2, h3]
    | succ i =>
      simp only [List.getElem?_cons_succ] at hi
      obtain ⟨k1, k2⟩ := ih hi
      simp only [List.set_cons_succ, liveE, List.filter_cons] at k1 k2 ⊢
      split <;> simp [k1, k2]

theorem RecIs.keep {h h' : Heap} {rb eb cap l} (hr : RecIs h rb eb cap l) (h1 : h' rb = h rb) (h2 : l ≠ [] → h' eb = h eb) : RecIs h' rb eb cap l := by
  rcases hr with ⟨rfl, g1⟩ | ⟨g0, g1, g2, g3⟩
  · exact .inl ⟨rfl, h1.trans g1⟩
  · exact .inr ⟨g0, h1.trans g1, (h2 g0).trans g2, g3⟩

/-- a pane turns, with its record -/
theorem BoardAt.turn {k tag h bb mb L} (hB : BoardAt k tag h bb mb L) {i : Nat} {p : PB} (hi : L[i]? = some p) {p' : PB} {h' : Heap} (h1 : p'.m.gone = p.m.gone) (h2 : p'.m.id = p.m.id) (h3 : p'.pb = p.pb) (h4 : p'.rb = p.rb)
    (hpb : p'.m.gone = false → h' p'.pb = some (.cells (paneC p'))) (hrec : RecIs h' p'.rb p'.eb p'.cap p'.m.evs) (heb : (p'.eb = p.eb ∧ p.m.evs ≠ []) ∨ h p'.eb = none)
    (hfr : ∀ j, j ≠ p.pb → j ≠ p.rb → j ≠ p'.eb → h' j = h j) (hgp : p.m.gone = true → h' p.pb = h p.pb) :
    BoardAt k (upd tag p'.eb (k, 4, i)) h' bb mb (L.set i p') ∧ Frm k tag h (upd tag p'.eb (k, 4, i)) h' ∧ Stay L (L.set i p') := by
  obtain ⟨q1, q2, q3, q4⟩ := hB.hp i p hi
  have hlt := (List.getElem?_eq_some_iff.1 hi).1
  obtain ⟨le1, le2⟩ := liveE_set (p' := p') hi h1 h2 h3
  have tagne : ∀ j o t, h j = some o → tag j = t → t ≠ (k, 4, i) → j ≠ p'.eb := by
    rintro j o t ho ht hn rfl
    rcases heb with ⟨e1, e2⟩ | e1
    · have := q4 e2; rw [← e1, ht] at this; exact hn this
    · rw [e1] at ho; cases ho
  have tagpb : ∀ j, tag j ≠ (k, 2, i) → p.m.gone = false → j ≠ p.pb := by rintro j hj hg rfl; exact hj (q1 hg).2
  have tagrb : ∀ j, tag j ≠ (k, 3, i) → j ≠ p.rb := by rintro j hj rfl; exact hj q3
  have hfr' : ∀ j, tag j ≠ (k, 2, i) → tag j ≠ (k, 3, i) → j ≠ p'.eb → h' j = h j := by
    intro j t1 t2 t3
    cases hg : p.m.gone with
    | false => exact hfr j (tagpb j t1 hg) (tagrb j t2) t3
    | true =>
      by_cases hj : j = p.pb
      · subst hj; exact hgp hg
      · exact hfr j hj (tagrb j t2) t3
  obtain ⟨vr, hvr⟩ := q2.some
  have nbb := tagne bb _ _ hB.hb hB.tb (by simp)
  have nmb := tagne mb _ _ hB.hm hB.tm (by simp)
  refine ⟨⟨?_, ?_, ?_, ?_, ?_, ?_⟩, ?_, ?_⟩
  · rw [hfr' bb (by rw [hB.tb]; simp) (by rw [hB.tb]; simp) nbb]; exact hB.hb
  · rw [upd_ne _ _ nbb]; exact hB.tb
  · rw [hfr' mb (by rw [hB.tm]; simp) (by rw [hB.tm]; simp) nmb, le1]; exact hB.hm
  · rw [upd_ne _ _ nmb]; exact hB.tm
  · intro i2 p2 hp2
    rw [List.getElem?_set] at hp2
    split at hp2
    · rename_i hii
      subst hii
      cases hp2
      have nrb : p.rb ≠ p'.eb := tagne p.rb _ _ hvr q3 (by simp)
      refine ⟨fun hg => ⟨hpb hg, ?_⟩, hrec, ?_, fun _ => upd_same _ _ _⟩
      · have hg' : p.m.gone = false := by rw [← h1]; exact hg
        rw [h3]
        have npb : p.pb ≠ p'.eb := tagne p.pb _ _ (q1 hg').1 (q1 hg').2 (by simp)
        rw [upd_ne _ _ npb]; exact (q1 hg').2
      · rw [h4, upd_ne _ _ nrb]; exact q3
    · rename_i hii
      obtain ⟨r1, r2, r3, r4⟩ := hB.hp i2 p2 hp2
      obtain ⟨vr2, hvr2⟩ := r2.some
      have nrb : p2.rb ≠ p'.eb := tagne p2.rb _ _ hvr2 r3 (by simp)
      refine ⟨fun hg => ?_, ?_, ?_, ?_⟩
      · have npb : p2.pb ≠ p'.eb := tagne p2.pb _ _ (r1 hg).1 (r1 hg).2 (by simp)
        rw [hfr' p2.pb (by rw [(r1 hg).2]; simp; omega) (by rw [(r1 hg).2]; simp) npb, upd_ne _ _ npb]
        exact r1 hg
      · refine r2.keep (hfr' p2.rb (by rw [r3]; simp) (by rw [r3]; simp; omega) nrb) (fun he => ?_)
        have hob : ∃ o, h p2.eb = some o := by
          rcases r2 with ⟨g0, _⟩ | ⟨_, _, g2, _⟩
          · exact absurd g0 he
          · exact ⟨_, g2⟩
        obtain ⟨o, ho⟩ := hob
        have neb : p2.eb ≠ p'.eb := tagne p2.eb _ _ ho (r4 he) (by simp; omega)
        exact hfr' p2.eb (by rw [r4 he]; simp) (by rw [r4 he]; simp) neb
      · rw [upd_ne _ _ nrb]; exact r3
      · intro he
        have hob : ∃ o, h p2.eb = some o := by
          rcases r2 with ⟨g0, _⟩ | ⟨_, _, g2, _⟩
          · exact absurd g0 he
          · exact ⟨_, g2⟩
        obtain ⟨o, ho⟩ := hob
        have neb : p2.eb ≠ p'.eb := tagne p2.eb _ _ ho (r4 he) (by simp; omega)
        rw [upd_ne _ _ neb]; exact r4 he
  · rw [le2]; exact hB.nd
  · intro j o ho ht
    have nj : j ≠ p'.eb := tagne j o _ ho rfl (by rintro e; rw [e] at ht; exact ht rfl)
    refine ⟨?_, upd_ne _ _ nj⟩
    rw [hfr' j (fun e => by rw [e] at ht; exact ht rfl) (fun e => by rw [e] at ht; exact ht rfl) nj]; exact ho
  · intro i2 p2 hp2
    by_cases hii : i = i2
    · subst hii
      rw [hi] at hp2; cases hp2
      exact ⟨p', by rw [List.getElem?_set]; simp [hlt], h4⟩
    · exact ⟨p2, by rw [List.getElem?_set]; simp [hii, hp2], rfl⟩
end Go.Proofs
