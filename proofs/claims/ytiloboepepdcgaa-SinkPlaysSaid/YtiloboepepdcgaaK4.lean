/- This text is a part of the proofs of the statements of this seat: the ideal states and their rules, or what one of the functions that the statements reach comes to. Conditions: none beyond those that each theorem names. -/
import Derived.Test.YtiloboepepdcgaaK3
set_option linter.unusedVariables false
set_option linter.unusedSimpArgs false
set_option pp.deepTerms false
set_option pp.maxSteps 400
namespace Go.Proofs
open Go.Idl

theorem iput_live (id : Int) (v : IV) : ∀ L : List PB, (L.find? fun p => p.m.is id) = none → iput (.int .i64) (.int .i64 id) v (liveE L) = some (liveE L ++ [(.int .i64 id, v)])
  | [], _ => rfl
  | p :: r, hf => by
    rw [List.find?_cons] at hf
    cases hg : p.m.gone with
    | true =>
      have e1 : liveE (p :: r) = liveE r := by simp [liveE, hg]
      rw [e1]
      have h1 : p.m.is id = false := by simp [PM.is, hg]
      rw [h1] at hf
      exact iput_live id v r hf
    | false =>
      have e1 : liveE (p :: r) = (.int .i64 p.m.id, .ptr p.pb 0) :: liveE r := by simp [liveE, hg]
      rw [e1]
      cases hi : p.m.is id with
      | true => rw [hi] at hf; cases hf
      | false =>
        rw [hi] at hf
        have h1 : (id == p.m.id) = false := by
          simp [PM.is, hg] at hi
          simpa using Ne.symm hi
        simp only [iput, kEq, if_true, h1, iput_live id v r hf, Option.map_some, List.cons_append]

/-- what is there stands, where a block is new -/
theorem BoardAt.grow {k tag h bb mb L} (hB : BoardAt k tag h bb mb L) {b : Nat} (hb : h b = none) (o : Option IObj) (t : Nat × Nat × Nat) : BoardAt k (upd tag b t) (upd h b o) bb mb L := by
  have ne : ∀ j x, h j = some x → j ≠ b := by rintro j x hj rfl; rw [hb] at hj; cases hj
  have n1 := ne bb _ hB.hb
  have n2 := ne mb _ hB.hm
  refine ⟨by rw [upd_ne _ _ n1]; exact hB.hb, by rw [upd_ne _ _ n1]; exact hB.tb, by rw [upd_ne _ _ n2]; exact hB.hm, by rw [upd_ne _ _ n2]; exact hB.tm, fun i p hp => ?_, hB.nd⟩
  obtain ⟨q1, q2, q3, q4⟩ := hB.hp i p hp
  obtain ⟨v, hv⟩ := q2.some
  have n3 := ne p.rb _ hv
  have n4 : p.m.evs ≠ [] → p.eb ≠ b := fun he => by
    rcases q2 with ⟨g0, _⟩ | ⟨_, _, g2, _⟩
    · exact absurd g0 he
    · exact ne _ _ g2
  refine ⟨fun hg => ?_, q2.keep (upd_ne _ _ n3) (fun he => upd_ne _ _ (n4 he)), by rw [upd_ne _ _ n3]; exact q3, fun he => by rw [upd_ne _ _ (n4 he)]; exact q4 he⟩
  have n5 := ne p.pb _ (q1 hg).1
  rw [upd_ne _ _ n5, upd_ne _ _ n5]; exact q1 hg
theorem Frm.grow {k : Nat} {tag h} {b : Nat} (hb : h b = none) (o : Option IObj) (t : Nat × Nat × Nat) : Frm k tag h (upd tag b t) (upd h b o) := by
  intro j x hj _
  have : j ≠ b := by rintro rfl; rw [hb] at hj; cases hj
  rw [upd_ne _ _ this, upd_ne _ _ this]; exact ⟨hj, rfl⟩

def newP (id : Int) (pb rb : Nat) : PB := ⟨⟨id, false, 0, 0, [], false⟩, pb, rb, 0, 0⟩
/-- a board with another pane -/
theorem BoardAt.add {k tag h bb mb L} (hB : BoardAt k tag h bb mb L) {id : Int} (hf : (L.find? fun p => p.m.is id) = none) {rb pb : Nat} (hr : h rb = some (.cells [.list .tight []])) (ht : tag rb = (k, 3, L.length)) (hp : h pb = none) :
    BoardAt k (upd tag pb (k, 2, L.length)) (upd (upd h pb (some (.cells (paneC (newP id pb rb))))) mb (some (.map (liveE L ++ [(.int .i64 id, .ptr pb 0)])))) bb mb (L ++ [newP id pb rb]) ∧
    Frm k tag h (upd tag pb (k, 2, L.length)) (upd (upd h pb (some (.cells (paneC (newP id pb rb))))) mb (some (.map (liveE L ++ [(.int .i64 id, .ptr pb 0)])))) ∧ Stay L (L ++ [newP id pb rb]) := by
  have hG := hB.grow hp (some (.cells (paneC (newP id pb rb)))) (k, 2, L.length)
  have hmb : mb ≠ pb := by rintro rfl; have := hB.hm; rw [hp] at this; cases this
  have hbm : bb ≠ mb := by rintro e; have h1 := hB.tb; have h2 := hB.tm; rw [e, h2] at h1; simp at h1
  have hrp : rb ≠ pb := by rintro rfl; rw [hp] at hr; cases hr
  have hrm : rb ≠ mb := by rintro e; have h2 := hB.tm; rw [← e, ht] at h2; simp at h2
  have hlive : liveE (L ++ [newP id pb rb]) = liveE L ++ [(.int .i64 id, .ptr pb 0)] := by simp [liveE, newP]
  refine ⟨⟨?_, hG.tb, ?_, hG.tm, ?_, ?_⟩, ?_, ?_⟩
  · rw [upd_ne _ _ hbm]; exact hG.hb
  · rw [upd_same, hlive]
  · intro i p hi
    rw [List.getElem?_append] at hi
    split at hi
    · rename_i hlt
      obtain ⟨q1, q2, q3, q4⟩ := hG.hp i p hi
      have tm := hG.tm
      have n1 : p.rb ≠ mb := by rintro e; rw [e, tm] at q3; simp at q3
      refine ⟨fun hg => ?_, q2.keep (upd_ne _ _ n1) (fun he => upd_ne _ _ (by rintro e; have := q4 he; rw [e, tm] at this; simp at this)), q3, q4⟩
      have n2 : p.pb ≠ mb := by rintro e; have := (q1 hg).2; rw [e, tm] at this; simp at this
      rw [upd_ne _ _ n2]; exact q1 hg
    · rename_i hlt
      have hi0 : i - L.length = 0 := by
        rcases Nat.eq_zero_or_pos (i - L.length) with h | h
        · exact h
        · rw [List.getElem?_eq_none (by simp; omega)] at hi; cases hi
      have hil : i = L.length := by omega
      rw [hi0] at hi
      cases hi
      refine ⟨fun _ => ⟨?_, ?_⟩, .inl ⟨rfl, ?_⟩, ?_, fun he => absurd rfl he⟩
      · show upd _ _ _ pb = _
        rw [upd_ne _ _ (Ne.symm hmb), upd_same]
      · show upd _ _ _ pb = _
        rw [upd_same, hil]
      · show upd _ _ _ rb = _
        rw [upd_ne _ _ hrm, upd_ne _ _ hrp]; exact hr
      · show upd _ _ _ rb = _
        rw [upd_ne _ _ hrp, hil]; exact ht
  · simp only [List.filter_append, List.map_append]
    have : (List.filter (fun p => !p.m.gone) [newP id pb rb]).map (fun p => p.m.id) = [id] := by simp [newP]
    rw [this]
    rw [List.nodup_append]
    refine ⟨hB.nd, by simp, ?_⟩
    intro a ha b hb
    simp only [List.mem_cons, List.not_mem_nil, or_false] at hb
    subst hb
    rintro rfl
    obtain ⟨p, hp1, hp2⟩ := List.mem_map.1 ha
    obtain ⟨hp3, hp4⟩ := List.mem_filter.1 hp1
    have := List.find?_eq_none.1 hf p hp3
    apply this
    simp only [PM.is, hp2, beq_self_eq_true, Bool.and_true]
    exact hp4
  · intro j o hj htj
    have n1 : j ≠ mb := by rintro rfl; rw [hB.tm] at htj; exact htj rfl
    have n2 : j ≠ pb := by rintro rfl; rw [hp] at hj; cases hj
    rw [upd_ne _ _ n1, upd_ne _ _ n2, upd_ne _ _ n2]; exact ⟨hj, rfl⟩
  · intro i p hi
    exact ⟨p, by rw [List.getElem?_append_left (List.getElem?_eq_some_iff.1 hi).1]; exact hi, rfl⟩

def addR (k : Nat) (tag : Nat → Nat × Nat × Nat) (h : Heap) (bb mb : Nat) (L : List PB) (id : Int) (rb : Nat) (e : IEnd) (h' : Heap) : Prop :=
  if id < 0 ∨ id > 2147483647 then retP (.int .i64 1) h e h' else
  if (L.find? fun p => p.m.is id) ≠ none then retP (.int .i64 10) h e h' else
  e = .ret (.int .i64 0) ∧ ∃ pb tag', BoardAt k tag' h' bb mb (L ++ [newP id pb rb]) ∧ Frm k tag h tag' h' ∧ Stay L (L ++ [newP id pb rb])
theorem add_c {k tag h bb mb L} (hB : BoardAt k tag h bb mb L) (id : Int) {rb : Nat} (hr : h rb = some (.cells [.list .tight []])) (ht : tag rb = (k, 3, L.length)) :
    ICall Try.prog 17 [.ptr bb 0, .int .i64 id, .iface 28 (.ptr rb 0)] h (addR k tag h bb mb L id rb) := by
  refine icall_of_iwp (fun d => if d = 34 then 1 else 0) Try.func17 rfl (by kernel_rfl) (Nat.le_of_ble_eq_true rfl) ?_
  rw [Try.results17]
  have h1 := hB.hb
  have h2 := hB.hm
  simp -implicitDefEqProofs [go_sem]
  refine cK_dec (fun hid => ?_) (fun hid => ?_)
  · simp -implicitDefEqProofs [go_sem, hid]
    exact ⟨_, Sub.refl _, by rw [addR, if_pos (.inl hid)]; exact ⟨rfl, rfl⟩⟩
  simp -implicitDefEqProofs [go_sem, hid]
  refine cK_dec (fun hid2 => ?_) (fun hid2 => ?_)
  · simp -implicitDefEqProofs [go_sem, hid2]
    exact ⟨_, Sub.refl _, by rw [addR, if_pos (.inr hid2)]; exact ⟨rfl, rfl⟩⟩
  simp -implicitDefEqProofs [go_sem, hid2]
  refine (has_c hB id).mono ?_
  rintro e h' ⟨rfl, he⟩
  rw [he]
  have hno : ¬ (id < 0 ∨ id > 2147483647) := fun h => h.elim hid hid2
  unfold hasV
  cases hf : L.find? fun p => p.m.is id with
  | some p =>
    simp -implicitDefEqProofs [go_sem]
    exact ⟨_, Sub.refl _, by rw [addR, if_neg hno, if_pos (by rw [hf]; simp)]; exact ⟨rfl, rfl⟩⟩
  | none =>
    have hip := fun v => iput_live id v L hf
    simp -implicitDefEqProofs [go_sem, h1, h2, hip]
    intro pb hpb
    have hmb : mb ≠ pb := by rintro rfl; rw [hpb] at h2; cases h2
    have hbp : bb ≠ pb := by rintro rfl; rw [hpb] at h1; cases h1
    simp -implicitDefEqProofs [go_sem, h1, h2, hip, hmb, hbp]
    refine ⟨_, Sub.refl _, ?_⟩
    rw [addR, if_neg hno, if_neg (by rw [hf]; simp)]
    obtain ⟨k1, k2, k3⟩ := hB.add hf hr ht hpb
    exact ⟨rfl, pb, _, k1, k2, k3⟩
/-! without a board, or a sink -/
theorem add_nils_c (b : IV) (id : Int) (h : Heap) : ICall Try.prog 17 [b, .int .i64 id, .niliface] h (retP (.int .i64 1) h) := by
  refine icall_of_iwp (fun d => if d = 34 then 1 else 0) Try.func17 rfl (by kernel_rfl) (Nat.le_of_ble_eq_true rfl) ?_
  rw [Try.results17]
  simp -implicitDefEqProofs [go_sem]
  refine cK_dec (fun hid => ?_) (fun hid => ?_) <;> simp -implicitDefEqProofs [go_sem, hid]
  · exact ⟨_, Sub.refl _, rfl, rfl⟩
  refine cK_dec (fun hid2 => ?_) (fun hid2 => ?_) <;> simp -implicitDefEqProofs [go_sem, hid2]
  · exact ⟨_, Sub.refl _, rfl, rfl⟩
  · exact ⟨_, Sub.refl _, rfl, rfl⟩
theorem add_nilb_c (id : Int) (t : TypeId) (v : IV) (h : Heap) : ICall Try.prog 17 [.nilptr, .int .i64 id, .iface t v] h (retP (.int .i64 (if id < 0 ∨ id > 2147483647 then 1 else 10)) h) := by
  refine icall_of_iwp (fun d => if d = 34 then 1 else 0) Try.func17 rfl (by kernel_rfl) (Nat.le_of_ble_eq_true rfl) ?_
  rw [Try.results17]
  simp -implicitDefEqProofs [go_sem]
  refine cK_dec (fun hid => ?_) (fun hid => ?_)
  · simp -implicitDefEqProofs [go_sem, hid]
    exact ⟨_, Sub.refl _, rfl, rfl⟩
  simp -implicitDefEqProofs [go_sem, hid]
  refine cK_dec (fun hid2 => ?_) (fun hid2 => ?_)
  · simp -implicitDefEqProofs [go_sem, hid2]
    exact ⟨_, Sub.refl _, rfl, rfl⟩
  · simp -implicitDefEqProofs [go_sem, hid2]
    exact ⟨_, Sub.refl _, rfl, rfl⟩
end Go.Proofs
