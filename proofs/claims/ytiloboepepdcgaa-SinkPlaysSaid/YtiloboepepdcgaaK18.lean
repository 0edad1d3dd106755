/- This text is a part of the proofs of the statements of this seat: the ideal states and their rules, or what one of the functions that the statements reach comes to. Conditions: none beyond those that each theorem names. -/
import Derived.Test.YtiloboepepdcgaaK17
set_option linter.unusedVariables false
set_option linter.unusedSimpArgs false
set_option pp.deepTerms false
set_option pp.maxSteps 400
namespace Go.Proofs
open Go.Idl

theorem liveM_set {L : List PM} {i : Nat} {p p' : PM} (nd : (liveM L).Nodup) (hi : L[i]? = some p) (hg : p.gone = false) (hg' : p'.gone = true) : liveM (L.set i p') = (liveM L).erase p.id := by
  induction L generalizing i with
  | nil => simp at hi
  | cons q r ih =>
    cases i with
    | zero =>
      simp only [List.getElem?_cons_zero, Option.some.injEq] at hi
      subst hi
      simp [liveM, List.filter_cons, hg, hg']
    | succ i =>
      simp only [List.getElem?_cons_succ] at hi
      have hmem : p.id ∈ liveM r := List.mem_map.2 ⟨p, List.mem_filter.2 ⟨List.mem_of_getElem? hi, by simp [hg]⟩, rfl⟩
      cases hq : q.gone with
      | true =>
        have e1 : liveM (q :: r) = liveM r := by simp [liveM, hq]
        have e2 : liveM ((q :: r).set (i + 1) p') = liveM (r.set i p') := by simp [liveM, hq]
        rw [e1] at nd ⊢
        rw [e2]
        exact ih nd hi
      | false =>
        have e1 : liveM (q :: r) = q.id :: liveM r := by simp [liveM, hq]
        have e2 : liveM ((q :: r).set (i + 1) p') = q.id :: liveM (r.set i p') := by simp [liveM, hq]
        rw [e1] at nd ⊢
        rw [e2, ih (List.nodup_cons.1 nd).2 hi]
        have hne : p.id ≠ q.id := fun e => (List.nodup_cons.1 nd).1 (e ▸ hmem)
        have hne' : (q.id == p.id) = false := by simpa using Ne.symm hne
        simp [List.erase_cons, hne']
theorem hasM_mem {L : List PM} {x : Int} : hasM L x = true ↔ x ∈ liveM L := by
  unfold hasM
  rw [List.findIdx?_isSome, List.any_eq_true]
  simp only [liveM, List.mem_map, List.mem_filter, PM.is, Bool.and_eq_true, beq_iff_eq]
  constructor
  · rintro ⟨p, hp, h1, h2⟩; exact ⟨p, ⟨hp, h1⟩, h2⟩
  · rintro ⟨p, ⟨hp, h1⟩, h2⟩; exact ⟨p, hp, h1, h2⟩
theorem liveM_drop {L : List PM} (nd : (liveM L).Nodup) {x : Int} (h : hasM L x = true) : liveM (dropM1 L x) = (liveM L).erase x := by
  obtain ⟨i, p, hf, hp, hg, hid⟩ := find_hasM h
  have : dropM1 L x = L.set i { p.put ⟨3, 0, 0, ⟨#[]⟩⟩ with gone := true } := by simp only [dropM1, hf, hp]
  rw [this, liveM_set nd hp hg rfl, hid]
theorem dropM1_len (L : List PM) (x : Int) : (dropM1 L x).length = L.length := by
  unfold dropM1
  cases L.findIdx? (PM.is x) with
  | none => rfl
  | some i => cases hp : L[i]? <;> simp [hp]

open Classical in
noncomputable def rdropV (L : List PM) (ids : List Int) : IV := if dropOk L ids then .tup [bV (ids.foldl dropM1 L), .int .i64 0] else .tup [bV L, .int .i64 6]
set_option maxRecDepth 20000 in
set_option maxHeartbeats 4000000 in
theorem rdrop_c (L : List PM) (ids : List Int) (hl : L.length < 10000000) (B : Nat) (hev : evsLe B L) (hb : B + ids.length < 10000000) (nd : (liveM L).Nodup) (h : Heap) :
    ICall Try.prog 25 [bV L, .list .plain (ids.map intRow)] h (retP (rdropV L ids) h) := by
  refine icall_of_iwp (fun _ => 0) Try.func25 rfl (by kernel_rfl) (Nat.le_of_ble_eq_true rfl) ?_
  rw [Try.results25]
  simp -implicitDefEqProofs [go_sem, bV]
  refine iwp_loopF (rng [7,8,9] 13 44) (fun k => k == 6 || k == 9) (fun s => ∃ (i : Nat) (Lc : List PM), i ≤ ids.length ∧ s.t 13 = .int .i64 i ∧ s.m 6 = some (0, [.list .plain (Lc.map PM.row)]) ∧ s.h = h ∧ Lc.length = L.length ∧ evsLe (B + i) Lc ∧ (liveM Lc).Nodup ∧
    Lc = (ids.take i).foldl dropM1 L ∧ (ids.take i).Nodup ∧ (∀ x ∈ ids.take i, x ∈ liveM L) ∧ (∀ x, x ∈ liveM Lc ↔ x ∈ liveM L ∧ x ∉ ids.take i)) (fun s => ids.length - tn (s.t 13)) ?_ ?_
  · exact ⟨0, L, Nat.zero_le _, by simp -implicitDefEqProofs [go_sem], by simp -implicitDefEqProofs [go_sem], by simp -implicitDefEqProofs [go_sem], rfl, hev, nd, rfl, by simp, by simp, by simp⟩
  rintro J s hJ hf ⟨i, Lc, hi, h13, h6m, hh, hLc, hE, hnd, hfold, hn1, hn2, hn3⟩
  simp -implicitDefEqProofs [go_sem, h13, h6m, hh, hf.t, hf.m]
  refine cK_dec (fun hlt => ?_) (fun hlt => ?_)
  · have hlt' : i < ids.length := by omega
    have hw := wrap_succ (i := i) (by omega)
    have hg : ids[i]? = some ids[i] := List.getElem?_eq_getElem hlt'
    have htk : ids.take (i + 1) = ids.take i ++ [ids[i]] := by rw [List.take_add_one, hg]; rfl
    simp -implicitDefEqProofs [go_sem, h13, h6m, hh, hf.t, hf.m, hlt', hg, intRow]
    refine iwp_drawn_of mixed [0,1,2,3,4,5,6] (by kernel_rfl) ?_
    simp -implicitDefEqProofs [go_sem, h13, h6m, hh, hf.t, hf.m, hlt', hg, intRow]
    have hfc := rfind_c Lc ids[i] (by omega) h
    simp only [bV] at hfc
    refine ⟨_, hfc, ?_⟩
    cases hfd : Lc.findIdx? (PM.is ids[i]) with
    | none =>
      have hno : ¬ ids[i] ∈ liveM Lc := by rw [← hasM_mem]; simp [hasM, hfd]
      have hbad : ¬ dropOk L ids := by
        rintro ⟨k1, k2⟩
        apply hno
        rw [hn3]
        refine ⟨hasM_mem.1 (k2 _ (List.getElem_mem hlt')), fun hm => ?_⟩
        obtain ⟨j, hj, hje⟩ := List.getElem_of_mem hm
        simp only [List.length_take] at hj
        rw [List.getElem_take] at hje
        exact (List.pairwise_iff_getElem.1 k1 j i (by omega) hlt' (by omega)) hje
      simp -implicitDefEqProofs [go_sem, h13, h6m, hh, hf.t, hf.m, hf, findV, hfd]
      exact ⟨_, Sub.refl _, by rw [rdropV, if_neg hbad]; rfl, rfl⟩
    | some ix =>
      obtain ⟨hix, hisx, _⟩ := List.findIdx?_eq_some_iff_getElem.1 hfd
      have hge : ¬ (ix : Int) < 0 := by omega
      have hrow : (Lc.map PM.row)[ix]? = some Lc[ix].row := by simp [hix]
      have hel : Lc[ix].evs.length ≤ B + i := hE _ (List.getElem_mem hix)
      have hhas : hasM Lc ids[i] = true := by simp [hasM, hfd]
      have hD : dropM1 Lc ids[i] = Lc.set ix { Lc[ix].put ⟨3, 0, 0, ⟨#[]⟩⟩ with gone := true } := by simp only [dropM1, hfd, List.getElem?_eq_getElem hix]
      simp -implicitDefEqProofs [go_sem, h13, h6m, hh, hf.t, hf.m, hf, findV, hfd, hge, hix, hrow, PM.row]
      refine aK_own (e := 38) (z := 4) (S := [34, 37]) (rows := []) (ys := Lc[ix].evs.map Ev.row) Own.tight (by simp) elT_35 elZ_38 (by simp [roomy, byT_38]; omega) rfl (evs_uni _) ?_
      intro r x' ho hxx
      simp -implicitDefEqProofs [go_sem, ho.strip]
      refine aK_own (e := 38) (z := 4) (S := [34, 37]) (rows := Lc[ix].evs.map Ev.row) (ys := [(⟨3, 0, 0, ⟨#[]⟩⟩ : Ev)].map Ev.row) (by simpa -implicitDefEqProofs [go_sem] using ho) (by simp) elT_35 elZ_38 (by simp [roomy, byT_38]; omega) (evs_uni _) (evs_uni _) ?_
      intro r2 x2 ho2 hx2
      obtain ⟨tk2, rfl⟩ := ho2.list
      simp -implicitDefEqProofs [go_sem, h13, h6m, hh, hf.t, hf.m, hf, hw]
      have hwt := with_c Lc ix { Lc[ix].put ⟨3, 0, 0, ⟨#[]⟩⟩ with gone := true } hix (by omega) h
      simp only [bV, PM.row, PM.put, List.map_append, List.map] at hwt
      refine hwt.mono ?_
      rintro e h' ⟨rfl, he⟩
      rw [he]
      simp -implicitDefEqProofs [go_sem, h13, h6m, hh, hf.t, hf.m, hf, hw]
      have hnl := liveM_drop hnd hhas
      refine hJ _ ⟨i + 1, dropM1 Lc ids[i], hlt', by simp -implicitDefEqProofs [go_sem, h13, hw], ?_, by simp -implicitDefEqProofs [go_sem, hh], by rw [dropM1_len]; exact hLc, dropM1_evs _ hE, by rw [hnl]; exact hnd.erase _, by rw [htk, List.foldl_append, ← hfold]; rfl, ?_, ?_, ?_⟩ (by simp [go_sem, h13, hw]; omega)
      · rw [hD]; simp -implicitDefEqProofs [go_sem, h6m, PM.row, PM.put]
      · have hni := ((hn3 _).1 (hasM_mem.1 hhas)).2
        rw [htk, List.nodup_append]
        exact ⟨hn1, by simp, by intro a ha b hb; simp at hb; subst hb; rintro rfl; exact hni ha⟩
      · intro x hx
        rw [htk, List.mem_append] at hx
        rcases hx with hx | hx
        · exact hn2 x hx
        · simp at hx; subst hx; exact ((hn3 _).1 (hasM_mem.1 hhas)).1
      · intro x
        rw [hnl, hnd.mem_erase_iff, hn3, htk, List.mem_append]
        simp only [List.mem_singleton, not_or]
        constructor
        · rintro ⟨k1, k2, k3⟩; exact ⟨k2, k3, k1⟩
        · rintro ⟨k1, k2, k3⟩; exact ⟨k3, k1, k2⟩
  · simp -implicitDefEqProofs [go_sem, h13, h6m, hh, hf.t, hf.m]
    obtain rfl : i = ids.length := by omega
    rw [List.take_length] at hfold hn1 hn2
    have hok : dropOk L ids := ⟨hn1, fun x hx => hasM_mem.2 (hn2 x hx)⟩
    exact ⟨_, Sub.refl _, by rw [rdropV, if_pos hok, hfold]; rfl, rfl⟩
end Go.Proofs
