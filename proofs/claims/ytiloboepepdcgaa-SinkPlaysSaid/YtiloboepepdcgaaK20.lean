/- This text is a part of the proofs of the statements of this seat: the ideal states and their rules, or what one of the functions that the statements reach comes to. Conditions: none beyond those that each theorem names. -/
import Derived.Test.YtiloboepepdcgaaK19
import Derived.Test.YtiloboepepdcgaaS8
set_option linter.unusedVariables false
set_option linter.unusedSimpArgs false
set_option pp.deepTerms false
set_option pp.maxSteps 400
namespace Go.Proofs
open Go.Idl

/-! acts -/
structure Act where
  kind : Int
  id : Int
  l : List Pn
  data : List UInt8
  ids : List Int
def Act.row (a : Act) : List IV := [.int .i64 a.kind, .int .i64 a.id, .list .plain (a.l.map Pn.row), .list .plain (a.data.map byteRow), .list .plain (a.ids.map intRow)]
@[go_sem] theorem Act.row_len (p : Act) : p.row.length = 5 := rfl
theorem acts_uni (L : List Act) : uni 5 (L.map Act.row) = true := by simp [uni, Act.row]
attribute [go_sem high] acts_uni

/-- the state of SinkPlays behind i acts -/
structure PI (h0 : Heap) (bb mb : Nat) (i : Nat) (tag : Nat → Nat × Nat × Nat) (hh : Heap) (m4 : Option (Nat × List IV)) (x : Nat → Option (Nat × Nat × TypeId)) (t5 : IV) (L : List PB) : Prop where
  hB : BoardAt 1 tag hh bb mb L
  ho : ∀ j o, h0 j = some o → hh j = some o ∧ (tag j).1 = 3
  hm : ∃ tk M, M = L.map (·.m) ∧ m4 = some (0, [.list tk (M.map PM.row)])
  hx : Go.Idl.Own [87] x 28 t5 (L.map fun p => [.ptr p.rb 0])
  hl : L.length ≤ i
  he : evsLe (30 * i) (L.map (·.m))
  hi : ∀ p ∈ L, 0 ≤ p.m.id ∧ p.m.id ≤ 2147483647

theorem PI.next {h0 bb mb i tag hh m4 x t5 L} (I : PI h0 bb mb i tag hh m4 x t5 L) {tag' hh' m4' x' t5' L'} (hB : BoardAt 1 tag' hh' bb mb L') (hF : Frm 1 tag hh tag' hh') (hm : ∃ tk M, M = L'.map (·.m) ∧ m4' = some (0, [.list tk (M.map PM.row)]))
    (hx : Go.Idl.Own [87] x' 28 t5' (L'.map fun p => [.ptr p.rb 0])) (hl : L'.length ≤ i + 1) (he : evsLe (30 * (i + 1)) (L'.map (·.m))) (hi : ∀ p ∈ L', 0 ≤ p.m.id ∧ p.m.id ≤ 2147483647) : PI h0 bb mb (i + 1) tag' hh' m4' x' t5' L' :=
  ⟨hB, fun j o hj => by
    obtain ⟨g1, g2⟩ := I.ho j o hj
    obtain ⟨g3, g4⟩ := hF j o g1 (by rw [g2]; decide)
    exact ⟨g3, by rw [g4]; exact g2⟩, hm, hx, hl, he, hi⟩
theorem stay_rbs {L L' : List PB} (hS : Stay L L') (hl : L'.length = L.length) : (L'.map fun p => [IV.ptr p.rb 0]) = L.map fun p => [IV.ptr p.rb 0] := by
  apply List.ext_getElem
  · simp [hl]
  · intro i h1 h2
    simp only [List.getElem_map]
    have hi : i < L.length := by simpa using h2
    obtain ⟨p', hp', hr⟩ := hS i L[i] (List.getElem?_eq_getElem hi)
    rw [List.getElem?_eq_getElem (by omega)] at hp'
    rw [Option.some.inj hp', hr]
theorem set_keep {l : List Int} {i : Nat} {a : Int} (h : l[i]? = some a) : l.set i a = l := by
  apply List.ext_getElem?
  intro j
  rw [List.getElem?_set]
  split
  · rename_i e
    subst e
    have := (List.getElem?_eq_some_iff.1 h).1
    simp [this, h]
    exact (List.getElem?_eq_some_iff.1 h).2.symm
  · rfl
theorem show1_ids (L : List PM) (x : Pn) : (show1 L x).1.map (·.id) = L.map (·.id) := by
  unfold show1
  cases hf : L.findIdx? (PM.is x.id) with
  | none => rfl
  | some i =>
    cases hi : L[i]? with
    | none => simp only [hi]
    | some p =>
      simp only [hi]
      split
      · rfl
      · rw [List.map_set]
        exact set_keep (by simp [hi, PM.size])
theorem showM_ids (l : List Pn) : ∀ L : List PM, (showM L l).1.map (·.id) = L.map (·.id) := by
  induction l with
  | nil => intro L; rfl
  | cons x r ih => intro L; simp only [showM]; rw [ih, show1_ids]
theorem sendM_ids (L : List PM) (id : Int) (bs : List UInt8) : (sendM L id bs).1.map (·.id) = L.map (·.id) := by
  unfold sendM
  cases hf : L.findIdx? (PM.is id) with
  | none => rfl
  | some i =>
    cases hi : L[i]? with
    | none => simp only [hi]
    | some p =>
      simp only [hi]
      split
      · rfl
      · rw [List.map_set]
        exact set_keep (by simp [hi, PM.put])
theorem dropM1_ids (L : List PM) (id : Int) : (dropM1 L id).map (·.id) = L.map (·.id) := by
  unfold dropM1
  cases hf : L.findIdx? (PM.is id) with
  | none => rfl
  | some i =>
    cases hi : L[i]? with
    | none => simp only [hi]
    | some p =>
      simp only [hi]
      rw [List.map_set]
      exact set_keep (by simp [hi, PM.put])
theorem dropF_ids (ids : List Int) : ∀ L : List PM, (ids.foldl dropM1 L).map (·.id) = L.map (·.id) := by
  induction ids with
  | nil => intro L; rfl
  | cons x r ih => intro L; rw [List.foldl_cons, ih, dropM1_ids]
theorem dropF_evs (ids : List Int) : ∀ (B : Nat) (L : List PM), evsLe B L → evsLe (B + ids.length) (ids.foldl dropM1 L) := by
  induction ids with
  | nil => intro B L h; exact h
  | cons x r ih =>
    intro B L h
    have := ih (B + 1) _ (dropM1_evs x h)
    rw [List.foldl_cons]
    exact this.mono (by simp; omega)
theorem ids_keep {L L' : List PB} {M' : List PM} (hm : L'.map (·.m) = M') (he : M'.map (·.id) = (L.map (·.m)).map (·.id)) (hi : ∀ p ∈ L, 0 ≤ p.m.id ∧ p.m.id ≤ 2147483647) : L'.length = L.length ∧ ∀ p ∈ L', 0 ≤ p.m.id ∧ p.m.id ≤ 2147483647 := by
  have e : (L'.map fun p => p.m.id) = L.map fun p => p.m.id := by
    rw [← hm, List.map_map, List.map_map] at he; exact he
  refine ⟨by simpa using congrArg List.length e, fun p hp => ?_⟩
  have : p.m.id ∈ L.map fun p => p.m.id := by rw [← e]; exact List.mem_map.2 ⟨p, hp, rfl⟩
  obtain ⟨q, hq, hqe⟩ := List.mem_map.1 this
  rw [← hqe]; exact hi q hq
theorem nd_live {L : List PB} (h : ((L.filter fun p => !p.m.gone).map fun p => p.m.id).Nodup) : (liveM (L.map (·.m))).Nodup := by
  have : liveM (L.map (·.m)) = (L.filter fun p => !p.m.gone).map fun p => p.m.id := by
    simp only [liveM, List.filter_map, List.map_map]; rfl
  rw [this]; exact h

set_option maxRecDepth 20000 in
set_option maxHeartbeats 4000000 in
theorem sinkPlays_c (l : List Act) (h : Heap) : ICall Try.prog 4 [.list .plain (l.map Act.row)] h (retP (.bool true) h) := by
  refine icall_of_iwp (fun _ => 0) Try.func4 rfl (by kernel_rfl) (Nat.le_of_ble_eq_true rfl) ?_
  rw [Try.results4]
  simp -implicitDefEqProofs [go_sem]
  refine cK_dec (fun hlt => ?_) (fun hlt => ?_)
  · simp -implicitDefEqProofs [go_sem]
    refine (awake_c h).mono ?_
    rintro e h' ⟨rfl, he⟩
    rw [he]
    simp -implicitDefEqProofs [go_sem]
    exact ⟨_, Sub.refl _, rfl, rfl⟩
  simp -implicitDefEqProofs [go_sem]
  refine (newBoard_c h).mono ?_
  rintro e h1 ⟨bb, mb, hb1, hb2, hb3, rfl, hh1⟩
  obtain ⟨hB1, hF1⟩ := newB_at (k := 1) (tag := fun _ => (3, 0, 0)) hb1 hb2 hb3
  rw [← hh1] at hB1 hF1
  have ho1 : ∀ j o, h j = some o → h1 j = some o ∧ ((upd (upd (fun _ => (3, 0, 0)) bb (1, 0, 0)) mb (1, 1, 0) : Nat → Nat × Nat × Nat) j).1 = 3 := fun j o hj => by
    obtain ⟨g1, g2⟩ := hF1 j o hj (by simp)
    exact ⟨g1, by rw [g2]⟩
  generalize (upd (upd (fun _ => (3, 0, 0)) bb (1, 0, 0)) mb (1, 1, 0) : Nat → Nat × Nat × Nat) = tag1 at *
  have hll : l.length ≤ 60 := by omega
  simp -implicitDefEqProofs [go_sem]
  refine iwp_loopF (rng [5,6,7,8,9,10,11,12,13,14,15,16,17] 26 187) (fun k => k == 4 || k == 7) (fun s => ∃ (i : Nat) (tag : Nat → Nat × Nat × Nat) (L : List PB), i ≤ l.length ∧ s.t 6 = .int .i64 i ∧ PI h bb mb i tag s.h (s.m 4) s.x (s.t 5) L) (fun s => l.length - tn (s.t 6)) ?_ ?_
  · refine ⟨0, tag1, [], Nat.zero_le _, by simp -implicitDefEqProofs [go_sem], ⟨by simpa -implicitDefEqProofs [go_sem] using hB1, by simpa -implicitDefEqProofs [go_sem] using ho1, ⟨.tight, [], rfl, by simp -implicitDefEqProofs [go_sem]⟩, ?_, by simp, by intro p hp; simp at hp, by simp⟩⟩
    simp -implicitDefEqProofs [go_sem]
    exact Go.Idl.Own.tight
  rintro J s hJ hf ⟨i, tag, L, hi, h6, I⟩
  obtain ⟨tk4, M, hM, hm4⟩ := I.hm
  have hsub : Sub h s.h := fun j o hj => (I.ho j o hj).1
  obtain ⟨tk5, h5⟩ := I.hx.list
  simp -implicitDefEqProofs [go_sem, h6, hm4, h5, hf.t, hf.m]
  refine cK_dec (fun hlt => ?_) (fun hlt => ?_)
  · have hlt' : i < l.length := by omega
    have hw := wrap_succ (i := i) (by omega)
    have hrow : (l.map Act.row)[i]? = some l[i].row := by simp [hlt']
    simp -implicitDefEqProofs [go_sem, h6, hm4, h5, hf.t, hf.m, hlt', hrow, Act.row, Act.row_len]
    generalize l[i] = a at *
    refine cK_dec (fun hc1 => ?_) (fun hc1 => ?_)
    · simp -implicitDefEqProofs [go_sem]
      refine (awake_c s.h).mono ?_
      rintro e h' ⟨rfl, he⟩
      rw [he]
      simp -implicitDefEqProofs [go_sem, hf.t, hf.m]
      exact ⟨_, hsub, rfl, rfl⟩
    simp -implicitDefEqProofs [go_sem]
    refine cK_dec (fun hc2 => ?_) (fun hc2 => ?_)
    · simp -implicitDefEqProofs [go_sem]
      refine (awake_c s.h).mono ?_
      rintro e h' ⟨rfl, he⟩
      rw [he]
      simp -implicitDefEqProofs [go_sem, hf.t, hf.m]
      exact ⟨_, hsub, rfl, rfl⟩
    simp -implicitDefEqProofs [go_sem]
    refine cK_dec (fun hc3 => ?_) (fun hc3 => ?_)
    · simp -implicitDefEqProofs [go_sem]
      refine (awake_c s.h).mono ?_
      rintro e h' ⟨rfl, he⟩
      rw [he]
      simp -implicitDefEqProofs [go_sem, hf.t, hf.m]
      exact ⟨_, hsub, rfl, rfl⟩
    simp -implicitDefEqProofs [go_sem, h6, hm4, h5, hf.t, hf.m]
    refine ifE (rng [5,8,9,10,11,12] 55 119) (fun k => k == 4) (fun s' => ∃ (tag' : Nat → Nat × Nat × Nat) (L' : List PB) (e n : Int), s'.t 11 = .int .i64 e ∧ s'.t 8 = .int .i64 e ∧ s'.t 9 = .int .i64 n ∧ s'.t 10 = .int .i64 n ∧ PI h bb mb (i + 1) tag' s'.h (s'.m 4) s'.x (s'.t 5) L') ?_ ?_
    · intro Q2 hQ2
      have hl0 : L.length ≤ 60 := by have := I.hl; omega
      have hMl : M.length ≤ 60 := by rw [hM]; simpa using hl0
      have hMe : evsLe (30 * i) M := by rw [hM]; exact I.he
      have hnd : (liveM M).Nodup := by rw [hM]; exact nd_live I.hB.nd
      refine cK_any (fun hk0 => ?_) (fun hk0 => ?_)
      · simp -implicitDefEqProofs [go_sem, h6, hm4, h5, hf.t, hf.m]
        refine (newRec_c s.h).mono ?_
        rintro e g0 ⟨rb, hr1, rfl, hh2⟩
        have hBg := I.hB.grow hr1 (some (.cells [.list .tight []])) (1, 3, L.length)
        have hFg := Frm.grow (k := 1) (tag := tag) hr1 (some (.cells [.list .tight []])) (1, 3, L.length)
        have hr2 : g0 rb = some (.cells [.list .tight []]) := by rw [hh2, upd_same]
        have hrt : (upd tag rb (1, 3, L.length)) rb = (1, 3, L.length) := upd_same _ _ _
        rw [← hh2] at hBg hFg
        generalize upd tag rb (1, 3, L.length) = tag0 at *
        clear hh2
        simp -implicitDefEqProofs [go_sem, h6, hm4, h5, hf.t, hf.m]
        refine (add_c hBg a.id hr2 hrt).mono ?_
        intro e g1 hA
        have hcs : ∃ (M1 : List PM) (er : Int) (tag1' : Nat → Nat × Nat × Nat) (L1 : List PB), e = .ret (.int .i64 er) ∧ BoardAt 1 tag1' g1 bb mb L1 ∧ Frm 1 tag s.h tag1' g1 ∧ L1.map (·.m) = M1 ∧ evsLe (30 * i) M1 ∧ (∀ p ∈ L1, 0 ≤ p.m.id ∧ p.m.id ≤ 2147483647) ∧
            (if a.id < 0 ∨ a.id > 2147483647 then IV.tup [bV M, .int .i64 1] else if hasM M a.id = true then .tup [bV M, .int .i64 10] else .tup [bV (M ++ [⟨a.id, false, 0, 0, [], false⟩]), .int .i64 0]) = .tup [bV M1, .int .i64 er] ∧
            ((er ≠ 0 ∧ L1 = L) ∨ (er = 0 ∧ L1 = L ++ [newP a.id (L1[L.length]?.map (·.pb) |>.getD 0) rb])) := by
          unfold addR at hA
          split at hA
          · rename_i hb
            obtain ⟨he, hg⟩ := hA
            exact ⟨M, 1, tag0, L, he, by rw [hg]; exact hBg, by rw [hg]; exact hFg, hM.symm, hMe, I.hi, by rw [if_pos hb], .inl ⟨by decide, rfl⟩⟩
          · rename_i hb
            split at hA
            · rename_i hfn
              obtain ⟨he, hg⟩ := hA
              have hh : hasM M a.id = true := by
                have := find_has (L := L) a.id
                rw [← hM] at this
                cases hq : hasM M a.id with
                | true => rfl
                | false => rw [hq] at this; simp at this; exact absurd this (by simpa using hfn)
              exact ⟨M, 10, tag0, L, he, by rw [hg]; exact hBg, by rw [hg]; exact hFg, hM.symm, hMe, I.hi, by rw [if_neg hb, if_pos hh], .inl ⟨by decide, rfl⟩⟩
            · rename_i hfn
              obtain ⟨he, pb, tag1', hB', hF', hS'⟩ := hA
              have hh : ¬ hasM M a.id = true := by
                have := find_has (L := L) a.id
                rw [← hM] at this
                intro hq
                rw [hq] at this
                simp at hfn
                have h3 : (L.find? fun p => p.m.is a.id) = none := by simpa using hfn
                rw [h3] at this; simp at this
              refine ⟨M ++ [⟨a.id, false, 0, 0, [], false⟩], 0, tag1', L ++ [newP a.id pb rb], he, hB', hFg.trans hF', by rw [hM]; simp [newP], ?_, ?_, by rw [if_neg hb, if_neg hh], .inr ⟨rfl, by simp [newP]⟩⟩
              · intro p hp
                rcases List.mem_append.1 hp with hp | hp
                · exact hMe p hp
                · simp at hp; rw [hp]; simp
              · intro p hp
                rcases List.mem_append.1 hp with hp | hp
                · exact I.hi p hp
                · simp at hp; rw [hp]; simp only [newP]; omega
        obtain ⟨M1, er, tag1', L1, rfl, hB', hF', hm1, hev1, hi1, hrv, hL1⟩ := hcs
        have hrs := radd_c M a.id (by omega) g1
        rw [hrv] at hrs
        simp only [bV] at hrs
        simp -implicitDefEqProofs [go_sem, h6, hm4, h5, hf.t, hf.m]
        refine hrs.mono ?_
        rintro e h' ⟨rfl, he⟩
        rw [he]
        rcases hL1 with ⟨her, hL1⟩ | ⟨rfl, hL1⟩
        · have her' : (er == 0) = false := by simpa using her
          simp -implicitDefEqProofs [go_sem, h6, hm4, h5, hf.t, hf.m, her']
          refine hQ2 _ (by simp -implicitDefEqProofs [go_sem]) ⟨tag1', L1, er, 0, by simp -implicitDefEqProofs [go_sem], by simp -implicitDefEqProofs [go_sem], by simp -implicitDefEqProofs [go_sem], by simp -implicitDefEqProofs [go_sem], ?_⟩
          refine I.next (by simpa -implicitDefEqProofs [go_sem] using hB') (by simpa -implicitDefEqProofs [go_sem] using hF') ⟨.plain, M1, hm1.symm, by simp -implicitDefEqProofs [go_sem]⟩ ?_ (by rw [hL1]; have := I.hl; omega) (by rw [hm1]; exact hev1.mono (by omega)) hi1
          rw [hL1]
          simpa -implicitDefEqProofs [go_sem] using I.hx
        · simp -implicitDefEqProofs [go_sem, h6, hm4, h5, hf.t, hf.m]
          generalize hpb : (L1[L.length]?.map (·.pb) |>.getD 0) = pb at hL1
          have hxo := I.hx
          rw [h5] at hxo
          refine aK_own (e := 28) (z := 1) (S := [87]) (rows := L.map fun p => [IV.ptr p.rb 0]) (ys := [[IV.ptr rb 0]]) (by simpa -implicitDefEqProofs [go_sem] using hxo) (by simp) elT_44 elZ_28 (by simp [roomy, byT_28]; omega) (by simp [uni]) (by simp [uni]) ?_
          intro r x' ho2 hx2
          simp -implicitDefEqProofs [go_sem, h6, hm4, h5, hf.t, hf.m]
          refine hQ2 _ (by simp -implicitDefEqProofs [go_sem]) ⟨tag1', L1, 0, 0, by simp -implicitDefEqProofs [go_sem], by simp -implicitDefEqProofs [go_sem], by simp -implicitDefEqProofs [go_sem], by simp -implicitDefEqProofs [go_sem], ?_⟩
          refine I.next (by simpa -implicitDefEqProofs [go_sem] using hB') (by simpa -implicitDefEqProofs [go_sem] using hF') ⟨.plain, M1, hm1.symm, by simp -implicitDefEqProofs [go_sem]⟩ ?_ (by rw [hL1]; simp; have := I.hl; omega) (by rw [hm1]; exact hev1.mono (by omega)) hi1
          rw [hL1, List.map_append]
          simpa -implicitDefEqProofs [go_sem, newP] using ho2
      simp -implicitDefEqProofs [go_sem, h6, hm4, h5, hf.t, hf.m]
      refine cK_any (fun hk1 => ?_) (fun hk1 => ?_)
      · simp -implicitDefEqProofs [go_sem, h6, hm4, h5, hf.t, hf.m]
        refine (show_c I.hB a.l (30 * i) I.he (by omega)).mono ?_
        rintro e g1 ⟨tag1', L1, rfl, hB', hF', hS', hm1⟩
        rw [← hM] at hm1 ⊢
        have hrs := rshow_c M a.l (by omega) (30 * i) hMe (by omega) g1
        simp only [bV] at hrs
        simp -implicitDefEqProofs [go_sem, h6, hm4, h5, hf.t, hf.m]
        refine hrs.mono ?_
        rintro e h' ⟨rfl, he⟩
        rw [he]
        obtain ⟨k1, k2⟩ := ids_keep hm1 (by rw [showM_ids, hM]) I.hi
        have hev1 := showM_evs a.l _ _ hMe
        simp -implicitDefEqProofs [go_sem, h6, hm4, h5, hf.t, hf.m]
        refine hQ2 _ (by simp -implicitDefEqProofs [go_sem]) ⟨tag1', L1, 0, ((showM M a.l).2 : Nat), by simp -implicitDefEqProofs [go_sem], by simp -implicitDefEqProofs [go_sem], by simp -implicitDefEqProofs [go_sem], by simp -implicitDefEqProofs [go_sem], ?_⟩
        refine I.next (by simpa -implicitDefEqProofs [go_sem] using hB') (by simpa -implicitDefEqProofs [go_sem] using hF') ⟨.plain, (showM M a.l).1, hm1.symm, by simp -implicitDefEqProofs [go_sem]⟩ ?_ (by have := I.hl; omega) (by rw [hm1]; exact hev1.mono (by omega)) k2
        rw [stay_rbs hS' k1]
        simpa -implicitDefEqProofs [go_sem] using I.hx
      simp -implicitDefEqProofs [go_sem, h6, hm4, h5, hf.t, hf.m]
      refine cK_any (fun hk2 => ?_) (fun hk2 => ?_)
      · simp -implicitDefEqProofs [go_sem, h6, hm4, h5, hf.t, hf.m]
        refine (send_c I.hB a.id a.data (30 * i) I.he (by omega) (by omega)).mono ?_
        rintro e g1 ⟨tag1', L1, rfl, hB', hF', hS', hm1⟩
        rw [← hM] at hm1 ⊢
        have hrs := rsend_c M a.id a.data (by omega) (30 * i) hMe (by omega) g1
        simp only [bV] at hrs
        simp -implicitDefEqProofs [go_sem, h6, hm4, h5, hf.t, hf.m, bytesOf_rows]
        refine hrs.mono ?_
        rintro e h' ⟨rfl, he⟩
        rw [he]
        obtain ⟨k1, k2⟩ := ids_keep hm1 (by rw [sendM_ids, hM]) I.hi
        have hev1 := sendM_evs a.id a.data hMe
        simp -implicitDefEqProofs [go_sem, h6, hm4, h5, hf.t, hf.m, bytesOf_rows]
        refine hQ2 _ (by simp -implicitDefEqProofs [go_sem]) ⟨tag1', L1, (sendM M a.id a.data).2, 0, by simp -implicitDefEqProofs [go_sem], by simp -implicitDefEqProofs [go_sem], by simp -implicitDefEqProofs [go_sem], by simp -implicitDefEqProofs [go_sem], ?_⟩
        refine I.next (by simpa -implicitDefEqProofs [go_sem] using hB') (by simpa -implicitDefEqProofs [go_sem] using hF') ⟨.plain, (sendM M a.id a.data).1, hm1.symm, by simp -implicitDefEqProofs [go_sem]⟩ ?_ (by have := I.hl; omega) (by rw [hm1]; exact hev1.mono (by omega)) k2
        rw [stay_rbs hS' k1]
        simpa -implicitDefEqProofs [go_sem] using I.hx
      · simp -implicitDefEqProofs [go_sem, h6, hm4, h5, hf.t, hf.m]
        refine (drop_c I.hB a.ids (30 * i) I.he (by omega) (by omega)).mono ?_
        rintro e g1 ⟨tag1', L1, hB', hF', hS', hm1⟩
        rw [← hM] at hm1
        have hrs := rdrop_c M a.ids (by omega) (30 * i) hMe (by omega) hnd g1
        have hcs : ∃ (M1 : List PM) (er : Int), L1.map (·.m) = M1 ∧ M1.map (·.id) = M.map (·.id) ∧ evsLe (30 * i + 20) M1 ∧ e = .ret (.int .i64 er) ∧ rdropV M a.ids = .tup [bV M1, .int .i64 er] := by
          rcases hm1 with ⟨hok, he, hm1⟩ | ⟨hno, he, rfl⟩
          · exact ⟨_, 0, hm1, dropF_ids _ _, (dropF_evs a.ids _ _ hMe).mono (by omega), he, by rw [rdropV, if_pos hok]⟩
          · exact ⟨M, 6, hM.symm, rfl, hMe.mono (by omega), he, by rw [rdropV, if_neg hno]⟩
        clear hm1
        obtain ⟨M1, er, hm1, hid1, hev1, rfl, hrv⟩ := hcs
        rw [hrv] at hrs
        simp only [bV] at hrs
        simp -implicitDefEqProofs [go_sem, h6, hm4, h5, hf.t, hf.m]
        refine hrs.mono ?_
        rintro e h' ⟨rfl, he⟩
        rw [he]
        obtain ⟨k1, k2⟩ := ids_keep hm1 (by rw [hid1, hM]) I.hi
        simp -implicitDefEqProofs [go_sem, h6, hm4, h5, hf.t, hf.m]
        refine hQ2 _ (by simp -implicitDefEqProofs [go_sem]) ⟨tag1', L1, er, 0, by simp -implicitDefEqProofs [go_sem], by simp -implicitDefEqProofs [go_sem], by simp -implicitDefEqProofs [go_sem], by simp -implicitDefEqProofs [go_sem], ?_⟩
        refine I.next (by simpa -implicitDefEqProofs [go_sem] using hB') (by simpa -implicitDefEqProofs [go_sem] using hF') ⟨.plain, M1, hm1.symm, by simp -implicitDefEqProofs [go_sem]⟩ ?_ (by have := I.hl; omega) (by rw [hm1]; exact hev1.mono (by omega)) k2
        rw [stay_rbs hS' k1]
        simpa -implicitDefEqProofs [go_sem] using I.hx
    · rintro s2 hf2 ⟨tag2, L2, e2, n2, g11, g8, g9, g10, I2⟩
      obtain ⟨tk42, M2, hM2, hm42⟩ := I2.hm
      simp -implicitDefEqProofs [go_sem, h6, hm42, g11, g8, g9, g10, hf2.t, hf2.m, hf.t, hf.m]
      have hl2 : L2.length ≤ 60 := by have := I2.hl; omega
      have hbs := bsize_c I2.hB a.id
      rw [← hM2] at hbs
      refine hbs.mono ?_
      rintro e h' ⟨rfl, he⟩
      rw [he]
      have hfc := rfind_c M2 a.id (by rw [hM2]; simp; omega) s2.h
      simp only [bV] at hfc
      have hw0 : IntKind.i64.wrap 0 = 0 := by decide
      have hf4 := Fr.trans2 hf hf2 (by simp -implicitDefEqProofs [go_sem]) (rng_sub (by decide)) (fun k => by simp; omega)
      have fin : ∀ s' : St, s'.t 6 = .int .i64 ((i + 1 : Nat) : Int) → s'.h = s2.h → s'.m 4 = s2.m 4 → s'.x = s2.x → s'.t 5 = s2.t 5 → J s' := fun s' q1 q2 q3 q4 q5 => hJ _ ⟨i + 1, tag2, L2, by omega, q1, by rw [q2, q3, q4, q5]; exact I2⟩ (by simp [go_sem, h6, q1]; omega)
      cases hfd : M2.findIdx? (PM.is a.id) with
      | none =>
        have e1 : sizeV M2 a.id = .tup [.int .i64 0, .int .i64 0, .bool false] := by simp only [sizeV, hfd]
        rw [e1]
        simp -implicitDefEqProofs [go_sem, h6, hm42, g11, g8, g9, g10, hf2.t, hf2.m, hf.t, hf.m]
        refine hfc.mono ?_
        rintro e h' ⟨rfl, he⟩
        rw [he]
        simp -implicitDefEqProofs [go_sem, h6, hm42, g11, g8, g9, g10, hf2.t, hf2.m, hf.t, hf.m, hf4, findV, hfd, hw0, hw]
        exact fin _ (by simp -implicitDefEqProofs [go_sem, hw]) (by simp -implicitDefEqProofs [go_sem]) (by simp -implicitDefEqProofs [go_sem]) (by simp -implicitDefEqProofs [go_sem]) (by simp -implicitDefEqProofs [go_sem])
      | some ix =>
        obtain ⟨hix, _, _⟩ := List.findIdx?_eq_some_iff_getElem.1 hfd
        have hge : (ix : Int) ≥ 0 := by omega
        have hrow2 : (M2.map PM.row)[ix]? = some M2[ix].row := by simp [hix]
        cases htl : M2[ix].told with
        | false =>
          have e1 : sizeV M2 a.id = .tup [.int .i64 0, .int .i64 0, .bool false] := by simp only [sizeV, hfd]; simp [hix, htl]
          rw [e1]
          simp -implicitDefEqProofs [go_sem, h6, hm42, g11, g8, g9, g10, hf2.t, hf2.m, hf.t, hf.m]
          refine hfc.mono ?_
          rintro e h' ⟨rfl, he⟩
          rw [he]
          simp -implicitDefEqProofs [go_sem, h6, hm42, g11, g8, g9, g10, hf2.t, hf2.m, hf.t, hf.m, hf4, findV, hfd, hw0, hw, hge, hix, hrow2, PM.row, htl]
          exact fin _ (by simp -implicitDefEqProofs [go_sem, hw]) (by simp -implicitDefEqProofs [go_sem]) (by simp -implicitDefEqProofs [go_sem]) (by simp -implicitDefEqProofs [go_sem]) (by simp -implicitDefEqProofs [go_sem])
        | true =>
          have e1 : sizeV M2 a.id = .tup [.int .i64 M2[ix].w, .int .i64 M2[ix].h, .bool true] := by simp only [sizeV, hfd]; simp [hix, htl]
          rw [e1]
          simp -implicitDefEqProofs [go_sem, h6, hm42, g11, g8, g9, g10, hf2.t, hf2.m, hf.t, hf.m]
          refine hfc.mono ?_
          rintro e h' ⟨rfl, he⟩
          rw [he]
          simp -implicitDefEqProofs [go_sem, h6, hm42, g11, g8, g9, g10, hf2.t, hf2.m, hf.t, hf.m, hf4, findV, hfd, hw0, hw, hge, hix, hrow2, PM.row, htl]
          exact fin _ (by simp -implicitDefEqProofs [go_sem, hw]) (by simp -implicitDefEqProofs [go_sem]) (by simp -implicitDefEqProofs [go_sem]) (by simp -implicitDefEqProofs [go_sem]) (by simp -implicitDefEqProofs [go_sem])
  · simp -implicitDefEqProofs [go_sem, h6, hm4, h5, hf.t, hf.m]
    have hl0 : L.length ≤ 60 := by have := I.hl; omega
    have hMl : M.length = L.length := by rw [hM]; simp
    have hMe : evsLe (30 * i) M := by rw [hM]; exact I.he
    have hnd : (liveM M).Nodup := by rw [hM]; exact nd_live I.hB.nd
    refine iwp_loopF (rng [18] 187 206) nom (fun s2 => ∃ j : Nat, j ≤ L.length ∧ s2.t 18 = .int .i64 j ∧ s2.h = s.h) (fun s2 => L.length - tn (s2.t 18)) ?_ ?_
    · exact ⟨0, Nat.zero_le _, by simp -implicitDefEqProofs [go_sem], by simp -implicitDefEqProofs [go_sem]⟩
    rintro J2 s2 hJ2 hf2 ⟨j, hj, h18, hh2⟩
    simp -implicitDefEqProofs [go_sem, h18, hh2, h6, hm4, h5, hf2.t, hf2.m, hf.t, hf.m]
    refine cK_dec (fun hlt2 => ?_) (fun hlt2 => ?_)
    · have hj2 : j < L.length := by omega
      have hj3 : j < M.length := by omega
      have hw := wrap_succ (i := j) (by omega)
      have hrow : (M.map PM.row)[j]? = some M[j].row := by simp [hj3]
      have hrb : (L.map fun p => [IV.ptr p.rb 0])[j]? = some [.ptr L[j].rb 0] := by simp [hj2]
      have hMj : M[j] = L[j].m := by simp only [hM, List.getElem_map]
      have hel : L[j].m.evs.length ≤ 30 * i := by rw [← hMj]; exact hMe _ (List.getElem_mem hj3)
      have hev := events_c L[j].rb L[j].eb L[j].cap L[j].m.evs s.h (I.hB.recs (List.getElem?_eq_getElem hj2)) (by omega)
      have hsm := same_c L[j].m.evs L[j].m.evs (by omega) (by omega) s.h
      simp -implicitDefEqProofs [go_sem, h18, hh2, h6, hm4, h5, hf2.t, hf2.m, hf.t, hf.m, hj2, hj3]
      refine iwp_drawn_of mixed [0,1,2,3,4,5,6,7,8,9,10,11,12] (by kernel_rfl) ?_
      simp -implicitDefEqProofs [go_sem, h18, hh2, h6, hm4, h5, hf2.t, hf2.m, hf.t, hf.m, hj2, hj3, hrow, hrb, PM.row, hMj]
      refine ⟨_, hev, ?_⟩
      simp -implicitDefEqProofs [go_sem]
      refine ⟨_, hsm, ?_⟩
      simp -implicitDefEqProofs [go_sem, h18, hh2, h6, hm4, h5, hf2.t, hf2.m, hf2, hf.t, hf.m, hw]
      exact hJ2 _ ⟨j + 1, hj2, by simp -implicitDefEqProofs [go_sem, hw], by simp -implicitDefEqProofs [go_sem, hh2]⟩ (by simp [go_sem, h18, hw]; omega)
    · simp -implicitDefEqProofs [go_sem, h18, hh2, h6, hm4, h5, hf2.t, hf2.m, hf.t, hf.m]
      refine iwp_drawn_of mixed [0,1,2,3,4,5,6,7,8] (by kernel_rfl) ?_
      simp -implicitDefEqProofs [go_sem, h18, hh2, h6, hm4, h5, hf2.t, hf2.m, hf.t, hf.m]
      have hpz := panes_z I.hB (fun p hp => by have := I.hi p hp; exact ⟨by omega, by omega⟩) (by omega)
      rw [← hM] at hpz
      have hge : ∀ x ∈ liveM M, 0 ≤ x := by
        intro x hx
        obtain ⟨p, hp, rfl⟩ := List.mem_map.1 hx
        obtain ⟨hp1, _⟩ := List.mem_filter.1 hp
        rw [hM] at hp1
        obtain ⟨q, hq, rfl⟩ := List.mem_map.1 hp1
        exact (I.hi q hq).1
      have hrp := rpanes_c M (by omega) hnd hge s.h
      simp only [bV] at hrp
      have hsl : (sortL (liveM M)).length < 100000000 := by
        rw [sortL_len]
        have := List.length_filter_le (fun p : PM => !p.gone) M
        simp only [liveM, List.length_map]; omega
      have hie := intsEq_c (sortL (liveM M)) (sortL (liveM M)) hsl hsl s.h
      refine ⟨_, hpz, _, hrp, ?_⟩
      simp -implicitDefEqProofs [go_sem]
      refine ⟨_, hie, ?_⟩
      simp -implicitDefEqProofs [go_sem]
      rw [hh2]
      refine ⟨_, awake_c s.h, ?_⟩
      simp -implicitDefEqProofs [go_sem, h18, hh2, h6, hm4, h5, hf2.t, hf2.m, hf.t, hf.m]
      exact ⟨_, hsub, rfl, rfl⟩
end Go.Proofs
