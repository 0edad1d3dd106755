/- This text is a part of the proofs of the statements of this seat: the ideal states and their rules, or what one of the functions that the statements reach comes to. Conditions: none beyond those that each theorem names. -/
import Derived.Test.YtiloboepepdcgaaC8
set_option linter.unusedVariables false
set_option linter.unusedSimpArgs false
set_option pp.deepTerms false
set_option pp.maxSteps 400
namespace Go.Proofs
open Go.Idl

/-- a cell alone is right -/
def Cel.Ok (d : Cel) : Prop := d.r.may = true ∧ ((d.kind = 1 ∧ d.kids.length = 0 ∧ 0 ≤ d.id ∧ d.id ≤ 2147483647) ∨ ((d.kind = 2 ∨ d.kind = 3) ∧ 2 ≤ d.kids.length ∧ d.id = 0))
instance (d : Cel) : Decidable d.Ok := by unfold Cel.Ok; exact inferInstance
def Cel.may (c : Cel) : Bool := decide (c.size ≤ 20000 ∧ (∀ d ∈ c.all, d.Ok) ∧ c.ids.Nodup)

theorem get_all_no {c : Cel} {i : Nat} (h : i < c.all.length) (hn : ¬ (c.all[i]).Ok) : c.may = false := by
  rw [Cel.may, decide_eq_false_iff_not]
  exact fun hh => hn (hh.2.1 _ (List.getElem_mem h))

theorem ids_len (c : Cel) : c.ids.length = c.leaves.length := by simp [Cel.ids]
theorem ids_get (c : Cel) (i : Nat) (h : i < c.leaves.length) : c.ids[i]'(by rw [ids_len]; exact h) = c.leaves[i].id := by simp [Cel.ids]

set_option maxRecDepth 20000 in
set_option maxHeartbeats 4000000 in
theorem may05_c (c : Cel) (h : Heap) (hs : c.size < 100000000000) : ICall Try.prog 103 [.agg c.row] h (retP (.bool c.may) h) := by
  have hal := Cel.all_length c
  have hll : c.leaves.length ≤ c.all.length := List.length_filter_le _ _
  refine icall_of_iwp (fun _ => 0) Try.func103 rfl (by kernel_rfl) (Nat.le_of_ble_eq_true rfl) ?_
  rw [Try.results103]
  simp -implicitDefEqProofs [go_sem]
  refine (all_c c h hs).mono ?_
  rintro e h' ⟨rfl, rfl⟩
  simp -implicitDefEqProofs [go_sem]
  refine cK_dec (fun hm => ?_) (fun hm => ?_) <;> simp -implicitDefEqProofs [go_sem]
  · refine ⟨h', Sub.refl _, ?_, rfl⟩
    have : c.may = false := by rw [Cel.may, decide_eq_false_iff_not]; intro hh; omega
    rw [this]
  refine iwp_loopF (rng [2,4] 15 97) nom (fun s => ∃ i, i ≤ c.all.length ∧ s.t 15 = .int .i64 i ∧ (∀ d ∈ c.all.take i, d.Ok) ∧ s.h = h') (fun s => c.all.length - tn (s.t 15)) ?_ ?_
  · exact ⟨0, Nat.zero_le _, by simp -implicitDefEqProofs [go_sem], by simp, by simp -implicitDefEqProofs [go_sem]⟩
  · rintro J s hJ hf ⟨i, hi, h15, hok, hh⟩
    simp -implicitDefEqProofs [go_sem, h15, hh, hf.t, hf.m]
    refine cK_dec (fun hlt => ?_) (fun hge => ?_)
    · have hg : c.all[i]? = some c.all[i] := List.getElem?_eq_getElem hlt
      have hw := wrap_succ (i := i) (by omega)
      have hret : ¬ (c.all[i]).Ok → c.may = false := get_all_no hlt
      have hgo : (c.all[i]).Ok → ∀ d ∈ c.all.take (i + 1), d.Ok := fun h d hd => by
        rw [List.take_add_one, hg] at hd
        rcases List.mem_append.1 hd with h1 | h1
        · exact hok d h1
        · simp at h1; subst h1; exact h
      simp -implicitDefEqProofs [go_sem, h15, hh, hf.t, hf.m, hlt, hg]
      refine (may04_c _ h').mono ?_
      rintro e h'' ⟨rfl, rfl⟩
      simp -implicitDefEqProofs [go_sem, h15, hh, hf.t, hf.m, hlt, hg]
      refine cK_any (fun k1 => ?_) (fun k1 => ?_) <;> simp -implicitDefEqProofs [go_sem, h15, hh, hf.t, hf.m, hlt, hg]
      · exact ⟨h'', Sub.refl _, by rw [hret (fun hh => by simp [hh.1] at k1)], rfl⟩
      refine cK_dec (fun k2 => ?_) (fun k2 => ?_) <;> simp -implicitDefEqProofs [go_sem, h15, hh, hf.t, hf.m, hlt, hg]
      · exact ⟨h'', Sub.refl _, by rw [hret (fun hh => by have := hh.2; omega)], rfl⟩
      refine cK_dec (fun k3 => ?_) (fun k3 => ?_) <;> simp -implicitDefEqProofs [go_sem, h15, hh, hf.t, hf.m, hlt, hg]
      · exact ⟨h'', Sub.refl _, by rw [hret (fun hh => by have := hh.2; omega)], rfl⟩
      have k1' : (c.all[i]).r.may = true := by simpa using k1
      refine cK_beq (fun k4 => ?_) (fun k4 => ?_) <;> simp -implicitDefEqProofs [go_sem, h15, hh, hf.t, hf.m, hlt, hg]
      · refine cK_dec (fun k5 => ?_) (fun k5 => ?_) <;> simp -implicitDefEqProofs [go_sem, h15, hh, hf.t, hf.m, hlt, hg]
        · exact ⟨h'', Sub.refl _, by rw [hret (fun hh => by have := hh.2; omega)], rfl⟩
        refine cK_dec (fun k6 => ?_) (fun k6 => ?_) <;> simp -implicitDefEqProofs [go_sem, h15, hh, hf.t, hf.m, hlt, hg]
        · exact ⟨h'', Sub.refl _, by rw [hret (fun hh => by have := hh.2; omega)], rfl⟩
        refine cK_dec (fun k7 => ?_) (fun k7 => ?_) <;> simp -implicitDefEqProofs [go_sem, h15, hh, hf.t, hf.m, hlt, hg]
        · exact ⟨h'', Sub.refl _, by rw [hret (fun hh => by have := hh.2; omega)], rfl⟩
        simp -implicitDefEqProofs [go_sem, h15, hh, hf.t, hf.m, hf, hlt, hg, k4, hw]
        exact hJ _ ⟨i + 1, by omega, rfl, hgo ⟨k1', .inl (by omega)⟩, by simp -implicitDefEqProofs [go_sem, hh]⟩ (by simp [go_sem, h15, hw]; omega)
      · refine cK_dec (fun k5 => ?_) (fun k5 => by omega) <;> simp -implicitDefEqProofs [go_sem, h15, hh, hf.t, hf.m, hlt, hg]
        refine cK_dec (fun k6 => ?_) (fun k6 => ?_) <;> simp -implicitDefEqProofs [go_sem, h15, hh, hf.t, hf.m, hlt, hg]
        · exact ⟨h'', Sub.refl _, by rw [hret (fun hh => by have := hh.2; omega)], rfl⟩
        refine cK_bne (fun k7 => ?_) (fun k7 => ?_) <;> simp -implicitDefEqProofs [go_sem, h15, hh, hf.t, hf.m, hlt, hg]
        · exact ⟨h'', Sub.refl _, by rw [hret (fun hh => by have := hh.2; omega)], rfl⟩
        simp -implicitDefEqProofs [go_sem, h15, hh, hf.t, hf.m, hf, hlt, hg, hw]
        exact hJ _ ⟨i + 1, by omega, rfl, hgo ⟨k1', .inr (by omega)⟩, by simp -implicitDefEqProofs [go_sem, hh]⟩ (by simp [go_sem, h15, hw]; omega)
    · simp -implicitDefEqProofs [go_sem, h15, hh, hf.t, hf.m]
      have hall : ∀ d ∈ c.all, d.Ok := by rw [List.take_of_length_le (by omega)] at hok; exact hok
      refine (leaves_c c h' hs).mono ?_
      rintro e h'' ⟨rfl, rfl⟩
      simp -implicitDefEqProofs [go_sem]
      refine iwp_loopF (rng [2,6,7] 102 121) nom (fun s => ∃ i, i ≤ c.leaves.length ∧ s.t 102 = .int .i64 i ∧ (c.ids.take i).Nodup ∧ s.h = h'') (fun s => c.leaves.length - tn (s.t 102)) ?_ ?_
      · exact ⟨0, Nat.zero_le _, by simp -implicitDefEqProofs [go_sem], by simp, by simp -implicitDefEqProofs [go_sem]⟩
      clear hJ h15 hh hi J
      rintro J s2 hJ hf2 ⟨i, hi, h102, hnd, hh⟩
      simp -implicitDefEqProofs [go_sem, h102, hh, hf2.t, hf2.m]
      refine cK_dec (fun hlt => ?_) (fun hge => ?_)
      · have hg : c.leaves[i]? = some c.leaves[i] := List.getElem?_eq_getElem hlt
        have hw := wrap_succ (i := i) (by omega)
        simp -implicitDefEqProofs [go_sem, h102, hh, hf2.t, hf2.m, hlt, hg]
        refine iwp_loopF (rng [2,7] 105 120) nom (fun s => ∃ k, k ≤ i ∧ s.t 7 = .int .i64 k ∧ c.leaves[i].id ∉ c.ids.take k ∧ s.h = h'') (fun s => i - tn (s.t 7)) ?_ ?_
        · exact ⟨0, Nat.zero_le _, by simp -implicitDefEqProofs [go_sem], by simp, by simp -implicitDefEqProofs [go_sem, hh]⟩
        rintro J2 s3 hJ2 hf3 ⟨k, hk, h7, hni, hh3⟩
        simp -implicitDefEqProofs [go_sem, h7, hh3, hf3.t, hf3.m, hf2.t, hf2.m, h102]
        refine cK_dec (fun hlt3 => ?_) (fun hge3 => ?_)
        · have hltk : k < c.leaves.length := by omega
          have hgk : c.leaves[k]? = some c.leaves[k] := List.getElem?_eq_getElem hltk
          have hwk := wrap_succ (i := k) (by omega)
          simp -implicitDefEqProofs [go_sem, h7, hh3, hf3.t, hf3.m, hf2.t, hf2.m, h102]
          refine iwp_drawn_of mixed [0,1,2,3,4,5,6,7,8,9,10] (by kernel_rfl) ?_
          simp -implicitDefEqProofs [go_sem, h7, hh3, hf3.t, hf3.m, hf2.t, hf2.m, h102, hlt, hg, hltk, hgk]
          refine cK_beq (fun k4 => ?_) (fun k4 => ?_) <;> simp -implicitDefEqProofs [go_sem, h7, hh3, hf3.t, hf3.m, hf3, hf2.t, hf2.m, hwk]
          · refine ⟨h'', Sub.refl _, ?_, rfl⟩
            have : c.may = false := by
              rw [Cel.may, decide_eq_false_iff_not]
              intro hh
              have hp := List.pairwise_iff_getElem.1 hh.2.2 k i (by rw [ids_len]; exact hltk) (by rw [ids_len]; exact hlt) hlt3
              rw [ids_get c i hlt, ids_get c k hltk] at hp
              exact hp k4.symm
            rw [this]
          · refine hJ2 _ ⟨k + 1, by omega, rfl, ?_, hh3⟩ (by simp [go_sem, h7, hwk]; omega)
            have : c.ids[k]? = some c.leaves[k].id := by simp [Cel.ids, hgk]
            rw [List.take_add_one, this]
            simp only [List.mem_append, not_or]
            exact ⟨hni, by simp; exact k4⟩
        · have hf4 := Fr.trans2 hf2 hf3 (by simp -implicitDefEqProofs [go_sem]) (rng_sub (by decide)) nom_sub
          simp -implicitDefEqProofs [go_sem, h7, hh3, hf3.t, hf3.m, hf2.t, hf2.m, hf4, h102, hw]
          have hki : k = i := by omega
          subst hki
          refine hJ _ ⟨k + 1, by omega, by simp -implicitDefEqProofs [go_sem, hf3.t, h102, hw], ?_, by simp -implicitDefEqProofs [go_sem, hh3]⟩ (by simp [go_sem, h102, hf3.t, hw]; omega)
          have : c.ids[k]? = some c.leaves[k].id := by simp [Cel.ids, hg]
          rw [List.take_add_one, this]
          rw [List.nodup_append]
          refine ⟨hnd, by simp, ?_⟩
          intro a ha b hb
          simp at hb; subst hb
          exact fun e => hni (e ▸ ha)
      · simp -implicitDefEqProofs [go_sem, h102, hh, hf2.t, hf2.m]
        refine ⟨h'', Sub.refl _, ?_, rfl⟩
        have : c.may = true := by
          rw [Cel.may, decide_eq_true_eq]
          refine ⟨by omega, hall, ?_⟩
          rw [List.take_of_length_le (by rw [ids_len]; omega)] at hnd; exact hnd
        rw [this]
end Go.Proofs
