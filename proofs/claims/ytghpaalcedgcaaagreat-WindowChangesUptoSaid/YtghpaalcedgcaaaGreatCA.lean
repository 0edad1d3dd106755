/- This text is a part of the proofs of the statements of this seat: the ideal states and their rules, or what one of the functions that the statements reach comes to. Conditions: none beyond those that each theorem names. -/
import Derived.Test.YtghpaalcedgcaaaGreatE1
set_option linter.unusedVariables false
set_option linter.unusedSimpArgs false


namespace Go.Proofs
open Go.Idl

def cntR (c : Cel) (h : Heap) (e : IEnd) (h' : Heap) : Prop := ∃ n : Nat, e = .ret (.int .i64 n) ∧ h' = h ∧ 1 ≤ n ∧ n ≤ c.size ∧ (n ≤ 200 → n = c.size)

theorem count_all (c : Cel) : ∀ (h : Heap), c.size < 1000000000000 → ICall Tryz.prog 31 [.agg c.row, .int .i64 200] h (cntR c h) := by
  induction c using Cel.induct
  rename_i c ih
  intro h hs
  have hlen := Cel.len_le c.kids
  rw [c.size_eq] at hs
  refine icall_of_iwp (fun _ => 0) Tryz.func31 rfl (by kernel_rfl) (Nat.le_of_ble_eq_true rfl) ?_
  rw [Tryz.results31]
  simp -implicitDefEqProofs [go_sem]
  refine iwp_loop (fun s => ∃ i n : Nat, i ≤ c.kids.length ∧ s.t 10 = .int .i64 i ∧ s.t 9 = .int .i64 c.kids.length ∧ s.t 5 = .int .i64 n ∧ s.t 2 = .loc 2 0 0 ∧ s.m 2 = some (0, c.row) ∧ s.t 1 = .int .i64 200 ∧ s.h = h ∧
     1 ≤ n ∧ n ≤ Cel.sizes (c.kids.take i) + 1 ∧ (n ≤ 200 → n = Cel.sizes (c.kids.take i) + 1)) (fun s => c.kids.length - tn (s.t 10)) ?_ ?_
  · refine ⟨0, 1, ?_⟩
    simp -implicitDefEqProofs [go_sem, Cel.sizes]
  · rintro s ⟨i, n, hi, h10, h9, h5, h2, hm2, h1, hh, hn1, hn2, hn3⟩
    simp -implicitDefEqProofs [go_sem, h10, h9, h5, h2, hm2, h1, hh]
    refine cK_dec (fun hlt => ?_) (fun hge => ?_)
    · simp -implicitDefEqProofs [go_sem, h10, h9, h5, h2, hm2, h1, hh]
      refine cK_dec (fun h200 => ?_) (fun h200 => ?_)
      · simp -implicitDefEqProofs [go_sem, h10, h9, h5, h2, hm2, h1, hh]
        have := Cel.sizes_le c.kids i
        exact ⟨h, Sub.refl _, n, rfl, rfl, hn1, by rw [c.size_eq]; omega, fun h => by omega⟩
      · have hg : c.kids[i]? = some c.kids[i] := List.getElem?_eq_getElem hlt
        simp -implicitDefEqProofs [go_sem, h10, h9, h5, h2, hm2, h1, hh, hlt, hg]
        have hst := Cel.sizes_take c.kids i hlt
        have hle := Cel.sizes_le c.kids (i + 1)
        refine (ih _ (List.getElem_mem hlt) h (by omega)).mono ?_
        rintro e h' ⟨m, rfl, rfl, hm1, hm2', hm3⟩
        have hw : IntKind.i64.wrap ((i : Int) + 1) = ((i + 1 : Nat) : Int) := by rw [wrap_in (by omega)]; rfl
        have hw2 : IntKind.i64.wrap ((n : Int) + (m : Int)) = ((n + m : Nat) : Int) := by rw [wrap_in (by omega)]; rfl
        simp -implicitDefEqProofs [go_sem, h10, h9, h5, h2, hm2, h1, hw, hw2]
        refine ⟨⟨i + 1, by omega, rfl, n + m, ?_⟩, by omega⟩; exact ⟨by simp, by omega, by omega, fun h => by omega⟩
    · simp -implicitDefEqProofs [go_sem, h10, h9, h5, h2, hm2, h1, hh]
      have hik : i = c.kids.length := by omega
      subst hik
      rw [List.take_length] at hn2 hn3
      exact ⟨h, Sub.refl _, n, rfl, rfl, hn1, by rw [c.size_eq]; omega, fun h => by rw [c.size_eq]; omega⟩
end Go.Proofs

set_option linter.unusedVariables false
set_option linter.unusedSimpArgs false
set_option pp.deepTerms false
set_option pp.maxSteps 600
namespace Go.Proofs
open Go.Idl

theorem great_c (c : Cel) (h : Heap) (hs : c.size < 1000000000000) : ICall Tryz.prog 5 [.agg c.row] h fun e h' => ∃ b, e = .ret (.bool b) ∧ h' = h ∧ (b = false → c.size ≤ 200) := by
  refine icall_of_iwp (fun _ => 0) Tryz.func5 rfl (by kernel_rfl) (Nat.le_of_ble_eq_true rfl) ?_
  rw [Tryz.results5]
  simp -implicitDefEqProofs [go_sem]
  refine (count_all c h hs).mono ?_
  rintro e h' ⟨n, rfl, rfl, h1, h2, h3⟩
  simp -implicitDefEqProofs [go_sem]
  refine ⟨_, Sub.refl _, ?_⟩
  by_cases h : n ≤ 200
  · exact .inl ⟨by omega, rfl, by omega⟩
  · exact .inr ⟨by omega, rfl⟩

mutual
def Cel.all : Cel → List Cel
  | .mk k r id kids => .mk k r id kids :: Cel.alls kids
def Cel.alls : List Cel → List Cel
  | [] => []
  | c :: cs => c.all ++ Cel.alls cs
end
theorem Cel.alls_take (l : List Cel) (i : Nat) (h : i < l.length) : Cel.alls (l.take (i + 1)) = Cel.alls (l.take i) ++ l[i].all := by
  induction l generalizing i with
  | nil => simp at h
  | cons c cs ih =>
    cases i with
    | zero => simp [Cel.alls]
    | succ i => simp at h; simp [Cel.alls, ih i h]
theorem Cel.all_length (c : Cel) : c.all.length = c.size :=
  Cel.rec (motive_1 := fun c => c.all.length = c.size) (motive_2 := fun l => (Cel.alls l).length = Cel.sizes l) (fun k r id kids ih => by simp [Cel.all, Cel.size, ih]) (by simp [Cel.alls, Cel.sizes]) (fun c cs h1 h2 => by simp [Cel.alls, Cel.sizes, h1, h2]) c
theorem Cel.alls_length (l : List Cel) : (Cel.alls l).length = Cel.sizes l := by
  induction l with
  | nil => simp [Cel.alls, Cel.sizes]
  | cons c cs ih => simp [Cel.alls, Cel.sizes, ih, Cel.all_length]


theorem Cel.all_eq (c : Cel) : c.all = c :: Cel.alls c.kids := by cases c; rw [Cel.all]; rfl

theorem all_c (c : Cel) : ∀ h, c.size < 100000000000 → ICall Tryz.prog 135 [.agg c.row] h (retP (.list .plain (c.all.map Cel.row)) h) := by
  induction c using Cel.induct
  rename_i c ih
  intro h hs
  have hlen := Cel.len_le c.kids
  rw [c.size_eq] at hs
  refine icall_of_iwp (fun _ => 0) Tryz.func135 rfl (by kernel_rfl) (Nat.le_of_ble_eq_true rfl) ?_
  rw [Tryz.results135]
  simp -implicitDefEqProofs [go_sem]
  refine iwp_loop (fun s => ∃ i v, i ≤ c.kids.length ∧ s.t 10 = .int .i64 i ∧ s.t 9 = .int .i64 c.kids.length ∧ s.t 3 = v ∧ Own [20] s.x 26 v (c.row :: (Cel.alls (c.kids.take i)).map Cel.row) ∧ s.t 1 = .loc 1 0 0 ∧ s.m 1 = some (0, c.row) ∧ s.h = h)
     (fun s => c.kids.length - tn (s.t 10)) ?_ ?_
  · refine ⟨0, .list .tight [c.row], ?_⟩
    simp -implicitDefEqProofs [go_sem, Cel.alls, Own.tight]
  · rintro s ⟨i, v, hi, h10, h9, h3, ho, h1, hm1, hh⟩
    simp -implicitDefEqProofs [go_sem, h10, h9, h3, h1, hm1, hh]
    refine cK_dec (fun hlt => ?_) (fun hge => ?_)
    · have hg : c.kids[i]? = some c.kids[i] := List.getElem?_eq_getElem hlt
      simp -implicitDefEqProofs [go_sem, h10, h9, h3, h1, hm1, hh, hlt, hg]
      have hst := Cel.sizes_take c.kids i hlt
      have hle := Cel.sizes_le c.kids (i + 1)
      refine (ih _ (List.getElem_mem hlt) h (by omega)).mono ?_
      rintro e h' ⟨rfl, rfl⟩
      simp -implicitDefEqProofs [go_sem, h10, h9, h3, h1, hm1, hh]
      have hw : IntKind.i64.wrap ((i : Int) + 1) = ((i + 1 : Nat) : Int) := by rw [wrap_in (by omega)]; rfl
      have hal := Cel.alls_length (c.kids.take i)
      have hal2 := Cel.all_length c.kids[i]
      refine aK_own (z := 7) (S := [20]) (by simpa [go_sem] using ho) (by simp) elT_24 elZ_26 (by simp [roomy, byT_26]; omega) (by rw [← List.map_cons]; exact Cel.rows_uni _) (Cel.rows_uni _) ?_
      intro r' x' ho' _
      simp -implicitDefEqProofs [go_sem, h10, h9, h3, h1, hm1, hh, hw]
      refine ⟨⟨i + 1, by omega, rfl, ?_⟩, by omega⟩
      rw [Cel.alls_take c.kids i hlt]
      simpa using ho'
    · simp -implicitDefEqProofs [go_sem, h10, h9, h3, h1, hm1, hh, ho.strip]
      have hik : i = c.kids.length := by omega
      subst hik
      rw [List.take_length]
      exact ⟨h, Sub.refl _, by rw [c.all_eq]; rfl, rfl⟩
end Go.Proofs

set_option linter.unusedVariables false
set_option linter.unusedSimpArgs false
set_option pp.deepTerms false
set_option pp.maxSteps 600
namespace Go.Proofs
open Go.Idl


def Cel.leaves (c : Cel) : List Cel := c.all.filter fun d => d.kind == 1
def Cel.ids (c : Cel) : List Int := c.leaves.map Cel.id

theorem leaves_c (c : Cel) (h : Heap) (hs : c.size < 100000000000) : ICall Tryz.prog 86 [.agg c.row] h (retP (.list .plain (c.leaves.map Cel.row)) h) := by
  have hal := Cel.all_length c
  refine icall_of_iwp (fun _ => 0) Tryz.func86 rfl (by kernel_rfl) (Nat.le_of_ble_eq_true rfl) ?_
  rw [Tryz.results86]
  simp -implicitDefEqProofs [go_sem]
  refine (all_c c h hs).mono ?_
  rintro e h' ⟨rfl, rfl⟩
  simp -implicitDefEqProofs [go_sem]
  refine iwp_loop (fun s => ∃ i v, i ≤ c.all.length ∧ s.t 11 = .int .i64 i ∧ s.t 10 = .int .i64 c.all.length ∧ s.t 4 = .list .plain (c.all.map Cel.row) ∧ s.t 3 = v ∧ Own [26] s.x 26 v (((c.all.take i).filter fun d => d.kind == 1).map Cel.row) ∧ s.h = h')
     (fun s => c.all.length - tn (s.t 11)) ?_ ?_
  · refine ⟨0, .list .tight [], ?_⟩
    simp -implicitDefEqProofs [go_sem, Own.tight]
  · rintro s ⟨i, v, hi, h11, h10, h4, h3, ho, hh⟩
    simp -implicitDefEqProofs [go_sem, h11, h10, h4, h3, hh]
    refine cK_dec (fun hlt => ?_) (fun hge => ?_)
    · have hg : c.all[i]? = some c.all[i] := List.getElem?_eq_getElem hlt
      have hw := wrap_succ (i := i) (by omega)
      simp -implicitDefEqProofs [go_sem, h11, h10, h4, h3, hh, hlt, hg]
      have htk : c.all.take (i + 1) = c.all.take i ++ [c.all[i]] := by rw [List.take_add_one, hg]; rfl
      refine cK_beq (fun hk => ?_) (fun hk => ?_)
      · simp -implicitDefEqProofs [go_sem, h11, h10, h4, h3, hh, hlt, hg]
        have hfl := List.length_filter_le (fun d : Cel => d.kind == 1) (c.all.take i)
        rw [List.length_take] at hfl
        refine aK_own (z := 7) (S := [26]) ho (by simp) elT_24 elZ_26 (by simp [roomy, byT_26]; omega) (Cel.rows_uni _) (by simp [uni, Cel.row_len]) ?_
        intro r' x' ho' _
        simp -implicitDefEqProofs [go_sem, h11, h10, h4, h3, hh, hw]
        refine ⟨⟨i + 1, by omega, rfl, ?_⟩, by omega⟩
        have e1 : ((c.all.take (i + 1)).filter fun d => d.kind == 1).map Cel.row = ((c.all.take i).filter fun d => d.kind == 1).map Cel.row ++ [c.all[i].row] := by
          rw [htk, List.filter_append, List.map_append]; simp [hk]
        rw [e1]; exact ho'
      · simp -implicitDefEqProofs [go_sem, h11, h10, h4, h3, hh, hw]
        refine ⟨⟨i + 1, by omega, rfl, ?_⟩, by omega⟩
        have e1 : ((c.all.take (i + 1)).filter fun d => d.kind == 1).map Cel.row = ((c.all.take i).filter fun d => d.kind == 1).map Cel.row := by
          rw [htk, List.filter_append, List.map_append]; simp [hk]
        rw [e1]; exact ho
    · simp -implicitDefEqProofs [go_sem, h11, h10, h4, h3, hh, ho.strip]
      have hik : i = c.all.length := by omega
      subst hik
      rw [List.take_length]
      exact ⟨h', Sub.refl _, rfl, rfl⟩

theorem ids_c (c : Cel) (h : Heap) (hs : c.size < 100000000000) : ICall Tryz.prog 44 [.agg c.row] h (retP (.list .plain (c.ids.map intRow)) h) := by
  have hal := Cel.all_length c
  have hll : c.leaves.length ≤ c.all.length := List.length_filter_le _ _
  refine icall_of_iwp (fun _ => 0) Tryz.func44 rfl (by kernel_rfl) (Nat.le_of_ble_eq_true rfl) ?_
  rw [Tryz.results44]
  simp -implicitDefEqProofs [go_sem]
  refine (leaves_c c h hs).mono ?_
  rintro e h' ⟨rfl, rfl⟩
  simp -implicitDefEqProofs [go_sem]
  refine iwp_loop (fun s => ∃ i v, i ≤ c.leaves.length ∧ s.t 11 = .int .i64 i ∧ s.t 10 = .int .i64 c.leaves.length ∧ s.t 4 = .list .plain (c.leaves.map Cel.row) ∧ s.t 3 = v ∧ Own [21] s.x 3 v ((c.ids.map intRow).take i) ∧ s.h = h')
     (fun s => c.leaves.length - tn (s.t 11)) ?_ ?_
  · refine ⟨0, .list .tight [], ?_⟩
    simp -implicitDefEqProofs [go_sem, Own.tight]
  · rintro s ⟨i, v, hi, h11, h10, h4, h3, ho, hh⟩
    simp -implicitDefEqProofs [go_sem, h11, h10, h4, h3, hh]
    refine cK_dec (fun hlt => ?_) (fun hge => ?_)
    · have hg : c.leaves[i]? = some c.leaves[i] := List.getElem?_eq_getElem hlt
      have hw := wrap_succ (i := i) (by omega)
      simp -implicitDefEqProofs [go_sem, h11, h10, h4, h3, hh, hlt, hg]
      have htk : c.leaves.take (i + 1) = c.leaves.take i ++ [c.leaves[i]] := by rw [List.take_add_one, hg]; rfl
      refine aK_own (z := 1) (S := [21]) ho (by simp) elT_40 elZ_3 (by simp [roomy, byT_3]; omega) (uni_take (ints_uni _) i) (by simp [uni]) ?_
      intro r' x' ho' _
      simp -implicitDefEqProofs [go_sem, h11, h10, h4, h3, hh, hw]
      refine ⟨⟨i + 1, by omega, rfl, ?_⟩, by omega⟩
      have e1 : (c.ids.map intRow).take (i + 1) = (c.ids.map intRow).take i ++ [[.int .i64 c.leaves[i].id]] := by
        rw [List.take_add_one]; simp [Cel.ids, hg, intRow]
      rw [e1]; exact ho'
    · simp -implicitDefEqProofs [go_sem, h11, h10, h4, h3, hh, ho.strip]
      have hik : i = c.leaves.length := by omega
      subst hik
      rw [List.take_of_length_le (by simp [Cel.ids])]
      exact ⟨h', Sub.refl _, rfl, rfl⟩
end Go.Proofs

set_option linter.unusedVariables false
set_option linter.unusedSimpArgs false
set_option pp.deepTerms false
set_option pp.maxSteps 600
namespace Go.Proofs
open Go.Idl

def Rct.may (r : Rct) : Bool := decide (0 ≤ r.x ∧ r.x ≤ 10000 ∧ 0 ≤ r.y ∧ r.y ≤ 10000 ∧ 0 < r.w ∧ r.w ≤ 10000 ∧ 0 < r.h ∧ r.h ≤ 10000 ∧ r.x + r.w ≤ 10000 ∧ r.y + r.h ≤ 10000)

set_option maxHeartbeats 2000000 in
theorem may04_c (r : Rct) (h : Heap) : ICall Tryz.prog 169 [.agg r.row] h (retP (.bool r.may) h) := by
  refine icall_of_iwp (fun _ => 0) Tryz.func169 rfl (by kernel_rfl) (Nat.le_of_ble_eq_true rfl) ?_
  rw [Tryz.results169]
  simp -implicitDefEqProofs [go_sem]
  refine cK_dec (fun h1 => ?_) (fun h1 => ?_) <;> simp -implicitDefEqProofs [go_sem]
  · exact ⟨h, Sub.refl _, by simp [retP, Rct.may]; omega⟩
  refine cK_dec (fun h2 => ?_) (fun h2 => ?_) <;> simp -implicitDefEqProofs [go_sem]
  · exact ⟨h, Sub.refl _, by simp [retP, Rct.may]; omega⟩
  refine cK_dec (fun h3 => ?_) (fun h3 => ?_) <;> simp -implicitDefEqProofs [go_sem]
  · exact ⟨h, Sub.refl _, by simp [retP, Rct.may]; omega⟩
  refine cK_dec (fun h4 => ?_) (fun h4 => ?_) <;> simp -implicitDefEqProofs [go_sem]
  · exact ⟨h, Sub.refl _, by simp [retP, Rct.may]; omega⟩
  refine cK_dec (fun h5 => ?_) (fun h5 => ?_) <;> simp -implicitDefEqProofs [go_sem]
  rotate_left
  · exact ⟨h, Sub.refl _, by simp [retP, Rct.may]; omega⟩
  refine cK_dec (fun h6 => ?_) (fun h6 => ?_) <;> simp -implicitDefEqProofs [go_sem]
  rotate_left
  · exact ⟨h, Sub.refl _, by simp [retP, Rct.may]; omega⟩
  refine cK_dec (fun h7 => ?_) (fun h7 => ?_) <;> simp -implicitDefEqProofs [go_sem]
  rotate_left
  · exact ⟨h, Sub.refl _, by simp [retP, Rct.may]; omega⟩
  refine cK_dec (fun h8 => ?_) (fun h8 => ?_) <;> simp -implicitDefEqProofs [go_sem]
  rotate_left
  · exact ⟨h, Sub.refl _, by simp [retP, Rct.may]; omega⟩
  rw [wrap_in (by omega)]
  refine cK_dec (fun h9 => ?_) (fun h9 => ?_) <;> simp -implicitDefEqProofs [go_sem]
  rotate_left
  · exact ⟨h, Sub.refl _, by simp [retP, Rct.may]; omega⟩
  rw [wrap_in (by omega)]
  refine ⟨h, Sub.refl _, ?_, rfl⟩
  rw [Rct.may]
  congr 2
  rw [decide_eq_decide]
  omega
end Go.Proofs

set_option linter.unusedVariables false
set_option linter.unusedSimpArgs false
set_option pp.deepTerms false
set_option pp.maxSteps 600
namespace Go.Proofs
open Go.Idl

noncomputable def Cel.beq (c d : Cel) : Bool := @decide (c = d) (Classical.propDecidable _)
theorem Cel.beq_iff {c d : Cel} : c.beq d = true ↔ c = d := by unfold Cel.beq; exact @decide_eq_true_iff _ (Classical.propDecidable _)
theorem Cel.beq_of_ne {c d : Cel} (h : c ≠ d) : c.beq d = false := by
  cases hb : c.beq d with
  | false => rfl
  | true => exact absurd (Cel.beq_iff.1 hb) h

theorem same_c (c : Cel) : ∀ (d : Cel) (h : Heap), c.size < 100000000000 → ICall Tryz.prog 50 [.agg c.row, .agg d.row] h (retP (.bool (c.beq d)) h) := by
  induction c using Cel.induct
  rename_i c ih
  intro d h hs
  have hlen := Cel.len_le c.kids
  rw [c.size_eq] at hs
  refine icall_of_iwp (fun _ => 0) Tryz.func50 rfl (by kernel_rfl) (Nat.le_of_ble_eq_true rfl) ?_
  rw [Tryz.results50]
  simp -implicitDefEqProofs [go_sem]
  refine cK_bne (fun h1 => ?_) (fun h1 => ?_) <;> simp -implicitDefEqProofs [go_sem]
  · exact ⟨h, Sub.refl _, by rw [Cel.beq_of_ne (fun e => h1 (by rw [e]))], rfl⟩
  refine cK_any (fun h2 => ?_) (fun h2 => ?_) <;> simp -implicitDefEqProofs [go_sem]
  · exact ⟨h, Sub.refl _, by rw [Cel.beq_of_ne (fun e => by simp [e] at h2)], rfl⟩
  refine cK_bne (fun h3 => ?_) (fun h3 => ?_) <;> simp -implicitDefEqProofs [go_sem]
  · exact ⟨h, Sub.refl _, by rw [Cel.beq_of_ne (fun e => h3 (by rw [e]))], rfl⟩
  refine cK_bne (fun h4 => ?_) (fun h4 => ?_) <;> simp -implicitDefEqProofs [go_sem]
  · exact ⟨h, Sub.refl _, by rw [Cel.beq_of_ne (fun e => h4 (by rw [e]))], rfl⟩
  have h4 : c.kids.length = d.kids.length := by omega
  refine iwp_loop (fun s => ∃ i : Nat, i ≤ c.kids.length ∧ s.t 37 = .int .i64 i ∧ s.t 36 = .int .i64 c.kids.length ∧ s.t 2 = .loc 2 0 0 ∧ s.t 3 = .loc 3 0 0 ∧ s.m 2 = some (0, c.row) ∧ s.m 3 = some (0, d.row) ∧ s.h = h ∧ c.kids.take i = d.kids.take i)
    (fun s => c.kids.length - tn (s.t 37)) ?_ ?_
  · refine ⟨0, ?_⟩
    simp -implicitDefEqProofs [go_sem]
  · rintro s ⟨i, hi, h37, h36, ht2, ht3, hm2, hm3, hh, heq⟩
    simp -implicitDefEqProofs [go_sem, h37, h36, ht2, ht3, hm2, hm3, hh]
    refine cK_dec (fun hlt => ?_) (fun hge => ?_)
    · have hg : c.kids[i]? = some c.kids[i] := List.getElem?_eq_getElem hlt
      have hlt2 : i < d.kids.length := by omega
      have hg2 : d.kids[i]? = some d.kids[i] := List.getElem?_eq_getElem hlt2
      simp -implicitDefEqProofs [go_sem, h37, h36, ht2, ht3, hm2, hm3, hh]
      refine iwp_drawn_of mixed [0, 1, 2, 3, 4, 5, 6, 7, 8, 9, 10, 11] (by kernel_rfl) ?_
      simp -implicitDefEqProofs [go_sem, h37, h36, ht2, ht3, hm2, hm3, hh, hlt, hlt2, hg, hg2]
      have hst := Cel.sizes_take c.kids i hlt
      have hle := Cel.sizes_le c.kids (i + 1)
      have hw := wrap_succ (i := i) (by omega)
      refine ⟨_, ih _ (List.getElem_mem hlt) d.kids[i] h (by omega), ?_⟩
      simp -implicitDefEqProofs [go_sem, h37, h36, ht2, ht3, hm2, hm3, hh]
      refine cK_any (fun h5 => ?_) (fun h5 => ?_) <;> simp -implicitDefEqProofs [go_sem, h37, h36, ht2, ht3, hm2, hm3, hh, hw]
      · refine ⟨h, Sub.refl _, ?_, rfl⟩
        rw [Cel.beq_of_ne]
        rintro rfl
        have : c.kids[i].beq c.kids[i] = true := Cel.beq_iff.2 rfl
        simp [this] at h5
      · refine ⟨⟨i + 1, by omega, rfl, ?_⟩, by omega⟩
        have h6 : c.kids[i] = d.kids[i] := Cel.beq_iff.1 (by simpa using h5)
        rw [List.take_add_one, List.take_add_one, hg, hg2, heq, h6]
    · simp -implicitDefEqProofs [go_sem, h37, h36, ht2, ht3, hm2, hm3, hh]
      refine ⟨h, Sub.refl _, ?_, rfl⟩
      have h6 : c = d := by
        have h7 : c.r = d.r := by simpa using h2
        have hk : c.kids = d.kids := by
          rw [List.take_of_length_le (by omega), List.take_of_length_le (by omega)] at heq; exact heq
        cases c; cases d
        simp only [Cel.kind, Cel.r, Cel.id, Cel.kids] at h1 h7 h3 hk
        rw [h1, h7, h3, hk]
      rw [Cel.beq_iff.2 h6]
end Go.Proofs

set_option linter.unusedVariables false
set_option linter.unusedSimpArgs false
set_option pp.deepTerms false
set_option pp.maxSteps 600
namespace Go.Proofs
open Go.Idl

/-- the kids' sizes, along the cell's axis -/
def Cel.sz (c : Cel) (d : Cel) : Int := if c.kind = 2 then d.r.w else d.r.h
def Cel.szs (c : Cel) : List Int := c.kids.map c.sz

theorem sizes_c (c : Cel) (h : Heap) (hs : c.kids.length < 100000000000) : ICall Tryz.prog 171 [.agg c.row] h (retP (.list .plain (c.szs.map intRow)) h) := by
  refine icall_of_iwp (fun _ => 0) Tryz.func171 rfl (by kernel_rfl) (Nat.le_of_ble_eq_true rfl) ?_
  rw [Tryz.results171]
  simp -implicitDefEqProofs [go_sem]
  refine iwp_loop (fun s => ∃ i v, i ≤ c.kids.length ∧ s.t 9 = .int .i64 i ∧ s.t 8 = .int .i64 c.kids.length ∧ s.t 1 = .loc 1 0 0 ∧ s.m 1 = some (0, c.row) ∧ s.t 3 = v ∧ Own [24, 34] s.x 3 v ((c.szs.map intRow).take i) ∧ s.h = h)
     (fun s => c.kids.length - tn (s.t 9)) ?_ ?_
  · refine ⟨0, .list .tight [], ?_⟩
    simp -implicitDefEqProofs [go_sem, Own.tight]
  · rintro s ⟨i, v, hi, h9, h8, h1, hm1, h3, ho, hh⟩
    simp -implicitDefEqProofs [go_sem, h9, h8, h1, hm1, h3, hh]
    refine cK_dec (fun hlt => ?_) (fun hge => ?_)
    · have hg : c.kids[i]? = some c.kids[i] := List.getElem?_eq_getElem hlt
      have hw := wrap_succ (i := i) (by omega)
      have e1 : (c.szs.map intRow).take (i + 1) = (c.szs.map intRow).take i ++ [[.int .i64 (c.sz c.kids[i])]] := by
        rw [List.take_add_one]; simp [Cel.szs, hg, intRow]
      simp -implicitDefEqProofs [go_sem, h9, h8, h1, hm1, h3, hh]
      refine cK_beq (fun hk => ?_) (fun hk => ?_)
      · simp -implicitDefEqProofs [go_sem, h9, h8, h1, hm1, h3, hh, hlt, hg]
        refine aK_own (z := 1) (S := [24, 34]) ho (by simp) elT_40 elZ_3 (by simp [roomy, byT_3]; omega) (uni_take (ints_uni _) i) (by simp [uni]) ?_
        intro r' x' ho' _
        simp -implicitDefEqProofs [go_sem, h9, h8, h1, hm1, h3, hh, hw]
        refine ⟨⟨i + 1, by omega, rfl, ?_⟩, by omega⟩
        rw [e1, Cel.sz, if_pos hk]; exact ho'
      · simp -implicitDefEqProofs [go_sem, h9, h8, h1, hm1, h3, hh, hlt, hg]
        refine aK_own (z := 1) (S := [24, 34]) ho (by simp) elT_40 elZ_3 (by simp [roomy, byT_3]; omega) (uni_take (ints_uni _) i) (by simp [uni]) ?_
        intro r' x' ho' _
        simp -implicitDefEqProofs [go_sem, h9, h8, h1, hm1, h3, hh, hw]
        refine ⟨⟨i + 1, by omega, rfl, ?_⟩, by omega⟩
        rw [e1, Cel.sz, if_neg hk]; exact ho'
    · simp -implicitDefEqProofs [go_sem, h9, h8, h1, hm1, h3, hh, ho.strip]
      rw [List.take_of_length_le (by simp [Cel.szs]; omega)]
      exact ⟨h, Sub.refl _, rfl, rfl⟩
end Go.Proofs
