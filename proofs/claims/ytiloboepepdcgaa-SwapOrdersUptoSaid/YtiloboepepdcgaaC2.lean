/- This text is a part of the proofs of the statements of this seat: the ideal states and their rules, or what one of the functions that the statements reach comes to. Conditions: none beyond those that each theorem names. -/
import Derived.Test.YtiloboepepdcgaaC1
set_option linter.unusedVariables false
set_option linter.unusedSimpArgs false
set_option pp.deepTerms false
set_option pp.maxSteps 600
namespace Go.Proofs
open Go.Idl

theorem great_c (c : Cel) (h : Heap) (hs : c.size < 1000000000000) : ICall Try.prog 35 [.agg c.row] h fun e h' => ∃ b, e = .ret (.bool b) ∧ h' = h ∧ (b = false → c.size ≤ 200) := by
  refine icall_of_iwp (fun _ => 0) Try.func35 rfl (by kernel_rfl) (Nat.le_of_ble_eq_true rfl) ?_
  rw [Try.results35]
  simp -implicitDefEqProofs [go_sem]
  refine (count_all c h hs).mono ?_
  rintro e h' ⟨n, rfl, rfl, h1, h2, h3⟩
  simp -implicitDefEqProofs [go_sem]
  refine ⟨_, Sub.refl _, ?_⟩
  by_cases h : n ≤ 200
  · exact .inl ⟨by omega, rfl, by omega⟩
  · exact .inr ⟨by omega, rfl⟩

mutual
def Cel.all : Cel → List Cel
  | .mk k r id kids => .mk k r id kids :: Cel.alls kids
def Cel.alls : List Cel → List Cel
  | [] => []
  | c :: cs => c.all ++ Cel.alls cs
end
theorem Cel.alls_take (l : List Cel) (i : Nat) (h : i < l.length) : Cel.alls (l.take (i + 1)) = Cel.alls (l.take i) ++ l[i].all := by
  induction l generalizing i with
  | nil => simp at h
  | cons c cs ih =>
    cases i with
    | zero => simp [Cel.alls]
    | succ i => simp at h; simp [Cel.alls, ih i h]
theorem Cel.all_length (c : Cel) : c.all.length = c.size :=
  Cel.rec (motive_1 := fun c => c.all.length = c.size) (motive_2 := fun l => (Cel.alls l).length = Cel.sizes l) (fun k r id kids ih => by simp [Cel.all, Cel.size, ih]) (by simp [Cel.alls, Cel.sizes]) (fun c cs h1 h2 => by simp [Cel.alls, Cel.sizes, h1, h2]) c
theorem Cel.alls_length (l : List Cel) : (Cel.alls l).length = Cel.sizes l := by
  induction l with
  | nil => simp [Cel.alls, Cel.sizes]
  | cons c cs ih => simp [Cel.alls, Cel.sizes, ih, Cel.all_length]


theorem Cel.all_eq (c : Cel) : c.all = c :: Cel.alls c.kids := by cases c; rw [Cel.all]; rfl

theorem all_c (c : Cel) : ∀ h, c.size < 100000000000 → ICall Try.prog 104 [.agg c.row] h (retP (.list .plain (c.all.map Cel.row)) h) := by
  induction c using Cel.induct
  rename_i c ih
  intro h hs
  have hlen := Cel.len_le c.kids
  rw [c.size_eq] at hs
  refine icall_of_iwp (fun _ => 0) Try.func104 rfl (by kernel_rfl) (Nat.le_of_ble_eq_true rfl) ?_
  rw [Try.results104]
  simp -implicitDefEqProofs [go_sem]
  refine iwp_loop (fun s => ∃ i v, i ≤ c.kids.length ∧ s.t 10 = .int .i64 i ∧ s.t 9 = .int .i64 c.kids.length ∧ s.t 3 = v ∧ Own [20] s.x 72 v (c.row :: (Cel.alls (c.kids.take i)).map Cel.row) ∧ s.t 1 = .loc 1 0 0 ∧ s.m 1 = some (0, c.row) ∧ s.h = h)
     (fun s => c.kids.length - tn (s.t 10)) ?_ ?_
  · refine ⟨0, .list .tight [c.row], ?_⟩
    simp -implicitDefEqProofs [go_sem, Cel.alls, Own.tight]
  · rintro s ⟨i, v, hi, h10, h9, h3, ho, h1, hm1, hh⟩
    simp -implicitDefEqProofs [go_sem, h10, h9, h3, h1, hm1, hh]
    refine cK_dec (fun hlt => ?_) (fun hge => ?_)
    · have hg : c.kids[i]? = some c.kids[i] := List.getElem?_eq_getElem hlt
      simp -implicitDefEqProofs [go_sem, h10, h9, h3, h1, hm1, hh, hlt, hg]
      have hst := Cel.sizes_take c.kids i hlt
      have hle := Cel.sizes_le c.kids (i + 1)
      refine (ih _ (List.getElem_mem hlt) h (by omega)).mono ?_
      rintro e h' ⟨rfl, rfl⟩
      simp -implicitDefEqProofs [go_sem, h10, h9, h3, h1, hm1, hh]
      have hw : IntKind.i64.wrap ((i : Int) + 1) = ((i + 1 : Nat) : Int) := by rw [wrap_in (by omega)]; rfl
      have hal := Cel.alls_length (c.kids.take i)
      have hal2 := Cel.all_length c.kids[i]
      refine aK_own (z := 7) (S := [20]) (by simpa [go_sem] using ho) (by simp) elT_70 elZ_72 (by simp [roomy, byT_72]; omega) (by rw [← List.map_cons]; exact Cel.rows_uni _) (Cel.rows_uni _) ?_
      intro r' x' ho' _
      simp -implicitDefEqProofs [go_sem, h10, h9, h3, h1, hm1, hh, hw]
      refine ⟨⟨i + 1, by omega, rfl, ?_⟩, by omega⟩
      rw [Cel.alls_take c.kids i hlt]
      simpa using ho'
    · simp -implicitDefEqProofs [go_sem, h10, h9, h3, h1, hm1, hh, ho.strip]
      have hik : i = c.kids.length := by omega
      subst hik
      rw [List.take_length]
      exact ⟨h, Sub.refl _, by rw [c.all_eq]; rfl, rfl⟩
end Go.Proofs
