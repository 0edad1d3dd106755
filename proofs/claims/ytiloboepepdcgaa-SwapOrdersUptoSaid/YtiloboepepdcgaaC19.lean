/- This text is a part of the proofs of the statements of this seat: the ideal states and their rules, or what one of the functions that the statements reach comes to. Conditions: none beyond those that each theorem names. -/
import Derived.Test.YtiloboepepdcgaaC18n
import Derived.Test.YtiloboepepdcgaaP2
set_option linter.unusedVariables false
set_option linter.unusedSimpArgs false
set_option pp.deepTerms false
set_option pp.maxSteps 400
namespace Go.Proofs
open Go.Idl

/-! going round -/
theorem tmod_cases (a n : Int) (hn : 0 < n) : a.tmod n = a % n ∨ (a.tmod n = a % n - n ∧ a % n ≠ 0) := by
  rw [Int.tmod_eq_emod]
  split
  · left; omega
  · rename_i h
    right
    refine ⟨by omega, fun h0 => h (.inr (Int.dvd_of_emod_eq_zero h0))⟩
theorem tmod_small {x n : Int} (h0 : 0 ≤ x) (h1 : x < n) : x.tmod n = x := Int.tmod_eq_of_lt h0 h1
theorem tmod_neg {x n : Int} (h0 : x < 0) (h1 : -n < x) : x.tmod n = x := by
  have := tmod_small (x := -x) (n := n) (by omega) (by omega)
  rw [Int.neg_tmod] at this; omega
theorem tmod_big {x n : Int} (h0 : n ≤ x) (h1 : x < 2 * n) : x.tmod n = x - n := by
  rw [Int.tmod_eq_emod_of_nonneg (by omega), ← Int.sub_emod_right, Int.emod_eq_of_lt (by omega) (by omega)]

def rotK (n : Nat) (b : Int) : Nat := n - (b % (n : Int)).toNat
def rot (ids : List Int) (b : Int) : List Int := ids.drop (rotK ids.length b) ++ ids.take (rotK ids.length b)
theorem rotK_le (n : Nat) (b : Int) : rotK n b ≤ n := Nat.sub_le _ _
theorem rot_len (ids : List Int) (b : Int) : (rot ids b).length = ids.length := by
  have := rotK_le ids.length b
  simp [rot]; omega
/-- what the document computes at a place -/
def rotI (n i : Nat) (b : Int) : Int := let k := (((i : Int) - b.tmod n).tmod n); if k < 0 then k + n else k
theorem rotI_eq (n i : Nat) (b : Int) (hi : i < n) : 0 ≤ rotI n i b ∧ rotI n i b < n ∧ (rotI n i b = (i : Int) - (b % (n : Int)) ∨ rotI n i b = (i : Int) - (b % (n : Int)) + n) := by
  have h1 := Int.emod_nonneg b (show (n : Int) ≠ 0 by omega)
  have h2 := Int.emod_lt_of_pos b (show (0 : Int) < n by omega)
  have hb := tmod_cases b n (by omega)
  unfold rotI
  have key : ∀ x : Int, -n < x → x < 2 * n → (x.tmod n = x ∧ x < n) ∨ (x.tmod n = x - n ∧ n ≤ x) := by
    intro x hx1 hx2
    by_cases c1 : x < 0
    · exact .inl ⟨tmod_neg c1 hx1, by omega⟩
    · by_cases c2 : x < n
      · exact .inl ⟨tmod_small (by omega) c2, c2⟩
      · exact .inr ⟨tmod_big (by omega) hx2, by omega⟩
  have hk := key ((i : Int) - b.tmod n) (by omega) (by omega)
  simp only
  split <;> omega
theorem rot_get (ids : List Int) (b : Int) (i : Nat) (hi : i < ids.length) : (rot ids b)[i]? = ids[(rotI ids.length i b).toNat]? := by
  have h1 := Int.emod_nonneg b (show (ids.length : Int) ≠ 0 by omega)
  have h2 := Int.emod_lt_of_pos b (show (0 : Int) < ids.length by omega)
  obtain ⟨h3, h4, h5⟩ := rotI_eq ids.length i b hi
  unfold rot
  by_cases hq : i < ids.length - rotK ids.length b
  · rw [List.getElem?_append_left (by simp; exact hq), List.getElem?_drop]
    congr 1
    unfold rotK at hq ⊢; omega
  · rw [List.getElem?_append_right (by simp; omega), List.getElem?_take]
    simp only [List.length_drop]
    rw [if_pos (by unfold rotK at hq ⊢; omega)]
    congr 1
    unfold rotK at hq ⊢; omega
/-- what the program computes -/
theorem rotK_run (n : Nat) (b : Int) (hn : 0 < n) : 0 < b.tmod n + n ∧ b.tmod n + n < 2 * n ∧ (n : Int) - (b.tmod n + n).tmod n = (rotK n b : Int) := by
  have h1 := Int.emod_nonneg b (show (n : Int) ≠ 0 by omega)
  have h2 := Int.emod_lt_of_pos b (show (0 : Int) < n by omega)
  have hb := tmod_cases b n (by omega)
  refine ⟨by omega, by omega, ?_⟩
  unfold rotK
  rcases hb with hb | ⟨hb, hb2⟩
  · rw [hb, tmod_big (by omega) (by omega)]; omega
  · rw [hb, tmod_small (by omega) (by omega)]; omega
/-- back again -/
theorem rot_back (ids : List Int) (b : Int) : rot (rot ids b) (-b) = ids := by
  by_cases h0 : ids.length = 0
  · have : ids = [] := List.eq_nil_of_length_eq_zero h0
    subst this; simp [rot]
  have hlen := rot_len ids b
  have h1 := Int.emod_nonneg b (show (ids.length : Int) ≠ 0 by omega)
  have h2 := Int.emod_lt_of_pos b (show (0 : Int) < ids.length by omega)
  have hk : rotK (rot ids b).length (-b) = (if b % (ids.length : Int) = 0 then ids.length else (b % (ids.length : Int)).toNat) := by
    rw [hlen]; unfold rotK
    rw [Int.neg_emod]
    by_cases hz : b % (ids.length : Int) = 0
    · rw [if_pos hz, if_pos (Int.dvd_of_emod_eq_zero hz)]; simp
    · rw [if_neg hz, if_neg (fun h => hz (Int.emod_eq_zero_of_dvd h))]
      omega
  rw [rot, hk]
  by_cases hz : b % (ids.length : Int) = 0
  · rw [if_pos hz]
    have e : rot ids b = ids := by simp [rot, rotK, hz]
    rw [e]; simp
  · rw [if_neg hz]
    have e : (ids.drop (rotK ids.length b)).length = (b % (ids.length : Int)).toNat := by simp [rotK]; omega
    rw [rot, ← e, List.drop_left, List.take_left, List.take_append_drop]

theorem lv_ids (c : Cel) : c.ids.length = c.lv :=
  Cel.rec (motive_1 := fun c => c.ids.length = c.lv) (motive_2 := fun l => (idsL l).length = Cel.lvs l)
    (fun k r id kids ih => by rw [ids_eq, Cel.lv_eq, List.length_append]; simp only [Cel.kids, Cel.kind] at ih ⊢; rw [ih]; by_cases hk : k = 1 <;> simp [hk])
    (by simp [idsL, Cel.alls, Cel.lvs])
    (fun c cs h1 h2 => by
      have : idsL (c :: cs) = c.ids ++ idsL cs := by simp [idsL, Cel.alls, Cel.ids, Cel.leaves]
      rw [this, List.length_append, h1, h2, Cel.lvs]) c
end Go.Proofs
