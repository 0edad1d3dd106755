/- This text is a part of the proofs of the statements of this seat: the ideal states and their rules, or what one of the functions that the statements reach comes to. Conditions: none beyond those that each theorem names. -/
import Derived.Test.YtioeghodmfdceaaC25
set_option linter.unusedVariables false
set_option linter.unusedSimpArgs false
set_option pp.deepTerms false
set_option pp.maxSteps 400
namespace Go.Proofs
open Go.Idl

theorem sw_sw (a b x : Int) : sw a b (sw a b x) = x := by
  unfold sw
  by_cases h1 : x = a
  · subst h1; rw [if_pos rfl]
    by_cases h2 : b = x
    · rw [if_pos h2]; exact h2
    · rw [if_neg h2, if_pos rfl]
  · rw [if_neg h1]
    by_cases h2 : x = b
    · subst h2; rw [if_pos rfl, if_pos rfl]
    · rw [if_neg h2, if_neg h1, if_neg h2]
theorem two_two (ids : List Int) (a b : Int) : two (two ids a b) a b = ids := by
  simp only [two, List.map_map]
  conv => rhs; rw [← List.map_id ids]
  apply List.map_congr_left
  intro x _
  exact sw_sw a b x
theorem two_nodup {ids : List Int} (h : ids.Nodup) (a b : Int) : (two ids a b).Nodup :=
  List.Pairwise.map (sw a b) (fun x y hne e => hne (by rw [← sw_sw a b x, e, sw_sw])) h
theorem two_mem {ids : List Int} {a b : Int} (ha : a ∈ ids) (hb : b ∈ ids) {x : Int} : x ∈ two ids a b ↔ x ∈ ids := by
  have hs : ∀ y ∈ ids, sw a b y ∈ ids := fun y hy => by unfold sw; split; exact hb; split; exact ha; exact hy
  rw [two, List.mem_map]
  constructor
  · rintro ⟨y, hy, rfl⟩; exact hs y hy
  · intro hx; exact ⟨sw a b x, hs x hx, sw_sw a b x⟩
theorem two_tiles {c : Cel} (ht : c.tiles = true) {a b : Int} (ha : a ∈ c.ids) (hb : b ∈ c.ids) :
    (c.nm (two c.ids a b)).tiles = true ∧ (c.nm (two c.ids a b)).ids = two c.ids a b ∧ (c.nm (two c.ids a b)).nm (two (two c.ids a b) a b) = c := by
  have hl : (two c.ids a b).length = c.lv := by rw [two_len, lv_ids]
  refine ⟨tiles_nm ht hl (fun x hx => ids_range ht x ((two_mem ha hb).1 hx)) (two_nodup (tiles_may ht).2.2 a b), ?_, ?_⟩
  · rw [c.nm_ids _ (by omega), List.take_of_length_le (by omega)]
  · rw [c.nm_nm, two_two, c.nm_self]
theorem zero_tiles : Cel.zero.tiles = false := by decide +kernel

set_option maxRecDepth 20000 in
set_option maxHeartbeats 4000000 in
theorem swapTwos_c (c : Cel) (a b : Int) (h : Heap) (hs : c.size < 100000000) :
    ICall Try.prog 4 [.agg c.row, .int .i64 a, .int .i64 b] h (retP (.bool true) h) := by
  refine icall_of_iwp (fun _ => 0) Try.func4 rfl (by kernel_rfl) (Nat.le_of_ble_eq_true rfl) ?_
  rw [Try.results4]
  simp -implicitDefEqProofs [go_sem]
  refine (great_c c h (by omega)).mono ?_
  rintro e h' ⟨g, rfl, he, _⟩
  rw [he]
  have aw : ∀ (R : IEnd → Heap → Prop), R (.ret (.bool true)) h → ICall Try.prog 9 [] h R := fun R hR => (awake_c h).mono (by rintro e h' ⟨rfl, rfl⟩; exact hR)
  simp -implicitDefEqProofs [go_sem]
  refine cK_any (fun k1 => ?_) (fun k1 => ?_) <;> simp -implicitDefEqProofs [go_sem]
  · refine aw _ ?_
    simp -implicitDefEqProofs [go_sem]
    exact ⟨h, Sub.refl _, rfl, rfl⟩
  refine (swapTwo_c c a b h hs).mono ?_
  rintro e h' ⟨rfl, he⟩
  rw [he]
  have hz : twoV Cel.zero a b = .tup [.agg Cel.zero.row, .int .i64 1] := by rw [twoV, zero_tiles]; rfl
  have bad : ∀ er : Int, er ≠ 0 → twoV c a b = .tup [.agg Cel.zero.row, .int .i64 er] → (er != 0) = true := fun er h _ => by simpa using h
  by_cases hok : c.tiles = true ∧ a ∈ c.ids ∧ b ∈ c.ids
  · obtain ⟨ht, ha, hb⟩ := hok
    obtain ⟨t1, t2, t3⟩ := two_tiles ht ha hb
    have hv : twoV c a b = .tup [.agg (c.nm (two c.ids a b)).row, .int .i64 0] := by rw [twoV, if_pos ht, if_pos ⟨ha, hb⟩]; rfl
    rw [hv]
    simp -implicitDefEqProofs [go_sem]
    refine (two15_c c a b h hs).mono ?_
    rintro e h' ⟨rfl, he⟩
    rw [he, hv]
    simp -implicitDefEqProofs [go_sem]
    refine (same_c _ _ h (by rw [Cel.nm_size]; omega)).mono ?_
    rintro e h' ⟨rfl, he⟩
    rw [he, beq_self]
    simp -implicitDefEqProofs [go_sem]
    refine (swapTwo_c _ a b h (by rw [Cel.nm_size]; omega)).mono ?_
    rintro e h' ⟨rfl, he⟩
    have hv2 : twoV (c.nm (two c.ids a b)) a b = .tup [.agg c.row, .int .i64 0] := by
      rw [twoV, if_pos t1, t2, if_pos ⟨(two_mem ha hb).2 ha, (two_mem ha hb).2 hb⟩, vecR, if_pos rfl, t3]
    rw [he, hv2]
    simp -implicitDefEqProofs [go_sem]
    refine (same_c c c h (by omega)).mono ?_
    rintro e h' ⟨rfl, he⟩
    rw [he, beq_self]
    simp -implicitDefEqProofs [go_sem]
    refine aw _ ?_
    simp -implicitDefEqProofs [go_sem]
    exact ⟨h, Sub.refl _, rfl, rfl⟩
  · obtain ⟨er, her, hv⟩ : ∃ er : Int, (er = 1 ∨ er = 6) ∧ twoV c a b = .tup [.agg Cel.zero.row, .int .i64 er] := by
      by_cases ht : c.tiles = true
      · exact ⟨6, .inr rfl, by rw [twoV, if_pos ht, if_neg (fun hh => hok ⟨ht, hh⟩)]⟩
      · exact ⟨1, .inl rfl, by rw [twoV, if_neg ht]⟩
    rw [hv]
    simp -implicitDefEqProofs [go_sem]
    refine (two15_c c a b h hs).mono ?_
    rintro e h' ⟨rfl, he⟩
    rw [he, hv]
    simp -implicitDefEqProofs [go_sem]
    refine (same_c _ _ h (by decide +kernel)).mono ?_
    rintro e h' ⟨rfl, he⟩
    rw [he, beq_self]
    simp -implicitDefEqProofs [go_sem]
    refine (swapTwo_c Cel.zero a b h (by decide +kernel)).mono ?_
    rintro e h' ⟨rfl, he⟩
    rw [he, hz]
    have hne : (er != 0) = true := by rcases her with rfl | rfl <;> rfl
    simp -implicitDefEqProofs [go_sem, hne]
    refine aw _ ?_
    simp -implicitDefEqProofs [go_sem]
    exact ⟨h, Sub.refl _, rfl, rfl⟩
end Go.Proofs
