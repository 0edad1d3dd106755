/- This text proves Rows.RegistryNilSaid: a nil registry has nothing: the call returns true for every input, of any size, and each argument reads as before. Conditions: none beyond those that the statement itself names. -/
import Derived.Test.YtkadknkpgogfjaaGreatT6
import Derived.Test.YtkadknkpgogfjaaGreatT3
import Derived.JoinedOf
import Derived.ChangeMaps5
set_option linter.unusedVariables false
set_option linter.unusedSimpArgs false
namespace Go.Proofs.YtkadknkpgogfjaaGreat.registryNil
open Go.Idl Go.ChangeShapes Go.WideShapes Go.ChangeAt Go.RowKit Go.Proofs

theorem own : ownKnob Tryz.prog.godebug = none := by kernel_rfl

set_option maxRecDepth 100000 in
theorem contract (H : Type) (enc : TypeId × Value → H) (W : World) (base : Nat) (args : Array Value) (ds gs : List (DataW H)) (before : List MemPlace)
    (hval : ∀ (j : Nat) t v, Tryz.f3.params[j]? = some t → args[j]? = some v → Value.okWide Tryz.prog W .any base t v)
    (hW : DataW.Whole enc Tryz.prog Tryz.f3.params.toList Rows.registryNilSpec.vars false W args.toList ds gs before) :
    Calls Tryz.prog 3 args W fun e W' => ∃ v, e = .returned v ∧ Rows.registryNilSpec.post enc Tryz.prog Tryz.f3 false true false false W args v W' := by
  have hW' := hW
  obtain ⟨p, q, hA0, hV, rfl, hfz, hnd⟩ := hW
  have hA : DataW.TrodAll enc Tryz.prog W 0 (fun _ => true) true Tryz.f3.params.toList args.toList ds p := hA0
  rw [Tryz.params3] at hA hval
  obtain ⟨v1, vs1, d1, ds1, p1, q1, hargs, rfl, rfl, h1, r1⟩ := trodAll_cons hA
  obtain ⟨v2, vs2, d2, ds2, p2, q2, rfl, rfl, rfl, h2, r2⟩ := trodAll_cons r1
  obtain ⟨v3, vs3, d3, ds3, p3, q3, rfl, rfl, rfl, h3, r3⟩ := trodAll_cons r2
  obtain ⟨v4, vs4, d4, ds4, p4, q4, rfl, rfl, rfl, h4, r4⟩ := trodAll_cons r3
  obtain ⟨v5, vs5, d5, ds5, p5, q5, rfl, rfl, rfl, h5, r5⟩ := trodAll_cons r4
  obtain ⟨rfl, rfl, rfl⟩ := trodAll_nil r5
  obtain rfl : args = #[v1, v2, v3, v4, v5] := by cases args; simp_all
  obtain ⟨rfl, rfl⟩ := trodVars_none hV
  obtain ⟨a1, rfl, rfl, rfl, w1⟩ := open_int Tryz.underlying3 (hval 0 3 v1 rfl rfl) h1
  have b1 : -9223372036854775808 ≤ a1 ∧ a1 ≤ 9223372036854775807 := by simpa [Lit.wf, IntKind.min, IntKind.max, IntKind.signed, IntKind.bits] using w1
  obtain ⟨a2, rfl, rfl, rfl, w2⟩ := open_int Tryz.underlying3 (hval 1 3 v2 rfl rfl) h2
  have b2 : -9223372036854775808 ≤ a2 ∧ a2 ≤ 9223372036854775807 := by simpa [Lit.wf, IntKind.min, IntKind.max, IntKind.signed, IntKind.bits] using w2
  obtain ⟨a3, rfl, rfl, rfl, w3⟩ := open_int Tryz.underlying3 (hval 2 3 v3 rfl rfl) h3
  have b3 : -9223372036854775808 ≤ a3 ∧ a3 ≤ 9223372036854775807 := by simpa [Lit.wf, IntKind.min, IntKind.max, IntKind.signed, IntKind.bits] using w3
  obtain ⟨a4, rfl, rfl, rfl, w4⟩ := Go.ChangeMaps.open_string Tryz.underlying9 (hval 3 9 v4 rfl rfl) h4
  obtain ⟨l5, hr5, hl5⟩ := sl_arg intRow Tryz.underlying22 (z := 1) (by kernel_rfl) (by omega) ints_el (hval 4 22 v5 rfl rfl) h5
  have hcall := (regNil_c a1 a2 a3 a4 l5 (by have := w4; unfold maxLen at this; omega) (by have := hl5; unfold maxLen at this; omega) (fun _ => none)).2 (oldF W) (fun _ => False) W #[.int .i64 a1, .int .i64 a2, .int .i64 a3, .string a4, v5] (hrel0 W) ⟨_, _, rfl, rfl, _, _, rfl, rfl, _, _, rfl, rfl, _, _, rfl, rfl, _, _, rfl, hr5, rfl⟩
  refine hcall.mono ?_
  rintro e W' ⟨F', X', h', ie, ⟨rfl, _⟩, he, _, hkeep⟩
  cases e with
  | returned v =>
    obtain rfl : v = .bool true := he
    have hlt : ∀ x ∈ (([] ++ ([] ++ ([] ++ ([] ++ (p5 ++ []))))) ++ [] : List MemPlace), x.block < W.heap.size := fun x hx => hW'.lt x (by simpa using hx)
    refine ⟨_, rfl, _, _, _, [], ([] ++ ([] ++ ([] ++ ([] ++ (p5 ++ []))))), [], hW', trodAll_mk1 (shut_bool Tryz.underlying4 _), ?_, rfl, World.keptBut_mono (fun _ f => f.elim) (kept hkeep), fun h => nomatch h⟩
    rw [Tryz.params3]
    exact (trodAll_cons_mk (shut_int Tryz.underlying3 w1) (trodAll_cons_mk (shut_int Tryz.underlying3 w2) (trodAll_cons_mk (shut_int Tryz.underlying3 w3) (trodAll_cons_mk (Go.ChangeMaps.shut_string Tryz.underlying9 w4) (trodAll_cons_mk (WideElems.Trod_stays (by kernel_rfl : laidOutB Tryz.prog = true) (by kernel_rfl) (of_decide_eq_true (by kernel_rfl)) (sp' := fun b => decide (b < W.heap.size)) h5 (fun x hx => same_at hkeep (hlt x (by simp [hx]))) (fun x hx => by simpa using hlt x (by simp [hx]))) trodAll_mk0)))))
  | _ => exact he.elim

set_option maxRecDepth 100000 in
theorem lifted (os : Os) (started : os.Started) (H : Type) (enc : TypeId × Value → H) :
    ReturnsInHanded {} Tryz.checked os 3 .any (Rows.registryNilSpec.pre6 enc Tryz.prog Tryz.f3 Rows.registryNilRow.domain false) (Rows.registryNilSpec.post enc Tryz.prog Tryz.f3 false true false false) := by
  refine returnsInHanded_of_change (C := Tryz.checked) (s := Rows.registryNilSpec) own started (by kernel_rfl) Tryz.func3
    (ChangeSpec.witness6 (enc := enc) (C := Tryz.checked) (s := Rows.registryNilSpec) false ⟨#[], #[.int .i64 0, .int .i64 0, .int .i64 0, .string ⟨#[]⟩, .slice none 0 0], []⟩ 8 (by kernel_rfl) (by kernel_rfl) (by kernel_rfl)
      (by kernel_rfl) (by kernel_rfl)) ?_
  intro W base args ds gs before hval hW _ _
  exact contract H enc W base args ds gs before hval hW

theorem over : Rows.registryNilRow.holds Tryz.pinned (Go.OpenSpec.ofChange Rows.registryNilSpec) :=
  OpenClaim.holds_of_wide 3 Tryz.f3 rfl rfl rfl rfl rfl rfl rfl ⟨rfl, rfl, rfl, rfl, rfl⟩ rfl rfl rfl rfl rfl (by kernel_rfl) Tryz.func3 (by kernel_rfl)
    (of_decide_eq_true (by kernel_rfl)) (by unfold Func.isWrapper; first | (rw [if_pos (by decide +kernel)]; kernel_rfl) | (rw [if_neg (by decide +kernel)]; exact ⟨rfl, rfl⟩))
    (fun os started H enc _ => lifted os started H enc)

end Go.Proofs.YtkadknkpgogfjaaGreat.registryNil
namespace Go.Proofs.YtkadknkpgogfjaaGreat
theorem registryNil_proved : Rows.RegistryNilSaid := registryNil.over
end Go.Proofs.YtkadknkpgogfjaaGreat
