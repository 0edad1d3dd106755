/- This text proves Rows.SinkNilSaid: the law SinkNil of chapter 19 answers true for every input, and its arguments read as they did. Conditions: none beyond those that the statement itself names. -/
import Derived.Test.YtiloboepepdcgaaK11
import Derived.Test.YtiloboepepdcgaaR0
import Derived.JoinedOf
set_option linter.unusedVariables false
set_option linter.unusedSimpArgs false
namespace Go.Proofs.Ytiloboepepdcgaa.sinkNil
open Go.Idl Go.ChangeShapes Go.WideShapes Go.ChangeAt Go.RowKit Go.Proofs

theorem ints_el {H : Type} {enc : TypeId × Value → H} {W : World} (fuel : Nat) (cs : List Value) (x : DataW H × List MemPlace) (h : DataW.trod enc Try.prog W 0 (fun _ => true) true fuel 3 cs = some x) :
    ∃ a : Int, RepAll (oldF W) W (intRow a) cs ∧ ∀ u ∈ cs, u.oneCell' = true := by
  obtain ⟨n, rfl, _⟩ := int_read Try.underlying3 _ _ _ h
  exact ⟨n, ⟨_, _, rfl, rfl, rfl⟩, by intro u hu; simp at hu; subst hu; rfl⟩
theorem own : ownKnob Try.prog.godebug = none := by kernel_rfl

set_option maxRecDepth 100000 in
theorem contract (H : Type) (enc : TypeId × Value → H) (W : World) (base : Nat) (args : Array Value) (ds gs : List (DataW H)) (before : List MemPlace)
    (hval : ∀ (j : Nat) t v, Try.f5.params[j]? = some t → args[j]? = some v → Value.okWide Try.prog W .any base t v)
    (hW : DataW.Whole enc Try.prog Try.f5.params.toList Rows.sinkNilSpec.vars false W args.toList ds gs before) :
    Calls Try.prog 5 args W fun e W' => ∃ v, e = .returned v ∧ Rows.sinkNilSpec.post enc Try.prog Try.f5 false true false false W args v W' := by
  have hW' := hW
  obtain ⟨p, q, hA0, hV, rfl, hfz, hnd⟩ := hW
  have hA : DataW.TrodAll enc Try.prog W 0 (fun _ => true) true Try.f5.params.toList args.toList ds p := hA0
  rw [Try.params5] at hA hval
  obtain ⟨v1, vs1, d1, ds1, p1, q1, hargs, rfl, rfl, h1, r1⟩ := trodAll_cons hA
  obtain ⟨v2, vs2, d2, ds2, p2, q2, rfl, rfl, rfl, h2, r2⟩ := trodAll_cons r1
  obtain ⟨rfl, rfl, rfl⟩ := trodAll_nil r2
  obtain rfl : args = #[v1, v2] := by cases args; simp_all
  obtain ⟨rfl, rfl⟩ := trodVars_none hV
  obtain ⟨a1, rfl, rfl, rfl, w1⟩ := open_int Try.underlying3 (hval 0 3 v1 rfl rfl) h1
  have b1 : -9223372036854775808 ≤ a1 ∧ a1 ≤ 9223372036854775807 := by simpa [Lit.wf, IntKind.min, IntKind.max, IntKind.signed, IntKind.bits] using w1
  obtain ⟨l2, hr2, hl2⟩ := sl_arg intRow Try.underlying45 (z := 1) (by kernel_rfl) (by omega) ints_el (hval 1 45 v2 rfl rfl) h2
  have hcall := (sinkNil_c a1 l2 (fun _ => none)).2 (oldF W) (fun _ => False) W #[.int .i64 a1, v2] (hrel0 W) ⟨_, _, rfl, rfl, _, _, rfl, hr2, rfl⟩
  refine hcall.mono ?_
  rintro e W' ⟨F', X', h', ie, ⟨rfl, _⟩, he, _, hkeep⟩
  cases e with
  | returned v =>
    obtain rfl : v = .bool true := he
    have hlt : ∀ x ∈ (([] ++ (p2 ++ [])) ++ [] : List MemPlace), x.block < W.heap.size := fun x hx => hW'.lt x (by simpa using hx)
    refine ⟨_, rfl, _, _, _, [], ([] ++ (p2 ++ [])), [], hW', trodAll_mk1 (shut_bool Try.underlying4 _), ?_, rfl, World.keptBut_mono (fun _ f => f.elim) (kept hkeep), fun h => nomatch h⟩
    rw [Try.params5]
    exact (trodAll_cons_mk (shut_int Try.underlying3 w1) (trodAll_cons_mk (WideElems.Trod_stays (by kernel_rfl : laidOutB Try.prog = true) (by kernel_rfl) (of_decide_eq_true (by kernel_rfl)) (sp' := fun b => decide (b < W.heap.size)) h2 (fun x hx => same_at hkeep (hlt x (by simp [hx]))) (fun x hx => by simpa using hlt x (by simp [hx]))) trodAll_mk0))
  | _ => exact he.elim

set_option maxRecDepth 100000 in
theorem lifted (os : Os) (started : os.Started) (H : Type) (enc : TypeId × Value → H) :
    ReturnsInHanded {} Try.checked os 5 .any (Rows.sinkNilSpec.pre6 enc Try.prog Try.f5 Rows.sinkNilRow.domain false) (Rows.sinkNilSpec.post enc Try.prog Try.f5 false true false false) := by
  refine returnsInHanded_of_change (C := Try.checked) (s := Rows.sinkNilSpec) own started (by kernel_rfl) Try.func5
    (ChangeSpec.witness6 (enc := enc) (C := Try.checked) (s := Rows.sinkNilSpec) false ⟨#[], #[.int .i64 0, .slice none 0 0], []⟩ 8 (by kernel_rfl) (by kernel_rfl) (by kernel_rfl)
      (by kernel_rfl) (by kernel_rfl)) ?_
  intro W base args ds gs before hval hW _ _
  exact contract H enc W base args ds gs before hval hW

theorem over : Rows.sinkNilRow.holds Try.pinned (Go.OpenSpec.ofChange Rows.sinkNilSpec) :=
  OpenClaim.holds_of_wide 5 Try.f5 rfl rfl rfl rfl rfl rfl rfl ⟨rfl, rfl, rfl, rfl, rfl⟩ rfl rfl rfl rfl rfl (by kernel_rfl) Try.func5 (by kernel_rfl)
    (of_decide_eq_true (by kernel_rfl)) (by unfold Func.isWrapper; first | (rw [if_pos (by decide +kernel)]; kernel_rfl) | (rw [if_neg (by decide +kernel)]; exact ⟨rfl, rfl⟩))
    (fun os started H enc _ => lifted os started H enc)

end Go.Proofs.Ytiloboepepdcgaa.sinkNil
namespace Go.Proofs.Ytiloboepepdcgaa
theorem sinkNil_proved : Rows.SinkNilSaid := sinkNil.over
end Go.Proofs.Ytiloboepepdcgaa
