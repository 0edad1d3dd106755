/- This text proves Rows.SwapBesidesUptoSaid: any leaf that changes places with one so many places beside it does so with the one that layer 7 tells. Conditions: none beyond those that the statement itself names. -/
import Derived.Test.YtioeghodmfdceaaC30
import Derived.Test.YtioeghodmfdceaaR1
set_option linter.unusedVariables false
set_option linter.unusedSimpArgs false
namespace Go.Proofs.Ytioeghodmfdceaa.swapBesides
open Go.Idl Go.ChangeShapes Go.WideShapes Go.ChangeAt Go.RowKit Go.Proofs

theorem own : ownKnob Try.prog.godebug = none := by kernel_rfl

set_option maxRecDepth 100000 in
theorem contract (H : Type) (enc : TypeId × Value → H) (W : World) (base : Nat) (args : Array Value) (ds gs : List (DataW H)) (before : List MemPlace)
    (hval : ∀ (j : Nat) t v, Try.f6.params[j]? = some t → args[j]? = some v → Value.okWide Try.prog W .any base t v)
    (hW : DataW.Whole enc Try.prog Try.f6.params.toList Rows.swapBesidesSpec.vars false W args.toList ds gs before) (hk : Rows.uptoSmall H (ds ++ gs) = true) :
    Calls Try.prog 6 args W fun e W' => ∃ v, e = .returned v ∧ Rows.swapBesidesSpec.post enc Try.prog Try.f6 false true false false W args v W' := by
  have hW' := hW
  obtain ⟨p, q, hA0, hV, rfl, hfz, hnd⟩ := hW
  have hA : DataW.TrodAll enc Try.prog W 0 (fun _ => true) true Try.f6.params.toList args.toList ds p := hA0
  rw [Try.params6] at hA hval
  obtain ⟨v0, vs0, d0, ds0, p0, q0, hargs, rfl, rfl, h0, r0⟩ := trodAll_cons hA
  obtain ⟨v1, vs1, d1, ds1, p1, q1, rfl, rfl, rfl, h1, r1⟩ := trodAll_cons r0
  obtain ⟨v2, vs2, d2, ds2, p2, q2, rfl, rfl, rfl, h2, r2⟩ := trodAll_cons r1
  obtain ⟨rfl, rfl, rfl⟩ := trodAll_nil r2
  obtain rfl : args = #[v0, v1, v2] := by cases args; simp_all
  obtain ⟨rfl, rfl⟩ := trodVars_none hV
  obtain ⟨a1, rfl, rfl, rfl, w1⟩ := open_int Try.underlying3 (hval 1 3 v1 rfl rfl) h1
  have b1 : -9223372036854775808 ≤ a1 ∧ a1 ≤ 9223372036854775807 := by simpa [Lit.wf, IntKind.min, IntKind.max, IntKind.signed, IntKind.bits] using w1
  obtain ⟨a2, rfl, rfl, rfl, w2⟩ := open_int Try.underlying3 (hval 2 3 v2 rfl rfl) h2
  have b2 : -9223372036854775808 ≤ a2 ∧ a2 ≤ 9223372036854775807 := by simpa [Lit.wf, IntKind.min, IntKind.max, IntKind.signed, IntKind.bits] using w2
  have h0k := h0
  obtain ⟨fuel, hf⟩ := h0
  obtain ⟨c, hc1, hc2, hc3⟩ := cel_read fuel _ _ hf
  have hv0 : ∃ cs, v0 = .agg cs := by
    have := hval 0 26 v0 rfl rfl
    simp only [Value.okWide, Try.underlying26] at this
    obtain ⟨cs, h, _⟩ := this
    exact ⟨cs, h⟩
  obtain ⟨cs, rfl⟩ := hv0
  have hsz : c.size ≤ 1048576 := by
    have h := of_decide_eq_true hk
    simp only [List.append_nil, Rows.uptoBulkAll] at h
    simp only at hc3
    omega
  have hcall := (swapBesides_c c a1 a2 (fun _ => none) (by omega)).2 (oldF W) (fun _ => False) W #[.agg cs, .int .i64 a1, .int .i64 a2] (hrel0 W) ⟨_, _, rfl, ⟨cs, rfl, hc2, hc1⟩, _, _, rfl, rfl, _, _, rfl, rfl, rfl⟩
  refine hcall.mono ?_
  rintro e W' ⟨F', X', h', ie, ⟨rfl, _⟩, he, _, hkeep⟩
  cases e with
  | returned v =>
    obtain rfl : v = .bool true := he
    have hlt : ∀ x ∈ p0, x.block < W.heap.size := fun x hx => hW'.lt x (by simp [hx])
    refine ⟨_, rfl, _, _, _, [], p0 ++ ([] ++ ([] ++ [])), [], hW', trodAll_mk1 (shut_bool Try.underlying4 _), ?_, rfl, World.keptBut_mono (fun _ f => f.elim) (kept hkeep), fun h => nomatch h⟩
    rw [Try.params6]
    have h0' := WideElems.Trod_stays (by kernel_rfl : laidOutB Try.prog = true) (by kernel_rfl) (of_decide_eq_true (by kernel_rfl)) (sp' := fun b => decide (b < W.heap.size)) h0k (fun x hx => same_at hkeep (hlt x hx)) (fun x hx => by simpa using hlt x hx)
    exact trodAll_cons_mk h0' (trodAll_cons_mk (shut_int Try.underlying3 w1) (trodAll_cons_mk (shut_int Try.underlying3 w2) trodAll_mk0))
  | _ => exact he.elim

set_option maxRecDepth 100000 in
theorem lifted (os : Os) (started : os.Started) (H : Type) (enc : TypeId × Value → H) (F : Stop.Interp) :
    ReturnsInHanded {} Try.checked os 6 .any ((Rows.OpenSpec.upto Rows.swapBesidesSpec).pre6 enc Try.prog Try.f6 Rows.swapBesidesUptoRow.domain false) (((Rows.OpenSpec.upto Rows.swapBesidesSpec).at F).post enc Try.prog Try.f6 false true false false) := by
  refine returnsInHanded_of_cond (C := Try.checked) (s := Rows.OpenSpec.upto Rows.swapBesidesSpec) (k := Rows.uptoSmall) rfl own started (by kernel_rfl) Try.func6
    (OpenSpec.witness (enc := enc) (C := Try.checked) (s := Rows.OpenSpec.upto Rows.swapBesidesSpec) (k := Rows.uptoSmall) rfl false ⟨#[], #[.agg #[.int .u8 0, .int .i64 0, .int .i64 0, .int .i64 0, .int .i64 0, .int .i64 0, .slice none 0 0], .int .i64 0, .int .i64 0], []⟩ 8 (by kernel_rfl) (by kernel_rfl) (by kernel_rfl)
      (x := ([.agg [.lit (.int .u8 0), .agg [.lit (.int .i64 0), .lit (.int .i64 0), .lit (.int .i64 0), .lit (.int .i64 0)], .lit (.int .i64 0), .nil], .lit (.int .i64 0), .lit (.int .i64 0)], [], [])) (by kernel_rfl) rfl (by kernel_rfl)) ?_
  intro W base args ds gs before hval hW _ hk _
  exact contract H enc W base args ds gs before hval hW hk

theorem over : Rows.swapBesidesUptoRow.holds Try.pinned (Rows.OpenSpec.upto Rows.swapBesidesSpec) :=
  OpenClaim.holds_of_cond 6 Try.f6 rfl rfl rfl rfl rfl rfl rfl ⟨rfl, rfl, rfl, rfl, rfl⟩ rfl rfl rfl rfl rfl (by kernel_rfl) Try.func6 (by kernel_rfl)
    (of_decide_eq_true (by kernel_rfl)) (by unfold Func.isWrapper; first | (rw [if_pos (by decide +kernel)]; kernel_rfl) | (rw [if_neg (by decide +kernel)]; exact ⟨rfl, rfl⟩))
    (fun os started H enc _ F => lifted os started H enc F)

end Go.Proofs.Ytioeghodmfdceaa.swapBesides
namespace Go.Proofs.Ytioeghodmfdceaa
theorem swapBesides_proved : Rows.SwapBesidesUptoSaid := swapBesides.over
end Go.Proofs.Ytioeghodmfdceaa
