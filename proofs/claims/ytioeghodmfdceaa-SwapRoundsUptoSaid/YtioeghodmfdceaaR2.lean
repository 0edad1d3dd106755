/- This text proves Rows.SwapRoundsUptoSaid: any tree whose leaves go round by any number is the document's, or the error, and back again it is as it was. Conditions: none beyond those that the statement itself names. -/
import Derived.Test.YtioeghodmfdceaaR1
set_option linter.unusedVariables false
set_option linter.unusedSimpArgs false
namespace Go.Proofs.Ytioeghodmfdceaa.swapRounds
open Go.Idl Go.ChangeShapes Go.WideShapes Go.ChangeAt Go.RowKit Go.Proofs

theorem own : ownKnob Try.prog.godebug = none := by kernel_rfl

theorem hrel0 (W : World) : HRel (oldF W) (fun _ => False) (fun _ => none) W where
  hp b o h := by cases h
  xf b o h := h.elim
  xb b h := h.elim
  fb b o h := h

theorem kept {W W' : World} {F' X'} (hk : Keep (oldF W) (fun _ => False) W F' X' W') : W.keptBut W' (fun _ => False) := by
  refine ⟨hk.os, hk.out, fun i hi => ?_⟩
  rw [hk.ub i hi (fun h => h)]
  cases hb : W.heap[i]? with
  | none => rfl
  | some o => cases o <;> simp

theorem same_at {W W' : World} {F' X'} (hk : Keep (oldF W) (fun _ => False) W F' X' W') {p : MemPlace} (hp : p.block < W.heap.size) : W.sameAt W' p := by
  cases p with
  | cell b o => exact hk.fc b o hp
  | map b => exact hk.ub b hp (fun h => h)

set_option maxRecDepth 100000 in
theorem contract (H : Type) (enc : TypeId × Value → H) (W : World) (base : Nat) (args : Array Value) (ds gs : List (DataW H)) (before : List MemPlace)
    (hval : ∀ (j : Nat) t v, Try.f3.params[j]? = some t → args[j]? = some v → Value.okWide Try.prog W .any base t v)
    (hW : DataW.Whole enc Try.prog Try.f3.params.toList Rows.swapRoundsSpec.vars false W args.toList ds gs before) (hk : Rows.uptoSmall H (ds ++ gs) = true) :
    Calls Try.prog 3 args W fun e W' => ∃ v, e = .returned v ∧ Rows.swapRoundsSpec.post enc Try.prog Try.f3 false true false false W args v W' := by
  have hW' := hW
  obtain ⟨p, q, hA0, hV, rfl, hfz, hnd⟩ := hW
  have hA : DataW.TrodAll enc Try.prog W 0 (fun _ => true) true Try.f3.params.toList args.toList ds p := hA0
  rw [Try.params3] at hA hval
  obtain ⟨v0, v1, d0, d1, p0, p1, rfl, rfl, rfl, h0, h1⟩ := trodAll_two hA
  obtain ⟨rfl, rfl⟩ := trodVars_none hV
  obtain ⟨by_, rfl, rfl, rfl, w1⟩ := open_int Try.underlying3 (hval 1 3 v1 rfl rfl) h1
  have hb : -9223372036854775808 ≤ by_ ∧ by_ ≤ 9223372036854775807 := by simpa [Lit.wf, IntKind.min, IntKind.max, IntKind.signed, IntKind.bits] using w1
  have h0k := h0
  obtain ⟨fuel, hf⟩ := h0
  obtain ⟨c, hc1, hc2, hc3⟩ := cel_read fuel _ _ hf
  have hv0 : ∃ cs, v0 = .agg cs := by
    have := hval 0 26 v0 rfl rfl
    simp only [Value.okWide, Try.underlying26] at this
    obtain ⟨cs, h, _⟩ := this
    exact ⟨cs, h⟩
  obtain ⟨cs, rfl⟩ := hv0
  have hsz : c.size ≤ 1048576 := by
    have h := of_decide_eq_true hk
    simp only [List.append_nil, Rows.uptoBulkAll] at h
    simp only at hc3
    omega
  have hcall := (swapRounds_c c by_ (fun _ => none) (by omega) hb.1 hb.2).2 (oldF W) (fun _ => False) W #[.agg cs, .int .i64 by_] (hrel0 W) ⟨_, _, rfl, ⟨cs, rfl, hc2, hc1⟩, _, _, rfl, rfl, rfl⟩
  refine hcall.mono ?_
  rintro e W' ⟨F', X', h', ie, ⟨rfl, _⟩, he, _, hkeep⟩
  cases e with
  | returned v =>
    obtain rfl : v = .bool true := he
    have hlt : ∀ x ∈ (p0 ++ [] ++ ([] : List MemPlace)), x.block < W.heap.size := hW'.lt
    refine ⟨_, rfl, _, _, _, [], p0 ++ [], [], hW', trodAll_mk1 (shut_bool Try.underlying4 _), ?_, rfl, World.keptBut_mono (fun _ f => f.elim) (kept hkeep), fun h => nomatch h⟩
    rw [Try.params3]
    exact trodAll_mk2 (WideElems.Trod_stays (by kernel_rfl) (by kernel_rfl) (of_decide_eq_true (by kernel_rfl)) h0k (fun x hx => same_at hkeep (hlt x (by simp [hx]))) (fun x hx => by simpa using hlt x (by simp [hx]))) (shut_int Try.underlying3 w1)
  | _ => exact he.elim

set_option maxRecDepth 100000 in
theorem lifted (os : Os) (started : os.Started) (H : Type) (enc : TypeId × Value → H) (F : Stop.Interp) :
    ReturnsInHanded {} Try.checked os 3 .any ((Rows.OpenSpec.upto Rows.swapRoundsSpec).pre6 enc Try.prog Try.f3 Rows.swapRoundsUptoRow.domain false) (((Rows.OpenSpec.upto Rows.swapRoundsSpec).at F).post enc Try.prog Try.f3 false true false false) := by
  refine returnsInHanded_of_cond (C := Try.checked) (s := Rows.OpenSpec.upto Rows.swapRoundsSpec) (k := Rows.uptoSmall) rfl own started (by kernel_rfl) Try.func3
    (OpenSpec.witness (enc := enc) (C := Try.checked) (s := Rows.OpenSpec.upto Rows.swapRoundsSpec) (k := Rows.uptoSmall) rfl false ⟨#[], #[.agg #[.int .u8 0, .int .i64 0, .int .i64 0, .int .i64 0, .int .i64 0, .int .i64 0, .slice none 0 0], .int .i64 0], []⟩ 8 (by kernel_rfl) (by kernel_rfl) (by kernel_rfl)
      (x := ([.agg [.lit (.int .u8 0), .agg [.lit (.int .i64 0), .lit (.int .i64 0), .lit (.int .i64 0), .lit (.int .i64 0)], .lit (.int .i64 0), .nil], .lit (.int .i64 0)], [], [])) (by kernel_rfl) rfl (by kernel_rfl)) ?_
  intro W base args ds gs before hval hW _ hk _
  exact contract H enc W base args ds gs before hval hW hk

theorem over : Rows.swapRoundsUptoRow.holds Try.pinned (Rows.OpenSpec.upto Rows.swapRoundsSpec) :=
  OpenClaim.holds_of_cond 3 Try.f3 rfl rfl rfl rfl rfl rfl rfl ⟨rfl, rfl, rfl, rfl, rfl⟩ rfl rfl rfl rfl rfl (by kernel_rfl) Try.func3 (by kernel_rfl)
    (of_decide_eq_true (by kernel_rfl)) (by unfold Func.isWrapper; first | (rw [if_pos (by decide +kernel)]; kernel_rfl) | (rw [if_neg (by decide +kernel)]; exact ⟨rfl, rfl⟩))
    (fun os started H enc _ F => lifted os started H enc F)

end Go.Proofs.Ytioeghodmfdceaa.swapRounds
namespace Go.Proofs.Ytioeghodmfdceaa
theorem swapRounds_proved : Rows.SwapRoundsUptoSaid := swapRounds.over
end Go.Proofs.Ytioeghodmfdceaa
