/- This text proves Rows.WindowChangesUptoSaid: the law WindowChanges answers true at every window, every cell, every axis and all numbers, as far as the sizes that the statement names. Conditions: none beyond those that the statement itself names. -/
import Derived.Test.YtghpaalcedgcaaaGreatR1
import Derived.Test.YtghpaalcedgcaaaGreatWA
set_option linter.unusedVariables false
set_option linter.unusedSimpArgs false
namespace Go.Proofs.YtghpaalcedgcaaaGreat.windowChanges
open Go.Idl Go.ChangeShapes Go.WideShapes Go.ChangeAt Go.RowKit Go.Proofs
open Go.Proofs.YtghpaalcedgcaaaGreat.Rows (uptoBulk uptoBulkAll)

theorem own : ownKnob Tryz.prog.godebug = none := by kernel_rfl

theorem list3 {α : Type} {l : List α} (h : l.length = 3) : ∃ a b c, l = [a, b, c] := by
  match l, h with
  | [a, b, c], _ => exact ⟨a, b, c, rfl⟩
theorem list9 {α : Type} {l : List α} (h : l.length = 9) : ∃ a b c d e f g i j, l = [a, b, c, d, e, f, g, i, j] := by
  match l, h with
  | [a, b, c, d, e, f, g, i, j], _ => exact ⟨a, b, c, d, e, f, g, i, j, rfl⟩

set_option maxRecDepth 20000 in
theorem wn_read {H : Type} {enc : TypeId × Value → H} {W : World} {fuel : Nat} {cs : List Value} {x : DataW H × List MemPlace} (h : DataW.trod enc Tryz.prog W 0 (fun _ => true) true fuel 28 cs = some x) :
    ∃ w : Wn, RepAll (oldF W) W w.row cs ∧ (∀ u ∈ cs, u.oneCell' = true) ∧ w.tree.size ≤ uptoBulk x.1 := by
  obtain ⟨xs, n, _, rfl, hl, hlen, hf⟩ := DataW.trod_struct Tryz.underlying28 h
  have hl9 : cs.length = 9 := by rw [hl]; kernel_rfl
  obtain ⟨c0, c1, c2, c3, c4, c5, c6, c7, c8, rfl⟩ := list9 hl9
  obtain ⟨y0, y1, y2, rfl⟩ := list3 (l := xs) hlen
  have e1 : Tryz.prog.cellsOf 3 = 1 := by kernel_rfl
  have e2 : Tryz.prog.cellsOf 4 = 1 := by kernel_rfl
  have e3 : Tryz.prog.cellsOf 26 = 7 := by kernel_rfl
  have f0 : DataW.trod enc Tryz.prog W 0 (fun _ => true) true n 26 ((([c0, c1, c2, c3, c4, c5, c6, c7, c8] : List Value).drop 0).take (Tryz.prog.cellsOf 26)) = [y0, y1, y2][0]? := hf 0 _ rfl
  rw [e3] at f0
  have f1 : DataW.trod enc Tryz.prog W 0 (fun _ => true) true n 3 ((([c0, c1, c2, c3, c4, c5, c6, c7, c8] : List Value).drop 7).take (Tryz.prog.cellsOf 3)) = [y0, y1, y2][1]? := hf 1 _ rfl
  rw [e1] at f1
  have f2 : DataW.trod enc Tryz.prog W 0 (fun _ => true) true n 4 ((([c0, c1, c2, c3, c4, c5, c6, c7, c8] : List Value).drop 8).take (Tryz.prog.cellsOf 4)) = [y0, y1, y2][2]? := hf 2 _ rfl
  rw [e2] at f2
  simp only [List.drop_zero, List.drop_succ_cons, List.take_succ_cons, List.take_zero, List.getElem?_cons_zero, List.getElem?_cons_succ] at f0 f1 f2
  obtain ⟨act, ha, _⟩ := DataW.trod_int Tryz.underlying3 f1
  obtain ⟨z, hz, _⟩ := DataW.trod_bool Tryz.underlying4 f2
  simp at ha hz
  subst ha; subst hz
  obtain ⟨c, hc1, hc2, hc3⟩ := cel_read _ _ _ f0
  refine ⟨⟨c, act, z⟩, ?_, ?_, ?_⟩
  · have : RepAll (oldF W) W [IV.int .i64 act, .bool z] [.int .i64 act, .bool z] := ⟨_, _, rfl, rfl, _, _, rfl, rfl, rfl⟩
    exact hc1.append this
  · intro u hu
    have : u ∈ [c0, c1, c2, c3, c4, c5, c6] ++ [Value.int .i64 act, .bool z] := by simpa using hu
    rcases List.mem_append.1 this with hu | hu
    · exact hc2 u hu
    · simp at hu
      rcases hu with rfl | rfl <;> rfl
  · simp only [uptoBulk, uptoBulkAll, List.map_cons, List.map_nil]
    omega

set_option maxRecDepth 100000 in
theorem contract (H : Type) (enc : TypeId × Value → H) (W : World) (base : Nat) (args : Array Value) (ds gs : List (DataW H)) (before : List MemPlace)
    (hval : ∀ (j : Nat) t v, Tryz.f3.params[j]? = some t → args[j]? = some v → Value.okWide Tryz.prog W .any base t v)
    (hW : DataW.Whole enc Tryz.prog Tryz.f3.params.toList Rows.windowChangesSpec.vars false W args.toList ds gs before) (hk : Rows.uptoSmall H (ds ++ gs) = true) :
    Calls Tryz.prog 3 args W fun e W' => ∃ v, e = .returned v ∧ Rows.windowChangesSpec.post enc Tryz.prog Tryz.f3 false true false false W args v W' := by
  have hW' := hW
  obtain ⟨p, q, hA0, hV, rfl, hfz, hnd⟩ := hW
  have hA : DataW.TrodAll enc Tryz.prog W 0 (fun _ => true) true Tryz.f3.params.toList args.toList ds p := hA0
  rw [Tryz.params3] at hA hval
  obtain ⟨v0, vs0, d0, ds0, p0, q0, hargs, rfl, rfl, h0, r0⟩ := trodAll_cons hA
  obtain ⟨v1, vs1, d1, ds1, p1, q1, rfl, rfl, rfl, h1, r1⟩ := trodAll_cons r0
  obtain ⟨v2, vs2, d2, ds2, p2, q2, rfl, rfl, rfl, h2, r2⟩ := trodAll_cons r1
  obtain ⟨v3, vs3, d3, ds3, p3, q3, rfl, rfl, rfl, h3, r3⟩ := trodAll_cons r2
  obtain ⟨v4, vs4, d4, ds4, p4, q4, rfl, rfl, rfl, h4, r4⟩ := trodAll_cons r3
  obtain ⟨v5, vs5, d5, ds5, p5, q5, rfl, rfl, rfl, h5, r5⟩ := trodAll_cons r4
  obtain ⟨rfl, rfl, rfl⟩ := trodAll_nil r5
  obtain rfl : args = #[v0, v1, v2, v3, v4, v5] := by cases args; simp_all
  obtain ⟨rfl, rfl⟩ := trodVars_none hV
  obtain ⟨a, rfl, rfl, rfl, w2⟩ := open_int Tryz.underlying5 (hval 2 5 v2 rfl rfl) h2
  obtain ⟨ww, rfl, rfl, rfl, w3⟩ := open_int Tryz.underlying3 (hval 3 3 v3 rfl rfl) h3
  obtain ⟨hh, rfl, rfl, rfl, w4⟩ := open_int Tryz.underlying3 (hval 4 3 v4 rfl rfl) h4
  obtain ⟨id, rfl, rfl, rfl, w5⟩ := open_int Tryz.underlying3 (hval 5 3 v5 rfl rfl) h5
  have ha : 0 ≤ a ∧ a ≤ 255 := by simpa [Lit.wf, IntKind.min, IntKind.max, IntKind.signed, IntKind.bits] using w2
  have h0k := h0
  obtain ⟨fuel, hf⟩ := h0
  obtain ⟨w, hw1, hw2, hw3⟩ := wn_read hf
  have hv0 : ∃ cs, v0 = .agg cs := by
    have := hval 0 28 v0 rfl rfl
    simp only [Value.okWide, Tryz.underlying28] at this
    obtain ⟨cs, h, _⟩ := this
    exact ⟨cs, h⟩
  obtain ⟨cs, rfl⟩ := hv0
  have h1k := h1
  obtain ⟨fuel1, hf1⟩ := h1
  obtain ⟨c, hc1, hc2, hc3⟩ := cel_read fuel1 _ _ hf1
  have hv1 : ∃ cs, v1 = .agg cs := by
    have := hval 1 26 v1 rfl rfl
    simp only [Value.okWide, Tryz.underlying26] at this
    obtain ⟨cs, h, _⟩ := this
    exact ⟨cs, h⟩
  obtain ⟨cs1, rfl⟩ := hv1
  have hsz : w.tree.size ≤ 1048576 ∧ c.size ≤ 1048576 := by
    have h := of_decide_eq_true hk
    simp only [List.append_nil, Rows.uptoBulkAll] at h
    simp only at hw3 hc3
    omega
  have hcall := (windowChanges_c w c a ww hh id ha (fun _ => none) (by omega) (by omega)).2 (oldF W) (fun _ => False) W #[.agg cs, .agg cs1, .int .u8 a, .int .i64 ww, .int .i64 hh, .int .i64 id] (hrel0 W) ⟨_, _, rfl, ⟨cs, rfl, hw2, hw1⟩, _, _, rfl, ⟨cs1, rfl, hc2, hc1⟩, _, _, rfl, rfl, _, _, rfl, rfl, _, _, rfl, rfl, _, _, rfl, rfl, rfl⟩
  refine hcall.mono ?_
  rintro e W' ⟨F', X', h', ie, ⟨rfl, _⟩, he, _, hkeep⟩
  cases e with
  | returned v =>
    obtain rfl : v = .bool true := he
    have hlt : ∀ x ∈ p0 ++ p1, x.block < W.heap.size := fun x hx => hW'.lt x (by simpa using hx)
    refine ⟨_, rfl, _, _, _, [], p0 ++ (p1 ++ ([] ++ ([] ++ ([] ++ ([] ++ []))))), [], hW', trodAll_mk1 (shut_bool Tryz.underlying4 _), ?_, rfl, World.keptBut_mono (fun _ f => f.elim) (kept hkeep), fun h => nomatch h⟩
    rw [Tryz.params3]
    have h0' := WideElems.Trod_stays (by kernel_rfl : laidOutB Tryz.prog = true) (by kernel_rfl) (of_decide_eq_true (by kernel_rfl)) (sp' := fun b => decide (b < W.heap.size)) h0k (fun x hx => same_at hkeep (hlt x (by simp [hx]))) (fun x hx => by simpa using hlt x (by simp [hx]))
    have h1' := WideElems.Trod_stays (by kernel_rfl : laidOutB Tryz.prog = true) (by kernel_rfl) (of_decide_eq_true (by kernel_rfl)) (sp' := fun b => decide (b < W.heap.size)) h1k (fun x hx => same_at hkeep (hlt x (by simp [hx]))) (fun x hx => by simpa using hlt x (by simp [hx]))
    exact trodAll_cons_mk h0' (trodAll_cons_mk h1' (trodAll_cons_mk (shut_int Tryz.underlying5 w2) (trodAll_cons_mk (shut_int Tryz.underlying3 w3) (trodAll_cons_mk (shut_int Tryz.underlying3 w4) (trodAll_cons_mk (shut_int Tryz.underlying3 w5) trodAll_mk0)))))
  | _ => exact he.elim

set_option maxRecDepth 100000 in
theorem lifted (os : Os) (started : os.Started) (H : Type) (enc : TypeId × Value → H) (F : Stop.Interp) :
    ReturnsInHanded {} Tryz.checked os 3 .any ((Rows.OpenSpec.upto Rows.windowChangesSpec).pre6 enc Tryz.prog Tryz.f3 Rows.windowChangesUptoRow.domain false) (((Rows.OpenSpec.upto Rows.windowChangesSpec).at F).post enc Tryz.prog Tryz.f3 false true false false) := by
  refine returnsInHanded_of_cond (C := Tryz.checked) (s := Rows.OpenSpec.upto Rows.windowChangesSpec) (k := Rows.uptoSmall) rfl own started (by kernel_rfl) Tryz.func3
    (OpenSpec.witness (enc := enc) (C := Tryz.checked) (s := Rows.OpenSpec.upto Rows.windowChangesSpec) (k := Rows.uptoSmall) rfl false ⟨#[], #[.agg #[.int .u8 0, .int .i64 0, .int .i64 0, .int .i64 0, .int .i64 0, .int .i64 0, .slice none 0 0, .int .i64 0, .bool false], .agg #[.int .u8 0, .int .i64 0, .int .i64 0, .int .i64 0, .int .i64 0, .int .i64 0, .slice none 0 0], .int .u8 0, .int .i64 0, .int .i64 0, .int .i64 0], []⟩ 8 (by kernel_rfl) (by kernel_rfl) (by kernel_rfl)
      (x := ([.agg [.agg [.lit (.int .u8 0), .agg [.lit (.int .i64 0), .lit (.int .i64 0), .lit (.int .i64 0), .lit (.int .i64 0)], .lit (.int .i64 0), .nil], .lit (.int .i64 0), .lit (.bool false)], .agg [.lit (.int .u8 0), .agg [.lit (.int .i64 0), .lit (.int .i64 0), .lit (.int .i64 0), .lit (.int .i64 0)], .lit (.int .i64 0), .nil], .lit (.int .u8 0), .lit (.int .i64 0), .lit (.int .i64 0), .lit (.int .i64 0)], [], [])) (by kernel_rfl) rfl (by kernel_rfl)) ?_
  intro W base args ds gs before hval hW _ hk _
  exact contract H enc W base args ds gs before hval hW hk

theorem over : Rows.windowChangesUptoRow.holds Tryz.pinned (Rows.OpenSpec.upto Rows.windowChangesSpec) :=
  OpenClaim.holds_of_cond 3 Tryz.f3 rfl rfl rfl rfl rfl rfl rfl ⟨rfl, rfl, rfl, rfl, rfl⟩ rfl rfl rfl rfl rfl (by kernel_rfl) Tryz.func3 (by kernel_rfl)
    (of_decide_eq_true (by kernel_rfl)) (by unfold Func.isWrapper; first | (rw [if_pos (by decide +kernel)]; kernel_rfl) | (rw [if_neg (by decide +kernel)]; exact ⟨rfl, rfl⟩))
    (fun os started H enc _ F => lifted os started H enc F)

end Go.Proofs.YtghpaalcedgcaaaGreat.windowChanges
namespace Go.Proofs.YtghpaalcedgcaaaGreat
theorem windowChanges_proved : Rows.WindowChangesUptoSaid := windowChanges.over
end Go.Proofs.YtghpaalcedgcaaaGreat
