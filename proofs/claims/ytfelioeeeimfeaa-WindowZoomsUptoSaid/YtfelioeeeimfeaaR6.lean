/- This text proves Rows.WindowZoomsUptoSaid: a window that is zoomed twice by the same pane has its panes, and its tree, as they were (the law answers true at every input). Conditions: none beyond those that the statement itself names. -/
import Derived.Test.YtfelioeeeimfeaaR1
import Derived.Test.YtfelioeeeimfeaaD7
set_option linter.unusedVariables false
set_option linter.unusedSimpArgs false
namespace Go.Proofs.Ytfelioeeeimfeaa.windowZooms
open Go.Idl Go.ChangeShapes Go.WideShapes Go.ChangeAt Go.RowKit Go.Proofs
open Go.Proofs.Ytfelioeeeimfeaa.Rows (uptoBulk uptoBulkAll)

theorem own : ownKnob Try.prog.godebug = none := by kernel_rfl

theorem list3 {α : Type} {l : List α} (h : l.length = 3) : ∃ a b c, l = [a, b, c] := by
  match l, h with
  | [a, b, c], _ => exact ⟨a, b, c, rfl⟩
theorem list9 {α : Type} {l : List α} (h : l.length = 9) : ∃ a b c d e f g i j, l = [a, b, c, d, e, f, g, i, j] := by
  match l, h with
  | [a, b, c, d, e, f, g, i, j], _ => exact ⟨a, b, c, d, e, f, g, i, j, rfl⟩

set_option maxRecDepth 20000 in
theorem wn_read {H : Type} {enc : TypeId × Value → H} {W : World} {fuel : Nat} {cs : List Value} {x : DataW H × List MemPlace} (h : DataW.trod enc Try.prog W 0 (fun _ => true) true fuel 28 cs = some x) :
    ∃ w : Wn, RepAll (oldF W) W w.row cs ∧ (∀ u ∈ cs, u.oneCell' = true) ∧ w.tree.size ≤ uptoBulk x.1 := by
  obtain ⟨xs, n, _, rfl, hl, hlen, hf⟩ := DataW.trod_struct Try.underlying28 h
  have hl9 : cs.length = 9 := by rw [hl]; kernel_rfl
  obtain ⟨c0, c1, c2, c3, c4, c5, c6, c7, c8, rfl⟩ := list9 hl9
  obtain ⟨y0, y1, y2, rfl⟩ := list3 (l := xs) hlen
  have e1 : Try.prog.cellsOf 3 = 1 := by kernel_rfl
  have e2 : Try.prog.cellsOf 4 = 1 := by kernel_rfl
  have e3 : Try.prog.cellsOf 26 = 7 := by kernel_rfl
  have f0 : DataW.trod enc Try.prog W 0 (fun _ => true) true n 26 ((([c0, c1, c2, c3, c4, c5, c6, c7, c8] : List Value).drop 0).take (Try.prog.cellsOf 26)) = [y0, y1, y2][0]? := hf 0 _ rfl
  rw [e3] at f0
  have f1 : DataW.trod enc Try.prog W 0 (fun _ => true) true n 3 ((([c0, c1, c2, c3, c4, c5, c6, c7, c8] : List Value).drop 7).take (Try.prog.cellsOf 3)) = [y0, y1, y2][1]? := hf 1 _ rfl
  rw [e1] at f1
  have f2 : DataW.trod enc Try.prog W 0 (fun _ => true) true n 4 ((([c0, c1, c2, c3, c4, c5, c6, c7, c8] : List Value).drop 8).take (Try.prog.cellsOf 4)) = [y0, y1, y2][2]? := hf 2 _ rfl
  rw [e2] at f2
  simp only [List.drop_zero, List.drop_succ_cons, List.take_succ_cons, List.take_zero, List.getElem?_cons_zero, List.getElem?_cons_succ] at f0 f1 f2
  obtain ⟨act, ha, _⟩ := DataW.trod_int Try.underlying3 f1
  obtain ⟨z, hz, _⟩ := DataW.trod_bool Try.underlying4 f2
  simp at ha hz
  subst ha; subst hz
  obtain ⟨c, hc1, hc2, hc3⟩ := cel_read _ _ _ f0
  refine ⟨⟨c, act, z⟩, ?_, ?_, ?_⟩
  · have : RepAll (oldF W) W [IV.int .i64 act, .bool z] [.int .i64 act, .bool z] := ⟨_, _, rfl, rfl, _, _, rfl, rfl, rfl⟩
    exact hc1.append this
  · intro u hu
    have : u ∈ [c0, c1, c2, c3, c4, c5, c6] ++ [Value.int .i64 act, .bool z] := by simpa using hu
    rcases List.mem_append.1 this with hu | hu
    · exact hc2 u hu
    · simp at hu
      rcases hu with rfl | rfl <;> rfl
  · simp only [uptoBulk, uptoBulkAll, List.map_cons, List.map_nil]
    omega

set_option maxRecDepth 100000 in
theorem contract (H : Type) (enc : TypeId × Value → H) (W : World) (base : Nat) (args : Array Value) (ds gs : List (DataW H)) (before : List MemPlace)
    (hval : ∀ (j : Nat) t v, Try.f3.params[j]? = some t → args[j]? = some v → Value.okWide Try.prog W .any base t v)
    (hW : DataW.Whole enc Try.prog Try.f3.params.toList Rows.windowZoomsSpec.vars false W args.toList ds gs before) (hk : Rows.uptoSmall H (ds ++ gs) = true) :
    Calls Try.prog 3 args W fun e W' => ∃ v, e = .returned v ∧ Rows.windowZoomsSpec.post enc Try.prog Try.f3 false true false false W args v W' := by
  have hW' := hW
  obtain ⟨p, q, hA0, hV, rfl, hfz, hnd⟩ := hW
  have hA : DataW.TrodAll enc Try.prog W 0 (fun _ => true) true Try.f3.params.toList args.toList ds p := hA0
  rw [Try.params3] at hA hval
  obtain ⟨v0, v1, d0, d1, p0, p1, rfl, rfl, rfl, h0, h1⟩ := trodAll_two hA
  obtain ⟨rfl, rfl⟩ := trodVars_none hV
  obtain ⟨by_, rfl, rfl, rfl, w1⟩ := open_int Try.underlying3 (hval 1 3 v1 rfl rfl) h1
  have hb : -9223372036854775808 ≤ by_ ∧ by_ ≤ 9223372036854775807 := by simpa [Lit.wf, IntKind.min, IntKind.max, IntKind.signed, IntKind.bits] using w1
  have h0k := h0
  obtain ⟨fuel, hf⟩ := h0
  obtain ⟨c, hc1, hc2, hc3⟩ := wn_read hf
  have hv0 : ∃ cs, v0 = .agg cs := by
    have := hval 0 28 v0 rfl rfl
    simp only [Value.okWide, Try.underlying28] at this
    obtain ⟨cs, h, _⟩ := this
    exact ⟨cs, h⟩
  obtain ⟨cs, rfl⟩ := hv0
  have hsz : c.tree.size ≤ 1048576 := by
    have h := of_decide_eq_true hk
    simp only [List.append_nil, Rows.uptoBulkAll] at h
    simp only at hc3
    omega
  have hcall := (windowZooms_c c by_ (fun _ => none) (by omega)).2 (oldF W) (fun _ => False) W #[.agg cs, .int .i64 by_] (hrel0 W) ⟨_, _, rfl, ⟨cs, rfl, hc2, hc1⟩, _, _, rfl, rfl, rfl⟩
  refine hcall.mono ?_
  rintro e W' ⟨F', X', h', ie, ⟨rfl, _⟩, he, _, hkeep⟩
  cases e with
  | returned v =>
    obtain rfl : v = .bool true := he
    have hlt : ∀ x ∈ (p0 ++ [] ++ ([] : List MemPlace)), x.block < W.heap.size := hW'.lt
    refine ⟨_, rfl, _, _, _, [], p0 ++ [], [], hW', trodAll_mk1 (shut_bool Try.underlying4 _), ?_, rfl, World.keptBut_mono (fun _ f => f.elim) (kept hkeep), fun h => nomatch h⟩
    rw [Try.params3]
    exact trodAll_mk2 (WideElems.Trod_stays (by kernel_rfl) (by kernel_rfl) (of_decide_eq_true (by kernel_rfl)) h0k (fun x hx => same_at hkeep (hlt x (by simp [hx]))) (fun x hx => by simpa using hlt x (by simp [hx]))) (shut_int Try.underlying3 w1)
  | _ => exact he.elim

set_option maxRecDepth 100000 in
theorem lifted (os : Os) (started : os.Started) (H : Type) (enc : TypeId × Value → H) (F : Stop.Interp) :
    ReturnsInHanded {} Try.checked os 3 .any ((Rows.OpenSpec.upto Rows.windowZoomsSpec).pre6 enc Try.prog Try.f3 Rows.windowZoomsUptoRow.domain false) (((Rows.OpenSpec.upto Rows.windowZoomsSpec).at F).post enc Try.prog Try.f3 false true false false) := by
  refine returnsInHanded_of_cond (C := Try.checked) (s := Rows.OpenSpec.upto Rows.windowZoomsSpec) (k := Rows.uptoSmall) rfl own started (by kernel_rfl) Try.func3
    (OpenSpec.witness (enc := enc) (C := Try.checked) (s := Rows.OpenSpec.upto Rows.windowZoomsSpec) (k := Rows.uptoSmall) rfl false ⟨#[], #[.agg #[.int .u8 0, .int .i64 0, .int .i64 0, .int .i64 0, .int .i64 0, .int .i64 0, .slice none 0 0, .int .i64 0, .bool false], .int .i64 0], []⟩ 8 (by kernel_rfl) (by kernel_rfl) (by kernel_rfl)
      (x := ([.agg [.agg [.lit (.int .u8 0), .agg [.lit (.int .i64 0), .lit (.int .i64 0), .lit (.int .i64 0), .lit (.int .i64 0)], .lit (.int .i64 0), .nil], .lit (.int .i64 0), .lit (.bool false)], .lit (.int .i64 0)], [], [])) (by kernel_rfl) rfl (by kernel_rfl)) ?_
  intro W base args ds gs before hval hW _ hk _
  exact contract H enc W base args ds gs before hval hW hk

theorem over : Rows.windowZoomsUptoRow.holds Try.pinned (Rows.OpenSpec.upto Rows.windowZoomsSpec) :=
  OpenClaim.holds_of_cond 3 Try.f3 rfl rfl rfl rfl rfl rfl rfl ⟨rfl, rfl, rfl, rfl, rfl⟩ rfl rfl rfl rfl rfl (by kernel_rfl) Try.func3 (by kernel_rfl)
    (of_decide_eq_true (by kernel_rfl)) (by unfold Func.isWrapper; first | (rw [if_pos (by decide +kernel)]; kernel_rfl) | (rw [if_neg (by decide +kernel)]; exact ⟨rfl, rfl⟩))
    (fun os started H enc _ F => lifted os started H enc F)

end Go.Proofs.Ytfelioeeeimfeaa.windowZooms
namespace Go.Proofs.Ytfelioeeeimfeaa
theorem windowZooms_proved : Rows.WindowZoomsUptoSaid := windowZooms.over
end Go.Proofs.Ytfelioeeeimfeaa
