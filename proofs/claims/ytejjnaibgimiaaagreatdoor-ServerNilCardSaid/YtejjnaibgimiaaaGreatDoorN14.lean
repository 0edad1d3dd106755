/- This text proves Rows.ServerNilCardSaid: a nil server has no clients, answers the errors that the document says, and the document's example holds, for any number and any list of numbers. Conditions: none beyond those that the statement itself names. -/
import Derived.Test.YtejjnaibgimiaaaGreatDoorT9
import Derived.Test.YtejjnaibgimiaaaGreatDoorT2
set_option linter.unusedVariables false
set_option linter.unusedSimpArgs false
namespace Go.Proofs.YtejjnaibgimiaaaGreatDoor.serverNil
open Go.Idl Go.ChangeShapes Go.WideShapes Go.ChangeAt Go.RowKit Go.Proofs

set_option maxRecDepth 100000 in
theorem contract (H : Type) (enc : TypeId × Value → H) (W : World) (base : Nat) (args : Array Value) (ds gs : List (DataW H)) (before : List MemPlace)
    (hval : ∀ (j : Nat) t v, Tryz.f5.params[j]? = some t → args[j]? = some v → Value.okWide Tryz.prog W .any base t v)
    (hW : DataW.Whole enc Tryz.prog Tryz.f5.params.toList Rows.serverNilSpec.vars false W args.toList ds gs before) (hL : laidMetH Tryz.prog laidL W) :
    Calls Tryz.prog 5 args W fun e W' => ∃ v, e = .returned v ∧ Rows.serverNilSpec.post enc Tryz.prog Tryz.f5 false true false false W args v W' := by
  have hW' := hW
  obtain ⟨p, q, hA0, hV, rfl, hfz, hnd⟩ := hW
  have hA : DataW.TrodAll enc Tryz.prog W 0 (fun _ => true) true Tryz.f5.params.toList args.toList ds p := hA0
  rw [Tryz.params5] at hA hval
  obtain ⟨v1, vs1, d1, ds1, p1, q1, hargs, rfl, rfl, h1, r1⟩ := trodAll_cons hA
  obtain ⟨v2, vs2, d2, ds2, p2, q2, rfl, rfl, rfl, h2, r2⟩ := trodAll_cons r1
  obtain ⟨rfl, rfl, rfl⟩ := trodAll_nil r2
  obtain rfl : args = #[v1, v2] := by cases args; simp_all
  obtain ⟨rfl, rfl⟩ := trodVars_none hV
  obtain ⟨a1, rfl, rfl, rfl, w1⟩ := open_int Tryz.underlying3 (hval 0 3 v1 rfl rfl) h1
  have b1 : -9223372036854775808 ≤ a1 ∧ a1 ≤ 9223372036854775807 := by simpa [Lit.wf, IntKind.min, IntKind.max, IntKind.signed, IntKind.bits] using w1
  obtain ⟨l2, hr2, hl2⟩ := sl_arg intRow Tryz.underlying33 (z := 1) (by kernel_rfl) (by omega) ints_el (hval 1 33 v2 rfl rfl) h2
  have hcall := (srvNil_c a1 l2 hT).2 (oldF W) (fun _ => False) W #[.int .i64 a1, v2] (hrelT hL) ⟨_, _, rfl, rfl, _, _, rfl, hr2, rfl⟩
  refine hcall.mono ?_
  rintro e W' ⟨F', X', h', ie, ⟨rfl, _⟩, he, _, hkeep⟩
  cases e with
  | returned v =>
    obtain rfl : v = .bool true := he
    have hlt : ∀ x ∈ (([] ++ (p2 ++ [])) ++ [] : List MemPlace), x.block < W.heap.size := fun x hx => hW'.lt x (by simpa using hx)
    refine ⟨_, rfl, _, _, _, [], ([] ++ (p2 ++ [])), [], hW', trodAll_mk1 (shut_bool Tryz.underlying4 _), ?_, rfl, World.keptBut_mono (fun _ f => f.elim) (kept hkeep), fun h => nomatch h⟩
    rw [Tryz.params5]
    exact (trodAll_cons_mk (shut_int Tryz.underlying3 w1) (trodAll_cons_mk (WideElems.Trod_stays (by kernel_rfl : laidOutB Tryz.prog = true) (by kernel_rfl) (of_decide_eq_true (by kernel_rfl)) (sp' := fun b => decide (b < W.heap.size)) h2 (fun x hx => same_at hkeep (hlt x (by simp [hx]))) (fun x hx => by simpa using hlt x (by simp [hx]))) trodAll_mk0))
  | _ => exact he.elim

set_option maxRecDepth 100000 in
theorem lifted (os : Os) (started : os.Started) (H : Type) (enc : TypeId × Value → H) :
    ReturnsInHanded {} Tryz.checked os 5 .any (fun w args => (Rows.serverNilSpec.pre enc Tryz.prog Tryz.f5 [] false w args ∧ laidMetH Tryz.prog laidL w) ∧ sizedMet enc Tryz.prog Tryz.f5 (OpenSpec.ofChange Rows.serverNilSpec) false w args)
      (Rows.serverNilSpec.post enc Tryz.prog Tryz.f5 false true false false) := by
  refine returnsInHanded_of_change_and (C := Tryz.checked) (s := Rows.serverNilSpec) (X := fun w _ => laidMetH Tryz.prog laidL w) (fun _ _ _ hh h => h.of_heap hh) own started (by kernel_rfl) Tryz.func5
    (ChangeSpec.witness_at (enc := enc) (C := Tryz.checked) (os := os) (X := fun w _ => laidMetH Tryz.prog laidL w) false (laidW os) #[.int .i64 0, .slice none 0 0] 8 (laidW_os os) (by kernel_rfl) (by kernel_rfl) (by kernel_rfl) (by kernel_rfl) (by kernel_rfl) (laidW_in os _)) ?_
  intro W base args ds gs before hval hW _ _ hL _
  exact contract H enc W base args ds gs before hval hW hL
theorem k11 : Tryz.prog.unfollowed 5 = true := by kernel_rfl
theorem k12 : Tryz.prog.recurses 5 = true := by unfold Program.recurses; rw [k11]; rfl
theorem k10 : Tryz.prog.inPlace 5 = Rows.serverNilRow.inPlace := by kernel_rfl
theorem k13 : Tryz.prog.varsNamed 5 = Rows.serverNilRow.named := by kernel_rfl
set_option maxRecDepth 100000 in
theorem closed : joinedFacts Tryz.prog 5 Tryz.f5 Rows.serverNilSpec Rows.serverNilRow = true := by
  unfold joinedFacts
  rw [k10, k11, k12, k13]
  kernel_rfl
theorem over : Rows.serverNilRow.holds Tryz.pinned (Go.OpenSpec.ofChange Rows.serverNilSpec) :=
  OpenClaim.holds_of_wide 5 Tryz.f5 rfl rfl rfl rfl rfl rfl rfl ⟨rfl, rfl, rfl, rfl, rfl⟩ rfl rfl rfl rfl rfl (by kernel_rfl) Tryz.func5 closed
    (of_decide_eq_true (by kernel_rfl)) (by unfold Func.isWrapper; first | (rw [if_pos (by decide +kernel)]; kernel_rfl) | (rw [if_neg (by decide +kernel)]; exact ⟨rfl, rfl⟩))
    (fun os started H enc _ => lifted os started H enc)
theorem card : Rows.ServerNilCardSaid :=
  Claim7.holds_tied_plain_at .later [] [.data, .data, .data, .handle, .sentinel, .sentinel] true (true, "f2e1d2b072210d84a200d658934d0e153f78f12018917ee16ba43b440a019de9") true
    over (fun _ h => by cases h) (by kernel_rfl) (fun _ h => by cases h) serverNil_row_tie rfl ⟨rfl, rfl⟩ (by kernel_rfl) rfl
    (fun f fn hf hfn => by
      obtain rfl : f = 5 := Option.some.inj ((show Tryz.prog.funcNamed "sash/sashlaw24.ServerNil" = some 5 by kernel_rfl).symm.trans hf) |>.symm
      obtain rfl : fn = Tryz.f5 := (Option.some.inj (Tryz.func5.symm.trans hfn)).symm
      exact ⟨by kernel_rfl, fun j t ht => by
        rw [Tryz.params5] at ht
        rcases j with _ | _ | j
        · have h3 : t = 3 := by simpa using ht.symm
          subst h3; exact (show Tryz.prog.wantsStandIn 3 = false by kernel_rfl)
        · have h3 : t = 33 := by simpa using ht.symm
          subst h3; exact (show Tryz.prog.wantsStandIn 33 = false by kernel_rfl)
        · simp at ht⟩)
    (goesBy_false goes_none _ rfl)
end Go.Proofs.YtejjnaibgimiaaaGreatDoor.serverNil
namespace Go.Proofs.YtejjnaibgimiaaaGreatDoor
theorem serverNil_card : Rows.ServerNilCardSaid := serverNil.card
end Go.Proofs.YtejjnaibgimiaaaGreatDoor
