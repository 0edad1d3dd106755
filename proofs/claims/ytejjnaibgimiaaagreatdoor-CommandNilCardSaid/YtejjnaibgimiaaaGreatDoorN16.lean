/- This text proves Rows.CommandNilCardSaid: with a nil registry the commands of a line find nothing, for any seat and any line. Conditions: none beyond those that the statement itself names. -/
import Derived.Test.YtejjnaibgimiaaaGreatDoorT8
set_option linter.unusedVariables false
set_option linter.unusedSimpArgs false
namespace Go.Proofs.YtejjnaibgimiaaaGreatDoor.commandNil
open Go.Idl Go.ChangeShapes Go.WideShapes Go.ChangeAt Go.RowKit Go.Proofs

set_option maxRecDepth 100000 in
theorem contract (H : Type) (enc : TypeId × Value → H) (W : World) (base : Nat) (args : Array Value) (ds gs : List (DataW H)) (before : List MemPlace)
    (hval : ∀ (j : Nat) t v, Tryz.f3.params[j]? = some t → args[j]? = some v → Value.okWide Tryz.prog W .any base t v)
    (hW : DataW.Whole enc Tryz.prog Tryz.f3.params.toList Rows.commandNilSpec.vars false W args.toList ds gs before) (hL : laidMetH Tryz.prog laidL W) :
    Calls Tryz.prog 3 args W fun e W' => ∃ v, e = .returned v ∧ Rows.commandNilSpec.post enc Tryz.prog Tryz.f3 false true false false W args v W' := by
  have hW' := hW
  obtain ⟨p, q, hA0, hV, rfl, hfz, hnd⟩ := hW
  have hA : DataW.TrodAll enc Tryz.prog W 0 (fun _ => true) true Tryz.f3.params.toList args.toList ds p := hA0
  rw [Tryz.params3] at hA hval
  obtain ⟨v1, vs1, d1, ds1, p1, q1, hargs, rfl, rfl, h1, r1⟩ := trodAll_cons hA
  obtain ⟨v2, vs2, d2, ds2, p2, q2, rfl, rfl, rfl, h2, r2⟩ := trodAll_cons r1
  obtain ⟨rfl, rfl, rfl⟩ := trodAll_nil r2
  obtain rfl : args = #[v1, v2] := by cases args; simp_all
  obtain ⟨rfl, rfl⟩ := trodVars_none hV
  obtain ⟨a1, rfl, rfl, rfl, w1⟩ := open_int Tryz.underlying3 (hval 0 3 v1 rfl rfl) h1
  have b1 : -9223372036854775808 ≤ a1 ∧ a1 ≤ 9223372036854775807 := by simpa [Lit.wf, IntKind.min, IntKind.max, IntKind.signed, IntKind.bits] using w1
  obtain ⟨a2, rfl, rfl, rfl, w2⟩ := Go.ChangeMaps.open_string Tryz.underlying9 (hval 1 9 v2 rfl rfl) h2
  obtain ⟨u, hrel⟩ := hrel3 hL
  have hcall := (cmdNil_c a1 a2 (hT3 u) (hT3_tab u) (hT3_err u) (hT3_rng u)).2 (oldF W) (fun _ => False) W #[.int .i64 a1, .string a2] hrel ⟨_, _, rfl, rfl, _, _, rfl, rfl, rfl⟩
  refine hcall.mono ?_
  rintro e W' ⟨F', X', h', ie, ⟨rfl, _⟩, he, _, hkeep⟩
  cases e with
  | returned v =>
    obtain rfl : v = .bool true := he
    have hlt : ∀ x ∈ (([] ++ ([] ++ [])) ++ [] : List MemPlace), x.block < W.heap.size := fun x hx => absurd hx (by simp)
    refine ⟨_, rfl, _, _, _, [], ([] ++ ([] ++ [])), [], hW', trodAll_mk1 (shut_bool Tryz.underlying4 _), ?_, rfl, World.keptBut_mono (fun _ f => f.elim) (kept hkeep), fun h => nomatch h⟩
    rw [Tryz.params3]
    exact (trodAll_cons_mk (shut_int Tryz.underlying3 w1) (trodAll_cons_mk (Go.ChangeMaps.shut_string Tryz.underlying9 w2) trodAll_mk0))
  | _ => exact he.elim

set_option maxRecDepth 100000 in
theorem lifted (os : Os) (started : os.Started) (H : Type) (enc : TypeId × Value → H) :
    ReturnsInHanded {} Tryz.checked os 3 .any (fun w args => (Rows.commandNilSpec.pre enc Tryz.prog Tryz.f3 [] false w args ∧ laidMetH Tryz.prog laidL w) ∧ sizedMet enc Tryz.prog Tryz.f3 (OpenSpec.ofChange Rows.commandNilSpec) false w args)
      (Rows.commandNilSpec.post enc Tryz.prog Tryz.f3 false true false false) := by
  refine returnsInHanded_of_change_and (C := Tryz.checked) (s := Rows.commandNilSpec) (X := fun w _ => laidMetH Tryz.prog laidL w) (fun _ _ _ hh h => h.of_heap hh) own started (by kernel_rfl) Tryz.func3
    (ChangeSpec.witness_at (enc := enc) (C := Tryz.checked) (os := os) (X := fun w _ => laidMetH Tryz.prog laidL w) false (laidW os) #[.int .i64 0, .string ⟨#[]⟩] 8 (laidW_os os) (by kernel_rfl) (by kernel_rfl) (by kernel_rfl) (by kernel_rfl) (by kernel_rfl) (laidW_in os _)) ?_
  intro W base args ds gs before hval hW _ _ hL _
  exact contract H enc W base args ds gs before hval hW hL
theorem k11 : Tryz.prog.unfollowed 3 = true := by kernel_rfl
theorem k12 : Tryz.prog.recurses 3 = true := by unfold Program.recurses; rw [k11]; rfl
theorem k10 : Tryz.prog.inPlace 3 = Rows.commandNilRow.inPlace := by kernel_rfl
theorem k13 : Tryz.prog.varsNamed 3 = Rows.commandNilRow.named := by kernel_rfl
set_option maxRecDepth 100000 in
theorem closed : joinedFacts Tryz.prog 3 Tryz.f3 Rows.commandNilSpec Rows.commandNilRow = true := by
  unfold joinedFacts
  rw [k10, k11, k12, k13]
  kernel_rfl
theorem over : Rows.commandNilRow.holds Tryz.pinned (Go.OpenSpec.ofChange Rows.commandNilSpec) :=
  OpenClaim.holds_of_wide 3 Tryz.f3 rfl rfl rfl rfl rfl rfl rfl ⟨rfl, rfl, rfl, rfl, rfl⟩ rfl rfl rfl rfl rfl (by kernel_rfl) Tryz.func3 closed
    (of_decide_eq_true (by kernel_rfl)) (by unfold Func.isWrapper; first | (rw [if_pos (by decide +kernel)]; kernel_rfl) | (rw [if_neg (by decide +kernel)]; exact ⟨rfl, rfl⟩))
    (fun os started H enc _ => lifted os started H enc)
theorem card : Rows.CommandNilCardSaid :=
  Claim7.holds_tied_plain_at .later [] [.data, .data, .data, .handle, .sentinel, .sentinel] true (true, "f2e1d2b072210d84a200d658934d0e153f78f12018917ee16ba43b440a019de9") true
    over (fun _ h => by cases h) (by kernel_rfl) (fun _ h => by cases h) commandNil_row_tie rfl ⟨rfl, rfl⟩ (by kernel_rfl) rfl
    (fun f fn hf hfn => by
      obtain rfl : f = 3 := Option.some.inj ((show Tryz.prog.funcNamed "sash/sashlaw22.CommandNil" = some 3 by kernel_rfl).symm.trans hf) |>.symm
      obtain rfl : fn = Tryz.f3 := (Option.some.inj (Tryz.func3.symm.trans hfn)).symm
      exact ⟨by kernel_rfl, fun j t ht => by
        rw [Tryz.params3] at ht
        rcases j with _ | _ | j
        · have h3 : t = 3 := by simpa using ht.symm
          subst h3; exact (show Tryz.prog.wantsStandIn 3 = false by kernel_rfl)
        · have h3 : t = 9 := by simpa using ht.symm
          subst h3; exact (show Tryz.prog.wantsStandIn 9 = false by kernel_rfl)
        · simp at ht⟩)
    (goesBy_false goes_none _ rfl)
end Go.Proofs.YtejjnaibgimiaaaGreatDoor.commandNil
namespace Go.Proofs.YtejjnaibgimiaaaGreatDoor
theorem commandNil_card : Rows.CommandNilCardSaid := commandNil.card
end Go.Proofs.YtejjnaibgimiaaaGreatDoor
