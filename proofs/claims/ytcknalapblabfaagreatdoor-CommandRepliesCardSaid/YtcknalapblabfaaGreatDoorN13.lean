/- This text proves Rows.CommandRepliesCardSaid: sashlaw22.CommandReplies answers true for every text and every number, and leaves its arguments as they were. Conditions: none beyond those that the statement itself names. -/
import Derived.Test.YtcknalapblabfaaGreatDoorT8
set_option linter.unusedVariables false
set_option linter.unusedSimpArgs false
namespace Go.Proofs.YtcknalapblabfaaGreatDoor.commandReplies
open Go.Idl Go.ChangeShapes Go.WideShapes Go.ChangeAt Go.RowKit Go.Proofs

set_option maxRecDepth 100000 in
theorem contract (H : Type) (enc : TypeId × Value → H) (W : World) (base : Nat) (args : Array Value) (ds gs : List (DataW H)) (before : List MemPlace)
    (hval : ∀ (j : Nat) t v, Tryz.f3.params[j]? = some t → args[j]? = some v → Value.okWide Tryz.prog W .any base t v)
    (hW : DataW.Whole enc Tryz.prog Tryz.f3.params.toList Rows.commandRepliesSpec.vars false W args.toList ds gs before) (hL : laidMetH Tryz.prog laidL W) :
    Calls Tryz.prog 3 args W fun e W' => ∃ v, e = .returned v ∧ Rows.commandRepliesSpec.post enc Tryz.prog Tryz.f3 false true false false W args v W' := by
  have hW' := hW
  obtain ⟨p, q, hA0, hV, rfl, hfz, hnd⟩ := hW
  have hA : DataW.TrodAll enc Tryz.prog W 0 (fun _ => true) true Tryz.f3.params.toList args.toList ds p := hA0
  rw [Tryz.params3] at hA hval
  obtain ⟨v1, vs1, d1, ds1, p1, q1, hargs, rfl, rfl, h1, r1⟩ := trodAll_cons hA
  obtain ⟨v2, vs2, d2, ds2, p2, q2, rfl, rfl, rfl, h2, r2⟩ := trodAll_cons r1
  obtain ⟨rfl, rfl, rfl⟩ := trodAll_nil r2
  obtain rfl : args = #[v1, v2] := by cases args; simp_all
  obtain ⟨rfl, rfl⟩ := trodVars_none hV
  obtain ⟨a1, rfl, rfl, rfl, w1⟩ := Go.ChangeMaps.open_string Tryz.underlying9 (hval 0 9 v1 rfl rfl) h1
  obtain ⟨a2, rfl, rfl, rfl, w2⟩ := open_int Tryz.underlying5 (hval 1 5 v2 rfl rfl) h2
  have b2 : 0 ≤ a2 ∧ a2 ≤ 255 := by simpa [Lit.wf, IntKind.min, IntKind.max, IntKind.signed, IntKind.bits] using w2
  have e2 : (((UInt8.ofNat a2.toNat).toNat : Nat) : Int) = a2 := by simp; omega
  have hc := cmdRep_c a1 (UInt8.ofNat a2.toNat) hT hT_tab
  rw [e2] at hc
  have hcall := hc.2 (oldF W) (fun _ => False) W #[.string a1, .int .u8 a2] (hrelT hL) ⟨_, _, rfl, rfl, _, _, rfl, rfl, rfl⟩
  refine hcall.mono ?_
  rintro e W' ⟨F', X', h', ie, ⟨rfl, _⟩, he, _, hkeep⟩
  cases e with
  | returned v =>
    obtain rfl : v = .bool true := he
    refine ⟨_, rfl, _, _, _, [], [], [], hW', trodAll_mk1 (shut_bool Tryz.underlying4 _), ?_, rfl, World.keptBut_mono (fun _ f => f.elim) (kept hkeep), fun h => nomatch h⟩
    rw [Tryz.params3]
    exact trodAll_cons_mk (Go.ChangeMaps.shut_string Tryz.underlying9 w1) (trodAll_cons_mk (shut_int Tryz.underlying5 w2) rfl)
  | _ => exact he.elim
set_option maxRecDepth 100000 in
theorem lifted (os : Os) (started : os.Started) (H : Type) (enc : TypeId × Value → H) :
    ReturnsInHanded {} Tryz.checked os 3 .any (fun w args => (Rows.commandRepliesSpec.pre enc Tryz.prog Tryz.f3 [] false w args ∧ laidMetH Tryz.prog laidL w) ∧ sizedMet enc Tryz.prog Tryz.f3 (OpenSpec.ofChange Rows.commandRepliesSpec) false w args)
      (Rows.commandRepliesSpec.post enc Tryz.prog Tryz.f3 false true false false) := by
  refine returnsInHanded_of_change_and (C := Tryz.checked) (s := Rows.commandRepliesSpec) (X := fun w _ => laidMetH Tryz.prog laidL w) (fun _ _ _ hh h => h.of_heap hh) own started (by kernel_rfl) Tryz.func3
    (ChangeSpec.witness_at (enc := enc) (C := Tryz.checked) (os := os) (X := fun w _ => laidMetH Tryz.prog laidL w) false (laidW os) #[.string ⟨#[]⟩, .int .u8 0] 8 (laidW_os os) (by kernel_rfl) (by kernel_rfl) (by kernel_rfl) (by kernel_rfl) (by kernel_rfl) (laidW_in os _)) ?_
  intro W base args ds gs before hval hW _ _ hL _
  exact contract H enc W base args ds gs before hval hW hL
theorem k11 : Tryz.prog.unfollowed 3 = true := by kernel_rfl
theorem k12 : Tryz.prog.recurses 3 = true := by unfold Program.recurses; rw [k11]; rfl
theorem k10 : Tryz.prog.inPlace 3 = Rows.commandRepliesRow.inPlace := by kernel_rfl
theorem k13 : Tryz.prog.varsNamed 3 = Rows.commandRepliesRow.named := by kernel_rfl
set_option maxRecDepth 100000 in
theorem closed : joinedFacts Tryz.prog 3 Tryz.f3 Rows.commandRepliesSpec Rows.commandRepliesRow = true := by
  unfold joinedFacts
  rw [k10, k11, k12, k13]
  kernel_rfl
theorem over : Rows.commandRepliesRow.holds Tryz.pinned (Go.OpenSpec.ofChange Rows.commandRepliesSpec) :=
  OpenClaim.holds_of_wide 3 Tryz.f3 rfl rfl rfl rfl rfl rfl rfl ⟨rfl, rfl, rfl, rfl, rfl⟩ rfl rfl rfl rfl rfl (by kernel_rfl) Tryz.func3 closed
    (of_decide_eq_true (by kernel_rfl)) (by unfold Func.isWrapper; first | (rw [if_pos (by decide +kernel)]; kernel_rfl) | (rw [if_neg (by decide +kernel)]; exact ⟨rfl, rfl⟩))
    (fun os started H enc _ => lifted os started H enc)
theorem card : Rows.CommandRepliesCardSaid :=
  Claim7.holds_tied_plain_at .later [] [.data, .data, .data, .handle, .sentinel, .sentinel] true (true, "83ea1efae2073c5b1fde5f450cf79ca39b29d8a4cb7466d1aae39570ec089a04") true
    over (fun _ h => by cases h) (by kernel_rfl) (fun _ h => by cases h) commandReplies_row_tie rfl ⟨rfl, rfl⟩ (by kernel_rfl) rfl
    (fun f fn hf hfn => by
      obtain rfl : f = 3 := Option.some.inj ((show Tryz.prog.funcNamed "sash/sashlaw22.CommandReplies" = some 3 by kernel_rfl).symm.trans hf) |>.symm
      obtain rfl : fn = Tryz.f3 := (Option.some.inj (Tryz.func3.symm.trans hfn)).symm
      exact ⟨by kernel_rfl, fun j t ht => by
        rw [Tryz.params3] at ht
        rcases j with _ | _ | j
        · have h3 : t = 9 := by simpa using ht.symm
          subst h3; exact (show Tryz.prog.wantsStandIn 9 = false by kernel_rfl)
        · have h3 : t = 5 := by simpa using ht.symm
          subst h3; exact (show Tryz.prog.wantsStandIn 5 = false by kernel_rfl)
        · simp at ht⟩)
    (goesBy_false goes_none _ rfl)
end Go.Proofs.YtcknalapblabfaaGreatDoor.commandReplies
namespace Go.Proofs.YtcknalapblabfaaGreatDoor
theorem commandReplies_card : Rows.CommandRepliesCardSaid := commandReplies.card
end Go.Proofs.YtcknalapblabfaaGreatDoor
