/- This text is a part of the proofs of the statements of this seat: the ideal states and their rules, or what one of the functions that the statements reach comes to. Conditions: none beyond those that each theorem names. -/
import Derived.Test.YtiloboepepdcgaaSS
import Derived.Test.YtiloboepepdcgaaM0
set_option linter.unusedVariables false
set_option linter.unusedSimpArgs false
namespace Go.Proofs
open Go.Idl Go.RowKit Go.Maps Go.Sort Go.Shelf

/-- the numbers of the library's functions and types here -/
def rhoI : Ren := { f := fun | 6 => 53 | 8 => 80 | 11 => 106 | _ => 0, t := fun | 0 => 0 | 24 => 45 | 26 => 3 | 28 => 107 | 33 => 86 | _ => 0, g := fun x => x }

theorem layC : SlLaysZI.n8 Try.prog rhoI where
  mixed := mixed
  f8 := ⟨Try.f80.name, by decide, Try.func80.trans (congrArg some (by kernel_rfl))⟩
  f11 := ⟨Try.f106.name, by decide, Try.func106.trans (congrArg some (by kernel_rfl))⟩
  t0 := Try.underlying0
  a0 := Try.isAgg0
  z0 := Try.sizeOf0
  v0 := Try.zeroValue0
  t24 := Try.underlying45
  a24 := Try.isAgg45
  z24 := Try.sizeOf45
  v24 := Try.zeroValue45
  t26 := Try.underlying3
  a26 := Try.isAgg3
  z26 := Try.sizeOf3
  v26 := Try.zeroValue3
  t28 := Try.underlying107
  a28 := Try.isAgg107
  z28 := Try.sizeOf107
  v28 := Try.zeroValue107
  i26 := by kernel_rfl

/-- an iterator over numbers, as a value -/
def ItOk (it : IV) (h : Heap) (S : List Int → Prop) (N : Nat) : Prop := ∃ g cap, it = .fn (.func g) [] cap ∧ Idl.Enters Try.prog g ∧
  ∀ F X w (lb : Array Value), HRel F X h w → RepAll F w cap lb.toList → SeqGivesB Fence.wide 8 Try.prog g lb encZ S N w

/-- what was collected: nothing, or a new array -/
def collR (S : List Int → Prop) (h : Heap) (e : IEnd) (h' : Heap) : Prop := ∃ ss, S ss ∧ ((ss = [] ∧ e = .ret (.list .tight []) ∧ h' = h) ∨
  (ss ≠ [] ∧ ∃ b cap, h b = none ∧ ss.length ≤ cap ∧ e = .ret (.sl 1 b 0 ss.length cap) ∧ h' = SH h b cap ss.toArray))

theorem rows_enc (F : Nat → Nat → Prop) (w : World) : ∀ ss : List Int, RepAll F w ((ss.map intRow).flatten) (ss.map encZ)
  | [] => rfl
  | x :: xs => ⟨_, _, rfl, rfl, rows_enc F w xs⟩

theorem collect_c {it : IV} {h : Heap} {S : List Int → Prop} {N : Nat} (hi : ItOk it h S N) (hN : N ≤ 1000000000000) : ICall Try.prog 80 [it] h (collR S h) := by
  obtain ⟨g, cap, rfl, hen, hsq⟩ := hi
  refine ⟨⟨_, Try.func80, by kernel_rfl, by kernel_rfl⟩, fun F X w vs hh hr => ?_⟩
  obtain ⟨v, vs', hv, ⟨v1, v2, rfl, hr1, hr2⟩, hr3⟩ := hr
  cases hr3
  have hv1 : v1 = #[] := by apply Array.ext'; exact hr1
  subst hv1
  have hvs : vs = #[.func (.func g) #[] v2] := by apply Array.ext'; exact hv
  subst hvs
  have hc := collectI layC Fence.wide 10 trivial trivial rfl (by omega) g v2 trivial (fun args w => enters_run hen args w) S N (by simp only [maxLen]; omega) (by omega) w (hsq F X w v2 hh hr2)
  refine (callsIn_wide.1 hc).mono ?_
  rintro e w' ⟨u, ss, rfl, hS, hrow, hnil, hb⟩
  have hkeepF : FLe F w F w' := ⟨fun _ _ h => h, fun b o hf => hb.cell (p := ⟨b, o, none⟩) (hh.fb b o hf)⟩
  have hobj : ∀ b o, h b = some o → X b ∧ ObjRep F w' b o := fun b o ho => by
    obtain ⟨h1, h2⟩ := hh.hp b o ho
    exact ⟨h1, h2.mono hkeepF (hb.block b (hh.xb b h1))⟩
  rcases hrow.2 with ⟨rfl, h0⟩ | ⟨gb, cp, cur, rfl, hbase, hgb, r1, r2, r3, r4⟩
  · have hss : ss = [] := List.eq_nil_of_length_eq_zero h0
    subst hss
    refine ⟨F, X, h, _, ⟨[], hS, .inl ⟨rfl, rfl, rfl⟩⟩, cv_rep F w' (.slice none 0 0), ⟨hobj, hh.xf, fun b hx => Nat.lt_of_lt_of_le (hh.xb b hx) hb.size, fun b o hf => Nat.lt_of_lt_of_le (hh.fb b o hf) hb.size⟩, ?_⟩
    exact ⟨hb.size, hb.os, hb.tape, hb.output, fun _ _ h => h, hkeepF.cell, fun b hb1 _ => hb.block b hb1, fun _ h => .inl h, fun _ _ h => .inl h⟩
  · have hne : ss ≠ [] := fun e => by have := hnil.2 e; cases this
    have hfresh : h gb = none := by
      cases hx : h gb with
      | none => rfl
      | some o => have := hh.xb _ (hh.hp _ _ hx).1; omega
    have hlt : gb < w'.heap.size := (Array.getElem?_eq_some_iff.1 hgb).1
    refine ⟨F, fun b => X b ∨ b = gb, SH h gb cp ss.toArray, _, ⟨ss, hS, .inr ⟨hne, gb, cp, hfresh, r1, rfl, rfl⟩⟩, ⟨by simp, r1, r2⟩, ⟨?_, ?_, ?_, fun b o hf => Nat.lt_of_lt_of_le (hh.fb b o hf) hb.size⟩, ?_⟩
    · intro b o ho
      simp only [SH, upd] at ho
      by_cases hbg : b = gb
      · subst hbg
        simp only [if_true, Option.some.injEq] at ho
        subst ho
        refine ⟨.inr rfl, ss.map encZ, cur.toList.drop ss.length, ?_, ?_, ?_, ?_, by omega, ?_⟩
        · rw [hgb]
          congr 2
          rw [← r4, Nat.mul_one, List.take_append_drop]
        · simpa [rowsD] using rows_enc F w' ss
        · simp [rowsD, intRow]
        · have : cur.toList.length = cp := by simpa using r3
          simp [this]; omega
        · intro v hv
          obtain ⟨x, _, rfl⟩ := List.mem_map.1 hv
          rfl
      · simp only [hbg, if_false] at ho
        obtain ⟨h1, h2⟩ := hobj b o ho
        exact ⟨.inl h1, h2⟩
    · intro b o hx hf
      rcases hx with hx | hx
      · exact hh.xf b o hx hf
      · subst hx; have := hh.fb _ _ hf; omega
    · intro b hx
      rcases hx with hx | hx
      · exact Nat.lt_of_lt_of_le (hh.xb b hx) hb.size
      · subst hx; exact hlt
    · exact ⟨hb.size, hb.os, hb.tape, hb.output, fun _ _ h => h, hkeepF.cell, fun b hb1 _ => hb.block b hb1, fun b hx => hx.elim .inl (fun e => .inr (by omega)), fun _ _ h => .inl h⟩

/-- what Sorted comes to -/
def sortedR (S : List Int → Prop) (h : Heap) (e : IEnd) (h' : Heap) : Prop := ∃ ss, S ss ∧ ((ss = [] ∧ e = .ret (.list .plain []) ∧ h' = h) ∨
  (ss ≠ [] ∧ ∃ b cap, h b = none ∧ ss.length ≤ cap ∧ e = .ret (.sl 1 b 0 ss.length cap) ∧ h' = SH h b cap (sortL ss).toArray))
theorem sorted_c {it : IV} {h : Heap} {S : List Int → Prop} {N : Nat} (hi : ItOk it h S N) (hN : N ≤ 1000000000) (hSN : ∀ ss, S ss → ss.length ≤ N) (hst : stripT it = it) : ICall Try.prog 53 [it] h (sortedR S h) := by
  refine icall_of_iwp (fun _ => 0) Try.func53 rfl (by kernel_rfl) (Nat.le_of_ble_eq_true rfl) ?_
  rw [Try.results53]
  obtain ⟨g, cap, rfl, hen, hsq⟩ := id hi
  simp -implicitDefEqProofs [go_sem]
  refine (collect_c hi (by omega)).mono ?_
  rintro e h' ⟨ss, hS, ⟨rfl, rfl, rfl⟩ | ⟨hne, b, cp, hb, hle, rfl, rfl⟩⟩
  · simp -implicitDefEqProofs [go_sem]
    refine (sort_nil _).mono ?_
    rintro e h' ⟨rfl, he⟩
    rw [he]
    simp -implicitDefEqProofs [go_sem]
    exact ⟨_, Sub.refl _, [], hS, .inl ⟨rfl, rfl, rfl⟩⟩
  · simp -implicitDefEqProofs [go_sem]
    have hl := hSN ss hS
    have hc := sort_c ss.toArray b cp h (by simp; omega)
    simp only [List.size_toArray, List.toList_toArray] at hc
    refine hc.mono ?_
    rintro e h' ⟨rfl, he⟩
    rw [he]
    simp -implicitDefEqProofs [go_sem]
    exact ⟨_, Sub.refl _, ss, hS, .inr ⟨hne, b, cp, hb, hle, rfl, rfl⟩⟩
end Go.Proofs
