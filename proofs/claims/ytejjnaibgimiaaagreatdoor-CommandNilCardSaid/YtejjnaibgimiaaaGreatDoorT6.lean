/- This text is a part of the proofs of the statements of this seat: the ideal states and their rules, or what one of the functions that the statements reach comes to. Conditions: none beyond those that each theorem names. -/
import Derived.Shelf.SlIterI.Collect
import Derived.RangeFuncBound
import Derived.Test.YtejjnaibgimiaaaGreatDoorT2
import Derived.WideShapes
import Derived.RangeFuncBox
import Derived.RangeFuncLeaves
import Derived.OwnWalkIn
import Derived.TacticsInMore
import Derived.LoopNIn
import Derived.LoopIn
import Derived.Test.YtejjnaibgimiaaaGreatDoorT5
set_option linter.unusedVariables false
set_option linter.unusedSimpArgs false
namespace Go.Proofs
open Go.RowKit Go.Maps Go.Sort Go.Shelf
variable {P : Program} {ρ : Ren}

theorem _root_.Go.RowKit.Below.between {B : Nat} {a b c : World} (h : Below B a b) (k : Below B a c) (hs : b.heap.size ≤ c.heap.size) : Below B b c :=
  ⟨k.os.trans h.os.symm, k.tape.trans h.tape.symm, k.output.trans h.output.symm, hs, fun i hi => (k.block i hi).trans (h.block i hi).symm⟩

/-- an iterator whose loop's body leaves alone what lay before -/
def SeqGivesB {α : Type} (F : Fence) (n : Nat) (P : Program) (g : Nat) (lb : Array Value) (enc : α → Value) (S : List α → Prop) (N : Nat) (w : World) : Prop :=
  ∀ (l : Nat) (J : List α → World → Prop) (W : World), Below w.heap.size w W → AbidesFrom W.heap.size J →
    (∀ pre x W1, J pre W1 → pre.length < N → YieldAt F (n - 1) P l #[enc x] W1 fun e W' => e = .returned (.bool true) ∧ J (pre ++ [x]) W' ∧ KeepsWalks W1 W' ∧ Below w.heap.size W1 W') →
    J [] W →
    CallsIn F n P g (#[.func (.yield l) #[] #[]] ++ lb) W fun e W' => (∃ v, e = .returned v) ∧ ∃ xs, S xs ∧ J xs W'
theorem SeqGives.b {α : Type} {F : Fence} {n : Nat} {P : Program} {g : Nat} {lb : Array Value} {enc : α → Value} {S : List α → Prop} {N : Nat} {w : World} (h : SeqGives F n P g lb enc S N w) : SeqGivesB F n P g lb enc S N w :=
  fun l J W hW hJ hY h0 => h l J W hW hJ (fun pre x W1 h1 h2 => (hY pre x W1 h1 h2).mono fun e W' hp => ⟨hp.1, hp.2.1, hp.2.2.1⟩) h0

set_option maxRecDepth 100000 in
set_option maxHeartbeats 2000000 in
theorem appendSeqI (L : SlLaysZI.n11 P ρ) (F : Fence) (n : Nat) (h11 : F.fn (ρ.f 11)) (hro : F.round = none) (hn : 2 ≤ n) (g : Nat) (lb : Array Value) (hFg : F.fn g) (eg : ∀ args w, (callFunc g args).run P w = .ok (.enter g args) w)
    (S : List Int → Prop) (N : Nat) (hN : N ≤ maxLen) (hNb : N * 8 ≤ 140737488355328) (w : World) (hseq : SeqGivesB F (n - 1) P g lb encZ S N w) :
    CallsIn F n P (ρ.f 11) #[.slice none 0 0, .func (.func g) #[] lb] w fun e w' => ∃ (v : Value) (ss : List Int), e = .returned v ∧ S ss ∧ w'.ownsRow w.heap.size (ρ.t 26) 1 v ss.length (ss.map encZ) ∧ (v = .slice none 0 0 ↔ ss = []) ∧ Below w.heap.size w w' := by
  have h1 : 1 ≤ n := by omega
  have mixed := L.mixed; have t0 := L.t0; have a0 := L.a0; have z0 := L.z0; have v0 := L.v0; have t24 := L.t24; have a24 := L.a24; have z24 := L.z24; have v24 := L.v24; have a26 := L.a26; have z26 := L.z26; have v26 := L.v26; have t28 := L.t28; have a28 := L.a28; have z28 := L.z28; have v28 := L.v28
  have hne : ρ.t 24 ≠ ρ.t 26 := (fun e => by have h := L.t24; rw [e, L.t26] at h; cases h)
  have u0 := run_underlying L.t0; have u24 := run_underlying L.t24; have u28 := run_underlying L.t28
  obtain ⟨_, _, FG⟩ := L.f11
  refine callsIn_of_wp_marks FG rfl h11 ?_ hro
  simp only [SlBodyZ.n11_ntmps ρ, List.size_toArray, List.length_cons, List.length_nil, Nat.reduceAdd, Nat.reduceSub, Array.replicate_succ, Array.replicate_zero, List.push_toArray, List.append_toArray, List.nil_append, List.cons_append]
  gi_wp2
  refine wpIn_rangeFunc ?_
  intro fn hfn
  rw [hro]
  obtain ⟨W0, hW0⟩ : ∃ W0, w.alloc (.cells #[.slice none 0 0] (ρ.t 24)) = W0 := ⟨_, rfl⟩
  have hs0 : W0.heap.size = w.heap.size + 1 := by rw [← hW0]; simp
  have hv0 : W0.heap[w.heap.size]? = some (.cells #[.slice none 0 0] (ρ.t 24) (0, 0)) := by rw [← hW0]; exact World.alloc_heap_new w _
  have hb0 : Below w.heap.size w W0 := by rw [← hW0]; exact (Below.refl _ w).alloc (Nat.le_refl _) _
  rw [hW0]
  obtain ⟨W1, hW1⟩ : ∃ W1, (W0.alloc (.deferred (some []))).alloc (.loop (AnyZI.apRec ρ fn (.func (.func g) #[] lb) w.heap.size W0.heap.size .ready none)) = W1 := ⟨_, rfl⟩
  have hold : ∀ k, k < W0.heap.size → W1.heap[k]? = W0.heap[k]? := fun k hk => by
    rw [← hW1]; exact (Below.heap_alloc _ _ k (by simp; omega)).trans (Below.heap_alloc _ _ k hk)
  have hb1 : Below w.heap.size w W1 := by rw [← hW1]; exact (hb0.alloc hb0.size _).alloc (by have := hb0.size; simp; omega) _
  have hs1 : W1.heap.size = W0.heap.size + 2 := by rw [← hW1]; simp
  have hM : AnyZI.ApAt ρ w fn (.func (.func g) #[] lb) w.heap.size (W0.heap.size + 1) W0.heap.size [] W1 :=
    ⟨⟨_, (hold w.heap.size (by omega)).trans hv0, ⟨rfl, .inl ⟨rfl, rfl⟩⟩, by simp⟩,
     by rw [← hW1]; have := World.alloc_heap_new (W0.alloc (.deferred (some []))) (.loop (AnyZI.apRec ρ fn (.func (.func g) #[] lb) w.heap.size W0.heap.size .ready none)); rwa [World.size_alloc] at this,
     by rw [← hW1]; exact (Below.heap_alloc _ _ _ (by simp)).trans (World.alloc_heap_new W0 _), hb1⟩
  refine ⟨W0.heap.size + 1, [{ target := .collected W0.heap.size, args := #[] }], W1, { target := .fn (.func g) lb, args := #[.func (.yield (W0.heap.size + 1)) #[] #[]] }, W1, g,
    #[.func (.yield (W0.heap.size + 1)) #[] #[]] ++ lb, W1, ?_, ?_, ?_, ?_, fun _ => h1, ?_⟩
  · rw [← hW1]; exact run_enterLoop_outer _ _ _ _ _
  · simp [resolve, go_sem]
  · intro f' hf'; simp [Target.leads] at hf'; subst hf'; exact hFg
  · simp [invoke, go_sem, eg]
  · refine (hseq (W0.heap.size + 1) (AnyZI.ApAt ρ w fn (.func (.func g) #[] lb) w.heap.size (W0.heap.size + 1) W0.heap.size) W1 hb1 (AnyZI.ap_abides ρ _ _ _ _ _ _ _ hb1.size)
      (fun pre x W hJ hl => (AnyZI.apYield { L with } F (n - 1 - 1) w fn hfn _ w.heap.size (W0.heap.size + 1) W0.heap.size (by omega) (by omega) (by omega) (Nat.le_refl _) (by omega) N hN hNb pre x W hJ hl).mono (fun e W' hp => ⟨hp.1, hp.2.1, hp.2.2, hJ.below.between hp.2.1.below hp.2.2.size⟩)) hM).mono ?_
    rintro e W2 ⟨⟨v0, rfl⟩, ss, hS, h2⟩
    obtain ⟨v, hv, hrow, hnil⟩ := h2.box
    have hend := run_endLoop (P := P) h2.L (by simp [AnyZI.apRec])
    obtain ⟨W3, hW3⟩ : ∃ W3, W2.putObj (W0.heap.size + 1) (.loop { AnyZI.apRec ρ fn (.func (.func g) #[] lb) w.heap.size W0.heap.size .ready none with state := .exhausted }) = W3 := ⟨_, rfl⟩
    rw [hW3] at hend
    have hg3 : W2.grownBy W3 (some (W0.heap.size + 1)) := by rw [← hW3]; exact grownBy_putObj_a _ _ _
    have hv3 : W3.heap[w.heap.size]? = some (.cells #[v] (ρ.t 24) (0, 0)) := by rw [← hW3]; exact (World.putObj_heap_other (by omega)).trans hv
    have hK3 : W3.heap[W0.heap.size]? = some (.deferred (some [])) := by rw [← hW3]; exact (World.putObj_heap_other (by omega)).trans h2.K
    have hrow3 := hrow.kept hg3 (ownsRow_ne_a hrow h2.L (fun cur e => by first | cases e | exact hne (Obj.cells.inj e).2.1))
    have hb3 : Below w.heap.size w W3 := h2.below.grown hg3 h2.below.size (fun k e => by cases e; omega)
    obtain ⟨hc3, hf3⟩ := cell_of_box_a hv3
    clear hW3
    refine ⟨none, W3, hend, ?_⟩
    gi_wp2
    rw [← hs0]
    refine ⟨by simp, .inl ⟨_, _, rfl, run_takeDeferred hK3, ?_⟩⟩
    exact ⟨_, results_tmp rfl _ _ _, v, ss, rfl, hS, hrow3.kept (grownBy_putObj_a _ _ _) (ownsRow_ne_a hrow3 hK3 (fun cur e => by first | cases e | exact hne (Obj.cells.inj e).2.1)), hnil, hb3.grown (grownBy_putObj_a _ _ _) hb3.size (fun k e => by cases e; omega)⟩

set_option maxRecDepth 100000 in
set_option maxHeartbeats 1000000 in
theorem collectI (L : SlLaysZI.n8 P ρ) (F : Fence) (n : Nat) (h8 : F.fn (ρ.f 8)) (h11 : F.fn (ρ.f 11)) (hro : F.round = none) (hn : 3 ≤ n) (g : Nat) (lb : Array Value) (hFg : F.fn g) (eg : ∀ args w, (callFunc g args).run P w = .ok (.enter g args) w)
    (S : List Int → Prop) (N : Nat) (hN : N ≤ maxLen) (hNb : N * 8 ≤ 140737488355328) (w : World) (hseq : SeqGivesB F (n - 1 - 1) P g lb encZ S N w) :
    CallsIn F n P (ρ.f 8) #[.func (.func g) #[] lb] w fun e w' => ∃ (v : Value) (ss : List Int), e = .returned v ∧ S ss ∧ w'.ownsRow w.heap.size (ρ.t 26) 1 v ss.length (ss.map encZ) ∧ (v = .slice none 0 0 ↔ ss = []) ∧ Below w.heap.size w w' := by
  have h1 : 1 ≤ n := by omega
  have e11 : ∀ args w, (callFunc (ρ.f 11) args).run P w = .ok (.enter (ρ.f 11) args) w := L.f11.enters rfl
  have mixed := L.mixed; have t0 := L.t0; have a0 := L.a0; have z0 := L.z0; have v0 := L.v0; have t24 := L.t24; have a24 := L.a24; have z24 := L.z24; have v24 := L.v24; have t26 := L.t26; have a26 := L.a26; have z26 := L.z26; have v26 := L.v26; have t28 := L.t28; have a28 := L.a28; have z28 := L.z28; have v28 := L.v28
  have u0 := run_underlying L.t0; have u24 := run_underlying L.t24; have u26 := run_underlying L.t26; have u28 := run_underlying L.t28
  obtain ⟨_, _, FG⟩ := L.f8
  refine callsIn_of_wp FG rfl h8 ?_ hro
  simp only [SlBodyZ.n8_ntmps ρ, List.size_toArray, List.length_cons, List.length_nil, Nat.reduceAdd, Nat.reduceSub, Array.replicate_succ, Array.replicate_zero, List.push_toArray, List.append_toArray, List.nil_append, List.cons_append]
  gi_wp2_with (gi_at_fn (ρ.f 11); refine (appendSeqI { L with } F (n - 1) h11 hro (by omega) g lb hFg eg S N hN hNb _ hseq).mono ?_; rintro e w' ⟨v, ss, rfl, hS, hrow, hnil, hb⟩)
  go_ret
  exact ⟨v, ss, rfl, hS, hrow, hnil, hb⟩

end Go.Proofs

set_option linter.unusedVariables false
set_option linter.unusedSimpArgs false
namespace Go.Proofs
open Go.Idl Go.RowKit Go.Maps Go.Sort Go.Shelf

/-- the numbers of the library's functions and types here -/
def rhoI : Ren := { f := fun | 6 => 25 | 8 => 48 | 11 => 79 | _ => 0, t := fun | 0 => 0 | 24 => 33 | 26 => 3 | 28 => 67 | 33 => 72 | _ => 0, g := fun x => x }

theorem layC : SlLaysZI.n8 Tryz.prog rhoI where
  mixed := mixed
  f8 := ⟨Tryz.f48.name, by decide, Tryz.func48.trans (congrArg some (by kernel_rfl))⟩
  f11 := ⟨Tryz.f79.name, by decide, Tryz.func79.trans (congrArg some (by kernel_rfl))⟩
  t0 := Tryz.underlying0
  a0 := Tryz.isAgg0
  z0 := Tryz.sizeOf0
  v0 := Tryz.zeroValue0
  t24 := Tryz.underlying33
  a24 := Tryz.isAgg33
  z24 := Tryz.sizeOf33
  v24 := Tryz.zeroValue33
  t26 := Tryz.underlying3
  a26 := Tryz.isAgg3
  z26 := Tryz.sizeOf3
  v26 := Tryz.zeroValue3
  t28 := Tryz.underlying67
  a28 := Tryz.isAgg67
  z28 := Tryz.sizeOf67
  v28 := Tryz.zeroValue67
  i26 := by kernel_rfl

/-- an iterator over numbers, as a value -/
def ItOk (it : IV) (h : Heap) (S : List Int → Prop) (N : Nat) : Prop := ∃ g cap, it = .fn (.func g) [] cap ∧ Idl.Enters Tryz.prog g ∧
  ∀ F X w (lb : Array Value), HRel F X h w → RepAll F w cap lb.toList → SeqGivesB Fence.wide 8 Tryz.prog g lb encZ S N w

/-- what was collected: nothing, or a new array -/
def collR (S : List Int → Prop) (h : Heap) (e : IEnd) (h' : Heap) : Prop := ∃ ss, S ss ∧ ((ss = [] ∧ e = .ret (.list .tight []) ∧ h' = h) ∨
  (ss ≠ [] ∧ ∃ b cap, h b = none ∧ ss.length ≤ cap ∧ e = .ret (.sl 1 b 0 ss.length cap) ∧ h' = SH h b cap ss.toArray))

theorem rows_enc (F : Nat → Nat → Prop) (w : World) : ∀ ss : List Int, RepAll F w ((ss.map intRow).flatten) (ss.map encZ)
  | [] => rfl
  | x :: xs => ⟨_, _, rfl, rfl, rows_enc F w xs⟩

theorem collect_c {it : IV} {h : Heap} {S : List Int → Prop} {N : Nat} (hi : ItOk it h S N) (hN : N ≤ 1000000000000) : ICall Tryz.prog 48 [it] h (collR S h) := by
  obtain ⟨g, cap, rfl, hen, hsq⟩ := hi
  refine ⟨⟨_, Tryz.func48, by kernel_rfl, by kernel_rfl⟩, fun F X w vs hh hr => ?_⟩
  obtain ⟨v, vs', hv, ⟨v1, v2, rfl, hr1, hr2⟩, hr3⟩ := hr
  cases hr3
  have hv1 : v1 = #[] := by apply Array.ext'; exact hr1
  subst hv1
  have hvs : vs = #[.func (.func g) #[] v2] := by apply Array.ext'; exact hv
  subst hvs
  have hc := collectI layC Fence.wide 10 trivial trivial rfl (by omega) g v2 trivial (fun args w => enters_run hen args w) S N (by simp only [maxLen]; omega) (by omega) w (hsq F X w v2 hh hr2)
  refine (callsIn_wide.1 hc).mono ?_
  rintro e w' ⟨u, ss, rfl, hS, hrow, hnil, hb⟩
  have hkeepF : FLe F w F w' := ⟨fun _ _ h => h, fun b o hf => hb.cell (p := ⟨b, o, none⟩) (hh.fb b o hf)⟩
  have hobj : ∀ b o, h b = some o → XOk X b o ∧ ObjRep F w' b o := fun b o ho => by
    obtain ⟨h1, h2⟩ := hh.hp b o ho
    exact ⟨h1, h2.mono hkeepF (hb.block b (hh.blt ho))⟩
  rcases hrow.2 with ⟨rfl, h0⟩ | ⟨gb, cp, cur, rfl, hbase, hgb, r1, r2, r3, r4⟩
  · have hss : ss = [] := List.eq_nil_of_length_eq_zero h0
    subst hss
    refine ⟨F, X, h, _, ⟨[], hS, .inl ⟨rfl, rfl, rfl⟩⟩, cv_rep F w' (.slice none 0 0), ⟨hobj, hh.xf, fun b hx => Nat.lt_of_lt_of_le (hh.xb b hx) hb.size, fun b o hf => Nat.lt_of_lt_of_le (hh.fb b o hf) hb.size⟩, ?_⟩
    exact ⟨hb.size, hb.os, hb.tape, hb.output, fun _ _ h => h, hkeepF.cell, fun b hb1 _ => hb.block b hb1, fun _ h => .inl h, fun _ _ h => .inl h⟩
  · have hne : ss ≠ [] := fun e => by have := hnil.2 e; cases this
    have hfresh : h gb = none := by
      cases hx : h gb with
      | none => rfl
      | some o => have := hh.blt hx; omega
    have hlt : gb < w'.heap.size := (Array.getElem?_eq_some_iff.1 hgb).1
    refine ⟨F, fun b => X b ∨ b = gb, SH h gb cp ss.toArray, _, ⟨ss, hS, .inr ⟨hne, gb, cp, hfresh, r1, rfl, rfl⟩⟩, ⟨by simp, r1, r2⟩, ⟨?_, ?_, ?_, fun b o hf => Nat.lt_of_lt_of_le (hh.fb b o hf) hb.size⟩, ?_⟩
    · intro b o ho
      simp only [SH, upd] at ho
      by_cases hbg : b = gb
      · subst hbg
        simp only [if_true, Option.some.injEq] at ho
        subst ho
        refine ⟨.inr rfl, ss.map encZ, cur.toList.drop ss.length, ?_, ?_, ?_, ?_, by omega, ?_⟩
        · rw [hgb]
          congr 2
          rw [← r4, Nat.mul_one, List.take_append_drop]
        · simpa [rowsD] using rows_enc F w' ss
        · simp [rowsD, intRow]
        · have : cur.toList.length = cp := by simpa using r3
          simp [this]; omega
        · intro v hv
          obtain ⟨x, _, rfl⟩ := List.mem_map.1 hv
          rfl
      · simp only [hbg, if_false] at ho
        obtain ⟨h1, h2⟩ := hobj b o ho
        exact ⟨h1.mono .inl, h2⟩
    · intro b o hx hf
      rcases hx with hx | hx
      · exact hh.xf b o hx hf
      · subst hx; have := hh.fb _ _ hf; omega
    · intro b hx
      rcases hx with hx | hx
      · exact Nat.lt_of_lt_of_le (hh.xb b hx) hb.size
      · subst hx; exact hlt
    · exact ⟨hb.size, hb.os, hb.tape, hb.output, fun _ _ h => h, hkeepF.cell, fun b hb1 _ => hb.block b hb1, fun b hx => hx.elim .inl (fun e => .inr (by omega)), fun _ _ h => .inl h⟩

/-- what Sorted comes to -/
def sortedR (S : List Int → Prop) (h : Heap) (e : IEnd) (h' : Heap) : Prop := ∃ ss, S ss ∧ ((ss = [] ∧ e = .ret (.list .plain []) ∧ h' = h) ∨
  (ss ≠ [] ∧ ∃ b cap, h b = none ∧ ss.length ≤ cap ∧ e = .ret (.sl 1 b 0 ss.length cap) ∧ h' = SH h b cap (sortL ss).toArray))
theorem sorted_c {it : IV} {h : Heap} {S : List Int → Prop} {N : Nat} (hi : ItOk it h S N) (hN : N ≤ 1000000000) (hSN : ∀ ss, S ss → ss.length ≤ N) (hst : stripT it = it) : ICall Tryz.prog 25 [it] h (sortedR S h) := by
  refine icall_of_iwp (fun _ => 0) Tryz.func25 rfl (by kernel_rfl) (Nat.le_of_ble_eq_true rfl) ?_
  rw [Tryz.results25]
  obtain ⟨g, cap, rfl, hen, hsq⟩ := id hi
  simp -implicitDefEqProofs [go_sem]
  refine (collect_c hi (by omega)).mono ?_
  rintro e h' ⟨ss, hS, ⟨rfl, rfl, rfl⟩ | ⟨hne, b, cp, hb, hle, rfl, rfl⟩⟩
  · simp -implicitDefEqProofs [go_sem]
    refine (sort_nil _).mono ?_
    rintro e h' ⟨rfl, he⟩
    rw [he]
    simp -implicitDefEqProofs [go_sem]
    exact ⟨_, Sub.refl _, [], hS, .inl ⟨rfl, rfl, rfl⟩⟩
  · simp -implicitDefEqProofs [go_sem]
    have hl := hSN ss hS
    have hc := sort_c ss.toArray b cp h (by simp; omega)
    simp only [List.size_toArray, List.toList_toArray] at hc
    refine hc.mono ?_
    rintro e h' ⟨rfl, he⟩
    rw [he]
    simp -implicitDefEqProofs [go_sem]
    exact ⟨_, Sub.refl _, ss, hS, .inr ⟨hne, b, cp, hb, hle, rfl, rfl⟩⟩
end Go.Proofs

set_option linter.unusedVariables false
set_option linter.unusedSimpArgs false
namespace Go.Proofs
open Go.Idl Go.RowKit Go.Maps Go.Sort Go.Shelf

/-- the keys of a map of numbers -/
def KeysOf (es : List (IV × IV)) (ks : List Int) : Prop := es.map (·.1) = ks.map fun k => .int .i64 k
def inR (k : Int) : Prop := -9223372036854775808 ≤ k ∧ k ≤ 9223372036854775807
/-- how the values of a map read, where nobody looks -/
def blindR : Value → Option (DataW Unit × List MemPlace) := fun _ => some (.lit (.bool true), [])

theorem rd_blind {x : MapEntry} {a : Int} (hk : x.key = .int .i64 a) (ha : inR a) : Go.WideElems.rd Tryz.prog 3 blindR x = some (.int .i64 a, .lit (.bool true)) := by
  have hw : (Lit.int .i64 a).wf = true := by
    simp only [inR] at ha
    simp only [Lit.wf, decide_eq_true_eq, Bool.and_eq_true]
    first | exact ⟨ha.1, ha.2⟩ | (simp [IntKind.min, IntKind.max, IntKind.bits, IntKind.signed]; omega)
  simp [Go.WideElems.rd, keyOf, mapKey, hk, Tryz.underlying3, hw, blindR]

theorem keys_rows {F : Nat → Nat → Prop} {w : World} : ∀ {es : List (IV × IV)} {ks : List Int} {ents : List MapEntry}, KeysOf es ks → (∀ k ∈ ks, inR k) → RepEnts F w es ents →
    (∀ x ∈ ents, ∃ y, Go.WideElems.rd Tryz.prog 3 blindR x = some y) ∧ (ents.map (Go.WideElems.rg Tryz.prog 3 blindR)).map (fun p => intOf p.1) = ks ∧ ents.length = ks.length
  | [], ks, ents, hk, _, he => by
    cases he
    cases ks with
    | nil => simp
    | cons k ks => cases hk
  | p :: r, ks, ents, hk, hr, he => by
    obtain ⟨e, es', rfl, h1, h2, h3⟩ := he
    cases ks with
    | nil => cases hk
    | cons k ks =>
      simp only [KeysOf, List.map_cons, List.cons.injEq] at hk
      obtain ⟨g1, g2⟩ := hk
      rw [g1] at h1
      obtain ⟨k1, k2, k3⟩ := keys_rows (es := r) (ks := ks) g2 (fun k hk => hr k (List.mem_cons_of_mem _ hk)) h3
      have hrd := rd_blind (x := e) (a := k) h1 (hr k (List.mem_cons_self))
      refine ⟨fun x hx => ?_, ?_, by simp [k3]⟩
      · rcases List.mem_cons.1 hx with rfl | hx
        · exact ⟨_, hrd⟩
        · exact k1 x hx
      · simp only [List.map_cons, k2, List.cons.injEq, and_true]
        rw [Go.WideElems.rg_of hrd]; rfl

theorem keys_it {ρ : Ren} (L : SlLaysZI.n10 Tryz.prog ρ) (hρ : ρ.t 26 = 3) (hen : Idl.Enters Tryz.prog (ρ.f 10)) {h : Heap} {b bx : Nat} {es : List (IV × IV)} {ks : List Int} (hm : h b = some (.map es)) (hbx : h bx = some (.cells [.mapv b])) (hk : KeysOf es ks) (hr : ∀ k ∈ ks, inR k) (hl : ks.length ≤ 1000000000) :
    ItOk (.fn (.func (ρ.f 10)) [] [.ptr bx 0]) h (fun ss => ss.Perm ks) ks.length := by
  refine ⟨_, _, rfl, hen, fun F X w lb hh hrep => ?_⟩
  obtain ⟨v, vs', hv, hv1, hv2⟩ := hrep
  cases hv1
  cases hv2
  have hlb : lb = #[.pointer (some ⟨bx, 0, none⟩)] := by apply Array.ext'; exact hv
  subst hlb
  obtain ⟨hX, ents, clock, hb, hre, hst⟩ := hh.hp b _ hm
  obtain ⟨hXb, pre, post, e, hbb, hrp, _⟩ := hh.hp bx _ hbx
  obtain ⟨u, us, rfl, hu, hus⟩ := hrp
  cases hu
  cases hus
  have hcell : w.cell? ⟨bx, 0, none⟩ = some (.map (some b)) := by rw [cell_at hbb]; rfl
  obtain ⟨k1, k2, k3⟩ := keys_rows hk hr hre
  have hown : w.ownsMap Tryz.prog (ρ.t 26) blindR b ents.length (.map ((ents.map (Go.WideElems.rg Tryz.prog (ρ.t 26) blindR)).foldr DataW.insert [])) := by
    refine ⟨ents.toArray, clock, hb, ⟨?_, hst, ?_⟩, by simp, by simp⟩
    · simp only [List.size_toArray, maxLen]; omega
    · rw [hρ]; simpa using k1
  have hg := AnyZI.keys_gives L Fence.wide 8 trivial rfl (by omega) bx b ents.length _ w (hh.xb bx hXb) hcell hown
  rw [hρ] at hg
  have hperm : (intKeys (DataW.map ((ents.map (Go.WideElems.rg Tryz.prog 3 blindR)).foldr DataW.insert []))).Perm ks := by
    rw [← k2]
    exact (Go.WideShapes.sorted_perm _).map _
  have hsize : Maps.size (DataW.map ((ents.map (Go.WideElems.rg Tryz.prog 3 blindR)).foldr DataW.insert [])) = ks.length := by
    rw [← hperm.length_eq]; simp [Maps.size, intKeys]
  rw [hsize] at hg
  have hS : (fun ss : List Int => ss.Perm (intKeys (DataW.map ((ents.map (Go.WideElems.rg Tryz.prog 3 blindR)).foldr DataW.insert [])))) = fun ss => ss.Perm ks := by
    funext ss
    exact propext ⟨fun h => h.trans hperm, fun h => h.trans hperm.symm⟩
  rw [hS] at hg
  exact SeqGives.b hg
end Go.Proofs

set_option linter.unusedVariables false
set_option linter.unusedSimpArgs false
namespace Go.Proofs
open Go.Idl Go.RowKit Go.Maps Go.Sort Go.Shelf
attribute [local go_sem] Oper.semAt_some

end Go.Proofs

set_option linter.unusedVariables false
set_option linter.unusedSimpArgs false
set_option pp.deepTerms false
set_option pp.maxSteps 400
namespace Go.Proofs
open Go.Idl

/-- an event -/
structure Ev where
  kind : Int
  w : Int
  h : Int
  text : ByteArray
instance : DecidableEq Ev := fun a b => decidable_of_iff (a.kind = b.kind ∧ a.w = b.w ∧ a.h = b.h ∧ a.text = b.text) (by cases a; cases b; simp)
def Ev.row (e : Ev) : List IV := [.int .u8 e.kind, .int .i64 e.w, .int .i64 e.h, .str e.text]
theorem evs_uni (l : List Ev) : uni 4 (l.map Ev.row) = true := by simp [uni, Ev.row]
attribute [go_sem high] evs_uni

/-- what a record holds -/
def RecIs (h : Heap) (rb eb cap : Nat) (l : List Ev) : Prop :=
  (l = [] ∧ h rb = some (.cells [.list .tight []])) ∨
  (l ≠ [] ∧ h rb = some (.cells [.sl 4 eb 0 l.length cap]) ∧ h eb = some (.arr 504 4 (l.map Ev.row) cap) ∧ l.length ≤ cap)
def recR (rb eb : Nat) (l : List Ev) (ev : Ev) (h : Heap) (e : IEnd) (h' : Heap) : Prop :=
  e = .ret (.tup []) ∧ ∃ eb' cap', ((eb' = eb ∧ l ≠ []) ∨ h eb' = none) ∧ eb' ≠ rb ∧ RecIs h' rb eb' cap' (l ++ [ev]) ∧ ∀ j, j ≠ rb → j ≠ eb' → h' j = h j
theorem RecIs.some {h rb eb cap l} (hr : RecIs h rb eb cap l) : ∃ v, h rb = some (.cells [v]) := by
  rcases hr with ⟨_, h1⟩ | ⟨_, h1, _⟩ <;> exact ⟨_, h1⟩

theorem put_c (rb eb cap : Nat) (l : List Ev) (e : Ev) (h : Heap) (hr : RecIs h rb eb cap l) (hne : eb ≠ rb) (hl : l.length < 1000000000) :
    ICall Tryz.prog 413 [.ptr rb 0, .agg e.row] h (recR rb eb l e h) := by
  refine icall_of_iwp (fun d => if d = 13 then 2 else 0) Tryz.func413 rfl (by kernel_rfl) (Nat.le_of_ble_eq_true rfl) ?_
  rw [Tryz.results413]
  have hroom : roomy Tryz.prog 504 (l.length + 1) := by simp only [roomy, byT_504]; omega
  rcases hr with ⟨rfl, h1⟩ | ⟨h0, h1, h2, h3⟩
  · have hroom' : roomy Tryz.prog 504 1 := by simpa using hroom
    simp -implicitDefEqProofs [go_sem, Ev.row, h1]
    refine iwp_drawn_of mixed [0,1,2,3,4,5,6,7,8,9,10] (by kernel_rfl) ?_
    simp -implicitDefEqProofs [go_sem, Ev.row, h1, hroom']
    intro b' cap' hb' hc'
    have hbr : b' ≠ rb := by rintro rfl; rw [h1] at hb'; cases hb'
    have hbr' : rb ≠ b' := Ne.symm hbr
    simp -implicitDefEqProofs [go_sem, Ev.row, h1, hroom', hbr, hbr']
    refine ⟨_, Sub.refl _, rfl, b', cap', .inr hb', hbr, .inr ⟨by simp, ?_, ?_, hc'⟩, ?_⟩
    · simp -implicitDefEqProofs [go_sem, hbr, hbr']
    · simp -implicitDefEqProofs [go_sem, hbr, hbr', Ev.row]
    · intro j hj1 hj2
      simp -implicitDefEqProofs [go_sem, hj1, hj2]
  · simp -implicitDefEqProofs [go_sem, Ev.row, h1, h2]
    refine iwp_drawn_of mixed [0,1,2,3,4,5,6,7,8,9,10] (by kernel_rfl) ?_
    have hne' : rb ≠ eb := Ne.symm hne
    simp -implicitDefEqProofs [go_sem, Ev.row, h1, h2, hroom, hne, hne']
    refine ⟨fun hfit => ?_, fun hbig b' cap' hb' hc' => ?_⟩
    · refine ⟨_, Sub.refl _, rfl, eb, cap, .inl ⟨rfl, h0⟩, hne, .inr ⟨by simp, ?_, ?_, by simpa using hfit⟩, ?_⟩
      · simp -implicitDefEqProofs [go_sem, hne, hne']
      · simp -implicitDefEqProofs [go_sem, hne, hne', Ev.row]
      · intro j hj1 hj2
        simp -implicitDefEqProofs [go_sem, hj1, hj2]
    · have hbr : b' ≠ rb := by rintro rfl; rw [h1] at hb'; cases hb'
      have hbr' : rb ≠ b' := Ne.symm hbr
      simp -implicitDefEqProofs [go_sem, hbr, hbr']
      refine ⟨_, Sub.refl _, rfl, b', cap', .inr hb', hbr, .inr ⟨by simp, ?_, ?_, by simpa using hc'⟩, ?_⟩
      · simp -implicitDefEqProofs [go_sem, hbr, hbr']
      · simp -implicitDefEqProofs [go_sem, hbr, hbr', Ev.row]
      · intro j hj1 hj2
        simp -implicitDefEqProofs [go_sem, hj1, hj2]
end Go.Proofs

set_option linter.unusedVariables false
set_option linter.unusedSimpArgs false
set_option pp.deepTerms false
set_option pp.maxSteps 400
namespace Go.Proofs
open Go.Idl

/-- a pane of a board, as a model -/
structure PM where
  id : Int
  told : Bool
  w : Int
  h : Int
  evs : List Ev
  gone : Bool
/-- .. and where it lies -/
structure PB where
  m : PM
  pb : Nat
  rb : Nat
  eb : Nat
  cap : Nat
def paneC (p : PB) : List IV := [.iface 339 (.ptr p.rb 0), .bool p.m.told, .int .i64 p.m.w, .int .i64 p.m.h]
def PM.is (id : Int) (p : PM) : Bool := !p.gone && (p.id == id)
def liveE (L : List PB) : List (IV × IV) := (L.filter fun p => !p.m.gone).map fun p => (.int .i64 p.m.id, .ptr p.pb 0)

theorem find_live (id : Int) : ∀ L : List PB, ifind (.int .i64) (.int .i64 id) (liveE L) = some ((L.find? fun p => p.m.is id).map fun p => .ptr p.pb 0)
  | [] => rfl
  | p :: r => by
    have ih := find_live id r
    cases hg : p.m.gone with
    | true =>
      have e1 : liveE (p :: r) = liveE r := by simp [liveE, hg]
      rw [e1, ih, List.find?_cons]
      simp [PM.is, hg]
    | false =>
      have e1 : liveE (p :: r) = (.int .i64 p.m.id, .ptr p.pb 0) :: liveE r := by simp [liveE, hg]
      rw [e1, List.find?_cons]
      simp only [ifind, kEq, if_true]
      by_cases hi : id = p.m.id
      · simp [PM.is, hg, hi]
      · have h1 : (id == p.m.id) = false := by simpa using hi
        have h2 : (p.m.id == id) = false := by simpa using Ne.symm hi
        simp [PM.is, hg, h1, h2, ih]

structure BoardAt (k : Nat) (tag : Nat → Nat × Nat × Nat) (h : Heap) (bb mb : Nat) (L : List PB) : Prop where
  hb : h bb = some (.cells [.mapv mb])
  tb : tag bb = (k, 0, 0)
  hm : h mb = some (.map (liveE L))
  tm : tag mb = (k, 1, 0)
  hp : ∀ i p, L[i]? = some p → (p.m.gone = false → h p.pb = some (.cells (paneC p)) ∧ tag p.pb = (k, 2, i)) ∧ RecIs h p.rb p.eb p.cap p.m.evs ∧ tag p.rb = (k, 3, i) ∧ (p.m.evs ≠ [] → tag p.eb = (k, 4, i))
  nd : ((L.filter fun p => !p.m.gone).map fun p => p.m.id).Nodup

def Frm (k : Nat) (tag : Nat → Nat × Nat × Nat) (h : Heap) (tag' : Nat → Nat × Nat × Nat) (h' : Heap) : Prop := ∀ j o, h j = some o → (tag j).1 ≠ k → h' j = some o ∧ tag' j = tag j
theorem Frm.refl (k tag h) : Frm k tag h tag h := fun _ _ h _ => ⟨h, rfl⟩
theorem Frm.trans {k tag h tag1 h1 tag2 h2} (a : Frm k tag h tag1 h1) (b : Frm k tag1 h1 tag2 h2) : Frm k tag h tag2 h2 := fun j o ho ht => by
  obtain ⟨g1, g2⟩ := a j o ho ht
  obtain ⟨g3, g4⟩ := b j o g1 (by rw [g2]; exact ht)
  exact ⟨g3, g4.trans g2⟩
/-- the records stay where they are -/
def Stay (L L' : List PB) : Prop := ∀ (i : Nat) (p : PB), L[i]? = some p → ∃ p' : PB, L'[i]? = some p' ∧ p'.rb = p.rb
theorem Stay.refl (L : List PB) : Stay L L := fun i p h => ⟨p, h, rfl⟩
theorem Stay.trans {A B C} (a : Stay A B) (b : Stay B C) : Stay A C := fun i p h => by
  obtain ⟨p1, h1, e1⟩ := a i p h
  obtain ⟨p2, h2, e2⟩ := b i p1 h1
  exact ⟨p2, h2, e2.trans e1⟩

theorem liveE_set {L : List PB} {i : Nat} {p p' : PB} (hi : L[i]? = some p) (h1 : p'.m.gone = p.m.gone) (h2 : p'.m.id = p.m.id) (h3 : p'.pb = p.pb) : liveE (L.set i p') = liveE L ∧ ((L.set i p').filter fun p => !p.m.gone).map (fun p => p.m.id) = (L.filter fun p => !p.m.gone).map fun p => p.m.id := by
  induction L generalizing i with
  | nil => simp at hi
  | cons q r ih =>
    cases i with
    | zero =>
      simp only [List.getElem?_cons_zero, Option.some.injEq] at hi
      subst hi
      simp only [List.set_cons_zero, liveE, List.filter_cons, h1]
      split <;> simp [h2, h3]
    | succ i =>
      simp only [List.getElem?_cons_succ] at hi
      obtain ⟨k1, k2⟩ := ih hi
      simp only [List.set_cons_succ, liveE, List.filter_cons] at k1 k2 ⊢
      split <;> simp [k1, k2]

theorem RecIs.keep {h h' : Heap} {rb eb cap l} (hr : RecIs h rb eb cap l) (h1 : h' rb = h rb) (h2 : l ≠ [] → h' eb = h eb) : RecIs h' rb eb cap l := by
  rcases hr with ⟨rfl, g1⟩ | ⟨g0, g1, g2, g3⟩
  · exact .inl ⟨rfl, h1.trans g1⟩
  · exact .inr ⟨g0, h1.trans g1, (h2 g0).trans g2, g3⟩

/-- a pane turns, with its record -/
theorem BoardAt.turn {k tag h bb mb L} (hB : BoardAt k tag h bb mb L) {i : Nat} {p : PB} (hi : L[i]? = some p) {p' : PB} {h' : Heap} (h1 : p'.m.gone = p.m.gone) (h2 : p'.m.id = p.m.id) (h3 : p'.pb = p.pb) (h4 : p'.rb = p.rb)
    (hpb : p'.m.gone = false → h' p'.pb = some (.cells (paneC p'))) (hrec : RecIs h' p'.rb p'.eb p'.cap p'.m.evs) (heb : (p'.eb = p.eb ∧ p.m.evs ≠ []) ∨ h p'.eb = none)
    (hfr : ∀ j, j ≠ p.pb → j ≠ p.rb → j ≠ p'.eb → h' j = h j) (hgp : p.m.gone = true → h' p.pb = h p.pb) :
    BoardAt k (upd tag p'.eb (k, 4, i)) h' bb mb (L.set i p') ∧ Frm k tag h (upd tag p'.eb (k, 4, i)) h' ∧ Stay L (L.set i p') := by
  obtain ⟨q1, q2, q3, q4⟩ := hB.hp i p hi
  have hlt := (List.getElem?_eq_some_iff.1 hi).1
  obtain ⟨le1, le2⟩ := liveE_set (p' := p') hi h1 h2 h3
  have tagne : ∀ j o t, h j = some o → tag j = t → t ≠ (k, 4, i) → j ≠ p'.eb := by
    rintro j o t ho ht hn rfl
    rcases heb with ⟨e1, e2⟩ | e1
    · have := q4 e2; rw [← e1, ht] at this; exact hn this
    · rw [e1] at ho; cases ho
  have tagpb : ∀ j, tag j ≠ (k, 2, i) → p.m.gone = false → j ≠ p.pb := by rintro j hj hg rfl; exact hj (q1 hg).2
  have tagrb : ∀ j, tag j ≠ (k, 3, i) → j ≠ p.rb := by rintro j hj rfl; exact hj q3
  have hfr' : ∀ j, tag j ≠ (k, 2, i) → tag j ≠ (k, 3, i) → j ≠ p'.eb → h' j = h j := by
    intro j t1 t2 t3
    cases hg : p.m.gone with
    | false => exact hfr j (tagpb j t1 hg) (tagrb j t2) t3
    | true =>
      by_cases hj : j = p.pb
      · subst hj; exact hgp hg
      · exact hfr j hj (tagrb j t2) t3
  obtain ⟨vr, hvr⟩ := q2.some
  have nbb := tagne bb _ _ hB.hb hB.tb (by simp)
  have nmb := tagne mb _ _ hB.hm hB.tm (by simp)
  refine ⟨⟨?_, ?_, ?_, ?_, ?_, ?_⟩, ?_, ?_⟩
  · rw [hfr' bb (by rw [hB.tb]; simp) (by rw [hB.tb]; simp) nbb]; exact hB.hb
  · rw [upd_ne _ _ nbb]; exact hB.tb
  · rw [hfr' mb (by rw [hB.tm]; simp) (by rw [hB.tm]; simp) nmb, le1]; exact hB.hm
  · rw [upd_ne _ _ nmb]; exact hB.tm
  · intro i2 p2 hp2
    rw [List.getElem?_set] at hp2
    split at hp2
    · rename_i hii
      subst hii
      cases hp2
      have nrb : p.rb ≠ p'.eb := tagne p.rb _ _ hvr q3 (by simp)
      refine ⟨fun hg => ⟨hpb hg, ?_⟩, hrec, ?_, fun _ => upd_same _ _ _⟩
      · have hg' : p.m.gone = false := by rw [← h1]; exact hg
        rw [h3]
        have npb : p.pb ≠ p'.eb := tagne p.pb _ _ (q1 hg').1 (q1 hg').2 (by simp)
        rw [upd_ne _ _ npb]; exact (q1 hg').2
      · rw [h4, upd_ne _ _ nrb]; exact q3
    · rename_i hii
      obtain ⟨r1, r2, r3, r4⟩ := hB.hp i2 p2 hp2
      obtain ⟨vr2, hvr2⟩ := r2.some
      have nrb : p2.rb ≠ p'.eb := tagne p2.rb _ _ hvr2 r3 (by simp)
      refine ⟨fun hg => ?_, ?_, ?_, ?_⟩
      · have npb : p2.pb ≠ p'.eb := tagne p2.pb _ _ (r1 hg).1 (r1 hg).2 (by simp)
        rw [hfr' p2.pb (by rw [(r1 hg).2]; simp; omega) (by rw [(r1 hg).2]; simp) npb, upd_ne _ _ npb]
        exact r1 hg
      · refine r2.keep (hfr' p2.rb (by rw [r3]; simp) (by rw [r3]; simp; omega) nrb) (fun he => ?_)
        have hob : ∃ o, h p2.eb = some o := by
          rcases r2 with ⟨g0, _⟩ | ⟨_, _, g2, _⟩
          · exact absurd g0 he
          · exact ⟨_, g2⟩
        obtain ⟨o, ho⟩ := hob
        have neb : p2.eb ≠ p'.eb := tagne p2.eb _ _ ho (r4 he) (by simp; omega)
        exact hfr' p2.eb (by rw [r4 he]; simp) (by rw [r4 he]; simp) neb
      · rw [upd_ne _ _ nrb]; exact r3
      · intro he
        have hob : ∃ o, h p2.eb = some o := by
          rcases r2 with ⟨g0, _⟩ | ⟨_, _, g2, _⟩
          · exact absurd g0 he
          · exact ⟨_, g2⟩
        obtain ⟨o, ho⟩ := hob
        have neb : p2.eb ≠ p'.eb := tagne p2.eb _ _ ho (r4 he) (by simp; omega)
        rw [upd_ne _ _ neb]; exact r4 he
  · rw [le2]; exact hB.nd
  · intro j o ho ht
    have nj : j ≠ p'.eb := tagne j o _ ho rfl (by rintro e; rw [e] at ht; exact ht rfl)
    refine ⟨?_, upd_ne _ _ nj⟩
    rw [hfr' j (fun e => by rw [e] at ht; exact ht rfl) (fun e => by rw [e] at ht; exact ht rfl) nj]; exact ho
  · intro i2 p2 hp2
    by_cases hii : i = i2
    · subst hii
      rw [hi] at hp2; cases hp2
      exact ⟨p', by rw [List.getElem?_set]; simp [hlt], h4⟩
    · exact ⟨p2, by rw [List.getElem?_set]; simp [hii, hp2], rfl⟩
end Go.Proofs

set_option linter.unusedVariables false
set_option linter.unusedSimpArgs false
set_option pp.deepTerms false
set_option pp.maxSteps 400
namespace Go.Proofs
open Go.Idl

@[go_sem] theorem meth_Size : methT Tryz.prog 339 "Size" = some 412 := by kernel_rfl
@[go_sem] theorem meth_Input : methT Tryz.prog 339 "Input" = some 411 := by kernel_rfl
@[go_sem] theorem meth_Close : methT Tryz.prog 339 "Close" = some 410 := by kernel_rfl

theorem recsize_c (rb eb cap : Nat) (l : List Ev) (w hh : Int) (h : Heap) (hr : RecIs h rb eb cap l) (hne : eb ≠ rb) (hl : l.length < 1000000000) :
    ICall Tryz.prog 412 [.ptr rb 0, .int .i64 w, .int .i64 hh] h (recR rb eb l ⟨1, w, hh, ⟨#[]⟩⟩ h) := by
  refine icall_of_iwp (fun _ => 0) Tryz.func412 rfl (by kernel_rfl) (Nat.le_of_ble_eq_true rfl) ?_
  rw [Tryz.results412]
  simp -implicitDefEqProofs [go_sem]
  refine (put_c rb eb cap l ⟨1, w, hh, ⟨#[]⟩⟩ h hr hne hl).mono ?_
  rintro e h' ⟨rfl, he⟩
  simp -implicitDefEqProofs [go_sem]
  exact ⟨_, Sub.refl _, rfl, he⟩
/-! at a nil record -/
/-! what a record was told -/
/-! new ones -/
theorem newRec_c (h : Heap) : ICall Tryz.prog 229 [] h (fun e h' => ∃ rb, h rb = none ∧ e = .ret (.ptr rb 0) ∧ h' = upd h rb (some (.cells [.list .tight []]))) := by
  refine icall_of_iwp (fun d => if d = 2 then 1 else 0) Tryz.func229 rfl (by kernel_rfl) (Nat.le_of_ble_eq_true rfl) ?_
  rw [Tryz.results229]
  simp -implicitDefEqProofs [go_sem]
  intro b hb
  exact ⟨_, Sub.refl _, b, hb, rfl, rfl⟩
theorem newBoard_c (h : Heap) : ICall Tryz.prog 37 [] h (fun e h' => ∃ bb mb, h bb = none ∧ h mb = none ∧ bb ≠ mb ∧ e = .ret (.ptr bb 0) ∧ h' = upd (upd h mb (some (.map []))) bb (some (.cells [.mapv mb]))) := by
  refine icall_of_iwp (fun d => if d = 3 then 1 else 0) Tryz.func37 rfl (by kernel_rfl) (Nat.le_of_ble_eq_true rfl) ?_
  rw [Tryz.results37]
  simp -implicitDefEqProofs [go_sem]
  intro mb hmb bb hbb
  have hne : bb ≠ mb := by rintro rfl; simp at hbb
  simp only [hne, if_false] at hbb
  exact ⟨_, Sub.refl _, bb, hbb, mb, hmb, hne, rfl, rfl⟩

/-! has -/
def hasV (L : List PB) (id : Int) : IV := match L.find? fun p => p.m.is id with | some p => .ptr p.pb 0 | none => .nilptr
theorem bhas_c {k tag h bb mb L} (hB : BoardAt k tag h bb mb L) (id : Int) : ICall Tryz.prog 86 [.ptr bb 0, .int .i64 id] h (retP (hasV L id) h) := by
  refine icall_of_iwp (fun d => 0) Tryz.func86 rfl (by kernel_rfl) (Nat.le_of_ble_eq_true rfl) ?_
  rw [Tryz.results86]
  have h1 := hB.hb
  have h2 := hB.hm
  simp -implicitDefEqProofs [go_sem, h1, h2, find_live]
  refine ⟨_, Sub.refl _, ?_, rfl⟩
  unfold hasV
  cases L.find? fun p => p.m.is id <;> rfl
end Go.Proofs

set_option linter.unusedVariables false
set_option linter.unusedSimpArgs false
set_option pp.deepTerms false
set_option pp.maxSteps 400
namespace Go.Proofs
open Go.Idl

theorem iput_live (id : Int) (v : IV) : ∀ L : List PB, (L.find? fun p => p.m.is id) = none → iput (.int .i64) (.int .i64 id) v (liveE L) = some (liveE L ++ [(.int .i64 id, v)])
  | [], _ => rfl
  | p :: r, hf => by
    rw [List.find?_cons] at hf
    cases hg : p.m.gone with
    | true =>
      have e1 : liveE (p :: r) = liveE r := by simp [liveE, hg]
      rw [e1]
      have h1 : p.m.is id = false := by simp [PM.is, hg]
      rw [h1] at hf
      exact iput_live id v r hf
    | false =>
      have e1 : liveE (p :: r) = (.int .i64 p.m.id, .ptr p.pb 0) :: liveE r := by simp [liveE, hg]
      rw [e1]
      cases hi : p.m.is id with
      | true => rw [hi] at hf; cases hf
      | false =>
        rw [hi] at hf
        have h1 : (id == p.m.id) = false := by
          simp [PM.is, hg] at hi
          simpa using Ne.symm hi
        simp only [iput, kEq, if_true, h1, iput_live id v r hf, Option.map_some, List.cons_append]

/-- what is there stands, where a block is new -/
theorem BoardAt.grow {k tag h bb mb L} (hB : BoardAt k tag h bb mb L) {b : Nat} (hb : h b = none) (o : Option IObj) (t : Nat × Nat × Nat) : BoardAt k (upd tag b t) (upd h b o) bb mb L := by
  have ne : ∀ j x, h j = some x → j ≠ b := by rintro j x hj rfl; rw [hb] at hj; cases hj
  have n1 := ne bb _ hB.hb
  have n2 := ne mb _ hB.hm
  refine ⟨by rw [upd_ne _ _ n1]; exact hB.hb, by rw [upd_ne _ _ n1]; exact hB.tb, by rw [upd_ne _ _ n2]; exact hB.hm, by rw [upd_ne _ _ n2]; exact hB.tm, fun i p hp => ?_, hB.nd⟩
  obtain ⟨q1, q2, q3, q4⟩ := hB.hp i p hp
  obtain ⟨v, hv⟩ := q2.some
  have n3 := ne p.rb _ hv
  have n4 : p.m.evs ≠ [] → p.eb ≠ b := fun he => by
    rcases q2 with ⟨g0, _⟩ | ⟨_, _, g2, _⟩
    · exact absurd g0 he
    · exact ne _ _ g2
  refine ⟨fun hg => ?_, q2.keep (upd_ne _ _ n3) (fun he => upd_ne _ _ (n4 he)), by rw [upd_ne _ _ n3]; exact q3, fun he => by rw [upd_ne _ _ (n4 he)]; exact q4 he⟩
  have n5 := ne p.pb _ (q1 hg).1
  rw [upd_ne _ _ n5, upd_ne _ _ n5]; exact q1 hg
theorem Frm.grow {k : Nat} {tag h} {b : Nat} (hb : h b = none) (o : Option IObj) (t : Nat × Nat × Nat) : Frm k tag h (upd tag b t) (upd h b o) := by
  intro j x hj _
  have : j ≠ b := by rintro rfl; rw [hb] at hj; cases hj
  rw [upd_ne _ _ this, upd_ne _ _ this]; exact ⟨hj, rfl⟩

def newP (id : Int) (pb rb : Nat) : PB := ⟨⟨id, false, 0, 0, [], false⟩, pb, rb, 0, 0⟩
/-- a board with another pane -/
theorem BoardAt.add {k tag h bb mb L} (hB : BoardAt k tag h bb mb L) {id : Int} (hf : (L.find? fun p => p.m.is id) = none) {rb pb : Nat} (hr : h rb = some (.cells [.list .tight []])) (ht : tag rb = (k, 3, L.length)) (hp : h pb = none) :
    BoardAt k (upd tag pb (k, 2, L.length)) (upd (upd h pb (some (.cells (paneC (newP id pb rb))))) mb (some (.map (liveE L ++ [(.int .i64 id, .ptr pb 0)])))) bb mb (L ++ [newP id pb rb]) ∧
    Frm k tag h (upd tag pb (k, 2, L.length)) (upd (upd h pb (some (.cells (paneC (newP id pb rb))))) mb (some (.map (liveE L ++ [(.int .i64 id, .ptr pb 0)])))) ∧ Stay L (L ++ [newP id pb rb]) := by
  have hG := hB.grow hp (some (.cells (paneC (newP id pb rb)))) (k, 2, L.length)
  have hmb : mb ≠ pb := by rintro rfl; have := hB.hm; rw [hp] at this; cases this
  have hbm : bb ≠ mb := by rintro e; have h1 := hB.tb; have h2 := hB.tm; rw [e, h2] at h1; simp at h1
  have hrp : rb ≠ pb := by rintro rfl; rw [hp] at hr; cases hr
  have hrm : rb ≠ mb := by rintro e; have h2 := hB.tm; rw [← e, ht] at h2; simp at h2
  have hlive : liveE (L ++ [newP id pb rb]) = liveE L ++ [(.int .i64 id, .ptr pb 0)] := by simp [liveE, newP]
  refine ⟨⟨?_, hG.tb, ?_, hG.tm, ?_, ?_⟩, ?_, ?_⟩
  · rw [upd_ne _ _ hbm]; exact hG.hb
  · rw [upd_same, hlive]
  · intro i p hi
    rw [List.getElem?_append] at hi
    split at hi
    · rename_i hlt
      obtain ⟨q1, q2, q3, q4⟩ := hG.hp i p hi
      have tm := hG.tm
      have n1 : p.rb ≠ mb := by rintro e; rw [e, tm] at q3; simp at q3
      refine ⟨fun hg => ?_, q2.keep (upd_ne _ _ n1) (fun he => upd_ne _ _ (by rintro e; have := q4 he; rw [e, tm] at this; simp at this)), q3, q4⟩
      have n2 : p.pb ≠ mb := by rintro e; have := (q1 hg).2; rw [e, tm] at this; simp at this
      rw [upd_ne _ _ n2]; exact q1 hg
    · rename_i hlt
      have hi0 : i - L.length = 0 := by
        rcases Nat.eq_zero_or_pos (i - L.length) with h | h
        · exact h
        · rw [List.getElem?_eq_none (by simp; omega)] at hi; cases hi
      have hil : i = L.length := by omega
      rw [hi0] at hi
      cases hi
      refine ⟨fun _ => ⟨?_, ?_⟩, .inl ⟨rfl, ?_⟩, ?_, fun he => absurd rfl he⟩
      · show upd _ _ _ pb = _
        rw [upd_ne _ _ (Ne.symm hmb), upd_same]
      · show upd _ _ _ pb = _
        rw [upd_same, hil]
      · show upd _ _ _ rb = _
        rw [upd_ne _ _ hrm, upd_ne _ _ hrp]; exact hr
      · show upd _ _ _ rb = _
        rw [upd_ne _ _ hrp, hil]; exact ht
  · simp only [List.filter_append, List.map_append]
    have : (List.filter (fun p => !p.m.gone) [newP id pb rb]).map (fun p => p.m.id) = [id] := by simp [newP]
    rw [this]
    rw [List.nodup_append]
    refine ⟨hB.nd, by simp, ?_⟩
    intro a ha b hb
    simp only [List.mem_cons, List.not_mem_nil, or_false] at hb
    subst hb
    rintro rfl
    obtain ⟨p, hp1, hp2⟩ := List.mem_map.1 ha
    obtain ⟨hp3, hp4⟩ := List.mem_filter.1 hp1
    have := List.find?_eq_none.1 hf p hp3
    apply this
    simp only [PM.is, hp2, beq_self_eq_true, Bool.and_true]
    exact hp4
  · intro j o hj htj
    have n1 : j ≠ mb := by rintro rfl; rw [hB.tm] at htj; exact htj rfl
    have n2 : j ≠ pb := by rintro rfl; rw [hp] at hj; cases hj
    rw [upd_ne _ _ n1, upd_ne _ _ n2, upd_ne _ _ n2]; exact ⟨hj, rfl⟩
  · intro i p hi
    exact ⟨p, by rw [List.getElem?_append_left (List.getElem?_eq_some_iff.1 hi).1]; exact hi, rfl⟩

def addR (k : Nat) (tag : Nat → Nat × Nat × Nat) (h : Heap) (bb mb : Nat) (L : List PB) (id : Int) (rb : Nat) (e : IEnd) (h' : Heap) : Prop :=
  if id < 0 ∨ id > 2147483647 then retP (.int .i64 1) h e h' else
  if (L.find? fun p => p.m.is id) ≠ none then retP (.int .i64 10) h e h' else
  e = .ret (.int .i64 0) ∧ ∃ pb tag', BoardAt k tag' h' bb mb (L ++ [newP id pb rb]) ∧ Frm k tag h tag' h' ∧ Stay L (L ++ [newP id pb rb])
theorem add_c {k tag h bb mb L} (hB : BoardAt k tag h bb mb L) (id : Int) {rb : Nat} (hr : h rb = some (.cells [.list .tight []])) (ht : tag rb = (k, 3, L.length)) :
    ICall Tryz.prog 230 [.ptr bb 0, .int .i64 id, .iface 339 (.ptr rb 0)] h (addR k tag h bb mb L id rb) := by
  refine icall_of_iwp (fun d => if d = 34 then 1 else 0) Tryz.func230 rfl (by kernel_rfl) (Nat.le_of_ble_eq_true rfl) ?_
  rw [Tryz.results230]
  have h1 := hB.hb
  have h2 := hB.hm
  simp -implicitDefEqProofs [go_sem]
  refine cK_dec (fun hid => ?_) (fun hid => ?_)
  · simp -implicitDefEqProofs [go_sem, hid]
    exact ⟨_, Sub.refl _, by rw [addR, if_pos (.inl hid)]; exact ⟨rfl, rfl⟩⟩
  simp -implicitDefEqProofs [go_sem, hid]
  refine cK_dec (fun hid2 => ?_) (fun hid2 => ?_)
  · simp -implicitDefEqProofs [go_sem, hid2]
    exact ⟨_, Sub.refl _, by rw [addR, if_pos (.inr hid2)]; exact ⟨rfl, rfl⟩⟩
  simp -implicitDefEqProofs [go_sem, hid2]
  refine (bhas_c hB id).mono ?_
  rintro e h' ⟨rfl, he⟩
  rw [he]
  have hno : ¬ (id < 0 ∨ id > 2147483647) := fun h => h.elim hid hid2
  unfold hasV
  cases hf : L.find? fun p => p.m.is id with
  | some p =>
    simp -implicitDefEqProofs [go_sem]
    exact ⟨_, Sub.refl _, by rw [addR, if_neg hno, if_pos (by rw [hf]; simp)]; exact ⟨rfl, rfl⟩⟩
  | none =>
    have hip := fun v => iput_live id v L hf
    simp -implicitDefEqProofs [go_sem, h1, h2, hip]
    intro pb hpb
    have hmb : mb ≠ pb := by rintro rfl; rw [hpb] at h2; cases h2
    have hbp : bb ≠ pb := by rintro rfl; rw [hpb] at h1; cases h1
    simp -implicitDefEqProofs [go_sem, h1, h2, hip, hmb, hbp]
    refine ⟨_, Sub.refl _, ?_⟩
    rw [addR, if_neg hno, if_neg (by rw [hf]; simp)]
    obtain ⟨k1, k2, k3⟩ := hB.add hf hr ht hpb
    exact ⟨rfl, pb, _, k1, k2, k3⟩
/-! without a board, or a sink -/
end Go.Proofs

set_option linter.unusedVariables false
set_option linter.unusedSimpArgs false
set_option pp.deepTerms false
set_option pp.maxSteps 400
namespace Go.Proofs
open Go.Idl

structure Pk where
  id : Int
  x : Int
  y : Int
  w : Int
  h : Int
def Pk.row (p : Pk) : List IV := [.int .i64 p.id, .int .i64 p.x, .int .i64 p.y, .int .i64 p.w, .int .i64 p.h]
theorem pns_uni (l : List Pk) : uni 5 (l.map Pk.row) = true := by simp [uni, Pk.row]
attribute [go_sem high] pns_uni
theorem Pk.row_len (p : Pk) : p.row.length = 5 := rfl

def PM.size (p : PM) (w h : Int) : PM := { p with told := true, w := w, h := h, evs := p.evs ++ [⟨1, w, h, ⟨#[]⟩⟩] }
/-- a pane is shown: what is told, and how often -/
def show1 (L : List PM) (x : Pk) : List PM × Nat :=
  match L.findIdx? (PM.is x.id) with
  | none => (L, 0)
  | some i =>
    match L[i]? with
    | none => (L, 0)
    | some p => if p.told = true ∧ p.w = x.w ∧ p.h = x.h then (L, 0) else (L.set i (p.size x.w x.h), 1)
def showM (L : List PM) : List Pk → List PM × Nat
  | [] => (L, 0)
  | x :: r => ((showM (show1 L x).1 r).1, (show1 L x).2 + (showM (show1 L x).1 r).2)
theorem showM_drop (L : List PM) (l : List Pk) (i : Nat) (hi : i < l.length) : showM L (l.drop i) = ((showM (show1 L l[i]).1 (l.drop (i + 1))).1, (show1 L l[i]).2 + (showM (show1 L l[i]).1 (l.drop (i + 1))).2) := by
  rw [List.drop_eq_getElem_cons hi]; rfl
def evsLe (B : Nat) (L : List PM) : Prop := ∀ p ∈ L, p.evs.length ≤ B
theorem evsLe.mono {B B' L} (h : evsLe B L) (hb : B ≤ B') : evsLe B' L := fun p hp => Nat.le_trans (h p hp) hb
theorem evsLe.set {B L i} {p : PM} (h : evsLe B L) (hp : p.evs.length ≤ B) : evsLe B (L.set i p) := fun q hq => by
  rcases List.mem_or_eq_of_mem_set hq with h1 | h1
  · exact h q h1
  · rw [h1]; exact hp

theorem find_ix {L : List PB} {id : Int} {p : PB} (h : (L.find? fun p => p.m.is id) = some p) : ∃ i, L[i]? = some p ∧ (L.map (·.m)).findIdx? (PM.is id) = some i ∧ p.m.is id = true := by
  induction L with
  | nil => cases h
  | cons q r ih =>
    rw [List.find?_cons] at h
    cases hq : q.m.is id with
    | true =>
      rw [hq] at h
      cases h
      exact ⟨0, rfl, by simp [List.findIdx?_cons, hq], hq⟩
    | false =>
      rw [hq] at h
      obtain ⟨i, h1, h2, h3⟩ := ih h
      exact ⟨i + 1, by simpa using h1, by simp [List.findIdx?_cons, hq, h2], h3⟩
theorem find_no {L : List PB} {id : Int} (h : (L.find? fun p => p.m.is id) = none) : (L.map (·.m)).findIdx? (PM.is id) = none := by
  rw [List.findIdx?_eq_none_iff]
  intro x hx
  obtain ⟨p, hp, rfl⟩ := List.mem_map.1 hx
  have := List.find?_eq_none.1 h p hp
  simpa using this

/-- one pane's record is told something -/
theorem told_turn {k tag h bb mb L} (hB : BoardAt k tag h bb mb L) {i : Nat} {p : PB} (hi : L[i]? = some p) (hg : p.m.gone = false) {m' : PM} {ev : Ev} (h1 : m'.gone = false) (h2 : m'.id = p.m.id) (h3 : m'.evs = p.m.evs ++ [ev])
    {hx : Heap} {e : IEnd} {h' : Heap} (eb : Nat) (hebk : p.m.evs ≠ [] → eb = p.eb) (hx1 : hx p.pb = some (.cells (paneC { p with m := m' }))) (hx2 : ∀ j, j ≠ p.pb → hx j = h j) (hR : recR p.rb eb p.m.evs ev hx e h') :
    ∃ p' tag', p'.m = m' ∧ BoardAt k tag' h' bb mb (L.set i p') ∧ Frm k tag h tag' h' ∧ Stay L (L.set i p') := by
  obtain ⟨rfl, eb', cap', heb, hne, hrec, hfr⟩ := hR
  obtain ⟨q1, q2, q3, q4⟩ := hB.hp i p hi
  obtain ⟨v, hv⟩ := q2.some
  have hrp : p.rb ≠ p.pb := by rintro e; have := (q1 hg).2; rw [← e, q3] at this; simp at this
  have hnp : eb' ≠ p.pb := by
    rintro e0
    rcases heb with ⟨e1, h0⟩ | e1
    · have := q4 h0
      rw [← hebk h0, ← e1, e0] at this
      have h5 := (q1 hg).2
      rw [this] at h5; simp at h5
    · rw [e0, hx1] at e1; cases e1
  obtain ⟨k1, k2, k3⟩ := hB.turn hi (p' := ⟨m', p.pb, p.rb, eb', cap'⟩) (h' := h') (h1.trans hg.symm) h2 rfl rfl
    (fun _ => by rw [hfr p.pb (Ne.symm hrp) (Ne.symm hnp)]; exact hx1) (by rw [h3]; exact hrec)
    (heb.elim (fun g => .inl ⟨g.1.trans (hebk g.2), g.2⟩) (fun g => .inr (by rw [← hx2 eb' hnp]; exact g)))
    (fun j j1 j2 j3 => by rw [hfr j j2 j3, hx2 j j1]) (fun g => by rw [hg] at g; cases g)
  exact ⟨_, _, rfl, k1, k2, k3⟩

theorem map_set_m (L : List PB) (i : Nat) (p : PB) : (L.set i p).map (·.m) = (L.map (·.m)).set i p.m := by rw [List.map_set]

/-- the parameters of told_turn's first premise, where nothing was told before -/
theorem eb_pick {k tag h bb mb L} (hB : BoardAt k tag h bb mb L) {i : Nat} {p : PB} (hi : L[i]? = some p) : ∃ eb, eb ≠ p.rb ∧ (p.m.evs ≠ [] → eb = p.eb) ∧ RecIs h p.rb eb p.cap p.m.evs := by
  obtain ⟨q1, q2, q3, q4⟩ := hB.hp i p hi
  by_cases h0 : p.m.evs = []
  · refine ⟨p.rb + 1, by omega, fun h => absurd h0 h, ?_⟩
    rcases q2 with g | g
    · exact .inl g
    · exact absurd h0 g.1
  · refine ⟨p.eb, ?_, fun _ => rfl, q2⟩
    rintro e; have := q4 h0; rw [e, q3] at this; simp at this

def showR (k : Nat) (tag : Nat → Nat × Nat × Nat) (h : Heap) (bb mb : Nat) (L : List PB) (l : List Pk) (e : IEnd) (h' : Heap) : Prop :=
  ∃ tag' L', e = .ret (.int .i64 ((showM (L.map (·.m)) l).2 : Nat)) ∧ BoardAt k tag' h' bb mb L' ∧ Frm k tag h tag' h' ∧ Stay L L' ∧ L'.map (·.m) = (showM (L.map (·.m)) l).1
set_option maxRecDepth 20000 in
set_option maxHeartbeats 4000000 in
theorem show_c {k tag h bb mb L} (hB : BoardAt k tag h bb mb L) (l : List Pk) (B : Nat) (hev : evsLe B (L.map (·.m))) (hb : B + l.length < 1000000000) :
    ICall Tryz.prog 94 [.ptr bb 0, .list .plain (l.map Pk.row)] h (showR k tag h bb mb L l) := by
  refine icall_of_iwp (fun d => if d = 52 then 8 else if d = 55 then 8 else if d = 57 then 9 else if d = 59 then 9 else if d = 61 then 9 else 0) Tryz.func94 rfl (by kernel_rfl) (Nat.le_of_ble_eq_true rfl) ?_
  rw [Tryz.results94]
  simp -implicitDefEqProofs [go_sem]
  refine iwp_loopF (rng [5,7,8] 11 76) (fun k => k == 7) (fun s => ∃ (i c : Nat) (tag' : Nat → Nat × Nat × Nat) (L' : List PB), i ≤ l.length ∧ s.t 11 = .int .i64 i ∧ s.t 5 = .int .i64 c ∧ c ≤ i ∧ BoardAt k tag' s.h bb mb L' ∧ Frm k tag h tag' s.h ∧ Stay L L' ∧ evsLe (B + i) (L'.map (·.m)) ∧
    showM (L.map (·.m)) l = ((showM (L'.map (·.m)) (l.drop i)).1, c + (showM (L'.map (·.m)) (l.drop i)).2)) (fun s => l.length - tn (s.t 11)) ?_ ?_
  · exact ⟨0, 0, tag, L, Nat.zero_le _, by simp -implicitDefEqProofs [go_sem], by simp -implicitDefEqProofs [go_sem], Nat.le_refl _, by simpa -implicitDefEqProofs [go_sem] using hB, by simpa -implicitDefEqProofs [go_sem] using Frm.refl k tag h, Stay.refl L, hev, by simp⟩
  rintro J s hJ hf ⟨i, c, tag', L', hi, h11, h5, hci, hB', hF', hS', hE', hM⟩
  simp -implicitDefEqProofs [go_sem, h11, h5, hf.t, hf.m]
  refine cK_dec (fun hlt => ?_) (fun hlt => ?_)
  · have hlt' : i < l.length := by omega
    have hw := wrap_succ (i := i) (by omega)
    have hwc := wrap_succ (i := c) (by omega)
    have hstep := showM_drop (L'.map (·.m)) l i hlt'
    simp -implicitDefEqProofs [go_sem, h11, h5, hf.t, hf.m, hlt', Pk.row]
    refine (bhas_c hB' l[i].id).mono ?_
    rintro e h' ⟨rfl, he⟩
    rw [he]
    unfold hasV
    cases hfd : L'.find? fun p => p.m.is l[i].id with
    | none =>
      have hno := find_no hfd
      have h1 : show1 (L'.map (·.m)) l[i] = (L'.map (·.m), 0) := by simp only [show1, hno]
      rw [h1] at hstep
      simp -implicitDefEqProofs [go_sem, h11, h5, hf.t, hf.m]
      refine iwp_drawn_of mixed [0,1,2,3,4,5,6,7,8,9,10,11,12,13,14,15,16,17,18,19,20,21,22,23,24,25,26,27] (by kernel_rfl) ?_
      simp -implicitDefEqProofs [go_sem, h11, h5, hf.t, hf.m, hf, hw]
      refine hJ _ ⟨i + 1, c, tag', L', hlt', by simp -implicitDefEqProofs [go_sem, h11, hw], by simp -implicitDefEqProofs [go_sem, h5], by omega, by simpa -implicitDefEqProofs [go_sem] using hB', by simpa -implicitDefEqProofs [go_sem] using hF', hS', hE'.mono (by omega), ?_⟩ (by simp [go_sem, h11, hw]; omega)
      rw [hM, hstep]; simp
    | some p =>
      obtain ⟨ix, hix, hfi, his⟩ := find_ix hfd
      have hgp : p.m.gone = false := by simp [PM.is] at his; exact his.1
      obtain ⟨q1, q2, q3, q4⟩ := hB'.hp ix p hix
      have hpc := (q1 hgp).1
      simp -implicitDefEqProofs [go_sem, h11, h5, hf.t, hf.m]
      refine iwp_drawn_of mixed [0,1,2,3,4,5,6,7,8,9,10,11,12,13,14,15,16,17,18,19,20,21,22,23,24,25,26,27] (by kernel_rfl) ?_
      by_cases hsm : p.m.told = true ∧ p.m.w = l[i].w ∧ p.m.h = l[i].h
      · obtain ⟨s1, s2, s3⟩ := hsm
        have h1 : show1 (L'.map (·.m)) l[i] = (L'.map (·.m), 0) := by simp only [show1, hfi, List.getElem?_map, hix, Option.map_some, s1, s2, s3, and_self, if_true]
        rw [h1] at hstep
        simp -implicitDefEqProofs [go_sem, h11, h5, hf.t, hf.m, hf, hpc, paneC, s1, s2, s3, hw]
        refine hJ _ ⟨i + 1, c, tag', L', hlt', by simp -implicitDefEqProofs [go_sem, h11, hw], by simp -implicitDefEqProofs [go_sem, h5], by omega, by simpa -implicitDefEqProofs [go_sem] using hB', by simpa -implicitDefEqProofs [go_sem] using hF', hS', hE'.mono (by omega), ?_⟩ (by simp [go_sem, h11, hw]; omega)
        rw [hM, hstep]; simp
      · have h1 : show1 (L'.map (·.m)) l[i] = ((L'.map (·.m)).set ix (p.m.size l[i].w l[i].h), 1) := by simp only [show1, hfi, List.getElem?_map, hix, Option.map_some, if_neg hsm]
        rw [h1] at hstep
        obtain ⟨eb, e1, e2, e3⟩ := eb_pick hB' hix
        have hel : p.m.evs.length ≤ B + i := hE' p.m (List.mem_map.2 ⟨p, List.mem_of_getElem? hix, rfl⟩)
        have hpr : p.pb ≠ p.rb := by rintro e; have := (q1 hgp).2; rw [e, q3] at this; simp at this
        have hebp : eb ≠ p.pb ∨ p.m.evs = [] := by
          by_cases h0 : p.m.evs = []
          · exact .inr h0
          · left; rintro e; have h5 := q4 h0; rw [← e2 h0, e, (q1 hgp).2] at h5; simp at h5
        have hsz := fun (hx : Heap) (hr : RecIs hx p.rb eb p.cap p.m.evs) => recsize_c p.rb eb p.cap p.m.evs l[i].w l[i].h hx hr e1 (by omega)
        have hrx : RecIs (upd s.h p.pb (some (.cells (paneC { p with m := p.m.size l[i].w l[i].h })))) p.rb eb p.cap p.m.evs := e3.keep (upd_ne _ _ (Ne.symm hpr)) (fun he => upd_ne _ _ (hebp.resolve_right he))
        have hfin := hsz _ hrx
        clear hsz
        have hcase : p.m.told = false ∨ (p.m.told = true ∧ p.m.w = l[i].w ∧ (p.m.h == l[i].h) = false) ∨ (p.m.told = true ∧ (p.m.w == l[i].w) = false) := by
          cases ht : p.m.told
          · exact .inl rfl
          · by_cases hwe : p.m.w = l[i].w
            · refine .inr (.inl ⟨rfl, hwe, ?_⟩)
              have : p.m.h ≠ l[i].h := fun h => hsm ⟨ht, hwe, h⟩
              simpa using this
            · exact .inr (.inr ⟨rfl, by simpa using hwe⟩)
        have hfl : ∀ c1 c2 c3 : Option IObj, upd (upd (upd s.h p.pb c1) p.pb c2) p.pb c3 = upd s.h p.pb c3 := fun c1 c2 c3 => by funext j; simp only [upd]; split <;> rfl
        rcases hcase with ht | ⟨ht, hwe, hhe⟩ | ⟨ht, hwb⟩ <;> (first
          | simp -implicitDefEqProofs [go_sem, h11, h5, hf.t, hf.m, hf, hpc, paneC, ht, hwe, hhe]
          | simp -implicitDefEqProofs [go_sem, h11, h5, hf.t, hf.m, hf, hpc, paneC, ht, hwb]
          | simp -implicitDefEqProofs [go_sem, h11, h5, hf.t, hf.m, hf, hpc, paneC, ht])
        all_goals (
          refine iwp_drawn_of mixed [0,1,2,3,4,5,6,7,8,9,10,11,12,13,14,15,16,17] (by kernel_rfl) ?_
          simp -implicitDefEqProofs [go_sem, h11, h5, hf.t, hf.m, hf, hpc, paneC]
          refine iwp_drawn_of mixed [0,1,2,3,4,5,6,7,8,9,10] (by kernel_rfl) ?_
          simp -implicitDefEqProofs [go_sem, h11, h5, hf.t, hf.m, hf, hpc, paneC]
          try rw [hfl]
          refine hfin.mono ?_
          intro e h' hR
          obtain ⟨p', tag2, k0, k1, k2, k3⟩ := told_turn hB' hix hgp (m' := p.m.size l[i].w l[i].h) (ev := ⟨1, l[i].w, l[i].h, ⟨#[]⟩⟩) hgp rfl rfl eb e2 (upd_same _ _ _) (fun j hj => upd_ne _ _ hj) hR
          obtain ⟨rfl, _⟩ := hR
          simp -implicitDefEqProofs [go_sem, h11, h5, hf.t, hf.m, hf, hw, hwc]
          refine hJ _ ⟨i + 1, c + 1, tag2, L'.set ix p', hlt', by simp -implicitDefEqProofs [go_sem, h11, hw], by simp -implicitDefEqProofs [go_sem, h5, hwc], by omega, by simpa -implicitDefEqProofs [go_sem] using k1, by simpa -implicitDefEqProofs [go_sem] using hF'.trans k2, hS'.trans k3, ?_, ?_⟩ (by simp [go_sem, h11, hw]; omega)
          · rw [map_set_m, k0]
            refine (hE'.mono (by omega)).set ?_
            simp only [PM.size, List.length_append, List.length_cons, List.length_nil]; omega
          · rw [hM, hstep, map_set_m, k0]; simp; omega)
  · have hi2 : i = l.length := by omega
    simp -implicitDefEqProofs [go_sem, h11, h5, hf.t, hf.m]
    rw [hi2] at hM
    simp [showM] at hM
    refine ⟨_, Sub.refl _, tag', L', ?_, hB', hF', hS', ?_⟩
    · rw [hM]
    · rw [hM]
end Go.Proofs

set_option linter.unusedVariables false
set_option linter.unusedSimpArgs false
set_option pp.deepTerms false
set_option pp.maxSteps 400
namespace Go.Proofs
open Go.Idl

/-! Send, Size -/
def PM.put (p : PM) (e : Ev) : PM := { p with evs := p.evs ++ [e] }
end Go.Proofs

set_option linter.unusedVariables false
set_option linter.unusedSimpArgs false
set_option pp.deepTerms false
set_option pp.maxSteps 400
namespace Go.Proofs
open Go.Idl

/-! lists of ids: Values, Compact, IndexFunc -/
theorem sortL_sorted (l : List Int) : (sortL l).Pairwise (· ≤ ·) := by
  have := List.pairwise_mergeSort (le := fun x y : Int => decide (x ≤ y)) (by intro a b c; simp; omega) (by intro a b; simp; omega) l
  exact this.imp (by simp)
theorem sorted_unique : ∀ {a b : List Int}, a.Perm b → a.Pairwise (· ≤ ·) → b.Pairwise (· ≤ ·) → a = b
  | [], b, hp, _, _ => (List.nil_perm.1 hp).symm
  | x :: a, b, hp, ha, hb => by
    cases b with
    | nil => exact absurd hp.length_eq (by simp)
    | cons y b =>
      have hx : x ∈ y :: b := hp.subset (List.mem_cons_self)
      have hy : y ∈ x :: a := hp.symm.subset (List.mem_cons_self)
      have h1 : x ≤ y := by
        rcases List.mem_cons.1 hy with h | h
        · omega
        · exact (List.pairwise_cons.1 ha).1 y h
      have h2 : y ≤ x := by
        rcases List.mem_cons.1 hx with h | h
        · omega
        · exact (List.pairwise_cons.1 hb).1 x h
      obtain rfl : x = y := by omega
      rw [sorted_unique ((List.perm_cons x).1 hp) (List.pairwise_cons.1 ha).2 (List.pairwise_cons.1 hb).2]
theorem sortL_congr {a b : List Int} (h : a.Perm b) : sortL a = sortL b := sorted_unique (((sortL_perm a).trans h).trans (sortL_perm b).symm) (sortL_sorted a) (sortL_sorted b)
end Go.Proofs

set_option linter.unusedVariables false
set_option linter.unusedSimpArgs false
set_option pp.deepTerms false
set_option pp.maxSteps 400
namespace Go.Proofs
open Go.Idl

def idxI (Inv Hit : Nat → Heap → Prop) (n : Nat) (e : IEnd) (h' : Heap) : Prop := (e = .ret (.int .i64 (-1)) ∧ Inv n h') ∨ ∃ i : Nat, i < n ∧ e = .ret (.int .i64 i) ∧ Hit i h'
end Go.Proofs

set_option linter.unusedVariables false
set_option linter.unusedSimpArgs false
set_option pp.deepTerms false
set_option pp.maxSteps 400
namespace Go.Proofs
open Go.Idl

/-! Drop -/
theorem idel_live {L : List PB} {i : Nat} {p : PB} (nd : ((L.filter fun p => !p.m.gone).map fun p => p.m.id).Nodup) (hi : L[i]? = some p) (hg : p.m.gone = false) {p' : PB} (hg' : p'.m.gone = true) :
    idel (.int .i64) (.int .i64 p.m.id) (liveE L) = some (liveE (L.set i p')) ∧ ((L.set i p').filter fun p => !p.m.gone).map (fun p => p.m.id) = ((L.filter fun p => !p.m.gone).map fun p => p.m.id).erase p.m.id := by
  induction L generalizing i with
  | nil => simp at hi
  | cons q r ih =>
    cases i with
    | zero =>
      simp only [List.getElem?_cons_zero, Option.some.injEq] at hi
      subst hi
      simp [liveE, List.filter_cons, hg, hg', idel, kEq]
    | succ i =>
      simp only [List.getElem?_cons_succ] at hi
      have hmem : p.m.id ∈ (r.filter fun p => !p.m.gone).map fun p => p.m.id := List.mem_map.2 ⟨p, List.mem_filter.2 ⟨List.mem_of_getElem? hi, by simp [hg]⟩, rfl⟩
      cases hq : q.m.gone with
      | true =>
        simp only [List.filter_cons, hq] at nd
        obtain ⟨k1, k2⟩ := ih (by simpa using nd) hi
        simp only [liveE] at k1
        simp [List.set_cons_succ, liveE, List.filter_cons, hq, k1, k2]
      | false =>
        simp only [List.filter_cons, hq] at nd
        simp only [Bool.not_false, if_true, List.map_cons, List.nodup_cons] at nd
        obtain ⟨k1, k2⟩ := ih nd.2 hi
        have hne : p.m.id ≠ q.m.id := fun e => nd.1 (e ▸ hmem)
        have hne' : (q.m.id == p.m.id) = false := by simpa using Ne.symm hne
        have hne2 : (p.m.id == q.m.id) = false := by simpa using hne
        simp only [liveE] at k1
        simp [List.set_cons_succ, liveE, List.filter_cons, hq, idel, kEq, hne, hne2, k1, k2, List.erase_cons, hne']

theorem BoardAt.drop {k tag h bb mb L} (hB : BoardAt k tag h bb mb L) {i : Nat} {p : PB} (hi : L[i]? = some p) (hg : p.m.gone = false) :
    BoardAt k tag (upd h mb (some (.map (liveE (L.set i { p with m := { p.m with gone := true } }))))) bb mb (L.set i { p with m := { p.m with gone := true } }) ∧
    Frm k tag h tag (upd h mb (some (.map (liveE (L.set i { p with m := { p.m with gone := true } }))))) ∧ Stay L (L.set i { p with m := { p.m with gone := true } }) := by
  have hlt := (List.getElem?_eq_some_iff.1 hi).1
  obtain ⟨e1, e2⟩ := idel_live (p' := { p with m := { p.m with gone := true } }) hB.nd hi hg rfl
  have hbm : bb ≠ mb := by rintro e; have h1 := hB.tb; have h2 := hB.tm; rw [e, h2] at h1; simp at h1
  have htm := hB.tm
  have keep : ∀ j o t, h j = some o → tag j = t → t ≠ (k, 1, 0) → upd h mb (some (.map (liveE (L.set i { p with m := { p.m with gone := true } })))) j = h j := by
    intro j o t ho ht hn
    refine upd_ne _ _ ?_
    rintro rfl
    exact hn (by rw [← ht, htm])
  refine ⟨⟨?_, hB.tb, upd_same _ _ _, hB.tm, ?_, ?_⟩, ?_, ?_⟩
  · rw [upd_ne _ _ hbm]; exact hB.hb
  · intro i2 p2 hp2
    have old : ∀ q, L[i2]? = some q → RecIs (upd h mb (some (.map (liveE (L.set i { p with m := { p.m with gone := true } }))))) q.rb q.eb q.cap q.m.evs := by
      intro q hq
      obtain ⟨r1, r2, r3, r4⟩ := hB.hp i2 q hq
      obtain ⟨v, hv⟩ := r2.some
      refine r2.keep (keep _ _ _ hv r3 (by simp)) (fun he => ?_)
      rcases r2 with ⟨g0, _⟩ | ⟨_, _, g2, _⟩
      · exact absurd g0 he
      · exact keep _ _ _ g2 (r4 he) (by simp)
    rw [List.getElem?_set] at hp2
    split at hp2
    · rename_i hii
      subst hii
      cases hp2
      obtain ⟨r1, r2, r3, r4⟩ := hB.hp i p hi
      exact ⟨fun h => (by cases h), old p hi, r3, r4⟩
    · rename_i hii
      obtain ⟨r1, r2, r3, r4⟩ := hB.hp i2 p2 hp2
      refine ⟨fun hg2 => ⟨?_, (r1 hg2).2⟩, old p2 hp2, r3, r4⟩
      rw [keep _ _ _ (r1 hg2).1 (r1 hg2).2 (by simp)]; exact (r1 hg2).1
  · rw [e2]; exact hB.nd.erase _
  · intro j o ho ht
    refine ⟨?_, rfl⟩
    rw [keep j o _ ho rfl (by rintro e; rw [e] at ht; exact ht rfl)]; exact ho
  · intro i2 p2 hp2
    by_cases hii : i = i2
    · subst hii
      rw [hi] at hp2; cases hp2
      exact ⟨{ p with m := { p.m with gone := true } }, by rw [List.getElem?_set]; simp [hlt], rfl⟩
    · exact ⟨p2, by rw [List.getElem?_set]; simp [hii, hp2], rfl⟩

end Go.Proofs

set_option linter.unusedVariables false
set_option linter.unusedSimpArgs false
set_option pp.deepTerms false
set_option pp.maxSteps 400
namespace Go.Proofs
open Go.Idl Go.RowKit Go.Maps Go.Sort Go.Shelf

/-! Panes -/
def rhoK : Ren := { f := fun | 10 => 310 | _ => 0, t := fun | 0 => 0 | 3 => 178 | 4 => 4 | 23 => 137 | 26 => 3 | 33 => 72 | _ => 0, g := fun x => x }
theorem layK : SlLaysZI.n10 Tryz.prog rhoK where
  mixed := mixed
  f10 := ⟨Tryz.f310.name, by decide, Tryz.func310.trans (congrArg some (by kernel_rfl))⟩
  t0 := Tryz.underlying0
  a0 := Tryz.isAgg0
  z0 := Tryz.sizeOf0
  v0 := Tryz.zeroValue0
  t4 := Tryz.underlying4
  a4 := Tryz.isAgg4
  z4 := Tryz.sizeOf4
  v4 := Tryz.zeroValue4
  t23 := Tryz.underlying137
  a23 := Tryz.isAgg137
  z23 := Tryz.sizeOf137
  v23 := Tryz.zeroValue137
  t26 := Tryz.underlying3
  a26 := Tryz.isAgg3
  z26 := Tryz.sizeOf3
  v26 := Tryz.zeroValue3
  t33 := Tryz.underlying72
  a33 := Tryz.isAgg72
  z33 := Tryz.sizeOf72
  v33 := Tryz.zeroValue72

def keysFR (m : Nat) (h : Heap) (e : IEnd) (h' : Heap) : Prop := ∃ bx, h bx = none ∧ e = .ret (.fn (.func 310) [] [.ptr bx 0]) ∧ h' = upd h bx (some (.cells [.mapv m]))
theorem keysF_c (m : Nat) (h : Heap) : ICall Tryz.prog 273 [.mapv m] h (keysFR m h) := by
  refine icall_of_iwp (fun d => if d = 1 then 1 else 0) Tryz.func273 rfl (by kernel_rfl) (Nat.le_of_ble_eq_true rfl) ?_
  rw [Tryz.results273]
  simp -implicitDefEqProofs [go_sem]
  intro b hb
  exact ⟨_, Sub.refl _, b, hb, rfl, rfl⟩

def liveM (L : List PM) : List Int := (L.filter fun p => !p.gone).map (·.id)
theorem liveE_keys (L : List PB) : KeysOf (liveE L) (liveM (L.map (·.m))) := by
  induction L with
  | nil => rfl
  | cons p r ih =>
    simp only [KeysOf, liveE, liveM, List.map_cons, List.filter_cons] at ih ⊢
    split <;> simp_all
/-- the panes of a board, sorted: a new array, or none -/
def panesR (L : List PM) (h : Heap) (e : IEnd) (h' : Heap) : Prop := ∃ ss : List Int, ss.Perm (liveM L) ∧ ((ss = [] ∧ e = .ret (.list .plain []) ∧ h' = h) ∨ (ss ≠ [] ∧ ∃ b cap, h b = none ∧ ss.length ≤ cap ∧ e = .ret (.sl 1 b 0 ss.length cap) ∧ h' = SH h b cap (sortL ss).toArray))
theorem panes_c {k tag h bb mb L} (hB : BoardAt k tag h bb mb L) (hin : ∀ p ∈ L, inR p.m.id) (hl : L.length < 1000000000) : ICall Tryz.prog 226 [.ptr bb 0] h (panesR (L.map (·.m)) h) := by
  refine icall_of_iwp (fun d => 0) Tryz.func226 rfl (by kernel_rfl) (Nat.le_of_ble_eq_true rfl) ?_
  rw [Tryz.results226]
  have h1 := hB.hb
  simp -implicitDefEqProofs [go_sem, h1]
  refine (keysF_c mb h).mono ?_
  rintro e h' ⟨bx, hbx, rfl, rfl⟩
  simp -implicitDefEqProofs [go_sem]
  have hnm : mb ≠ bx := by rintro rfl; rw [hB.hm] at hbx; cases hbx
  have hm : (upd h bx (some (.cells [.mapv mb]))) mb = some (.map (liveE L)) := by rw [upd_ne _ _ hnm]; exact hB.hm
  have hll : (liveM (L.map (·.m))).length ≤ L.length := by
    have := List.length_filter_le (fun p : PM => !p.gone) (L.map (·.m))
    simpa [liveM] using this
  have hit := keys_it (ρ := rhoK) layK rfl ⟨_, Tryz.func310, by kernel_rfl, by kernel_rfl⟩ hm (upd_same _ _ _) (liveE_keys L) (fun x hx => by
    obtain ⟨p, hp, rfl⟩ := List.mem_map.1 hx
    obtain ⟨hp1, _⟩ := List.mem_filter.1 hp
    obtain ⟨q, hq, rfl⟩ := List.mem_map.1 hp1
    exact hin q hq) (by omega)
  refine (sorted_c hit (by omega) (fun ss hs => by rw [hs.length_eq]; exact Nat.le_refl _) rfl).mono ?_
  rintro e h' ⟨ss, hss, ⟨rfl, rfl, rfl⟩ | ⟨hne, b, cap, hb, hle, rfl, rfl⟩⟩
  · simp -implicitDefEqProofs [go_sem]
    exact ⟨_, (Sub.refl h).upd hbx _, [], hss, .inl ⟨rfl, rfl, rfl⟩⟩
  · simp -implicitDefEqProofs [go_sem]
    have hbb : b ≠ bx := by rintro rfl; rw [upd_same] at hb; cases hb
    have hb' : h b = none := by rw [upd_ne _ _ hbb] at hb; exact hb
    refine ⟨SH h b cap (sortL ss).toArray, ?_, ss, hss, .inr ⟨hne, b, cap, hb', hle, rfl, rfl⟩⟩
    intro j o hj
    simp only [SH, upd] at hj ⊢
    split at hj
    · rename_i h0; simp [h0]; exact Option.some.inj hj
    · rename_i h0
      have : j ≠ bx := by rintro rfl; rw [hbx] at hj; cases hj
      simp [h0, this, hj]
/-! the same events -/
@[go_sem] theorem Ev.row_len (e : Ev) : e.row.length = 4 := rfl
@[go_sem] theorem Ev.row_ss (e : Ev) : List.take 4 (List.map (strC ∘ strip) e.row) = e.row := rfl
theorem eqI_ev (a b : Ev) (n : Nat) : eqI Tryz.prog (n + 2) 504 (.agg a.row) (.agg b.row) = some (decide (a = b)) := by
  have hl : ∀ x y : ByteArray, (x.toList == y.toList) = decide (x = y) := by
    intro x y
    rw [Bool.eq_iff_iff]
    simp only [beq_iff_eq, decide_eq_true_eq]
    exact ⟨fun h => by rw [ByteArray.toList_eq, ByteArray.toList_eq] at h; exact ByteArray.ext (Array.toList_inj.1 h), fun h => by rw [h]⟩
  obtain ⟨a1, a2, a3, a4⟩ := a; obtain ⟨b1, b2, b3, b4⟩ := b
  simp [eqI, eqFs, prt, Tryz.underlying504, Tryz.underlying3, Tryz.underlying5, Tryz.underlying9, stood_504, aggT_3, szT_3, aggT_5, szT_5, aggT_9, szT_9, Ev.row, Ev.mk.injEq, Bool.decide_and, hl]
  rfl
@[go_sem high] theorem eqI_ev' (a b : Ev) : eqI Tryz.prog 10000 504 (.agg a.row) (.agg b.row) = some (decide (a = b)) := eqI_ev a b 9998
@[go_sem] theorem eqG_ev : Tryz.prog.eqGuardType Tryz.prog.depth 504 = false := by kernel_rfl
end Go.Proofs

set_option linter.unusedVariables false
set_option linter.unusedSimpArgs false
set_option pp.deepTerms false
set_option pp.maxSteps 400
namespace Go.Proofs
open Go.Idl

/-! slices.Equal of two arrays in the heap -/
end Go.Proofs

set_option linter.unusedVariables false
set_option linter.unusedSimpArgs false
set_option pp.deepTerms false
set_option pp.maxSteps 400
namespace Go.Proofs
open Go.Idl

/-! a new window, and one with another tree -/
def wZero : Wn := ⟨Cel.zero, 0, false⟩
theorem wZero_row : wZero.row = [.int .u8 0, .int .i64 0, .int .i64 0, .int .i64 0, .int .i64 0, .int .i64 0, .list .plain [], .int .i64 0, .bool false] := by rw [Wn.row_eq]; rfl
def wNew (w h id : Int) : Wn := ⟨.mk 1 ⟨0, 0, w, h⟩ id [], id, false⟩
def newV (w h id : Int) : IV := if (wNew w h id).may = true then .tup [.agg (wNew w h id).row, .int .i64 0] else .tup [.agg wZero.row, .int .i64 1]
theorem wNew_small (w h id : Int) : (wNew w h id).tree.size < 100000000 := by simp [wNew, Cel.size, Cel.sizes]
theorem newG_c (w hh id : Int) (h : Heap) : ICall Tryz.prog 224 [.int .i64 w, .int .i64 hh, .int .i64 id] h (retP (newV w hh id) h) := by
  refine icall_of_iwp (fun _ => 0) Tryz.func224 rfl (by kernel_rfl) (Nat.le_of_ble_eq_true rfl) ?_
  rw [Tryz.results224]
  have hrow : [IV.int .i64 0, .int .i64 0, .int .i64 w, .int .i64 hh] = (Rct.mk 0 0 w hh).row := rfl
  have hrow2 : (Cel.mk 1 ⟨0, 0, w, hh⟩ id []).row ++ [IV.int .i64 0, .bool false] = (Wn.mk (Cel.mk 1 ⟨0, 0, w, hh⟩ id []) 0 false).row := rfl
  have hrow3 : Wn.mk (Cel.mk 1 ⟨0, 0, w, hh⟩ id []) id false = wNew w hh id := rfl
  simp -implicitDefEqProofs [go_sem]
  rw [hrow]
  refine (leaf_c ⟨0, 0, w, hh⟩ id h).mono ?_
  rintro e h' ⟨rfl, he⟩
  rw [he]
  simp -implicitDefEqProofs [go_sem, hrow2, hrow3]
  refine (wmay_c (wNew w hh id) h (wNew_small _ _ _)).mono ?_
  rintro e h' ⟨rfl, he⟩
  rw [he]
  cases hm : (wNew w hh id).may with
  | false =>
    simp -implicitDefEqProofs [go_sem]
    exact ⟨h, Sub.refl _, by rw [newV, if_neg (by rw [hm]; simp), wZero_row], rfl⟩
  | true =>
    simp -implicitDefEqProofs [go_sem]
    exact ⟨h, Sub.refl _, by rw [newV, if_pos hm], rfl⟩
end Go.Proofs

set_option linter.unusedVariables false
set_option linter.unusedSimpArgs false
set_option pp.deepTerms false
set_option pp.maxSteps 400
namespace Go.Proofs
open Go.Idl

/-! the registry's methods on the nil registry -/
def plR (s w p : Int) : List IV := [.int .i64 s, .int .i64 w, .int .i64 p]
theorem fits_c (w hh : Int) (h : Heap) : ICall Tryz.prog 170 [.int .i64 w, .int .i64 hh] h (retP (.bool (Rct.may ⟨0, 0, w, hh⟩)) h) := by
  refine icall_of_iwp (fun _ => 0) Tryz.func170 rfl (by kernel_rfl) (Nat.le_of_ble_eq_true rfl) ?_
  rw [Tryz.results170]
  simp -implicitDefEqProofs [go_sem]
  have hm := rMay_c [⟨0, 0, w, hh⟩] (by simp) h
  simp only [List.map, Rct.row] at hm
  refine hm.mono ?_
  rintro e h' ⟨rfl, rfl⟩
  simp -implicitDefEqProofs [go_sem]
  exact ⟨_, Sub.refl _, rfl, rfl⟩

set_option maxRecDepth 20000 in
theorem nil_sessions  (h : Heap) : ICall Tryz.prog 173 [.nilptr] h (retP (.list .plain []) h) := by
  refine icall_of_iwp (fun _ => 0) Tryz.func173 rfl (by kernel_rfl) (Nat.le_of_ble_eq_true rfl) ?_
  rw [Tryz.results173]
  simp -implicitDefEqProofs [go_sem]
  exact ⟨_, Sub.refl _, rfl, rfl⟩
set_option maxRecDepth 20000 in
theorem nil_windows  (h : Heap) : ICall Tryz.prog 82 [.nilptr] h (retP (.list .plain []) h) := by
  refine icall_of_iwp (fun _ => 0) Tryz.func82 rfl (by kernel_rfl) (Nat.le_of_ble_eq_true rfl) ?_
  rw [Tryz.results82]
  simp -implicitDefEqProofs [go_sem]
  exact ⟨_, Sub.refl _, rfl, rfl⟩
set_option maxRecDepth 20000 in
theorem nil_index (f) (a c : List IV) (h : Heap) : ICall Tryz.prog 174 [.list .plain [], .fn f a c] h (retP (.int .i64 (-1)) h) := by
  refine icall_of_iwp (fun _ => 0) Tryz.func174 rfl (by kernel_rfl) (Nat.le_of_ble_eq_true rfl) ?_
  rw [Tryz.results174]
  simp -implicitDefEqProofs [go_sem]
  refine iwp_loopF (rng [] 900 900) nom (fun s => s.t 8 = .int .i64 0 ∧ s.t 7 = .int .i64 0 ∧ s.h = h) (fun _ => 0) ?_ ?_
  · exact ⟨by simp -implicitDefEqProofs [go_sem], by simp -implicitDefEqProofs [go_sem], by simp -implicitDefEqProofs [go_sem]⟩
  rintro J s hJ hf ⟨h8, h7, hh⟩
  simp -implicitDefEqProofs [go_sem, h8, h7, hh, hf.t, hf.m]
  exact ⟨_, Sub.refl _, rfl, rfl⟩
set_option maxRecDepth 20000 in
theorem nil_session (id : Int) (h : Heap) : ICall Tryz.prog 99 [.nilptr, .int .i64 id] h (retP (.tup [.agg [.int .i64 0, .str ⟨#[]⟩, .list .plain [], .int .i64 0], .bool false]) h) := by
  refine icall_of_iwp (fun _ => 0) Tryz.func99 rfl (by kernel_rfl) (Nat.le_of_ble_eq_true rfl) ?_
  rw [Tryz.results99]
  simp -implicitDefEqProofs [go_sem]
  exact ⟨_, Sub.refl _, rfl, rfl⟩
set_option maxRecDepth 20000 in
theorem nil_window (id : Int) (h : Heap) : ICall Tryz.prog 100 [.nilptr, .int .i64 id] h (retP (.tup [.agg [.int .u8 0, .int .i64 0, .int .i64 0, .int .i64 0, .int .i64 0, .int .i64 0, .list .plain [], .int .i64 0, .bool false], .bool false]) h) := by
  refine icall_of_iwp (fun _ => 0) Tryz.func100 rfl (by kernel_rfl) (Nat.le_of_ble_eq_true rfl) ?_
  rw [Tryz.results100]
  simp -implicitDefEqProofs [go_sem]
  exact ⟨_, Sub.refl _, rfl, rfl⟩
set_option maxRecDepth 20000 in
theorem nil_full  (h : Heap) : ICall Tryz.prog 171 [.nilptr] h (retP (.bool true) h) := by
  refine icall_of_iwp (fun _ => 0) Tryz.func171 rfl (by kernel_rfl) (Nat.le_of_ble_eq_true rfl) ?_
  rw [Tryz.results171]
  simp -implicitDefEqProofs [go_sem]
  exact ⟨_, Sub.refl _, rfl, rfl⟩
set_option maxRecDepth 20000 in
theorem nil_find (id : Int) (h : Heap) : ICall Tryz.prog 53 [.nilptr, .int .i64 id] h (retP (.tup [.agg [.int .i64 0, .int .i64 0, .int .i64 0], .bool false]) h) := by
  refine icall_of_iwp (fun _ => 0) Tryz.func53 rfl (by kernel_rfl) (Nat.le_of_ble_eq_true rfl) ?_
  rw [Tryz.results53]
  simp -implicitDefEqProofs [go_sem]
  refine (nil_windows _).mono ?_
  rintro e h' ⟨rfl, he⟩
  rw [he]
  simp -implicitDefEqProofs [go_sem]
  refine iwp_loopF (rng [] 900 900) nom (fun s => s.t 11 = .int .i64 0 ∧ s.t 10 = .int .i64 0 ∧ s.h = h) (fun _ => 0) ?_ ?_
  · exact ⟨by simp -implicitDefEqProofs [go_sem], by simp -implicitDefEqProofs [go_sem], by simp -implicitDefEqProofs [go_sem]⟩
  rintro J s hJ hf ⟨h8, h7, hh⟩
  simp -implicitDefEqProofs [go_sem, h8, h7, hh, hf.t, hf.m]
  exact ⟨_, Sub.refl _, rfl, rfl⟩
set_option maxRecDepth 20000 in
theorem nil_named (s : ByteArray) (h : Heap) : ICall Tryz.prog 118 [.nilptr, .str s] h (retP (.tup [.int .i64 0, .bool false]) h) := by
  refine icall_of_iwp (fun d => if d = 3 then 1 else 0) Tryz.func118 rfl (by kernel_rfl) (Nat.le_of_ble_eq_true rfl) ?_
  rw [Tryz.results118]
  simp -implicitDefEqProofs [go_sem]
  intro b hb
  refine (nil_sessions _).mono ?_
  rintro e h' ⟨rfl, he⟩
  rw [he]
  simp -implicitDefEqProofs [go_sem]
  refine (nil_index _ _ _ _).mono ?_
  rintro e h' ⟨rfl, he⟩
  rw [he]
  simp -implicitDefEqProofs [go_sem]
  exact ⟨_, (Sub.refl h).upd hb _, rfl, rfl⟩

end Go.Proofs

set_option linter.unusedVariables false
set_option linter.unusedSimpArgs false
set_option pp.deepTerms false
set_option pp.maxSteps 400
namespace Go.Proofs
open Go.Idl

set_option maxRecDepth 20000 in
theorem nil_begin (s : ByteArray) (w hh : Int) (hs : s.size < 100000000) (h : Heap) : ICall Tryz.prog 115 [.nilptr, .str s, .int .i64 w, .int .i64 hh] h (retP (.tup [.agg [.int .i64 0, .int .i64 0, .int .i64 0], .int .i64 (if nameB s = true ∧ Rct.may ⟨0, 0, w, hh⟩ = true then 8 else 1)]) h) := by
  refine icall_of_iwp (fun _ => 0) Tryz.func115 rfl (by kernel_rfl) (Nat.le_of_ble_eq_true rfl) ?_
  rw [Tryz.results115]
  simp -implicitDefEqProofs [go_sem]
  refine (nil_named _ _).mono ?_
  rintro e h' ⟨rfl, he⟩
  rw [he]
  simp -implicitDefEqProofs [go_sem]
  refine (name_c s hs _).mono ?_
  rintro e h' ⟨rfl, he⟩
  rw [he]
  cases hn : nameB s with
  | false =>
    simp -implicitDefEqProofs [go_sem]
    exact ⟨_, Sub.refl _, rfl, rfl⟩
  | true =>
  simp -implicitDefEqProofs [go_sem]
  refine (fits_c _ _ _).mono ?_
  rintro e h' ⟨rfl, he⟩
  rw [he]
  cases hm : Rct.may ⟨0, 0, w, hh⟩ with
  | false =>
    simp -implicitDefEqProofs [go_sem]
    exact ⟨_, Sub.refl _, rfl, rfl⟩
  | true =>
  simp -implicitDefEqProofs [go_sem]
  refine (nil_full _).mono ?_
  rintro e h' ⟨rfl, he⟩
  rw [he]
  simp -implicitDefEqProofs [go_sem]
  exact ⟨_, Sub.refl _, rfl, rfl⟩

end Go.Proofs

set_option linter.unusedVariables false
set_option linter.unusedSimpArgs false
set_option pp.deepTerms false
set_option pp.maxSteps 400
namespace Go.Proofs
open Go.Idl

/-! new boards, the document's example -/
theorem newB_at {k : Nat} {tag : Nat → Nat × Nat × Nat} {h : Heap} {bb mb : Nat} (h1 : h bb = none) (h2 : h mb = none) (h3 : bb ≠ mb) :
    BoardAt k (upd (upd tag bb (k, 0, 0)) mb (k, 1, 0)) (upd (upd h mb (some (.map []))) bb (some (.cells [.mapv mb]))) bb mb [] ∧
    Frm k tag h (upd (upd tag bb (k, 0, 0)) mb (k, 1, 0)) (upd (upd h mb (some (.map []))) bb (some (.cells [.mapv mb]))) := by
  refine ⟨⟨upd_same _ _ _, ?_, ?_, upd_same _ _ _, fun i p hp => by simp at hp, by simp⟩, ?_⟩
  · rw [upd_ne _ _ h3, upd_same]
  · rw [upd_ne _ _ (Ne.symm h3), upd_same]; rfl
  · intro j o hj ht
    have n1 : j ≠ bb := by rintro rfl; rw [h1] at hj; cases hj
    have n2 : j ≠ mb := by rintro rfl; rw [h2] at hj; cases hj
    rw [upd_ne _ _ n1, upd_ne _ _ n2, upd_ne _ _ n2, upd_ne _ _ n1]; exact ⟨hj, rfl⟩

theorem Frm.sub {k : Nat} {h : Heap} {tag' h'} (hf : Frm k (fun _ => (k+1, 0, 0)) h tag' h') : Sub h h' := fun j o hj => (hf j o hj (by simp)).1
end Go.Proofs

set_option linter.unusedVariables false
set_option linter.unusedSimpArgs false
set_option pp.deepTerms false
set_option pp.maxSteps 400
namespace Go.Proofs
open Go.Idl

/-! a registry in the heap -/
structure SB where
  id : Int
  name : ByteArray
  wins : List Int
  cur : Int
  sb : Nat
  wb : Nat
  cap : Nat
def SB.is (h : Heap) (s : SB) : Prop :=
  (s.wins = [] ∧ h s.sb = some (.cells [.int .i64 s.id, .str s.name, .list .tight [], .int .i64 s.cur])) ∨
  (s.wins ≠ [] ∧ h s.sb = some (.cells [.int .i64 s.id, .str s.name, .sl 1 s.wb 0 s.wins.length s.cap, .int .i64 s.cur]) ∧ h s.wb = some (.arr 3 1 (s.wins.map intRow) s.cap) ∧ s.wins.length ≤ s.cap)
structure RG where
  ns : Int
  nw : Int
  np : Int
  mkr : IV
  bb : Nat
  mb : Nat
  recb : Nat
  sesb : Nat
  winb : Nat
  ownb : Nat
  L : List PB
  ses : List SB
  win : List (Int × Wn)
  own : List (Int × Int)
def RG.cells (R : RG) : List IV := [.int .i64 R.ns, .int .i64 R.nw, .int .i64 R.np, .ptr R.bb 0, R.mkr, .mapv R.recb, .mapv R.sesb, .mapv R.winb, .mapv R.ownb]
def RG.recE (R : RG) : List (IV × IV) := R.L.map fun p => (.int .i64 p.m.id, .ptr p.rb 0)
def RG.sesE (R : RG) : List (IV × IV) := R.ses.map fun s => (.int .i64 s.id, .ptr s.sb 0)
def RG.winE (R : RG) : List (IV × IV) := R.win.map fun p => (.int .i64 p.1, .agg p.2.row)
def RG.ownE (R : RG) : List (IV × IV) := R.own.map fun p => (.int .i64 p.1, .int .i64 p.2)
@[go_sem] theorem ic_nilfn : icells .nilfn = [.nilfn] := rfl
@[go_sem] theorem ic_mapv (m) : icells (.mapv m) = [.mapv m] := rfl
/-- the registry's own blocks bear the colour k + 1, its board's the colour k -/
structure RegAt (k : Nat) (tag : Nat → Nat × Nat × Nat) (h : Heap) (rb : Nat) (R : RG) : Prop where
  hr : h rb = some (.cells R.cells)
  tr : tag rb = (k + 1, 0, 0)
  hrec : h R.recb = some (.map R.recE)
  trec : tag R.recb = (k + 1, 1, 0)
  hses : h R.sesb = some (.map R.sesE)
  tses : tag R.sesb = (k + 1, 2, 0)
  hwin : h R.winb = some (.map R.winE)
  twin : tag R.winb = (k + 1, 3, 0)
  hown : h R.ownb = some (.map R.ownE)
  town : tag R.ownb = (k + 1, 4, 0)
  hB : BoardAt k tag h R.bb R.mb R.L
  hs : ∀ s ∈ R.ses, s.is h ∧ tag s.sb = (k + 1, 5, s.id.toNat) ∧ (s.wins ≠ [] → tag s.wb = (k + 1, 6, s.id.toNat))
def Frm2 (k : Nat) (tag : Nat → Nat × Nat × Nat) (h : Heap) (tag' : Nat → Nat × Nat × Nat) (h' : Heap) : Prop := ∀ j o, h j = some o → (tag j).1 ≠ k → (tag j).1 ≠ k + 1 → h' j = some o ∧ tag' j = tag j
theorem Frm2.refl (k tag h) : Frm2 k tag h tag h := fun _ _ h _ _ => ⟨h, rfl⟩
theorem Frm2.trans {k tag h tag1 h1 tag2 h2} (a : Frm2 k tag h tag1 h1) (b : Frm2 k tag1 h1 tag2 h2) : Frm2 k tag h tag2 h2 := fun j o ho ht ht2 => by
  obtain ⟨g1, g2⟩ := a j o ho ht ht2
  obtain ⟨g3, g4⟩ := b j o g1 (by rw [g2]; exact ht) (by rw [g2]; exact ht2)
  exact ⟨g3, g4.trans g2⟩
theorem Frm.two {k tag h tag' h'} (a : Frm k tag h tag' h') : Frm2 k tag h tag' h' := fun j o ho ht _ => a j o ho ht
theorem Frm2.grow {k : Nat} {tag : Nat → Nat × Nat × Nat} {h : Heap} {b : Nat} (hb : h b = none) (v : Option IObj) (t : Nat × Nat × Nat) : Frm2 k tag h (upd tag b t) (upd h b v) := fun j o ho _ _ => by
  have n : j ≠ b := by rintro rfl; rw [hb] at ho; cases ho
  rw [upd_ne _ _ n, upd_ne _ _ n]; exact ⟨ho, rfl⟩
theorem upd_none {h : Heap} {a b : Nat} {o : IObj} : upd h b (some o) a = none ↔ a ≠ b ∧ h a = none := by
  unfold upd
  split <;> simp_all

def newRegR (k : Nat) (tag : Nat → Nat × Nat × Nat) (h : Heap) (e : IEnd) (h' : Heap) : Prop :=
  ∃ bb mb recb sesb winb ownb rb tag', e = .ret (.ptr rb 0) ∧ RegAt k tag' h' rb ⟨0, 0, 0, .nilfn, bb, mb, recb, sesb, winb, ownb, [], [], [], []⟩ ∧ Frm2 k tag h tag' h'
set_option maxRecDepth 20000 in
theorem newReg_c (k : Nat) (tag : Nat → Nat × Nat × Nat) (h : Heap) : ICall Tryz.prog 18 [.nilfn] h (newRegR k tag h) := by
  refine icall_of_iwp (fun d => if d = 10 then 1 else 0) Tryz.func18 rfl (by kernel_rfl) (Nat.le_of_ble_eq_true rfl) ?_
  rw [Tryz.results18]
  simp -implicitDefEqProofs [go_sem]
  refine (newBoard_c h).mono ?_
  rintro e h1 ⟨bb, mb, hb1, hb2, hb3, rfl, hh1⟩
  obtain ⟨hB1, hF1⟩ := newB_at (k := k) (tag := tag) hb1 hb2 hb3
  rw [← hh1] at hB1 hF1
  simp -implicitDefEqProofs [go_sem]
  intro b1 n1 b2 n2 b3 n3 b4 n4 b5 n5
  have m1 : h1 b1 = none := n1
  have m2 : upd h1 b1 (some (.map [])) b2 = none := by unfold upd; exact n2
  have m3 : upd (upd h1 b1 (some (.map []))) b2 (some (.map [])) b3 = none := by unfold upd; exact n3
  have m4 : upd (upd (upd h1 b1 (some (.map []))) b2 (some (.map []))) b3 (some (.map [])) b4 = none := by unfold upd; exact n4
  have m5 : upd (upd (upd (upd h1 b1 (some (.map []))) b2 (some (.map []))) b3 (some (.map []))) b4 (some (.map [])) b5 = none := by unfold upd; exact n5
  have q2 := upd_none.1 m2
  have q3 := upd_none.1 m3
  have q4 := upd_none.1 m4
  have q5 := upd_none.1 m5
  have r3 := upd_none.1 q3.2
  have r4 := upd_none.1 q4.2
  have r5 := upd_none.1 q5.2
  have t4 := upd_none.1 r4.2
  have t5 := upd_none.1 r5.2
  have u5 := upd_none.1 t5.2
  have G1 := hB1.grow m1 (some (.map [])) (k + 1, 1, 0)
  have G2 := G1.grow m2 (some (.map [])) (k + 1, 2, 0)
  have G3 := G2.grow m3 (some (.map [])) (k + 1, 3, 0)
  have G4 := G3.grow m4 (some (.map [])) (k + 1, 4, 0)
  have G5 := G4.grow m5 (some (.cells (RG.cells ⟨0, 0, 0, .nilfn, bb, mb, b1, b2, b3, b4, [], [], [], []⟩))) (k + 1, 0, 0)
  have F1 := hF1.two.trans (Frm2.grow (k := k) m1 (some (.map [])) (k + 1, 1, 0))
  have F2 := F1.trans (Frm2.grow m2 (some (.map [])) (k + 1, 2, 0))
  have F3 := F2.trans (Frm2.grow m3 (some (.map [])) (k + 1, 3, 0))
  have F4 := F3.trans (Frm2.grow m4 (some (.map [])) (k + 1, 4, 0))
  have F5 := F4.trans (Frm2.grow m5 (some (.cells (RG.cells ⟨0, 0, 0, .nilfn, bb, mb, b1, b2, b3, b4, [], [], [], []⟩))) (k + 1, 0, 0))
  refine ⟨_, Sub.refl _, bb, mb, b1, b2, b3, b4, b5, _, rfl, ⟨?_, ?_, ?_, ?_, ?_, ?_, ?_, ?_, ?_, ?_, G5, ?_⟩, F5⟩
  · exact upd_same _ _ _
  · exact upd_same _ _ _
  · show upd _ b5 _ b1 = _
    rw [upd_ne _ _ (Ne.symm u5.1), upd_ne _ _ (Ne.symm t4.1), upd_ne _ _ (Ne.symm r3.1), upd_ne _ _ (Ne.symm q2.1), upd_same]; rfl
  · show upd _ b5 _ b1 = _
    rw [upd_ne _ _ (Ne.symm u5.1), upd_ne _ _ (Ne.symm t4.1), upd_ne _ _ (Ne.symm r3.1), upd_ne _ _ (Ne.symm q2.1), upd_same]
  · show upd _ b5 _ b2 = _
    rw [upd_ne _ _ (Ne.symm t5.1), upd_ne _ _ (Ne.symm r4.1), upd_ne _ _ (Ne.symm q3.1), upd_same]; rfl
  · show upd _ b5 _ b2 = _
    rw [upd_ne _ _ (Ne.symm t5.1), upd_ne _ _ (Ne.symm r4.1), upd_ne _ _ (Ne.symm q3.1), upd_same]
  · show upd _ b5 _ b3 = _
    rw [upd_ne _ _ (Ne.symm r5.1), upd_ne _ _ (Ne.symm q4.1), upd_same]; rfl
  · show upd _ b5 _ b3 = _
    rw [upd_ne _ _ (Ne.symm r5.1), upd_ne _ _ (Ne.symm q4.1), upd_same]
  · show upd _ b5 _ b4 = _
    rw [upd_ne _ _ (Ne.symm q5.1), upd_same]; rfl
  · show upd _ b5 _ b4 = _
    rw [upd_ne _ _ (Ne.symm q5.1), upd_same]
  · intro s hs; cases hs
end Go.Proofs

set_option linter.unusedVariables false
set_option linter.unusedSimpArgs false
set_option pp.deepTerms false
set_option pp.maxSteps 400
namespace Go.Proofs
open Go.Idl Go.RowKit Go.Maps Go.Sort Go.Shelf

def rhoW : Ren := { f := fun | 10 => 212 | _ => 0, t := fun | 0 => 0 | 3 => 130 | 4 => 4 | 23 => 89 | 26 => 3 | 33 => 72 | _ => 0, g := fun x => x }
theorem lay_rhoW : SlLaysZI.n10 Tryz.prog rhoW where
  mixed := mixed
  f10 := ⟨Tryz.f212.name, by decide, Tryz.func212.trans (congrArg some (by kernel_rfl))⟩
  t0 := Tryz.underlying0
  a0 := Tryz.isAgg0
  z0 := Tryz.sizeOf0
  v0 := Tryz.zeroValue0
  t4 := Tryz.underlying4
  a4 := Tryz.isAgg4
  z4 := Tryz.sizeOf4
  v4 := Tryz.zeroValue4
  t23 := Tryz.underlying89
  a23 := Tryz.isAgg89
  z23 := Tryz.sizeOf89
  v23 := Tryz.zeroValue89
  t26 := Tryz.underlying3
  a26 := Tryz.isAgg3
  z26 := Tryz.sizeOf3
  v26 := Tryz.zeroValue3
  t33 := Tryz.underlying72
  a33 := Tryz.isAgg72
  z33 := Tryz.sizeOf72
  v33 := Tryz.zeroValue72
def keys_rhoWR (m : Nat) (h : Heap) (e : IEnd) (h' : Heap) : Prop := ∃ bx, h bx = none ∧ e = .ret (.fn (.func 212) [] [.ptr bx 0]) ∧ h' = upd h bx (some (.cells [.mapv m]))
theorem keys_rhoW_c (m : Nat) (h : Heap) : ICall Tryz.prog 150 [.mapv m] h (keys_rhoWR m h) := by
  refine icall_of_iwp (fun d => if d = 1 then 1 else 0) Tryz.func150 rfl (by kernel_rfl) (Nat.le_of_ble_eq_true rfl) ?_
  rw [Tryz.results150]
  simp -implicitDefEqProofs [go_sem]
  intro b hb
  exact ⟨_, Sub.refl _, b, hb, rfl, rfl⟩
/-- the keys, sorted -/
theorem it_rhoW {h : Heap} {mb bx : Nat} {es : List (IV × IV)} {ks : List Int} (hm : h mb = some (.map es)) (hbx : h bx = none) (hk : KeysOf es ks) (hin : ∀ x ∈ ks, inR x) (hl : ks.length < 1000000000) :
    ICall Tryz.prog 25 [.fn (.func 212) [] [.ptr bx 0]] (upd h bx (some (.cells [.mapv mb]))) (sortedR (fun ss => ss.Perm ks) (upd h bx (some (.cells [.mapv mb])))) := by
  have hnm : mb ≠ bx := by rintro rfl; rw [hm] at hbx; cases hbx
  have hm' : (upd h bx (some (.cells [.mapv mb]))) mb = some (.map es) := by rw [upd_ne _ _ hnm]; exact hm
  have hit := keys_it (ρ := rhoW) lay_rhoW rfl ⟨_, Tryz.func212, by kernel_rfl, by kernel_rfl⟩ hm' (upd_same _ _ _) hk hin (by omega)
  exact sorted_c hit (by omega) (fun ss hs => by rw [hs.length_eq]; exact Nat.le_refl _) rfl
def rhoS : Ren := { f := fun | 10 => 272 | _ => 0, t := fun | 0 => 0 | 3 => 191 | 4 => 4 | 23 => 88 | 26 => 3 | 33 => 72 | _ => 0, g := fun x => x }
theorem lay_rhoS : SlLaysZI.n10 Tryz.prog rhoS where
  mixed := mixed
  f10 := ⟨Tryz.f272.name, by decide, Tryz.func272.trans (congrArg some (by kernel_rfl))⟩
  t0 := Tryz.underlying0
  a0 := Tryz.isAgg0
  z0 := Tryz.sizeOf0
  v0 := Tryz.zeroValue0
  t4 := Tryz.underlying4
  a4 := Tryz.isAgg4
  z4 := Tryz.sizeOf4
  v4 := Tryz.zeroValue4
  t23 := Tryz.underlying88
  a23 := Tryz.isAgg88
  z23 := Tryz.sizeOf88
  v23 := Tryz.zeroValue88
  t26 := Tryz.underlying3
  a26 := Tryz.isAgg3
  z26 := Tryz.sizeOf3
  v26 := Tryz.zeroValue3
  t33 := Tryz.underlying72
  a33 := Tryz.isAgg72
  z33 := Tryz.sizeOf72
  v33 := Tryz.zeroValue72
def keys_rhoSR (m : Nat) (h : Heap) (e : IEnd) (h' : Heap) : Prop := ∃ bx, h bx = none ∧ e = .ret (.fn (.func 272) [] [.ptr bx 0]) ∧ h' = upd h bx (some (.cells [.mapv m]))
theorem keys_rhoS_c (m : Nat) (h : Heap) : ICall Tryz.prog 225 [.mapv m] h (keys_rhoSR m h) := by
  refine icall_of_iwp (fun d => if d = 1 then 1 else 0) Tryz.func225 rfl (by kernel_rfl) (Nat.le_of_ble_eq_true rfl) ?_
  rw [Tryz.results225]
  simp -implicitDefEqProofs [go_sem]
  intro b hb
  exact ⟨_, Sub.refl _, b, hb, rfl, rfl⟩
/-- the keys, sorted -/
theorem it_rhoS {h : Heap} {mb bx : Nat} {es : List (IV × IV)} {ks : List Int} (hm : h mb = some (.map es)) (hbx : h bx = none) (hk : KeysOf es ks) (hin : ∀ x ∈ ks, inR x) (hl : ks.length < 1000000000) :
    ICall Tryz.prog 25 [.fn (.func 272) [] [.ptr bx 0]] (upd h bx (some (.cells [.mapv mb]))) (sortedR (fun ss => ss.Perm ks) (upd h bx (some (.cells [.mapv mb])))) := by
  have hnm : mb ≠ bx := by rintro rfl; rw [hm] at hbx; cases hbx
  have hm' : (upd h bx (some (.cells [.mapv mb]))) mb = some (.map es) := by rw [upd_ne _ _ hnm]; exact hm
  have hit := keys_it (ρ := rhoS) lay_rhoS rfl ⟨_, Tryz.func272, by kernel_rfl, by kernel_rfl⟩ hm' (upd_same _ _ _) hk hin (by omega)
  exact sorted_c hit (by omega) (fun ss hs => by rw [hs.length_eq]; exact Nat.le_refl _) rfl

theorem sortL_asc {l : List Int} (h : l.Pairwise (· < ·)) : sortL l = l := sorted_unique (sortL_perm l) (sortL_sorted l) (h.imp Int.le_of_lt)
theorem winE_keys (R : RG) : KeysOf R.winE (R.win.map (·.1)) := by simp [KeysOf, RG.winE, Function.comp_def]
theorem sesE_keys (R : RG) : KeysOf R.sesE (R.ses.map (·.id)) := by simp [KeysOf, RG.sesE, Function.comp_def]
def sortR' (ks : List Int) (h : Heap) (e : IEnd) (h' : Heap) : Prop := ∃ ss : List Int, ss.Perm ks ∧ ((ss = [] ∧ e = .ret (.list .plain []) ∧ h' = h) ∨ (ss ≠ [] ∧ ∃ b cap, h b = none ∧ ss.length ≤ cap ∧ e = .ret (.sl 1 b 0 ss.length cap) ∧ h' = SH h b cap (sortL ss).toArray))
set_option maxRecDepth 20000 in
theorem windows'_c {k tag h rb R} (hR : RegAt k tag h rb R) (hin : ∀ p ∈ R.win, inR p.1) (hl : R.win.length < 1000000000) : ICall Tryz.prog 82 [.ptr rb 0] h (sortR' (R.win.map (·.1)) h) := by
  refine icall_of_iwp (fun d => 0) Tryz.func82 rfl (by kernel_rfl) (Nat.le_of_ble_eq_true rfl) ?_
  rw [Tryz.results82]
  have h1 := hR.hr
  simp -implicitDefEqProofs [go_sem, h1, RG.cells]
  refine (keys_rhoW_c R.winb h).mono ?_
  rintro e h' ⟨bx, hbx, rfl, rfl⟩
  simp -implicitDefEqProofs [go_sem]
  refine (it_rhoW hR.hwin hbx (winE_keys R) (by simpa using fun a b hb => hin (a, b) hb) (by simpa using hl)).mono ?_
  rintro e h' ⟨ss, hss, ⟨rfl, rfl, rfl⟩ | ⟨hne, b, cap, hb, hle, rfl, rfl⟩⟩
  · simp -implicitDefEqProofs [go_sem]
    exact ⟨_, (Sub.refl h).upd hbx _, [], hss, .inl ⟨rfl, rfl, rfl⟩⟩
  · simp -implicitDefEqProofs [go_sem]
    have hbb : b ≠ bx := by rintro rfl; rw [upd_same] at hb; cases hb
    have hb' : h b = none := by rw [upd_ne _ _ hbb] at hb; exact hb
    refine ⟨SH h b cap (sortL ss).toArray, ?_, ss, hss, .inr ⟨hne, b, cap, hb', hle, rfl, rfl⟩⟩
    intro j o hj
    simp only [SH, upd] at hj ⊢
    split at hj
    · rename_i h0; simp [h0]; exact Option.some.inj hj
    · rename_i h0
      have : j ≠ bx := by rintro rfl; rw [hbx] at hj; cases hj
      simp [h0, this, hj]
theorem windows_c {k tag h rb R} (hR : RegAt k tag h rb R) (hin : ∀ p ∈ R.win, inR p.1) (hl : R.win.length < 1000000000) : ICall Tryz.prog 82 [.ptr rb 0] h (retP (.list .plain ((sortL (R.win.map (·.1))).map intRow)) h) := by
  refine (windows'_c hR hin hl).fz ?_
  rintro e h' ⟨ss, hss, ⟨rfl, rfl, rfl⟩ | ⟨hne, b, cap, hb, hle, rfl, rfl⟩⟩
  · have : R.win.map (·.1) = [] := List.nil_perm.1 hss
    rw [this]
    exact .inl ⟨by simp [sortL], rfl⟩
  · refine .inr ⟨_, b, 3, 1, rowsD (sortL ss).toArray, cap, rfl, SH_at _ _ _ _, ?_, ?_⟩
    · have hlen : (rowsD (sortL ss).toArray).length = ss.length := by simp [rowsD, sortL_len]
      simp only [fz3, fz2, fz1, hlen]
      rw [if_pos ⟨trivial, trivial, by omega⟩, List.drop_zero, List.take_of_length_le (by omega), ← sortL_congr hss, rowsD]
    · funext j
      simp only [dropH, SH, upd]
      split
      · rename_i e; rw [e, hb]
      · rfl
end Go.Proofs
