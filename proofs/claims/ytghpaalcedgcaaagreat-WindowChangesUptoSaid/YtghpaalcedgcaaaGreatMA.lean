/- This text is a part of the proofs of the statements of this seat: the ideal states and their rules, or what one of the functions that the statements reach comes to. Conditions: none beyond those that each theorem names. -/
import Derived.Shelf.SlIterI.Collect
import Derived.RangeFuncBound
import Derived.Test.YtghpaalcedgcaaaGreatSS
import Derived.RangeFuncBox
import Derived.RangeFuncLeaves
import Derived.OwnWalkIn
import Derived.TacticsInMore
import Derived.LoopNIn
import Derived.LoopIn
set_option linter.unusedVariables false
set_option linter.unusedSimpArgs false
namespace Go.Proofs
open Go.RowKit Go.Maps Go.Sort Go.Shelf
variable {P : Program} {ρ : Ren}

theorem _root_.Go.RowKit.Below.between {B : Nat} {a b c : World} (h : Below B a b) (k : Below B a c) (hs : b.heap.size ≤ c.heap.size) : Below B b c :=
  ⟨k.os.trans h.os.symm, k.tape.trans h.tape.symm, k.output.trans h.output.symm, hs, fun i hi => (k.block i hi).trans (h.block i hi).symm⟩

/-- an iterator whose loop's body leaves alone what lay before -/
def SeqGivesB {α : Type} (F : Fence) (n : Nat) (P : Program) (g : Nat) (lb : Array Value) (enc : α → Value) (S : List α → Prop) (N : Nat) (w : World) : Prop :=
  ∀ (l : Nat) (J : List α → World → Prop) (W : World), Below w.heap.size w W → AbidesFrom W.heap.size J →
    (∀ pre x W1, J pre W1 → pre.length < N → YieldAt F (n - 1) P l #[enc x] W1 fun e W' => e = .returned (.bool true) ∧ J (pre ++ [x]) W' ∧ KeepsWalks W1 W' ∧ Below w.heap.size W1 W') →
    J [] W →
    CallsIn F n P g (#[.func (.yield l) #[] #[]] ++ lb) W fun e W' => (∃ v, e = .returned v) ∧ ∃ xs, S xs ∧ J xs W'
theorem SeqGives.b {α : Type} {F : Fence} {n : Nat} {P : Program} {g : Nat} {lb : Array Value} {enc : α → Value} {S : List α → Prop} {N : Nat} {w : World} (h : SeqGives F n P g lb enc S N w) : SeqGivesB F n P g lb enc S N w :=
  fun l J W hW hJ hY h0 => h l J W hW hJ (fun pre x W1 h1 h2 => (hY pre x W1 h1 h2).mono fun e W' hp => ⟨hp.1, hp.2.1, hp.2.2.1⟩) h0

set_option maxRecDepth 100000 in
set_option maxHeartbeats 2000000 in
theorem appendSeqI (L : SlLaysZI.n11 P ρ) (F : Fence) (n : Nat) (h11 : F.fn (ρ.f 11)) (hro : F.round = none) (hn : 2 ≤ n) (g : Nat) (lb : Array Value) (hFg : F.fn g) (eg : ∀ args w, (callFunc g args).run P w = .ok (.enter g args) w)
    (S : List Int → Prop) (N : Nat) (hN : N ≤ maxLen) (hNb : N * 8 ≤ 140737488355328) (w : World) (hseq : SeqGivesB F (n - 1) P g lb encZ S N w) :
    CallsIn F n P (ρ.f 11) #[.slice none 0 0, .func (.func g) #[] lb] w fun e w' => ∃ (v : Value) (ss : List Int), e = .returned v ∧ S ss ∧ w'.ownsRow w.heap.size (ρ.t 26) 1 v ss.length (ss.map encZ) ∧ (v = .slice none 0 0 ↔ ss = []) ∧ Below w.heap.size w w' := by
  have h1 : 1 ≤ n := by omega
  have mixed := L.mixed; have t0 := L.t0; have a0 := L.a0; have z0 := L.z0; have v0 := L.v0; have t24 := L.t24; have a24 := L.a24; have z24 := L.z24; have v24 := L.v24; have a26 := L.a26; have z26 := L.z26; have v26 := L.v26; have t28 := L.t28; have a28 := L.a28; have z28 := L.z28; have v28 := L.v28
  have hne : ρ.t 24 ≠ ρ.t 26 := (fun e => by have h := L.t24; rw [e, L.t26] at h; cases h)
  have u0 := run_underlying L.t0; have u24 := run_underlying L.t24; have u28 := run_underlying L.t28
  obtain ⟨_, _, FG⟩ := L.f11
  refine callsIn_of_wp_marks FG rfl h11 ?_ hro
  simp only [SlBodyZ.n11_ntmps ρ, List.size_toArray, List.length_cons, List.length_nil, Nat.reduceAdd, Nat.reduceSub, Array.replicate_succ, Array.replicate_zero, List.push_toArray, List.append_toArray, List.nil_append, List.cons_append]
  gi_wp2
  refine wpIn_rangeFunc ?_
  intro fn hfn
  rw [hro]
  obtain ⟨W0, hW0⟩ : ∃ W0, w.alloc (.cells #[.slice none 0 0] (ρ.t 24)) = W0 := ⟨_, rfl⟩
  have hs0 : W0.heap.size = w.heap.size + 1 := by rw [← hW0]; simp
  have hv0 : W0.heap[w.heap.size]? = some (.cells #[.slice none 0 0] (ρ.t 24) (0, 0)) := by rw [← hW0]; exact World.alloc_heap_new w _
  have hb0 : Below w.heap.size w W0 := by rw [← hW0]; exact (Below.refl _ w).alloc (Nat.le_refl _) _
  rw [hW0]
  obtain ⟨W1, hW1⟩ : ∃ W1, (W0.alloc (.deferred (some []))).alloc (.loop (AnyZI.apRec ρ fn (.func (.func g) #[] lb) w.heap.size W0.heap.size .ready none)) = W1 := ⟨_, rfl⟩
  have hold : ∀ k, k < W0.heap.size → W1.heap[k]? = W0.heap[k]? := fun k hk => by
    rw [← hW1]; exact (Below.heap_alloc _ _ k (by simp; omega)).trans (Below.heap_alloc _ _ k hk)
  have hb1 : Below w.heap.size w W1 := by rw [← hW1]; exact (hb0.alloc hb0.size _).alloc (by have := hb0.size; simp; omega) _
  have hs1 : W1.heap.size = W0.heap.size + 2 := by rw [← hW1]; simp
  have hM : AnyZI.ApAt ρ w fn (.func (.func g) #[] lb) w.heap.size (W0.heap.size + 1) W0.heap.size [] W1 :=
    ⟨⟨_, (hold w.heap.size (by omega)).trans hv0, ⟨rfl, .inl ⟨rfl, rfl⟩⟩, by simp⟩,
     by rw [← hW1]; have := World.alloc_heap_new (W0.alloc (.deferred (some []))) (.loop (AnyZI.apRec ρ fn (.func (.func g) #[] lb) w.heap.size W0.heap.size .ready none)); rwa [World.size_alloc] at this,
     by rw [← hW1]; exact (Below.heap_alloc _ _ _ (by simp)).trans (World.alloc_heap_new W0 _), hb1⟩
  refine ⟨W0.heap.size + 1, [{ target := .collected W0.heap.size, args := #[] }], W1, { target := .fn (.func g) lb, args := #[.func (.yield (W0.heap.size + 1)) #[] #[]] }, W1, g,
    #[.func (.yield (W0.heap.size + 1)) #[] #[]] ++ lb, W1, ?_, ?_, ?_, ?_, fun _ => h1, ?_⟩
  · rw [← hW1]; exact run_enterLoop_outer _ _ _ _ _
  · simp [resolve, go_sem]
  · intro f' hf'; simp [Target.leads] at hf'; subst hf'; exact hFg
  · simp [invoke, go_sem, eg]
  · refine (hseq (W0.heap.size + 1) (AnyZI.ApAt ρ w fn (.func (.func g) #[] lb) w.heap.size (W0.heap.size + 1) W0.heap.size) W1 hb1 (AnyZI.ap_abides ρ _ _ _ _ _ _ _ hb1.size)
      (fun pre x W hJ hl => (AnyZI.apYield { L with } F (n - 1 - 1) w fn hfn _ w.heap.size (W0.heap.size + 1) W0.heap.size (by omega) (by omega) (by omega) (Nat.le_refl _) (by omega) N hN hNb pre x W hJ hl).mono (fun e W' hp => ⟨hp.1, hp.2.1, hp.2.2, hJ.below.between hp.2.1.below hp.2.2.size⟩)) hM).mono ?_
    rintro e W2 ⟨⟨v0, rfl⟩, ss, hS, h2⟩
    obtain ⟨v, hv, hrow, hnil⟩ := h2.box
    have hend := run_endLoop (P := P) h2.L (by simp [AnyZI.apRec])
    obtain ⟨W3, hW3⟩ : ∃ W3, W2.putObj (W0.heap.size + 1) (.loop { AnyZI.apRec ρ fn (.func (.func g) #[] lb) w.heap.size W0.heap.size .ready none with state := .exhausted }) = W3 := ⟨_, rfl⟩
    rw [hW3] at hend
    have hg3 : W2.grownBy W3 (some (W0.heap.size + 1)) := by rw [← hW3]; exact grownBy_putObj_a _ _ _
    have hv3 : W3.heap[w.heap.size]? = some (.cells #[v] (ρ.t 24) (0, 0)) := by rw [← hW3]; exact (World.putObj_heap_other (by omega)).trans hv
    have hK3 : W3.heap[W0.heap.size]? = some (.deferred (some [])) := by rw [← hW3]; exact (World.putObj_heap_other (by omega)).trans h2.K
    have hrow3 := hrow.kept hg3 (ownsRow_ne_a hrow h2.L (fun cur e => by first | cases e | exact hne (Obj.cells.inj e).2.1))
    have hb3 : Below w.heap.size w W3 := h2.below.grown hg3 h2.below.size (fun k e => by cases e; omega)
    obtain ⟨hc3, hf3⟩ := cell_of_box_a hv3
    clear hW3
    refine ⟨none, W3, hend, ?_⟩
    gi_wp2
    rw [← hs0]
    refine ⟨by simp, .inl ⟨_, _, rfl, run_takeDeferred hK3, ?_⟩⟩
    exact ⟨_, results_tmp rfl _ _ _, v, ss, rfl, hS, hrow3.kept (grownBy_putObj_a _ _ _) (ownsRow_ne_a hrow3 hK3 (fun cur e => by first | cases e | exact hne (Obj.cells.inj e).2.1)), hnil, hb3.grown (grownBy_putObj_a _ _ _) hb3.size (fun k e => by cases e; omega)⟩

set_option maxRecDepth 100000 in
set_option maxHeartbeats 1000000 in
theorem collectI (L : SlLaysZI.n8 P ρ) (F : Fence) (n : Nat) (h8 : F.fn (ρ.f 8)) (h11 : F.fn (ρ.f 11)) (hro : F.round = none) (hn : 3 ≤ n) (g : Nat) (lb : Array Value) (hFg : F.fn g) (eg : ∀ args w, (callFunc g args).run P w = .ok (.enter g args) w)
    (S : List Int → Prop) (N : Nat) (hN : N ≤ maxLen) (hNb : N * 8 ≤ 140737488355328) (w : World) (hseq : SeqGivesB F (n - 1 - 1) P g lb encZ S N w) :
    CallsIn F n P (ρ.f 8) #[.func (.func g) #[] lb] w fun e w' => ∃ (v : Value) (ss : List Int), e = .returned v ∧ S ss ∧ w'.ownsRow w.heap.size (ρ.t 26) 1 v ss.length (ss.map encZ) ∧ (v = .slice none 0 0 ↔ ss = []) ∧ Below w.heap.size w w' := by
  have h1 : 1 ≤ n := by omega
  have e11 : ∀ args w, (callFunc (ρ.f 11) args).run P w = .ok (.enter (ρ.f 11) args) w := L.f11.enters rfl
  have mixed := L.mixed; have t0 := L.t0; have a0 := L.a0; have z0 := L.z0; have v0 := L.v0; have t24 := L.t24; have a24 := L.a24; have z24 := L.z24; have v24 := L.v24; have t26 := L.t26; have a26 := L.a26; have z26 := L.z26; have v26 := L.v26; have t28 := L.t28; have a28 := L.a28; have z28 := L.z28; have v28 := L.v28
  have u0 := run_underlying L.t0; have u24 := run_underlying L.t24; have u26 := run_underlying L.t26; have u28 := run_underlying L.t28
  obtain ⟨_, _, FG⟩ := L.f8
  refine callsIn_of_wp FG rfl h8 ?_ hro
  simp only [SlBodyZ.n8_ntmps ρ, List.size_toArray, List.length_cons, List.length_nil, Nat.reduceAdd, Nat.reduceSub, Array.replicate_succ, Array.replicate_zero, List.push_toArray, List.append_toArray, List.nil_append, List.cons_append]
  gi_wp2_with (gi_at_fn (ρ.f 11); refine (appendSeqI { L with } F (n - 1) h11 hro (by omega) g lb hFg eg S N hN hNb _ hseq).mono ?_; rintro e w' ⟨v, ss, rfl, hS, hrow, hnil, hb⟩)
  go_ret
  exact ⟨v, ss, rfl, hS, hrow, hnil, hb⟩

end Go.Proofs

set_option linter.unusedVariables false
set_option linter.unusedSimpArgs false
namespace Go.Proofs
open Go.Idl Go.RowKit Go.Maps Go.Sort Go.Shelf

/-- the numbers of the library's functions and types here -/
def rhoI : Ren := { f := fun | 6 => 66 | 8 => 98 | 11 => 143 | _ => 0, t := fun | 0 => 0 | 24 => 40 | 26 => 3 | 28 => 120 | 33 => 158 | _ => 0, g := fun x => x }

theorem layC : SlLaysZI.n8 Tryz.prog rhoI where
  mixed := mixed
  f8 := ⟨Tryz.f98.name, by decide, Tryz.func98.trans (congrArg some (by kernel_rfl))⟩
  f11 := ⟨Tryz.f143.name, by decide, Tryz.func143.trans (congrArg some (by kernel_rfl))⟩
  t0 := Tryz.underlying0
  a0 := Tryz.isAgg0
  z0 := Tryz.sizeOf0
  v0 := Tryz.zeroValue0
  t24 := Tryz.underlying40
  a24 := Tryz.isAgg40
  z24 := Tryz.sizeOf40
  v24 := Tryz.zeroValue40
  t26 := Tryz.underlying3
  a26 := Tryz.isAgg3
  z26 := Tryz.sizeOf3
  v26 := Tryz.zeroValue3
  t28 := Tryz.underlying120
  a28 := Tryz.isAgg120
  z28 := Tryz.sizeOf120
  v28 := Tryz.zeroValue120
  i26 := by kernel_rfl

/-- an iterator over numbers, as a value -/
def ItOk (it : IV) (h : Heap) (S : List Int → Prop) (N : Nat) : Prop := ∃ g cap, it = .fn (.func g) [] cap ∧ Idl.Enters Tryz.prog g ∧
  ∀ F X w (lb : Array Value), HRel F X h w → RepAll F w cap lb.toList → SeqGivesB Fence.wide 8 Tryz.prog g lb encZ S N w

/-- what was collected: nothing, or a new array -/
def collR (S : List Int → Prop) (h : Heap) (e : IEnd) (h' : Heap) : Prop := ∃ ss, S ss ∧ ((ss = [] ∧ e = .ret (.list .tight []) ∧ h' = h) ∨
  (ss ≠ [] ∧ ∃ b cap, h b = none ∧ ss.length ≤ cap ∧ e = .ret (.sl 1 b 0 ss.length cap) ∧ h' = SH h b cap ss.toArray))

theorem rows_enc (F : Nat → Nat → Prop) (w : World) : ∀ ss : List Int, RepAll F w ((ss.map intRow).flatten) (ss.map encZ)
  | [] => rfl
  | x :: xs => ⟨_, _, rfl, rfl, rows_enc F w xs⟩

theorem collect_c {it : IV} {h : Heap} {S : List Int → Prop} {N : Nat} (hi : ItOk it h S N) (hN : N ≤ 1000000000000) : ICall Tryz.prog 98 [it] h (collR S h) := by
  obtain ⟨g, cap, rfl, hen, hsq⟩ := hi
  refine ⟨⟨_, Tryz.func98, by kernel_rfl, by kernel_rfl⟩, fun F X w vs hh hr => ?_⟩
  obtain ⟨v, vs', hv, ⟨v1, v2, rfl, hr1, hr2⟩, hr3⟩ := hr
  cases hr3
  have hv1 : v1 = #[] := by apply Array.ext'; exact hr1
  subst hv1
  have hvs : vs = #[.func (.func g) #[] v2] := by apply Array.ext'; exact hv
  subst hvs
  have hc := collectI layC Fence.wide 10 trivial trivial rfl (by omega) g v2 trivial (fun args w => enters_run hen args w) S N (by simp only [maxLen]; omega) (by omega) w (hsq F X w v2 hh hr2)
  refine (callsIn_wide.1 hc).mono ?_
  rintro e w' ⟨u, ss, rfl, hS, hrow, hnil, hb⟩
  have hkeepF : FLe F w F w' := ⟨fun _ _ h => h, fun b o hf => hb.cell (p := ⟨b, o, none⟩) (hh.fb b o hf)⟩
  have hobj : ∀ b o, h b = some o → X b ∧ ObjRep F w' b o := fun b o ho => by
    obtain ⟨h1, h2⟩ := hh.hp b o ho
    exact ⟨h1, h2.mono hkeepF (hb.block b (hh.xb b h1))⟩
  rcases hrow.2 with ⟨rfl, h0⟩ | ⟨gb, cp, cur, rfl, hbase, hgb, r1, r2, r3, r4⟩
  · have hss : ss = [] := List.eq_nil_of_length_eq_zero h0
    subst hss
    refine ⟨F, X, h, _, ⟨[], hS, .inl ⟨rfl, rfl, rfl⟩⟩, cv_rep F w' (.slice none 0 0), ⟨hobj, hh.xf, fun b hx => Nat.lt_of_lt_of_le (hh.xb b hx) hb.size, fun b o hf => Nat.lt_of_lt_of_le (hh.fb b o hf) hb.size⟩, ?_⟩
    exact ⟨hb.size, hb.os, hb.tape, hb.output, fun _ _ h => h, hkeepF.cell, fun b hb1 _ => hb.block b hb1, fun _ h => .inl h, fun _ _ h => .inl h⟩
  · have hne : ss ≠ [] := fun e => by have := hnil.2 e; cases this
    have hfresh : h gb = none := by
      cases hx : h gb with
      | none => rfl
      | some o => have := hh.xb _ (hh.hp _ _ hx).1; omega
    have hlt : gb < w'.heap.size := (Array.getElem?_eq_some_iff.1 hgb).1
    refine ⟨F, fun b => X b ∨ b = gb, SH h gb cp ss.toArray, _, ⟨ss, hS, .inr ⟨hne, gb, cp, hfresh, r1, rfl, rfl⟩⟩, ⟨by simp, r1, r2⟩, ⟨?_, ?_, ?_, fun b o hf => Nat.lt_of_lt_of_le (hh.fb b o hf) hb.size⟩, ?_⟩
    · intro b o ho
      simp only [SH, upd] at ho
      by_cases hbg : b = gb
      · subst hbg
        simp only [if_true, Option.some.injEq] at ho
        subst ho
        refine ⟨.inr rfl, ss.map encZ, cur.toList.drop ss.length, ?_, ?_, ?_, ?_, by omega, ?_⟩
        · rw [hgb]
          congr 2
          rw [← r4, Nat.mul_one, List.take_append_drop]
        · simpa [rowsD] using rows_enc F w' ss
        · simp [rowsD, intRow]
        · have : cur.toList.length = cp := by simpa using r3
          simp [this]; omega
        · intro v hv
          obtain ⟨x, _, rfl⟩ := List.mem_map.1 hv
          rfl
      · simp only [hbg, if_false] at ho
        obtain ⟨h1, h2⟩ := hobj b o ho
        exact ⟨.inl h1, h2⟩
    · intro b o hx hf
      rcases hx with hx | hx
      · exact hh.xf b o hx hf
      · subst hx; have := hh.fb _ _ hf; omega
    · intro b hx
      rcases hx with hx | hx
      · exact Nat.lt_of_lt_of_le (hh.xb b hx) hb.size
      · subst hx; exact hlt
    · exact ⟨hb.size, hb.os, hb.tape, hb.output, fun _ _ h => h, hkeepF.cell, fun b hb1 _ => hb.block b hb1, fun b hx => hx.elim .inl (fun e => .inr (by omega)), fun _ _ h => .inl h⟩

/-- what Sorted comes to -/
def sortedR (S : List Int → Prop) (h : Heap) (e : IEnd) (h' : Heap) : Prop := ∃ ss, S ss ∧ ((ss = [] ∧ e = .ret (.list .plain []) ∧ h' = h) ∨
  (ss ≠ [] ∧ ∃ b cap, h b = none ∧ ss.length ≤ cap ∧ e = .ret (.sl 1 b 0 ss.length cap) ∧ h' = SH h b cap (sortL ss).toArray))
theorem sorted_c {it : IV} {h : Heap} {S : List Int → Prop} {N : Nat} (hi : ItOk it h S N) (hN : N ≤ 1000000000) (hSN : ∀ ss, S ss → ss.length ≤ N) (hst : stripT it = it) : ICall Tryz.prog 66 [it] h (sortedR S h) := by
  refine icall_of_iwp (fun _ => 0) Tryz.func66 rfl (by kernel_rfl) (Nat.le_of_ble_eq_true rfl) ?_
  rw [Tryz.results66]
  obtain ⟨g, cap, rfl, hen, hsq⟩ := id hi
  simp -implicitDefEqProofs [go_sem]
  refine (collect_c hi (by omega)).mono ?_
  rintro e h' ⟨ss, hS, ⟨rfl, rfl, rfl⟩ | ⟨hne, b, cp, hb, hle, rfl, rfl⟩⟩
  · simp -implicitDefEqProofs [go_sem]
    refine (sort_nil _).mono ?_
    rintro e h' ⟨rfl, he⟩
    rw [he]
    simp -implicitDefEqProofs [go_sem]
    exact ⟨_, Sub.refl _, [], hS, .inl ⟨rfl, rfl, rfl⟩⟩
  · simp -implicitDefEqProofs [go_sem]
    have hl := hSN ss hS
    have hc := sort_c ss.toArray b cp h (by simp; omega)
    simp only [List.size_toArray, List.toList_toArray] at hc
    refine hc.mono ?_
    rintro e h' ⟨rfl, he⟩
    rw [he]
    simp -implicitDefEqProofs [go_sem]
    exact ⟨_, Sub.refl _, ss, hS, .inr ⟨hne, b, cp, hb, hle, rfl, rfl⟩⟩
end Go.Proofs

set_option linter.unusedVariables false
set_option linter.unusedSimpArgs false
namespace Go.Proofs
open Go.Idl Go.RowKit Go.Maps Go.Sort Go.Shelf
attribute [local go_sem] Oper.semAt_some

/-- what has come when k rounds are over -/
def uptoF (f : Nat → Int) (k : Nat) : List Int := (List.range k).map f
theorem uptoF_succ (f : Nat → Int) (k : Nat) : uptoF f (k + 1) = uptoF f k ++ [f k] := by simp [uptoF, List.range_succ]
theorem uptoF_length (f : Nat → Int) (k : Nat) : (uptoF f k).length = k := by simp [uptoF]
theorem uptoF_all (zs : List Int) : uptoF (fun j => zs[j]?.getD 0) zs.length = zs := by
  apply List.ext_getElem
  · simp [uptoF]
  · intro i h1 h2
    simp [uptoF, h2]

set_option maxRecDepth 100000 in
set_option maxHeartbeats 2000000 in
/-- the closure of slices.Values -/
theorem values1_in (F : Fence) (n : Nat) (h7 : F.fn 144) (hro : F.round = none) (hn : 1 ≤ n) (l Bs b off cap len : Nat) (f : Nat → Int) (hreach : len * 8 ≤ 140737488351232) (J : List Int → World → Prop) (n₀ : Nat) (hb : b < n₀)
    (hY : ∀ pre x W, J pre W → pre.length < len → YieldAt F (n - 1) Tryz.prog l #[.int .i64 x] W fun e W' => e = .returned (.bool true) ∧ J (pre ++ [x]) W' ∧ Below n₀ W W')
    (W : World) (hBs : W.cell? ⟨Bs, 0, none⟩ = some (.slice (some ⟨b, off, none⟩) len cap)) (hc : ∀ j, j < len → W.cell? ⟨b, off + j, none⟩ = some (.int .i64 (f j))) (h0 : J [] W) :
    CallsIn F n Tryz.prog 144 #[.func (.yield l) #[] #[], .pointer (some ⟨Bs, 0, none⟩)] W fun e W' => (∃ v, e = .returned v) ∧ J (uptoF f len) W' := by
  refine callsIn_of_wp Tryz.func144 rfl h7 ?_ hro
  simp only [Tryz.ntmps144, List.size_toArray, List.length_cons, List.length_nil, Nat.reduceAdd, Nat.reduceSub, Array.replicate_succ, Array.replicate_zero, List.push_toArray, List.append_toArray, List.nil_append, List.cons_append]
  gi_wp2
  gi_loopw [7] (fun i wr => ∃ k : Nat, k ≤ len ∧ i = .int .i64 k ∧ J (uptoF f k) wr ∧ Below n₀ W wr)
    (fun i _ => len - (Go.RowKit.intOf i).toNat)
  case atStart => exact ⟨0, Nat.zero_le _, rfl, h0, Below.refl _ _⟩
  case round =>
    obtain ⟨k, hk, rfl, hJs, hnx⟩ := hrel
    have hcx : k < len → wr.cell? ⟨b, off + k, none⟩ = some (.int .i64 (f k)) := fun h => (hnx.cell (p := ⟨b, off + k, none⟩) hb).trans (hc k h)
    by_cases hlt : k < len
    · obtain ⟨fn, tmps, assign, body, hy, hR⟩ := hY _ (f k) wr hJs (by rw [uptoF_length]; exact hlt)
      have hcx' := hcx hlt
      gi_wp2
      refine hR.mono ?_
      rintro e W3 ⟨rfl, hJ3, hk3⟩
      gi_wp2
      go_roundw
      case rel => exact ⟨k + 1, by omega, by simp, by rw [uptoF_succ]; exact hJ3, hnx.trans hk3⟩
      case measure => simp [Go.RowKit.intOf]; omega
    · obtain rfl : k = len := by omega
      gi_wp2
      go_end0
      exact ⟨⟨_, rfl⟩, hJs⟩

set_option maxRecDepth 100000 in
set_option maxHeartbeats 1000000 in
/-- .. at nothing -/
theorem values1_nil_in (F : Fence) (n : Nat) (h7 : F.fn 144) (hro : F.round = none) (l Bs : Nat) (A : Option Addr) (cap : Nat) (J : List Int → World → Prop) (W : World) (hBs : W.cell? ⟨Bs, 0, none⟩ = some (.slice A 0 cap)) (h0 : J [] W) :
    CallsIn F n Tryz.prog 144 #[.func (.yield l) #[] #[], .pointer (some ⟨Bs, 0, none⟩)] W fun e W' => (∃ v, e = .returned v) ∧ J [] W' := by
  refine callsIn_of_wp Tryz.func144 rfl h7 ?_ hro
  simp only [Tryz.ntmps144, List.size_toArray, List.length_cons, List.length_nil, Nat.reduceAdd, Nat.reduceSub, Array.replicate_succ, Array.replicate_zero, List.push_toArray, List.append_toArray, List.nil_append, List.cons_append]
  gi_wp2
  gi_loopw [7] (fun i wr => i = .int .i64 0 ∧ J [] wr) (fun _ _ => 0)
  case atStart => exact ⟨rfl, h0⟩
  case round =>
    obtain ⟨rfl, hJs⟩ := hrel
    gi_wp2
    go_end0
    exact ⟨⟨_, rfl⟩, hJs⟩

theorem intRows_vals {F : Nat → Nat → Prop} {w : World} : ∀ {l : List Int} {vals : List Value}, RepRows F w (l.map intRow) vals → vals = l.map fun x => Value.int .i64 x
  | [], _, h => h
  | x :: xs, vals, h => by
    obtain ⟨v1, v2, rfl, ⟨y, ys, rfl, hy, hys⟩, h2⟩ := h
    cases hy; cases hys
    rw [intRows_vals h2]; rfl
/-- slices.Values of a list -/
theorem values_it {h : Heap} {bx : Nat} {tk : Tok} {l : List Int} (hbx : h bx = some (.cells [.list tk (l.map intRow)])) (hl : l.length ≤ 1000000000) :
    ItOk (.fn (.func 144) [] [.ptr bx 0]) h (fun ss => ss = l) l.length := by
  refine ⟨_, _, rfl, ⟨_, Tryz.func144, by kernel_rfl, by kernel_rfl⟩, fun F X w lb hh hrep => ?_⟩
  obtain ⟨v, vs', hv, hv1, hv2⟩ := hrep
  cases hv1
  cases hv2
  have hlb : lb = #[.pointer (some ⟨bx, 0, none⟩)] := by apply Array.ext'; exact hv
  subst hlb
  obtain ⟨hXb, pre, post, e, hbb, hrp, _⟩ := hh.hp bx _ hbx
  obtain ⟨u, us, rfl, hu, hus⟩ := hrp
  cases hus
  obtain ⟨A, cap, vals, rfl, hcap, hcm, _, _, hA⟩ := hu
  have hlen : (l.map intRow).length = l.length := by simp
  have hcell : w.cell? ⟨bx, 0, none⟩ = some (.slice A (l.map intRow).length cap) := by rw [cell_at hbb]; rfl
  rw [hlen] at hcell
  have hbxl := hh.xb bx hXb
  intro lp J W hW hJ hY h0
  have hcW : W.cell? ⟨bx, 0, none⟩ = some (.slice A l.length cap) := (hW.cell (p := ⟨bx, 0, none⟩) hbxl).trans hcell
  by_cases hl0 : l.length = 0
  · have hle : l = [] := List.eq_nil_of_length_eq_zero hl0
    subst hle
    exact (values1_nil_in Fence.wide 8 trivial rfl lp bx A cap J W hcW h0).mono fun e W' hp => ⟨hp.1, [], rfl, hp.2⟩
  · cases A with
    | none => simp only at hA; omega
    | some a =>
      obtain ⟨b, o, sp⟩ := a
      simp only at hA
      obtain ⟨hsp, hF, hrows⟩ := hA
      obtain rfl : sp = none := hsp (.inr (by omega))
      have hvals : ∀ j, j < l.length → vals[j]? = some (.int .i64 (l[j]?.getD 0)) := by
        have := intRows_vals hrows
        intro j hj
        rw [this]
        simp [hj]
      have hblt : b < w.heap.size := hh.fb b (o + 0) ((hF 0 _ (hvals 0 (by omega))).1)
      refine (values1_in Fence.wide 8 trivial rfl (by omega) lp bx b o cap l.length (fun j => l[j]?.getD 0) (by omega) J w.heap.size hblt (fun pre x W1 h1 h2 => (hY pre x W1 h1 h2).mono fun e W' hp => ⟨hp.1, hp.2.1, hp.2.2.2⟩) W hcW (fun j hj => ?_) h0).mono fun e W' hp => ⟨hp.1, l, rfl, ?_⟩
      · exact (hW.cell (p := ⟨b, o + j, none⟩) hblt).trans (hF j _ (hvals j hj)).2.1
      · have := hp.2; rwa [uptoF_all] at this
end Go.Proofs
