/- This text is a part of the proofs of the statements of this seat: the ideal states and their rules, or what one of the functions that the statements reach comes to. Conditions: none beyond those that each theorem names. -/
import Derived.Test.YtiloboepepdcgaaMA
import Derived.RangeFuncBox
import Derived.RangeFuncLeaves
import Derived.OwnWalkIn
import Derived.TacticsInMore
import Derived.LoopNIn
import Derived.LoopIn
import Derived.Sort.QuietTacIn
import Derived.Test.YtiloboepepdcgaaGB
set_option linter.unusedVariables false
set_option linter.unusedSimpArgs false
namespace Go.Proofs
open Go.RowKit Go.Maps Go.Sort Go.Shelf
variable {P : Program} {ρ : Ren}

/-- slices.AppendSeq over slices of numbers: its body, and its types -/
structure LayL (P : Program) (ρ : Ren) : Prop where
  mixed : P.follows .mixedOrders = true
  f11 : Bears P (ρ.f 11) (SlBodyZ.n11 ρ)
  t0 : P.underlying (ρ.t 0) = some (TypeDesc.tuple #[])
  a0 : ∀ w, (isAgg (ρ.t 0)).run P w = .ok false w
  z0 : ∀ w, (Go.sizeOf (ρ.t 0)).run P w = .ok 1 w
  v0 : ∀ w, (zeroValue (ρ.t 0)).run P w = .ok (Value.tuple #[]) w
  t24 : P.underlying (ρ.t 24) = some (TypeDesc.slice (ρ.t 26))
  a24 : ∀ w, (isAgg (ρ.t 24)).run P w = .ok false w
  z24 : ∀ w, (Go.sizeOf (ρ.t 24)).run P w = .ok 1 w
  v24 : ∀ w, (zeroValue (ρ.t 24)).run P w = .ok (Value.slice none 0 0) w
  t26 : P.underlying (ρ.t 26) = some (TypeDesc.slice (ρ.t 27))
  a26 : ∀ w, (isAgg (ρ.t 26)).run P w = .ok false w
  z26 : ∀ w, (Go.sizeOf (ρ.t 26)).run P w = .ok 1 w
  v26 : ∀ w, (zeroValue (ρ.t 26)).run P w = .ok (Value.slice none 0 0) w
  t28 : P.underlying (ρ.t 28) = some (TypeDesc.func #[ρ.t 33] #[] false)
  a28 : ∀ w, (isAgg (ρ.t 28)).run P w = .ok false w
  z28 : ∀ w, (Go.sizeOf (ρ.t 28)).run P w = .ok 1 w
  v28 : ∀ w, (zeroValue (ρ.t 28)).run P w = .ok (Value.nilFunc) w
  i26 : (P.info? (ρ.t 26)).map (fun i => (i.zero, i.size, i.bytes)) = some (some (.slice none 0 0), 1, 24)
  ne : ρ.t 24 ≠ ρ.t 26
structure LayL8 (P : Program) (ρ : Ren) : Prop extends LayL P ρ where
  f8 : Bears P (ρ.f 8) (SlBodyZ.n8 ρ)

/-- a slice of numbers, as a value: block, place, length -/
abbrev Sl3 := Nat × Nat × Nat
abbrev encS (x : Sl3) : Value := .slice (some ⟨x.1, x.2.1, none⟩) x.2.2 x.2.2

structure ApAtL (ρ : Ren) (w0 : World) (fn : FuncId) (sv : Value) (Bs l D : Nat) (ss : List Sl3) (W : World) : Prop where
  box : ∃ v, W.heap[Bs]? = some (.cells #[v] (ρ.t 24) (0, 0)) ∧ W.ownsRow w0.heap.size (ρ.t 26) 1 v ss.length (ss.map encS) ∧ (v = .slice none 0 0 ↔ ss = [])
  L : W.heap[l]? = some (.loop (AnyZI.apRec ρ fn sv Bs D .ready none))
  K : W.heap[D]? = some (.deferred (some []))
  below : Below w0.heap.size w0 W

theorem ap_abidesL (ρ : Ren) (w0 : World) (fn : FuncId) (sv : Value) (Bs l D B : Nat) (hB : w0.heap.size ≤ B) : AbidesFrom B (ApAtL ρ w0 fn sv Bs l D) := fun s W W' row h hg hrow => by
  have hrow' : ∀ r, row = some r → ∃ o : Obj, W.heap[r]? = some o ∧ o.isWalk = true := fun r e => (hrow r e).2
  obtain ⟨v, hv, hr, hn⟩ := h.box
  exact ⟨⟨v, (grownBy_keeps hg hrow' hv rfl).trans hv, ownsRow_abides_a hr hg hrow', hn⟩, (grownBy_keeps hg hrow' h.L rfl).trans h.L, (grownBy_keeps hg hrow' h.K rfl).trans h.K,
    h.below.grown hg h.below.size (fun k e => Nat.le_trans hB (hrow k e).1)⟩

set_option maxRecDepth 100000 in
set_option maxHeartbeats 2000000 in
theorem apYieldL (L : LayL P ρ) (F : Fence) (m : Nat) (w0 : World) (fn : FuncId) (hfn : F.fn fn) (sv : Value) (Bs l D : Nat) (hBl : Bs ≠ l) (hDl : D ≠ l) (hDB : D ≠ Bs) (h0B : w0.heap.size ≤ Bs) (h0l : w0.heap.size ≤ l)
    (N : Nat) (hN : N ≤ maxLen) (hNb : N * 24 ≤ 140737488355328) (ss : List Sl3) (x : Sl3) (W : World) (h : ApAtL ρ w0 fn sv Bs l D ss W) (hlen : ss.length < N) :
    YieldAt F m P l #[encS x] W fun e W' => e = .returned (.bool true) ∧ ApAtL ρ w0 fn sv Bs l D (ss ++ [x]) W' ∧ KeepsWalks W W' := by
  have mixed := L.mixed; have t0 := L.t0; have a0 := L.a0; have z0 := L.z0; have v0 := L.v0; have t24 := L.t24; have a24 := L.a24; have z24 := L.z24; have v24 := L.v24; have t26 := L.t26; have a26 := L.a26; have z26 := L.z26; have v26 := L.v26; have t28 := L.t28; have a28 := L.a28; have z28 := L.z28; have v28 := L.v28
  have hne : ρ.t 24 ≠ ρ.t 26 := L.ne
  have u0 := run_underlying L.t0; have u24 := run_underlying L.t24; have u26 := run_underlying L.t26; have u28 := run_underlying L.t28
  obtain ⟨i0, hi, hz0, hz1, hz2⟩ := info_parts L.i26
  obtain ⟨v, hv, hrow, _⟩ := h.box
  refine ⟨fn, #[.slice none 0 0, sv, .pointer (some ⟨Bs, 0, none⟩), undef, .slice none 0 0, undef, sv, encS x, undef, undef, undef, undef, undef], AnyZI.apAssign ρ, AnyZI.apBody ρ, by simpa [AnyZI.apRec] using run_yield (P := P) (args := #[encS x]) h.L rfl, roundIn_of_wpIn hfn ?_⟩
  have hl : l < W.heap.size := (Array.getElem?_eq_some_iff.1 h.L).1
  have hbr := run_beginRound (P := P) h.L rfl
  obtain ⟨W2, hW2⟩ : ∃ W2, W.putObj l (.loop { AnyZI.apRec ρ fn sv Bs D .ready none with state := .busy }) = W2 := ⟨_, rfl⟩
  rw [hW2] at hbr
  have hg2 : W.grownBy W2 (some l) := by rw [← hW2]; exact grownBy_putObj_a _ _ _
  have hk2 : KeepsWalks W W2 := by rw [← hW2]; exact KeepsWalks.putObj _ h.L rfl
  have hv2 : W2.heap[Bs]? = some (.cells #[v] (ρ.t 24) (0, 0)) := by rw [← hW2]; exact (World.putObj_heap_other hBl).trans hv
  have hK2 : W2.heap[D]? = some (.deferred (some [])) := by rw [← hW2]; exact (World.putObj_heap_other hDl).trans h.K
  have hL2 : W2.heap[l]? = some (.loop { AnyZI.apRec ρ fn sv Bs D .ready none with state := .busy }) := by rw [← hW2]; exact World.putObj_heap_same hl
  have hrow2 : W2.ownsRow w0.heap.size (ρ.t 26) 1 v ss.length (ss.map encS) := hrow.kept hg2 (ownsRow_ne_a hrow h.L (fun cur e => by first | cases e | exact hne (Obj.cells.inj e).2.1))
  have hb2 : Below w0.heap.size w0 W2 := h.below.grown hg2 h.below.size (fun k e => by cases e; exact h0l)
  obtain ⟨hc2, hf2⟩ := cell_of_box_a hv2
  have hBlt : Bs < W2.heap.size := (Array.getElem?_eq_some_iff.1 hv2).1
  have hl2 : l < W2.heap.size := (Array.getElem?_eq_some_iff.1 hL2).1
  have hDlt : D < W2.heap.size := (Array.getElem?_eq_some_iff.1 hK2).1
  have ne_of : ∀ {j : Nat} {o : Obj}, W2.heap[j]? = some o → (∀ cur, o ≠ .cells cur (ρ.t 26) (0, 0)) → some j ≠ v.ownBlock := fun hj hno => by
    rcases ownsRow_ne_a hrow2 hj hno with e | e
    · rw [e]; simp
    · exact fun e' => e e'.symm
  clear hW2
  unfold AnyZI.apAssign
  gi_wp2_with gi_round_op_a
  unfold AnyZI.apBody
  gi_wp2_with (first
    | (gi_at_builtin; refine wpListIn_append_own _ rfl _ _ (ρ.t 24) rfl w0.heap.size (ρ.t 26) i0 (.slice none 0 0) 1 24 L.t24 hi hz0 hz1 hz2 rfl (by decide) _ _ _ rfl (hrow2.alloc _) ⟨W2.heap.size, 0, none⟩ 1 1 [encS x] rfl rfl (cell_one_new _ _ _) (by simp [Value.oneCell', encS]) (by omega) (by omega) (by have := hb2.size; simp; omega) ?_; intro v' w3 hown' hg3 hnil3
       have hv3 : w3.heap[Bs]? = some (.cells #[v] (ρ.t 24) (0, 0)) := (hg3.block Bs (by simp; omega) (ne_of hv2 (fun cur e => by first | cases e | exact hne (Obj.cells.inj e).2.1))).trans ((Below.heap_alloc _ _ Bs hBlt).trans hv2)
       obtain ⟨hc3, hf3⟩ := cell_of_box_a hv3
       obtain ⟨g', cap', cur', rfl, hbase', hgb', hr1, hr2, hr3, hr4⟩ : ∃ g' cap' cur', v' = .slice (some ⟨g', 0, none⟩) (ss.length + 1) cap' ∧ w0.heap.size ≤ g' ∧ w3.heap[g']? = some (.cells cur' (ρ.t 26) (0, 0)) ∧ ss.length + 1 ≤ cap' ∧ cap' ≤ maxLen ∧ cur'.size = cap' * 1 ∧ cur'.toList.take ((ss.length + 1) * 1) = ss.map encS ++ [encS x] := by
         rcases hown'.2 with ⟨_, h0⟩ | h'
         · exact absurd h0 (by omega)
         · exact h'
       go_frame)
    | gi_round_op_a)
  have hg3' : (W2.alloc (.cells #[encS x] (ρ.t 26))).grownBy w3 v.ownBlock := hg3
  have hL3 : w3.heap[l]? = some (.loop { AnyZI.apRec ρ fn sv Bs D .ready none with state := .busy }) := (hg3'.block l (by simp; omega) (ne_of hL2 (fun cur e => by first | cases e | exact hne (Obj.cells.inj e).2.1))).trans ((Below.heap_alloc _ _ l hl2).trans hL2)
  have hK3 : w3.heap[D]? = some (.deferred (some [])) := (hg3'.block D (by simp; omega) (ne_of hK2 (fun cur e => by first | cases e | exact hne (Obj.cells.inj e).2.1))).trans ((Below.heap_alloc _ _ D hDlt).trans hK2)
  obtain ⟨w4, hw4⟩ : ∃ w4, w3.setCell ⟨Bs, 0, none⟩ (.slice (some ⟨g', 0, none⟩) (ss.length + 1) cap') = w4 := ⟨_, rfl⟩
  rw [hw4]
  have hg4 : w3.grownBy w4 (some Bs) := by rw [← hw4]; exact grownBy_setCell0_a _ _ _
  have hv4 : w4.heap[Bs]? = some (.cells #[.slice (some ⟨g', 0, none⟩) (ss.length + 1) cap'] (ρ.t 24) (0, 0)) := by rw [← hw4]; exact heap_setCell_box_a _ hv3
  have hL4 : w4.heap[l]? = some (.loop { AnyZI.apRec ρ fn sv Bs D .ready none with state := .busy }) := (hg4.block l (Array.getElem?_eq_some_iff.1 hL3).1 (fun e => hBl (by cases e; rfl))).trans hL3
  have hK4 : w4.heap[D]? = some (.deferred (some [])) := (hg4.block D (Array.getElem?_eq_some_iff.1 hK3).1 (fun e => hDB (by cases e; rfl))).trans hK3
  have hrow4 := hown'.kept hg4 (ownsRow_ne_a hown' hv3 (fun cur e => by first | cases e | exact hne (Obj.cells.inj e).2.1))
  have hl4 : l < w4.heap.size := (Array.getElem?_eq_some_iff.1 hL4).1
  have hb3 : Below w0.heap.size w0 w3 := (hb2.alloc hb2.size _).grown hg3' (by have := hb2.size; simp; omega) (fun k e => (hrow2.lt k e).1)
  have hb4 : Below w0.heap.size w0 w4 := hb3.grown hg4 hb3.size (fun k e => by cases e; exact h0B)
  have hk4 : KeepsWalks W w4 := ((hk2.trans (KeepsWalks.alloc _ _)).trans (KeepsWalks.of_grownBy hg3' (ownsRow_not_walk_a (hrow2.alloc _)))).trans (by rw [← hw4]; exact KeepsWalks.setCell _ _ _)
  clear hw4
  refine ⟨_, _, run_endRound none hL4, rfl, ⟨⟨_, (World.putObj_heap_other hBl).trans hv4, ?_, by simp⟩, World.putObj_heap_same hl4, (World.putObj_heap_other hDl).trans hK4, hb4.grown (grownBy_putObj_a _ _ _) hb4.size (fun k e => by cases e; exact h0l)⟩, hk4.trans (KeepsWalks.putObj _ hL4 rfl)⟩
  have := hrow4.kept (grownBy_putObj_a w4 l (.loop { { AnyZI.apRec ρ fn sv Bs D .ready none with state := .busy } with state := if (none : Option Code).isNone then .ready else .done, pending := none })) (ownsRow_ne_a hrow4 hL4 (fun cur e => by first | cases e | exact hne (Obj.cells.inj e).2.1))
  simpa using this

set_option maxRecDepth 100000 in
set_option maxHeartbeats 2000000 in
theorem appendSeqL (L : LayL P ρ) (F : Fence) (n : Nat) (h11 : F.fn (ρ.f 11)) (hro : F.round = none) (hn : 2 ≤ n) (g : Nat) (lb : Array Value) (hFg : F.fn g) (eg : ∀ args w, (callFunc g args).run P w = .ok (.enter g args) w)
    (S : List Sl3 → Prop) (N : Nat) (hN : N ≤ maxLen) (hNb : N * 24 ≤ 140737488355328) (w : World) (hseq : SeqGivesB F (n - 1) P g lb encS S N w) :
    CallsIn F n P (ρ.f 11) #[.slice none 0 0, .func (.func g) #[] lb] w fun e w' => ∃ (v : Value) (ss : List Sl3), e = .returned v ∧ S ss ∧ w'.ownsRow w.heap.size (ρ.t 26) 1 v ss.length (ss.map encS) ∧ (v = .slice none 0 0 ↔ ss = []) ∧ Below w.heap.size w w' := by
  have h1 : 1 ≤ n := by omega
  have mixed := L.mixed; have t0 := L.t0; have a0 := L.a0; have z0 := L.z0; have v0 := L.v0; have t24 := L.t24; have a24 := L.a24; have z24 := L.z24; have v24 := L.v24; have a26 := L.a26; have z26 := L.z26; have v26 := L.v26; have t28 := L.t28; have a28 := L.a28; have z28 := L.z28; have v28 := L.v28
  have hne : ρ.t 24 ≠ ρ.t 26 := L.ne
  have u0 := run_underlying L.t0; have u24 := run_underlying L.t24; have u28 := run_underlying L.t28
  obtain ⟨_, _, FG⟩ := L.f11
  refine callsIn_of_wp_marks FG rfl h11 ?_ hro
  simp only [SlBodyZ.n11_ntmps ρ, List.size_toArray, List.length_cons, List.length_nil, Nat.reduceAdd, Nat.reduceSub, Array.replicate_succ, Array.replicate_zero, List.push_toArray, List.append_toArray, List.nil_append, List.cons_append]
  gi_wp2
  refine wpIn_rangeFunc ?_
  intro fn hfn
  rw [hro]
  obtain ⟨W0, hW0⟩ : ∃ W0, w.alloc (.cells #[.slice none 0 0] (ρ.t 24)) = W0 := ⟨_, rfl⟩
  have hs0 : W0.heap.size = w.heap.size + 1 := by rw [← hW0]; simp
  have hv0 : W0.heap[w.heap.size]? = some (.cells #[.slice none 0 0] (ρ.t 24) (0, 0)) := by rw [← hW0]; exact World.alloc_heap_new w _
  have hb0 : Below w.heap.size w W0 := by rw [← hW0]; exact (Below.refl _ w).alloc (Nat.le_refl _) _
  rw [hW0]
  obtain ⟨W1, hW1⟩ : ∃ W1, (W0.alloc (.deferred (some []))).alloc (.loop (AnyZI.apRec ρ fn (.func (.func g) #[] lb) w.heap.size W0.heap.size .ready none)) = W1 := ⟨_, rfl⟩
  have hold : ∀ k, k < W0.heap.size → W1.heap[k]? = W0.heap[k]? := fun k hk => by
    rw [← hW1]; exact (Below.heap_alloc _ _ k (by simp; omega)).trans (Below.heap_alloc _ _ k hk)
  have hb1 : Below w.heap.size w W1 := by rw [← hW1]; exact (hb0.alloc hb0.size _).alloc (by have := hb0.size; simp; omega) _
  have hs1 : W1.heap.size = W0.heap.size + 2 := by rw [← hW1]; simp
  have hM : ApAtL ρ w fn (.func (.func g) #[] lb) w.heap.size (W0.heap.size + 1) W0.heap.size [] W1 :=
    ⟨⟨_, (hold w.heap.size (by omega)).trans hv0, ⟨rfl, .inl ⟨rfl, rfl⟩⟩, by simp⟩,
     by rw [← hW1]; have := World.alloc_heap_new (W0.alloc (.deferred (some []))) (.loop (AnyZI.apRec ρ fn (.func (.func g) #[] lb) w.heap.size W0.heap.size .ready none)); rwa [World.size_alloc] at this,
     by rw [← hW1]; exact (Below.heap_alloc _ _ _ (by simp)).trans (World.alloc_heap_new W0 _), hb1⟩
  refine ⟨W0.heap.size + 1, [{ target := .collected W0.heap.size, args := #[] }], W1, { target := .fn (.func g) lb, args := #[.func (.yield (W0.heap.size + 1)) #[] #[]] }, W1, g,
    #[.func (.yield (W0.heap.size + 1)) #[] #[]] ++ lb, W1, ?_, ?_, ?_, ?_, fun _ => h1, ?_⟩
  · rw [← hW1]; exact run_enterLoop_outer _ _ _ _ _
  · simp [resolve, go_sem]
  · intro f' hf'; simp [Target.leads] at hf'; subst hf'; exact hFg
  · simp [invoke, go_sem, eg]
  · refine (hseq (W0.heap.size + 1) (ApAtL ρ w fn (.func (.func g) #[] lb) w.heap.size (W0.heap.size + 1) W0.heap.size) W1 hb1 (ap_abidesL ρ _ _ _ _ _ _ _ hb1.size)
      (fun pre x W hJ hl => (apYieldL { L with } F (n - 1 - 1) w fn hfn _ w.heap.size (W0.heap.size + 1) W0.heap.size (by omega) (by omega) (by omega) (Nat.le_refl _) (by omega) N hN hNb pre x W hJ hl).mono (fun e W' hp => ⟨hp.1, hp.2.1, hp.2.2, hJ.below.between hp.2.1.below hp.2.2.size⟩)) hM).mono ?_
    rintro e W2 ⟨⟨v0, rfl⟩, ss, hS, h2⟩
    obtain ⟨v, hv, hrow, hnil⟩ := h2.box
    have hend := run_endLoop (P := P) h2.L (by simp [AnyZI.apRec])
    obtain ⟨W3, hW3⟩ : ∃ W3, W2.putObj (W0.heap.size + 1) (.loop { AnyZI.apRec ρ fn (.func (.func g) #[] lb) w.heap.size W0.heap.size .ready none with state := .exhausted }) = W3 := ⟨_, rfl⟩
    rw [hW3] at hend
    have hg3 : W2.grownBy W3 (some (W0.heap.size + 1)) := by rw [← hW3]; exact grownBy_putObj_a _ _ _
    have hv3 : W3.heap[w.heap.size]? = some (.cells #[v] (ρ.t 24) (0, 0)) := by rw [← hW3]; exact (World.putObj_heap_other (by omega)).trans hv
    have hK3 : W3.heap[W0.heap.size]? = some (.deferred (some [])) := by rw [← hW3]; exact (World.putObj_heap_other (by omega)).trans h2.K
    have hrow3 := hrow.kept hg3 (ownsRow_ne_a hrow h2.L (fun cur e => by first | cases e | exact hne (Obj.cells.inj e).2.1))
    have hb3 : Below w.heap.size w W3 := h2.below.grown hg3 h2.below.size (fun k e => by cases e; omega)
    obtain ⟨hc3, hf3⟩ := cell_of_box_a hv3
    clear hW3
    refine ⟨none, W3, hend, ?_⟩
    gi_wp2
    rw [← hs0]
    refine ⟨by simp, .inl ⟨_, _, rfl, run_takeDeferred hK3, ?_⟩⟩
    exact ⟨_, results_tmp rfl _ _ _, v, ss, rfl, hS, hrow3.kept (grownBy_putObj_a _ _ _) (ownsRow_ne_a hrow3 hK3 (fun cur e => by first | cases e | exact hne (Obj.cells.inj e).2.1)), hnil, hb3.grown (grownBy_putObj_a _ _ _) hb3.size (fun k e => by cases e; omega)⟩

set_option maxRecDepth 100000 in
set_option maxHeartbeats 1000000 in
theorem collectL (L : LayL8 P ρ) (F : Fence) (n : Nat) (h8 : F.fn (ρ.f 8)) (h11 : F.fn (ρ.f 11)) (hro : F.round = none) (hn : 3 ≤ n) (g : Nat) (lb : Array Value) (hFg : F.fn g) (eg : ∀ args w, (callFunc g args).run P w = .ok (.enter g args) w)
    (S : List Sl3 → Prop) (N : Nat) (hN : N ≤ maxLen) (hNb : N * 24 ≤ 140737488355328) (w : World) (hseq : SeqGivesB F (n - 1 - 1) P g lb encS S N w) :
    CallsIn F n P (ρ.f 8) #[.func (.func g) #[] lb] w fun e w' => ∃ (v : Value) (ss : List Sl3), e = .returned v ∧ S ss ∧ w'.ownsRow w.heap.size (ρ.t 26) 1 v ss.length (ss.map encS) ∧ (v = .slice none 0 0 ↔ ss = []) ∧ Below w.heap.size w w' := by
  have h1 : 1 ≤ n := by omega
  have e11 : ∀ args w, (callFunc (ρ.f 11) args).run P w = .ok (.enter (ρ.f 11) args) w := L.f11.enters rfl
  have mixed := L.mixed; have t0 := L.t0; have a0 := L.a0; have z0 := L.z0; have v0 := L.v0; have t24 := L.t24; have a24 := L.a24; have z24 := L.z24; have v24 := L.v24; have t26 := L.t26; have a26 := L.a26; have z26 := L.z26; have v26 := L.v26; have t28 := L.t28; have a28 := L.a28; have z28 := L.z28; have v28 := L.v28
  have u0 := run_underlying L.t0; have u24 := run_underlying L.t24; have u26 := run_underlying L.t26; have u28 := run_underlying L.t28
  obtain ⟨_, _, FG⟩ := L.f8
  refine callsIn_of_wp FG rfl h8 ?_ hro
  simp only [SlBodyZ.n8_ntmps ρ, List.size_toArray, List.length_cons, List.length_nil, Nat.reduceAdd, Nat.reduceSub, Array.replicate_succ, Array.replicate_zero, List.push_toArray, List.append_toArray, List.nil_append, List.cons_append]
  gi_wp2_with (gi_at_fn (ρ.f 11); refine (appendSeqL { L with } F (n - 1) h11 hro (by omega) g lb hFg eg S N hN hNb _ hseq).mono ?_; rintro e w' ⟨v, ss, rfl, hS, hrow, hnil, hb⟩)
  go_ret
  exact ⟨v, ss, rfl, hS, hrow, hnil, hb⟩

end Go.Proofs

set_option linter.unusedVariables false
set_option linter.unusedSimpArgs false
namespace Go.Proofs
open Go.Idl Go.RowKit Go.Maps Go.Sort Go.Shelf
attribute [local go_sem] Oper.semAt_some

/-- a row's numbers, as a slice of what lies at off -/
def chV (b off len k : Nat) (j : Nat) : Sl3 := (b, off + j * k, min k (len - j * k))
def chVs (b off len k : Nat) (j : Nat) : List Sl3 := (List.range j).map (chV b off len k)
theorem chVs_succ (b off len k j : Nat) : chVs b off len k (j + 1) = chVs b off len k j ++ [chV b off len k j] := by simp [chVs, List.range_succ]

theorem slc_lo (W : World) (b off len cap q : Nat) (h1 : q < len) (h2 : len ≤ cap) : (Instr.sliceAt 45 (.slice (some ⟨b, off, none⟩) len cap) (some (.int .i64 (q : Int))) none none).run Try.prog W = .ok (.slice (some ⟨b, off + q, none⟩) (len - q) (cap - q)) W := by
  have hq : (q : Int) ≤ (len : Int) := by omega
  have hne : ¬ cap = q := by omega
  have hlow : (Instr.sliceBound (.int .i64 (q : Int)) len .sliceB).run Try.prog W = .ok q W := by simp [Instr.sliceBound, asIntOf, hq]
  have hb : (Instr.sliceBounds true len cap (some (.int .i64 (q : Int))) none none).run Try.prog W = .ok (q, len, cap) W := by
    unfold Instr.sliceBounds
    simp [Sem.run_bind, hlow]
  have hsz := Try.sizeOf3
  simp [Instr.sliceAt, Instr.slice, Sem.run_bind, run_underlying Try.underlying45, hb, hsz, hne, addr_add]
theorem slc_lhm (W : World) (b off len cap q m : Nat) (h1 : 1 ≤ m) (h2 : q + m ≤ cap) : (Instr.sliceAt 45 (.slice (some ⟨b, off, none⟩) len cap) (some (.int .i64 (q : Int))) (some (.int .i64 ((q + m : Nat) : Int))) (some (.int .i64 ((q + m : Nat) : Int)))).run Try.prog W = .ok (.slice (some ⟨b, off + q, none⟩) m m) W := by
  have e1 : (q : Int) ≤ ((q + m : Nat) : Int) := by omega
  have e2 : ((q + m : Nat) : Int) ≤ (cap : Int) := by omega
  generalize hx : q + m = x at *
  have hne : ¬ x = q := by omega
  have hlow : (Instr.sliceBound (.int .i64 (q : Int)) x .slice3C).run Try.prog W = .ok q W := by simp [Instr.sliceBound, asIntOf, e1]
  have hb : (Instr.sliceBounds true len cap (some (.int .i64 (q : Int))) (some (.int .i64 (x : Int))) (some (.int .i64 (x : Int)))).run Try.prog W = .ok (q, x, x) W := by
    unfold Instr.sliceBounds
    have e5 : ¬ x < q := by omega
    simp [Sem.run_bind, Instr.sliceBound, asIntOf, e1, e2, e5]
  have hsz := Try.sizeOf3
  have e3 : x - q = m := by omega
  simp [Instr.sliceAt, Instr.slice, Sem.run_bind, run_underlying Try.underlying45, hb, hsz, hne, addr_add, e3]

set_option maxRecDepth 100000 in
set_option maxHeartbeats 2000000 in
/-- the closure of slices.Chunk -/
theorem chunk1_in (n : Nat) (hn : 1 ≤ n) (l Bs Bn b off cap len k : Nat) (hk : 1 ≤ k) (hk2 : k ≤ 1000000000) (hlen : len ≤ 1000000000) (hcap : len ≤ cap) (hcm : cap ≤ maxLen) (J : List Sl3 → World → Prop) (hJab : ∀ s W n, J s W → J s (W.drewN n)) (n₀ : Nat) (hb : Bs < n₀) (hbn : Bn < n₀)
    (hY : ∀ pre x W, J pre W → pre.length < (len + k - 1) / k → YieldAt Fence.wide (n - 1) Try.prog l #[encS x] W fun e W' => e = .returned (.bool true) ∧ J (pre ++ [x]) W' ∧ Below n₀ W W')
    (W : World) (hBs : W.cell? ⟨Bs, 0, none⟩ = some (.slice (some ⟨b, off, none⟩) len cap)) (hBn : W.cell? ⟨Bn, 0, none⟩ = some (.int .i64 k)) (h0 : J [] W) :
    CallsIn Fence.wide n Try.prog 149 #[.func (.yield l) #[] #[], .pointer (some ⟨Bs, 0, none⟩), .pointer (some ⟨Bn, 0, none⟩)] W fun e W' => (∃ v, e = .returned v) ∧ J (chVs b off len k ((len + k - 1) / k)) W' := by
  have mixed := Go.Proofs.mixed
  refine callsIn_of_wp Try.func149 rfl trivial ?_ rfl
  simp only [Try.ntmps149, List.size_toArray, List.length_cons, List.length_nil, Nat.reduceAdd, Nat.reduceSub, Array.replicate_succ, Array.replicate_zero, List.push_toArray, List.append_toArray, List.nil_append, List.cons_append]
  gi_wp2
  gi_loopw [4] (fun i wr => ∃ j q : Nat, j * k = q ∧ (j = 0 ∨ (j - 1) * k < len) ∧ i = .int .i64 (q : Int) ∧ J (chVs b off len k j) wr ∧ Below n₀ W wr)
    (fun i _ => len + k - (Go.RowKit.intOf i).toNat)
  case atStart => exact ⟨0, 0, by simp, .inl rfl, rfl, h0, Below.refl _ _⟩
  case round =>
    obtain ⟨j, q, hq, hj, rfl, hJs, hnx⟩ := hrel
    have hcs : wr.cell? ⟨Bs, 0, none⟩ = some (.slice (some ⟨b, off, none⟩) len cap) := (hnx.cell (p := ⟨Bs, 0, none⟩) hb).trans hBs
    have hcn : wr.cell? ⟨Bn, 0, none⟩ = some (.int .i64 k) := (hnx.cell (p := ⟨Bn, 0, none⟩) hbn).trans hBn
    by_cases hlt : q < len
    · obtain ⟨m, hm⟩ : ∃ m, min k (len - q) = m := ⟨_, rfl⟩
      have hm1 : 1 ≤ m ∧ q + m ≤ len := by omega
      have hs1 : ∀ W, (Instr.sliceAt 45 (.slice (some ⟨b, off, none⟩) len cap) (some (.int .i64 (q : Int))) none none).run Try.prog W = .ok (.slice (some ⟨b, off + q, none⟩) (len - q) (cap - q)) W := fun W => slc_lo W b off len cap q (by omega) (by omega)
      have hs2 : ∀ W, (Instr.sliceAt 45 (.slice (some ⟨b, off, none⟩) len cap) (some (.int .i64 (q : Int))) (some (.int .i64 ((q + m : Nat) : Int))) (some (.int .i64 ((q + m : Nat) : Int)))).run Try.prog W = .ok (.slice (some ⟨b, off + q, none⟩) m m) W := fun W => slc_lhm W b off len cap q m hm1.1 (by omega)
      have hif : (if len - q < k then ((len - q : Nat) : Int) else (k : Int)) = (m : Int) := by split <;> omega
      have hwm : IntKind.i64.wrap ((q : Int) + (m : Int)) = ((q + m : Nat) : Int) := by rw [wrap_in (by omega)]; rfl
      have hwk : IntKind.i64.wrap ((q : Int) + (k : Int)) = ((q + k : Nat) : Int) := by rw [wrap_in (by omega)]; rfl
      gi_wp2
      refine wpIn_region_quiet_lit rfl (by kernel_rfl) (by kernel_rfl) ?_
      iterate 7 quiet_step_in (skip)
      refine wpQuietIn_nil ?_
      intro _ hw'
      obtain ⟨nq, hw''⟩ := hw'
      subst hw''
      clear hif
      have hcs2 : (wr.drewN nq).cell? ⟨Bs, 0, none⟩ = some (.slice (some ⟨b, off, none⟩) len cap) := hcs
      have hcn2 : (wr.drewN nq).cell? ⟨Bn, 0, none⟩ = some (.int .i64 k) := hcn
      obtain ⟨fn, tmps, assign, body, hy, hR⟩ := hY _ (chV b off len k j) (wr.drewN nq) (hJab _ _ nq hJs) (by
        rw [show (chVs b off len k j).length = j by simp [chVs]]
        rw [Nat.lt_div_iff_mul_lt (by omega)]
        rw [Nat.mul_comm] at *
        omega)
      have hen : encS (chV b off len k j) = .slice (some ⟨b, off + q, none⟩) m m := by simp [encS, chV, hq, hm]
      rw [hen] at hy
      gi_wp2
      refine hR.mono ?_
      rintro e W3 ⟨rfl, hJ3, hk3⟩
      have hb3 : Below n₀ W W3 := (hnx.trans (⟨rfl, rfl, rfl, Nat.le_refl _, fun _ _ => rfl⟩ : Below n₀ wr (wr.drewN nq))).trans hk3
      have hcn3 : W3.cell? ⟨Bn, 0, none⟩ = some (.int .i64 k) := (hb3.cell (p := ⟨Bn, 0, none⟩) hbn).trans hBn
      gi_wp2
      go_roundw
      case rel => exact ⟨j + 1, q + k, by rw [Nat.succ_mul, hq], .inr (by simpa [hq] using hlt), by first | rfl | simp [hwk], by rw [chVs_succ]; exact hJ3, hb3⟩
      case measure => simp [Go.RowKit.intOf]; omega
    · have hjN : j = (len + k - 1) / k := by
        symm
        rcases hj with rfl | hj
        · have : len = 0 := by omega
          subst this
          rw [Nat.div_eq_of_lt (by omega)]
        · have e1 : j = (j - 1) + 1 := by
            cases j with
            | zero => simp at hq; omega
            | succ j => rfl
          have e2 : j * k = (j - 1) * k + k := by rw [e1]; simp [Nat.succ_mul]
          have e3 : (j + 1) * k = j * k + k := Nat.succ_mul j k
          exact Nat.div_eq_of_lt_le (by omega) (by omega)
      gi_wp2
      go_end0
      exact ⟨⟨_, rfl⟩, hjN ▸ hJs⟩

set_option maxRecDepth 100000 in
set_option maxHeartbeats 1000000 in
/-- .. at nothing -/
theorem chunk1_nil_in (n : Nat) (l Bs Bn k : Nat) (A : Option Addr) (cap : Nat) (J : List Sl3 → World → Prop) (W : World) (hBs : W.cell? ⟨Bs, 0, none⟩ = some (.slice A 0 cap)) (h0 : J [] W) :
    CallsIn Fence.wide n Try.prog 149 #[.func (.yield l) #[] #[], .pointer (some ⟨Bs, 0, none⟩), .pointer (some ⟨Bn, 0, none⟩)] W fun e W' => (∃ v, e = .returned v) ∧ J [] W' := by
  refine callsIn_of_wp Try.func149 rfl trivial ?_ rfl
  simp only [Try.ntmps149, List.size_toArray, List.length_cons, List.length_nil, Nat.reduceAdd, Nat.reduceSub, Array.replicate_succ, Array.replicate_zero, List.push_toArray, List.append_toArray, List.nil_append, List.cons_append]
  gi_wp2
  gi_loopw [4] (fun i wr => i = .int .i64 0 ∧ wr = W) (fun _ _ => 0)
  case atStart => exact ⟨rfl, rfl⟩
  case round =>
    obtain ⟨rfl, rfl⟩ := hrel
    gi_wp2
    go_end0
    exact ⟨⟨_, rfl⟩, h0⟩
end Go.Proofs

set_option linter.unusedVariables false
set_option linter.unusedSimpArgs false
set_option pp.deepTerms false
set_option pp.maxSteps 400
namespace Go.Proofs
open Go.Idl Go.RowKit Go.Maps Go.Sort Go.Shelf

def rhoL : Ren := { f := fun | 8 => 125 | 11 => 148 | _ => 0, t := fun | 0 => 0 | 24 => 159 | 26 => 45 | 27 => 3 | 28 => 184 | 33 => 125 | _ => 0, g := fun x => x }
theorem layL8 : LayL8 Try.prog rhoL where
  mixed := mixed
  f8 := ⟨Try.f125.name, by decide, Try.func125.trans (congrArg some (by kernel_rfl))⟩
  f11 := ⟨Try.f148.name, by decide, Try.func148.trans (congrArg some (by kernel_rfl))⟩
  t0 := Try.underlying0
  a0 := Try.isAgg0
  z0 := Try.sizeOf0
  v0 := Try.zeroValue0
  t24 := Try.underlying159
  a24 := Try.isAgg159
  z24 := Try.sizeOf159
  v24 := Try.zeroValue159
  t26 := Try.underlying45
  a26 := Try.isAgg45
  z26 := Try.sizeOf45
  v26 := Try.zeroValue45
  t28 := Try.underlying184
  a28 := Try.isAgg184
  z28 := Try.sizeOf184
  v28 := Try.zeroValue184
  i26 := by kernel_rfl
  ne := by decide

theorem RepAll.of_get {F w} : ∀ {xs : List IV} {vs : List Value}, xs.length = vs.length → (∀ (i : Nat) x v, xs[i]? = some x → vs[i]? = some v → Rep F w x v) → RepAll F w xs vs
  | [], [], _, _ => rfl
  | [], v :: vs, h, _ => by simp at h
  | x :: xs, [], h, _ => by simp at h
  | x :: xs, v :: vs, h, hr => ⟨v, vs, rfl, hr 0 x v rfl rfl, RepAll.of_get (by simpa using h) fun i y u hy hu => hr (i + 1) y u hy hu⟩
theorem flat_single {α : Type} (l : List α) : (l.map fun x => [x]).flatten = l := by
  induction l with
  | nil => rfl
  | cons x l ih => simp [ih]
def gRow (g : List Int) : List IV := [.list .plain (g.map intRow)]
@[go_sem] theorem gRow_len (g : List Int) : (gRow g).length = 1 := rfl
@[go_sem high] theorem gRow_take (g : List Int) : (gRow g).take 1 = [.list .plain (g.map intRow)] := rfl
@[go_sem high] theorem gRows_uni (l : List (List Int)) : uni 1 (l.map gRow) = true := by simp [uni, gRow]

def chunkR (ids : List Int) (k : Int) (h : Heap) (e : IEnd) (h' : Heap) : Prop := ∃ bs bn, h bs = none ∧ e = .ret (.fn (.func 149) [] [.ptr bs 0, .ptr bn 0]) ∧
  upd h bs (some (.cells [.list .plain (ids.map intRow)])) bn = none ∧ h' = upd (upd h bs (some (.cells [.list .plain (ids.map intRow)]))) bn (some (.cells [.int .i64 k]))
theorem chunk_c (ids : List Int) (k : Int) (hk : 1 ≤ k) (h : Heap) : ICall Try.prog 126 [.list .plain (ids.map intRow), .int .i64 k] h (chunkR ids k h) := by
  refine icall_of_iwp (fun d => if d = 2 then 1 else if d = 3 then 1 else 0) Try.func126 rfl (by kernel_rfl) (Nat.le_of_ble_eq_true rfl) ?_
  rw [Try.results126]
  simp -implicitDefEqProofs [go_sem]
  intro bs hbs bn hbn
  have hk0 : decide (k < 1) = false := by simp; omega
  rw [hk0]
  simp -implicitDefEqProofs [go_sem]
  exact ⟨_, Sub.refl _, bs, bn, hbs, rfl, hbn, rfl⟩

theorem intVals {F : Nat → Nat → Prop} {w : World} : ∀ {l : List Int} {vals : List Value}, RepRows F w (l.map intRow) vals → vals.length = l.length
  | [], _, h => by cases h; rfl
  | x :: xs, vals, h => by
    obtain ⟨v1, v2, rfl, ⟨y, ys, rfl, hy, hys⟩, h2⟩ := h
    cases hys
    simp [intVals h2]
set_option maxHeartbeats 1000000 in
theorem collectChunk_c (ids : List Int) (k : Nat) (hk : 1 ≤ k) (hk2 : k ≤ 1000000000) (hids : ids.length ≤ 1000000000) (bs bn : Nat) (h : Heap) (hbs : h bs = some (.cells [.list .plain (ids.map intRow)])) (hbn : h bn = some (.cells [.int .i64 k])) :
    ICall Try.prog 125 [.fn (.func 149) [] [.ptr bs 0, .ptr bn 0]] h (retP (.list .plain ((chunks k ids).map gRow)) h) := by
  refine ⟨⟨_, Try.func125, by kernel_rfl, by kernel_rfl⟩, fun F X w vs hh hr => ?_⟩
  obtain ⟨v, vs', hv, ⟨v1, v2, rfl, hr1, hr2⟩, hr3⟩ := hr
  cases hr3
  have hv1 : v1 = #[] := by apply Array.ext'; exact hr1
  subst hv1
  have hvs : vs = #[.func (.func 149) #[] v2] := by apply Array.ext'; exact hv
  subst hvs
  obtain ⟨u1, us1, hv2, hu1, u2, us2, rfl, hu2, hus⟩ := hr2
  cases hu1; cases hu2; cases hus
  have hlb : v2 = #[.pointer (some ⟨bs, 0, none⟩), .pointer (some ⟨bn, 0, none⟩)] := by apply Array.ext'; exact hv2
  subst hlb
  obtain ⟨hXs, pre, post, e, hbbs, hrp, _⟩ := hh.hp bs _ hbs
  obtain ⟨u, us, rfl, hu, hus⟩ := hrp
  cases hus
  obtain ⟨hXn, pre2, post2, e2, hbbn, hrp2, _⟩ := hh.hp bn _ hbn
  obtain ⟨u2, us2, rfl, hu2, hus2⟩ := hrp2
  cases hus2; cases hu2
  obtain ⟨A, cap, vals, rfl, hcap, hcm, _, _, hA⟩ := hu
  have hlen : (ids.map intRow).length = ids.length := by simp
  rw [hlen] at hcap
  have hcs : w.cell? ⟨bs, 0, none⟩ = some (.slice A ids.length cap) := by rw [cell_at hbbs]; simp
  have hcn : w.cell? ⟨bn, 0, none⟩ = some (.int .i64 k) := by rw [cell_at hbbn]; rfl
  have hltS := hh.xb bs hXs
  have hltN := hh.xb bn hXn
  have hen : Idl.Enters Try.prog 149 := ⟨_, Try.func149, by kernel_rfl, by kernel_rfl⟩
  -- what comes
  obtain ⟨b, o, hseq, hsl⟩ : ∃ b o, SeqGivesB Fence.wide 8 Try.prog 149 #[.pointer (some ⟨bs, 0, none⟩), .pointer (some ⟨bn, 0, none⟩)] encS (fun ss => ss = chVs b o ids.length k ((ids.length + k - 1) / k)) ((ids.length + k - 1) / k) w ∧
      (ids ≠ [] → FCells F w b o vals ∧ RepRows F w (ids.map intRow) vals) := by
    by_cases hl0 : ids = []
    · subst hl0
      refine ⟨0, 0, fun lp J W hW hJ hY h0 => ?_, fun h => absurd rfl h⟩
      have hcW : W.cell? ⟨bs, 0, none⟩ = some (.slice A 0 cap) := (hW.cell (p := ⟨bs, 0, none⟩) hltS).trans hcs
      refine (chunk1_nil_in 8 lp bs bn k A cap J W hcW h0).mono fun e W' hp => ⟨hp.1, [], ?_, hp.2⟩
      have : (([] : List Int).length + k - 1) / k = 0 := Nat.div_eq_of_lt (by simp; omega)
      rw [this]; rfl
    · have hpos : 0 < ids.length := List.length_pos_iff.2 hl0
      cases A with
      | none => simp only at hA; omega
      | some a =>
        obtain ⟨b, o, sp⟩ := a
        simp only at hA
        obtain ⟨hsp, hF, hrows⟩ := hA
        obtain rfl : sp = none := hsp (.inr (by omega))
        refine ⟨b, o, fun lp J W hW hJ hY h0 => ?_, fun _ => ⟨hF, hrows⟩⟩
        have hcW : W.cell? ⟨bs, 0, none⟩ = some (.slice (some ⟨b, o, none⟩) ids.length cap) := (hW.cell (p := ⟨bs, 0, none⟩) hltS).trans hcs
        have hnW : W.cell? ⟨bn, 0, none⟩ = some (.int .i64 k) := (hW.cell (p := ⟨bn, 0, none⟩) hltN).trans hcn
        exact (chunk1_in 8 (by omega) lp bs bn b o cap ids.length k hk hk2 hids hcap hcm J (fun s W1 n hs => hJ s W1 _ none hs ⟨rfl, rfl, rfl, Nat.le_refl _, fun _ _ _ => rfl⟩ (fun r e => nomatch e)) w.heap.size hltS hltN
          (fun pre x W1 h1 h2 => (hY pre x W1 h1 h2).mono fun e W' hp => ⟨hp.1, hp.2.1, hp.2.2.2⟩) W hcW hnW h0).mono fun e W' hp => ⟨hp.1, _, rfl, hp.2⟩
  have hN : (ids.length + k - 1) / k ≤ 2000000000 := Nat.le_trans (Nat.div_le_self _ _) (by omega)
  have hc := collectL layL8 Fence.wide 10 trivial trivial rfl (by omega) 149 _ trivial (fun args w => enters_run hen args w) _ _ (by simp only [maxLen]; omega) (by omega) w hseq
  refine (callsIn_wide.1 hc).mono ?_
  rintro e w' ⟨u, ss, rfl, hS, hrow, hnil, hb⟩
  have hkeepF : FLe F w F w' := ⟨fun _ _ h => h, fun b o hf => hb.cell (p := ⟨b, o, none⟩) (hh.fb b o hf)⟩
  have hobj : ∀ F2 : Nat → Nat → Prop, (∀ b o, F b o → F2 b o) → ∀ b o, h b = some o → X b ∧ ObjRep F2 w' b o := fun F2 hF2 b o ho => by
    obtain ⟨h1, h2⟩ := hh.hp b o ho
    exact ⟨h1, h2.mono ⟨hF2, hkeepF.cell⟩ (hb.block b (hh.xb b h1))⟩
  have hsl2 : ss.length = (ids.length + k - 1) / k := by rw [hS]; simp [chVs]
  rcases hrow.2 with ⟨rfl, h0⟩ | ⟨gb, cp, cur, rfl, hbase, hgb, r1, r2, r3, r4⟩
  · have hch : chunks k ids = [] := by rw [chunks, ← hsl2, h0]; rfl
    refine ⟨F, X, h, _, ⟨rfl, rfl⟩, ?_, ⟨hobj F fun _ _ h => h, hh.xf, fun b hx => Nat.lt_of_lt_of_le (hh.xb b hx) hb.size, fun b o hf => Nat.lt_of_lt_of_le (hh.fb b o hf) hb.size⟩, ?_⟩
    · rw [hch]; exact Rep.plain (cv_rep F w' (.slice none 0 0))
    · exact ⟨hb.size, hb.os, hb.tape, hb.output, fun _ _ h => h, hkeepF.cell, fun b hb1 _ => hb.block b hb1, fun _ h => .inl h, fun _ _ h => .inl h⟩
  · have hlt : gb < w'.heap.size := (Array.getElem?_eq_some_iff.1 hgb).1
    have hne : ids ≠ [] := fun e => by
      subst e
      have hz : (([] : List Int).length + k - 1) / k = 0 := Nat.div_eq_of_lt (by simp; omega)
      rw [hz] at hS hsl2
      have : ss = [] := hS
      have := hnil.2 this
      cases this
    obtain ⟨hF, hrows⟩ := hsl hne
    have hvl := intVals hrows
    have hl2 : ((chunks k ids).map gRow).length = ss.length := by rw [hsl2]; simp [chunks]
    refine ⟨fun bb oo => F bb oo ∨ (bb = gb ∧ oo < ss.length), X, h, _, ⟨rfl, rfl⟩, ?_, ⟨hobj _ fun _ _ h => .inl h, ?_, fun b hx => Nat.lt_of_lt_of_le (hh.xb b hx) hb.size, ?_⟩, ?_⟩
    · refine ⟨some ⟨gb, 0, none⟩, cp, ss.map encS, by rw [hl2], by rw [hl2]; exact r1, r2, (fun _ _ h => nomatch h), (fun h => nomatch h), fun _ => rfl, ?_, ?_⟩
      · intro j v hj
        have hjl : j < ss.length := by have := (List.getElem?_eq_some_iff.1 hj).1; simpa using this
        refine ⟨.inr ⟨rfl, show 0 + j < ss.length by omega⟩, ?_, ?_⟩
        · rw [cell_at hgb, Nat.zero_add]
          have : (cur.toList.take ss.length)[j]? = some v := by rw [Nat.mul_one] at r4; rw [r4]; exact hj
          rw [List.getElem?_take, if_pos hjl] at this
          simpa using this
        · rw [List.getElem?_map] at hj
          cases hx : ss[j]? with
          | none => rw [hx] at hj; cases hj
          | some x => rw [hx] at hj; cases hj; rfl
      · have e1 : (chunks k ids).map gRow = ((chunks k ids).map fun g => IV.list .plain (g.map intRow)).map fun x => [x] := by rw [List.map_map]; rfl
        rw [e1]
        apply RepRows.unflat
        rw [flat_single]
        refine RepAll.of_get (by rw [List.length_map, List.length_map, ← hl2, List.length_map]) ?_
        intro i x v hx hv
        rw [List.getElem?_map] at hx hv
        have hi : i < ss.length := by
          cases hy : ss[i]? with
          | none => rw [hy] at hv; cases hv
          | some y => exact (List.getElem?_eq_some_iff.1 hy).1
        have hiN : i < (ids.length + k - 1) / k := by omega
        have hik : i * k < ids.length := by
          have h9 : (i + 1) * k ≤ (ids.length + k - 1) / k * k := Nat.mul_le_mul_right k hiN
          have h8 := Nat.div_mul_le_self (ids.length + k - 1) k
          rw [Nat.succ_mul] at h9
          have h7 := Nat.le_trans h9 h8
          omega
        have hx' : (chunks k ids)[i]? = some ((ids.drop (i * k)).take k) := by rw [chunks, List.getElem?_map, List.getElem?_range hiN]; rfl
        have hv' : ss[i]? = some (chV b o ids.length k i) := by rw [hS, chVs, List.getElem?_map, List.getElem?_range hiN]; rfl
        rw [hx'] at hx; rw [hv'] at hv
        cases hx; cases hv
        have hm : ((ids.drop (i * k)).take k).length = min k (ids.length - i * k) := by simp
        obtain ⟨m, hm2⟩ : ∃ m, m = min k (ids.length - i * k) := ⟨_, rfl⟩
        have hsub := RepRows.sub (z := 1) (ints_uni ids) hrows (i * k) (i * k + m) (by omega) (by simp; omega)
        have hfs := hF.sub (i * k) m
        have e2 : ((ids.map intRow).take (i * k + m)).drop (i * k) = ((ids.drop (i * k)).take k).map intRow := by
          rw [List.drop_take, ← List.map_drop, ← List.map_take, Nat.add_sub_cancel_left]
          congr 1
          by_cases hkk : k ≤ ids.length - i * k
          · rw [show m = k by omega]
          · rw [List.take_of_length_le (by simp; omega), List.take_of_length_le (by simp; omega)]
        rw [e2, Nat.mul_one, Nat.mul_one, Nat.add_sub_cancel_left] at hsub
        refine ⟨some ⟨b, o + i * k, none⟩, m, (vals.drop (i * k)).take m, ?_, ?_, ?_, (fun _ _ h => nomatch h), (fun h => nomatch h), fun _ => rfl, ?_, ?_⟩
        · rw [List.length_map, hm, ← hm2, chV, encS, ← hm2]
        · rw [List.length_map, hm, ← hm2]; exact Nat.le_refl _
        · have : m ≤ ids.length := by omega
          omega
        · exact hfs.mono (F' := fun bb oo => F bb oo ∨ (bb = gb ∧ oo < ss.length)) ⟨fun _ _ h => .inl h, hkeepF.cell⟩
        · exact RepRows.mono ⟨fun _ _ h => .inl h, hkeepF.cell⟩ _ _ hsub
    · intro bb oo hx hf
      rcases hf with hf | ⟨rfl, _⟩
      · exact hh.xf bb oo hx hf
      · have := hh.xb _ hx; omega
    · intro bb oo hf
      rcases hf with hf | ⟨rfl, _⟩
      · exact Nat.lt_of_lt_of_le (hh.fb bb oo hf) hb.size
      · exact hlt
    · exact ⟨hb.size, hb.os, hb.tape, hb.output, fun _ _ h => .inl h, hkeepF.cell, fun b hb1 _ => hb.block b hb1, fun _ h => .inl h, fun bb oo hf => by
        rcases hf with hf | ⟨e, _⟩
        · exact .inl hf
        · exact .inr (.inl (by omega))⟩
end Go.Proofs
