/- This text is a part of the proofs of the statements of this seat: the ideal states and their rules, or what one of the functions that the statements reach comes to. Conditions: none beyond those that each theorem names. -/
import Derived.Test.YtkadknkpgogfjaaGreatIdl7
set_option linter.unusedVariables false
set_option linter.unusedSimpArgs false
namespace Go.Idl
/-! behind a call, an array that nobody writes any more becomes a list -/
def fz1 (b z : Nat) (rows : List (List IV)) : IV → IV
  | .sl z' b' off n cap => if z' = z ∧ b' = b ∧ off + n ≤ rows.length then .list .plain ((rows.drop off).take n) else .sl z' b' off n cap
  | x => x
def fz2 (b z : Nat) (rows : List (List IV)) : IV → IV
  | .agg cs => .agg (cs.map (fz1 b z rows))
  | x => fz1 b z rows x
def fz3 (b z : Nat) (rows : List (List IV)) : IV → IV
  | .tup vs => .tup (vs.map (fz2 b z rows))
  | x => fz2 b z rows x
def dropH (b : Nat) (h : Heap) : Heap := fun j => if j = b then none else h j

theorem fz1_rep {F w} {b z : Nat} {rows : List (List IV)} {pre post : List Value} {e : TypeId} (hheap : w.heap[b]? = some (.cells (pre ++ post).toArray e (0, 0))) (hl : RepAll F w rows.flatten pre) (hu : uni z rows = true)
    (hone : ∀ v ∈ pre, v.oneCell' = true) {x : IV} {v : Value} (h : Rep F w x v) : Rep (fun j o => F j o ∨ (j = b ∧ o < pre.length)) w (fz1 b z rows x) v := by
  have hle : FLe F w (fun j o => F j o ∨ (j = b ∧ o < pre.length)) w := ⟨fun _ _ h => .inl h, fun _ _ _ => rfl⟩
  have hm := Rep.mono hle _ _ h
  cases x with
  | sl z' b' off n cap =>
    simp only [fz1]
    split
    · rename_i hc
      obtain ⟨rfl, rfl, hn⟩ := hc
      obtain ⟨rfl, hncap, hcm⟩ := h
      have hlen : ((rows.drop off).take n).length = n := by simp; omega
      have hsub : RepRows F w ((rows.take (off + n)).drop off) ((pre.drop (off * z')).take ((off + n - off) * z')) := RepRows.sub hu (RepRows.unflat hl) off (off + n) (by omega) hn
      refine ⟨some ⟨b', off * z', none⟩, cap, (pre.drop (off * z')).take (n * z'), by rw [hlen], by rw [hlen]; exact hncap, hcm, (fun _ _ h => nomatch h), (fun h => nomatch h), fun _ => rfl, ?_, ?_⟩
      · intro j u hj
        rw [List.getElem?_take] at hj
        split at hj
        · rw [List.getElem?_drop] at hj
          have hlt := (List.getElem?_eq_some_iff.1 hj).1
          refine ⟨.inr ⟨rfl, hlt⟩, ?_, hone u (List.mem_of_getElem? hj)⟩
          rw [cell_at hheap]
          simp only [List.getElem?_toArray]
          rw [List.getElem?_append_left hlt]; exact hj
        · cases hj
      · rw [show off + n - off = n by omega] at hsub
        have := RepRows.mono hle _ _ hsub
        rw [List.drop_take, show off + n - off = n by omega] at this
        exact this
    · exact hm
  | _ => exact hm

theorem RepAll.map_of {F F' : Nat → Nat → Prop} {w : World} {f : IV → IV} (hf : ∀ x v, Rep F w x v → Rep F' w (f x) v) : ∀ {cs : List IV} {vs : List Value}, RepAll F w cs vs → RepAll F' w (cs.map f) vs
  | [], _, h => h
  | c :: cs, vs, h => by obtain ⟨v, vs', rfl, h1, h2⟩ := h; exact ⟨v, vs', rfl, hf _ _ h1, RepAll.map_of hf h2⟩

theorem fz2_rep {F w} {b z : Nat} {rows : List (List IV)} {pre post : List Value} {e : TypeId} (hheap : w.heap[b]? = some (.cells (pre ++ post).toArray e (0, 0))) (hl : RepAll F w rows.flatten pre) (hu : uni z rows = true)
    (hone : ∀ v ∈ pre, v.oneCell' = true) {x : IV} {v : Value} (h : Rep F w x v) : Rep (fun j o => F j o ∨ (j = b ∧ o < pre.length)) w (fz2 b z rows x) v := by
  cases x with
  | agg cs =>
    obtain ⟨vs, rfl, h1, h2⟩ := h
    exact ⟨vs, rfl, h1, RepAll.map_of (fun x v hx => fz1_rep hheap hl hu hone hx) h2⟩
  | _ => exact fz1_rep hheap hl hu hone h
theorem fz3_rep {F w} {b z : Nat} {rows : List (List IV)} {pre post : List Value} {e : TypeId} (hheap : w.heap[b]? = some (.cells (pre ++ post).toArray e (0, 0))) (hl : RepAll F w rows.flatten pre) (hu : uni z rows = true)
    (hone : ∀ v ∈ pre, v.oneCell' = true) {x : IV} {v : Value} (h : Rep F w x v) : Rep (fun j o => F j o ∨ (j = b ∧ o < pre.length)) w (fz3 b z rows x) v := by
  cases x with
  | tup cs =>
    obtain ⟨vs, rfl, h2⟩ := h
    exact ⟨vs, rfl, RepAll.map_of (fun x v hx => fz2_rep hheap hl hu hone hx) h2⟩
  | _ => exact fz2_rep hheap hl hu hone h

/-- a heap's array is frozen: the rest stands -/
theorem HRel.freeze {F : Nat → Nat → Prop} {X : Nat → Prop} {h : Heap} {w : World} (hh : HRel F X h w) {b z tot : Nat} {e : TypeId} {rows : List (List IV)} (hb : h b = some (.arr e z rows tot)) :
    ∃ pre post, w.heap[b]? = some (.cells (pre ++ post).toArray e (0, 0)) ∧ RepAll F w rows.flatten pre ∧ uni z rows = true ∧ (∀ v ∈ pre, v.oneCell' = true) ∧
      HRel (fun j o => F j o ∨ (j = b ∧ o < pre.length)) (fun j => X j ∧ j ≠ b) (dropH b h) w := by
  obtain ⟨hX, pre, post, hheap, hl, hu, htot, hz0, hone⟩ := hh.hp b _ hb
  have hle : FLe F w (fun j o => F j o ∨ (j = b ∧ o < pre.length)) w := ⟨fun _ _ h => .inl h, fun _ _ _ => rfl⟩
  refine ⟨pre, post, hheap, hl, hu, hone, ?_, ?_, ?_, ?_⟩
  · intro b' o hb'
    simp only [dropH] at hb'
    split at hb'
    · cases hb'
    · rename_i hne
      obtain ⟨h1, h2⟩ := hh.hp b' o hb'
      exact ⟨h1.mono fun h => ⟨h, hne⟩, h2.mono hle rfl⟩
  · intro b' o hb' hf
    rcases hf with hf | ⟨hf, _⟩
    · exact hh.xf b' o hb'.1 hf
    · exact hb'.2 hf
  · intro b' hb'; exact hh.xb b' hb'.1
  · intro b' o hb'
    rcases hb' with hb' | ⟨hb', _⟩
    · exact hh.fb b' o hb'
    · subst hb'; exact hh.xb _ hX

theorem ICall.fz {P : Program} {f : FuncId} {args : List IV} {h : Heap} {R R2 : IEnd → Heap → Prop} (hc : ICall P f args h R)
    (hr : ∀ e h', R e h' → R2 e h' ∨ ∃ v b e1 z rows tot, e = .ret v ∧ h' b = some (.arr e1 z rows tot) ∧ R2 (.ret (fz3 b z rows v)) (dropH b h')) : ICall P f args h R2 := by
  refine ⟨hc.1, fun F X w vs h1 h2 => (hc.2 F X w vs h1 h2).mono ?_⟩
  rintro e w' ⟨F', X', h', ie, k1, k2, k3, k4⟩
  rcases hr ie h' k1 with hR | ⟨v, b, e1, z, rows, tot, rfl, hb, hR⟩
  · exact ⟨F', X', h', ie, hR, k2, k3, k4⟩
  · obtain ⟨pre, post, g1, g2, g3, g4, g5⟩ := k3.freeze hb
    have hX := (k3.hp b _ hb).1
    refine ⟨_, _, _, _, hR, ?_, g5, ?_⟩
    · cases e with
      | returned u => exact fz3_rep g1 g2 g3 g4 k2
      | _ => exact k2.elim
    · exact ⟨k4.sz, k4.os, k4.tape, k4.out, fun b' o hb' => .inl (k4.fm b' o hb'), k4.fc, k4.ub, fun b' hb' => k4.xn b' hb'.1, fun b' o hb' => hb'.elim (k4.fn b' o) (fun e => by
        rcases k4.xn b hX with h1 | h1
        · exact .inr (.inr (e.1 ▸ h1))
        · exact .inr (.inl (e.1 ▸ h1)))⟩
end Go.Idl
