/- This text is a part of the proofs of the statements of this seat: the ideal states and their rules, or what one of the functions that the statements reach comes to. Conditions: none beyond those that each theorem names. -/
import Derived.Test.YtghpaalcedgcaaaGreatF15
import Derived.Test.YtghpaalcedgcaaaGreatB0
import Derived.Test.YtghpaalcedgcaaaGreatRows
import Derived.ProofKit
import Derived.OpenShut
import Derived.JoinedCond
import Derived.JoinedOf
import Derived.Handed
import Derived.Carry
set_option linter.unusedVariables false
set_option linter.unusedSimpArgs false
namespace Go.Proofs
open Go.Idl Go.ChangeShapes Go.WideShapes Go.ChangeAt Go.RowKit
open Go.Proofs.YtghpaalcedgcaaaGreat.Rows (uptoBulk uptoBulkAll)

/-- all old memory stands -/
def oldF (W : World) : Nat → Nat → Prop := fun b _ => b < W.heap.size

theorem cell_lt {W : World} {a : Addr} {v : Value} (h : W.cell? a = some v) : a.block < W.heap.size := by
  unfold World.cell? at h
  split at h
  · rename_i h1; exact (Array.getElem?_eq_some_iff.1 h1).1
  · cases h
theorem cell_spot {W : World} {a : Addr} {v : Value} (h : W.cell? a = some v) : a.spot = none := by
  unfold World.cell? at h
  split at h
  · split at h
    · cases h
    · rename_i h1
      cases hs : a.spot with
      | none => rfl
      | some x => rw [hs] at h1; exact absurd rfl h1
  · cases h

theorem list4 {α : Type} {l : List α} (h : l.length = 4) : ∃ a b c d, l = [a, b, c, d] := by
  match l, h with
  | [a, b, c, d], _ => exact ⟨a, b, c, d, rfl⟩
theorem list7 {α : Type} {l : List α} (h : l.length = 7) : ∃ a b c d e f g, l = [a, b, c, d, e, f, g] := by
  match l, h with
  | [a, b, c, d, e, f, g], _ => exact ⟨a, b, c, d, e, f, g, rfl⟩


theorem hrel0 (W : World) : HRel (oldF W) (fun _ => False) (fun _ => none) W where
  hp b o h := by cases h
  xf b o h := h.elim
  xb b h := h.elim
  fb b o h := h

theorem kept {W W' : World} {F' X'} (hk : Keep (oldF W) (fun _ => False) W F' X' W') : W.keptBut W' (fun _ => False) := by
  refine ⟨hk.os, hk.out, fun i hi => ?_⟩
  rw [hk.ub i hi (fun h => h)]
  cases hb : W.heap[i]? with
  | none => rfl
  | some o => cases o <;> simp

theorem same_at {W W' : World} {F' X'} (hk : Keep (oldF W) (fun _ => False) W F' X' W') {p : MemPlace} (hp : p.block < W.heap.size) : W.sameAt W' p := by
  cases p with
  | cell b o => exact hk.fc b o hp
  | map b => exact hk.ub b hp (fun h => h)

section
variable {H : Type} {enc : TypeId × Value → H} {W : World}

/-- a slice, read: its elements one behind the other -/
theorem slice_read {α : Type} (row : α → List IV) {st et : TypeId} {z : Nat} (hst : Tryz.prog.underlying st = some (.slice et)) (hz : Tryz.prog.cellsOf et = z) (hz0 : 0 < z)
    (helem : ∀ (fuel : Nat) (cs : List Value) (x : DataW H × List MemPlace), DataW.trod enc Tryz.prog W 0 (fun _ => true) true fuel et cs = some x → ∃ a : α, RepAll (oldF W) W (row a) cs ∧ ∀ u ∈ cs, u.oneCell' = true)
    {fuel : Nat} {v : Value} {x : DataW H × List MemPlace} (h : DataW.trod enc Tryz.prog W 0 (fun _ => true) true fuel st [v] = some x) :
    ∃ l : List α, Rep (oldF W) W (.list .plain (l.map row)) v ∧ v.oneCell' = true ∧ l.length ≤ maxLen := by
  rcases DataW.trod_slice hst h with ⟨hc, hy⟩ | ⟨a, len, cap, elems, rest, m, hm, hc, hy, hb, hlc, hcm, hel, hread, hsp, _⟩
  · simp at hc
    subst hc
    exact ⟨[], ⟨none, 0, [], rfl, Nat.le_refl _, Nat.zero_le _, (fun _ _ h => nomatch h), (fun h => nomatch h), rfl⟩, rfl, by simp⟩
  · simp at hc
    subst hc
    rw [hz] at hread hsp
    obtain ⟨b, off, spot⟩ := a
    have hspot : cap ≠ 0 → spot = none := by
      intro hc0
      have hz : ∃ cs', W.cells? 0 (Addr.add ⟨b, off, spot⟩ (0 * z)) z = some cs' := by
        by_cases hl0 : 0 < len
        · have := hread 0 hl0
          have h2 : elems[0]? = some elems[0] := List.getElem?_eq_getElem (by omega)
          rw [h2] at this
          obtain ⟨cs', h3, _⟩ := Option.bind_eq_some_iff.1 this
          exact ⟨cs', h3⟩
        · obtain ⟨hrl, hr⟩ := hsp rfl
          have := hr 0 (by omega)
          have h2 : rest[0]? = some (rest[0]'(by omega)) := List.getElem?_eq_getElem (by omega)
          rw [h2] at this
          obtain ⟨cs', h3, _⟩ := Option.bind_eq_some_iff.1 this
          have : len + 0 = 0 := by omega
          rw [this] at h3
          exact ⟨cs', h3⟩
      obtain ⟨cs', h3⟩ := hz
      obtain ⟨_, h4, h5⟩ := World.cells?_some h3
      have h6 := h5 0 (by omega)
      have h7 : cs'[0]? = some (cs'[0]'(by omega)) := List.getElem?_eq_getElem (by omega)
      rw [h7] at h6
      exact cell_spot (a := ⟨b, off, spot⟩) (by simpa [Addr.add] using h6)
    have key : ∀ k, k ≤ len → ∃ (l : List α) (vals : List Value), l.length = k ∧ vals.length = k * z ∧ RepRows (oldF W) W (l.map row) vals ∧ FCells (oldF W) W b off vals := by
      intro k
      induction k with
      | zero => intro _; exact ⟨[], [], rfl, by simp, rfl, (fun j v h => by simp at h)⟩
      | succ k ihk =>
        intro hk
        obtain ⟨l, vals, h1, h2, h3, h4⟩ := ihk (by omega)
        have hrd := hread k (by omega)
        have hek : elems[k]? = some (elems[k]'(by omega)) := List.getElem?_eq_getElem (by omega)
        rw [hek] at hrd
        obtain ⟨csk, hcs, htr⟩ := Option.bind_eq_some_iff.1 hrd
        obtain ⟨c, hc1, hc2⟩ := helem m _ _ htr
        obtain ⟨_, hcl, hcc⟩ := World.cells?_some hcs
        obtain rfl : spot = none := hspot (by omega)
        refine ⟨l ++ [c], vals ++ csk, by simp [h1], by rw [List.length_append, h2, hcl, Nat.succ_mul], ?_, ?_⟩
        · rw [List.map_append]
          exact h3.append ⟨csk, [], by simp, hc1, rfl⟩
        · intro j v hj
          by_cases hjl : j < vals.length
          · rw [List.getElem?_append_left hjl] at hj
            exact h4 j v hj
          · rw [List.getElem?_append_right (by omega)] at hj
            have hjk : j - vals.length < z := by have := (List.getElem?_eq_some_iff.1 hj).1; omega
            have hce := hcc _ hjk
            rw [hj, addr_add, addr_add] at hce
            have : off + k * z + (j - vals.length) = off + j := by omega
            rw [this] at hce
            exact ⟨cell_lt hce, hce, hc2 v (List.mem_of_getElem? hj)⟩
    obtain ⟨l, vals, h1, h2, h3, h4⟩ := key len (Nat.le_refl _)
    exact ⟨l, ⟨some ⟨b, off, spot⟩, cap, vals, by rw [List.length_map, h1], by rw [List.length_map, h1]; exact hlc, hcm, (fun _ _ h => nomatch h), (fun h => nomatch h), fun hh => hspot (hh.elim (fun e => nomatch e) (fun e => e)), h4, h3⟩, rfl, by omega⟩

set_option maxRecDepth 20000 in
theorem sl_cells {r : Reach} {b0 : Nat} {st et : TypeId} {v : Value} (hst : Tryz.prog.underlying st = some (.slice et)) (hval : Value.okWide Tryz.prog W r b0 st v) : v.cells.toList = [v] := by
  simp only [Value.okWide, hst, Cell.okWide, Cell.ok] at hval
  cases v <;> first | rfl | exact hval.elim
set_option maxRecDepth 20000 in
theorem sl_arg {α : Type} (row : α → List IV) {st et : TypeId} {z : Nat} (hst : Tryz.prog.underlying st = some (.slice et)) (hz : Tryz.prog.cellsOf et = z) (hz0 : 0 < z)
    (helem : ∀ (fuel : Nat) (cs : List Value) (x : DataW H × List MemPlace), DataW.trod enc Tryz.prog W 0 (fun _ => true) true fuel et cs = some x → ∃ a : α, RepAll (oldF W) W (row a) cs ∧ ∀ u ∈ cs, u.oneCell' = true)
    {r : Reach} {b0 : Nat} {v : Value} {d : DataW H} {ps : List MemPlace} (hval : Value.okWide Tryz.prog W r b0 st v) (h : DataW.Trod enc Tryz.prog W 0 (fun _ => true) true st v d ps) :
    ∃ l : List α, Rep (oldF W) W (.list .plain (l.map row)) v ∧ l.length ≤ maxLen := by
  obtain ⟨fuel, hf⟩ := h
  rw [sl_cells hst hval] at hf
  obtain ⟨l, h1, _, h2⟩ := slice_read row hst hz hz0 helem hf
  exact ⟨l, h1, h2⟩
/-- a number, read -/
theorem int_read {ty : TypeId} {k : IntKind} (hu : Tryz.prog.underlying ty = some (.int k)) (fuel : Nat) (cs : List Value) (x : DataW H × List MemPlace) (h : DataW.trod enc Tryz.prog W 0 (fun _ => true) true fuel ty cs = some x) :
    ∃ n : Int, cs = [.int k n] ∧ (Lit.int k n).wf = true := by
  obtain ⟨n, hn, h2⟩ := DataW.trod_int hu h
  exact ⟨n, hn, by first | exact h2.2 | exact h2.1 | simp_all⟩
end
end Go.Proofs
