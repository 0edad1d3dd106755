/- This text is a part of the proofs of the statements of this seat: the ideal states and their rules, or what one of the functions that the statements reach comes to. Conditions: none beyond those that each theorem names. -/
import Derived.Test.YtghpaalcedgcaaaGreatE1
import Derived.Test.YtghpaalcedgcaaaGreatR0
set_option linter.unusedVariables false
set_option linter.unusedSimpArgs false
namespace Go.Proofs
open Go.Idl Go.ChangeShapes Go.WideShapes Go.ChangeAt Go.RowKit
open Go.Proofs.YtghpaalcedgcaaaGreat.Rows (uptoBulk uptoBulkAll)

section
variable {H : Type} {enc : TypeId × Value → H} {W : World}

theorem bulk_get (l : List (DataW H)) (i : Nat) (h : i < l.length) : uptoBulkAll (l.take (i + 1)) = uptoBulkAll (l.take i) + uptoBulk l[i] := by
  induction l generalizing i with
  | nil => simp at h
  | cons x l ih =>
    cases i with
    | zero => simp [uptoBulkAll]
    | succ i => simp at h; simp [uptoBulkAll, ih i h]; omega

set_option maxRecDepth 20000 in
theorem rct_read {fuel : Nat} {cs : List Value} {x : DataW H × List MemPlace} (h : DataW.trod enc Tryz.prog W 0 (fun _ => true) true fuel 23 cs = some x) :
    ∃ r : Rct, RepAll (oldF W) W r.row cs ∧ ∀ u ∈ cs, u.oneCell' = true := by
  obtain ⟨xs, n, _, _, hl, hlen, hf⟩ := DataW.trod_struct Tryz.underlying23 h
  have hl4 : cs.length = 4 := by rw [hl]; kernel_rfl
  obtain ⟨c0, c1, c2, c3, rfl⟩ := list4 hl4
  have e1 : Tryz.prog.cellsOf 3 = 1 := by kernel_rfl
  have f0 : DataW.trod enc Tryz.prog W 0 (fun _ => true) true n 3 ((([c0, c1, c2, c3] : List Value).drop 0).take (Tryz.prog.cellsOf 3)) = xs[0]? := hf 0 _ rfl
  rw [e1] at f0
  have f1 : DataW.trod enc Tryz.prog W 0 (fun _ => true) true n 3 ((([c0, c1, c2, c3] : List Value).drop 1).take (Tryz.prog.cellsOf 3)) = xs[1]? := hf 1 _ rfl
  rw [e1] at f1
  have f2 : DataW.trod enc Tryz.prog W 0 (fun _ => true) true n 3 ((([c0, c1, c2, c3] : List Value).drop 2).take (Tryz.prog.cellsOf 3)) = xs[2]? := hf 2 _ rfl
  rw [e1] at f2
  have f3 : DataW.trod enc Tryz.prog W 0 (fun _ => true) true n 3 ((([c0, c1, c2, c3] : List Value).drop 3).take (Tryz.prog.cellsOf 3)) = xs[3]? := hf 3 _ rfl
  rw [e1] at f3
  simp only [List.drop_zero, List.drop_succ_cons, List.take_succ_cons, List.take_zero] at f0 f1 f2 f3
  have g : ∀ (i : Nat) (c : Value), i < 4 → DataW.trod enc Tryz.prog W 0 (fun _ => true) true n 3 [c] = xs[i]? → ∃ k, c = .int .i64 k := by
    intro i c hi hc
    have : ∃ y, xs[i]? = some y := ⟨xs[i]'(by rw [hlen]; exact hi), List.getElem?_eq_getElem _⟩
    obtain ⟨y, hy⟩ := this
    rw [hy] at hc
    obtain ⟨k, hk, _⟩ := DataW.trod_int Tryz.underlying3 hc
    simp at hk
    exact ⟨k, hk⟩
  obtain ⟨k0, rfl⟩ := g 0 _ (by omega) f0
  obtain ⟨k1, rfl⟩ := g 1 _ (by omega) f1
  obtain ⟨k2, rfl⟩ := g 2 _ (by omega) f2
  obtain ⟨k3, rfl⟩ := g 3 _ (by omega) f3
  refine ⟨⟨k0, k1, k2, k3⟩, ⟨_, _, rfl, rfl, _, _, rfl, rfl, _, _, rfl, rfl, _, _, rfl, rfl, rfl⟩, ?_⟩
  intro u hu
  simp at hu
  rcases hu with rfl | rfl | rfl | rfl <;> rfl

set_option maxRecDepth 20000 in
theorem cel_read : ∀ (fuel : Nat) (cs : List Value) (x : DataW H × List MemPlace), DataW.trod enc Tryz.prog W 0 (fun _ => true) true fuel 26 cs = some x →
    ∃ c : Cel, RepAll (oldF W) W c.row cs ∧ (∀ u ∈ cs, u.oneCell' = true) ∧ c.size ≤ uptoBulk x.1 := by
  intro fuel
  induction fuel using Nat.strongRecOn with
  | _ fuel ih =>
  intro cs x h
  obtain ⟨xs, n, hfn, rfl, hl, hlen, hf⟩ := DataW.trod_struct Tryz.underlying26 h
  have hl7 : cs.length = 7 := by rw [hl]; kernel_rfl
  obtain ⟨c0, c1, c2, c3, c4, c5, c6, rfl⟩ := list7 hl7
  obtain ⟨y0, y1, y2, y3, rfl⟩ := list4 (l := xs) hlen
  have e1 : Tryz.prog.cellsOf 3 = 1 := by kernel_rfl
  have e2 : Tryz.prog.cellsOf 5 = 1 := by kernel_rfl
  have e3 : Tryz.prog.cellsOf 23 = 4 := by kernel_rfl
  have e4 : Tryz.prog.cellsOf 24 = 1 := by kernel_rfl
  have e5 : Tryz.prog.cellsOf 26 = 7 := by kernel_rfl
  have f0 : DataW.trod enc Tryz.prog W 0 (fun _ => true) true n 5 ((([c0, c1, c2, c3, c4, c5, c6] : List Value).drop 0).take (Tryz.prog.cellsOf 5)) = [y0, y1, y2, y3][0]? := hf 0 _ rfl
  rw [e2] at f0
  have f1 : DataW.trod enc Tryz.prog W 0 (fun _ => true) true n 23 ((([c0, c1, c2, c3, c4, c5, c6] : List Value).drop 1).take (Tryz.prog.cellsOf 23)) = [y0, y1, y2, y3][1]? := hf 1 _ rfl
  rw [e3] at f1
  have f2 : DataW.trod enc Tryz.prog W 0 (fun _ => true) true n 3 ((([c0, c1, c2, c3, c4, c5, c6] : List Value).drop 5).take (Tryz.prog.cellsOf 3)) = [y0, y1, y2, y3][2]? := hf 2 _ rfl
  rw [e1] at f2
  have f3 : DataW.trod enc Tryz.prog W 0 (fun _ => true) true n 24 ((([c0, c1, c2, c3, c4, c5, c6] : List Value).drop 6).take (Tryz.prog.cellsOf 24)) = [y0, y1, y2, y3][3]? := hf 3 _ rfl
  rw [e4] at f3
  simp only [List.drop_zero, List.drop_succ_cons, List.take_succ_cons, List.take_zero, List.getElem?_cons_zero, List.getElem?_cons_succ] at f0 f1 f2 f3
  obtain ⟨kind, hk, _⟩ := DataW.trod_int Tryz.underlying5 f0
  obtain ⟨id, hid, _⟩ := DataW.trod_int Tryz.underlying3 f2
  simp at hk hid
  subst hk; subst hid
  obtain ⟨r, hr, hr1⟩ := rct_read f1
  -- the kids
  have hkids : ∃ kids : List Cel, Rep (oldF W) W (.list .plain (kids.map Cel.row)) c6 ∧ c6.oneCell' = true ∧ Cel.sizes kids + 1 ≤ uptoBulk y3.1 := by
    rcases DataW.trod_slice Tryz.underlying24 f3 with ⟨hc, hy⟩ | ⟨a, len, cap, elems, rest, m, hm, hc, hy, hb, hlc, hcm, hel, hread, hsp, _⟩
    · simp at hc
      subst hc
      refine ⟨[], ⟨none, 0, [], rfl, Nat.le_refl _, Nat.zero_le _, (fun _ _ h => nomatch h), (fun h => nomatch h), rfl⟩, rfl, ?_⟩
      rw [hy]; simp [Cel.sizes, uptoBulk]
    · simp at hc
      subst hc
      rw [e5] at hread hsp
      obtain ⟨b, off, spot⟩ := a
      have hspot : cap ≠ 0 → spot = none := by
        intro hc0
        have hz : ∃ cs', W.cells? 0 (Addr.add ⟨b, off, spot⟩ (0 * 7)) 7 = some cs' := by
          by_cases hl0 : 0 < len
          · have := hread 0 hl0
            have h2 : elems[0]? = some elems[0] := List.getElem?_eq_getElem (by omega)
            rw [h2] at this
            obtain ⟨cs', h3, _⟩ := Option.bind_eq_some_iff.1 this
            exact ⟨cs', h3⟩
          · obtain ⟨hrl, hr⟩ := hsp rfl
            have := hr 0 (by omega)
            have h2 : rest[0]? = some (rest[0]'(by omega)) := List.getElem?_eq_getElem (by omega)
            rw [h2] at this
            obtain ⟨cs', h3, _⟩ := Option.bind_eq_some_iff.1 this
            have : len + 0 = 0 := by omega
            rw [this] at h3
            exact ⟨cs', h3⟩
        obtain ⟨cs', h3⟩ := hz
        obtain ⟨_, h4, h5⟩ := World.cells?_some h3
        have h6 := h5 0 (by omega)
        have h7 : cs'[0]? = some (cs'[0]'(by omega)) := List.getElem?_eq_getElem (by omega)
        rw [h7] at h6
        exact cell_spot (a := ⟨b, off, spot⟩) (by simpa [Addr.add] using h6)
      have key : ∀ k, k ≤ len → ∃ (kids : List Cel) (vals : List Value), kids.length = k ∧ vals.length = k * 7 ∧ RepRows (oldF W) W (kids.map Cel.row) vals ∧ FCells (oldF W) W b off vals ∧
          Cel.sizes kids ≤ uptoBulkAll ((elems.map (·.1)).take k) := by
        intro k
        induction k with
        | zero => intro _; exact ⟨[], [], rfl, rfl, rfl, (fun j v h => by simp at h), by simp [Cel.sizes]⟩
        | succ k ihk =>
          intro hk
          obtain ⟨kids, vals, h1, h2, h3, h4, h5⟩ := ihk (by omega)
          have hrd := hread k (by omega)
          have hek : elems[k]? = some (elems[k]'(by omega)) := List.getElem?_eq_getElem (by omega)
          rw [hek] at hrd
          obtain ⟨csk, hcs, htr⟩ := Option.bind_eq_some_iff.1 hrd
          obtain ⟨c, hc1, hc2, hc3⟩ := ih m (by omega) _ _ htr
          obtain ⟨_, hcl, hcc⟩ := World.cells?_some hcs
          obtain rfl : spot = none := hspot (by omega)
          refine ⟨kids ++ [c], vals ++ csk, by simp [h1], by simp [h2, hcl]; omega, ?_, ?_, ?_⟩
          · rw [List.map_append]
            exact h3.append ⟨csk, [], by simp, hc1, rfl⟩
          · intro j v hj
            by_cases hjl : j < vals.length
            · rw [List.getElem?_append_left hjl] at hj
              exact h4 j v hj
            · rw [List.getElem?_append_right (by omega)] at hj
              have hjk : j - vals.length < 7 := by have := (List.getElem?_eq_some_iff.1 hj).1; omega
              have hce := hcc _ hjk
              rw [hj, addr_add, addr_add] at hce
              have : off + k * 7 + (j - vals.length) = off + j := by omega
              rw [this] at hce
              exact ⟨cell_lt hce, hce, hc2 v (List.mem_of_getElem? hj)⟩
          · have hsz : Cel.sizes (kids ++ [c]) = Cel.sizes kids + c.size := by
              have : ∀ l : List Cel, Cel.sizes (l ++ [c]) = Cel.sizes l + c.size := fun l => by
                induction l with
                | nil => simp [Cel.sizes]
                | cons x l ih => simp [Cel.sizes, ih]; omega
              exact this kids
            rw [hsz, bulk_get _ k (by simp; omega)]
            simp only [List.getElem_map]
            omega
      obtain ⟨kids, vals, h1, h2, h3, h4, h5⟩ := key len (Nat.le_refl _)
      refine ⟨kids, ⟨some ⟨b, off, spot⟩, cap, vals, by rw [List.length_map, h1], by rw [List.length_map, h1]; exact hlc, hcm, (fun _ _ h => nomatch h), (fun h => nomatch h), fun hh => hspot (hh.elim (fun e => nomatch e) (fun e => e)), h4, h3⟩, rfl, ?_⟩
      rw [hy]
      rw [List.take_of_length_le (by simp; omega)] at h5
      simp only [uptoBulk]
      omega
  obtain ⟨kids, hk1, hk2, hk3⟩ := hkids
  refine ⟨.mk kind r id kids, ?_, ?_, ?_⟩
  · rw [Cel.row_mk]
    obtain ⟨v0, vs0, hv, hr0, hrr⟩ := hr
    obtain ⟨v1, vs1, hv1, hr1', hrr1⟩ := hrr
    obtain ⟨v2, vs2, hv2, hr2', hrr2⟩ := hrr1
    obtain ⟨v3, vs3, hv3, hr3', hrr3⟩ := hrr2
    simp at hv
    obtain ⟨rfl, rfl⟩ := hv
    simp at hv1
    obtain ⟨rfl, rfl⟩ := hv1
    simp at hv2
    obtain ⟨rfl, rfl⟩ := hv2
    simp at hv3
    obtain ⟨rfl, rfl⟩ := hv3
    exact ⟨_, _, rfl, rfl, _, _, rfl, hr0, _, _, rfl, hr1', _, _, rfl, hr2', _, _, rfl, hr3', _, _, rfl, rfl, _, _, rfl, hk1, rfl⟩
  · intro u hu
    simp at hu
    rcases hu with rfl | hu | hu | hu | hu | rfl | rfl
    · rfl
    all_goals first | rfl | exact hk2 | (apply hr1; simp [hu])
  · rw [Cel.size]
    simp only [uptoBulk, uptoBulkAll, List.map_cons, List.map_nil]
    omega
end
end Go.Proofs
