/- This text is a part of the proofs of the statements of this seat: the ideal states and their rules, or what one of the functions that the statements reach comes to. Conditions: none beyond those that each theorem names. -/
import Derived.Test.YtiloboepepdcgaaC23o
set_option linter.unusedVariables false
set_option linter.unusedSimpArgs false
set_option pp.deepTerms false
set_option pp.maxSteps 400
namespace Go.Proofs
open Go.Idl

set_option maxRecDepth 20000 in
set_option maxHeartbeats 4000000 in
theorem leavesW_c (l : List Cel) (hs : Cel.sizes l < 100000000000) (h : Heap) (hne : idsL l ≠ []) :
    ICall Try.prog 87 [.list .plain (l.map Cel.row)] h (newInts (idsL l) h) := by
  have hlen := Cel.len_le l
  refine icall_of_iwp (fun d => if d = 19 ∨ d = 24 then 2 else 0) Try.func87 rfl (by kernel_rfl) (Nat.le_of_ble_eq_true rfl) ?_
  rw [Try.results87]
  simp -implicitDefEqProofs [go_sem]
  refine iwp_loopF (rng [3,5] 8 25) (fun k => k == 5) (fun s => ∃ i, i ≤ l.length ∧ s.t 8 = .int .i64 i ∧ WI h (idsL (l.take i)) (s.t 3) s.h) (fun s => l.length - tn (s.t 8)) ?_ ?_
  · exact ⟨0, Nat.zero_le _, by simp -implicitDefEqProofs [go_sem], by simp -implicitDefEqProofs [go_sem]; exact ⟨Sub.refl _, .inl ⟨rfl, rfl⟩⟩⟩
  rintro J s hJ hf ⟨i, hi, h8, hw0⟩
  obtain ⟨v, h3⟩ : ∃ v, s.t 3 = v := ⟨_, rfl⟩
  rw [h3] at hw0
  simp -implicitDefEqProofs [go_sem, h8, h3, hf.t, hf.m]
  refine cK_dec (fun hlt => ?_) (fun hge => ?_)
  · have hg : l[i]? = some l[i] := List.getElem?_eq_getElem hlt
    have hw := wrap_succ (i := i) (by omega)
    have hst := Cel.sizes_take l i hlt
    have hle := Cel.sizes_le l (i + 1)
    have hl1 := idsL_len (l.take i)
    have hl2 := idsL_len (l[i].kids)
    have hsz := l[i].size_eq
    have htk := idsL_take l i hlt
    rw [ids_eq] at htk
    simp -implicitDefEqProofs [go_sem, h8, h3, hf.t, hf.m, hlt, hg]
    refine cK_beq (fun hk => ?_) (fun hk => ?_)
    · simp -implicitDefEqProofs [go_sem, h8, h3, hf.t, hf.m, hlt, hg]
      refine WI.app (l := idsL (l.take i)) (v := v) (by simpa -implicitDefEqProofs [go_sem] using hw0) [l[i].id] (by simp; omega) elT_45 ?_
      intro s2 v2 hw2 hfr ht2 hm2 hFr
      have hf2 := hFr _ _ _ _ hf (by simp -implicitDefEqProofs [go_sem]) (by simp -implicitDefEqProofs [go_sem])
      simp -implicitDefEqProofs [go_sem, hfr, ht2, hm2, h8, h3, hf.t, hf.m, hlt, hg]
      refine (leavesK_c l[i] s2.h (by omega)).mono ?_
      rintro e h' ⟨rfl, he⟩
      rw [he]
      simp -implicitDefEqProofs [go_sem, hfr, ht2, hm2, h8, h3, hf.t, hf.m, hf2, hw]
      refine WI.app (l := idsL (l.take i) ++ [l[i].id]) (v := v2) (by simpa -implicitDefEqProofs [go_sem] using hw2) (idsL l[i].kids) (by simp; omega) elT_45 ?_
      intro s3 v3 hw3 hfr3 ht3 hm3 hFr3
      have hf3 := hFr3 _ _ _ _ hf2 (by simp -implicitDefEqProofs [go_sem]) (by simp -implicitDefEqProofs [go_sem])
      simp -implicitDefEqProofs [go_sem, hfr3, ht3, hm3, hfr, ht2, hm2, h8, h3, hf.t, hf.m, hf3, hw]
      refine hJ _ ⟨i + 1, by omega, by simp -implicitDefEqProofs [go_sem, hw, hfr3, hfr, h8], ?_⟩ (by simp [go_sem, h8, hw, hfr3, hfr]; omega)
      rw [htk, if_pos hk, ← List.append_assoc]
      simpa -implicitDefEqProofs [go_sem] using hw3
    · simp -implicitDefEqProofs [go_sem, h8, h3, hf.t, hf.m, hlt, hg]
      refine (leavesK_c l[i] s.h (by omega)).mono ?_
      rintro e h' ⟨rfl, he⟩
      rw [he]
      simp -implicitDefEqProofs [go_sem, h8, h3, hf.t, hf.m, hf, hw]
      refine WI.app (l := idsL (l.take i)) (v := v) (by simpa -implicitDefEqProofs [go_sem] using hw0) (idsL l[i].kids) (by omega) elT_45 ?_
      intro s3 v3 hw3 hfr3 ht3 hm3 hFr3
      have hf3 := hFr3 _ _ _ _ hf (by simp -implicitDefEqProofs [go_sem]) (by simp -implicitDefEqProofs [go_sem])
      simp -implicitDefEqProofs [go_sem, hfr3, ht3, hm3, h8, h3, hf.t, hf.m, hf3, hw]
      refine hJ _ ⟨i + 1, by omega, by simp -implicitDefEqProofs [go_sem, hw, hfr3, h8], ?_⟩ (by simp [go_sem, h8, hw, hfr3]; omega)
      rw [htk, if_neg hk, List.nil_append]
      simpa -implicitDefEqProofs [go_sem] using hw3
  · obtain rfl : i = l.length := by omega
    rw [List.take_length] at hw0
    obtain ⟨hsub, ⟨hnil, _⟩ | ⟨b, cap, hb, hcap, rfl, hsb⟩⟩ := hw0
    · exact absurd hnil hne
    simp -implicitDefEqProofs [go_sem, h8, h3, hf.t, hf.m]
    refine ⟨upd h b (some (.arr 3 1 ((idsL l).map intRow) cap)), ?_, b, cap, hb, hcap, rfl, rfl⟩
    intro b2 o hb2
    simp only [upd] at hb2
    split at hb2
    · rename_i e; rw [e, hsb]; exact hb2
    · exact hsub _ _ hb2
end Go.Proofs
