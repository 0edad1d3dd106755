/- This text is a part of the proofs of the statements of this seat: the ideal states and their rules, or what one of the functions that the statements reach comes to. Conditions: none beyond those that each theorem names. -/
import Derived.Test.YtghpaalcedgcaaaGreatCD
import Derived.Test.YtghpaalcedgcaaaGreatPA
set_option linter.unusedVariables false
set_option linter.unusedSimpArgs false
set_option pp.deepTerms false
set_option pp.maxSteps 400
namespace Go.Proofs
open Go.Idl

theorem _root_.Go.Idl.Sub.upd' {h h2 : Heap} (hs : Sub h h2) {b : Nat} (hb : h2 b = none) (o : Option IObj) : Sub h (upd h2 b o) := by
  intro b2 o2 h3
  simp only [upd]
  split
  · rename_i e; rw [e] at h3; rw [hs _ _ h3] at hb; cases hb
  · exact hs _ _ h3

/-- a new array of ints -/
def newInts (l : List Int) (h : Heap) (e : IEnd) (h' : Heap) : Prop := ∃ b cap, h b = none ∧ l.length ≤ cap ∧ e = .ret (.sl 1 b 0 l.length cap) ∧ h' = upd h b (some (.arr 3 1 (l.map intRow) cap))

def WI (h : Heap) (l : List Int) (v : IV) (sh : Heap) : Prop :=
  Sub h sh ∧ ((l = [] ∧ v = .list .tight []) ∨ ∃ b cap, h b = none ∧ l.length ≤ cap ∧ v = .sl 1 b 0 l.length cap ∧ sh b = some (.arr 3 1 (l.map intRow) cap))

theorem WI.app {h : Heap} {l : List Int} {v : IV} {st : St} (hw : WI h l v st.h) (l2 : List Int) (hl : l.length + l2.length < 1000000000000) {d : Nat} {t : TypeId} (ht : elT Tryz.prog t = some 3) {tk : Tok} {K : St → Prop}
    (hK : ∀ s v', WI h (l ++ l2) v' s.h → (∀ k, k ≠ d → s.t k = st.t k) → s.t d = v' → s.m = st.m → (∀ (M MM : Nat → Bool) (st0 s0 : St), Fr M MM st0 s0 → Fr M MM st0 st = Fr M MM st0 s0 → M d = true → Fr M MM st0 s) → K s) : iappB Tryz.prog st d t v (.list tk (l2.map intRow)) K := by
  obtain ⟨hsub, hw⟩ := hw
  have hz : elZ Tryz.prog 3 = some 1 := elZ_3
  rcases hw with ⟨rfl, rfl⟩ | ⟨b, cap, hb, hcap, rfl, hsb⟩
  · simp only [iappB, ht, Option.bind_some, hz]
    refine ⟨⟨by simp [roomy, byT_3]; simp at hl; omega, by simp [uni], ints_uni _⟩, fun hn => ?_, fun hn b' cap' hb' hc => ?_⟩
    · have : l2 = [] := by simpa using hn
      subst this
      exact hK _ _ ⟨hsub, .inl ⟨rfl, rfl⟩⟩ (fun k hk => by simp [go_sem, hk]) (by simp [go_sem]) rfl (fun M MM st0 s0 hF0 he hM => by have hF : Fr M MM st0 st := he ▸ hF0; first | (simpa -implicitDefEqProofs [go_sem, hM] using hF) | (rw [Fr.put_eq hM]; exact ⟨hF.t, hF.m⟩))
    · simp only [List.nil_append, List.length_nil, Nat.zero_add, List.length_map] at hc ⊢
      refine hK _ _ ⟨?_, .inr ⟨b', cap', sub_none hsub hb', hc, rfl, ?_⟩⟩ (fun k hk => by simp [go_sem, hk]) (by simp [go_sem]) rfl (fun M MM st0 s0 hF0 he hM => by have hF : Fr M MM st0 st := he ▸ hF0; first | (simpa -implicitDefEqProofs [go_sem, hM] using hF) | (rw [Fr.put_eq hM]; exact ⟨hF.t, hF.m⟩))
      · exact hsub.upd' hb' _
      · simp [go_sem]
  · simp only [iappB, hsb, ht]
    refine ⟨⟨trivial, trivial, trivial, hz, by simp, trivial, by simp [roomy, byT_3]; omega, ints_uni _⟩, fun hfit => ?_, fun hno b' cap' hb' hc => ?_⟩
    · simp only [List.length_map] at hfit ⊢
      rw [← List.map_append]
      refine hK _ (.sl 1 b 0 (l ++ l2).length cap) ⟨?_, .inr ⟨b, cap, hb, by simp; omega, rfl, ?_⟩⟩ (fun k hk => by simp [go_sem, hk]) (by simp [go_sem]) rfl (fun M MM st0 s0 hF0 he hM => by have hF : Fr M MM st0 st := he ▸ hF0; first | (simpa -implicitDefEqProofs [go_sem, hM] using hF) | (rw [Fr.put_eq hM]; exact ⟨hF.t, hF.m⟩))
      · intro b2 o hb2
        simp only [go_sem]
        rw [if_neg (by rintro rfl; rw [hb] at hb2; cases hb2)]
        exact hsub _ _ hb2
      · simp [go_sem]
    · simp only [List.length_map] at hc ⊢
      rw [← List.map_append]
      refine hK _ (.sl 1 b' 0 (l ++ l2).length cap') ⟨?_, .inr ⟨b', cap', sub_none hsub hb', by simp; omega, rfl, ?_⟩⟩ (fun k hk => by simp [go_sem, hk]) (by simp [go_sem]) rfl (fun M MM st0 s0 hF0 he hM => by have hF : Fr M MM st0 st := he ▸ hF0; first | (simpa -implicitDefEqProofs [go_sem, hM] using hF) | (rw [Fr.put_eq hM]; exact ⟨hF.t, hF.m⟩))
      · exact hsub.upd' hb' _
      · simp [go_sem]
end Go.Proofs

set_option linter.unusedVariables false
set_option linter.unusedSimpArgs false
set_option pp.deepTerms false
set_option pp.maxSteps 400
namespace Go.Proofs
open Go.Idl

set_option maxRecDepth 20000 in
set_option maxHeartbeats 4000000 in
theorem leavesW_c (l : List Cel) (hs : Cel.sizes l < 100000000000) (h : Heap) (hne : idsL l ≠ []) :
    ICall Tryz.prog 38 [.list .plain (l.map Cel.row)] h (newInts (idsL l) h) := by
  have hlen := Cel.len_le l
  refine icall_of_iwp (fun d => if d = 19 ∨ d = 24 then 2 else 0) Tryz.func38 rfl (by kernel_rfl) (Nat.le_of_ble_eq_true rfl) ?_
  rw [Tryz.results38]
  simp -implicitDefEqProofs [go_sem]
  refine iwp_loopF (rng [3,5] 8 25) (fun k => k == 5) (fun s => ∃ i, i ≤ l.length ∧ s.t 8 = .int .i64 i ∧ WI h (idsL (l.take i)) (s.t 3) s.h) (fun s => l.length - tn (s.t 8)) ?_ ?_
  · exact ⟨0, Nat.zero_le _, by simp -implicitDefEqProofs [go_sem], by simp -implicitDefEqProofs [go_sem]; exact ⟨Sub.refl _, .inl ⟨rfl, rfl⟩⟩⟩
  rintro J s hJ hf ⟨i, hi, h8, hw0⟩
  obtain ⟨v, h3⟩ : ∃ v, s.t 3 = v := ⟨_, rfl⟩
  rw [h3] at hw0
  simp -implicitDefEqProofs [go_sem, h8, h3, hf.t, hf.m]
  refine cK_dec (fun hlt => ?_) (fun hge => ?_)
  · have hg : l[i]? = some l[i] := List.getElem?_eq_getElem hlt
    have hw := wrap_succ (i := i) (by omega)
    have hst := Cel.sizes_take l i hlt
    have hle := Cel.sizes_le l (i + 1)
    have hl1 := idsL_len (l.take i)
    have hl2 := idsL_len (l[i].kids)
    have hsz := l[i].size_eq
    have htk := idsL_take l i hlt
    rw [ids_eq] at htk
    simp -implicitDefEqProofs [go_sem, h8, h3, hf.t, hf.m, hlt, hg]
    refine cK_beq (fun hk => ?_) (fun hk => ?_)
    · simp -implicitDefEqProofs [go_sem, h8, h3, hf.t, hf.m, hlt, hg]
      refine WI.app (l := idsL (l.take i)) (v := v) (by simpa -implicitDefEqProofs [go_sem] using hw0) [l[i].id] (by simp; omega) elT_40 ?_
      intro s2 v2 hw2 hfr ht2 hm2 hFr
      have hf2 := hFr _ _ _ _ hf (by simp -implicitDefEqProofs [go_sem]) (by simp -implicitDefEqProofs [go_sem])
      simp -implicitDefEqProofs [go_sem, hfr, ht2, hm2, h8, h3, hf.t, hf.m, hlt, hg]
      refine (leavesK_c l[i] s2.h (by omega)).mono ?_
      rintro e h' ⟨rfl, he⟩
      rw [he]
      simp -implicitDefEqProofs [go_sem, hfr, ht2, hm2, h8, h3, hf.t, hf.m, hf2, hw]
      refine WI.app (l := idsL (l.take i) ++ [l[i].id]) (v := v2) (by simpa -implicitDefEqProofs [go_sem] using hw2) (idsL l[i].kids) (by simp; omega) elT_40 ?_
      intro s3 v3 hw3 hfr3 ht3 hm3 hFr3
      have hf3 := hFr3 _ _ _ _ hf2 (by simp -implicitDefEqProofs [go_sem]) (by simp -implicitDefEqProofs [go_sem])
      simp -implicitDefEqProofs [go_sem, hfr3, ht3, hm3, hfr, ht2, hm2, h8, h3, hf.t, hf.m, hf3, hw]
      refine hJ _ ⟨i + 1, by omega, by simp -implicitDefEqProofs [go_sem, hw, hfr3, hfr, h8], ?_⟩ (by simp [go_sem, h8, hw, hfr3, hfr]; omega)
      rw [htk, if_pos hk, ← List.append_assoc]
      simpa -implicitDefEqProofs [go_sem] using hw3
    · simp -implicitDefEqProofs [go_sem, h8, h3, hf.t, hf.m, hlt, hg]
      refine (leavesK_c l[i] s.h (by omega)).mono ?_
      rintro e h' ⟨rfl, he⟩
      rw [he]
      simp -implicitDefEqProofs [go_sem, h8, h3, hf.t, hf.m, hf, hw]
      refine WI.app (l := idsL (l.take i)) (v := v) (by simpa -implicitDefEqProofs [go_sem] using hw0) (idsL l[i].kids) (by omega) elT_40 ?_
      intro s3 v3 hw3 hfr3 ht3 hm3 hFr3
      have hf3 := hFr3 _ _ _ _ hf (by simp -implicitDefEqProofs [go_sem]) (by simp -implicitDefEqProofs [go_sem])
      simp -implicitDefEqProofs [go_sem, hfr3, ht3, hm3, h8, h3, hf.t, hf.m, hf3, hw]
      refine hJ _ ⟨i + 1, by omega, by simp -implicitDefEqProofs [go_sem, hw, hfr3, h8], ?_⟩ (by simp [go_sem, h8, hw, hfr3]; omega)
      rw [htk, if_neg hk, List.nil_append]
      simpa -implicitDefEqProofs [go_sem] using hw3
  · obtain rfl : i = l.length := by omega
    rw [List.take_length] at hw0
    obtain ⟨hsub, ⟨hnil, _⟩ | ⟨b, cap, hb, hcap, rfl, hsb⟩⟩ := hw0
    · exact absurd hnil hne
    simp -implicitDefEqProofs [go_sem, h8, h3, hf.t, hf.m]
    refine ⟨upd h b (some (.arr 3 1 ((idsL l).map intRow) cap)), ?_, b, cap, hb, hcap, rfl, rfl⟩
    intro b2 o hb2
    simp only [upd] at hb2
    split at hb2
    · rename_i e; rw [e, hsb]; exact hb2
    · exact hsub _ _ hb2
end Go.Proofs

set_option linter.unusedVariables false
set_option linter.unusedSimpArgs false
set_option pp.deepTerms false
set_option pp.maxSteps 400
namespace Go.Proofs
open Go.Idl

theorem cLeavesW_c (c : Cel) (h : Heap) (hs : c.size < 100000000000) (hne : c.ids ≠ []) : ICall Tryz.prog 38 [.list .plain [c.row]] h (newInts c.ids h) := by
  have e : idsL [c] = c.ids := by simp [idsL, Cel.alls, Cel.ids, Cel.leaves]
  have := leavesW_c [c] (by simpa [Cel.sizes] using hs) h (by rw [e]; exact hne)
  rw [e] at this
  exact this

end Go.Proofs
