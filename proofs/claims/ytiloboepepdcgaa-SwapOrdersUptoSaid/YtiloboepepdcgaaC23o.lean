/- This text is a part of the proofs of the statements of this seat: the ideal states and their rules, or what one of the functions that the statements reach comes to. Conditions: none beyond those that each theorem names. -/
import Derived.Test.YtiloboepepdcgaaC22o
import Derived.Test.YtiloboepepdcgaaP4
set_option linter.unusedVariables false
set_option linter.unusedSimpArgs false
set_option pp.deepTerms false
set_option pp.maxSteps 400
namespace Go.Proofs
open Go.Idl

theorem _root_.Go.Idl.Sub.upd' {h h2 : Heap} (hs : Sub h h2) {b : Nat} (hb : h2 b = none) (o : Option IObj) : Sub h (upd h2 b o) := by
  intro b2 o2 h3
  simp only [upd]
  split
  · rename_i e; rw [e] at h3; rw [hs _ _ h3] at hb; cases hb
  · exact hs _ _ h3

/-- a new array of ints -/
def newInts (l : List Int) (h : Heap) (e : IEnd) (h' : Heap) : Prop := ∃ b cap, h b = none ∧ l.length ≤ cap ∧ e = .ret (.sl 1 b 0 l.length cap) ∧ h' = upd h b (some (.arr 3 1 (l.map intRow) cap))

def WI (h : Heap) (l : List Int) (v : IV) (sh : Heap) : Prop :=
  Sub h sh ∧ ((l = [] ∧ v = .list .tight []) ∨ ∃ b cap, h b = none ∧ l.length ≤ cap ∧ v = .sl 1 b 0 l.length cap ∧ sh b = some (.arr 3 1 (l.map intRow) cap))

theorem WI.app {h : Heap} {l : List Int} {v : IV} {st : St} (hw : WI h l v st.h) (l2 : List Int) (hl : l.length + l2.length < 1000000000000) {d : Nat} {t : TypeId} (ht : elT Try.prog t = some 3) {tk : Tok} {K : St → Prop}
    (hK : ∀ s v', WI h (l ++ l2) v' s.h → (∀ k, k ≠ d → s.t k = st.t k) → s.t d = v' → s.m = st.m → (∀ (M MM : Nat → Bool) (st0 s0 : St), Fr M MM st0 s0 → Fr M MM st0 st = Fr M MM st0 s0 → M d = true → Fr M MM st0 s) → K s) : iappB Try.prog st d t v (.list tk (l2.map intRow)) K := by
  obtain ⟨hsub, hw⟩ := hw
  have hz : elZ Try.prog 3 = some 1 := elZ_3
  rcases hw with ⟨rfl, rfl⟩ | ⟨b, cap, hb, hcap, rfl, hsb⟩
  · simp only [iappB, ht, Option.bind_some, hz]
    refine ⟨⟨by simp [roomy, byT_3]; simp at hl; omega, by simp [uni], ints_uni _⟩, fun hn => ?_, fun hn b' cap' hb' hc => ?_⟩
    · have : l2 = [] := by simpa using hn
      subst this
      exact hK _ _ ⟨hsub, .inl ⟨rfl, rfl⟩⟩ (fun k hk => by simp [go_sem, hk]) (by simp [go_sem]) rfl (fun M MM st0 s0 hF0 he hM => by have hF : Fr M MM st0 st := he ▸ hF0; first | (simpa -implicitDefEqProofs [go_sem, hM] using hF) | (rw [Fr.put_eq hM]; exact ⟨hF.t, hF.m⟩))
    · simp only [List.nil_append, List.length_nil, Nat.zero_add, List.length_map] at hc ⊢
      refine hK _ _ ⟨?_, .inr ⟨b', cap', sub_none hsub hb', hc, rfl, ?_⟩⟩ (fun k hk => by simp [go_sem, hk]) (by simp [go_sem]) rfl (fun M MM st0 s0 hF0 he hM => by have hF : Fr M MM st0 st := he ▸ hF0; first | (simpa -implicitDefEqProofs [go_sem, hM] using hF) | (rw [Fr.put_eq hM]; exact ⟨hF.t, hF.m⟩))
      · exact hsub.upd' hb' _
      · simp [go_sem]
  · simp only [iappB, hsb, ht]
    refine ⟨⟨trivial, trivial, trivial, hz, by simp, trivial, by simp [roomy, byT_3]; omega, ints_uni _⟩, fun hfit => ?_, fun hno b' cap' hb' hc => ?_⟩
    · simp only [List.length_map] at hfit ⊢
      rw [← List.map_append]
      refine hK _ (.sl 1 b 0 (l ++ l2).length cap) ⟨?_, .inr ⟨b, cap, hb, by simp; omega, rfl, ?_⟩⟩ (fun k hk => by simp [go_sem, hk]) (by simp [go_sem]) rfl (fun M MM st0 s0 hF0 he hM => by have hF : Fr M MM st0 st := he ▸ hF0; first | (simpa -implicitDefEqProofs [go_sem, hM] using hF) | (rw [Fr.put_eq hM]; exact ⟨hF.t, hF.m⟩))
      · intro b2 o hb2
        simp only [go_sem]
        rw [if_neg (by rintro rfl; rw [hb] at hb2; cases hb2)]
        exact hsub _ _ hb2
      · simp [go_sem]
    · simp only [List.length_map] at hc ⊢
      rw [← List.map_append]
      refine hK _ (.sl 1 b' 0 (l ++ l2).length cap') ⟨?_, .inr ⟨b', cap', sub_none hsub hb', by simp; omega, rfl, ?_⟩⟩ (fun k hk => by simp [go_sem, hk]) (by simp [go_sem]) rfl (fun M MM st0 s0 hF0 he hM => by have hF : Fr M MM st0 st := he ▸ hF0; first | (simpa -implicitDefEqProofs [go_sem, hM] using hF) | (rw [Fr.put_eq hM]; exact ⟨hF.t, hF.m⟩))
      · exact hsub.upd' hb' _
      · simp [go_sem]
end Go.Proofs
