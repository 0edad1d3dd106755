/- This text is a part of the proofs of the statements of this seat: the ideal states and their rules, or what one of the functions that the statements reach comes to. Conditions: none beyond those that each theorem names. -/
import Derived.Test.YtioeghodmfdceaaC22
set_option linter.unusedVariables false
set_option linter.unusedSimpArgs false
set_option pp.deepTerms false
set_option pp.maxSteps 400
namespace Go.Proofs
open Go.Idl

theorem in_c (l : List Int) (n : Int) (h : Heap) (hl : l.length < 1000000000000) : ICall Try.prog 18 [.list .plain (l.map intRow), .int .i64 n] h (retP (.bool (decide (n ∈ l))) h) := by
  refine icall_of_iwp (fun _ => 0) Try.func18 rfl (by kernel_rfl) (Nat.le_of_ble_eq_true rfl) ?_
  rw [Try.results18]
  simp -implicitDefEqProofs [go_sem]
  refine iwp_loopF (rng [4,5] 8 17) nom (fun s => ∃ i : Nat, i ≤ l.length ∧ s.t 8 = .int .i64 i ∧ n ∉ l.take i ∧ s.h = h) (fun s => l.length - tn (s.t 8)) ?_ ?_
  · exact ⟨0, Nat.zero_le _, by simp -implicitDefEqProofs [go_sem], by simp, by simp -implicitDefEqProofs [go_sem]⟩
  rintro J s hJ hf ⟨i, hi, h8, hn, hh⟩
  simp -implicitDefEqProofs [go_sem, h8, hh, hf.t, hf.m]
  refine cK_dec (fun hlt => ?_) (fun hge => ?_)
  · have hg : l[i]? = some l[i] := List.getElem?_eq_getElem hlt
    have hw : IntKind.i64.wrap ((i : Int) + 1) = ((i + 1 : Nat) : Int) := by rw [wrap_in (by omega)]; rfl
    simp -implicitDefEqProofs [go_sem, h8, hh, hf.t, hf.m, hlt, hg]
    refine cK_beq (fun k1 => ?_) (fun k1 => ?_) <;> simp -implicitDefEqProofs [go_sem, h8, hh, hf.t, hf.m, hf, hw]
    · exact ⟨h, Sub.refl _, by rw [decide_eq_true (by rw [← k1]; exact List.getElem_mem hlt)], rfl⟩
    · refine hJ _ ⟨i + 1, by omega, by simp -implicitDefEqProofs [go_sem, hw], ?_, by simp -implicitDefEqProofs [go_sem, hh]⟩ (by simp [go_sem, h8, hw]; omega)
      rw [List.take_add_one, hg]
      simp only [List.mem_append, not_or]
      exact ⟨hn, by simp; exact fun e => k1 e.symm⟩
  · simp -implicitDefEqProofs [go_sem, h8, hh, hf.t, hf.m]
    rw [List.take_of_length_le (by omega)] at hn
    exact ⟨h, Sub.refl _, by rw [decide_eq_false hn], rfl⟩

def idxW (l : List Int) (x : Int) (h : Heap) (e : IEnd) (h' : Heap) : Prop := h' = h ∧ ((x ∉ l ∧ e = .ret (.int .i64 (-1))) ∨ ∃ (i : Nat) (hi : i < l.length), l[i] = x ∧ e = .ret (.int .i64 i))
theorem indexW_c (l : List Int) (x : Int) (b n cap : Nat) (h : Heap) (hb : h b = some (.arr 3 1 (l.map intRow) cap)) (hn : n = l.length) (hl : l.length < 100000000000) :
    ICall Try.prog 30 [.sl 1 b 0 n cap, .int .i64 x] h (idxW l x h) := by
  subst hn
  refine icall_of_iwp (fun _ => 0) Try.func30 rfl (by kernel_rfl) (Nat.le_of_ble_eq_true rfl) ?_
  rw [Try.results30]
  simp -implicitDefEqProofs [go_sem]
  refine iwp_loopF (rng [4,5] 8 18) nom (fun s => ∃ i : Nat, i ≤ l.length ∧ s.t 8 = .int .i64 i ∧ x ∉ l.take i ∧ s.h = h) (fun s => l.length - tn (s.t 8)) ?_ ?_
  · exact ⟨0, Nat.zero_le _, by simp -implicitDefEqProofs [go_sem], by simp, by simp -implicitDefEqProofs [go_sem]⟩
  rintro J s hJ hf ⟨i, hi, h8, hnx, hh⟩
  simp -implicitDefEqProofs [go_sem, h8, hh, hf.t, hf.m]
  refine cK_dec (fun hlt => ?_) (fun hge => ?_)
  · have hg : l[i]? = some l[i] := List.getElem?_eq_getElem hlt
    have hw := wrap_succ (i := i) (by omega)
    simp -implicitDefEqProofs [go_sem, h8, hh, hf.t, hf.m, hlt, hg, hb]
    refine cK_beq (fun k1 => ?_) (fun k1 => ?_) <;> simp -implicitDefEqProofs [go_sem, h8, hh, hf.t, hf.m, hf, hw]
    · exact ⟨h, Sub.refl _, rfl, .inr ⟨i, hlt, k1.symm, rfl⟩⟩
    · refine hJ _ ⟨i + 1, by omega, by simp -implicitDefEqProofs [go_sem, hw], ?_, by simp -implicitDefEqProofs [go_sem, hh]⟩ (by simp [go_sem, h8, hw]; omega)
      rw [List.take_add_one, hg]
      simp only [List.mem_append, not_or]
      exact ⟨hnx, by simp; exact k1⟩
  · simp -implicitDefEqProofs [go_sem, h8, hh, hf.t, hf.m]
    rw [List.take_of_length_le (by omega)] at hnx
    exact ⟨h, Sub.refl _, rfl, .inl ⟨hnx, rfl⟩⟩

theorem _root_.Go.Idl.Sub.upd' {h h2 : Heap} (hs : Sub h h2) {b : Nat} (hb : h2 b = none) (o : Option IObj) : Sub h (upd h2 b o) := by
  intro b2 o2 h3
  simp only [upd]
  split
  · rename_i e; rw [e] at h3; rw [hs _ _ h3] at hb; cases hb
  · exact hs _ _ h3

/-- a new array of ints -/
def newInts (l : List Int) (h : Heap) (e : IEnd) (h' : Heap) : Prop := ∃ b cap, h b = none ∧ l.length ≤ cap ∧ e = .ret (.sl 1 b 0 l.length cap) ∧ h' = upd h b (some (.arr 3 1 (l.map intRow) cap))

def WI (h : Heap) (l : List Int) (v : IV) (sh : Heap) : Prop :=
  Sub h sh ∧ ((l = [] ∧ v = .list .tight []) ∨ ∃ b cap, h b = none ∧ l.length ≤ cap ∧ v = .sl 1 b 0 l.length cap ∧ sh b = some (.arr 3 1 (l.map intRow) cap))

theorem WI.app {h : Heap} {l : List Int} {v : IV} {st : St} (hw : WI h l v st.h) (l2 : List Int) (hl : l.length + l2.length < 1000000000000) {d : Nat} {t : TypeId} (ht : elT Try.prog t = some 3) {tk : Tok} {K : St → Prop}
    (hK : ∀ s v', WI h (l ++ l2) v' s.h → (∀ k, k ≠ d → s.t k = st.t k) → s.t d = v' → s.m = st.m → (∀ (M MM : Nat → Bool) (st0 s0 : St), Fr M MM st0 s0 → Fr M MM st0 st = Fr M MM st0 s0 → M d = true → Fr M MM st0 s) → K s) : iappB Try.prog st d t v (.list tk (l2.map intRow)) K := by
  obtain ⟨hsub, hw⟩ := hw
  have hz : elZ Try.prog 3 = some 1 := elZ_3
  rcases hw with ⟨rfl, rfl⟩ | ⟨b, cap, hb, hcap, rfl, hsb⟩
  · simp only [iappB, ht, Option.bind_some, hz]
    refine ⟨⟨by simp [roomy, byT_3]; simp at hl; omega, by simp [uni], ints_uni _⟩, fun hn => ?_, fun hn b' cap' hb' hc => ?_⟩
    · have : l2 = [] := by simpa using hn
      subst this
      exact hK _ _ ⟨hsub, .inl ⟨rfl, rfl⟩⟩ (fun k hk => by simp [go_sem, hk]) (by simp [go_sem]) rfl (fun M MM st0 s0 hF0 he hM => by have hF : Fr M MM st0 st := he ▸ hF0; first | (simpa -implicitDefEqProofs [go_sem, hM] using hF) | (rw [Fr.put_eq hM]; exact ⟨hF.t, hF.m⟩))
    · simp only [List.nil_append, List.length_nil, Nat.zero_add, List.length_map] at hc ⊢
      refine hK _ _ ⟨?_, .inr ⟨b', cap', sub_none hsub hb', hc, rfl, ?_⟩⟩ (fun k hk => by simp [go_sem, hk]) (by simp [go_sem]) rfl (fun M MM st0 s0 hF0 he hM => by have hF : Fr M MM st0 st := he ▸ hF0; first | (simpa -implicitDefEqProofs [go_sem, hM] using hF) | (rw [Fr.put_eq hM]; exact ⟨hF.t, hF.m⟩))
      · exact hsub.upd' hb' _
      · simp [go_sem]
  · simp only [iappB, hsb, ht]
    refine ⟨⟨trivial, trivial, trivial, hz, by simp, trivial, by simp [roomy, byT_3]; omega, ints_uni _⟩, fun hfit => ?_, fun hno b' cap' hb' hc => ?_⟩
    · simp only [List.length_map] at hfit ⊢
      rw [← List.map_append]
      refine hK _ (.sl 1 b 0 (l ++ l2).length cap) ⟨?_, .inr ⟨b, cap, hb, by simp; omega, rfl, ?_⟩⟩ (fun k hk => by simp [go_sem, hk]) (by simp [go_sem]) rfl (fun M MM st0 s0 hF0 he hM => by have hF : Fr M MM st0 st := he ▸ hF0; first | (simpa -implicitDefEqProofs [go_sem, hM] using hF) | (rw [Fr.put_eq hM]; exact ⟨hF.t, hF.m⟩))
      · intro b2 o hb2
        simp only [go_sem]
        rw [if_neg (by rintro rfl; rw [hb] at hb2; cases hb2)]
        exact hsub _ _ hb2
      · simp [go_sem]
    · simp only [List.length_map] at hc ⊢
      rw [← List.map_append]
      refine hK _ (.sl 1 b' 0 (l ++ l2).length cap') ⟨?_, .inr ⟨b', cap', sub_none hsub hb', by simp; omega, rfl, ?_⟩⟩ (fun k hk => by simp [go_sem, hk]) (by simp [go_sem]) rfl (fun M MM st0 s0 hF0 he hM => by have hF : Fr M MM st0 st := he ▸ hF0; first | (simpa -implicitDefEqProofs [go_sem, hM] using hF) | (rw [Fr.put_eq hM]; exact ⟨hF.t, hF.m⟩))
      · exact hsub.upd' hb' _
      · simp [go_sem]
end Go.Proofs
