/- This text is a part of the proofs of the statements of this seat: the ideal states and their rules, or what one of the functions that the statements reach comes to. Conditions: none beyond those that each theorem names. -/
import Derived.Test.YtioeghodmfdceaaC27
set_option linter.unusedVariables false
set_option linter.unusedSimpArgs false
set_option pp.deepTerms false
set_option pp.maxSteps 400
namespace Go.Proofs
open Go.Idl

def panesL (l : List Cel) : List Pn := ((Cel.alls l).filter fun d => d.kind == 1).map Cel.pn
theorem panes_eq (c : Cel) : c.panes = (if c.kind = 1 then [c.pn] else []) ++ panesL c.kids := by
  rw [Cel.panes, Cel.leaves, c.all_eq, panesL, List.filter_cons]
  by_cases hk : c.kind = 1
  · simp [hk]
  · simp [hk]
theorem panesL_take (l : List Cel) (i : Nat) (h : i < l.length) : panesL (l.take (i + 1)) = panesL (l.take i) ++ l[i].panes := by
  rw [panesL, Cel.alls_take l i h, List.filter_append, List.map_append]; rfl
theorem panesL_len (l : List Cel) : (panesL l).length ≤ Cel.sizes l := by
  rw [panesL, List.length_map, ← Cel.alls_length]; exact List.length_filter_le _ _
theorem panes_size (c : Cel) : c.panes.length ≤ c.size := by
  rw [panes_len, ← c.all_length]; exact List.length_filter_le _ _

set_option maxRecDepth 20000 in
set_option maxHeartbeats 4000000 in
theorem list_c (c : Cel) : ∀ h, c.size < 100000000 → ICall Try.prog 51 [.agg c.row] h (retP (.list .plain (c.panes.map Pn.row)) h) := by
  induction c using Cel.induct
  rename_i c ih
  intro h hs
  have hlen := Cel.len_le c.kids
  rw [c.size_eq] at hs
  refine icall_of_iwp (fun _ => 0) Try.func51 rfl (by kernel_rfl) (Nat.le_of_ble_eq_true rfl) ?_
  rw [Try.results51]
  simp -implicitDefEqProofs [go_sem]
  refine cK_beq (fun hk => ?_) (fun hk => ?_)
  · obtain ⟨P0, hP0⟩ : ∃ P, P = [c.pn] := ⟨_, rfl⟩
    have hpe : c.panes = P0 ++ panesL c.kids := by rw [panes_eq, if_pos hk, hP0]
    have hP1 : P0.length ≤ 1 := by rw [hP0]; simp
    simp -implicitDefEqProofs [go_sem]
    refine aK_own (z := 5) (S := [16, 27]) Own.tight (by simp) elT_39 elZ_44 (by simp [roomy, byT_44]) (by simp [uni]) (by simp [uni, Pn.row_len, Rct.row_len]) ?_
    intro v0 x0 ho0 _
    have ho0 : Own [16, 27] x0 44 v0 (P0.map Pn.row) := by rw [hP0]; exact ho0
    obtain ⟨tk0, hv0⟩ := ho0.list
    simp -implicitDefEqProofs [go_sem]
    refine iwp_loopF (rng [3,5] 20 28) (fun k => k == 5) (fun s => ∃ i, i ≤ c.kids.length ∧ s.t 20 = .int .i64 i ∧ Own [16, 27] s.x 44 (s.t 3) ((P0 ++ panesL (c.kids.take i)).map Pn.row) ∧ s.h = h) (fun s => c.kids.length - tn (s.t 20)) ?_ ?_
    · exact ⟨0, Nat.zero_le _, by simp -implicitDefEqProofs [go_sem], by first | (simpa -implicitDefEqProofs [go_sem, panesL, Cel.alls] using ho0) | (simp -implicitDefEqProofs [go_sem, panesL, Cel.alls]; exact ho0 _), by simp -implicitDefEqProofs [go_sem]⟩
    rintro J s hJ hf ⟨i, hi, h20, ho, hh⟩
    obtain ⟨rowsI, hrowsI⟩ : ∃ r, r = (P0 ++ panesL (c.kids.take i)).map Pn.row := ⟨_, rfl⟩
    rw [← hrowsI] at ho
    have hl1 := panesL_len (c.kids.take i)
    have hrl : rowsI.length = P0.length + (panesL (c.kids.take i)).length := by rw [hrowsI, List.length_map, List.length_append]
    have hru : uni 5 rowsI = true := by rw [hrowsI]; exact Pn.rows_uni _
    obtain ⟨tk, h3⟩ := ho.list
    simp -implicitDefEqProofs [go_sem, h20, h3, hh, hf.t, hf.m]
    refine cK_dec (fun hlt => ?_) (fun hge => ?_)
    · have hg : c.kids[i]? = some c.kids[i] := List.getElem?_eq_getElem hlt
      have hw := wrap_succ (i := i) (by omega)
      have hst := Cel.sizes_take c.kids i hlt
      have hle := Cel.sizes_le c.kids (i + 1)
      have hl2 := panes_size c.kids[i]
      have htk := panesL_take c.kids i hlt
      simp -implicitDefEqProofs [go_sem, h20, h3, hh, hf.t, hf.m, hlt, hg]
      refine (ih _ (List.getElem_mem hlt) h (by omega)).mono ?_
      rintro e h' ⟨rfl, he⟩
      rw [he]
      simp -implicitDefEqProofs [go_sem, h20, h3, hh, hf.t, hf.m, hf, hw]
      refine aK_own (z := 5) (S := [16, 27]) (rows := rowsI) (by simpa -implicitDefEqProofs [go_sem, h3] using ho) (by simp) elT_39 elZ_44 (by simp only [roomy, byT_44, hrl, List.length_map]; omega) hru (Pn.rows_uni _) ?_
      intro r2 x2 ho2 _
      simp -implicitDefEqProofs [go_sem, h20, h3, hh, hf.t, hf.m, hf, hw]
      exact hJ _ ⟨i + 1, by omega, by simp -implicitDefEqProofs [go_sem, hw], by rw [htk, ← List.append_assoc, List.map_append, ← hrowsI]; exact ho2, by simp -implicitDefEqProofs [go_sem, hh]⟩ (by simp [go_sem, h20, hw]; omega)
    · obtain rfl : i = c.kids.length := by omega
      rw [List.take_length, ← hpe] at hrowsI
      simp -implicitDefEqProofs [go_sem, h20, h3, hh, hf.t, hf.m]
      exact ⟨h, Sub.refl _, by rw [hrowsI], rfl⟩
  · obtain ⟨P0, hP0⟩ : ∃ P : List Pn, P = [] := ⟨_, rfl⟩
    have hpe : c.panes = P0 ++ panesL c.kids := by rw [panes_eq, if_neg hk, hP0]
    have hP1 : P0.length ≤ 1 := by rw [hP0]; simp
    have ho0 : ∀ x, Own [16, 27] x 44 (.list .tight []) (P0.map Pn.row) := fun x => by rw [hP0]; exact Own.tight
    simp -implicitDefEqProofs [go_sem]
    refine iwp_loopF (rng [3,5] 20 28) (fun k => k == 5) (fun s => ∃ i, i ≤ c.kids.length ∧ s.t 20 = .int .i64 i ∧ Own [16, 27] s.x 44 (s.t 3) ((P0 ++ panesL (c.kids.take i)).map Pn.row) ∧ s.h = h) (fun s => c.kids.length - tn (s.t 20)) ?_ ?_
    · exact ⟨0, Nat.zero_le _, by simp -implicitDefEqProofs [go_sem], by first | (simpa -implicitDefEqProofs [go_sem, panesL, Cel.alls] using ho0) | (simp -implicitDefEqProofs [go_sem, panesL, Cel.alls]; exact ho0 _), by simp -implicitDefEqProofs [go_sem]⟩
    rintro J s hJ hf ⟨i, hi, h20, ho, hh⟩
    obtain ⟨rowsI, hrowsI⟩ : ∃ r, r = (P0 ++ panesL (c.kids.take i)).map Pn.row := ⟨_, rfl⟩
    rw [← hrowsI] at ho
    have hl1 := panesL_len (c.kids.take i)
    have hrl : rowsI.length = P0.length + (panesL (c.kids.take i)).length := by rw [hrowsI, List.length_map, List.length_append]
    have hru : uni 5 rowsI = true := by rw [hrowsI]; exact Pn.rows_uni _
    obtain ⟨tk, h3⟩ := ho.list
    simp -implicitDefEqProofs [go_sem, h20, h3, hh, hf.t, hf.m]
    refine cK_dec (fun hlt => ?_) (fun hge => ?_)
    · have hg : c.kids[i]? = some c.kids[i] := List.getElem?_eq_getElem hlt
      have hw := wrap_succ (i := i) (by omega)
      have hst := Cel.sizes_take c.kids i hlt
      have hle := Cel.sizes_le c.kids (i + 1)
      have hl2 := panes_size c.kids[i]
      have htk := panesL_take c.kids i hlt
      simp -implicitDefEqProofs [go_sem, h20, h3, hh, hf.t, hf.m, hlt, hg]
      refine (ih _ (List.getElem_mem hlt) h (by omega)).mono ?_
      rintro e h' ⟨rfl, he⟩
      rw [he]
      simp -implicitDefEqProofs [go_sem, h20, h3, hh, hf.t, hf.m, hf, hw]
      refine aK_own (z := 5) (S := [16, 27]) (rows := rowsI) (by simpa -implicitDefEqProofs [go_sem, h3] using ho) (by simp) elT_39 elZ_44 (by simp only [roomy, byT_44, hrl, List.length_map]; omega) hru (Pn.rows_uni _) ?_
      intro r2 x2 ho2 _
      simp -implicitDefEqProofs [go_sem, h20, h3, hh, hf.t, hf.m, hf, hw]
      exact hJ _ ⟨i + 1, by omega, by simp -implicitDefEqProofs [go_sem, hw], by rw [htk, ← List.append_assoc, List.map_append, ← hrowsI]; exact ho2, by simp -implicitDefEqProofs [go_sem, hh]⟩ (by simp [go_sem, h20, hw]; omega)
    · obtain rfl : i = c.kids.length := by omega
      rw [List.take_length, ← hpe] at hrowsI
      simp -implicitDefEqProofs [go_sem, h20, h3, hh, hf.t, hf.m]
      exact ⟨h, Sub.refl _, by rw [hrowsI], rfl⟩

/-- the place of the first pane with a number -/
def isFnd (l : List Pn) (id : Int) (v : Int) : Prop := (v = -1 ∧ ∀ p ∈ l, p.id ≠ id) ∨ ∃ (i : Nat) (hi : i < l.length), v = i ∧ l[i].id = id ∧ ∀ p ∈ l.take i, p.id ≠ id
theorem isFnd_uniq {l : List Pn} {id v w : Int} (h : isFnd l id v) (k : isFnd l id w) : v = w := by
  rcases h with ⟨rfl, h⟩ | ⟨i, hi, rfl, h1, h2⟩
  · rcases k with ⟨rfl, _⟩ | ⟨j, hj, rfl, k1, _⟩
    · rfl
    · exact absurd k1 (h _ (List.getElem_mem hj))
  · rcases k with ⟨rfl, k⟩ | ⟨j, hj, rfl, k1, k2⟩
    · exact absurd h1 (k _ (List.getElem_mem hi))
    · rcases Nat.lt_trichotomy i j with hij | hij | hij
      · exact absurd h1 (k2 _ (List.mem_take_iff_getElem.2 ⟨i, by omega, rfl⟩))
      · rw [hij]
      · exact absurd k1 (h2 _ (List.mem_take_iff_getElem.2 ⟨j, by omega, rfl⟩))
def fndR (l : List Pn) (id : Int) (h : Heap) (e : IEnd) (h' : Heap) : Prop := h' = h ∧ ∃ v, e = .ret (.int .i64 v) ∧ isFnd l id v

theorem find07_c (l : List Pn) (id : Int) (h : Heap) (hl : l.length < 100000000000) : ICall Try.prog 35 [.list .plain (l.map Pn.row), .int .i64 id] h (fndR l id h) := by
  refine icall_of_iwp (fun _ => 0) Try.func35 rfl (by kernel_rfl) (Nat.le_of_ble_eq_true rfl) ?_
  rw [Try.results35]
  simp -implicitDefEqProofs [go_sem]
  refine iwp_loopF (rng [4,5] 8 19) nom (fun s => ∃ i : Nat, i ≤ l.length ∧ s.t 8 = .int .i64 i ∧ (∀ p ∈ l.take i, p.id ≠ id) ∧ s.h = h) (fun s => l.length - tn (s.t 8)) ?_ ?_
  · exact ⟨0, Nat.zero_le _, by simp -implicitDefEqProofs [go_sem], by simp, by simp -implicitDefEqProofs [go_sem]⟩
  rintro J s hJ hf ⟨i, hi, h8, hn, hh⟩
  simp -implicitDefEqProofs [go_sem, h8, hh, hf.t, hf.m]
  refine cK_dec (fun hlt => ?_) (fun hge => ?_)
  · have hg : l[i]? = some l[i] := List.getElem?_eq_getElem hlt
    have hw := wrap_succ (i := i) (by omega)
    simp -implicitDefEqProofs [go_sem, h8, hh, hf.t, hf.m, hlt, hg]
    refine cK_beq (fun k1 => ?_) (fun k1 => ?_) <;> simp -implicitDefEqProofs [go_sem, h8, hh, hf.t, hf.m, hf, hw]
    · exact ⟨h, Sub.refl _, rfl, i, rfl, .inr ⟨i, hlt, rfl, k1, hn⟩⟩
    · refine hJ _ ⟨i + 1, by omega, by simp -implicitDefEqProofs [go_sem, hw], ?_, by simp -implicitDefEqProofs [go_sem, hh]⟩ (by simp [go_sem, h8, hw]; omega)
      intro p hp
      rw [List.take_add_one, hg] at hp
      rcases List.mem_append.1 hp with h1 | h1
      · exact hn p h1
      · simp at h1; subst h1; exact k1
  · simp -implicitDefEqProofs [go_sem, h8, hh, hf.t, hf.m]
    rw [List.take_of_length_le (by omega)] at hn
    exact ⟨h, Sub.refl _, rfl, -1, rfl, .inl ⟨rfl, hn⟩⟩

theorem indexFunc_pn {l : List Pn} {f : FuncId} {first cap : List IV} {Inv Hit : Nat → Heap → Prop} (hl : l.length < 100000000000)
    (hstep : ∀ i (hi : i < l.length) h, Inv i h → ICall Try.prog f (first ++ [.agg l[i].row] ++ cap) h fun e h' => (e = .ret (.bool false) ∧ Inv (i + 1) h') ∨ (e = .ret (.bool true) ∧ Hit i h')) (h : Heap) (h0 : Inv 0 h) :
    ICall Try.prog 66 [.list .plain (l.map Pn.row), .fn (.func f) first cap] h (idxR Inv Hit l.length) := by
  refine icall_of_iwp (fun _ => 0) Try.func66 rfl (by kernel_rfl) (Nat.le_of_ble_eq_true rfl) ?_
  rw [Try.results66]
  simp -implicitDefEqProofs [go_sem]
  refine iwp_loopF (rng [4,5] 8 18) nom (fun s => ∃ i, i ≤ l.length ∧ s.t 8 = .int .i64 i ∧ Inv i s.h) (fun s => l.length - tn (s.t 8)) ?_ ?_
  · exact ⟨0, Nat.zero_le _, by simp -implicitDefEqProofs [go_sem], by simpa -implicitDefEqProofs [go_sem] using h0⟩
  rintro J s hJ hf ⟨i, hi, h8, hinv⟩
  simp -implicitDefEqProofs [go_sem, h8, hf.t, hf.m]
  refine cK_dec (fun hlt => ?_) (fun hge => ?_)
  · have hg : l[i]? = some l[i] := List.getElem?_eq_getElem hlt
    have hw := wrap_succ (i := i) (by omega)
    simp -implicitDefEqProofs [go_sem, h8, hf.t, hf.m, hlt, hg]
    have hs := hstep i hlt _ hinv
    simp only [List.append_assoc, List.singleton_append, List.cons_append, List.nil_append] at hs
    refine hs.mono ?_
    rintro e h' (⟨rfl, hi'⟩ | ⟨rfl, hi'⟩)
    · simp -implicitDefEqProofs [go_sem, h8, hf.t, hf.m, hf, hlt, hg, hw]
      exact hJ _ ⟨i + 1, by omega, by simp -implicitDefEqProofs [go_sem, hw], by simpa -implicitDefEqProofs [go_sem] using hi'⟩ (by simp [go_sem, h8, hw]; omega)
    · simp -implicitDefEqProofs [go_sem, h8, hf.t, hf.m, hf, hlt, hg, hw]
      exact ⟨h', Sub.refl _, .inr ⟨i, hlt, rfl, hi'⟩⟩
  · simp -implicitDefEqProofs [go_sem, h8, hf.t, hf.m]
    obtain rfl : i = l.length := by omega
    exact ⟨s.h, Sub.refl _, .inl ⟨rfl, hinv⟩⟩


theorem find1_c (p : Pn) (id : Int) (qb : Nat) (h : Heap) (hq : h qb = some (.cells [.int .i64 id])) : ICall Try.prog 67 [.agg p.row, .ptr qb 0] h (retP (.bool (p.id == id)) h) := by
  refine icall_of_iwp (fun _ => 0) Try.func67 rfl (by kernel_rfl) (Nat.le_of_ble_eq_true rfl) ?_
  rw [Try.results67]
  simp -implicitDefEqProofs [go_sem, hq]
  exact ⟨h, Sub.refl _, rfl, rfl⟩
theorem find_c (l : List Pn) (id : Int) (h : Heap) (hl : l.length < 100000000000) : ICall Try.prog 52 [.list .plain (l.map Pn.row), .int .i64 id] h (fndR l id h) := by
  refine icall_of_iwp (fun d => if d = 3 then 1 else 0) Try.func52 rfl (by kernel_rfl) (Nat.le_of_ble_eq_true rfl) ?_
  rw [Try.results52]
  simp -implicitDefEqProofs [go_sem]
  intro b hb
  obtain ⟨H, hH⟩ : ∃ H, H = upd h b (some (.cells [.int .i64 id])) := ⟨_, rfl⟩
  rw [← hH]
  have hq : H b = some (.cells [.int .i64 id]) := by rw [hH]; simp [upd]
  have hsub : Sub h H := by rw [hH]; exact (Sub.refl _).upd hb _
  refine (indexFunc_pn (f := 67) (first := []) (cap := [.ptr b 0]) (Inv := fun i h' => h' = H ∧ ∀ p ∈ l.take i, p.id ≠ id) (Hit := fun i h' => h' = H ∧ ∃ hi : i < l.length, l[i].id = id ∧ ∀ p ∈ l.take i, p.id ≠ id) hl ?_ H ⟨rfl, by simp⟩).mono ?_
  · rintro i hi h1 ⟨rfl, hall⟩
    refine (find1_c l[i] id b h1 hq).mono ?_
    rintro e h' ⟨rfl, rfl⟩
    by_cases hb : l[i].id = id
    · exact .inr ⟨by simp [hb], rfl, hi, hb, hall⟩
    · refine .inl ⟨by simp [hb], rfl, fun r hr => ?_⟩
      rw [List.take_add_one, List.getElem?_eq_getElem hi] at hr
      rcases List.mem_append.1 hr with h1 | h1
      · exact hall r h1
      · simp at h1; subst h1; exact hb
  · rintro e h' (⟨rfl, he, hall⟩ | ⟨i, hi, rfl, he, _, hb, hall⟩)
    · rw [he]
      simp -implicitDefEqProofs [go_sem]
      rw [List.take_length] at hall
      exact ⟨h, hsub, rfl, -1, rfl, .inl ⟨rfl, hall⟩⟩
    · rw [he]
      simp -implicitDefEqProofs [go_sem]
      exact ⟨h, hsub, rfl, i, rfl, .inr ⟨i, hi, rfl, hb, hall⟩⟩
end Go.Proofs
