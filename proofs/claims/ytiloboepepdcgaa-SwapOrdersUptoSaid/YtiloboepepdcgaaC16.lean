/- This text is a part of the proofs of the statements of this seat: the ideal states and their rules, or what one of the functions that the statements reach comes to. Conditions: none beyond those that each theorem names. -/
import Derived.Test.YtiloboepepdcgaaC15
set_option linter.unusedVariables false
set_option linter.unusedSimpArgs false
set_option pp.deepTerms false
set_option pp.maxSteps 400
namespace Go.Proofs
open Go.Idl

set_option maxRecDepth 20000 in
set_option maxHeartbeats 4000000 in
theorem tcut_c (c : Cel) (h : Heap) (hs : c.kids.length < 100000000000) (hk1 : 2 ≤ c.kind) (hk3 : c.kind ≤ 3) : ICall Try.prog 164 [.agg c.row] h (retP (cutV (cutS c.r (c.kind - 1) c.szs)) h) := by
  refine icall_of_iwp (fun _ => 0) Try.func164 rfl (by kernel_rfl) (Nat.le_of_ble_eq_true rfl) ?_
  rw [Try.results164]
  simp -implicitDefEqProofs [go_sem]
  refine iwp_loopF (rng [5,7] 11 30) (fun k => k == 7) (fun s => ∃ i, i ≤ c.kids.length ∧ s.t 11 = .int .i64 i ∧ Own [23, 29] s.x 3 (s.t 5) ((c.szs.map intRow).take i) ∧ s.h = h) (fun s => c.kids.length - tn (s.t 11)) ?_ ?_
  · exact ⟨0, Nat.zero_le _, by simp -implicitDefEqProofs [go_sem], by simp -implicitDefEqProofs [go_sem, Own.tight], by simp -implicitDefEqProofs [go_sem]⟩
  rintro J s hJ hf ⟨i, hi, h11, ho, hh⟩
  obtain ⟨tk, h5⟩ := ho.list
  simp -implicitDefEqProofs [go_sem, h11, h5, hh, hf.t, hf.m]
  refine cK_dec (fun hlt => ?_) (fun hge => ?_)
  · have hg : c.kids[i]? = some c.kids[i] := List.getElem?_eq_getElem hlt
    have hw := wrap_succ (i := i) (by omega)
    have e1 : (c.szs.map intRow).take (i + 1) = (c.szs.map intRow).take i ++ [[.int .i64 (c.sz c.kids[i])]] := by
      rw [List.take_add_one]; simp [Cel.szs, hg, intRow]
    simp -implicitDefEqProofs [go_sem, h11, h5, hh, hf.t, hf.m, hlt, hg]
    refine cK_beq (fun hk => ?_) (fun hk => ?_)
    · simp -implicitDefEqProofs [go_sem, h11, h5, hh, hf.t, hf.m, hlt, hg]
      refine aK_own (z := 1) (S := [23, 29]) (by simpa -implicitDefEqProofs [go_sem, h5] using ho) (by simp) elT_45 elZ_3 (by simp [roomy, byT_3]; omega) (uni_take (ints_uni _) i) (by simp [uni]) ?_
      intro r' x' ho' _
      simp -implicitDefEqProofs [go_sem, h11, h5, hh, hf.t, hf.m, hf, hw]
      exact hJ _ ⟨i + 1, by omega, by simp -implicitDefEqProofs [go_sem, hw], by rw [e1, Cel.sz, if_pos hk]; simpa -implicitDefEqProofs [go_sem] using ho', by simp -implicitDefEqProofs [go_sem, hh]⟩ (by simp [go_sem, h11, hw]; omega)
    · simp -implicitDefEqProofs [go_sem, h11, h5, hh, hf.t, hf.m, hlt, hg]
      refine aK_own (z := 1) (S := [23, 29]) (by simpa -implicitDefEqProofs [go_sem, h5] using ho) (by simp) elT_45 elZ_3 (by simp [roomy, byT_3]; omega) (uni_take (ints_uni _) i) (by simp [uni]) ?_
      intro r' x' ho' _
      simp -implicitDefEqProofs [go_sem, h11, h5, hh, hf.t, hf.m, hf, hw]
      exact hJ _ ⟨i + 1, by omega, by simp -implicitDefEqProofs [go_sem, hw], by rw [e1, Cel.sz, if_neg hk]; simpa -implicitDefEqProofs [go_sem] using ho', by simp -implicitDefEqProofs [go_sem, hh]⟩ (by simp [go_sem, h11, hw]; omega)
  · have hw2 : IntKind.u8.wrap (c.kind - 2) = c.kind - 2 := wrap_u8 (by omega)
    have hw3 : IntKind.u8.wrap (c.kind - 2 + 1) = c.kind - 1 := by rw [wrap_u8 (by omega)]; omega
    rw [List.take_of_length_le (by simp [Cel.szs]; omega)] at ho h5
    simp -implicitDefEqProofs [go_sem, h11, h5, hh, hf.t, hf.m, hw2, hw3]
    refine (rCut_c c.r (c.kind - 1) c.szs h (by simp [Cel.szs]; exact hs)).mono ?_
    rintro e h' ⟨rfl, he⟩
    rw [he]
    cases hcut : cutS c.r (c.kind - 1) c.szs with
    | none =>
      simp -implicitDefEqProofs [go_sem, cutV]
      exact ⟨_, Sub.refl _, rfl, rfl⟩
    | some p =>
      obtain ⟨ps, ls⟩ := p
      simp -implicitDefEqProofs [go_sem, cutV]
      exact ⟨_, Sub.refl _, rfl, rfl⟩

theorem lines1_c (c : Cel) (r : Rct) (h : Heap) : ICall Try.prog 166 [.agg c.row, .agg r.row] h (retP (.bool (decide (c.r = r))) h) := by
  refine icall_of_iwp (fun _ => 0) Try.func166 rfl (by kernel_rfl) (Nat.le_of_ble_eq_true rfl) ?_
  rw [Try.results166]
  simp -implicitDefEqProofs [go_sem]
  exact ⟨h, Sub.refl _, rfl, rfl⟩

set_option maxRecDepth 20000 in
set_option maxHeartbeats 4000000 in
theorem equalFunc_c (l : List Cel) (ps : List Rct) (h : Heap) (hs : l.length < 100000000000) :
    ICall Try.prog 165 [.list .plain (l.map Cel.row), .list .plain (ps.map Rct.row), .fn (.func 166) [] []] h (retP (.bool (decide (ps = l.map Cel.r))) h) := by
  refine icall_of_iwp (fun _ => 0) Try.func165 rfl (by kernel_rfl) (Nat.le_of_ble_eq_true rfl) ?_
  rw [Try.results165]
  simp -implicitDefEqProofs [go_sem]
  refine cK_bne (fun h1 => ?_) (fun h1 => ?_) <;> simp -implicitDefEqProofs [go_sem]
  · exact ⟨h, Sub.refl _, by rw [decide_eq_false (fun e => by rw [e] at h1; simp at h1)], rfl⟩
  have hlen : l.length = ps.length := by omega
  refine iwp_loopF (rng [6,7,8,9] 17 31) (fun k => k == 8 || k == 9) (fun s => ∃ i, i ≤ l.length ∧ s.t 17 = .int .i64 i ∧ ps.take i = (l.map Cel.r).take i ∧ s.h = h) (fun s => l.length - tn (s.t 17)) ?_ ?_
  · exact ⟨0, Nat.zero_le _, by simp -implicitDefEqProofs [go_sem], by simp, by simp -implicitDefEqProofs [go_sem]⟩
  rintro J s hJ hf ⟨i, hi, h17, heq, hh⟩
  simp -implicitDefEqProofs [go_sem, h17, hh, hf.t, hf.m]
  refine cK_dec (fun hlt => ?_) (fun hge => ?_)
  · have hg : l[i]? = some l[i] := List.getElem?_eq_getElem hlt
    have hlt2 : i < ps.length := by omega
    have hg2 : ps[i]? = some ps[i] := List.getElem?_eq_getElem hlt2
    have hw := wrap_succ (i := i) (by omega)
    simp -implicitDefEqProofs [go_sem, h17, hh, hf.t, hf.m, hlt, hg, hlt2, hg2]
    refine (lines1_c l[i] ps[i] h).mono ?_
    rintro e h' ⟨rfl, he⟩
    rw [he]
    simp -implicitDefEqProofs [go_sem, h17, hh, hf.t, hf.m, hlt, hg, hlt2, hg2]
    refine cK_any (fun k1 => ?_) (fun k1 => ?_) <;> simp -implicitDefEqProofs [go_sem, h17, hh, hf.t, hf.m, hf, hw]
    · refine ⟨h, Sub.refl _, ?_, rfl⟩
      rw [decide_eq_false]
      intro e
      have : ps[i] = l[i].r := by simp [e]
      simp [this] at k1
    · refine hJ _ ⟨i + 1, by omega, by simp -implicitDefEqProofs [go_sem, hw], ?_, by simp -implicitDefEqProofs [go_sem, hh]⟩ (by simp [go_sem, h17, hw]; omega)
      have k2 : l[i].r = ps[i] := by simpa using k1
      rw [List.take_add_one, List.take_add_one, heq, hg2]
      simp [hg, k2]
  · simp -implicitDefEqProofs [go_sem, h17, hh, hf.t, hf.m]
    refine ⟨h, Sub.refl _, ?_, rfl⟩
    rw [List.take_of_length_le (by omega), List.take_of_length_le (by simp; omega)] at heq
    rw [decide_eq_true heq]

def lnsR (o : Option (List Rct)) (h : Heap) (e : IEnd) (h' : Heap) : Prop :=
  h' = h ∧ match o with
  | some ls => e = .ret (.tup [.list .plain (ls.map Rct.row), .bool true])
  | none => ∃ l', e = .ret (.tup [.list .plain l', .bool false])

theorem lines_c (c : Cel) (h : Heap) (hs : c.kids.length < 100000000000) (hk1 : 1 ≤ c.kind) (hk3 : c.kind ≤ 3) : ICall Try.prog 156 [.agg c.row] h (lnsR c.one h) := by
  refine icall_of_iwp (fun _ => 0) Try.func156 rfl (by kernel_rfl) (Nat.le_of_ble_eq_true rfl) ?_
  rw [Try.results156]
  simp -implicitDefEqProofs [go_sem]
  refine cK_beq (fun hk => ?_) (fun hk => ?_) <;> simp -implicitDefEqProofs [go_sem]
  · exact ⟨h, Sub.refl _, rfl, by rw [Cel.one, if_pos hk]; rfl⟩
  refine (tcut_c c h hs (by omega) hk3).mono ?_
  rintro e h' ⟨rfl, he⟩
  rw [he]
  cases hcut : cutS c.r (c.kind - 1) c.szs with
  | none =>
    simp -implicitDefEqProofs [go_sem, cutV]
    exact ⟨h, Sub.refl _, rfl, by rw [show c.one = none by rw [Cel.one, if_neg hk, hcut]]; exact ⟨_, rfl⟩⟩
  | some p =>
    obtain ⟨ps, ls⟩ := p
    have hone : c.one = if ps = c.kids.map Cel.r then some ls else none := by rw [Cel.one, if_neg hk, hcut]
    simp -implicitDefEqProofs [go_sem, cutV]
    refine (equalFunc_c c.kids ps h hs).mono ?_
    rintro e h' ⟨rfl, he⟩
    rw [he]
    simp -implicitDefEqProofs [go_sem]
    refine ⟨h, Sub.refl _, rfl, ?_⟩
    by_cases hps : ps = c.kids.map Cel.r
    · rw [hone, if_pos hps, decide_eq_true hps]
    · rw [hone, if_neg hps, decide_eq_false hps]; exact ⟨_, rfl⟩

/-! faults -/
def someE (h : Heap) (e : IEnd) (h' : Heap) : Prop := h' = h ∧ ∃ t x, e = .ret (.iface t x)

theorem faultNew_c (n k : Int) (hn : n ≠ 0) (h : Heap) : ICall Try.prog 137 [.int .i64 n, .int .i64 k] h (someE h) := by
  refine icall_of_iwp (fun d => if d = 10 then 1 else 0) Try.func137 rfl (by kernel_rfl) (Nat.le_of_ble_eq_true rfl) ?_
  rw [Try.results137]
  have hb : (n == 0) = false := by simpa using hn
  simp -implicitDefEqProofs [go_sem, hb]
  intro b hb
  exact ⟨h, (Sub.refl _).upd hb _, rfl, _, _, rfl⟩
set_option maxRecDepth 20000 in
theorem cloneStr_c (s : ByteArray) (h : Heap) : ICall Try.prog 155 [.list .plain [[.str s]]] h (retP (.list .plain [[.str s]]) h) := by
  refine icall_of_iwp (fun _ => 0) Try.func155 rfl (by kernel_rfl) (Nat.le_of_ble_eq_true rfl) ?_
  rw [Try.results155]
  simp -implicitDefEqProofs [go_sem]
  refine aK_own (z := 1) (S := [7]) Own.tight (by simp) elT_89 elZ_9 (by simp [roomy, byT_9]) (by simp [uni]) (by simp [uni]) ?_
  intro v x' ho _
  simp -implicitDefEqProofs [go_sem, ho.strip]
  exact ⟨h, Sub.refl _, rfl, rfl⟩
set_option maxRecDepth 20000 in
theorem faultIn_c (t : TypeId) (x : IV) (s : ByteArray) (hx : okV (.iface t x) = true) (h : Heap) : ICall Try.prog 136 [.iface t x, .list .plain [[.str s]]] h (someE h) := by
  refine icall_of_iwp (fun d => if d = 17 then 1 else 0) Try.func136 rfl (by kernel_rfl) (Nat.le_of_ble_eq_true rfl) ?_
  rw [Try.results136]
  simp -implicitDefEqProofs [go_sem]
  refine (cloneStr_c s h).mono ?_
  rintro e h' ⟨rfl, he⟩
  rw [he]
  simp -implicitDefEqProofs [go_sem]
  intro b hb
  exact ⟨h, (Sub.refl _).upd hb _, rfl, _, _, rfl⟩
end Go.Proofs
