/- This text is a part of the proofs of the statements of this seat: the ideal states and their rules, or what one of the functions that the statements reach comes to. Conditions: none beyond those that each theorem names. -/
import Derived.Test.YtiloboepepdcgaaK5
set_option linter.unusedVariables false
set_option linter.unusedSimpArgs false
set_option pp.deepTerms false
set_option pp.maxSteps 400
namespace Go.Proofs
open Go.Idl

/-! Send, Size -/
set_option maxRecDepth 20000 in
theorem cloneB_c (h : Heap) (bs : List UInt8) (hl : bs.length < 1000000000) :
    ICall Try.prog 52 [.list .plain (bs.map byteRow)] h (retP (.list .plain (bs.map byteRow)) h) := by
  refine icall_of_iwp (fun d => if d = 7 then 0 else 0) Try.func52 rfl (by kernel_rfl) (Nat.le_of_ble_eq_true rfl) ?_
  rw [Try.results52]
  have hroom : roomy Try.prog 5 bs.length := by simp only [roomy, byT_5]; omega
  have hu : uni 1 (bs.map byteRow) = true := by simp [uni, byteRow]
  simp -implicitDefEqProofs [go_sem]
  refine ⟨?_, fun hb => ?_⟩
  · refine aK_own (e := 5) (z := 1) (S := [7]) (rows := []) (ys := bs.map byteRow) Own.tight (by simp) elT_23 elZ_5 (by simpa using hroom) rfl hu ?_
    intro r x' ho hx
    simp -implicitDefEqProofs [go_sem, ho.strip]
    exact ⟨_, Sub.refl _, rfl, rfl⟩
  · subst hb
    exact ⟨_, Sub.refl _, rfl, rfl⟩

def PM.put (p : PM) (e : Ev) : PM := { p with evs := p.evs ++ [e] }
def sendM (L : List PM) (id : Int) (bs : List UInt8) : List PM × Int :=
  match L.findIdx? (PM.is id) with
  | none => (L, 6)
  | some i => match L[i]? with | none => (L, 6) | some p => if bs = [] then (L, 0) else (L.set i (p.put ⟨2, 0, 0, ⟨bs.toArray⟩⟩), 0)
def sendR (k : Nat) (tag : Nat → Nat × Nat × Nat) (h : Heap) (bb mb : Nat) (L : List PB) (id : Int) (bs : List UInt8) (e : IEnd) (h' : Heap) : Prop :=
  ∃ tag' L', e = .ret (.int .i64 (sendM (L.map (·.m)) id bs).2) ∧ BoardAt k tag' h' bb mb L' ∧ Frm k tag h tag' h' ∧ Stay L L' ∧ L'.map (·.m) = (sendM (L.map (·.m)) id bs).1
set_option maxRecDepth 20000 in
theorem send_c {k tag h bb mb L} (hB : BoardAt k tag h bb mb L) (id : Int) (bs : List UInt8) (B : Nat) (hev : evsLe B (L.map (·.m))) (hb : B < 100000000) (hl : bs.length < 1000000000) :
    ICall Try.prog 19 [.ptr bb 0, .int .i64 id, .list .plain (bs.map byteRow)] h (sendR k tag h bb mb L id bs) := by
  refine icall_of_iwp (fun _ => 0) Try.func19 rfl (by kernel_rfl) (Nat.le_of_ble_eq_true rfl) ?_
  rw [Try.results19]
  simp -implicitDefEqProofs [go_sem]
  refine (has_c hB id).mono ?_
  rintro e h' ⟨rfl, he⟩
  rw [he]
  unfold hasV
  cases hfd : L.find? fun p => p.m.is id with
  | none =>
    have hno := find_no hfd
    simp -implicitDefEqProofs [go_sem]
    exact ⟨_, Sub.refl _, tag, L, by simp [sendM, hno], hB, Frm.refl _ _ _, Stay.refl _, by simp [sendM, hno]⟩
  | some p =>
    obtain ⟨ix, hix, hfi, his⟩ := find_ix hfd
    have hgp : p.m.gone = false := by simp [PM.is] at his; exact his.1
    obtain ⟨q1, q2, q3, q4⟩ := hB.hp ix p hix
    have hpc := (q1 hgp).1
    have hM : sendM (L.map (·.m)) id bs = if bs = [] then (L.map (·.m), 0) else ((L.map (·.m)).set ix (p.m.put ⟨2, 0, 0, ⟨bs.toArray⟩⟩), 0) := by simp only [sendM, hfi, List.getElem?_map, hix, Option.map_some]
    simp -implicitDefEqProofs [go_sem]
    refine cK_dec (fun hlt => ?_) (fun hlt => ?_)
    · have hne : bs ≠ [] := by rintro rfl; simp at hlt
      simp -implicitDefEqProofs [go_sem]
      refine iwp_drawn_of mixed [0,1,2,3,4,5,6,7,8] (by kernel_rfl) ?_
      simp -implicitDefEqProofs [go_sem, hpc, paneC]
      refine ⟨_, cloneB_c _ bs hl, ?_⟩
      simp -implicitDefEqProofs [go_sem, hpc, paneC]
      obtain ⟨eb, e1, e2, e3⟩ := eb_pick hB hix
      have hel : p.m.evs.length ≤ B := hev p.m (List.mem_map.2 ⟨p, List.mem_of_getElem? hix, rfl⟩)
      refine (input_c p.rb eb p.cap p.m.evs .plain bs h e3 e1 (by omega)).mono ?_
      intro e h' hR
      obtain ⟨p', tag2, k0, k1, k2, k3⟩ := told_turn hB hix hgp (m' := p.m.put ⟨2, 0, 0, ⟨bs.toArray⟩⟩) (ev := ⟨2, 0, 0, ⟨bs.toArray⟩⟩) hgp rfl rfl eb e2 hpc (fun j hj => rfl) hR
      obtain ⟨rfl, _⟩ := hR
      simp -implicitDefEqProofs [go_sem]
      exact ⟨_, Sub.refl _, tag2, L.set ix p', by rw [hM, if_neg hne], k1, k2, k3, by rw [hM, if_neg hne, map_set_m, k0]⟩
    · have hne : bs = [] := by
        cases bs with
        | nil => rfl
        | cons b r => simp at hlt
      simp -implicitDefEqProofs [go_sem]
      exact ⟨_, Sub.refl _, tag, L, by rw [hM, if_pos hne], hB, Frm.refl _ _ _, Stay.refl _, by rw [hM, if_pos hne]⟩
theorem send_nil_c (id : Int) (bs : List UInt8) (h : Heap) : ICall Try.prog 19 [.nilptr, .int .i64 id, .list .plain (bs.map byteRow)] h (retP (.int .i64 6) h) := by
  refine icall_of_iwp (fun _ => 0) Try.func19 rfl (by kernel_rfl) (Nat.le_of_ble_eq_true rfl) ?_
  rw [Try.results19]
  simp -implicitDefEqProofs [go_sem]
  refine (has_nil_c id h).mono ?_
  rintro e h' ⟨rfl, he⟩
  rw [he]
  simp -implicitDefEqProofs [go_sem]
  exact ⟨_, Sub.refl _, rfl, rfl⟩
def sizeV (L : List PM) (id : Int) : IV :=
  match L.findIdx? (PM.is id) with
  | none => .tup [.int .i64 0, .int .i64 0, .bool false]
  | some i => match L[i]? with | none => .tup [.int .i64 0, .int .i64 0, .bool false] | some p => if p.told = true then .tup [.int .i64 p.w, .int .i64 p.h, .bool true] else .tup [.int .i64 0, .int .i64 0, .bool false]
set_option maxRecDepth 20000 in
theorem bsize_c {k tag h bb mb L} (hB : BoardAt k tag h bb mb L) (id : Int) : ICall Try.prog 26 [.ptr bb 0, .int .i64 id] h (retP (sizeV (L.map (·.m)) id) h) := by
  refine icall_of_iwp (fun _ => 0) Try.func26 rfl (by kernel_rfl) (Nat.le_of_ble_eq_true rfl) ?_
  rw [Try.results26]
  simp -implicitDefEqProofs [go_sem]
  refine (has_c hB id).mono ?_
  rintro e h' ⟨rfl, he⟩
  rw [he]
  unfold hasV
  cases hfd : L.find? fun p => p.m.is id with
  | none =>
    have hno := find_no hfd
    simp -implicitDefEqProofs [go_sem]
    exact ⟨_, Sub.refl _, by simp [sizeV, hno], rfl⟩
  | some p =>
    obtain ⟨ix, hix, hfi, his⟩ := find_ix hfd
    have hgp : p.m.gone = false := by simp [PM.is] at his; exact his.1
    obtain ⟨q1, q2, q3, q4⟩ := hB.hp ix p hix
    have hpc := (q1 hgp).1
    have hM : sizeV (L.map (·.m)) id = if p.m.told = true then .tup [.int .i64 p.m.w, .int .i64 p.m.h, .bool true] else .tup [.int .i64 0, .int .i64 0, .bool false] := by simp only [sizeV, hfi, List.getElem?_map, hix, Option.map_some]
    simp -implicitDefEqProofs [go_sem, hpc, paneC]
    cases ht : p.m.told
    · simp -implicitDefEqProofs [go_sem, hpc, paneC, ht]
      exact ⟨_, Sub.refl _, by rw [hM, ht]; rfl, rfl⟩
    · simp -implicitDefEqProofs [go_sem, hpc, paneC, ht]
      refine iwp_drawn_of mixed [0,1,2,3,4,5,6,7,8,9,10] (by kernel_rfl) ?_
      simp -implicitDefEqProofs [go_sem, hpc, paneC, ht]
      exact ⟨_, Sub.refl _, by rw [hM, ht]; rfl, rfl⟩
theorem bsize_nil_c (id : Int) (h : Heap) : ICall Try.prog 26 [.nilptr, .int .i64 id] h (retP (.tup [.int .i64 0, .int .i64 0, .bool false]) h) := by
  refine icall_of_iwp (fun _ => 0) Try.func26 rfl (by kernel_rfl) (Nat.le_of_ble_eq_true rfl) ?_
  rw [Try.results26]
  simp -implicitDefEqProofs [go_sem]
  refine (has_nil_c id h).mono ?_
  rintro e h' ⟨rfl, he⟩
  rw [he]
  simp -implicitDefEqProofs [go_sem]
  exact ⟨_, Sub.refl _, rfl, rfl⟩
end Go.Proofs
