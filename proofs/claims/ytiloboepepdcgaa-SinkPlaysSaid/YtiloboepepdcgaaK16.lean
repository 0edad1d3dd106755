/- This text is a part of the proofs of the statements of this seat: the ideal states and their rules, or what one of the functions that the statements reach comes to. Conditions: none beyond those that each theorem names. -/
import Derived.Test.YtiloboepepdcgaaK14
set_option linter.unusedVariables false
set_option linter.unusedSimpArgs false
set_option pp.deepTerms false
set_option pp.maxSteps 400
namespace Go.Proofs
open Go.Idl

/-! the reference's boards -/
def PM.row (p : PM) : List IV := [.int .i64 p.id, .bool p.told, .int .i64 p.w, .int .i64 p.h, .list .plain (p.evs.map Ev.row), .bool p.gone]
@[go_sem] theorem PM.row_len (p : PM) : p.row.length = 6 := rfl
theorem pms_uni (l : List PM) : uni 6 (l.map PM.row) = true := by simp [uni, PM.row]
attribute [go_sem high] pms_uni
def bV (L : List PM) : IV := .agg [.list .plain (L.map PM.row)]
def findV (L : List PM) (id : Int) : Int := match L.findIdx? (PM.is id) with | some i => (i : Int) | none => -1
set_option maxRecDepth 20000 in
theorem rfind_c (L : List PM) (id : Int) (hl : L.length < 100000000) (h : Heap) : ICall Try.prog 27 [bV L, .int .i64 id] h (retP (.int .i64 (findV L id)) h) := by
  refine icall_of_iwp (fun _ => 0) Try.func27 rfl (by kernel_rfl) (Nat.le_of_ble_eq_true rfl) ?_
  rw [Try.results27]
  simp -implicitDefEqProofs [go_sem, bV]
  refine iwp_loopF (rng [5] 9 31) nom (fun s => ∃ i : Nat, i ≤ L.length ∧ s.t 9 = .int .i64 i ∧ s.h = h ∧ ∀ j x, j < i → L[j]? = some x → x.is id = false) (fun s => L.length - tn (s.t 9)) ?_ ?_
  · exact ⟨0, Nat.zero_le _, by simp -implicitDefEqProofs [go_sem], by simp -implicitDefEqProofs [go_sem], fun j x hj => by omega⟩
  rintro J s hJ hf ⟨i, hi, h9, hh, hpre⟩
  simp -implicitDefEqProofs [go_sem, h9, hh, hf.t, hf.m]
  refine cK_dec (fun hlt => ?_) (fun hlt => ?_)
  · have hlt' : i < L.length := by omega
    have hw := wrap_succ (i := i) (by omega)
    have hx : (L.map PM.row)[i]? = some L[i].row := by simp [hlt']
    simp -implicitDefEqProofs [go_sem, h9, hh, hf.t, hf.m, hlt', hx, PM.row]
    refine cK_any (fun hq => ?_) (fun hq => ?_)
    · cases hg : L[i].gone with
      | true =>
        simp -implicitDefEqProofs [go_sem, h9, hh, hf.t, hf.m, hf, hlt', hx, PM.row, hg, hw]
        refine hJ _ ⟨i + 1, by omega, by simp -implicitDefEqProofs [go_sem, hw], by simp -implicitDefEqProofs [go_sem, hh], fun j x hj hjx => ?_⟩ (by simp [go_sem, h9, hw]; omega)
        by_cases hji : j < i
        · exact hpre j x hji hjx
        · obtain rfl : j = i := by omega
          rw [List.getElem?_eq_getElem hlt'] at hjx
          cases hjx
          simp [PM.is, hg]
      | false =>
        simp -implicitDefEqProofs [go_sem, h9, hh, hf.t, hf.m, hf, hlt', hx, PM.row, hg, hw]
        have hfi : L.findIdx? (PM.is id) = some i := by
          rw [List.findIdx?_eq_some_iff_getElem]
          refine ⟨hlt', by simp [PM.is, hg]; simpa using hq, fun j hj => ?_⟩
          have := hpre j _ hj (List.getElem?_eq_getElem (by omega))
          simp [this]
        exact ⟨_, Sub.refl _, by simp [findV, hfi], rfl⟩
    · simp -implicitDefEqProofs [go_sem, h9, hh, hf.t, hf.m, hf, hlt', hx, PM.row, hw]
      refine hJ _ ⟨i + 1, by omega, by simp -implicitDefEqProofs [go_sem, hw], by simp -implicitDefEqProofs [go_sem, hh], fun j x hj hjx => ?_⟩ (by simp [go_sem, h9, hw]; omega)
      by_cases hji : j < i
      · exact hpre j x hji hjx
      · obtain rfl : j = i := by omega
        rw [List.getElem?_eq_getElem hlt'] at hjx
        cases hjx
        simp only [PM.is, hq, Bool.and_false]
  · simp -implicitDefEqProofs [go_sem, h9, hh, hf.t, hf.m]
    have hno : L.findIdx? (PM.is id) = none := by
      rw [List.findIdx?_eq_none_iff]
      intro x hx
      obtain ⟨j, hj, rfl⟩ := List.getElem_of_mem hx
      simpa using hpre j _ (by omega) (List.getElem?_eq_getElem hj)
    exact ⟨_, Sub.refl _, by simp [findV, hno], rfl⟩
theorem with_c (L : List PM) (i : Nat) (p : PM) (hi : i < L.length) (hl : L.length < 100000000) (h : Heap) : ICall Try.prog 59 [bV L, .int .i64 i, .agg p.row] h (retP (bV (L.set i p)) h) := by
  have hc : ICall Try.prog 59 [bV L, .int .i64 i, .agg p.row] h (fun e h' => ∃ b cap, h b = none ∧ e = .ret (.agg [.sl 6 b 0 L.length cap]) ∧ h' = upd h b (some (.arr 57 6 ((L.set i p).map PM.row) cap))) := by
    refine icall_of_iwp (fun d => if d = 11 then 2 else 0) Try.func59 rfl (by kernel_rfl) (Nat.le_of_ble_eq_true rfl) ?_
    rw [Try.results59]
    have hroom : roomy Try.prog 57 L.length := by simp only [roomy, byT_57]; omega
    simp -implicitDefEqProofs [go_sem, bV, hroom]
    refine ⟨fun h0 => ?_, fun h0 b cap hb hc => ?_⟩
    · subst h0; simp at hi
    have hne : i < cap := by omega
    have hrow : (L.map PM.row)[i]? = some L[i].row := by simp [hi]
    simp -implicitDefEqProofs [go_sem, hi, hne, hrow, PM.row]
    refine ⟨_, Sub.refl _, b, hb, cap, ⟨rfl, rfl⟩, ?_⟩
    funext j
    simp only [upd]
    split <;> rfl
  refine hc.fz ?_
  rintro e h' ⟨b, cap, hb, rfl, rfl⟩
  refine .inr ⟨_, b, 57, 6, (L.set i p).map PM.row, cap, rfl, upd_same _ _ _, ?_, ?_⟩
  · have hlen : ((L.set i p).map PM.row).length = L.length := by simp
    simp only [fz3, fz2, fz1, hlen, bV, List.map]
    rw [if_pos ⟨trivial, trivial, by omega⟩, List.drop_zero, List.take_of_length_le (by simp)]
  · funext j
    simp only [dropH, upd]
    split
    · rename_i e; rw [e, hb]
    · rfl

set_option maxRecDepth 20000 in
theorem radd_c (L : List PM) (id : Int) (hl : L.length < 10000000) (h : Heap) :
    ICall Try.prog 22 [bV L, .int .i64 id] h (retP (if id < 0 ∨ id > 2147483647 then .tup [bV L, .int .i64 1] else if hasM L id = true then .tup [bV L, .int .i64 10] else .tup [bV (L ++ [⟨id, false, 0, 0, [], false⟩]), .int .i64 0]) h) := by
  refine icall_of_iwp (fun _ => 0) Try.func22 rfl (by kernel_rfl) (Nat.le_of_ble_eq_true rfl) ?_
  rw [Try.results22]
  simp -implicitDefEqProofs [go_sem, bV]
  refine cK_dec (fun h1 => ?_) (fun h1 => ?_)
  · simp -implicitDefEqProofs [go_sem]
    exact ⟨_, Sub.refl _, by simp [h1, bV], rfl⟩
  simp -implicitDefEqProofs [go_sem]
  refine cK_dec (fun h2 => ?_) (fun h2 => ?_)
  · simp -implicitDefEqProofs [go_sem]
    exact ⟨_, Sub.refl _, by simp [h2, bV], rfl⟩
  simp -implicitDefEqProofs [go_sem]
  have hf := rfind_c L id (by omega) h
  simp only [bV] at hf
  refine hf.mono ?_
  rintro e h' ⟨rfl, he⟩
  rw [he]
  have hno : ¬ (id < 0 ∨ id > 2147483647) := by omega
  cases hfd : L.findIdx? (PM.is id) with
  | some i =>
    have hge : (i : Int) ≥ 0 := by omega
    simp -implicitDefEqProofs [go_sem, findV, hfd, hge]
    exact ⟨_, Sub.refl _, by simp [h1, h2, hasM, hfd, bV], rfl⟩
  | none =>
    simp -implicitDefEqProofs [go_sem, findV, hfd]
    refine aK_own (e := 57) (z := 6) (S := [21, 25]) (rows := []) (ys := L.map PM.row) Own.tight (by simp) elT_41 elZ_57 (by simp [roomy, byT_57]; omega) rfl (pms_uni L) ?_
    intro r x' ho hx
    simp -implicitDefEqProofs [go_sem, ho.strip]
    refine aK_own (e := 57) (z := 6) (S := [21, 25]) (rows := L.map PM.row) (ys := [(⟨id, false, 0, 0, [], false⟩ : PM)].map PM.row) (by simpa -implicitDefEqProofs [go_sem] using ho) (by simp) elT_41 elZ_57 (by simp [roomy, byT_57]; omega) (pms_uni L) (pms_uni _) ?_
    intro r2 x2 ho2 hx2
    simp -implicitDefEqProofs [go_sem, ho2.strip]
    exact ⟨_, Sub.refl _, by simp [h1, h2, hasM, hfd, bV], rfl⟩
set_option maxRecDepth 20000 in
theorem rsend_c (L : List PM) (id : Int) (bs : List UInt8) (hl : L.length < 10000000) (B : Nat) (hev : evsLe B L) (hb : B < 10000000) (h : Heap) :
    ICall Try.prog 24 [bV L, .int .i64 id, .str ⟨bs.toArray⟩] h (retP (.tup [bV (sendM L id bs).1, .int .i64 (sendM L id bs).2]) h) := by
  refine icall_of_iwp (fun _ => 0) Try.func24 rfl (by kernel_rfl) (Nat.le_of_ble_eq_true rfl) ?_
  rw [Try.results24]
  simp -implicitDefEqProofs [go_sem, bV]
  have hf := rfind_c L id (by omega) h
  simp only [bV] at hf
  refine hf.mono ?_
  rintro e h' ⟨rfl, he⟩
  rw [he]
  cases hfd : L.findIdx? (PM.is id) with
  | none =>
    simp -implicitDefEqProofs [go_sem, findV, hfd]
    exact ⟨_, Sub.refl _, by simp [sendM, hfd], rfl⟩
  | some i =>
    obtain ⟨hlt, _, _⟩ := List.findIdx?_eq_some_iff_getElem.1 hfd
    have hM : sendM L id bs = if bs = [] then (L, 0) else (L.set i (L[i].put ⟨2, 0, 0, ⟨bs.toArray⟩⟩), 0) := by simp only [sendM, hfd, List.getElem?_eq_getElem hlt]
    have hge : ¬ (i : Int) < 0 := by omega
    simp -implicitDefEqProofs [go_sem, findV, hfd, hge, hlt, PM.row]
    cases bs with
    | nil =>
      simp -implicitDefEqProofs [go_sem]
      have hw := with_c L i L[i] hlt (by omega) h
      simp only [bV, PM.row] at hw
      refine hw.mono ?_
      rintro e h' ⟨rfl, he⟩
      rw [he]
      simp -implicitDefEqProofs [go_sem]
      exact ⟨_, Sub.refl _, by rw [hM]; simp [bV, PM.row], rfl⟩
    | cons b0 bt =>
      simp -implicitDefEqProofs [go_sem]
      have hel : L[i].evs.length ≤ B := hev _ (List.getElem_mem hlt)
      refine aK_own (e := 38) (z := 4) (S := [26, 30]) (rows := []) (ys := L[i].evs.map Ev.row) Own.tight (by simp) elT_35 elZ_38 (by simp [roomy, byT_38]; omega) rfl (evs_uni _) ?_
      intro r x' ho hx
      simp -implicitDefEqProofs [go_sem, ho.strip]
      refine aK_own (e := 38) (z := 4) (S := [26, 30]) (rows := L[i].evs.map Ev.row) (ys := [(⟨2, 0, 0, ⟨(b0 :: bt).toArray⟩⟩ : Ev)].map Ev.row) (by simpa -implicitDefEqProofs [go_sem] using ho) (by simp) elT_35 elZ_38 (by simp [roomy, byT_38]; omega) (evs_uni _) (evs_uni _) ?_
      intro r2 x2 ho2 hx2
      obtain ⟨tk2, rfl⟩ := ho2.list
      simp -implicitDefEqProofs [go_sem]
      have hw := with_c L i (L[i].put ⟨2, 0, 0, ⟨(b0 :: bt).toArray⟩⟩) hlt (by omega) h
      simp only [bV, PM.row, PM.put, List.map_append, List.map] at hw
      refine hw.mono ?_
      rintro e h' ⟨rfl, he⟩
      rw [he]
      simp -implicitDefEqProofs [go_sem]
      exact ⟨_, Sub.refl _, by rw [hM]; simp [bV, PM.row, PM.put], rfl⟩
end Go.Proofs
