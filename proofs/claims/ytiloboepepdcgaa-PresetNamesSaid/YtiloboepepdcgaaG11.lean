/- This text is a part of the proofs of the statements of this seat: the ideal states and their rules, or what one of the functions that the statements reach comes to. Conditions: none beyond those that each theorem names. -/
import Derived.Test.YtiloboepepdcgaaGB
import Derived.Test.YtiloboepepdcgaaP4
set_option linter.unusedVariables false
set_option linter.unusedSimpArgs false
set_option pp.deepTerms false
set_option pp.maxSteps 400
namespace Go.Proofs
open Go.Idl

def fullE : IV := .iface 146 (.agg [])
def optE : Option Cel → IEnd
  | some c => .ret (.agg c.row)
  | none => .pan fullE
/-- a layout, or what is thrown -/
def retO (o : Option Cel) (h : Heap) (e : IEnd) (h' : Heap) : Prop := e = optE o ∧ h' = h
def mustR (b : Bool) (h : Heap) (e : IEnd) (h' : Heap) : Prop := e = (if b = true then .ret (.tup []) else .pan fullE) ∧ h' = h
theorem must_c (b : Bool) (h : Heap) : ICall Try.prog 129 [.bool b] h (mustR b h) := by
  refine icall_of_iwp (fun _ => 0) Try.func129 rfl (by kernel_rfl) (Nat.le_of_ble_eq_true rfl) ?_
  rw [Try.results129]
  simp -implicitDefEqProofs [go_sem]
  cases b <;> simp -implicitDefEqProofs [go_sem]
  · exact ⟨h, Sub.refl _, rfl, rfl⟩
  · exact ⟨h, Sub.refl _, rfl, rfl⟩
theorem cleaf_c (r : Rct) (id : Int) (h : Heap) : ICall Try.prog 150 [.agg r.row, .int .i64 id] h (retP (.agg (lf r id).row) h) := by
  refine icall_of_iwp (fun _ => 0) Try.func150 rfl (by kernel_rfl) (Nat.le_of_ble_eq_true rfl) ?_
  rw [Try.results150, lf, Cel.row_mk]
  simp -implicitDefEqProofs [go_sem]
  exact ⟨h, Sub.refl _, rfl, rfl⟩
theorem lsz_c (r : Rct) (ax : Int) (h : Heap) : ICall Try.prog 128 [.agg r.row, .int .u8 ax] h (retP (.int .i64 (dimR r ax)) h) := by
  refine icall_of_iwp (fun _ => 0) Try.func128 rfl (by kernel_rfl) (Nat.le_of_ble_eq_true rfl) ?_
  rw [Try.results128]
  simp -implicitDefEqProofs [go_sem]
  refine cK_beq (fun h1 => ?_) (fun h1 => ?_) <;> simp -implicitDefEqProofs [go_sem]
  · exact ⟨h, Sub.refl _, by simp [dimR, rsz, h1], rfl⟩
  refine cK_beq (fun h2 => ?_) (fun h2 => ?_) <;> simp -implicitDefEqProofs [go_sem]
  · exact ⟨h, Sub.refl _, by simp [dimR, rsz, h2], rfl⟩
  · exact ⟨h, Sub.refl _, by simp [dimR, rsz, h1, h2], rfl⟩
theorem pleaf_c (r : Rct) (ids : List Int) (hne : ids ≠ []) (h : Heap) : ICall Try.prog 127 [.agg r.row, .list .plain (ids.map intRow)] h (retP (.agg (lf r (ids[0]?.getD 0)).row) h) := by
  refine icall_of_iwp (fun _ => 0) Try.func127 rfl (by kernel_rfl) (Nat.le_of_ble_eq_true rfl) ?_
  rw [Try.results127]
  cases ids with
  | nil => exact absurd rfl hne
  | cons x l =>
    simp -implicitDefEqProofs [go_sem]
    refine iwp_drawn_of mixed [0, 1, 2, 3, 4, 5] (by kernel_rfl) ?_
    simp -implicitDefEqProofs [go_sem]
    refine ⟨_, cleaf_c r x h, ?_⟩
    simp -implicitDefEqProofs [go_sem]
    exact ⟨h, Sub.refl _, rfl, rfl⟩

theorem wrapU8 {n : Int} (h : 0 ≤ n ∧ n ≤ 255) : IntKind.u8.wrap n = n := Go.IntWalk.u8_in _ (by omega)
set_option maxRecDepth 20000 in
set_option maxHeartbeats 4000000 in
theorem of_c (r : Rct) (ax : Int) (sizes : List Int) (hl : sizes.length < 1000000000) (f : FuncId) (cap : List IV) (K : Nat → Rct → Option Cel) (h : Heap)
    (hK : ∀ (i : Nat) p, i < sizes.length → p.may = true → ICall Try.prog f ([.int .i64 i, .agg p.row] ++ cap) h (retO (K i p) h)) :
    ICall Try.prog 130 [.agg r.row, .int .u8 ax, .list .plain (sizes.map intRow), .fn (.func f) [] cap] h (retO (ofC r ax sizes K) h) := by
  refine icall_of_iwp (fun d => if d = 42 then 5 else if d = 38 then 8 else if d = 41 then 8 else 0) Try.func130 rfl (by kernel_rfl) (Nat.le_of_ble_eq_true rfl) ?_
  rw [Try.results130]
  simp -implicitDefEqProofs [go_sem]
  refine (rCut_c r ax sizes h (by omega)).mono ?_
  rintro e h' ⟨rfl, rfl⟩
  cases hc : cutS r ax sizes with
  | none =>
    simp -implicitDefEqProofs [go_sem, cutV]
    refine (must_c false _).mono ?_
    rintro e h2 ⟨rfl, rfl⟩
    simp -implicitDefEqProofs [go_sem]
    exact ⟨_, Sub.refl _, by rw [ofC, hc]; rfl, rfl⟩
  | some x =>
    obtain ⟨ps, ls⟩ := x
    obtain ⟨hm, h1, h2, hne, _⟩ := cutS_inv hc
    have hlen := (cutS_len hc).1
    have hof : ofC r ax sizes K = (kidsU K ps ps.length).map (groupC r ax) := by rw [ofC, hc]
    simp -implicitDefEqProofs [go_sem, cutV]
    refine (must_c true _).mono ?_
    rintro e h2 ⟨rfl, rfl⟩
    have w1 : IntKind.u8.wrap (ax - 1) = ax - 1 := wrapU8 (by omega)
    have w2 : IntKind.u8.wrap (ax - 1 + 2) = ax + 1 := by rw [wrapU8 (by omega)]; omega
    have hC : (Cel.mk (ax + 1) r 0 []).rowK (.list .tight []) = [.int .u8 (ax + 1), .int .i64 r.x, .int .i64 r.y, .int .i64 r.w, .int .i64 r.h, .int .i64 0, .list .tight []] := by rw [Cel.rowK_eq]; rfl
    simp -implicitDefEqProofs [go_sem, w1, w2]
    have hC2 : [IV.int .u8 (ax + 1), .int .i64 r.x, .int .i64 r.y, .int .i64 r.w, .int .i64 r.h, .int .i64 0, .list .tight []] = (Cel.mk (ax + 1) r 0 []).rowK (.list .tight []) := hC.symm
    refine iwp_loopF (rng [12,13,14] 32 46) (fun k => k == 12 || k == 14) (fun s => ∃ i : Nat, ∃ ks v, i ≤ ps.length ∧ s.t 32 = .int .i64 i ∧ kidsU K ps i = some ks ∧ s.t 12 = .loc 12 0 0 ∧ s.m 12 = some (0, (Cel.mk (ax + 1) r 0 []).rowK v) ∧ Go.Idl.Own [44] s.x 72 v (ks.map Cel.row) ∧ s.h = h2) (fun s => ps.length - tn (s.t 32)) ?_ ?_
    · exact ⟨0, [], .list .tight [], Nat.zero_le _, by simp -implicitDefEqProofs [go_sem], rfl, by simp -implicitDefEqProofs [go_sem], by simp -implicitDefEqProofs [go_sem, Rct.row, hC], Go.Idl.Own.tight, by simp -implicitDefEqProofs [go_sem]⟩
    rintro J s hJ hf ⟨i, ks, v, hi, h32, hk, h12, hm12, ho, hh⟩
    have hkl := kidsU_len hk
    obtain ⟨tk, rfl⟩ := ho.list
    simp -implicitDefEqProofs [go_sem, h32, h12, hm12, hh, hf.t, hf.m]
    refine cK_dec (fun hlt => ?_) (fun hge => ?_)
    · have hlt' : i < ps.length := by omega
      have hg : ps[i]? = some ps[i] := List.getElem?_eq_getElem hlt'
      have hw := wrap_succ (i := i) (by omega)
      simp -implicitDefEqProofs [go_sem, h32, h12, hm12, hh, hf.t, hf.m, hlt', hg]
      refine iwp_drawn_call mixed [0, 1, 2, 3, 4, 5, 6, 7, 8, 9] (by kernel_rfl) (fun v st d x h => by cases d <;> exact h) ?_
      simp -implicitDefEqProofs [go_sem, h32, h12, hm12, hh, hf.t, hf.m, hlt', hg]
      refine (hK i ps[i] (by omega) (cutS_may hc (List.getElem_mem hlt'))).mono ?_
      rintro e h3 ⟨rfl, rfl⟩
      have hku : kidsU K ps (i + 1) = match K i ps[i] with | none => none | some k => some (ks ++ [k]) := by rw [kidsU, hk, hg]; rfl
      cases hk2 : K i ps[i] with
      | none =>
        rw [hk2] at hku
        simp -implicitDefEqProofs [go_sem, optE]
        exact ⟨_, Sub.refl _, by rw [hof, kidsU_mono hlt' hku]; rfl, rfl⟩
      | some k =>
        rw [hk2] at hku
        simp -implicitDefEqProofs [go_sem, optE]
        refine aK_own (z := 7) (S := [44]) (by simpa -implicitDefEqProofs [go_sem] using ho) (by simp) elT_70 elZ_72 (by simp [roomy, byT_72]; omega) (Cel.rows_uni _) (by simp [uni, Cel.row_len]) ?_
        intro r' x' ho' _
        obtain ⟨tk', rfl⟩ := ho'.list
        simp -implicitDefEqProofs [go_sem, h32, h12, hm12, hh, hf.t, hf.m, hf, hw]
        exact hJ _ ⟨i + 1, ks ++ [k], _, by omega, by simp -implicitDefEqProofs [go_sem, hw], hku, by simp -implicitDefEqProofs [go_sem, h12], by simp -implicitDefEqProofs [go_sem]; rfl, by rw [List.map_append]; simpa -implicitDefEqProofs [go_sem] using ho', by simp -implicitDefEqProofs [go_sem, hh]⟩ (by simp [go_sem, h32, hw]; omega)
    · obtain rfl : i = ps.length := by omega
      simp -implicitDefEqProofs [go_sem, h32, h12, hm12, hh, hf.t, hf.m]
      refine cK_beq (fun hq => ?_) (fun hq => ?_)
      · match ks, hkl, hq with
        | [k], hkl, hq =>
          simp -implicitDefEqProofs [go_sem, h32, h12, hm12, hh, hf.t, hf.m]
          exact ⟨_, Sub.refl _, by rw [hof, hk]; rfl, rfl⟩
      · simp -implicitDefEqProofs [go_sem, h32, h12, hm12, hh, hf.t, hf.m]
        refine ⟨_, Sub.refl _, ?_, rfl⟩
        have hg2 : groupC r ax ks = .mk (ax + 1) r 0 ks := by
          match ks, hq with
          | [], _ => rfl
          | [k], hq => exact absurd rfl hq
          | _ :: _ :: _, _ => rfl
        rw [hof, hk]
        simp only [Option.map_some, hg2, optE]
        rfl
end Go.Proofs
