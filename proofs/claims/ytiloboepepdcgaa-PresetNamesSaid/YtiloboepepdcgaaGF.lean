/- This text is a part of the proofs of the statements of this seat: the ideal states and their rules, or what one of the functions that the statements reach comes to. Conditions: none beyond those that each theorem names. -/
import Derived.Test.YtiloboepepdcgaaGE
set_option linter.unusedVariables false
set_option linter.unusedSimpArgs false
set_option pp.deepTerms false
set_option pp.maxSteps 400
namespace Go.Proofs
open Go.Idl

theorem size17_c (r : Rct) (ax : Int) (h : Heap) : ICall Try.prog 100 [.agg r.row, .int .u8 ax] h (retP (.int .i64 (dimR r ax)) h) := size08_c r.x r.y r.w r.h ax h
def lnK (ps : List Rct) (ids : List Int) (n : Nat) : List Cel := (List.range n).map fun i => lf (ps[i]?.getD ⟨0,0,0,0⟩) (ids[i]?.getD 0)
theorem lnK_succ (ps : List Rct) (ids : List Int) (n : Nat) : lnK ps ids (n + 1) = lnK ps ids n ++ [lf (ps[n]?.getD ⟨0,0,0,0⟩) (ids[n]?.getD 0)] := by simp [lnK, List.range_succ]
@[simp] theorem lnK_len (ps : List Rct) (ids : List Int) (n : Nat) : (lnK ps ids n).length = n := by simp [lnK]
/-- the layout of a line, by its parts -/
theorem lineC_eq {r : Rct} {ax : Int} {ids : List Int} (hr : r.may = true) (h1 : 1 ≤ ax) (h2 : ax ≤ 2) (hb : ¬ sizesBad (dimR r ax) ids.length) :
    ∃ ps ls, cutS r ax (sizesL (dimR r ax) ids.length) = some (ps, ls) ∧ ps.length = ids.length ∧ lineC r ax ids = some (groupC r ax (lnK ps ids ids.length)) := by
  obtain ⟨ps, ls, hc, hl⟩ := sizes_cut hr h1 h2 hb
  have hl' : ps.length = ids.length := by omega
  refine ⟨ps, ls, hc, hl', ?_⟩
  rw [lineC, evenC, if_neg hb, ofC, hc]
  simp only
  rw [kidsU_some (fun i => lf (ps[i]?.getD ⟨0,0,0,0⟩) (ids[i]?.getD 0)) ps.length (fun i hi => rfl), hl']
  rfl
theorem cell_rowK (k : Int) (r : Rct) : [IV.int .u8 k, .int .i64 r.x, .int .i64 r.y, .int .i64 r.w, .int .i64 r.h, .int .i64 0, .list .tight []] = (Cel.mk k r 0 []).rowK (.list .tight []) := by rw [Cel.rowK_eq]; rfl
set_option maxRecDepth 20000 in
set_option maxHeartbeats 4000000 in
theorem rline_c (r : Rct) (ax : Int) (ids : List Int) (h : Heap) (hr : r.may = true) (h1 : 1 ≤ ax) (h2 : ax ≤ 2) (hne : ids ≠ []) (hl : ids.length ≤ 1000000) :
    ICall Try.prog 74 [.agg r.row, .int .u8 ax, .list .plain (ids.map intRow)] h (retP (refV (lineC r ax ids)) h) := by
  refine icall_of_iwp (fun _ => 0) Try.func74 rfl (by kernel_rfl) (Nat.le_of_ble_eq_true rfl) ?_
  rw [Try.results74]
  have hd := dim_in hr ax
  have hp : 0 < ids.length := List.length_pos_iff.2 hne
  simp -implicitDefEqProofs [go_sem]
  refine (size17_c r ax h).mono ?_
  rintro e h' ⟨rfl, rfl⟩
  simp -implicitDefEqProofs [go_sem]
  refine (rsizes_c (dimR r ax) ids.length (by omega) h').mono ?_
  rintro e h3 ⟨rfl, rfl⟩
  by_cases hb : sizesBad (dimR r ax) ids.length
  · have hv : sizesV (dimR r ax) ids.length = .tup [.list .plain [], .bool false] := by rw [sizesV, if_pos hb]
    rw [hv]
    simp -implicitDefEqProofs [go_sem]
    exact ⟨_, Sub.refl _, by rw [lineC, evenC, if_pos hb, refV, Cel.zero_row], rfl⟩
  have hv : sizesV (dimR r ax) ids.length = .tup [.list .plain ((sizesL (dimR r ax) ids.length).map intRow), .bool true] := by rw [sizesV, if_neg hb]
  obtain ⟨ps, ls, hc, hpl, hL⟩ := lineC_eq hr h1 h2 hb
  rw [hv]
  simp -implicitDefEqProofs [go_sem]
  refine cK_beq (fun k1 => ?_) (fun k1 => ?_)
  · obtain ⟨x, hx⟩ : ∃ x, ids = [x] := by
      match ids, k1 with
      | [x], _ => exact ⟨x, rfl⟩
      | [], k1 => simp at k1
      | _ :: _ :: _, k1 => simp at k1; omega
    subst hx
    have : ∃ p, ps = [p] := by
      match ps, hpl with
      | [p], _ => exact ⟨p, rfl⟩
    obtain ⟨p, rfl⟩ := this
    have hpr := cutS_single hc
    subst hpr
    simp -implicitDefEqProofs [go_sem]
    refine iwp_drawn_of mixed [0,1,2,3,4,5,6] (by kernel_rfl) ?_
    simp -implicitDefEqProofs [go_sem]
    refine ⟨_, rleaf_c p x _, ?_⟩
    simp -implicitDefEqProofs [go_sem]
    exact ⟨_, Sub.refl _, by rw [hL]; rfl, rfl⟩
  · have hl2 : 2 ≤ ids.length := by omega
    have hgc : ∀ ks : List Cel, ks.length = ids.length → groupC r ax ks = .mk (ax + 1) r 0 ks := fun ks hks => by
      match ks, hks with
      | [], _ => rfl
      | [k], hks => simp at hks; omega
      | _ :: _ :: _, _ => rfl
    have w1 : IntKind.u8.wrap (ax + 1) = ax + 1 := wrapU8 (by omega)
    simp -implicitDefEqProofs [go_sem]
    refine (cut_c r ax _ _ (by rw [sizesL_len]; omega)).mono ?_
    rintro e h4 ⟨rfl, rfl⟩
    rw [hc]
    simp -implicitDefEqProofs [go_sem, cutV, w1]
    refine iwp_loopF (rng [13,14] 49 66) (fun k => k == 13) (fun s => ∃ i : Nat, ∃ v, i ≤ ps.length ∧ s.t 49 = .int .i64 i ∧ s.t 13 = .loc 13 0 0 ∧ s.m 13 = some (0, (Cel.mk (ax + 1) r 0 []).rowK v) ∧ Go.Idl.Own [64] s.x 72 v ((lnK ps ids i).map Cel.row) ∧ s.h = h4) (fun s => ps.length - tn (s.t 49)) ?_ ?_
    · exact ⟨0, .list .tight [], Nat.zero_le _, by simp -implicitDefEqProofs [go_sem], by simp -implicitDefEqProofs [go_sem], by simp -implicitDefEqProofs [go_sem, Rct.row, ← cell_rowK], Go.Idl.Own.tight, by simp -implicitDefEqProofs [go_sem]⟩
    rintro J s hJ hf ⟨i, v, hi, h49, h13, hm13, ho, hh⟩
    obtain ⟨tk, rfl⟩ := ho.list
    simp -implicitDefEqProofs [go_sem, h49, h13, hm13, hh, hf.t, hf.m]
    refine cK_dec (fun hlt => ?_) (fun hge => ?_)
    · have hlt' : i < ids.length := by omega
      have hltp : i < ps.length := by omega
      have hg : ps[i]? = some ps[i] := List.getElem?_eq_getElem hltp
      have hg2 : (ids.map intRow)[i]? = some [.int .i64 (ids[i]?.getD 0)] := by simp [hlt', intRow]
      have hw := wrap_succ (i := i) (by omega)
      simp -implicitDefEqProofs [go_sem, h49, h13, hm13, hh, hf.t, hf.m]
      refine iwp_drawn_of mixed [0,1,2,3,4,5,6,7,8,9,10,11,12,13,14] (by kernel_rfl) ?_
      simp -implicitDefEqProofs [go_sem, h49, h13, hm13, hh, hf.t, hf.m, hlt', hltp, hg, hg2]
      refine ⟨_, rleaf_c _ _ _, ?_⟩
      simp -implicitDefEqProofs [go_sem, h49, h13, hm13, hh, hf.t, hf.m]
      refine aK_own (z := 7) (S := [64]) (by simpa -implicitDefEqProofs [go_sem] using ho) (by simp) elT_70 elZ_72 (by simp [roomy, byT_72]; omega) (by simp [uni, Cel.row_len]) (by simp [uni, Cel.row_len]) ?_
      intro r' x' ho' _
      obtain ⟨tk', rfl⟩ := ho'.list
      simp -implicitDefEqProofs [go_sem, h49, h13, hm13, hh, hf.t, hf.m, hf, hw]
      exact hJ _ ⟨i + 1, _, by omega, by simp -implicitDefEqProofs [go_sem, hw], by simp -implicitDefEqProofs [go_sem, h13], by simp -implicitDefEqProofs [go_sem]; rfl, by rw [lnK_succ, List.map_append]; simpa -implicitDefEqProofs [go_sem, hg, hlt'] using ho', by simp -implicitDefEqProofs [go_sem, hh]⟩ (by simp [go_sem, h49, hw]; omega)
    · obtain rfl : i = ps.length := by omega
      simp -implicitDefEqProofs [go_sem, h49, h13, hm13, hh, hf.t, hf.m]
      refine ⟨_, Sub.refl _, ?_, rfl⟩
      rw [hL, hgc _ (by simp), refV, ← hpl]
      have e := Cel.rowK_strip (Cel.mk (ax + 1) r 0 []) tk (lnK ps ids ps.length)
      rw [Cel.withKids] at e
      simp only [Cel.kind, Cel.r, Cel.id] at e
      rw [← e]
      simp -implicitDefEqProofs [go_sem]
end Go.Proofs

set_option linter.unusedVariables false
set_option linter.unusedSimpArgs false
set_option pp.deepTerms false
set_option pp.maxSteps 400
namespace Go.Proofs
open Go.Idl

def mainsR (o : Option Cel) (h : Heap) (e : IEnd) (h' : Heap) : Prop := (∃ c : Cel, e = .ret (.tup [.agg c.row, .bool o.isSome]) ∧ ∀ d, o = some d → c = d) ∧ h' = h
set_option maxRecDepth 20000 in
set_option maxHeartbeats 4000000 in
theorem rmains_c (r : Rct) (ax size : Int) (ids : List Int) (h : Heap) (hr : r.may = true) (h1 : 1 ≤ ax) (h2 : ax ≤ 2) (hne : ids ≠ []) (hl : ids.length ≤ 1000000) :
    ICall Try.prog 75 [.agg r.row, .int .u8 ax, .int .i64 size, .list .plain (ids.map intRow)] h (mainsR (mainC r ax size ids) h) := by
  refine icall_of_iwp (fun _ => 0) Try.func75 rfl (by kernel_rfl) (Nat.le_of_ble_eq_true rfl) ?_
  rw [Try.results75]
  have hd := dim_in hr ax
  have hp : 0 < ids.length := List.length_pos_iff.2 hne
  have hg0 : (ids.map intRow)[0]? = some [.int .i64 (ids[0]?.getD 0)] := by simp [hp, intRow]
  simp -implicitDefEqProofs [go_sem]
  refine cK_beq (fun k1 => ?_) (fun k1 => ?_)
  · have hm : mainC r ax size ids = some (lf r (ids[0]?.getD 0)) := by rw [mainC, if_pos (by omega)]
    simp -implicitDefEqProofs [go_sem]
    refine iwp_drawn_of mixed [0,1,2,3,4,5,6] (by kernel_rfl) ?_
    simp -implicitDefEqProofs [go_sem, hp, hg0]
    refine ⟨_, rleaf_c r _ _, ?_⟩
    simp -implicitDefEqProofs [go_sem]
    refine ⟨_, Sub.refl _, ⟨lf r (ids[0]?.getD 0), ?_, fun d hd => by rw [hm] at hd; cases hd; rfl⟩, rfl⟩
    rw [hm]; simp [hp]
  have hn1 : ¬ ids.length = 1 := by omega
  simp -implicitDefEqProofs [go_sem]
  refine (size17_c r ax h).mono ?_
  rintro e h' ⟨rfl, rfl⟩
  simp -implicitDefEqProofs [go_sem]
  refine cK_dec (fun h3 => ?_) (fun h3 => ?_)
  · have hm : mainC r ax size ids = none := by rw [mainC, if_neg hn1, if_pos h3]
    simp -implicitDefEqProofs [go_sem]
    exact ⟨_, Sub.refl _, ⟨Cel.zero, by rw [hm, Cel.zero_row]; rfl, fun d hd => by rw [hm] at hd; cases hd⟩, rfl⟩
  have w1 : IntKind.i64.wrap (dimR r ax - 2) = dimR r ax - 2 := wrap_in (by omega)
  have w2 : IntKind.i64.wrap (dimR r ax - 1) = dimR r ax - 1 := wrap_in (by omega)
  obtain ⟨n, hn⟩ : ∃ n, max 1 (min size (dimR r ax - 2)) = n := ⟨_, rfl⟩
  have w3 : IntKind.i64.wrap (dimR r ax - 1 - n) = dimR r ax - 1 - n := wrap_in (by omega)
  have w4 : IntKind.u8.wrap (3 - ax) = 3 - ax := wrapU8 (by omega)
  have w5 : IntKind.u8.wrap (ax + 1) = ax + 1 := wrapU8 (by omega)
  obtain ⟨p, q, ls, hc, hpm, hqm, hdq⟩ := main_cut (size := size) hr h1 h2 h3
  rw [hn] at hc
  have hm : mainC r ax size ids = (lineC q (3 - ax) ids.tail).map fun k => .mk (ax + 1) r 0 [lf p (ids[0]?.getD 0), k] := by
    rw [mainC, if_neg hn1, if_neg h3, hn, ofC, hc]
    simp only [kidsU, List.length_cons, List.length_nil, if_true]
    cases hlk : lineC q (3 - ax) ids.tail <;> simp [groupC, hlk, hp]
  simp -implicitDefEqProofs [go_sem, w1]
  refine ifE (rng [11] 36 37) nom (fun s => s.t 11 = .int .i64 (min size (dimR r ax - 2)) ∧ s.h = h') ?_ ?_
  · intro Q2 hQ2
    refine cK_dec (fun hgt => ?_) (fun hgt => ?_)
    · simp -implicitDefEqProofs [go_sem, w1]
      exact hQ2 _ (by simp -implicitDefEqProofs [go_sem]) ⟨by simp -implicitDefEqProofs [go_sem]; omega, by simp -implicitDefEqProofs [go_sem]⟩
    · simp -implicitDefEqProofs [go_sem]
      exact hQ2 _ (by simp -implicitDefEqProofs [go_sem]) ⟨by simp -implicitDefEqProofs [go_sem]; omega, by simp -implicitDefEqProofs [go_sem]⟩
  rintro s hf ⟨h11, hh⟩
  simp -implicitDefEqProofs [go_sem, h11, hh, hf.t, hf.m]
  refine ifE (rng [11] 40 40) nom (fun s => s.t 11 = .int .i64 n ∧ s.h = h') ?_ ?_
  · intro Q2 hQ2
    refine cK_dec (fun hgt => ?_) (fun hgt => ?_)
    · simp -implicitDefEqProofs [go_sem, hh, hf.t, hf.m]
      exact hQ2 _ (by simp -implicitDefEqProofs [go_sem]) ⟨by simp -implicitDefEqProofs [go_sem]; omega, by simp -implicitDefEqProofs [go_sem, hh]⟩
    · simp -implicitDefEqProofs [go_sem, hh, hf.t, hf.m]
      exact hQ2 _ (by simp -implicitDefEqProofs [go_sem]) ⟨by simp -implicitDefEqProofs [go_sem, h11]; omega, by simp -implicitDefEqProofs [go_sem, hh]⟩
  rintro s2 hf2 ⟨h11', hh2⟩
  simp -implicitDefEqProofs [go_sem, h11', hh2, hf2.t, hf2.m, hf.t, hf.m, w2, w3]
  refine (cut_c r ax [n, dimR r ax - 1 - n] h' (by simp)).mono ?_
  rintro e h4 ⟨rfl, rfl⟩
  rw [hc]
  simp -implicitDefEqProofs [go_sem, cutV, h11', hh2, hf2.t, hf2.m, hf.t, hf.m]
  refine iwp_drawn_alloc mixed 11 [0,1,2,3,4,5,6,7,8,9,10,12,13] (by kernel_rfl) ?_
  have hl1 : (1 : Int) ≤ (ids.length : Int) := by omega
  have hdr : (List.take ids.length (ids.map intRow)).tail = ids.tail.map intRow := by rw [List.take_of_length_le (by simp), List.map_tail]
  simp -implicitDefEqProofs [go_sem, h11', hh2, hf2.t, hf2.m, hf.t, hf.m, w4, hl1, hdr, ← List.map_tail]
  refine ⟨_, rline_c q (3 - ax) ids.tail h4 hqm (by omega) (by omega) (by intro e; have := congrArg List.length e; simp at this; omega) (by simp; omega), ?_⟩
  obtain ⟨k, hkv, hks⟩ : ∃ k : Cel, refV (lineC q (3 - ax) ids.tail) = .tup [.agg k.row, .bool (lineC q (3 - ax) ids.tail).isSome] ∧ ∀ d, lineC q (3 - ax) ids.tail = some d → k = d := by
    cases lineC q (3 - ax) ids.tail with
    | none => exact ⟨Cel.zero, rfl, fun d hd => nomatch hd⟩
    | some k => exact ⟨k, rfl, fun d hd => by cases hd; rfl⟩
  rw [hkv]
  simp -implicitDefEqProofs [go_sem, h11', hh2, hf2.t, hf2.m, hf.t, hf.m]
  refine iwp_drawn_of mixed [0,1,2,3,4,5,6,7,8,9,10,11,12,13,14,15] (by kernel_rfl) ?_
  simp -implicitDefEqProofs [go_sem, h11', hh2, hf2.t, hf2.m, hf.t, hf.m, hp, hg0, w5]
  refine ⟨_, rleaf_c p _ _, ?_⟩
  simp -implicitDefEqProofs [go_sem, h11', hh2, hf2.t, hf2.m, hf.t, hf.m, hp]
  refine ⟨_, Sub.refl _, ⟨.mk (ax + 1) r 0 [lf p (ids[0]?.getD 0), k], ?_, ?_⟩, rfl⟩
  · rw [hm, Option.isSome_map, Cel.row_mk]
    simp [hp, Rct.row]
  · intro d hd
    rw [hm] at hd
    obtain ⟨k', hk', rfl⟩ := Option.map_eq_some_iff.1 hd
    rw [hks k' hk']
end Go.Proofs

set_option linter.unusedVariables false
set_option linter.unusedSimpArgs false
set_option pp.deepTerms false
set_option pp.maxSteps 400
namespace Go.Proofs
open Go.Idl

theorem refV_none : refV none = .tup [.agg Cel.zero.row, .bool false] := rfl
theorem refV_some (c : Cel) : refV (some c) = .tup [.agg c.row, .bool true] := rfl
theorem div_up (n k : Nat) (hk : 1 ≤ k) : (n + k - 1) / k = n / k + if 0 < n % k then 1 else 0 := by
  have h1 := Nat.div_add_mod n k
  have h2 := Nat.mod_lt n (show 0 < k by omega)
  generalize n / k = q at *
  generalize n % k = r at *
  have e1 : (q + 1) * k = k * q + k := by rw [Nat.succ_mul, Nat.mul_comm]
  have e2 : q * k = k * q := Nat.mul_comm q k
  have e3 : (q + 1 + 1) * k = k * q + k + k := by rw [Nat.succ_mul, e1]
  split
  · exact Nat.div_eq_of_lt_le (by omega) (by omega)
  · exact Nat.div_eq_of_lt_le (by simp; omega) (by simp; omega)
theorem chunk_get {k : Nat} {ids : List Int} {i : Nat} (hi : i < (chunks k ids).length) : (chunks k ids)[i] = (ids.drop (i * k)).take k := by simp [chunks]
theorem chunk_lt {k : Nat} {ids : List Int} {i : Nat} (hk : 1 ≤ k) (hi : i < (chunks k ids).length) : i * k < ids.length := by
  have hi' : i < (ids.length + k - 1) / k := by simpa [chunks] using hi
  have h9 : (i + 1) * k ≤ (ids.length + k - 1) / k * k := Nat.mul_le_mul_right k hi'
  have h8 := Nat.div_mul_le_self (ids.length + k - 1) k
  rw [Nat.succ_mul] at h9
  have h7 := Nat.le_trans h9 h8
  omega
set_option maxRecDepth 20000 in
set_option maxHeartbeats 4000000 in
theorem rtiled_c (r : Rct) (ids : List Int) (h : Heap) (hr : r.may = true) (hne : ids ≠ []) (hl : ids.length ≤ 4096) :
    ICall Try.prog 76 [.agg r.row, .list .plain (ids.map intRow)] h (retP (refV (tiledC r ids)) h) := by
  refine icall_of_iwp (fun _ => 0) Try.func76 rfl (by kernel_rfl) (Nat.le_of_ble_eq_true rfl) ?_
  rw [Try.results76]
  have hp : 0 < ids.length := List.length_pos_iff.2 hne
  have hrm := hr
  rw [Rct.may, decide_eq_true_eq] at hrm
  have hgc := gcols_pos hl
  have hgv : gridV (ids.length : Int) = .tup [.int .i64 ((gridL 4096 1 1 ids.length).1 : Nat), .int .i64 (gcols ids.length : Nat)] := by rw [gridV, if_neg (by omega)]; rfl
  have hTc : tiledC r ids = evenC r 2 (chunks (gcols ids.length) ids).length fun i p => lineC p 1 ((chunks (gcols ids.length) ids)[i]?.getD []) := rfl
  obtain ⟨k, hk⟩ : ∃ k, gcols ids.length = k := ⟨_, rfl⟩
  rw [hk] at hgc hgv hTc
  obtain ⟨N, hN⟩ : ∃ N, (chunks k ids).length = N := ⟨_, rfl⟩
  have hNq : N = ids.length / k + if 0 < ids.length % k then 1 else 0 := by rw [← hN, ← div_up _ _ hgc.1]; simp [chunks]
  have hNl : N ≤ ids.length := by rw [← hN]; exact chunks_len k ids hgc.1
  rw [hN] at hTc
  have hk0 : ¬ k = 0 := by omega
  have hqe : (ids.length : Int) / (k : Int) = ((ids.length / k : Nat) : Int) := (Int.natCast_ediv _ _).symm
  have hql := Nat.div_le_self ids.length k
  generalize ids.length / k = Q at hqe hql hNq
  have hquo : IntKind.i64.wrap ((ids.length : Int) / (k : Int)) = (Q : Int) := by rw [hqe, wrap_in (by omega)]
  have hquo2 : IntKind.i64.wrap ((ids.length : Int).tdiv (k : Int)) = (Q : Int) := by rw [Int.tdiv_eq_ediv_of_nonneg (by omega), hquo]
  have hmod : (ids.length : Int).tmod (k : Int) = ((ids.length % k : Nat) : Int) := by rw [Int.tmod_eq_emod_of_nonneg (by omega)]; exact (Int.natCast_emod _ _).symm
  have hmod2 : (ids.length : Int) % (k : Int) = ((ids.length % k : Nat) : Int) := (Int.natCast_emod _ _).symm
  simp -implicitDefEqProofs [go_sem]
  refine (rgrid_c ids.length h).mono ?_
  rintro e h3 ⟨rfl, rfl⟩
  rw [hgv]
  clear hqe
  generalize ids.length % k = R at hmod hmod2 hNq
  simp -implicitDefEqProofs [go_sem, hk0, hquo, hquo2, hmod, hmod2]
  refine ifE (rng [8] 34 35) nom (fun s => s.t 8 = .int .i64 N ∧ s.h = h3) ?_ ?_
  · intro Q2 hQ2
    refine cK_dec (fun hgt => ?_) (fun hgt => ?_)
    · have hw : IntKind.i64.wrap ((Q : Int) + 1) = (N : Int) := by rw [if_pos (by omega)] at hNq; rw [wrap_in (by omega)]; omega
      simp -implicitDefEqProofs [go_sem, hquo, hquo2, hw]
      exact hQ2 _ (by simp -implicitDefEqProofs [go_sem]) ⟨by simp -implicitDefEqProofs [go_sem, hquo, hquo2, hw], by simp -implicitDefEqProofs [go_sem]⟩
    · rw [if_neg (by omega)] at hNq
      simp -implicitDefEqProofs [go_sem]
      exact hQ2 _ (by simp -implicitDefEqProofs [go_sem]) ⟨by simp -implicitDefEqProofs [go_sem, hquo, hquo2]; omega, by simp -implicitDefEqProofs [go_sem]⟩
  rintro s hf ⟨h8, hh⟩
  simp -implicitDefEqProofs [go_sem, h8, hh, hf.t, hf.m]
  refine (rsizes_c r.h N (by omega) _).mono ?_
  rintro e h4 ⟨rfl, rfl⟩
  have hdr : dimR r 2 = r.h := by simp [dimR, rsz]
  by_cases hb : sizesBad r.h N
  · have hv : sizesV r.h N = .tup [.list .plain [], .bool false] := by rw [sizesV, if_pos hb]
    rw [hv]
    simp -implicitDefEqProofs [go_sem, h8, hh, hf.t, hf.m]
    exact ⟨_, Sub.refl _, by rw [hTc, evenC, hdr, if_pos hb, refV, Cel.zero_row], rfl⟩
  have hv : sizesV r.h N = .tup [.list .plain ((sizesL r.h N).map intRow), .bool true] := by rw [sizesV, if_neg hb]
  obtain ⟨ps, ls, hc, hpl⟩ := sizes_cut (ax := 2) hr (by omega) (by omega) (by rw [hdr]; exact hb)
  rw [hdr] at hc
  have hpl' : ps.length = N := by omega
  obtain ⟨K, hK⟩ : ∃ K : Nat → Rct → Option Cel, K = fun i p => lineC p 1 ((chunks k ids)[i]?.getD []) := ⟨_, rfl⟩
  have hT : tiledC r ids = (kidsU K ps ps.length).map (groupC r 2) := by rw [hTc, evenC, hdr, if_neg hb, ofC, hc, hK]
  rw [hv]
  simp -implicitDefEqProofs [go_sem, h8, hh, hf.t, hf.m]
  refine (cut_c r 2 _ _ (by rw [sizesL_len]; omega)).mono ?_
  rintro e h5 ⟨rfl, rfl⟩
  rw [hc]
  simp -implicitDefEqProofs [go_sem, cutV, h8, hh, hf.t, hf.m]
  refine iwp_loopF (rng [14,15,16,17,18] 57 93) (fun k => k == 14 || k == 17) (fun s => ∃ i : Nat, ∃ ks v, i ≤ ps.length ∧ s.t 57 = .int .i64 i ∧ kidsU K ps i = some ks ∧ s.t 14 = .loc 14 0 0 ∧ s.m 14 = some (0, (Cel.mk 3 r 0 []).rowK v) ∧ Go.Idl.Own [91] s.x 72 v (ks.map Cel.row) ∧ s.h = h5) (fun s => ps.length - tn (s.t 57)) ?_ ?_
  · exact ⟨0, [], .list .tight [], Nat.zero_le _, by simp -implicitDefEqProofs [go_sem], rfl, by simp -implicitDefEqProofs [go_sem], by simp -implicitDefEqProofs [go_sem, Rct.row, ← cell_rowK], Go.Idl.Own.tight, by simp -implicitDefEqProofs [go_sem]⟩
  rintro J s2 hJ hf2 ⟨i, ks, v, hi, h57, hku, h14, hm14, ho, hh2⟩
  have hkl := kidsU_len hku
  obtain ⟨tk, rfl⟩ := ho.list
  simp -implicitDefEqProofs [go_sem, h57, h14, hm14, hh2, hf2.t, hf2.m, h8, hf.t, hf.m]
  refine cK_dec (fun hlt => ?_) (fun hge => ?_)
  · have hlt' : i < ps.length := by omega
    have hg : ps[i]? = some ps[i] := List.getElem?_eq_getElem hlt'
    have hpm := cutS_may hc (List.getElem_mem hlt')
    have hiC : i < (chunks k ids).length := by omega
    have hik := chunk_lt hgc.1 hiC
    have hcg := chunk_get hiC
    have hw := wrap_succ (i := i) (by omega)
    obtain ⟨q, hq⟩ : ∃ q, i * k = q := ⟨_, rfl⟩
    rw [hq] at hik hcg
    have hw2 : IntKind.i64.wrap (((i : Int) + 1) * (k : Int)) = ((q + k : Nat) : Int) := by
      have : ((i : Int) + 1) * (k : Int) = ((q + k : Nat) : Int) := by rw [← hq]; simp [Int.add_mul]
      rw [this, wrap_in (by omega)]
    have hw3 : IntKind.i64.wrap ((i : Int) * (k : Int)) = (q : Int) := by
      have : (i : Int) * (k : Int) = (q : Int) := by rw [← hq]; simp
      rw [this, wrap_in (by omega)]
    obtain ⟨T, hT2⟩ : ∃ T, min (q + k) ids.length = T := ⟨_, rfl⟩
    have hsl : List.drop q (List.take T (ids.map intRow)) = ((ids.drop q).take k).map intRow := by
      rw [← List.map_take, ← List.map_drop, List.drop_take]
      by_cases hkk : q + k ≤ ids.length
      · rw [show T - q = k by omega]
      · rw [List.take_of_length_le (by simp; omega), List.take_of_length_le (by simp; omega)]
    have hku1 : kidsU K ps (i + 1) = match K i ps[i] with | none => none | some k => some (ks ++ [k]) := by rw [kidsU, hku, hg]; rfl
    have hKi : K i ps[i] = lineC ps[i] 1 ((ids.drop q).take k) := by rw [hK]; simp only; rw [List.getElem?_eq_getElem hiC, Option.getD_some, hcg]
    rw [hKi] at hku1
    simp -implicitDefEqProofs [go_sem, h57, h14, hm14, hh2, hf2.t, hf2.m, h8, hf.t, hf.m, hw, hw2]
    refine ifE (rng [16] 68 69) nom (fun s => s.t 16 = .int .i64 T ∧ s.x = s2.x ∧ s.h = h5) ?_ ?_
    · intro Q2 hQ2
      refine cK_dec (fun hgt => ?_) (fun hgt => ?_)
      · simp -implicitDefEqProofs [go_sem, hh2, hf2.t, hf2.m, h8, hf.t, hf.m]
        exact hQ2 _ (by simp -implicitDefEqProofs [go_sem]) ⟨by simp -implicitDefEqProofs [go_sem]; omega, by simp -implicitDefEqProofs [go_sem], by simp -implicitDefEqProofs [go_sem, hh2]⟩
      · simp -implicitDefEqProofs [go_sem]
        exact hQ2 _ (by simp -implicitDefEqProofs [go_sem]) ⟨by simp -implicitDefEqProofs [go_sem, hw, hw2]; omega, by simp -implicitDefEqProofs [go_sem], by simp -implicitDefEqProofs [go_sem, hh2]⟩
    rintro s3 hf3 ⟨h16, hx3, hh3⟩
    simp -implicitDefEqProofs [go_sem, h57, h14, hm14, hh2, hf2.t, hf2.m, h8, hf.t, hf.m, h16, hh3, hf3.t, hf3.m]
    refine iwp_drawn_alloc mixed 14 [0,1,2,3,4,5,6,7,8,9,10,11,12,13,15,16] (by kernel_rfl) ?_
    have hqT : q ≤ T := by omega
    have hTl : T ≤ ids.length := by omega
    simp -implicitDefEqProofs [go_sem, h57, h14, hm14, hh2, hf2.t, hf2.m, h8, hf.t, hf.m, h16, hh3, hf3.t, hf3.m, hlt', hg, hw3, hqT, hTl]
    rw [hsl]
    refine ⟨_, rline_c ps[i] 1 ((ids.drop q).take k) h5 hpm (by omega) (by omega) (by intro e; have := congrArg List.length e; simp at this; omega) (by simp; omega), ?_⟩
    cases hln : lineC ps[i] 1 ((ids.drop q).take k) with
    | none =>
      rw [hln] at hku1
      simp -implicitDefEqProofs [go_sem, refV_none, refV_some, h57, h14, hm14, hh2, hf2.t, hf2.m, h8, hf.t, hf.m, h16, hh3, hf3.t, hf3.m]
      exact ⟨_, Sub.refl _, by rw [show tiledC r ids = none by rw [hT, kidsU_mono hlt' hku1]; rfl, refV_none, Cel.zero_row], rfl⟩
    | some kc =>
      rw [hln] at hku1
      simp -implicitDefEqProofs [go_sem, refV_none, refV_some, h57, h14, hm14, hh2, hf2.t, hf2.m, h8, hf.t, hf.m, h16, hh3, hf3.t, hf3.m]
      refine aK_own (z := 7) (S := [91]) (by simpa -implicitDefEqProofs [go_sem, hx3] using ho) (by simp) elT_70 elZ_72 (by simp [roomy, byT_72]; omega) (by simp [uni, Cel.row_len]) (by simp [uni, Cel.row_len]) ?_
      intro r' x' ho' _
      obtain ⟨tk', rfl⟩ := ho'.list
      have hf4 := Fr.trans2 hf2 hf3 (by simp -implicitDefEqProofs [go_sem]) (rng_sub (by decide)) (fun _ _ => rfl)
      simp -implicitDefEqProofs [go_sem, h57, h14, hm14, hh2, hf2.t, hf2.m, h8, hf.t, hf.m, h16, hh3, hf3.t, hf3.m, hf4, hw]
      exact hJ _ ⟨i + 1, ks ++ [kc], _, by omega, by simp -implicitDefEqProofs [go_sem, hw], hku1, by simp -implicitDefEqProofs [go_sem, h14, hf3.t], by simp -implicitDefEqProofs [go_sem]; rfl, by rw [List.map_append]; simpa -implicitDefEqProofs [go_sem] using ho', by simp -implicitDefEqProofs [go_sem, hh3]⟩ (by simp [go_sem, h57, hw, hf3.t]; omega)
  · obtain rfl : i = ps.length := by omega
    simp -implicitDefEqProofs [go_sem, h57, h14, hm14, hh2, hf2.t, hf2.m, h8, hf.t, hf.m]
    refine cK_beq (fun hq => ?_) (fun hq => ?_)
    · match ks, hkl with
      | [kc], hkl =>
        simp -implicitDefEqProofs [go_sem, h57, h14, hm14, hh2, hf2.t, hf2.m, h8, hf.t, hf.m]
        exact ⟨_, Sub.refl _, by rw [hT, hku, Option.map_some, groupC, refV_some], rfl⟩
      | [], hkl => simp at hkl; omega
      | _ :: _ :: _, hkl => simp at hkl; omega
    · have hg2 : groupC r 2 ks = .mk 3 r 0 ks := by
        match ks, hkl with
        | [], _ => rfl
        | [kc], hkl => simp at hkl; omega
        | _ :: _ :: _, _ => rfl
      simp -implicitDefEqProofs [go_sem, h57, h14, hm14, hh2, hf2.t, hf2.m, h8, hf.t, hf.m]
      refine ⟨_, Sub.refl _, ?_, rfl⟩
      rw [hT, hku, Option.map_some, hg2, refV_some]
      rfl

/-! the reference's Make -/
open Classical in
set_option maxRecDepth 20000 in
set_option maxHeartbeats 4000000 in
theorem rMake_c (p w hh size : Int) (ids : List Int) (h : Heap) (hl : ids.length ≤ 100000000) :
    ICall Try.prog 42 [.int .u8 p, .int .i64 w, .int .i64 hh, .int .i64 size, .list .plain (ids.map intRow)] h (retP (mkV (makeV p w hh size ids)) h) := by
  refine icall_of_iwp (fun _ => 0) Try.func42 rfl (by kernel_rfl) (Nat.le_of_ble_eq_true rfl) ?_
  rw [Try.results42]
  have hR : [IV.int .i64 0, .int .i64 0, .int .i64 w, .int .i64 hh] = (Rct.mk 0 0 w hh).row := rfl
  simp -implicitDefEqProofs [go_sem, hR]
  refine cK_dec (fun p1 => ?_) (fun p1 => ?_)
  · simp -implicitDefEqProofs [go_sem]
    exact ⟨h, Sub.refl _, by rw [mkV_bad (by omega), Cel.zero_row], rfl⟩
  simp -implicitDefEqProofs [go_sem]
  refine cK_dec (fun p2 => ?_) (fun p2 => ?_)
  · simp -implicitDefEqProofs [go_sem]
    exact ⟨h, Sub.refl _, by rw [mkV_bad (by omega), Cel.zero_row], rfl⟩
  simp -implicitDefEqProofs [go_sem]
  refine (may04_c ⟨0, 0, w, hh⟩ h).mono ?_
  rintro e h' ⟨rfl, rfl⟩
  simp -implicitDefEqProofs [go_sem]
  cases hm : (Rct.mk 0 0 w hh).may with
  | false =>
    simp -implicitDefEqProofs [go_sem]
    exact ⟨_, Sub.refl _, by rw [mkV_bad (by rw [hm]; simp), Cel.zero_row], rfl⟩
  | true =>
    simp -implicitDefEqProofs [go_sem]
    refine (right_c ids hl _).mono ?_
    rintro e h' ⟨rfl, rfl⟩
    by_cases hri : rightL ids
    case neg =>
      have hdr : decide (rightL ids) = false := by simp [hri]
      rw [hdr]
      simp -implicitDefEqProofs [go_sem]
      exact ⟨_, Sub.refl _, by rw [mkV_bad (by rintro ⟨_, _, _, h⟩; exact hri h), Cel.zero_row], rfl⟩
    have hdr : decide (rightL ids) = true := by simp [hri]
    rw [hdr]
    have hok : 1 ≤ p ∧ p ≤ 5 ∧ (Rct.mk 0 0 w hh).may = true ∧ rightL ids := ⟨by omega, by omega, hm, hri⟩
    have hne : ids ≠ [] := fun e => by have := hri.1; rw [e] at this; simp at this
    have hl4 := hri.2.1
    have hfin := mkV_ok (size := size) hok
    have hz := Cel.zero_row
    simp -implicitDefEqProofs [go_sem]
    refine cK_beq (fun k1 => ?_) (fun k1 => ?_)
    · simp -implicitDefEqProofs [go_sem]
      refine (rline_c ⟨0, 0, w, hh⟩ 1 ids _ hm (by omega) (by omega) hne (by omega)).mono ?_
      rintro e h' ⟨rfl, rfl⟩
      have hmd : madeC p ⟨0, 0, w, hh⟩ size ids = lineC ⟨0, 0, w, hh⟩ 1 ids := by simp [madeC, k1]
      cases hln : lineC ⟨0, 0, w, hh⟩ 1 ids <;> simp -implicitDefEqProofs [go_sem, refV_none, refV_some, hz]
      · exact ⟨_, Sub.refl _, by rw [hfin, hmd, hln, madeR, hz], rfl⟩
      · exact ⟨_, Sub.refl _, by rw [hfin, hmd, hln, madeR], rfl⟩
    simp -implicitDefEqProofs [go_sem]
    refine cK_beq (fun k2 => ?_) (fun k2 => ?_)
    · simp -implicitDefEqProofs [go_sem]
      refine (rline_c ⟨0, 0, w, hh⟩ 2 ids _ hm (by omega) (by omega) hne (by omega)).mono ?_
      rintro e h' ⟨rfl, rfl⟩
      have hmd : madeC p ⟨0, 0, w, hh⟩ size ids = lineC ⟨0, 0, w, hh⟩ 2 ids := by simp [madeC, k2]
      cases hln : lineC ⟨0, 0, w, hh⟩ 2 ids <;> simp -implicitDefEqProofs [go_sem, refV_none, refV_some, hz]
      · exact ⟨_, Sub.refl _, by rw [hfin, hmd, hln, madeR, hz], rfl⟩
      · exact ⟨_, Sub.refl _, by rw [hfin, hmd, hln, madeR], rfl⟩
    simp -implicitDefEqProofs [go_sem]
    refine cK_beq (fun k3 => ?_) (fun k3 => ?_)
    · simp -implicitDefEqProofs [go_sem]
      refine (rmains_c ⟨0, 0, w, hh⟩ 2 size ids _ hm (by omega) (by omega) hne (by omega)).mono ?_
      rintro e h' ⟨⟨c, rfl, hc⟩, rfl⟩
      have hmd : madeC p ⟨0, 0, w, hh⟩ size ids = mainC ⟨0, 0, w, hh⟩ 2 size ids := by simp [madeC, k3]
      cases hln : mainC ⟨0, 0, w, hh⟩ 2 size ids <;> simp -implicitDefEqProofs [go_sem]
      · exact ⟨_, Sub.refl _, by rw [hfin, hmd, hln, madeR, hz], rfl⟩
      · rename_i d
        exact ⟨_, Sub.refl _, by rw [hfin, hmd, hln, madeR, hc d hln], rfl⟩
    simp -implicitDefEqProofs [go_sem]
    refine cK_beq (fun k4 => ?_) (fun k4 => ?_)
    · simp -implicitDefEqProofs [go_sem]
      refine (rmains_c ⟨0, 0, w, hh⟩ 1 size ids _ hm (by omega) (by omega) hne (by omega)).mono ?_
      rintro e h' ⟨⟨c, rfl, hc⟩, rfl⟩
      have hmd : madeC p ⟨0, 0, w, hh⟩ size ids = mainC ⟨0, 0, w, hh⟩ 1 size ids := by simp [madeC, k4]
      cases hln : mainC ⟨0, 0, w, hh⟩ 1 size ids <;> simp -implicitDefEqProofs [go_sem]
      · exact ⟨_, Sub.refl _, by rw [hfin, hmd, hln, madeR, hz], rfl⟩
      · rename_i d
        exact ⟨_, Sub.refl _, by rw [hfin, hmd, hln, madeR, hc d hln], rfl⟩
    · simp -implicitDefEqProofs [go_sem]
      refine (rtiled_c ⟨0, 0, w, hh⟩ ids _ hm hne hl4).mono ?_
      rintro e h' ⟨rfl, rfl⟩
      have hmd : madeC p ⟨0, 0, w, hh⟩ size ids = tiledC ⟨0, 0, w, hh⟩ ids := by simp [madeC, k1, k2, k3, k4]
      cases hln : tiledC ⟨0, 0, w, hh⟩ ids <;> simp -implicitDefEqProofs [go_sem, refV_none, refV_some, hz]
      · exact ⟨_, Sub.refl _, by rw [hfin, hmd, hln, madeR, hz], rfl⟩
      · exact ⟨_, Sub.refl _, by rw [hfin, hmd, hln, madeR], rfl⟩
end Go.Proofs
