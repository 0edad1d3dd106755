/- This text is a part of the proofs of the statements of this seat: the ideal states and their rules, or what one of the functions that the statements reach comes to. Conditions: none beyond those that each theorem names. -/
import Derived.Test.YtfelioeeeimfeaaD3
set_option linter.unusedVariables false
set_option linter.unusedSimpArgs false
set_option pp.deepTerms false
set_option pp.maxSteps 400
namespace Go.Proofs
open Go.Idl

noncomputable def Wn.same (a b : Wn) : Bool := (a.act == b.act) && (a.z == b.z) && a.tree.beq b.tree
theorem same18_c (a b : Wn) (h : Heap) (hs : a.tree.size < 100000000) : ICall Try.prog 8 [.agg a.row, .agg b.row] h (retP (.bool (a.same b)) h) := by
  refine icall_of_iwp (fun _ => 0) Try.func8 rfl (by kernel_rfl) (Nat.le_of_ble_eq_true rfl) ?_
  rw [Try.results8]
  simp -implicitDefEqProofs [go_sem]
  cases h1 : a.act == b.act with
  | false =>
    have hm : a.same b = false := by simp [Wn.same, h1]
    simp -implicitDefEqProofs [go_sem]
    exact ⟨h, Sub.refl _, by rw [hm], rfl⟩
  | true =>
    cases h2 : a.z == b.z with
    | false =>
      have hm : a.same b = false := by simp [Wn.same, h2]
      simp -implicitDefEqProofs [go_sem, h2]
      exact ⟨h, Sub.refl _, by rw [hm], rfl⟩
    | true =>
      have hm : a.same b = a.tree.beq b.tree := by simp [Wn.same, h1, h2]
      simp -implicitDefEqProofs [go_sem, h2]
      refine (same_c a.tree b.tree h (by omega)).mono ?_
      rintro e h' ⟨rfl, he⟩
      rw [he]
      simp -implicitDefEqProofs [go_sem]
      exact ⟨h, Sub.refl _, by rw [hm], rfl⟩

theorem leaf_c (r : Rct) (id : Int) (h : Heap) : ICall Try.prog 38 [.agg r.row, .int .i64 id] h (retP (.agg (Cel.mk 1 r id []).row) h) := by
  refine icall_of_iwp (fun _ => 0) Try.func38 rfl (by kernel_rfl) (Nat.le_of_ble_eq_true rfl) ?_
  rw [Try.results38, Cel.row_mk]
  simp -implicitDefEqProofs [go_sem]
  exact ⟨h, Sub.refl _, rfl, rfl⟩

theorem lsize_c (r : Rct) (h : Heap) : ICall Try.prog 50 [.agg r.row, .int .u8 1] h (retP (.int .i64 r.w) h) := by
  refine icall_of_iwp (fun _ => 0) Try.func50 rfl (by kernel_rfl) (Nat.le_of_ble_eq_true rfl) ?_
  rw [Try.results50]
  simp -implicitDefEqProofs [go_sem]
  exact ⟨h, Sub.refl _, rfl, rfl⟩

theorem wr78 : IntKind.i64.wrap (80 - 2) = 78 := by decide
theorem wr40 : IntKind.i64.wrap (80 / 2) = 40 := by decide
theorem wrm1 : IntKind.i64.wrap (-1) = -1 := by decide
theorem wrn1 : IntKind.i64.wrap (0 - 1) = -1 := by decide
theorem sizes80_c (h : Heap) : ICall Try.prog 64 [.int .i64 80, .int .i64 0] h (retP (.tup [.int .i64 40, .int .i64 39, .bool true]) h) := by
  refine icall_of_iwp (fun _ => 0) Try.func64 rfl (by kernel_rfl) (Nat.le_of_ble_eq_true rfl) ?_
  rw [Try.results64]
  simp -implicitDefEqProofs [go_sem]
  exact ⟨h, Sub.refl _, rfl, rfl⟩

theorem sized_c (r : Rct) (n id : Int) (h : Heap) : ICall Try.prog 65 [.agg r.row, .int .u8 1, .int .i64 n, .int .i64 id] h (retP (.agg (Cel.mk 1 ⟨r.x, r.y, n, r.h⟩ id []).row) h) := by
  refine icall_of_iwp (fun _ => 0) Try.func65 rfl (by kernel_rfl) (Nat.le_of_ble_eq_true rfl) ?_
  rw [Try.results65]
  have hsp : splice r.row 2 [.int .i64 n] = (Rct.mk r.x r.y n r.h).row := rfl
  simp -implicitDefEqProofs [go_sem, hsp]
  refine (leaf_c ⟨r.x, r.y, n, r.h⟩ id h).mono ?_
  rintro e h' ⟨rfl, he⟩
  rw [he]
  simp -implicitDefEqProofs [go_sem]
  exact ⟨h, Sub.refl _, rfl, rfl⟩

def rA : Rct := ⟨0, 0, 80, 24⟩
def tA : Cel := .mk 1 rA 0 []
def lA : Cel := .mk 1 ⟨0, 0, 40, 24⟩ 0 []
def lB : Cel := .mk 1 ⟨0, 0, 39, 24⟩ 1 []
def tB : Cel := .mk 2 rA 0 [lA, lB]
def tC : Cel := tB.setp 0 0
def wA : Wn := ⟨tA, 0, false⟩
def wB : Wn := ⟨tC, 1, false⟩
def wC : Wn := ⟨tC, 1, true⟩

theorem two_c (h : Heap) : ICall Try.prog 52 [.agg tA.row, .int .u8 1, .int .i64 0, .int .i64 1, .bool false] h (retP (.list .plain [lA.row, lB.row]) h) := by
  refine icall_of_iwp (fun _ => 0) Try.func52 rfl (by kernel_rfl) (Nat.le_of_ble_eq_true rfl) ?_
  rw [Try.results52]
  have hr : tA.r = rA := rfl
  have hid : tA.id = 0 := rfl
  simp -implicitDefEqProofs [go_sem, hr, hid]
  refine (lsize_c rA h).mono ?_
  rintro e h' ⟨rfl, he⟩
  rw [he]
  simp -implicitDefEqProofs [go_sem]
  refine (sizes80_c h).mono ?_
  rintro e h' ⟨rfl, he⟩
  rw [he]
  simp -implicitDefEqProofs [go_sem]
  refine iwp_drawn_of mixed [0, 1, 2, 3, 4, 5, 6, 7, 8, 9, 10, 11, 12, 13, 14] (by kernel_rfl) ?_
  simp -implicitDefEqProofs [go_sem, hr, hid]
  refine ⟨_, sized_c rA 40 0 h, ?_⟩
  simp -implicitDefEqProofs [go_sem, hr, hid]
  refine ⟨_, sized_c rA 39 1 h, ?_⟩
  simp -implicitDefEqProofs [go_sem, hr, hid]
  exact ⟨h, Sub.refl _, rfl, rfl⟩

theorem put0_c (c k : Cel) (h : Heap) (hs : k.size < 100000000000) : ICall Try.prog 63 [.agg c.row, .agg k.row, .list .plain []] h (retP (.tup [.agg k.row, .bool true]) h) := by
  refine icall_of_iwp (fun _ => 0) Try.func63 rfl (by kernel_rfl) (Nat.le_of_ble_eq_true rfl) ?_
  rw [Try.results63]
  simp -implicitDefEqProofs [go_sem]
  refine (clone_c k h hs).mono ?_
  rintro e h' ⟨rfl, he⟩
  rw [he]
  simp -implicitDefEqProofs [go_sem]
  exact ⟨h, Sub.refl _, rfl, rfl⟩

theorem at0_c (c : Cel) (h : Heap) (hs : c.size < 100000000000) : ICall Try.prog 49 [.agg c.row, .list .plain []] h (retP (.tup [.agg c.row, .bool true]) h) := by
  refine icall_of_iwp (fun _ => 0) Try.func49 rfl (by kernel_rfl) (Nat.le_of_ble_eq_true rfl) ?_
  rw [Try.results49]
  simp -implicitDefEqProofs [go_sem]
  refine iwp_loop (fun s => s = _) (fun _ => 0) rfl ?_
  rintro _ rfl
  simp -implicitDefEqProofs [go_sem]
  refine (clone_c c h hs).mono ?_
  rintro e h' ⟨rfl, he⟩
  rw [he]
  simp -implicitDefEqProofs [go_sem]
  exact ⟨h, Sub.refl _, rfl, rfl⟩

theorem findLeaf_c (c : Cel) (id : Int) (h : Heap) (hk : c.kind = 1) (hid : c.id = id) : ICall Try.prog 48 [.agg c.row, .int .i64 id] h (retP (.tup [.list .plain [], .bool true]) h) := by
  refine icall_of_iwp (fun _ => 0) Try.func48 rfl (by kernel_rfl) (Nat.le_of_ble_eq_true rfl) ?_
  rw [Try.results48]
  simp -implicitDefEqProofs [go_sem, hk, hid]
  exact ⟨h, Sub.refl _, rfl, rfl⟩

theorem join_c (h : Heap) : ICall Try.prog 51 [.agg tA.row, .list .plain [], .agg tA.row, .int .u8 1, .list .plain [lA.row, lB.row]] h (retP (.agg tB.row) h) := by
  refine icall_of_iwp (fun _ => 0) Try.func51 rfl (by kernel_rfl) (Nat.le_of_ble_eq_true rfl) ?_
  rw [Try.results51]
  have hneg : ¬ ((0 : Int) ≤ -1) := by omega
  have hr : tA.r = rA := rfl
  have hrow : [IV.int .u8 2, .int .i64 rA.x, .int .i64 rA.y, .int .i64 rA.w, .int .i64 rA.h, .int .i64 0, .list .plain [lA.row, lB.row]] = tB.row := by rw [Cel.row_eq]; rfl
  have hrow2 : [IV.int .u8 2, .int .i64 0, .int .i64 0, .int .i64 80, .int .i64 24, .int .i64 0, .list .plain [lA.row, lB.row]] = tB.row := by rw [Cel.row_eq]; rfl
  simp -implicitDefEqProofs [go_sem, hr, wrm1, wrn1, hneg]
  first | rw [hrow] | rw [hrow2] | skip
  refine (put0_c tA tB h (by decide +kernel)).mono ?_
  rintro e h' ⟨rfl, he⟩
  rw [he]
  simp -implicitDefEqProofs [go_sem]
  exact ⟨h, Sub.refl _, rfl, rfl⟩
end Go.Proofs
