/- This text is a part of the proofs of the statements of this seat: the ideal states and their rules, or what one of the functions that the statements reach comes to. Conditions: none beyond those that each theorem names. -/
import Derived.Test.YtiloboepepdcgaaS5
set_option linter.unusedVariables false
set_option linter.unusedSimpArgs false
set_option pp.deepTerms false
set_option pp.maxSteps 400
namespace Go.Proofs
open Go.Idl
open Go.Sort (swp ltInt order2 median medianAdjacent choosePivot)

theorem upd_self {h : Heap} {q : Nat} {o : IObj} (hq : h q = some o) : upd h q (some o) = h := by
  funext j; simp only [upd]; split
  · rename_i e; rw [e, hq]
  · rfl
theorem upd_upd2 (h : Heap) (q : Nat) (x y : Option IObj) : upd (upd h q x) q y = upd h q y := by funext j; simp only [upd]; split <;> rfl

def swC (s : Nat) : IObj := .cells [.int .i64 s]

theorem order2_c (d : Array Int) (a b s bk cap q : Nat) (h : Heap) (hb : h bk = some (.arr 3 1 (rowsD d) cap)) (hq : h q = some (swC s)) (ha : a < d.size) (hb2 : b < d.size) (hs : s < 1000000) :
    ICall Try.prog 158 [.sl 1 bk 0 d.size cap, .int .i64 a, .int .i64 b, .ptr q 0] h
      (retP (.tup [.int .i64 (order2 ltInt d a b s).1, .int .i64 (order2 ltInt d a b s).2.1]) (upd h q (some (swC (order2 ltInt d a b s).2.2)))) := by
  obtain ⟨n, hn⟩ : ∃ n, n = d.size := ⟨_, rfl⟩
  rw [← hn] at ha hb2 ⊢
  have hq' : h q = some (.cells [.int .i64 s]) := hq
  have hw := wrap_succ (i := s) (by omega)
  have hga := rowsD_get (d := d) (i := a) (by omega)
  have hgb := rowsD_get (d := d) (i := b) (by omega)
  refine icall_of_iwp (fun _ => 0) Try.func158 rfl (by kernel_rfl) (Nat.le_of_ble_eq_true rfl) ?_
  rw [Try.results158]
  simp -implicitDefEqProofs [go_sem]
  refine iwp_drawn_of mixed [0,1,2,3,4,5,6,7,8] (by kernel_rfl) ?_
  simp -implicitDefEqProofs [go_sem, ha, hb2, hga, hgb, hb]
  refine ⟨_, less_c _ _ _, ?_⟩
  simp -implicitDefEqProofs [go_sem, ha, hb2, hga, hgb, hb]
  refine cK_any (fun k1 => ?_) (fun k1 => ?_) <;> simp -implicitDefEqProofs [go_sem, ha, hb2, hga, hgb, hb, hq', hw]
  · have e : order2 ltInt d a b s = (b, a, s + 1) := by rw [order2, if_pos k1]
    rw [e]
    exact ⟨_, Sub.refl _, rfl, by simp [swC]⟩
  · have e : order2 ltInt d a b s = (a, b, s) := by rw [order2, if_neg (by rw [k1]; simp)]
    rw [e]
    exact ⟨h, Sub.refl _, rfl, (upd_self hq).symm⟩

theorem order2_bd (d : Array Int) (a b s n : Nat) (ha : a < n) (hb : b < n) : (order2 ltInt d a b s).1 < n ∧ (order2 ltInt d a b s).2.1 < n ∧ (order2 ltInt d a b s).2.2 ≤ s + 1 := by
  rw [order2]; split <;> simp <;> omega

theorem median_bd (d : Array Int) (a b c s n : Nat) (ha : a < n) (hb : b < n) (hc : c < n) : (median ltInt d a b c s).1 < n ∧ (median ltInt d a b c s).2 ≤ s + 3 := by
  rw [median]
  have h1 := order2_bd d a b s n ha hb
  have h2 := order2_bd d (order2 ltInt d a b s).2.1 c (order2 ltInt d a b s).2.2 n h1.2.1 hc
  have h3 := order2_bd d (order2 ltInt d a b s).1 (order2 ltInt d (order2 ltInt d a b s).2.1 c (order2 ltInt d a b s).2.2).1 (order2 ltInt d (order2 ltInt d a b s).2.1 c (order2 ltInt d a b s).2.2).2.2 n h1.1 h2.1
  simp only
  exact ⟨h3.2.1, by omega⟩

theorem median_c (d : Array Int) (a b c s bk cap q : Nat) (h : Heap) (hb : h bk = some (.arr 3 1 (rowsD d) cap)) (hq : h q = some (swC s)) (ha : a < d.size) (hb2 : b < d.size) (hc : c < d.size) (hs : s < 10000) :
    ICall Try.prog 144 [.sl 1 bk 0 d.size cap, .int .i64 a, .int .i64 b, .int .i64 c, .ptr q 0] h
      (retP (.int .i64 (median ltInt d a b c s).1) (upd h q (some (swC (median ltInt d a b c s).2)))) := by
  have hne : bk ≠ q := by rintro rfl; rw [hb] at hq; cases hq
  have hbu : ∀ x, upd h q x bk = some (.arr 3 1 (rowsD d) cap) := fun x => by simp [upd, hne, hb]
  have hqu : ∀ x, upd h q (some x) q = some x := fun x => by simp [upd]
  obtain ⟨r1, hr1⟩ : ∃ r, r = order2 ltInt d a b s := ⟨_, rfl⟩
  obtain ⟨r2, hr2⟩ : ∃ r, r = order2 ltInt d r1.2.1 c r1.2.2 := ⟨_, rfl⟩
  obtain ⟨r3, hr3⟩ : ∃ r, r = order2 ltInt d r1.1 r2.1 r2.2.2 := ⟨_, rfl⟩
  have hm : median ltInt d a b c s = (r3.2.1, r3.2.2) := by rw [median, hr3, hr2, hr1]
  have b1 := order2_bd d a b s d.size ha hb2
  rw [← hr1] at b1
  have b2 := order2_bd d r1.2.1 c r1.2.2 d.size b1.2.1 hc
  rw [← hr2] at b2
  have b3 := order2_bd d r1.1 r2.1 r2.2.2 d.size b1.1 b2.1
  rw [← hr3] at b3
  have c1 := order2_c d a b s bk cap q h hb hq ha hb2 (by omega)
  rw [← hr1] at c1
  have c2 := order2_c d r1.2.1 c r1.2.2 bk cap q (upd h q (some (swC r1.2.2))) (hbu _) (hqu _) b1.2.1 hc (by omega)
  rw [← hr2, upd_upd2] at c2
  have c3 := order2_c d r1.1 r2.1 r2.2.2 bk cap q (upd h q (some (swC r2.2.2))) (hbu _) (hqu _) b1.1 b2.1 (by omega)
  rw [← hr3, upd_upd2] at c3
  refine icall_of_iwp (fun _ => 0) Try.func144 rfl (by kernel_rfl) (Nat.le_of_ble_eq_true rfl) ?_
  rw [Try.results144]
  simp -implicitDefEqProofs [go_sem]
  refine c1.mono ?_
  rintro e h' ⟨rfl, he⟩
  rw [he]
  simp -implicitDefEqProofs [go_sem]
  refine c2.mono ?_
  rintro e h' ⟨rfl, he⟩
  rw [he]
  simp -implicitDefEqProofs [go_sem]
  refine c3.mono ?_
  rintro e h' ⟨rfl, he⟩
  rw [he]
  simp -implicitDefEqProofs [go_sem]
  exact ⟨_, Sub.refl _, by rw [hm], by rw [hm]⟩

theorem medAdj_c (d : Array Int) (a s bk cap q : Nat) (h : Heap) (hb : h bk = some (.arr 3 1 (rowsD d) cap)) (hq : h q = some (swC s)) (ha0 : 1 ≤ a) (ha : a + 1 < d.size) (hs : s < 10000) (hsz : d.size < 10000000000) :
    ICall Try.prog 143 [.sl 1 bk 0 d.size cap, .int .i64 a, .ptr q 0] h
      (retP (.int .i64 (medianAdjacent ltInt d a s).1) (upd h q (some (swC (medianAdjacent ltInt d a s).2)))) := by
  obtain ⟨p, hp⟩ : ∃ x, x = a - 1 := ⟨_, rfl⟩
  have hw1 : IntKind.i64.wrap ((a : Int) - 1) = (p : Int) := by rw [wrap_in (by omega)]; omega
  obtain ⟨k, hk⟩ : ∃ x, x = a + 1 := ⟨_, rfl⟩
  have hw2 : IntKind.i64.wrap ((a : Int) + 1) = (k : Int) := by rw [wrap_in (by omega)]; omega
  have hm : medianAdjacent ltInt d a s = median ltInt d p a k s := by rw [medianAdjacent, hp, hk]
  refine icall_of_iwp (fun _ => 0) Try.func143 rfl (by kernel_rfl) (Nat.le_of_ble_eq_true rfl) ?_
  rw [Try.results143]
  simp -implicitDefEqProofs [go_sem, hw1, hw2]
  refine (median_c d p a k s bk cap q h hb hq (by omega) (by omega) (by omega) hs).mono ?_
  rintro e h' ⟨rfl, he⟩
  rw [he]
  simp -implicitDefEqProofs [go_sem]
  exact ⟨_, Sub.refl _, by rw [hm], by rw [hm]⟩
end Go.Proofs
