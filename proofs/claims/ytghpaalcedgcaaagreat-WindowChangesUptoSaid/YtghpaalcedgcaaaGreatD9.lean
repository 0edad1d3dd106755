/- This text is a part of the proofs of the statements of this seat: the ideal states and their rules, or what one of the functions that the statements reach comes to. Conditions: none beyond those that each theorem names. -/
import Derived.Test.YtghpaalcedgcaaaGreatDA
import Derived.Test.YtghpaalcedgcaaaGreatPA
set_option linter.unusedVariables false
set_option linter.unusedSimpArgs false
set_option pp.deepTerms false
set_option pp.maxSteps 400
namespace Go.Proofs
open Go.Idl

@[go_sem high] theorem Wn.rows_uni (l : List Wn) : uni 9 (l.map Wn.row) = true := by simp [uni, Wn.row_len]

theorem indexFunc_wn {l : List Wn} {f : FuncId} {first cap : List IV} {Inv Hit : Nat → Heap → Prop} (hl : l.length < 100000000000)
    (hstep : ∀ i (hi : i < l.length) h, Inv i h → ICall Tryz.prog f (first ++ [.agg l[i].row] ++ cap) h fun e h' => (e = .ret (.bool false) ∧ Inv (i + 1) h') ∨ (e = .ret (.bool true) ∧ Hit i h')) (h : Heap) (h0 : Inv 0 h) :
    ICall Tryz.prog 150 [.list .plain (l.map Wn.row), .fn (.func f) first cap] h (idxR Inv Hit l.length) := by
  refine icall_of_iwp (fun _ => 0) Tryz.func150 rfl (by kernel_rfl) (Nat.le_of_ble_eq_true rfl) ?_
  rw [Tryz.results150]
  simp -implicitDefEqProofs [go_sem]
  refine iwp_loopF (rng [4,5] 8 18) nom (fun s => ∃ i, i ≤ l.length ∧ s.t 8 = .int .i64 i ∧ Inv i s.h) (fun s => l.length - tn (s.t 8)) ?_ ?_
  · exact ⟨0, Nat.zero_le _, by simp -implicitDefEqProofs [go_sem], by simpa -implicitDefEqProofs [go_sem] using h0⟩
  rintro J s hJ hf ⟨i, hi, h8, hinv⟩
  simp -implicitDefEqProofs [go_sem, h8, hf.t, hf.m]
  refine cK_dec (fun hlt => ?_) (fun hge => ?_)
  · have hg : l[i]? = some l[i] := List.getElem?_eq_getElem hlt
    have hw := wrap_succ (i := i) (by omega)
    simp -implicitDefEqProofs [go_sem, h8, hf.t, hf.m, hlt, hg]
    have hs := hstep i hlt _ hinv
    simp only [List.append_assoc, List.singleton_append, List.cons_append, List.nil_append] at hs
    refine hs.mono ?_
    rintro e h' (⟨rfl, hi'⟩ | ⟨rfl, hi'⟩)
    · simp -implicitDefEqProofs [go_sem, h8, hf.t, hf.m, hf, hlt, hg, hw]
      exact hJ _ ⟨i + 1, by omega, by simp -implicitDefEqProofs [go_sem, hw], by simpa -implicitDefEqProofs [go_sem] using hi'⟩ (by simp [go_sem, h8, hw]; omega)
    · simp -implicitDefEqProofs [go_sem, h8, hf.t, hf.m, hf, hlt, hg, hw]
      exact ⟨h', Sub.refl _, .inr ⟨i, hlt, rfl, hi'⟩⟩
  · simp -implicitDefEqProofs [go_sem, h8, hf.t, hf.m]
    obtain rfl : i = l.length := by omega
    exact ⟨s.h, Sub.refl _, .inl ⟨rfl, hinv⟩⟩

theorem containsFunc_wn {l : List Wn} {f : FuncId} {first cap : List IV} {Inv Hit : Nat → Heap → Prop} (hl : l.length < 100000000000)
    (hstep : ∀ i (hi : i < l.length) h, Inv i h → ICall Tryz.prog f (first ++ [.agg l[i].row] ++ cap) h fun e h' => (e = .ret (.bool false) ∧ Inv (i + 1) h') ∨ (e = .ret (.bool true) ∧ Hit i h')) (h : Heap) (h0 : Inv 0 h) :
    ICall Tryz.prog 111 [.list .plain (l.map Wn.row), .fn (.func f) first cap] h (conR Inv Hit l.length) := by
  refine icall_of_iwp (fun _ => 0) Tryz.func111 rfl (by kernel_rfl) (Nat.le_of_ble_eq_true rfl) ?_
  rw [Tryz.results111]
  simp -implicitDefEqProofs [go_sem]
  refine (indexFunc_wn hl hstep h h0).mono ?_
  rintro e h' (⟨rfl, hi'⟩ | ⟨i, hi, rfl, hi'⟩)
  · simp -implicitDefEqProofs [go_sem]
    exact ⟨h', Sub.refl _, .inl ⟨rfl, hi'⟩⟩
  · simp -implicitDefEqProofs [go_sem]
    exact ⟨h', Sub.refl _, .inr ⟨i, hi, rfl, hi'⟩⟩

theorem wMay1_c (w : Wn) (h : Heap) (hs : w.tree.size < 100000000) : ICall Tryz.prog 112 [.agg w.row] h (retP (.bool (!w.may)) h) := by
  refine icall_of_iwp (fun _ => 0) Tryz.func112 rfl (by kernel_rfl) (Nat.le_of_ble_eq_true rfl) ?_
  rw [Tryz.results112]
  simp -implicitDefEqProofs [go_sem]
  refine (wmay_c w h hs).mono ?_
  rintro e h' ⟨rfl, he⟩
  rw [he]
  simp -implicitDefEqProofs [go_sem]
  exact ⟨h, Sub.refl _, rfl, rfl⟩

theorem wMay_c (w : Wn) (h : Heap) (hs : w.tree.size < 100000000) : ICall Tryz.prog 74 [.list .plain [w.row]] h (retP (.bool w.may) h) := by
  refine icall_of_iwp (fun _ => 0) Tryz.func74 rfl (by kernel_rfl) (Nat.le_of_ble_eq_true rfl) ?_
  rw [Tryz.results74]
  simp -implicitDefEqProofs [go_sem]
  have hn := containsFunc_wn (l := [w]) (f := 112) (first := []) (cap := []) (Inv := fun i h' => h' = h ∧ (i = 1 → w.may = true)) (Hit := fun i h' => h' = h ∧ w.may = false) (by simp) (fun i hi h1 hh => by
    obtain ⟨rfl, _⟩ := hh
    obtain rfl : i = 0 := by simp at hi; exact hi
    refine (wMay1_c w h1 hs).mono ?_
    rintro e h' ⟨rfl, rfl⟩
    cases hb : w.may with
    | false => exact .inr ⟨rfl, rfl, rfl⟩
    | true => exact .inl ⟨rfl, rfl, fun _ => rfl⟩) h ⟨rfl, fun h => by cases h⟩
  simp only [List.map_cons, List.map_nil] at hn
  refine hn.mono ?_
  rintro e h' (⟨rfl, rfl, hm⟩ | ⟨i, hi, rfl, rfl, hm⟩)
  · simp -implicitDefEqProofs [go_sem]
    exact ⟨h', Sub.refl _, by rw [hm rfl], rfl⟩
  · simp -implicitDefEqProofs [go_sem]
    exact ⟨h', Sub.refl _, by rw [hm], rfl⟩

set_option maxRecDepth 20000 in
theorem may18_c (w : Wn) (h : Heap) (hs : w.tree.size < 100000000) : ICall Tryz.prog 43 [.agg w.row] h (retP (.bool w.may) h) := by
  have hl := idsz_le w.tree
  refine icall_of_iwp (fun _ => 0) Tryz.func43 rfl (by kernel_rfl) (Nat.le_of_ble_eq_true rfl) ?_
  rw [Tryz.results43]
  simp -implicitDefEqProofs [go_sem]
  refine (tiles06_c w.tree h (by omega)).mono ?_
  rintro e h' ⟨rfl, he⟩
  rw [he]
  cases ht : w.tree.tiles with
  | false =>
    have hm : w.may = false := by simp [Wn.may, ht]
    simp -implicitDefEqProofs [go_sem]
    exact ⟨h, Sub.refl _, by rw [hm], rfl⟩
  | true =>
    by_cases hx : w.tree.r.x = 0
    · by_cases hy : w.tree.r.y = 0
      · simp -implicitDefEqProofs [go_sem, hx, hy]
        refine (ids_c w.tree h (by omega)).mono ?_
        rintro e h' ⟨rfl, he⟩
        rw [he]
        simp -implicitDefEqProofs [go_sem, hx, hy]
        refine (in_c w.tree.ids w.act h (by omega)).mono ?_
        rintro e h' ⟨rfl, he⟩
        rw [he]
        by_cases ha : w.act ∈ w.tree.ids
        · cases hz : w.z with
          | false =>
            have hm : w.may = true := by simp [Wn.may, ht, hx, hy, ha, hz]
            simp -implicitDefEqProofs [go_sem, ha, hz]
            exact ⟨h, Sub.refl _, by rw [hm], rfl⟩
          | true =>
            have hm : w.may = decide (1 < w.tree.ids.length) := by simp [Wn.may, ht, hx, hy, ha, hz]
            simp -implicitDefEqProofs [go_sem, ha, hz]
            refine ⟨h, Sub.refl _, by rw [hm]; congr 1; simp; try omega, rfl⟩
        · have hm : w.may = false := by simp [Wn.may, ha]
          simp -implicitDefEqProofs [go_sem, ha]
          exact ⟨h, Sub.refl _, by rw [hm], rfl⟩
      · have hm : w.may = false := by simp [Wn.may, hy]
        have hyb : (w.tree.r.y != 0) = true := by simpa using hy
        simp -implicitDefEqProofs [go_sem, hx, hyb]
        exact ⟨h, Sub.refl _, by rw [hm], rfl⟩
    · have hm : w.may = false := by simp [Wn.may, hx]
      have hxb : (w.tree.r.x != 0) = true := by simpa using hx
      simp -implicitDefEqProofs [go_sem, hxb]
      exact ⟨h, Sub.refl _, by rw [hm], rfl⟩

def Wn.shown (w : Wn) : List Pn := if w.may = true then (if w.z = true then [⟨w.act, w.tree.r⟩] else w.tree.panes) else []

set_option maxRecDepth 20000 in
theorem shown_c (w : Wn) (h : Heap) (hs : w.tree.size < 100000000) : ICall Tryz.prog 35 [.agg w.row] h (retP (.list .plain (w.shown.map Pn.row)) h) := by
  refine icall_of_iwp (fun _ => 0) Tryz.func35 rfl (by kernel_rfl) (Nat.le_of_ble_eq_true rfl) ?_
  rw [Tryz.results35]
  simp -implicitDefEqProofs [go_sem]
  refine (wmay_c w h hs).mono ?_
  rintro e h' ⟨rfl, he⟩
  rw [he]
  cases hm : w.may with
  | false =>
    simp -implicitDefEqProofs [go_sem]
    exact ⟨h, Sub.refl _, by rw [Wn.shown, if_neg (by rw [hm]; simp)]; rfl, rfl⟩
  | true =>
    cases hz : w.z with
    | true =>
      simp -implicitDefEqProofs [go_sem, hz]
      exact ⟨h, Sub.refl _, by rw [Wn.shown, if_pos hm, if_pos hz]; rfl, rfl⟩
    | false =>
      simp -implicitDefEqProofs [go_sem, hz]
      refine (list_c w.tree h hs).mono ?_
      rintro e h' ⟨rfl, he⟩
      rw [he]
      simp -implicitDefEqProofs [go_sem]
      exact ⟨h, Sub.refl _, by rw [Wn.shown, if_pos hm, if_neg (by rw [hz]; simp)], rfl⟩
end Go.Proofs
