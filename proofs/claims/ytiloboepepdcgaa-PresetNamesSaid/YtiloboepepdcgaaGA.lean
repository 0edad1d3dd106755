/- This text is a part of the proofs of the statements of this seat: the ideal states and their rules, or what one of the functions that the statements reach comes to. Conditions: none beyond those that each theorem names. -/
import Derived.Test.YtiloboepepdcgaaF15
import Derived.Test.YtiloboepepdcgaaB0
set_option linter.unusedVariables false
set_option linter.unusedSimpArgs false
set_option pp.deepTerms false
set_option pp.maxSteps 400
namespace Go.Proofs
open Go.Idl

/-! how many rows and columns there are -/
def gridL : Nat → Nat → Nat → Nat → Nat × Nat
  | 0, r, c, _ => (r, c)
  | f + 1, r, c, n => if r * c < n then gridL f (r + 1) (if (r + 1) * c < n then c + 1 else c) n else (r, c)
structure GI (n f r c : Nat) : Prop where
  fu : n ≤ r * c + f
  gr : gridL f r c n = gridL 4096 1 1 n
  sq : r = c ∨ (r = c + 1 ∧ n ≤ r * c)
  c1 : 1 ≤ c
  c2 : c ≤ 64
  la : r = 1 ∨ (r - 1) * c < n ∨ r * (c - 1) < n
theorem GI.init {n : Nat} (hn : n ≤ 4096) : GI n 4096 1 1 := ⟨by omega, rfl, .inl rfl, by omega, by omega, .inl rfl⟩
theorem GI.next {n f r c : Nat} (h : GI n f r c) (hn : n ≤ 4096) (hlt : r * c < n) : r = c ∧ c ≤ 63 ∧ ∃ f', f = f' + 1 ∧ GI n f' (r + 1) (if (r + 1) * c < n then c + 1 else c) := by
  obtain ⟨h1, h2, h3, h4, h5, h6⟩ := h
  have hrc : r = c := by
    rcases h3 with h | ⟨_, h⟩
    · exact h
    · omega
  subst hrc
  have hc : r ≤ 63 := by
    apply Classical.byContradiction
    intro hh
    have : 64 * 64 ≤ r * r := Nat.mul_le_mul (by omega) (by omega)
    omega
  cases f with
  | zero => omega
  | succ f =>
    refine ⟨rfl, hc, f, rfl, ?_⟩
    have e1 : (r + 1) * r = r * r + r := Nat.succ_mul r r
    refine ⟨?_, ?_, ?_, ?_, ?_, ?_⟩
    · split
      · have : (r + 1) * (r + 1) = (r + 1) * r + (r + 1) := Nat.mul_succ (r+1) r
        omega
      · omega
    · rw [← h2, gridL, if_pos hlt]
    · split
      · exact .inl rfl
      · rename_i hh; exact .inr ⟨rfl, by omega⟩
    · split <;> omega
    · split <;> omega
    · split
      · rename_i hh; exact .inr (.inr (by simpa using hh))
      · exact .inr (.inl (by simpa using hlt))
def gridV (n : Int) : IV := if n < 1 ∨ n > 4096 then .tup [.int .i64 0, .int .i64 0] else .tup [.int .i64 ((gridL 4096 1 1 n.toNat).1 : Nat), .int .i64 ((gridL 4096 1 1 n.toNat).2 : Nat)]
theorem GI.done {n f r c : Nat} (h : GI n f r c) (hge : ¬ r * c < n) : gridL 4096 1 1 n = (r, c) := by
  rw [← h.gr]
  cases f with
  | zero => rfl
  | succ f => rw [gridL, if_neg hge]

set_option maxRecDepth 20000 in
theorem grid_c (n : Int) (h : Heap) : ICall Try.prog 45 [.int .i64 n] h (retP (gridV n) h) := by
  refine icall_of_iwp (fun _ => 0) Try.func45 rfl (by kernel_rfl) (Nat.le_of_ble_eq_true rfl) ?_
  rw [Try.results45]
  simp -implicitDefEqProofs [go_sem]
  refine cK_dec (fun h1 => ?_) (fun h1 => ?_)
  · simp -implicitDefEqProofs [go_sem]
    exact ⟨_, Sub.refl _, by rw [gridV, if_pos (.inl h1)], rfl⟩
  simp -implicitDefEqProofs [go_sem]
  refine cK_dec (fun h2 => ?_) (fun h2 => ?_)
  · simp -implicitDefEqProofs [go_sem]
    exact ⟨_, Sub.refl _, by rw [gridV, if_pos (.inr h2)], rfl⟩
  obtain ⟨m, rfl⟩ : ∃ m : Nat, n = m := ⟨n.toNat, by omega⟩
  have hm : m ≤ 4096 := by omega
  simp -implicitDefEqProofs [go_sem]
  refine iwp_loopF (rng [4,5] 12 26) nom (fun s => ∃ f r c : Nat, s.t 4 = .int .i64 r ∧ s.t 5 = .int .i64 c ∧ s.h = h ∧ GI m f r c) (fun s => 100 - tn (s.t 4)) ?_ ?_
  · exact ⟨4096, 1, 1, by simp -implicitDefEqProofs [go_sem], by simp -implicitDefEqProofs [go_sem], by simp -implicitDefEqProofs [go_sem], GI.init hm⟩
  rintro J s hJ hf ⟨f, r, c, h4, h5, hh, hG⟩
  have hr : r ≤ 65 := by rcases hG.sq with h | ⟨h, _⟩ <;> have := hG.c2 <;> omega
  have hmul : r * c ≤ 65 * 64 := Nat.mul_le_mul hr hG.c2
  have hmw : IntKind.i64.wrap ((r : Int) * (c : Int)) = ((r * c : Nat) : Int) := by
    have : (r : Int) * (c : Int) = ((r * c : Nat) : Int) := by simp
    rw [this, wrap_in (by omega)]
  simp -implicitDefEqProofs [go_sem, h4, h5, hh, hf.t, hf.m, hmw]
  refine cK_dec (fun hlt => ?_) (fun hge => ?_)
  · obtain ⟨hrc, hc63, f', rfl, hG'⟩ := hG.next hm (by omega)
    have hw := wrap_succ (i := r) (by omega)
    have hwc := wrap_succ (i := c) (by omega)
    have hmul2 : (r + 1) * c ≤ 65 * 64 := Nat.mul_le_mul (by omega) hG.c2
    obtain ⟨q, hq⟩ : ∃ q, q = (r + 1) * c := ⟨_, rfl⟩
    have hmw2 : IntKind.i64.wrap (((r : Int) + 1) * (c : Int)) = (q : Int) := by
      have : ((r : Int) + 1) * (c : Int) = (q : Int) := by rw [hq]; simp
      rw [this, wrap_in (by omega)]
    rw [← hq] at hG'
    simp -implicitDefEqProofs [go_sem, h4, h5, hh, hf.t, hf.m, hmw, hw, hmw2]
    refine cK_dec (fun hl2 => ?_) (fun hl2 => ?_)
    · rw [if_pos (by omega)] at hG'
      simp -implicitDefEqProofs [go_sem, h4, h5, hh, hf.t, hf.m, hf, hmw, hw, hwc, hmw2]
      exact hJ _ ⟨f', r + 1, c + 1, by simp -implicitDefEqProofs [go_sem, hw], by simp -implicitDefEqProofs [go_sem, hwc], by simp -implicitDefEqProofs [go_sem, hh], hG'⟩ (by simp [go_sem, h4, hw]; omega)
    · rw [if_neg (by omega)] at hG'
      simp -implicitDefEqProofs [go_sem, h4, h5, hh, hf.t, hf.m, hf, hmw, hw, hwc, hmw2]
      exact hJ _ ⟨f', r + 1, c, by simp -implicitDefEqProofs [go_sem, hw], by simp -implicitDefEqProofs [go_sem, h5], by simp -implicitDefEqProofs [go_sem, hh], hG'⟩ (by simp [go_sem, h4, hw]; omega)
  · simp -implicitDefEqProofs [go_sem, h4, h5, hh, hf.t, hf.m, hmw]
    have hd := hG.done (by omega)
    exact ⟨_, Sub.refl _, by rw [gridV, if_neg (by omega)]; simp [hd], rfl⟩
set_option maxRecDepth 20000 in
theorem rgrid_c (n : Int) (h : Heap) : ICall Try.prog 46 [.int .i64 n] h (retP (gridV n) h) := by
  refine icall_of_iwp (fun _ => 0) Try.func46 rfl (by kernel_rfl) (Nat.le_of_ble_eq_true rfl) ?_
  rw [Try.results46]
  simp -implicitDefEqProofs [go_sem]
  refine cK_dec (fun h1 => ?_) (fun h1 => ?_)
  · simp -implicitDefEqProofs [go_sem]
    exact ⟨_, Sub.refl _, by rw [gridV, if_pos (.inl h1)], rfl⟩
  simp -implicitDefEqProofs [go_sem]
  refine cK_dec (fun h2 => ?_) (fun h2 => ?_)
  · simp -implicitDefEqProofs [go_sem]
    exact ⟨_, Sub.refl _, by rw [gridV, if_pos (.inr h2)], rfl⟩
  obtain ⟨m, rfl⟩ : ∃ m : Nat, n = m := ⟨n.toNat, by omega⟩
  have hm : m ≤ 4096 := by omega
  simp -implicitDefEqProofs [go_sem]
  refine iwp_loopF (rng [4,5] 12 28) nom (fun s => ∃ f r c : Nat, s.t 4 = .int .i64 r ∧ s.t 5 = .int .i64 c ∧ s.h = h ∧ GI m f r c) (fun s => 100 - tn (s.t 4)) ?_ ?_
  · exact ⟨4096, 1, 1, by simp -implicitDefEqProofs [go_sem], by simp -implicitDefEqProofs [go_sem], by simp -implicitDefEqProofs [go_sem], GI.init hm⟩
  rintro J s hJ hf ⟨f, r, c, h4, h5, hh, hG⟩
  have hr : r ≤ 65 := by rcases hG.sq with h | ⟨h, _⟩ <;> have := hG.c2 <;> omega
  have hmul : r * c ≤ 65 * 64 := Nat.mul_le_mul hr hG.c2
  have hmw : IntKind.i64.wrap ((r : Int) * (c : Int)) = ((r * c : Nat) : Int) := by
    have : (r : Int) * (c : Int) = ((r * c : Nat) : Int) := by simp
    rw [this, wrap_in (by omega)]
  simp -implicitDefEqProofs [go_sem, h4, h5, hh, hf.t, hf.m, hmw]
  refine cK_dec (fun hge => ?_) (fun hlt => ?_)
  · simp -implicitDefEqProofs [go_sem, h4, h5, hh, hf.t, hf.m, hmw]
    have hd := hG.done (by omega)
    exact ⟨_, Sub.refl _, by rw [gridV, if_neg (by omega)]; simp [hd], rfl⟩
  · obtain ⟨hrc, hc63, f', rfl, hG'⟩ := hG.next hm (by omega)
    have hw := wrap_succ (i := r) (by omega)
    have hwc := wrap_succ (i := c) (by omega)
    have hmul2 : (r + 1) * c ≤ 65 * 64 := Nat.mul_le_mul (by omega) hG.c2
    obtain ⟨q, hq⟩ : ∃ q, q = (r + 1) * c := ⟨_, rfl⟩
    have hmw2 : IntKind.i64.wrap (((r : Int) + 1) * (c : Int)) = (q : Int) := by
      have : ((r : Int) + 1) * (c : Int) = (q : Int) := by rw [hq]; simp
      rw [this, wrap_in (by omega)]
    rw [← hq] at hG'
    simp -implicitDefEqProofs [go_sem, h4, h5, hh, hf.t, hf.m, hmw, hw, hmw2]
    refine cK_dec (fun hl2 => ?_) (fun hl2 => ?_)
    · rw [if_pos (by omega)] at hG'
      simp -implicitDefEqProofs [go_sem, h4, h5, hh, hf.t, hf.m, hf, hmw, hw, hwc, hmw2]
      exact hJ _ ⟨f', r + 1, c + 1, by simp -implicitDefEqProofs [go_sem, hw], by simp -implicitDefEqProofs [go_sem, hwc], by simp -implicitDefEqProofs [go_sem, hh], hG'⟩ (by simp [go_sem, h4, hw]; omega)
    · rw [if_neg (by omega)] at hG'
      simp -implicitDefEqProofs [go_sem, h4, h5, hh, hf.t, hf.m, hf, hmw, hw, hwc, hmw2]
      exact hJ _ ⟨f', r + 1, c, by simp -implicitDefEqProofs [go_sem, hw], by simp -implicitDefEqProofs [go_sem, h5], by simp -implicitDefEqProofs [go_sem, hh], hG'⟩ (by simp [go_sem, h4, hw]; omega)
end Go.Proofs

set_option linter.unusedVariables false
set_option linter.unusedSimpArgs false
set_option pp.deepTerms false
set_option pp.maxSteps 400
namespace Go.Proofs
open Go.Idl

/-! names -/
def strRow (s : ByteArray) : List IV := [.str s]
theorem strs_uni (l : List ByteArray) : uni 1 (l.map strRow) = true := by simp [uni, strRow]
attribute [go_sem high] strs_uni
@[go_sem] theorem strRow_len (s : ByteArray) : (strRow s).length = 1 := rfl
def nm (l : List UInt8) : ByteArray := ⟨l.toArray⟩
def presetNames : List ByteArray := [nm [101, 118, 101, 110, 45, 104, 111, 114, 105, 122, 111, 110, 116, 97, 108], nm [101, 118, 101, 110, 45, 118, 101, 114, 116, 105, 99, 97, 108],
  nm [109, 97, 105, 110, 45, 104, 111, 114, 105, 122, 111, 110, 116, 97, 108], nm [109, 97, 105, 110, 45, 118, 101, 114, 116, 105, 99, 97, 108], nm [116, 105, 108, 101, 100]]
theorem names_c (h : Heap) : ICall Try.prog 48 [] h (retP (.list .plain (presetNames.map strRow)) h) := by
  refine icall_of_iwp (fun _ => 0) Try.func48 rfl (by kernel_rfl) (Nat.le_of_ble_eq_true rfl) ?_
  rw [Try.results48]
  simp -implicitDefEqProofs [go_sem]
  exact ⟨_, Sub.refl _, rfl, rfl⟩
theorem rnames_c (h : Heap) : ICall Try.prog 49 [] h (retP (.list .plain (presetNames.map strRow)) h) := by
  refine icall_of_iwp (fun _ => 0) Try.func49 rfl (by kernel_rfl) (Nat.le_of_ble_eq_true rfl) ?_
  rw [Try.results49]
  simp -implicitDefEqProofs [go_sem]
  exact ⟨_, Sub.refl _, rfl, rfl⟩
theorem bstr_eq (x y : ByteArray) : (x.toList == y.toList) = decide (x = y) := by
  rw [Bool.eq_iff_iff]
  simp only [beq_iff_eq, decide_eq_true_eq]
  exact ⟨fun h => by rw [ByteArray.toList_eq, ByteArray.toList_eq] at h; exact ByteArray.ext (Array.toList_inj.1 h), fun h => by rw [h]⟩
def idxS (l : List ByteArray) (s : ByteArray) : Int := match l.findIdx? (fun x => decide (s = x)) with | some i => (i : Int) | none => -1
set_option maxRecDepth 20000 in
theorem indexS_c (l : List ByteArray) (x : ByteArray) (hl : l.length < 100000000) (h : Heap) : ICall Try.prog 79 [.list .plain (l.map strRow), .str x] h (retP (.int .i64 (idxS l x)) h) := by
  refine icall_of_iwp (fun _ => 0) Try.func79 rfl (by kernel_rfl) (Nat.le_of_ble_eq_true rfl) ?_
  rw [Try.results79]
  simp -implicitDefEqProofs [go_sem]
  refine iwp_loopF (rng [4,5] 8 19) nom (fun s => ∃ i : Nat, i ≤ l.length ∧ s.t 8 = .int .i64 i ∧ s.h = h ∧ ∀ j y, j < i → l[j]? = some y → ¬ x = y) (fun s => l.length - tn (s.t 8)) ?_ ?_
  · exact ⟨0, Nat.zero_le _, by simp -implicitDefEqProofs [go_sem], by simp -implicitDefEqProofs [go_sem], fun j y hj => by omega⟩
  rintro J s hJ hf ⟨i, hi, h8, hh, hpre⟩
  simp -implicitDefEqProofs [go_sem, h8, hh, hf.t, hf.m]
  refine cK_dec (fun hlt => ?_) (fun hlt => ?_)
  · have hlt' : i < l.length := by omega
    have hw := wrap_succ (i := i) (by omega)
    have hx : (l.map strRow)[i]? = some [.str l[i]] := by simp [hlt', strRow]
    simp -implicitDefEqProofs [go_sem, h8, hh, hf.t, hf.m, hlt', hx, strRow, bstr_eq]
    refine cK_dec (fun hq => ?_) (fun hq => ?_)
    · simp -implicitDefEqProofs [go_sem, h8, hh, hf.t, hf.m]
      have hfi : l.findIdx? (fun y => decide (x = y)) = some i := by
        rw [List.findIdx?_eq_some_iff_getElem]
        refine ⟨hlt', by simpa using hq, fun j hj => ?_⟩
        simpa using hpre j _ hj (List.getElem?_eq_getElem (by omega))
      exact ⟨_, Sub.refl _, by simp [idxS, hfi], rfl⟩
    · simp -implicitDefEqProofs [go_sem, h8, hh, hf.t, hf.m, hf, hw]
      refine hJ _ ⟨i + 1, by omega, by simp -implicitDefEqProofs [go_sem, hw], by simp -implicitDefEqProofs [go_sem, hh], fun j y hj hy => ?_⟩ (by simp [go_sem, h8, hw]; omega)
      by_cases hji : j < i
      · exact hpre j y hji hy
      · obtain rfl : j = i := by omega
        rw [List.getElem?_eq_getElem hlt'] at hy; cases hy; exact hq
  · simp -implicitDefEqProofs [go_sem, h8, hh, hf.t, hf.m]
    have hno : l.findIdx? (fun y => decide (x = y)) = none := by
      rw [List.findIdx?_eq_none_iff]
      intro y hy
      obtain ⟨j, hj, rfl⟩ := List.getElem_of_mem hy
      simpa using hpre j _ (by omega) (List.getElem?_eq_getElem hj)
    exact ⟨_, Sub.refl _, by simp [idxS, hno], rfl⟩
theorem named_c (x : ByteArray) (h : Heap) : ICall Try.prog 50 [.str x] h (retP (.int .u8 (idxS presetNames x + 1)) h) := by
  refine icall_of_iwp (fun _ => 0) Try.func50 rfl (by kernel_rfl) (Nat.le_of_ble_eq_true rfl) ?_
  rw [Try.results50]
  simp -implicitDefEqProofs [go_sem]
  refine (names_c h).mono ?_
  rintro e h' ⟨rfl, he⟩
  rw [he]
  simp -implicitDefEqProofs [go_sem]
  refine (indexS_c presetNames x (by decide) h).mono ?_
  rintro e h' ⟨rfl, he⟩
  rw [he]
  simp -implicitDefEqProofs [go_sem]
  have hb : -1 ≤ idxS presetNames x ∧ idxS presetNames x ≤ 4 := by
    unfold idxS
    split
    · rename_i i hi
      obtain ⟨hl, _⟩ := List.findIdx?_eq_some_iff_getElem.1 hi
      have : presetNames.length = 5 := rfl
      omega
    · omega
  generalize idxS presetNames x = k at *
  refine ⟨_, Sub.refl _, ?_, rfl⟩
  have hk : k = -1 ∨ k = 0 ∨ k = 1 ∨ k = 2 ∨ k = 3 ∨ k = 4 := by omega
  rcases hk with rfl | rfl | rfl | rfl | rfl | rfl <;> rfl
end Go.Proofs

set_option linter.unusedVariables false
set_option linter.unusedSimpArgs false
set_option pp.deepTerms false
set_option pp.maxSteps 400
namespace Go.Proofs
open Go.Idl

/-! even sizes -/
def shareI (by_ n : Int) (i : Nat) : Int := by_.tdiv n + if (i : Int) < by_.tmod n then 1 else 0
def sizesBad (s n : Int) : Prop := n < 1 ∨ n > 20000 ∨ s < 2 * n - 1 ∨ s > 2147483647
def sizesL (s n : Int) : List Int := (List.range n.toNat).map (shareI (s - (n - 1)) n)
theorem intR_uni (l : List Int) : uni 1 (l.map intRow) = true := by simp [uni, intRow]
open Classical in
noncomputable def sizesV (s n : Int) : IV := if sizesBad s n then .tup [.list .plain [], .bool false] else .tup [.list .plain ((sizesL s n).map intRow), .bool true]
set_option maxRecDepth 20000 in
set_option maxHeartbeats 4000000 in
theorem rsizes_c (s n : Int) (hs : -9223372036854775808 ≤ s ∧ s ≤ 9223372036854775807) (h : Heap) : ICall Try.prog 99 [.int .i64 s, .int .i64 n] h (retP (sizesV s n) h) := by
  refine icall_of_iwp (fun _ => 0) Try.func99 rfl (by kernel_rfl) (Nat.le_of_ble_eq_true rfl) ?_
  rw [Try.results99]
  simp -implicitDefEqProofs [go_sem]
  refine cK_dec (fun h1 => ?_) (fun h1 => ?_)
  · simp -implicitDefEqProofs [go_sem]
    exact ⟨_, Sub.refl _, by rw [sizesV, if_pos (.inl h1)], rfl⟩
  simp -implicitDefEqProofs [go_sem]
  refine cK_dec (fun h2 => ?_) (fun h2 => ?_)
  · simp -implicitDefEqProofs [go_sem]
    exact ⟨_, Sub.refl _, by rw [sizesV, if_pos (.inr (.inl h2))], rfl⟩
  have w1 : IntKind.i64.wrap (2 * n) = 2 * n := wrap_in (by omega)
  have w2 : IntKind.i64.wrap (2 * n - 1) = 2 * n - 1 := wrap_in (by omega)
  have w3 : IntKind.i64.wrap (n - 1) = n - 1 := wrap_in (by omega)
  simp -implicitDefEqProofs [go_sem, w1, w2]
  refine cK_dec (fun h3 => ?_) (fun h3 => ?_)
  · simp -implicitDefEqProofs [go_sem]
    exact ⟨_, Sub.refl _, by rw [sizesV, if_pos (.inr (.inr (.inl h3)))], rfl⟩
  simp -implicitDefEqProofs [go_sem]
  refine cK_dec (fun h4 => ?_) (fun h4 => ?_)
  · simp -implicitDefEqProofs [go_sem]
    exact ⟨_, Sub.refl _, by rw [sizesV, if_pos (.inr (.inr (.inr h4)))], rfl⟩
  have hok : ¬ sizesBad s n := by unfold sizesBad; omega
  have w4 : IntKind.i64.wrap (s - (n - 1)) = s - (n - 1) := wrap_in (by omega)
  have hn0 : n ≠ 0 := by omega
  obtain ⟨m, rfl⟩ : ∃ m : Nat, n = m := ⟨n.toNat, by omega⟩
  obtain ⟨q, hq⟩ : ∃ q, q = (s - ((m : Int) - 1)).tdiv m := ⟨_, rfl⟩
  obtain ⟨r, hr⟩ : ∃ r, r = (s - ((m : Int) - 1)).tmod m := ⟨_, rfl⟩
  have hq1 : 0 ≤ q ∧ q ≤ 2147483647 := by
    rw [hq, Int.tdiv_eq_ediv_of_nonneg (by omega)]
    refine ⟨Int.ediv_nonneg (by omega) (by omega), ?_⟩
    have := Int.ediv_le_self (a := s - ((m : Int) - 1)) (m : Int) (by omega)
    omega
  have hr1 : 0 ≤ r ∧ r < m := by
    rw [hr, Int.tmod_eq_emod_of_nonneg (by omega)]
    exact ⟨Int.emod_nonneg _ (by omega), Int.emod_lt_of_pos _ (by omega)⟩
  have wq : IntKind.i64.wrap q = q := wrap_in (by omega)
  have wr : IntKind.i64.wrap r = r := wrap_in (by omega)
  have wq1 : IntKind.i64.wrap (q + 1) = q + 1 := wrap_in (by omega)
  have hm0 : m ≠ 0 := by omega
  simp -implicitDefEqProofs [go_sem, w3, w4, hn0, hm0, ← hq, ← hr, wq, wr]
  have hsz : ∀ i, (List.range i).map (shareI (s - ((m : Int) - 1)) m) = (List.range i).map fun (j : Nat) => q + if (j : Int) < r then 1 else 0 := by
    intro i; apply List.map_congr_left; intro j hj; rw [shareI, hq, hr]
  refine iwp_loopF (rng [6,9] 41 58) nom (fun s' => ∃ i : Nat, i ≤ m ∧ s'.t 9 = .int .i64 i ∧ Go.Idl.Own [53, 57] s'.x 3 (s'.t 6) (((List.range i).map fun (j : Nat) => q + if (j : Int) < r then 1 else 0).map intRow) ∧ s'.h = h) (fun s' => m - tn (s'.t 9)) ?_ ?_
  · exact ⟨0, Nat.zero_le _, by simp -implicitDefEqProofs [go_sem], by simp -implicitDefEqProofs [go_sem]; exact Go.Idl.Own.tight, by simp -implicitDefEqProofs [go_sem]⟩
  rintro J s' hJ hf ⟨i, hi, h9, ho, hh⟩
  obtain ⟨tk, h6⟩ := ho.list
  simp -implicitDefEqProofs [go_sem, h9, h6, hh, hf.t, hf.m]
  refine cK_dec (fun hlt => ?_) (fun hge => ?_)
  · have hw := wrap_succ (i := i) (by omega)
    have htk : (List.range (i + 1)).map (fun (j : Nat) => q + if (j : Int) < r then 1 else 0) = (List.range i).map (fun (j : Nat) => q + if (j : Int) < r then 1 else 0) ++ [q + if (i : Int) < r then 1 else 0] := by rw [List.range_succ, List.map_append]; rfl
    rw [h6] at ho
    simp -implicitDefEqProofs [go_sem, h9, h6, hh, hf.t, hf.m]
    refine cK_dec (fun hl2 => ?_) (fun hl2 => ?_)
    · rw [if_pos hl2] at htk
      simp -implicitDefEqProofs [go_sem, h9, h6, hh, hf.t, hf.m, wq1]
      refine aK_own (e := 3) (z := 1) (S := [53, 57]) (rows := ((List.range i).map fun (j : Nat) => q + if (j : Int) < r then 1 else 0).map intRow) (ys := [q + 1].map intRow) (by simpa -implicitDefEqProofs [go_sem] using ho) (by simp) elT_45 elZ_3 (by simp [roomy, byT_3]; omega) (intR_uni _) (intR_uni _) ?_
      intro r2 x2 ho2 _
      simp -implicitDefEqProofs [go_sem, h9, h6, hh, hf.t, hf.m, hf, hw]
      exact hJ _ ⟨i + 1, by omega, by simp -implicitDefEqProofs [go_sem, hw], by rw [htk, List.map_append]; simpa -implicitDefEqProofs [go_sem] using ho2, by simp -implicitDefEqProofs [go_sem, hh]⟩ (by simp [go_sem, h9, hw]; omega)
    · rw [if_neg hl2, Int.add_zero] at htk
      simp -implicitDefEqProofs [go_sem, h9, h6, hh, hf.t, hf.m]
      refine aK_own (e := 3) (z := 1) (S := [53, 57]) (rows := ((List.range i).map fun (j : Nat) => q + if (j : Int) < r then 1 else 0).map intRow) (ys := [q].map intRow) (by simpa -implicitDefEqProofs [go_sem] using ho) (by simp) elT_45 elZ_3 (by simp [roomy, byT_3]; omega) (intR_uni _) (intR_uni _) ?_
      intro r2 x2 ho2 _
      simp -implicitDefEqProofs [go_sem, h9, h6, hh, hf.t, hf.m, hf, hw]
      exact hJ _ ⟨i + 1, by omega, by simp -implicitDefEqProofs [go_sem, hw], by rw [htk, List.map_append]; simpa -implicitDefEqProofs [go_sem] using ho2, by simp -implicitDefEqProofs [go_sem, hh]⟩ (by simp [go_sem, h9, hw]; omega)
  · obtain rfl : i = m := by omega
    simp -implicitDefEqProofs [go_sem, h9, h6, hh, hf.t, hf.m]
    exact ⟨_, Sub.refl _, by rw [sizesV, if_neg hok, sizesL, Int.toNat_natCast, hsz]; simp, rfl⟩
end Go.Proofs

set_option linter.unusedVariables false
set_option linter.unusedSimpArgs false
set_option pp.deepTerms false
set_option pp.maxSteps 400
namespace Go.Proofs
open Go.Idl

/-! shares -/
def partS (by_ : Int) (m i : Nat) : List (List IV) := ((List.range m).map fun j => if j < i then shareI by_ m j else 0).map intRow
theorem partS_len (by_ : Int) (m i : Nat) : (partS by_ m i).length = m := by simp [partS]
theorem partS_get {by_ : Int} {m i j : Nat} (hj : j < m) : (partS by_ m i)[j]? = some [.int .i64 (if j < i then shareI by_ m j else 0)] := by
  simp [partS, hj, intRow]
theorem partS_set {by_ : Int} {m i : Nat} (hi : i < m) : (partS by_ m i).set i [.int .i64 (shareI by_ m i)] = partS by_ m (i + 1) := by
  apply List.ext_getElem?
  intro j
  rw [List.getElem?_set]
  by_cases hj : j < m
  · rw [partS_get hj, partS_get hj]
    by_cases hij : i = j
    · subst hij
      rw [if_pos rfl, if_pos (by rw [partS_len]; exact hi), if_pos (by omega)]
    · rw [if_neg hij]
      by_cases hlt : j < i
      · rw [if_pos hlt, if_pos (by omega)]
      · rw [if_neg hlt, if_neg (by omega)]
  · have e1 : (partS by_ m i)[j]? = none := List.getElem?_eq_none (by rw [partS_len]; omega)
    have e2 : (partS by_ m (i+1))[j]? = none := List.getElem?_eq_none (by rw [partS_len]; omega)
    rw [e1, e2, if_neg (by omega)]
theorem partS_zero (by_ : Int) (m : Nat) : List.replicate m [IV.int .i64 0] = partS by_ m 0 := by
  apply List.ext_getElem?
  intro j
  by_cases hj : j < m
  · rw [partS_get hj, if_neg (by omega)]
    simp [hj]
  · rw [List.getElem?_eq_none (by simp; omega), List.getElem?_eq_none (by rw [partS_len]; omega)]
theorem partS_all (by_ : Int) (m : Nat) : partS by_ m m = ((List.range m).map (shareI by_ m)).map intRow := by
  simp only [partS]
  congr 1
  apply List.map_congr_left
  intro j hj
  rw [if_pos (List.mem_range.1 hj)]

set_option maxRecDepth 20000 in
set_option maxHeartbeats 4000000 in
theorem more_c (by_ : Int) (m : Nat) (hb : 0 ≤ by_ ∧ by_ ≤ 2147483647) (hm : 1 ≤ m ∧ m ≤ 20000) (h : Heap) : ICall Try.prog 167 [.int .i64 by_, .int .i64 m] h (retP (.list .plain (((List.range m).map (shareI by_ m)).map intRow)) h) := by
  have hc : ICall Try.prog 167 [.int .i64 by_, .int .i64 m] h (fun e h' => ∃ b, h b = none ∧ e = .ret (.sl 1 b 0 m m) ∧ h' = upd h b (some (.arr 3 1 (((List.range m).map (shareI by_ m)).map intRow) m))) := by
    refine icall_of_iwp (fun d => if d = 8 then 1 else 0) Try.func167 rfl (by kernel_rfl) (Nat.le_of_ble_eq_true rfl) ?_
    rw [Try.results167]
    simp -implicitDefEqProofs [go_sem]
    refine ⟨by omega, fun b hb => ?_⟩
    have hm0 : m ≠ 0 := by omega
    obtain ⟨q, hq⟩ : ∃ q, q = by_.tdiv m := ⟨_, rfl⟩
    obtain ⟨r, hr⟩ : ∃ r, r = by_.tmod m := ⟨_, rfl⟩
    have hq1 : 0 ≤ q ∧ q ≤ 2147483647 := by
      rw [hq, Int.tdiv_eq_ediv_of_nonneg (by omega)]
      refine ⟨Int.ediv_nonneg (by omega) (by omega), ?_⟩
      have := Int.ediv_le_self (a := by_) (m : Int) (by omega)
      omega
    have hr1 : 0 ≤ r ∧ r < m := by
      rw [hr, Int.tmod_eq_emod_of_nonneg (by omega)]
      exact ⟨Int.emod_nonneg _ (by omega), Int.emod_lt_of_pos _ (by omega)⟩
    have wq : IntKind.i64.wrap q = q := wrap_in (by omega)
    have wr : IntKind.i64.wrap r = r := wrap_in (by omega)
    have wq1 : IntKind.i64.wrap (q + 1) = q + 1 := wrap_in (by omega)
    refine iwp_loopF (rng [6] 11 33) nom (fun s => ∃ i : Nat, i ≤ m ∧ s.t 11 = .int .i64 i ∧ s.h = upd h b (some (.arr 3 1 (partS by_ m i) m))) (fun s => m - tn (s.t 11)) ?_ ?_
    · refine ⟨0, Nat.zero_le _, by simp -implicitDefEqProofs [go_sem], ?_⟩
      rw [← partS_zero]
      simp -implicitDefEqProofs [go_sem]
    rintro J s hJ hf ⟨i, hi, h11, hh⟩
    simp -implicitDefEqProofs [go_sem, h11, hh, hf.t, hf.m]
    refine cK_dec (fun hlt => ?_) (fun hge => ?_)
    · have hlt' : i < m := by omega
      have hw := wrap_succ (i := i) (by omega)
      have hg := partS_get (by_ := by_) (i := i) hlt'
      have hset := partS_set (by_ := by_) hlt'
      have hlen := partS_len by_ m i
      simp -implicitDefEqProofs [go_sem, h11, hh, hf.t, hf.m, hlt', hg, hm0, ← hq, ← hr, wq, wr]
      have hsh : shareI by_ m i = q + if (i : Int) < r then 1 else 0 := by rw [shareI, hq, hr]
      have hg2 : ((partS by_ m i).set i [.int .i64 q])[i]? = some [.int .i64 q] := by rw [List.getElem?_set, if_pos rfl, if_pos (by rw [hlen]; exact hlt')]
      refine cK_dec (fun hl2 => ?_) (fun hl2 => ?_)
      · rw [if_pos hl2] at hsh
        rw [hsh] at hset
        simp -implicitDefEqProofs [go_sem, h11, hh, hf.t, hf.m, hf, hlt', hg, hg2, hlen, hw, wq1]
        refine hJ _ ⟨i + 1, hlt', by simp -implicitDefEqProofs [go_sem, hw], ?_⟩ (by simp [go_sem, h11, hw]; omega)
        rw [← hset]
        funext j
        simp -implicitDefEqProofs [go_sem, hh, List.set_set]
        try (split <;> rfl)
      · rw [if_neg hl2, Int.add_zero] at hsh
        rw [hsh] at hset
        simp -implicitDefEqProofs [go_sem, h11, hh, hf.t, hf.m, hf, hlt', hg, hg2, hlen, hw, wq1]
        refine hJ _ ⟨i + 1, hlt', by simp -implicitDefEqProofs [go_sem, hw], ?_⟩ (by simp [go_sem, h11, hw]; omega)
        rw [← hset]
        funext j
        simp -implicitDefEqProofs [go_sem, hh, List.set_set]
        try (split <;> rfl)
    · simp -implicitDefEqProofs [go_sem, h11, hh, hf.t, hf.m]
      obtain rfl : i = m := by omega
      rw [partS_all]
      exact ⟨_, Sub.refl _, b, hb, rfl, by simp⟩
  refine hc.fz ?_
  rintro e h' ⟨b, hb, rfl, rfl⟩
  refine .inr ⟨_, b, 3, 1, ((List.range m).map (shareI by_ m)).map intRow, m, rfl, upd_same _ _ _, ?_, ?_⟩
  · have hlen : (((List.range m).map (shareI by_ m)).map intRow).length = m := by simp
    simp only [fz3, fz2, fz1, hlen]
    rw [if_pos ⟨trivial, trivial, by omega⟩, List.drop_zero, List.take_of_length_le (by omega)]
  · funext j
    simp only [dropH, upd]
    split
    · rename_i e; rw [e, hb]
    · rfl
end Go.Proofs

set_option linter.unusedVariables false
set_option linter.unusedSimpArgs false
set_option pp.deepTerms false
set_option pp.maxSteps 400
namespace Go.Proofs
open Go.Idl

set_option maxRecDepth 20000 in
set_option maxHeartbeats 4000000 in
theorem sharesZ_c (by_ : Int) (m b : Nat) (hb : 0 ≤ by_ ∧ by_ ≤ 2147483647) (hm : 1 ≤ m ∧ m ≤ 20000) (h : Heap) (hh0 : h b = some (.arr 3 1 (List.replicate m [.int .i64 0]) m)) :
    ICall Try.prog 159 [.int .i64 by_, .sl 1 b 0 m m] h (retP (.tup [.list .plain (((List.range m).map (shareI by_ m)).map intRow), .bool true]) h) := by
  refine icall_of_iwp (fun d => 0) Try.func159 rfl (by kernel_rfl) (Nat.le_of_ble_eq_true rfl) ?_
  rw [Try.results159]
  simp -implicitDefEqProofs [go_sem]
  refine iwp_loopF (rng [6,8] 11 26) nom (fun s => ∃ i : Nat, i ≤ m ∧ s.t 11 = .int .i64 i ∧ s.t 6 = .int .i64 0 ∧ s.h = h) (fun s => m - tn (s.t 11)) ?_ ?_
  · exact ⟨0, Nat.zero_le _, by simp -implicitDefEqProofs [go_sem], by simp -implicitDefEqProofs [go_sem], by simp -implicitDefEqProofs [go_sem]⟩
  rintro J s hJ hf ⟨i, hi, h11, h6, hh⟩
  simp -implicitDefEqProofs [go_sem, h11, h6, hh, hf.t, hf.m]
  refine cK_dec (fun hlt => ?_) (fun hge => ?_)
  · have hlt' : i < m := by omega
    have hw := wrap_succ (i := i) (by omega)
    have hw0 : IntKind.i64.wrap 0 = 0 := by decide
    have hg : (List.replicate m [IV.int .i64 0])[i]? = some [.int .i64 0] := by simp [hlt']
    simp -implicitDefEqProofs [go_sem, h11, h6, hh, hh0, hf.t, hf.m, hf, hlt', hg, hw0, hw]
    simp -implicitDefEqProofs [go_sem, pop, h11, h6, hh, hh0, hf.t, hf.m, hf, hlt', hg, hw0, hw]
    exact hJ _ ⟨i + 1, hlt', by simp -implicitDefEqProofs [go_sem, hw], by simp -implicitDefEqProofs [go_sem]; decide, by simp -implicitDefEqProofs [go_sem, hh]⟩ (by simp [go_sem, h11, hw]; omega)
  · have hm0 : ((m : Int) == 0) = false := by simp; omega
    have hw0 : IntKind.i64.wrap (-0) = 0 := by decide
    have hw00 : IntKind.i64.wrap 0 = 0 := by decide
    have hn1 : ¬ by_ < 0 := by omega
    have hn2 : ¬ 2147483647 < by_ := by omega
    have hn3 : by_ ≥ 0 := hb.1
    simp -implicitDefEqProofs [go_sem, h11, h6, hh, hf.t, hf.m, hm0, hw0, hw00, hn1, hn2, hn3]
    refine (more_c by_ m hb hm h).mono ?_
    rintro e h' ⟨rfl, he⟩
    rw [he]
    simp -implicitDefEqProofs [go_sem, h11, h6, hh, hf.t, hf.m]
    exact ⟨_, Sub.refl _, by simp, rfl⟩
set_option maxRecDepth 20000 in
set_option maxHeartbeats 4000000 in
theorem spSizes_c (s n : Int) (hs : -9223372036854775808 ≤ s ∧ s ≤ 9223372036854775807) (h : Heap) : ICall Try.prog 146 [.int .i64 s, .int .i64 n] h (retP (sizesV s n) h) := by
  refine icall_of_iwp (fun _ => 0) Try.func146 rfl (by kernel_rfl) (Nat.le_of_ble_eq_true rfl) ?_
  rw [Try.results146]
  simp -implicitDefEqProofs [go_sem]
  refine cK_dec (fun h1 => ?_) (fun h1 => ?_)
  · simp -implicitDefEqProofs [go_sem]
    exact ⟨_, Sub.refl _, by rw [sizesV, if_pos (.inl h1)], rfl⟩
  simp -implicitDefEqProofs [go_sem]
  refine cK_dec (fun h2 => ?_) (fun h2 => ?_)
  · simp -implicitDefEqProofs [go_sem]
    exact ⟨_, Sub.refl _, by rw [sizesV, if_pos (.inr (.inl h2))], rfl⟩
  have w1 : IntKind.i64.wrap (2 * n) = 2 * n := wrap_in (by omega)
  have w2 : IntKind.i64.wrap (2 * n - 1) = 2 * n - 1 := wrap_in (by omega)
  simp -implicitDefEqProofs [go_sem, w1, w2]
  refine cK_dec (fun h3 => ?_) (fun h3 => ?_)
  · simp -implicitDefEqProofs [go_sem]
    exact ⟨_, Sub.refl _, by rw [sizesV, if_pos (.inr (.inr (.inl h3)))], rfl⟩
  simp -implicitDefEqProofs [go_sem]
  refine cK_dec (fun h4 => ?_) (fun h4 => ?_)
  · simp -implicitDefEqProofs [go_sem]
    exact ⟨_, Sub.refl _, by rw [sizesV, if_pos (.inr (.inr (.inr h4)))], rfl⟩
  have hok : ¬ sizesBad s n := by unfold sizesBad; omega
  obtain ⟨m, rfl⟩ : ∃ m : Nat, n = m := ⟨n.toNat, by omega⟩
  have w3 : IntKind.i64.wrap (s - (m : Int)) = s - m := wrap_in (by omega)
  have w4 : IntKind.i64.wrap (s - (m : Int) + 1) = s - m + 1 := wrap_in (by omega)
  have hm1 : (m : Int) ≤ 1000000000 := by omega
  have hm2 : m ≤ 1000000000 := by omega
  simp -implicitDefEqProofs [go_sem, w3, w4, hm1]
  intro b hb
  refine (sharesZ_c (s - (m : Int) + 1) m b (by omega) (by omega) _ (upd_same _ _ _)).mono ?_
  rintro e h' ⟨rfl, he⟩
  rw [he]
  simp -implicitDefEqProofs [go_sem]
  have e1 : s - (m : Int) + 1 = s - ((m : Int) - 1) := by omega
  exact ⟨h, (Sub.refl h).upd hb _, by rw [sizesV, if_neg hok, sizesL, Int.toNat_natCast, e1]; simp, rfl⟩
end Go.Proofs

set_option linter.unusedVariables false
set_option linter.unusedSimpArgs false
set_option pp.deepTerms false
set_option pp.maxSteps 400
namespace Go.Proofs
open Go.Idl

def rsz (w hh : Int) (axis : Int) : Int := if axis = 1 then w else if axis = 2 then hh else 0
theorem size08_c (x y w hh axis : Int) (h : Heap) : ICall Try.prog 100 [.agg [.int .i64 x, .int .i64 y, .int .i64 w, .int .i64 hh], .int .u8 axis] h (retP (.int .i64 (rsz w hh axis)) h) := by
  refine icall_of_iwp (fun _ => 0) Try.func100 rfl (by kernel_rfl) (Nat.le_of_ble_eq_true rfl) ?_
  rw [Try.results100]
  simp -implicitDefEqProofs [go_sem]
  refine cK_beq (fun h1 => ?_) (fun h1 => ?_)
  · simp -implicitDefEqProofs [go_sem]
    exact ⟨_, Sub.refl _, by rw [rsz, if_pos h1], rfl⟩
  simp -implicitDefEqProofs [go_sem]
  refine cK_beq (fun h2 => ?_) (fun h2 => ?_)
  · simp -implicitDefEqProofs [go_sem]
    exact ⟨_, Sub.refl _, by rw [rsz, if_neg h1, if_pos h2], rfl⟩
  simp -implicitDefEqProofs [go_sem]
  exact ⟨_, Sub.refl _, by rw [rsz, if_neg h1, if_neg h2], rfl⟩
end Go.Proofs

set_option linter.unusedVariables false
set_option linter.unusedSimpArgs false
namespace Go.Proofs
open Go.Idl

/-- what the law PresetGrids asks of the rows and columns -/
theorem GI.ends {n : Nat} (hn : n ≤ 4096) : ∀ (f r c : Nat), GI n f r c → ∃ f' r' c', GI n f' r' c' ∧ ¬ r' * c' < n := by
  intro f
  induction f with
  | zero => intro r c h; exact ⟨0, r, c, h, by have := h.fu; omega⟩
  | succ f ih =>
    intro r c h
    by_cases hlt : r * c < n
    · obtain ⟨_, _, f', hf, h'⟩ := h.next hn hlt
      have e : f = f' := by omega
      subst e
      exact ih _ _ h'
    · exact ⟨f + 1, r, c, h, hlt⟩
theorem grid_facts {n : Nat} (hn : n ≤ 4096) : ∃ r c, gridL 4096 1 1 n = (r, c) ∧ n ≤ r * c ∧ c ≤ r ∧ r ≤ c + 1 ∧ 1 ≤ c ∧ c ≤ 64 ∧ (r = 1 ∨ (r - 1) * c < n ∨ r * (c - 1) < n) := by
  obtain ⟨f, r, c, h, hge⟩ := GI.ends hn 4096 1 1 (GI.init hn)
  refine ⟨r, c, h.done hge, by omega, ?_, ?_, h.c1, h.c2, h.la⟩
  · rcases h.sq with h | ⟨h, _⟩ <;> omega
  · rcases h.sq with h | ⟨h, _⟩ <;> omega
end Go.Proofs
