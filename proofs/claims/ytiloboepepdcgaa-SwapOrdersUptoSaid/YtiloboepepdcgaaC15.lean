/- This text is a part of the proofs of the statements of this seat: the ideal states and their rules, or what one of the functions that the statements reach comes to. Conditions: none beyond those that each theorem names. -/
import Derived.Test.YtiloboepepdcgaaC14
import Derived.Test.YtiloboepepdcgaaIdl8
set_option linter.unusedVariables false
set_option linter.unusedSimpArgs false
set_option pp.deepTerms false
set_option pp.maxSteps 400
namespace Go.Proofs
open Go.Idl

def turnR (r : Rct) (ax : Int) : Rct := if ax = 2 then ⟨r.y, r.x, r.h, r.w⟩ else if ax = 1 then r else ⟨0, 0, 0, 0⟩
def turnB (ax : Int) : Bool := decide (ax = 1 ∨ ax = 2)

@[go_sem] theorem Rct.zero_row : [IV.int .i64 0, IV.int .i64 0, IV.int .i64 0, IV.int .i64 0].length = 4 := rfl
theorem turned_c (r : Rct) (ax : Int) (h : Heap) : ICall Try.prog 160 [.agg r.row, .int .u8 ax] h (retP (.tup [.agg (turnR r ax).row, .bool (turnB ax)]) h) := by
  refine icall_of_iwp (fun _ => 0) Try.func160 rfl (by kernel_rfl) (Nat.le_of_ble_eq_true rfl) ?_
  rw [Try.results160]
  simp -implicitDefEqProofs [go_sem]
  refine cK_beq (fun k1 => ?_) (fun k1 => ?_)
  · simp -implicitDefEqProofs [go_sem]
    exact ⟨h, Sub.refl _, by rw [turnR, if_pos k1, turnB, k1]; rfl, rfl⟩
  · simp -implicitDefEqProofs [go_sem]
    refine cK_beq (fun k2 => ?_) (fun k2 => ?_)
    · simp -implicitDefEqProofs [go_sem]
      exact ⟨h, Sub.refl _, by rw [turnR, if_neg k1, if_pos k2, turnB, k2]; rfl, rfl⟩
    · simp -implicitDefEqProofs [go_sem]
      exact ⟨h, Sub.refl _, by rw [turnR, if_neg k1, if_neg k2, turnB, decide_eq_false (by omega)]; rfl, rfl⟩

set_option maxRecDepth 20000 in
set_option maxHeartbeats 4000000 in
theorem rCut_c (r : Rct) (ax : Int) (l : List Int) (h : Heap) (hl : l.length < 100000000000) : ICall Try.prog 151 [.agg r.row, .int .u8 ax, .list .plain (l.map intRow)] h (retP (cutV (cutS r ax l)) h) := by
  refine icall_of_iwp (fun _ => 0) Try.func151 rfl (by kernel_rfl) (Nat.le_of_ble_eq_true rfl) ?_
  rw [Try.results151]
  simp -implicitDefEqProofs [go_sem]
  refine (turned_c r ax h).mono ?_
  rintro e h' ⟨rfl, rfl⟩
  simp -implicitDefEqProofs [go_sem]
  refine cK_any (fun hm => ?_) (fun hm => ?_) <;> simp -implicitDefEqProofs [go_sem]
  · exact ⟨h', Sub.refl _, by rw [cutS, if_neg (by simp [turnB] at hm; omega)]; rfl, rfl⟩
  have hax : ax = 1 ∨ ax = 2 := by simp [turnB] at hm; omega
  refine (rmay_c r h').mono ?_
  rintro e h'' ⟨rfl, rfl⟩
  simp -implicitDefEqProofs [go_sem]
  refine cK_any (fun hm2 => ?_) (fun hm2 => ?_) <;> simp -implicitDefEqProofs [go_sem]
  · exact ⟨h'', Sub.refl _, by rw [cutS, if_neg (by simp at hm2; simp [hm2])]; rfl, rfl⟩
  refine cK_beq (fun h3 => ?_) (fun h3 => ?_) <;> simp -implicitDefEqProofs [go_sem]
  · exact ⟨h'', Sub.refl _, by rw [cutS, if_neg (by intro h; apply h.2.2.2; apply List.eq_nil_of_length_eq_zero; omega)]; rfl, rfl⟩
  have hm' : r.may = true := by simpa using hm2
  have hmb := hm'
  simp only [Rct.may, decide_eq_true_eq] at hmb
  have hne : l ≠ [] := fun e => h3 (by simp [e])
  clear hm hm2
  rcases hax with rfl | rfl
  · have hcs : cutS r 1 l = match cutF true r l with | some (off, ps, ls) => if off = cutW true r then some (ps, ls) else none | none => none := by
      rw [cutS, if_pos ⟨hm', by omega, by omega, hne⟩]; rfl
    have htr : turnR r 1 = r := rfl
    simp -implicitDefEqProofs [go_sem, htr]
    refine iwp_loopF (rng [6,7,8,11,12,13,14,15,16,17,18,19] 42 98) (fun k => k == 16 || k == 18) (fun s => ∃ i off ps ls, i ≤ l.length ∧ s.t 42 = .int .i64 i ∧ Own [94] s.x 65 (s.t 11) (ps.map Rct.row) ∧ Own [63] s.x 65 (s.t 12) (ls.map Rct.row) ∧ s.t 13 = .int .i64 (r.x + off) ∧ cutF true r (l.take i) = some (off, ps, ls) ∧ s.h = h'')
       (fun s => l.length - tn (s.t 42)) ?_ ?_
    · exact ⟨0, 0, [], [], by simp, by simp -implicitDefEqProofs [go_sem], by simp -implicitDefEqProofs [go_sem, Own.tight], by simp -implicitDefEqProofs [go_sem, Own.tight], by simp -implicitDefEqProofs [go_sem], rfl, by simp -implicitDefEqProofs [go_sem]⟩
    · rintro J s hJ hf ⟨i, off, ps, ls, hi, h42, ho1, ho2, h13, hF, hh⟩
      obtain ⟨tk1, h11⟩ := ho1.list
      obtain ⟨tk2, h12⟩ := ho2.list
      have hlen := cutF_len _ _ _ _ _ _ hF
      rw [List.length_take, Nat.min_eq_left hi] at hlen
      have hoff : 0 ≤ off ∧ off ≤ 10000 := by
        refine ⟨hlen.2.2.1, ?_⟩
        by_cases hz : l.take i = []
        · rw [hz] at hF; cases hF; omega
        · have := hlen.2.2.2 hz; simp only [cutW] at this; simp at this; omega
      have hwo : IntKind.i64.wrap (r.x + off + 1) = r.x + (off + 1) := by rw [wrap_in (by omega)]; omega
      simp -implicitDefEqProofs [go_sem, h42, h11, h12, h13, hh, hf.t, hf.m]
      refine cK_dec (fun hlt => ?_) (fun hge => ?_)
      · have hg : l[i]? = some l[i] := List.getElem?_eq_getElem hlt
        have hw := wrap_succ (i := i) (by omega)
        have hst := cutF_succ true r l i hlt
        rw [hF, cutStep] at hst
        have hbad : cutBad true r off l[i] ps → cutV (cutS r 1 l) = .tup [.list .plain [], .list .plain [], .bool false] := fun hb => by
          rw [if_pos hb] at hst
          rw [hcs, cutF_stop _ _ _ _ hst]; rfl
        simp -implicitDefEqProofs [go_sem, h42, h11, h12, h13, hh, hf.t, hf.m, hlt, hg]
        refine cK_dec (fun hi0 => ?_) (fun hi0 => ?_)
        · simp -implicitDefEqProofs [go_sem, h42, h11, h12, h13, hh, hf.t, hf.m, hlt, hg]
          refine (turned_c (⟨r.x + off, r.y, 1, r.h⟩ : Rct) 1 h'').mono ?_
          rintro e h4 ⟨rfl, h4e⟩
          rw [h4e]
          rw [show turnR (⟨r.x + off, r.y, 1, r.h⟩ : Rct) 1 = cutP true r off 1 from rfl]
          simp -implicitDefEqProofs [go_sem, h42, h11, h12, h13, hh, hf.t, hf.m, hlt, hg]
          refine aK_own (z := 4) (S := [63]) (rows := ls.map Rct.row) (by simpa -implicitDefEqProofs [go_sem, h12] using ho2) (by simp) elT_130 elZ_65 (by simp [roomy, byT_65]; omega) (Rct.rows_uni _) (by simp [uni, Rct.row_len]) ?_
          intro v2' x' ho2' hx'
          have ho1' : Own [94] x' 65 (s.t 11) (ps.map Rct.row) := ho1.congr (fun s hs => hx' s (by simp at hs ⊢; omega))
          have hps : ∃ p ps0, ps = p :: ps0 := by
            cases ps with
            | nil => simp at hlen; omega
            | cons p ps0 => exact ⟨p, ps0, rfl⟩
          have hcO : cutO off ps = off + 1 := by obtain ⟨p, ps0, rfl⟩ := hps; rfl
          have hcL : cutL true r off ps ls = ls ++ [cutP true r off 1] := by obtain ⟨p, ps0, rfl⟩ := hps; rfl
          have ho2c : Own [63] x' 65 v2' ((cutL true r off ps ls).map Rct.row) := by rw [hcL, List.map_append]; exact ho2'
          clear ho2' hx' ho1 ho2
          simp -implicitDefEqProofs [go_sem, h42, h11, h12, h13, hh, hf.t, hf.m, hlt, hg, hwo]
          refine cK_dec (fun hb1 => ?_) (fun hb1 => ?_) <;> simp -implicitDefEqProofs [go_sem, h42, h11, h12, h13, hh, hf.t, hf.m, hlt, hg, hwo]
          · exact ⟨h'', Sub.refl _, by rw [hbad (.inl hb1)], rfl⟩
          have hw1 : IntKind.i64.wrap (r.x + r.w) = r.x + r.w := wrap_in (by omega)
          have hw2 : IntKind.i64.wrap (r.x + r.w - (r.x + (off + 1))) = r.w - (off + 1) := by rw [wrap_in (by omega)]; omega
          have hw2' : IntKind.i64.wrap (r.w - (off + 1)) = r.w - (off + 1) := wrap_in (by omega)
          simp -implicitDefEqProofs [go_sem, hw1, hw2, hw2']
          refine cK_dec (fun hb2 => ?_) (fun hb2 => ?_) <;> simp -implicitDefEqProofs [go_sem, h42, h11, h12, h13, hh, hf.t, hf.m, hlt, hg, hw1, hw2, hw2', hwo]
          · exact ⟨h'', Sub.refl _, by rw [hbad (.inr (.inr (by rw [hcO]; simp only [cutW]; simp; omega)))], rfl⟩
          refine (turned_c (⟨r.x + (off + 1), r.y, l[i], r.h⟩ : Rct) 1 h'').mono ?_
          rintro e h5 ⟨rfl, h5e⟩
          rw [h5e]
          rw [show turnR (⟨r.x + (off + 1), r.y, l[i], r.h⟩ : Rct) 1 = cutP true r (off + 1) l[i] from rfl]
          simp -implicitDefEqProofs [go_sem, h42, h11, h12, h13, hh, hf.t, hf.m, hlt, hg, hw1, hw2, hw2', hwo]
          refine aK_own (z := 4) (S := [94]) (rows := ps.map Rct.row) (by simpa -implicitDefEqProofs [go_sem, h11] using ho1') (by simp) elT_130 elZ_65 (by simp [roomy, byT_65]; omega) (Rct.rows_uni _) (by simp [uni, Rct.row_len]) ?_
          intro v1' x'' ho1'' hx''
          have hw3 : IntKind.i64.wrap (r.x + (off + 1) + l[i]) = r.x + (off + 1 + l[i]) := by rw [wrap_in (by omega)]; omega
          simp -implicitDefEqProofs [go_sem, h42, h11, h12, h13, hh, hf.t, hf.m, hf, hlt, hg, hw, hw1, hw2, hw3, hwo]
          refine hJ _ ⟨i + 1, off + 1 + l[i], ps ++ [cutP true r (off + 1) l[i]], cutL true r off ps ls, by omega, by simp -implicitDefEqProofs [go_sem, hw], ?_, ?_, by simp -implicitDefEqProofs [go_sem, hw3], ?_, by simp -implicitDefEqProofs [go_sem]⟩ (by simp [go_sem, h42, hw]; omega)
          · rw [List.map_append]; simpa -implicitDefEqProofs [go_sem] using ho1''
          · have := ho2c.congr (x' := x'') (fun s hs => hx'' s (by simp at hs ⊢; omega))
            simpa -implicitDefEqProofs [go_sem, h12] using this
          · rw [hst, if_neg (by rw [cutBad, hcO]; simp only [cutW]; simp; omega), hcO]
        · have hi0' : i = 0 := by omega
          have hps : ps = [] := List.eq_nil_of_length_eq_zero (by omega)
          have hcO : cutO off ps = off := by rw [hps]; rfl
          have hcL : cutL true r off ps ls = ls := by rw [hps]; rfl
          have ho2c : Own [63] s.x 65 (s.t 12) ((cutL true r off ps ls).map Rct.row) := by rw [hcL]; exact ho2
          simp -implicitDefEqProofs [go_sem, h42, h11, h12, h13, hh, hf.t, hf.m, hlt, hg]
          refine cK_dec (fun hb1 => ?_) (fun hb1 => ?_) <;> simp -implicitDefEqProofs [go_sem, h42, h11, h12, h13, hh, hf.t, hf.m, hlt, hg]
          · exact ⟨h'', Sub.refl _, by rw [hbad (.inl hb1)], rfl⟩
          have hw1 : IntKind.i64.wrap (r.x + r.w) = r.x + r.w := wrap_in (by omega)
          have hw2 : IntKind.i64.wrap (r.x + r.w - (r.x + (off))) = r.w - (off) := by rw [wrap_in (by omega)]; omega
          have hw2' : IntKind.i64.wrap (r.w - (off)) = r.w - (off) := wrap_in (by omega)
          simp -implicitDefEqProofs [go_sem, hw1, hw2, hw2']
          refine cK_dec (fun hb2 => ?_) (fun hb2 => ?_) <;> simp -implicitDefEqProofs [go_sem, h42, h11, h12, h13, hh, hf.t, hf.m, hlt, hg, hw1, hw2, hw2']
          · exact ⟨h'', Sub.refl _, by rw [hbad (.inr (.inr (by rw [hcO]; simp only [cutW]; simp; omega)))], rfl⟩
          refine (turned_c (⟨r.x + (off), r.y, l[i], r.h⟩ : Rct) 1 h'').mono ?_
          rintro e h5 ⟨rfl, h5e⟩
          rw [h5e]
          rw [show turnR (⟨r.x + (off), r.y, l[i], r.h⟩ : Rct) 1 = cutP true r (off) l[i] from rfl]
          simp -implicitDefEqProofs [go_sem, h42, h11, h12, h13, hh, hf.t, hf.m, hlt, hg, hw1, hw2, hw2']
          refine aK_own (z := 4) (S := [94]) (rows := ps.map Rct.row) (by simpa -implicitDefEqProofs [go_sem, h11] using ho1) (by simp) elT_130 elZ_65 (by simp [roomy, byT_65]; omega) (Rct.rows_uni _) (by simp [uni, Rct.row_len]) ?_
          intro v1' x'' ho1'' hx''
          have hw3 : IntKind.i64.wrap (r.x + (off) + l[i]) = r.x + (off + l[i]) := by rw [wrap_in (by omega)]; omega
          simp -implicitDefEqProofs [go_sem, h42, h11, h12, h13, hh, hf.t, hf.m, hf, hlt, hg, hw, hw1, hw2, hw3]
          refine hJ _ ⟨i + 1, off + l[i], ps ++ [cutP true r (off) l[i]], cutL true r off ps ls, by omega, by simp -implicitDefEqProofs [go_sem, hw], ?_, ?_, by simp -implicitDefEqProofs [go_sem, hw3], ?_, by simp -implicitDefEqProofs [go_sem]⟩ (by simp [go_sem, h42, hw]; omega)
          · rw [List.map_append]; simpa -implicitDefEqProofs [go_sem] using ho1''
          · have := ho2c.congr (x' := x'') (fun s hs => hx'' s (by simp at hs ⊢; omega))
            simpa -implicitDefEqProofs [go_sem, h12] using this
          · rw [hst, if_neg (by rw [cutBad, hcO]; simp only [cutW]; simp; omega), hcO]
      · have hii : i = l.length := by omega
        rw [hii, List.take_length] at hF
        have hw1 : IntKind.i64.wrap (r.x + r.w) = r.x + r.w := wrap_in (by omega)
        simp -implicitDefEqProofs [go_sem, h42, h11, h12, h13, hh, hf.t, hf.m, hw1]
        refine cK_bne (fun hb => ?_) (fun hb => ?_) <;> simp -implicitDefEqProofs [go_sem, h42, h11, h12, h13, hh, hf.t, hf.m]
        · exact ⟨h'', Sub.refl _, by rw [hcs, hF]; simp only [cutW]; simp [show ¬ off = r.w from by omega]; rfl, rfl⟩
        · exact ⟨h'', Sub.refl _, by rw [hcs, hF]; simp only [cutW]; simp [show off = r.w from by omega]; rfl, rfl⟩
  · have hcs : cutS r 2 l = match cutF false r l with | some (off, ps, ls) => if off = cutW false r then some (ps, ls) else none | none => none := by
      rw [cutS, if_pos ⟨hm', by omega, by omega, hne⟩]; rfl
    have htr : turnR r 2 = (⟨r.y, r.x, r.h, r.w⟩ : Rct) := rfl
    simp -implicitDefEqProofs [go_sem, htr]
    refine iwp_loopF (rng [6,7,8,11,12,13,14,15,16,17,18,19] 42 98) (fun k => k == 16 || k == 18) (fun s => ∃ i off ps ls, i ≤ l.length ∧ s.t 42 = .int .i64 i ∧ Own [94] s.x 65 (s.t 11) (ps.map Rct.row) ∧ Own [63] s.x 65 (s.t 12) (ls.map Rct.row) ∧ s.t 13 = .int .i64 (r.y + off) ∧ cutF false r (l.take i) = some (off, ps, ls) ∧ s.h = h'')
       (fun s => l.length - tn (s.t 42)) ?_ ?_
    · exact ⟨0, 0, [], [], by simp, by simp -implicitDefEqProofs [go_sem], by simp -implicitDefEqProofs [go_sem, Own.tight], by simp -implicitDefEqProofs [go_sem, Own.tight], by simp -implicitDefEqProofs [go_sem], rfl, by simp -implicitDefEqProofs [go_sem]⟩
    · rintro J s hJ hf ⟨i, off, ps, ls, hi, h42, ho1, ho2, h13, hF, hh⟩
      obtain ⟨tk1, h11⟩ := ho1.list
      obtain ⟨tk2, h12⟩ := ho2.list
      have hlen := cutF_len _ _ _ _ _ _ hF
      rw [List.length_take, Nat.min_eq_left hi] at hlen
      have hoff : 0 ≤ off ∧ off ≤ 10000 := by
        refine ⟨hlen.2.2.1, ?_⟩
        by_cases hz : l.take i = []
        · rw [hz] at hF; cases hF; omega
        · have := hlen.2.2.2 hz; simp only [cutW] at this; simp at this; omega
      have hwo : IntKind.i64.wrap (r.y + off + 1) = r.y + (off + 1) := by rw [wrap_in (by omega)]; omega
      simp -implicitDefEqProofs [go_sem, h42, h11, h12, h13, hh, hf.t, hf.m]
      refine cK_dec (fun hlt => ?_) (fun hge => ?_)
      · have hg : l[i]? = some l[i] := List.getElem?_eq_getElem hlt
        have hw := wrap_succ (i := i) (by omega)
        have hst := cutF_succ false r l i hlt
        rw [hF, cutStep] at hst
        have hbad : cutBad false r off l[i] ps → cutV (cutS r 2 l) = .tup [.list .plain [], .list .plain [], .bool false] := fun hb => by
          rw [if_pos hb] at hst
          rw [hcs, cutF_stop _ _ _ _ hst]; rfl
        simp -implicitDefEqProofs [go_sem, h42, h11, h12, h13, hh, hf.t, hf.m, hlt, hg]
        refine cK_dec (fun hi0 => ?_) (fun hi0 => ?_)
        · simp -implicitDefEqProofs [go_sem, h42, h11, h12, h13, hh, hf.t, hf.m, hlt, hg]
          refine (turned_c (⟨r.y + off, r.x, 1, r.w⟩ : Rct) 2 h'').mono ?_
          rintro e h4 ⟨rfl, h4e⟩
          rw [h4e]
          rw [show turnR (⟨r.y + off, r.x, 1, r.w⟩ : Rct) 2 = cutP false r off 1 from rfl]
          simp -implicitDefEqProofs [go_sem, h42, h11, h12, h13, hh, hf.t, hf.m, hlt, hg]
          refine aK_own (z := 4) (S := [63]) (rows := ls.map Rct.row) (by simpa -implicitDefEqProofs [go_sem, h12] using ho2) (by simp) elT_130 elZ_65 (by simp [roomy, byT_65]; omega) (Rct.rows_uni _) (by simp [uni, Rct.row_len]) ?_
          intro v2' x' ho2' hx'
          have ho1' : Own [94] x' 65 (s.t 11) (ps.map Rct.row) := ho1.congr (fun s hs => hx' s (by simp at hs ⊢; omega))
          have hps : ∃ p ps0, ps = p :: ps0 := by
            cases ps with
            | nil => simp at hlen; omega
            | cons p ps0 => exact ⟨p, ps0, rfl⟩
          have hcO : cutO off ps = off + 1 := by obtain ⟨p, ps0, rfl⟩ := hps; rfl
          have hcL : cutL false r off ps ls = ls ++ [cutP false r off 1] := by obtain ⟨p, ps0, rfl⟩ := hps; rfl
          have ho2c : Own [63] x' 65 v2' ((cutL false r off ps ls).map Rct.row) := by rw [hcL, List.map_append]; exact ho2'
          clear ho2' hx' ho1 ho2
          simp -implicitDefEqProofs [go_sem, h42, h11, h12, h13, hh, hf.t, hf.m, hlt, hg, hwo]
          refine cK_dec (fun hb1 => ?_) (fun hb1 => ?_) <;> simp -implicitDefEqProofs [go_sem, h42, h11, h12, h13, hh, hf.t, hf.m, hlt, hg, hwo]
          · exact ⟨h'', Sub.refl _, by rw [hbad (.inl hb1)], rfl⟩
          have hw1 : IntKind.i64.wrap (r.y + r.h) = r.y + r.h := wrap_in (by omega)
          have hw2 : IntKind.i64.wrap (r.y + r.h - (r.y + (off + 1))) = r.h - (off + 1) := by rw [wrap_in (by omega)]; omega
          have hw2' : IntKind.i64.wrap (r.h - (off + 1)) = r.h - (off + 1) := wrap_in (by omega)
          simp -implicitDefEqProofs [go_sem, hw1, hw2, hw2']
          refine cK_dec (fun hb2 => ?_) (fun hb2 => ?_) <;> simp -implicitDefEqProofs [go_sem, h42, h11, h12, h13, hh, hf.t, hf.m, hlt, hg, hw1, hw2, hw2', hwo]
          · exact ⟨h'', Sub.refl _, by rw [hbad (.inr (.inr (by rw [hcO]; simp only [cutW]; simp; omega)))], rfl⟩
          refine (turned_c (⟨r.y + (off + 1), r.x, l[i], r.w⟩ : Rct) 2 h'').mono ?_
          rintro e h5 ⟨rfl, h5e⟩
          rw [h5e]
          rw [show turnR (⟨r.y + (off + 1), r.x, l[i], r.w⟩ : Rct) 2 = cutP false r (off + 1) l[i] from rfl]
          simp -implicitDefEqProofs [go_sem, h42, h11, h12, h13, hh, hf.t, hf.m, hlt, hg, hw1, hw2, hw2', hwo]
          refine aK_own (z := 4) (S := [94]) (rows := ps.map Rct.row) (by simpa -implicitDefEqProofs [go_sem, h11] using ho1') (by simp) elT_130 elZ_65 (by simp [roomy, byT_65]; omega) (Rct.rows_uni _) (by simp [uni, Rct.row_len]) ?_
          intro v1' x'' ho1'' hx''
          have hw3 : IntKind.i64.wrap (r.y + (off + 1) + l[i]) = r.y + (off + 1 + l[i]) := by rw [wrap_in (by omega)]; omega
          simp -implicitDefEqProofs [go_sem, h42, h11, h12, h13, hh, hf.t, hf.m, hf, hlt, hg, hw, hw1, hw2, hw3, hwo]
          refine hJ _ ⟨i + 1, off + 1 + l[i], ps ++ [cutP false r (off + 1) l[i]], cutL false r off ps ls, by omega, by simp -implicitDefEqProofs [go_sem, hw], ?_, ?_, by simp -implicitDefEqProofs [go_sem, hw3], ?_, by simp -implicitDefEqProofs [go_sem]⟩ (by simp [go_sem, h42, hw]; omega)
          · rw [List.map_append]; simpa -implicitDefEqProofs [go_sem] using ho1''
          · have := ho2c.congr (x' := x'') (fun s hs => hx'' s (by simp at hs ⊢; omega))
            simpa -implicitDefEqProofs [go_sem, h12] using this
          · rw [hst, if_neg (by rw [cutBad, hcO]; simp only [cutW]; simp; omega), hcO]
        · have hi0' : i = 0 := by omega
          have hps : ps = [] := List.eq_nil_of_length_eq_zero (by omega)
          have hcO : cutO off ps = off := by rw [hps]; rfl
          have hcL : cutL false r off ps ls = ls := by rw [hps]; rfl
          have ho2c : Own [63] s.x 65 (s.t 12) ((cutL false r off ps ls).map Rct.row) := by rw [hcL]; exact ho2
          simp -implicitDefEqProofs [go_sem, h42, h11, h12, h13, hh, hf.t, hf.m, hlt, hg]
          refine cK_dec (fun hb1 => ?_) (fun hb1 => ?_) <;> simp -implicitDefEqProofs [go_sem, h42, h11, h12, h13, hh, hf.t, hf.m, hlt, hg]
          · exact ⟨h'', Sub.refl _, by rw [hbad (.inl hb1)], rfl⟩
          have hw1 : IntKind.i64.wrap (r.y + r.h) = r.y + r.h := wrap_in (by omega)
          have hw2 : IntKind.i64.wrap (r.y + r.h - (r.y + (off))) = r.h - (off) := by rw [wrap_in (by omega)]; omega
          have hw2' : IntKind.i64.wrap (r.h - (off)) = r.h - (off) := wrap_in (by omega)
          simp -implicitDefEqProofs [go_sem, hw1, hw2, hw2']
          refine cK_dec (fun hb2 => ?_) (fun hb2 => ?_) <;> simp -implicitDefEqProofs [go_sem, h42, h11, h12, h13, hh, hf.t, hf.m, hlt, hg, hw1, hw2, hw2']
          · exact ⟨h'', Sub.refl _, by rw [hbad (.inr (.inr (by rw [hcO]; simp only [cutW]; simp; omega)))], rfl⟩
          refine (turned_c (⟨r.y + (off), r.x, l[i], r.w⟩ : Rct) 2 h'').mono ?_
          rintro e h5 ⟨rfl, h5e⟩
          rw [h5e]
          rw [show turnR (⟨r.y + (off), r.x, l[i], r.w⟩ : Rct) 2 = cutP false r (off) l[i] from rfl]
          simp -implicitDefEqProofs [go_sem, h42, h11, h12, h13, hh, hf.t, hf.m, hlt, hg, hw1, hw2, hw2']
          refine aK_own (z := 4) (S := [94]) (rows := ps.map Rct.row) (by simpa -implicitDefEqProofs [go_sem, h11] using ho1) (by simp) elT_130 elZ_65 (by simp [roomy, byT_65]; omega) (Rct.rows_uni _) (by simp [uni, Rct.row_len]) ?_
          intro v1' x'' ho1'' hx''
          have hw3 : IntKind.i64.wrap (r.y + (off) + l[i]) = r.y + (off + l[i]) := by rw [wrap_in (by omega)]; omega
          simp -implicitDefEqProofs [go_sem, h42, h11, h12, h13, hh, hf.t, hf.m, hf, hlt, hg, hw, hw1, hw2, hw3]
          refine hJ _ ⟨i + 1, off + l[i], ps ++ [cutP false r (off) l[i]], cutL false r off ps ls, by omega, by simp -implicitDefEqProofs [go_sem, hw], ?_, ?_, by simp -implicitDefEqProofs [go_sem, hw3], ?_, by simp -implicitDefEqProofs [go_sem]⟩ (by simp [go_sem, h42, hw]; omega)
          · rw [List.map_append]; simpa -implicitDefEqProofs [go_sem] using ho1''
          · have := ho2c.congr (x' := x'') (fun s hs => hx'' s (by simp at hs ⊢; omega))
            simpa -implicitDefEqProofs [go_sem, h12] using this
          · rw [hst, if_neg (by rw [cutBad, hcO]; simp only [cutW]; simp; omega), hcO]
      · have hii : i = l.length := by omega
        rw [hii, List.take_length] at hF
        have hw1 : IntKind.i64.wrap (r.y + r.h) = r.y + r.h := wrap_in (by omega)
        simp -implicitDefEqProofs [go_sem, h42, h11, h12, h13, hh, hf.t, hf.m, hw1]
        refine cK_bne (fun hb => ?_) (fun hb => ?_) <;> simp -implicitDefEqProofs [go_sem, h42, h11, h12, h13, hh, hf.t, hf.m]
        · exact ⟨h'', Sub.refl _, by rw [hcs, hF]; simp only [cutW]; simp [show ¬ off = r.h from by omega]; rfl, rfl⟩
        · exact ⟨h'', Sub.refl _, by rw [hcs, hF]; simp only [cutW]; simp [show off = r.h from by omega]; rfl, rfl⟩
end Go.Proofs
