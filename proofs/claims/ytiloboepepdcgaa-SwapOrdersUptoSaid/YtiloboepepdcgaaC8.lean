/- This text is a part of the proofs of the statements of this seat: the ideal states and their rules, or what one of the functions that the statements reach comes to. Conditions: none beyond those that each theorem names. -/
import Derived.Test.YtiloboepepdcgaaC7
set_option linter.unusedVariables false
set_option linter.unusedSimpArgs false
set_option pp.deepTerms false
set_option pp.maxSteps 400
namespace Go.Proofs
open Go.Idl

set_option maxRecDepth 20000 in
set_option maxHeartbeats 4000000 in
theorem cut_c (r : Rct) (ax : Int) (l : List Int) (h : Heap) (hl : l.length < 100000000000) : ICall Try.prog 102 [.agg r.row, .int .u8 ax, .list .plain (l.map intRow)] h (retP (cutV (cutS r ax l)) h) := by
  refine icall_of_iwp (fun _ => 0) Try.func102 rfl (by kernel_rfl) (Nat.le_of_ble_eq_true rfl) ?_
  rw [Try.results102]
  simp -implicitDefEqProofs [go_sem]
  refine (may04_c r h).mono ?_
  rintro e h' ⟨rfl, rfl⟩
  simp -implicitDefEqProofs [go_sem]
  refine cK_any (fun hm => ?_) (fun hm => ?_) <;> simp -implicitDefEqProofs [go_sem]
  · exact ⟨h', Sub.refl _, by rw [cutS, if_neg (by simp at hm; simp [hm])]; rfl, rfl⟩
  refine cK_dec (fun h1 => ?_) (fun h1 => ?_) <;> simp -implicitDefEqProofs [go_sem]
  · exact ⟨h', Sub.refl _, by rw [cutS, if_neg (by omega)]; rfl, rfl⟩
  refine cK_dec (fun h2 => ?_) (fun h2 => ?_) <;> simp -implicitDefEqProofs [go_sem]
  · exact ⟨h', Sub.refl _, by rw [cutS, if_neg (by omega)]; rfl, rfl⟩
  refine cK_beq (fun h3 => ?_) (fun h3 => ?_) <;> simp -implicitDefEqProofs [go_sem]
  · exact ⟨h', Sub.refl _, by rw [cutS, if_neg (by intro h; apply h.2.2.2; apply List.eq_nil_of_length_eq_zero; omega)]; rfl, rfl⟩
  have hm' : r.may = true := by simpa using hm
  have hmb := hm'
  simp only [Rct.may, decide_eq_true_eq] at hmb
  have hne : l ≠ [] := fun e => h3 (by simp [e])
  have hax : ax = 1 ∨ ax = 2 := by omega
  rcases hax with rfl | rfl
  · have hcs : cutS r 1 l = match cutF true r l with | some (off, ps, ls) => if off = cutW true r then some (ps, ls) else none | none => none := by
      rw [cutS, if_pos ⟨hm', by omega, by omega, hne⟩]; rfl
    simp -implicitDefEqProofs [go_sem]
    refine iwp_loopF (rng [6,7,8,11,12,13,14] 44 142) nom (fun s => ∃ i v1 v2 off ps ls, i ≤ l.length ∧ s.t 44 = .int .i64 i ∧ s.t 11 = v1 ∧ Own [119, 135] s.x 65 v1 (ps.map Rct.row) ∧ s.t 12 = v2 ∧ Own [62, 74] s.x 65 v2 (ls.map Rct.row) ∧ s.t 13 = .int .i64 off ∧ cutF true r (l.take i) = some (off, ps, ls) ∧ s.h = h')
       (fun s => l.length - tn (s.t 44)) ?_ ?_
    · refine ⟨0, .list .tight [], .list .tight [], 0, [], [], ?_⟩
      simp -implicitDefEqProofs [go_sem, Own.tight, cutF]
    · rintro J s hJ hf ⟨i, v1, v2, off, ps, ls, hi, h44, h11, ho1, h12, ho2, h13, hF, hh⟩
      have hlen := cutF_len _ _ _ _ _ _ hF
      rw [List.length_take, Nat.min_eq_left hi] at hlen
      have hoff : 0 ≤ off ∧ off ≤ 10000 := by
        refine ⟨hlen.2.2.1, ?_⟩
        by_cases hz : l.take i = []
        · rw [hz] at hF; cases hF; omega
        · have := hlen.2.2.2 hz; simp only [cutW] at this; simp at this; omega
      have hwx : IntKind.i64.wrap (r.x + off) = r.x + off := wrap_in (by omega)
      have hwo : IntKind.i64.wrap (off + 1) = off + 1 := wrap_in (by omega)
      simp -implicitDefEqProofs [go_sem, h44, h11, h12, h13, hh, hf.t, hf.m]
      refine cK_dec (fun hlt => ?_) (fun hge => ?_)
      · have hg : l[i]? = some l[i] := List.getElem?_eq_getElem hlt
        have hw := wrap_succ (i := i) (by omega)
        have hst := cutF_succ true r l i hlt
        rw [hF, cutStep] at hst
        have hbad : cutBad true r off l[i] ps → cutV (cutS r 1 l) = .tup [.list .plain [], .list .plain [], .bool false] := fun hb => by
          rw [if_pos hb] at hst
          rw [hcs, cutF_stop _ _ _ _ hst]; rfl
        simp -implicitDefEqProofs [go_sem, h44, h11, h12, h13, hh, hf.t, hf.m]
        refine cK_dec (fun hi0 => ?_) (fun hi0 => ?_)
        · simp -implicitDefEqProofs [go_sem, h44, h11, h12, h13, hh, hf.t, hf.m, hlt, hg, hwx]
          refine aK_own (z := 4) (S := [62, 74]) ho2 (by simp) elT_130 elZ_65 (by simp [roomy, byT_65]; omega) (Rct.rows_uni _) (by simp [uni]) ?_
          intro v2' x' ho2' hx'
          have ho1' : Own [119, 135] x' 65 v1 (ps.map Rct.row) := ho1.congr (fun s hs => hx' s (by simp at hs ⊢; omega))
          have hps : ∃ p ps0, ps = p :: ps0 := by
            cases ps with
            | nil => simp at hlen; omega
            | cons p ps0 => exact ⟨p, ps0, rfl⟩
          have hcO : cutO off ps = off + 1 := by obtain ⟨p, ps0, rfl⟩ := hps; rfl
          have hcL : cutL true r off ps ls = ls ++ [cutP true r off 1] := by obtain ⟨p, ps0, rfl⟩ := hps; rfl
          have ho2c : Own [62, 74] x' 65 v2' ((cutL true r off ps ls).map Rct.row) := by rw [hcL, List.map_append]; exact ho2'
          have hwx2 : IntKind.i64.wrap (r.x + (off + 1)) = r.x + (off + 1) := wrap_in (by omega)
          clear ho2' hx' ho1 ho2
          simp -implicitDefEqProofs [go_sem, h44, h11, h12, h13, hh, hf.t, hf.m, hlt, hg, hwo, hwx2]
          refine cK_dec (fun hb1 => ?_) (fun hb1 => ?_) <;> simp -implicitDefEqProofs [go_sem, h44, h11, h12, h13, hh, hf.t, hf.m, hlt, hg, hwo, hwx2]
          · exact ⟨h', Sub.refl _, by rw [hbad (.inl hb1)], rfl⟩
          refine cK_dec (fun hb2 => ?_) (fun hb2 => ?_) <;> simp -implicitDefEqProofs [go_sem, h44, h11, h12, h13, hh, hf.t, hf.m, hlt, hg, hwo, hwx2]
          · exact ⟨h', Sub.refl _, by rw [hbad (.inr (.inl hb2))], rfl⟩
          have hwn : IntKind.i64.wrap (off + 1 + l[i]) = off + 1 + l[i] := wrap_in (by omega)
          simp -implicitDefEqProofs [go_sem, hwn]
          refine cK_dec (fun hb3 => ?_) (fun hb3 => ?_) <;> simp -implicitDefEqProofs [go_sem, h44, h11, h12, h13, hh, hf.t, hf.m, hlt, hg, hwo, hwn, hwx2]
          · exact ⟨h', Sub.refl _, by rw [hbad (.inr (.inr (by rw [hcO]; exact hb3)))], rfl⟩
          refine iwp_drawn_of mixed [0,1,2,3,4,5,6,7,8,9,10,11,12,13,14,15,16] (by kernel_rfl) ?_
          simp -implicitDefEqProofs [go_sem, h44, h11, h12, h13, hh, hf.t, hf.m, hlt, hg, hwo, hwn, hwx2]
          refine aK_own (z := 4) (S := [119, 135]) ho1' (by simp) elT_130 elZ_65 (by simp [roomy, byT_65]; omega) (Rct.rows_uni _) (by simp [uni]) ?_
          intro v1' x'' ho1'' hx''
          simp -implicitDefEqProofs [go_sem, h44, h11, h12, h13, hh, hf.t, hf.m, hf, hlt, hg, hwo, hwn, hw]
          refine hJ _ ⟨i + 1, v1', v2', off + 1 + l[i], ps ++ [cutP true r (off + 1) l[i]], cutL true r off ps ls, by omega, rfl, rfl, ?_, rfl, ho2c.congr (fun s hs => hx'' s (by simp at hs ⊢; omega)), rfl, ?_, hh⟩ (by simp [go_sem, h44, hw]; omega)
          · rw [List.map_append]; exact ho1''
          · rw [hst, if_neg (by rw [cutBad, hcO]; simp only [cutW]; simp; omega), hcO]
        · have hi0' : i = 0 := by omega
          have hps : ps = [] := List.eq_nil_of_length_eq_zero (by omega)
          have hcO : cutO off ps = off := by rw [hps]; rfl
          have hcL : cutL true r off ps ls = ls := by rw [hps]; rfl
          simp -implicitDefEqProofs [go_sem, h44, h11, h12, h13, hh, hf.t, hf.m, hlt, hg, hwx]
          refine cK_dec (fun hb1 => ?_) (fun hb1 => ?_) <;> simp -implicitDefEqProofs [go_sem, h44, h11, h12, h13, hh, hf.t, hf.m, hlt, hg, hwx]
          · exact ⟨h', Sub.refl _, by rw [hbad (.inl hb1)], rfl⟩
          refine cK_dec (fun hb2 => ?_) (fun hb2 => ?_) <;> simp -implicitDefEqProofs [go_sem, h44, h11, h12, h13, hh, hf.t, hf.m, hlt, hg, hwx]
          · exact ⟨h', Sub.refl _, by rw [hbad (.inr (.inl hb2))], rfl⟩
          have hwn : IntKind.i64.wrap (off + l[i]) = off + l[i] := wrap_in (by omega)
          simp -implicitDefEqProofs [go_sem, hwn]
          refine cK_dec (fun hb3 => ?_) (fun hb3 => ?_) <;> simp -implicitDefEqProofs [go_sem, h44, h11, h12, h13, hh, hf.t, hf.m, hlt, hg, hwn, hwx]
          · exact ⟨h', Sub.refl _, by rw [hbad (.inr (.inr (by rw [hcO]; exact hb3)))], rfl⟩
          refine iwp_drawn_of mixed [0,1,2,3,4,5,6,7,8,9,10,11,12,13,14,15,16] (by kernel_rfl) ?_
          simp -implicitDefEqProofs [go_sem, h44, h11, h12, h13, hh, hf.t, hf.m, hlt, hg, hwn, hwx]
          refine aK_own (z := 4) (S := [119, 135]) ho1 (by simp) elT_130 elZ_65 (by simp [roomy, byT_65]; omega) (Rct.rows_uni _) (by simp [uni]) ?_
          intro v1' x'' ho1'' hx''
          simp -implicitDefEqProofs [go_sem, h44, h11, h12, h13, hh, hf.t, hf.m, hf, hlt, hg, hwn, hw]
          refine hJ _ ⟨i + 1, v1', v2, off + l[i], ps ++ [cutP true r off l[i]], ls, by omega, rfl, rfl, ?_, h12, ho2.congr (fun s hs => hx'' s (by simp at hs ⊢; omega)), rfl, ?_, hh⟩ (by simp [go_sem, h44, hw]; omega)
          · rw [List.map_append]; exact ho1''
          · rw [hst, if_neg (by rw [cutBad, hcO]; simp only [cutW]; simp; omega), hcO, hcL]
      · simp -implicitDefEqProofs [go_sem, h44, h11, h12, h13, hh, hf.t, hf.m]
        have hii : i = l.length := by omega
        rw [hii, List.take_length] at hF
        refine cK_bne (fun hb => ?_) (fun hb => ?_) <;> simp -implicitDefEqProofs [go_sem, h44, h11, h12, h13, hh, hf.t, hf.m, ho1.strip, ho2.strip]
        · exact ⟨h', Sub.refl _, by rw [hcs, hF]; simp only [cutW]; simp [hb]; rfl, rfl⟩
        · exact ⟨h', Sub.refl _, by rw [hcs, hF]; simp only [cutW]; simp [hb]; rfl, rfl⟩
  · have hcs : cutS r 2 l = match cutF false r l with | some (off, ps, ls) => if off = cutW false r then some (ps, ls) else none | none => none := by
      rw [cutS, if_pos ⟨hm', by omega, by omega, hne⟩]; rfl
    simp -implicitDefEqProofs [go_sem]
    refine iwp_loopF (rng [6,7,8,11,12,13,14] 44 142) nom (fun s => ∃ i v1 v2 off ps ls, i ≤ l.length ∧ s.t 44 = .int .i64 i ∧ s.t 11 = v1 ∧ Own [119, 135] s.x 65 v1 (ps.map Rct.row) ∧ s.t 12 = v2 ∧ Own [62, 74] s.x 65 v2 (ls.map Rct.row) ∧ s.t 13 = .int .i64 off ∧ cutF false r (l.take i) = some (off, ps, ls) ∧ s.h = h')
       (fun s => l.length - tn (s.t 44)) ?_ ?_
    · refine ⟨0, .list .tight [], .list .tight [], 0, [], [], ?_⟩
      simp -implicitDefEqProofs [go_sem, Own.tight, cutF]
    · rintro J s hJ hf ⟨i, v1, v2, off, ps, ls, hi, h44, h11, ho1, h12, ho2, h13, hF, hh⟩
      have hlen := cutF_len _ _ _ _ _ _ hF
      rw [List.length_take, Nat.min_eq_left hi] at hlen
      have hoff : 0 ≤ off ∧ off ≤ 10000 := by
        refine ⟨hlen.2.2.1, ?_⟩
        by_cases hz : l.take i = []
        · rw [hz] at hF; cases hF; omega
        · have := hlen.2.2.2 hz; simp only [cutW] at this; simp at this; omega
      have hwx : IntKind.i64.wrap (r.y + off) = r.y + off := wrap_in (by omega)
      have hwo : IntKind.i64.wrap (off + 1) = off + 1 := wrap_in (by omega)
      simp -implicitDefEqProofs [go_sem, h44, h11, h12, h13, hh, hf.t, hf.m]
      refine cK_dec (fun hlt => ?_) (fun hge => ?_)
      · have hg : l[i]? = some l[i] := List.getElem?_eq_getElem hlt
        have hw := wrap_succ (i := i) (by omega)
        have hst := cutF_succ false r l i hlt
        rw [hF, cutStep] at hst
        have hbad : cutBad false r off l[i] ps → cutV (cutS r 2 l) = .tup [.list .plain [], .list .plain [], .bool false] := fun hb => by
          rw [if_pos hb] at hst
          rw [hcs, cutF_stop _ _ _ _ hst]; rfl
        simp -implicitDefEqProofs [go_sem, h44, h11, h12, h13, hh, hf.t, hf.m]
        refine cK_dec (fun hi0 => ?_) (fun hi0 => ?_)
        · simp -implicitDefEqProofs [go_sem, h44, h11, h12, h13, hh, hf.t, hf.m, hlt, hg, hwx]
          refine aK_own (z := 4) (S := [62, 74]) ho2 (by simp) elT_130 elZ_65 (by simp [roomy, byT_65]; omega) (Rct.rows_uni _) (by simp [uni]) ?_
          intro v2' x' ho2' hx'
          have ho1' : Own [119, 135] x' 65 v1 (ps.map Rct.row) := ho1.congr (fun s hs => hx' s (by simp at hs ⊢; omega))
          have hps : ∃ p ps0, ps = p :: ps0 := by
            cases ps with
            | nil => simp at hlen; omega
            | cons p ps0 => exact ⟨p, ps0, rfl⟩
          have hcO : cutO off ps = off + 1 := by obtain ⟨p, ps0, rfl⟩ := hps; rfl
          have hcL : cutL false r off ps ls = ls ++ [cutP false r off 1] := by obtain ⟨p, ps0, rfl⟩ := hps; rfl
          have ho2c : Own [62, 74] x' 65 v2' ((cutL false r off ps ls).map Rct.row) := by rw [hcL, List.map_append]; exact ho2'
          have hwx2 : IntKind.i64.wrap (r.y + (off + 1)) = r.y + (off + 1) := wrap_in (by omega)
          clear ho2' hx' ho1 ho2
          simp -implicitDefEqProofs [go_sem, h44, h11, h12, h13, hh, hf.t, hf.m, hlt, hg, hwo, hwx2]
          refine cK_dec (fun hb1 => ?_) (fun hb1 => ?_) <;> simp -implicitDefEqProofs [go_sem, h44, h11, h12, h13, hh, hf.t, hf.m, hlt, hg, hwo, hwx2]
          · exact ⟨h', Sub.refl _, by rw [hbad (.inl hb1)], rfl⟩
          refine cK_dec (fun hb2 => ?_) (fun hb2 => ?_) <;> simp -implicitDefEqProofs [go_sem, h44, h11, h12, h13, hh, hf.t, hf.m, hlt, hg, hwo, hwx2]
          · exact ⟨h', Sub.refl _, by rw [hbad (.inr (.inl hb2))], rfl⟩
          have hwn : IntKind.i64.wrap (off + 1 + l[i]) = off + 1 + l[i] := wrap_in (by omega)
          simp -implicitDefEqProofs [go_sem, hwn]
          refine cK_dec (fun hb3 => ?_) (fun hb3 => ?_) <;> simp -implicitDefEqProofs [go_sem, h44, h11, h12, h13, hh, hf.t, hf.m, hlt, hg, hwo, hwn, hwx2]
          · exact ⟨h', Sub.refl _, by rw [hbad (.inr (.inr (by rw [hcO]; exact hb3)))], rfl⟩
          refine iwp_drawn_of mixed [0,1,2,3,4,5,6,7,8,9,10,11,12,13,14,15,16] (by kernel_rfl) ?_
          simp -implicitDefEqProofs [go_sem, h44, h11, h12, h13, hh, hf.t, hf.m, hlt, hg, hwo, hwn, hwx2]
          refine aK_own (z := 4) (S := [119, 135]) ho1' (by simp) elT_130 elZ_65 (by simp [roomy, byT_65]; omega) (Rct.rows_uni _) (by simp [uni]) ?_
          intro v1' x'' ho1'' hx''
          simp -implicitDefEqProofs [go_sem, h44, h11, h12, h13, hh, hf.t, hf.m, hf, hlt, hg, hwo, hwn, hw]
          refine hJ _ ⟨i + 1, v1', v2', off + 1 + l[i], ps ++ [cutP false r (off + 1) l[i]], cutL false r off ps ls, by omega, rfl, rfl, ?_, rfl, ho2c.congr (fun s hs => hx'' s (by simp at hs ⊢; omega)), rfl, ?_, hh⟩ (by simp [go_sem, h44, hw]; omega)
          · rw [List.map_append]; exact ho1''
          · rw [hst, if_neg (by rw [cutBad, hcO]; simp only [cutW]; simp; omega), hcO]
        · have hi0' : i = 0 := by omega
          have hps : ps = [] := List.eq_nil_of_length_eq_zero (by omega)
          have hcO : cutO off ps = off := by rw [hps]; rfl
          have hcL : cutL false r off ps ls = ls := by rw [hps]; rfl
          simp -implicitDefEqProofs [go_sem, h44, h11, h12, h13, hh, hf.t, hf.m, hlt, hg, hwx]
          refine cK_dec (fun hb1 => ?_) (fun hb1 => ?_) <;> simp -implicitDefEqProofs [go_sem, h44, h11, h12, h13, hh, hf.t, hf.m, hlt, hg, hwx]
          · exact ⟨h', Sub.refl _, by rw [hbad (.inl hb1)], rfl⟩
          refine cK_dec (fun hb2 => ?_) (fun hb2 => ?_) <;> simp -implicitDefEqProofs [go_sem, h44, h11, h12, h13, hh, hf.t, hf.m, hlt, hg, hwx]
          · exact ⟨h', Sub.refl _, by rw [hbad (.inr (.inl hb2))], rfl⟩
          have hwn : IntKind.i64.wrap (off + l[i]) = off + l[i] := wrap_in (by omega)
          simp -implicitDefEqProofs [go_sem, hwn]
          refine cK_dec (fun hb3 => ?_) (fun hb3 => ?_) <;> simp -implicitDefEqProofs [go_sem, h44, h11, h12, h13, hh, hf.t, hf.m, hlt, hg, hwn, hwx]
          · exact ⟨h', Sub.refl _, by rw [hbad (.inr (.inr (by rw [hcO]; exact hb3)))], rfl⟩
          refine iwp_drawn_of mixed [0,1,2,3,4,5,6,7,8,9,10,11,12,13,14,15,16] (by kernel_rfl) ?_
          simp -implicitDefEqProofs [go_sem, h44, h11, h12, h13, hh, hf.t, hf.m, hlt, hg, hwn, hwx]
          refine aK_own (z := 4) (S := [119, 135]) ho1 (by simp) elT_130 elZ_65 (by simp [roomy, byT_65]; omega) (Rct.rows_uni _) (by simp [uni]) ?_
          intro v1' x'' ho1'' hx''
          simp -implicitDefEqProofs [go_sem, h44, h11, h12, h13, hh, hf.t, hf.m, hf, hlt, hg, hwn, hw]
          refine hJ _ ⟨i + 1, v1', v2, off + l[i], ps ++ [cutP false r off l[i]], ls, by omega, rfl, rfl, ?_, h12, ho2.congr (fun s hs => hx'' s (by simp at hs ⊢; omega)), rfl, ?_, hh⟩ (by simp [go_sem, h44, hw]; omega)
          · rw [List.map_append]; exact ho1''
          · rw [hst, if_neg (by rw [cutBad, hcO]; simp only [cutW]; simp; omega), hcO, hcL]
      · simp -implicitDefEqProofs [go_sem, h44, h11, h12, h13, hh, hf.t, hf.m]
        have hii : i = l.length := by omega
        rw [hii, List.take_length] at hF
        refine cK_bne (fun hb => ?_) (fun hb => ?_) <;> simp -implicitDefEqProofs [go_sem, h44, h11, h12, h13, hh, hf.t, hf.m, ho1.strip, ho2.strip]
        · exact ⟨h', Sub.refl _, by rw [hcs, hF]; simp only [cutW]; simp [hb]; rfl, rfl⟩
        · exact ⟨h', Sub.refl _, by rw [hcs, hF]; simp only [cutW]; simp [hb]; rfl, rfl⟩
end Go.Proofs
