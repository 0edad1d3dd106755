/- This text is a part of the proofs of the statements of this seat: the ideal states and their rules, or what one of the functions that the statements reach comes to. Conditions: none beyond those that each theorem names. -/
import Derived.Test.YtghpaalcedgcaaaGreatCA
set_option linter.unusedVariables false
set_option linter.unusedSimpArgs false
set_option pp.deepTerms false
set_option pp.maxSteps 600
namespace Go.Proofs
open Go.Idl

def cutP (a1 : Bool) (r : Rct) (off n : Int) : Rct := if a1 = true then ⟨r.x + off, r.y, n, r.h⟩ else ⟨r.x, r.y + off, r.w, n⟩
def cutW (a1 : Bool) (r : Rct) : Int := if a1 = true then r.w else r.h
def cutO (off : Int) (ps : List Rct) : Int := match ps with | [] => off | _ => off + 1
def cutL (a1 : Bool) (r : Rct) (off : Int) (ps ls : List Rct) : List Rct := match ps with | [] => ls | _ => ls ++ [cutP a1 r off 1]
def cutBad (a1 : Bool) (r : Rct) (off n : Int) (ps : List Rct) : Prop := n < 1 ∨ n > cutW a1 r ∨ cutO off ps + n > cutW a1 r
instance (a1 : Bool) (r : Rct) (off n : Int) (ps : List Rct) : Decidable (cutBad a1 r off n ps) := by unfold cutBad; exact inferInstance
def cutStep (a1 : Bool) (r : Rct) (st : Option (Int × List Rct × List Rct)) (n : Int) : Option (Int × List Rct × List Rct) :=
  match st with
  | none => none
  | some (off, ps, ls) => if cutBad a1 r off n ps then none else some (cutO off ps + n, ps ++ [cutP a1 r (cutO off ps) n], cutL a1 r off ps ls)
def cutF (a1 : Bool) (r : Rct) (l : List Int) : Option (Int × List Rct × List Rct) := l.foldl (cutStep a1 r) (some (0, [], []))
def cutS (r : Rct) (ax : Int) (l : List Int) : Option (List Rct × List Rct) :=
  if r.may = true ∧ 1 ≤ ax ∧ ax ≤ 2 ∧ l ≠ [] then
    match cutF (ax == 1) r l with
    | some (off, ps, ls) => if off = cutW (ax == 1) r then some (ps, ls) else none
    | none => none
  else none
def cutV : Option (List Rct × List Rct) → IV
  | some (ps, ls) => .tup [.list .plain (ps.map Rct.row), .list .plain (ls.map Rct.row), .bool true]
  | none => .tup [.list .plain [], .list .plain [], .bool false]

theorem cut_none (a1 : Bool) (r : Rct) (l : List Int) : l.foldl (cutStep a1 r) none = none := by
  induction l with
  | nil => rfl
  | cons n l ih => exact ih
theorem cutF_succ (a1 : Bool) (r : Rct) (l : List Int) (i : Nat) (h : i < l.length) : cutF a1 r (l.take (i + 1)) = cutStep a1 r (cutF a1 r (l.take i)) l[i] := by
  have e : l.take (i + 1) = l.take i ++ [l[i]] := by rw [List.take_add_one, List.getElem?_eq_getElem h]; rfl
  rw [cutF, e, List.foldl_append, cutF]; rfl
theorem cutF_stop (a1 : Bool) (r : Rct) (l : List Int) (i : Nat) (h : cutF a1 r (l.take i) = none) : cutF a1 r l = none := by
  have : cutF a1 r l = (l.drop i).foldl (cutStep a1 r) (cutF a1 r (l.take i)) := by
    rw [cutF, cutF, ← List.foldl_append, List.take_append_drop]
  rw [this, h, cut_none]
theorem cutF_len (a1 : Bool) (r : Rct) (l : List Int) (off ps ls) (h : cutF a1 r l = some (off, ps, ls)) : ps.length = l.length ∧ ls.length ≤ l.length ∧ 0 ≤ off ∧ (l ≠ [] → off ≤ cutW a1 r) := by
  suffices H : ∀ (l2 : List Int) (o1 : Int) (p1 l1 : List Rct), l2.foldl (cutStep a1 r) (some (o1, p1, l1)) = some (off, ps, ls) → 0 ≤ o1 → ps.length = p1.length + l2.length ∧ ls.length ≤ l1.length + l2.length ∧ 0 ≤ off ∧ (l2 ≠ [] → off ≤ cutW a1 r) by
    have := H l 0 [] [] h (Int.le_refl _)
    simpa using this
  intro l2
  induction l2 with
  | nil => intro o1 p1 l1 h h0; cases h; simp [h0]
  | cons n l2 ih =>
    intro o1 p1 l1 h h0
    rw [List.foldl_cons] at h
    have h1 : 0 ≤ cutO o1 p1 := by unfold cutO; split <;> omega
    have h2 : (cutL a1 r o1 p1 l1).length ≤ l1.length + 1 := by unfold cutL; split <;> simp
    by_cases hc : cutBad a1 r o1 n p1
    · rw [cutStep, if_pos hc, cut_none] at h; cases h
    · rw [cutStep, if_neg hc] at h
      have hc' : 1 ≤ n ∧ n ≤ cutW a1 r ∧ cutO o1 p1 + n ≤ cutW a1 r := by unfold cutBad at hc; omega
      obtain ⟨k1, k2, k3, k4⟩ := ih _ _ _ h (by omega)
      refine ⟨by simp at k1 ⊢; omega, by simp; omega, k3, fun _ => ?_⟩
      cases l2 with
      | nil => cases h; exact hc'.2.2
      | cons _ _ => exact k4 (by simp)
end Go.Proofs

set_option linter.unusedVariables false
set_option linter.unusedSimpArgs false
set_option pp.deepTerms false
set_option pp.maxSteps 400
namespace Go.Proofs
open Go.Idl

set_option maxRecDepth 20000 in
set_option maxHeartbeats 4000000 in
theorem cut_c (r : Rct) (ax : Int) (l : List Int) (h : Heap) (hl : l.length < 100000000000) : ICall Tryz.prog 170 [.agg r.row, .int .u8 ax, .list .plain (l.map intRow)] h (retP (cutV (cutS r ax l)) h) := by
  refine icall_of_iwp (fun _ => 0) Tryz.func170 rfl (by kernel_rfl) (Nat.le_of_ble_eq_true rfl) ?_
  rw [Tryz.results170]
  simp -implicitDefEqProofs [go_sem]
  refine (may04_c r h).mono ?_
  rintro e h' ⟨rfl, rfl⟩
  simp -implicitDefEqProofs [go_sem]
  refine cK_any (fun hm => ?_) (fun hm => ?_) <;> simp -implicitDefEqProofs [go_sem]
  · exact ⟨h', Sub.refl _, by rw [cutS, if_neg (by simp at hm; simp [hm])]; rfl, rfl⟩
  refine cK_dec (fun h1 => ?_) (fun h1 => ?_) <;> simp -implicitDefEqProofs [go_sem]
  · exact ⟨h', Sub.refl _, by rw [cutS, if_neg (by omega)]; rfl, rfl⟩
  refine cK_dec (fun h2 => ?_) (fun h2 => ?_) <;> simp -implicitDefEqProofs [go_sem]
  · exact ⟨h', Sub.refl _, by rw [cutS, if_neg (by omega)]; rfl, rfl⟩
  refine cK_beq (fun h3 => ?_) (fun h3 => ?_) <;> simp -implicitDefEqProofs [go_sem]
  · exact ⟨h', Sub.refl _, by rw [cutS, if_neg (by intro h; apply h.2.2.2; apply List.eq_nil_of_length_eq_zero; omega)]; rfl, rfl⟩
  have hm' : r.may = true := by simpa using hm
  have hmb := hm'
  simp only [Rct.may, decide_eq_true_eq] at hmb
  have hne : l ≠ [] := fun e => h3 (by simp [e])
  have hax : ax = 1 ∨ ax = 2 := by omega
  rcases hax with rfl | rfl
  · have hcs : cutS r 1 l = match cutF true r l with | some (off, ps, ls) => if off = cutW true r then some (ps, ls) else none | none => none := by
      rw [cutS, if_pos ⟨hm', by omega, by omega, hne⟩]; rfl
    simp -implicitDefEqProofs [go_sem]
    refine iwp_loopF (rng [6,7,8,11,12,13,14] 44 142) nom (fun s => ∃ i v1 v2 off ps ls, i ≤ l.length ∧ s.t 44 = .int .i64 i ∧ s.t 11 = v1 ∧ Own [119, 135] s.x 23 v1 (ps.map Rct.row) ∧ s.t 12 = v2 ∧ Own [62, 74] s.x 23 v2 (ls.map Rct.row) ∧ s.t 13 = .int .i64 off ∧ cutF true r (l.take i) = some (off, ps, ls) ∧ s.h = h')
       (fun s => l.length - tn (s.t 44)) ?_ ?_
    · refine ⟨0, .list .tight [], .list .tight [], 0, [], [], ?_⟩
      simp -implicitDefEqProofs [go_sem, Own.tight, cutF]
    · rintro J s hJ hf ⟨i, v1, v2, off, ps, ls, hi, h44, h11, ho1, h12, ho2, h13, hF, hh⟩
      have hlen := cutF_len _ _ _ _ _ _ hF
      rw [List.length_take, Nat.min_eq_left hi] at hlen
      have hoff : 0 ≤ off ∧ off ≤ 10000 := by
        refine ⟨hlen.2.2.1, ?_⟩
        by_cases hz : l.take i = []
        · rw [hz] at hF; cases hF; omega
        · have := hlen.2.2.2 hz; simp only [cutW] at this; simp at this; omega
      have hwx : IntKind.i64.wrap (r.x + off) = r.x + off := wrap_in (by omega)
      have hwo : IntKind.i64.wrap (off + 1) = off + 1 := wrap_in (by omega)
      simp -implicitDefEqProofs [go_sem, h44, h11, h12, h13, hh, hf.t, hf.m]
      refine cK_dec (fun hlt => ?_) (fun hge => ?_)
      · have hg : l[i]? = some l[i] := List.getElem?_eq_getElem hlt
        have hw := wrap_succ (i := i) (by omega)
        have hst := cutF_succ true r l i hlt
        rw [hF, cutStep] at hst
        have hbad : cutBad true r off l[i] ps → cutV (cutS r 1 l) = .tup [.list .plain [], .list .plain [], .bool false] := fun hb => by
          rw [if_pos hb] at hst
          rw [hcs, cutF_stop _ _ _ _ hst]; rfl
        simp -implicitDefEqProofs [go_sem, h44, h11, h12, h13, hh, hf.t, hf.m]
        refine cK_dec (fun hi0 => ?_) (fun hi0 => ?_)
        · simp -implicitDefEqProofs [go_sem, h44, h11, h12, h13, hh, hf.t, hf.m, hlt, hg, hwx]
          refine aK_own (z := 4) (S := [62, 74]) ho2 (by simp) elT_140 elZ_23 (by simp [roomy, byT_23]; omega) (Rct.rows_uni _) (by simp [uni]) ?_
          intro v2' x' ho2' hx'
          have ho1' : Own [119, 135] x' 23 v1 (ps.map Rct.row) := ho1.congr (fun s hs => hx' s (by simp at hs ⊢; omega))
          have hps : ∃ p ps0, ps = p :: ps0 := by
            cases ps with
            | nil => simp at hlen; omega
            | cons p ps0 => exact ⟨p, ps0, rfl⟩
          have hcO : cutO off ps = off + 1 := by obtain ⟨p, ps0, rfl⟩ := hps; rfl
          have hcL : cutL true r off ps ls = ls ++ [cutP true r off 1] := by obtain ⟨p, ps0, rfl⟩ := hps; rfl
          have ho2c : Own [62, 74] x' 23 v2' ((cutL true r off ps ls).map Rct.row) := by rw [hcL, List.map_append]; exact ho2'
          have hwx2 : IntKind.i64.wrap (r.x + (off + 1)) = r.x + (off + 1) := wrap_in (by omega)
          clear ho2' hx' ho1 ho2
          simp -implicitDefEqProofs [go_sem, h44, h11, h12, h13, hh, hf.t, hf.m, hlt, hg, hwo, hwx2]
          refine cK_dec (fun hb1 => ?_) (fun hb1 => ?_) <;> simp -implicitDefEqProofs [go_sem, h44, h11, h12, h13, hh, hf.t, hf.m, hlt, hg, hwo, hwx2]
          · exact ⟨h', Sub.refl _, by rw [hbad (.inl hb1)], rfl⟩
          refine cK_dec (fun hb2 => ?_) (fun hb2 => ?_) <;> simp -implicitDefEqProofs [go_sem, h44, h11, h12, h13, hh, hf.t, hf.m, hlt, hg, hwo, hwx2]
          · exact ⟨h', Sub.refl _, by rw [hbad (.inr (.inl hb2))], rfl⟩
          have hwn : IntKind.i64.wrap (off + 1 + l[i]) = off + 1 + l[i] := wrap_in (by omega)
          simp -implicitDefEqProofs [go_sem, hwn]
          refine cK_dec (fun hb3 => ?_) (fun hb3 => ?_) <;> simp -implicitDefEqProofs [go_sem, h44, h11, h12, h13, hh, hf.t, hf.m, hlt, hg, hwo, hwn, hwx2]
          · exact ⟨h', Sub.refl _, by rw [hbad (.inr (.inr (by rw [hcO]; exact hb3)))], rfl⟩
          refine iwp_drawn_of mixed [0,1,2,3,4,5,6,7,8,9,10,11,12,13,14,15,16] (by kernel_rfl) ?_
          simp -implicitDefEqProofs [go_sem, h44, h11, h12, h13, hh, hf.t, hf.m, hlt, hg, hwo, hwn, hwx2]
          refine aK_own (z := 4) (S := [119, 135]) ho1' (by simp) elT_140 elZ_23 (by simp [roomy, byT_23]; omega) (Rct.rows_uni _) (by simp [uni]) ?_
          intro v1' x'' ho1'' hx''
          simp -implicitDefEqProofs [go_sem, h44, h11, h12, h13, hh, hf.t, hf.m, hf, hlt, hg, hwo, hwn, hw]
          refine hJ _ ⟨i + 1, v1', v2', off + 1 + l[i], ps ++ [cutP true r (off + 1) l[i]], cutL true r off ps ls, by omega, rfl, rfl, ?_, rfl, ho2c.congr (fun s hs => hx'' s (by simp at hs ⊢; omega)), rfl, ?_, hh⟩ (by simp [go_sem, h44, hw]; omega)
          · rw [List.map_append]; exact ho1''
          · rw [hst, if_neg (by rw [cutBad, hcO]; simp only [cutW]; simp; omega), hcO]
        · have hi0' : i = 0 := by omega
          have hps : ps = [] := List.eq_nil_of_length_eq_zero (by omega)
          have hcO : cutO off ps = off := by rw [hps]; rfl
          have hcL : cutL true r off ps ls = ls := by rw [hps]; rfl
          simp -implicitDefEqProofs [go_sem, h44, h11, h12, h13, hh, hf.t, hf.m, hlt, hg, hwx]
          refine cK_dec (fun hb1 => ?_) (fun hb1 => ?_) <;> simp -implicitDefEqProofs [go_sem, h44, h11, h12, h13, hh, hf.t, hf.m, hlt, hg, hwx]
          · exact ⟨h', Sub.refl _, by rw [hbad (.inl hb1)], rfl⟩
          refine cK_dec (fun hb2 => ?_) (fun hb2 => ?_) <;> simp -implicitDefEqProofs [go_sem, h44, h11, h12, h13, hh, hf.t, hf.m, hlt, hg, hwx]
          · exact ⟨h', Sub.refl _, by rw [hbad (.inr (.inl hb2))], rfl⟩
          have hwn : IntKind.i64.wrap (off + l[i]) = off + l[i] := wrap_in (by omega)
          simp -implicitDefEqProofs [go_sem, hwn]
          refine cK_dec (fun hb3 => ?_) (fun hb3 => ?_) <;> simp -implicitDefEqProofs [go_sem, h44, h11, h12, h13, hh, hf.t, hf.m, hlt, hg, hwn, hwx]
          · exact ⟨h', Sub.refl _, by rw [hbad (.inr (.inr (by rw [hcO]; exact hb3)))], rfl⟩
          refine iwp_drawn_of mixed [0,1,2,3,4,5,6,7,8,9,10,11,12,13,14,15,16] (by kernel_rfl) ?_
          simp -implicitDefEqProofs [go_sem, h44, h11, h12, h13, hh, hf.t, hf.m, hlt, hg, hwn, hwx]
          refine aK_own (z := 4) (S := [119, 135]) ho1 (by simp) elT_140 elZ_23 (by simp [roomy, byT_23]; omega) (Rct.rows_uni _) (by simp [uni]) ?_
          intro v1' x'' ho1'' hx''
          simp -implicitDefEqProofs [go_sem, h44, h11, h12, h13, hh, hf.t, hf.m, hf, hlt, hg, hwn, hw]
          refine hJ _ ⟨i + 1, v1', v2, off + l[i], ps ++ [cutP true r off l[i]], ls, by omega, rfl, rfl, ?_, h12, ho2.congr (fun s hs => hx'' s (by simp at hs ⊢; omega)), rfl, ?_, hh⟩ (by simp [go_sem, h44, hw]; omega)
          · rw [List.map_append]; exact ho1''
          · rw [hst, if_neg (by rw [cutBad, hcO]; simp only [cutW]; simp; omega), hcO, hcL]
      · simp -implicitDefEqProofs [go_sem, h44, h11, h12, h13, hh, hf.t, hf.m]
        have hii : i = l.length := by omega
        rw [hii, List.take_length] at hF
        refine cK_bne (fun hb => ?_) (fun hb => ?_) <;> simp -implicitDefEqProofs [go_sem, h44, h11, h12, h13, hh, hf.t, hf.m, ho1.strip, ho2.strip]
        · exact ⟨h', Sub.refl _, by rw [hcs, hF]; simp only [cutW]; simp [hb]; rfl, rfl⟩
        · exact ⟨h', Sub.refl _, by rw [hcs, hF]; simp only [cutW]; simp [hb]; rfl, rfl⟩
  · have hcs : cutS r 2 l = match cutF false r l with | some (off, ps, ls) => if off = cutW false r then some (ps, ls) else none | none => none := by
      rw [cutS, if_pos ⟨hm', by omega, by omega, hne⟩]; rfl
    simp -implicitDefEqProofs [go_sem]
    refine iwp_loopF (rng [6,7,8,11,12,13,14] 44 142) nom (fun s => ∃ i v1 v2 off ps ls, i ≤ l.length ∧ s.t 44 = .int .i64 i ∧ s.t 11 = v1 ∧ Own [119, 135] s.x 23 v1 (ps.map Rct.row) ∧ s.t 12 = v2 ∧ Own [62, 74] s.x 23 v2 (ls.map Rct.row) ∧ s.t 13 = .int .i64 off ∧ cutF false r (l.take i) = some (off, ps, ls) ∧ s.h = h')
       (fun s => l.length - tn (s.t 44)) ?_ ?_
    · refine ⟨0, .list .tight [], .list .tight [], 0, [], [], ?_⟩
      simp -implicitDefEqProofs [go_sem, Own.tight, cutF]
    · rintro J s hJ hf ⟨i, v1, v2, off, ps, ls, hi, h44, h11, ho1, h12, ho2, h13, hF, hh⟩
      have hlen := cutF_len _ _ _ _ _ _ hF
      rw [List.length_take, Nat.min_eq_left hi] at hlen
      have hoff : 0 ≤ off ∧ off ≤ 10000 := by
        refine ⟨hlen.2.2.1, ?_⟩
        by_cases hz : l.take i = []
        · rw [hz] at hF; cases hF; omega
        · have := hlen.2.2.2 hz; simp only [cutW] at this; simp at this; omega
      have hwx : IntKind.i64.wrap (r.y + off) = r.y + off := wrap_in (by omega)
      have hwo : IntKind.i64.wrap (off + 1) = off + 1 := wrap_in (by omega)
      simp -implicitDefEqProofs [go_sem, h44, h11, h12, h13, hh, hf.t, hf.m]
      refine cK_dec (fun hlt => ?_) (fun hge => ?_)
      · have hg : l[i]? = some l[i] := List.getElem?_eq_getElem hlt
        have hw := wrap_succ (i := i) (by omega)
        have hst := cutF_succ false r l i hlt
        rw [hF, cutStep] at hst
        have hbad : cutBad false r off l[i] ps → cutV (cutS r 2 l) = .tup [.list .plain [], .list .plain [], .bool false] := fun hb => by
          rw [if_pos hb] at hst
          rw [hcs, cutF_stop _ _ _ _ hst]; rfl
        simp -implicitDefEqProofs [go_sem, h44, h11, h12, h13, hh, hf.t, hf.m]
        refine cK_dec (fun hi0 => ?_) (fun hi0 => ?_)
        · simp -implicitDefEqProofs [go_sem, h44, h11, h12, h13, hh, hf.t, hf.m, hlt, hg, hwx]
          refine aK_own (z := 4) (S := [62, 74]) ho2 (by simp) elT_140 elZ_23 (by simp [roomy, byT_23]; omega) (Rct.rows_uni _) (by simp [uni]) ?_
          intro v2' x' ho2' hx'
          have ho1' : Own [119, 135] x' 23 v1 (ps.map Rct.row) := ho1.congr (fun s hs => hx' s (by simp at hs ⊢; omega))
          have hps : ∃ p ps0, ps = p :: ps0 := by
            cases ps with
            | nil => simp at hlen; omega
            | cons p ps0 => exact ⟨p, ps0, rfl⟩
          have hcO : cutO off ps = off + 1 := by obtain ⟨p, ps0, rfl⟩ := hps; rfl
          have hcL : cutL false r off ps ls = ls ++ [cutP false r off 1] := by obtain ⟨p, ps0, rfl⟩ := hps; rfl
          have ho2c : Own [62, 74] x' 23 v2' ((cutL false r off ps ls).map Rct.row) := by rw [hcL, List.map_append]; exact ho2'
          have hwx2 : IntKind.i64.wrap (r.y + (off + 1)) = r.y + (off + 1) := wrap_in (by omega)
          clear ho2' hx' ho1 ho2
          simp -implicitDefEqProofs [go_sem, h44, h11, h12, h13, hh, hf.t, hf.m, hlt, hg, hwo, hwx2]
          refine cK_dec (fun hb1 => ?_) (fun hb1 => ?_) <;> simp -implicitDefEqProofs [go_sem, h44, h11, h12, h13, hh, hf.t, hf.m, hlt, hg, hwo, hwx2]
          · exact ⟨h', Sub.refl _, by rw [hbad (.inl hb1)], rfl⟩
          refine cK_dec (fun hb2 => ?_) (fun hb2 => ?_) <;> simp -implicitDefEqProofs [go_sem, h44, h11, h12, h13, hh, hf.t, hf.m, hlt, hg, hwo, hwx2]
          · exact ⟨h', Sub.refl _, by rw [hbad (.inr (.inl hb2))], rfl⟩
          have hwn : IntKind.i64.wrap (off + 1 + l[i]) = off + 1 + l[i] := wrap_in (by omega)
          simp -implicitDefEqProofs [go_sem, hwn]
          refine cK_dec (fun hb3 => ?_) (fun hb3 => ?_) <;> simp -implicitDefEqProofs [go_sem, h44, h11, h12, h13, hh, hf.t, hf.m, hlt, hg, hwo, hwn, hwx2]
          · exact ⟨h', Sub.refl _, by rw [hbad (.inr (.inr (by rw [hcO]; exact hb3)))], rfl⟩
          refine iwp_drawn_of mixed [0,1,2,3,4,5,6,7,8,9,10,11,12,13,14,15,16] (by kernel_rfl) ?_
          simp -implicitDefEqProofs [go_sem, h44, h11, h12, h13, hh, hf.t, hf.m, hlt, hg, hwo, hwn, hwx2]
          refine aK_own (z := 4) (S := [119, 135]) ho1' (by simp) elT_140 elZ_23 (by simp [roomy, byT_23]; omega) (Rct.rows_uni _) (by simp [uni]) ?_
          intro v1' x'' ho1'' hx''
          simp -implicitDefEqProofs [go_sem, h44, h11, h12, h13, hh, hf.t, hf.m, hf, hlt, hg, hwo, hwn, hw]
          refine hJ _ ⟨i + 1, v1', v2', off + 1 + l[i], ps ++ [cutP false r (off + 1) l[i]], cutL false r off ps ls, by omega, rfl, rfl, ?_, rfl, ho2c.congr (fun s hs => hx'' s (by simp at hs ⊢; omega)), rfl, ?_, hh⟩ (by simp [go_sem, h44, hw]; omega)
          · rw [List.map_append]; exact ho1''
          · rw [hst, if_neg (by rw [cutBad, hcO]; simp only [cutW]; simp; omega), hcO]
        · have hi0' : i = 0 := by omega
          have hps : ps = [] := List.eq_nil_of_length_eq_zero (by omega)
          have hcO : cutO off ps = off := by rw [hps]; rfl
          have hcL : cutL false r off ps ls = ls := by rw [hps]; rfl
          simp -implicitDefEqProofs [go_sem, h44, h11, h12, h13, hh, hf.t, hf.m, hlt, hg, hwx]
          refine cK_dec (fun hb1 => ?_) (fun hb1 => ?_) <;> simp -implicitDefEqProofs [go_sem, h44, h11, h12, h13, hh, hf.t, hf.m, hlt, hg, hwx]
          · exact ⟨h', Sub.refl _, by rw [hbad (.inl hb1)], rfl⟩
          refine cK_dec (fun hb2 => ?_) (fun hb2 => ?_) <;> simp -implicitDefEqProofs [go_sem, h44, h11, h12, h13, hh, hf.t, hf.m, hlt, hg, hwx]
          · exact ⟨h', Sub.refl _, by rw [hbad (.inr (.inl hb2))], rfl⟩
          have hwn : IntKind.i64.wrap (off + l[i]) = off + l[i] := wrap_in (by omega)
          simp -implicitDefEqProofs [go_sem, hwn]
          refine cK_dec (fun hb3 => ?_) (fun hb3 => ?_) <;> simp -implicitDefEqProofs [go_sem, h44, h11, h12, h13, hh, hf.t, hf.m, hlt, hg, hwn, hwx]
          · exact ⟨h', Sub.refl _, by rw [hbad (.inr (.inr (by rw [hcO]; exact hb3)))], rfl⟩
          refine iwp_drawn_of mixed [0,1,2,3,4,5,6,7,8,9,10,11,12,13,14,15,16] (by kernel_rfl) ?_
          simp -implicitDefEqProofs [go_sem, h44, h11, h12, h13, hh, hf.t, hf.m, hlt, hg, hwn, hwx]
          refine aK_own (z := 4) (S := [119, 135]) ho1 (by simp) elT_140 elZ_23 (by simp [roomy, byT_23]; omega) (Rct.rows_uni _) (by simp [uni]) ?_
          intro v1' x'' ho1'' hx''
          simp -implicitDefEqProofs [go_sem, h44, h11, h12, h13, hh, hf.t, hf.m, hf, hlt, hg, hwn, hw]
          refine hJ _ ⟨i + 1, v1', v2, off + l[i], ps ++ [cutP false r off l[i]], ls, by omega, rfl, rfl, ?_, h12, ho2.congr (fun s hs => hx'' s (by simp at hs ⊢; omega)), rfl, ?_, hh⟩ (by simp [go_sem, h44, hw]; omega)
          · rw [List.map_append]; exact ho1''
          · rw [hst, if_neg (by rw [cutBad, hcO]; simp only [cutW]; simp; omega), hcO, hcL]
      · simp -implicitDefEqProofs [go_sem, h44, h11, h12, h13, hh, hf.t, hf.m]
        have hii : i = l.length := by omega
        rw [hii, List.take_length] at hF
        refine cK_bne (fun hb => ?_) (fun hb => ?_) <;> simp -implicitDefEqProofs [go_sem, h44, h11, h12, h13, hh, hf.t, hf.m, ho1.strip, ho2.strip]
        · exact ⟨h', Sub.refl _, by rw [hcs, hF]; simp only [cutW]; simp [hb]; rfl, rfl⟩
        · exact ⟨h', Sub.refl _, by rw [hcs, hF]; simp only [cutW]; simp [hb]; rfl, rfl⟩
end Go.Proofs

set_option linter.unusedVariables false
set_option linter.unusedSimpArgs false
set_option pp.deepTerms false
set_option pp.maxSteps 400
namespace Go.Proofs
open Go.Idl

/-- a cell alone is right -/
def Cel.Ok (d : Cel) : Prop := d.r.may = true ∧ ((d.kind = 1 ∧ d.kids.length = 0 ∧ 0 ≤ d.id ∧ d.id ≤ 2147483647) ∨ ((d.kind = 2 ∨ d.kind = 3) ∧ 2 ≤ d.kids.length ∧ d.id = 0))
instance (d : Cel) : Decidable d.Ok := by unfold Cel.Ok; exact inferInstance
def Cel.may (c : Cel) : Bool := decide (c.size ≤ 20000 ∧ (∀ d ∈ c.all, d.Ok) ∧ c.ids.Nodup)

theorem get_all_no {c : Cel} {i : Nat} (h : i < c.all.length) (hn : ¬ (c.all[i]).Ok) : c.may = false := by
  rw [Cel.may, decide_eq_false_iff_not]
  exact fun hh => hn (hh.2.1 _ (List.getElem_mem h))

theorem ids_len (c : Cel) : c.ids.length = c.leaves.length := by simp [Cel.ids]
theorem ids_get (c : Cel) (i : Nat) (h : i < c.leaves.length) : c.ids[i]'(by rw [ids_len]; exact h) = c.leaves[i].id := by simp [Cel.ids]

set_option maxRecDepth 20000 in
set_option maxHeartbeats 4000000 in
theorem may05_c (c : Cel) (h : Heap) (hs : c.size < 100000000000) : ICall Tryz.prog 136 [.agg c.row] h (retP (.bool c.may) h) := by
  have hal := Cel.all_length c
  have hll : c.leaves.length ≤ c.all.length := List.length_filter_le _ _
  refine icall_of_iwp (fun _ => 0) Tryz.func136 rfl (by kernel_rfl) (Nat.le_of_ble_eq_true rfl) ?_
  rw [Tryz.results136]
  simp -implicitDefEqProofs [go_sem]
  refine (all_c c h hs).mono ?_
  rintro e h' ⟨rfl, rfl⟩
  simp -implicitDefEqProofs [go_sem]
  refine cK_dec (fun hm => ?_) (fun hm => ?_) <;> simp -implicitDefEqProofs [go_sem]
  · refine ⟨h', Sub.refl _, ?_, rfl⟩
    have : c.may = false := by rw [Cel.may, decide_eq_false_iff_not]; intro hh; omega
    rw [this]
  refine iwp_loopF (rng [2,4] 15 97) nom (fun s => ∃ i, i ≤ c.all.length ∧ s.t 15 = .int .i64 i ∧ (∀ d ∈ c.all.take i, d.Ok) ∧ s.h = h') (fun s => c.all.length - tn (s.t 15)) ?_ ?_
  · exact ⟨0, Nat.zero_le _, by simp -implicitDefEqProofs [go_sem], by simp, by simp -implicitDefEqProofs [go_sem]⟩
  · rintro J s hJ hf ⟨i, hi, h15, hok, hh⟩
    simp -implicitDefEqProofs [go_sem, h15, hh, hf.t, hf.m]
    refine cK_dec (fun hlt => ?_) (fun hge => ?_)
    · have hg : c.all[i]? = some c.all[i] := List.getElem?_eq_getElem hlt
      have hw := wrap_succ (i := i) (by omega)
      have hret : ¬ (c.all[i]).Ok → c.may = false := get_all_no hlt
      have hgo : (c.all[i]).Ok → ∀ d ∈ c.all.take (i + 1), d.Ok := fun h d hd => by
        rw [List.take_add_one, hg] at hd
        rcases List.mem_append.1 hd with h1 | h1
        · exact hok d h1
        · simp at h1; subst h1; exact h
      simp -implicitDefEqProofs [go_sem, h15, hh, hf.t, hf.m, hlt, hg]
      refine (may04_c _ h').mono ?_
      rintro e h'' ⟨rfl, rfl⟩
      simp -implicitDefEqProofs [go_sem, h15, hh, hf.t, hf.m, hlt, hg]
      refine cK_any (fun k1 => ?_) (fun k1 => ?_) <;> simp -implicitDefEqProofs [go_sem, h15, hh, hf.t, hf.m, hlt, hg]
      · exact ⟨h'', Sub.refl _, by rw [hret (fun hh => by simp [hh.1] at k1)], rfl⟩
      refine cK_dec (fun k2 => ?_) (fun k2 => ?_) <;> simp -implicitDefEqProofs [go_sem, h15, hh, hf.t, hf.m, hlt, hg]
      · exact ⟨h'', Sub.refl _, by rw [hret (fun hh => by have := hh.2; omega)], rfl⟩
      refine cK_dec (fun k3 => ?_) (fun k3 => ?_) <;> simp -implicitDefEqProofs [go_sem, h15, hh, hf.t, hf.m, hlt, hg]
      · exact ⟨h'', Sub.refl _, by rw [hret (fun hh => by have := hh.2; omega)], rfl⟩
      have k1' : (c.all[i]).r.may = true := by simpa using k1
      refine cK_beq (fun k4 => ?_) (fun k4 => ?_) <;> simp -implicitDefEqProofs [go_sem, h15, hh, hf.t, hf.m, hlt, hg]
      · refine cK_dec (fun k5 => ?_) (fun k5 => ?_) <;> simp -implicitDefEqProofs [go_sem, h15, hh, hf.t, hf.m, hlt, hg]
        · exact ⟨h'', Sub.refl _, by rw [hret (fun hh => by have := hh.2; omega)], rfl⟩
        refine cK_dec (fun k6 => ?_) (fun k6 => ?_) <;> simp -implicitDefEqProofs [go_sem, h15, hh, hf.t, hf.m, hlt, hg]
        · exact ⟨h'', Sub.refl _, by rw [hret (fun hh => by have := hh.2; omega)], rfl⟩
        refine cK_dec (fun k7 => ?_) (fun k7 => ?_) <;> simp -implicitDefEqProofs [go_sem, h15, hh, hf.t, hf.m, hlt, hg]
        · exact ⟨h'', Sub.refl _, by rw [hret (fun hh => by have := hh.2; omega)], rfl⟩
        simp -implicitDefEqProofs [go_sem, h15, hh, hf.t, hf.m, hf, hlt, hg, k4, hw]
        exact hJ _ ⟨i + 1, by omega, rfl, hgo ⟨k1', .inl (by omega)⟩, by simp -implicitDefEqProofs [go_sem, hh]⟩ (by simp [go_sem, h15, hw]; omega)
      · refine cK_dec (fun k5 => ?_) (fun k5 => by omega) <;> simp -implicitDefEqProofs [go_sem, h15, hh, hf.t, hf.m, hlt, hg]
        refine cK_dec (fun k6 => ?_) (fun k6 => ?_) <;> simp -implicitDefEqProofs [go_sem, h15, hh, hf.t, hf.m, hlt, hg]
        · exact ⟨h'', Sub.refl _, by rw [hret (fun hh => by have := hh.2; omega)], rfl⟩
        refine cK_bne (fun k7 => ?_) (fun k7 => ?_) <;> simp -implicitDefEqProofs [go_sem, h15, hh, hf.t, hf.m, hlt, hg]
        · exact ⟨h'', Sub.refl _, by rw [hret (fun hh => by have := hh.2; omega)], rfl⟩
        simp -implicitDefEqProofs [go_sem, h15, hh, hf.t, hf.m, hf, hlt, hg, hw]
        exact hJ _ ⟨i + 1, by omega, rfl, hgo ⟨k1', .inr (by omega)⟩, by simp -implicitDefEqProofs [go_sem, hh]⟩ (by simp [go_sem, h15, hw]; omega)
    · simp -implicitDefEqProofs [go_sem, h15, hh, hf.t, hf.m]
      have hall : ∀ d ∈ c.all, d.Ok := by rw [List.take_of_length_le (by omega)] at hok; exact hok
      refine (leaves_c c h' hs).mono ?_
      rintro e h'' ⟨rfl, rfl⟩
      simp -implicitDefEqProofs [go_sem]
      refine iwp_loopF (rng [2,6,7] 102 121) nom (fun s => ∃ i, i ≤ c.leaves.length ∧ s.t 102 = .int .i64 i ∧ (c.ids.take i).Nodup ∧ s.h = h'') (fun s => c.leaves.length - tn (s.t 102)) ?_ ?_
      · exact ⟨0, Nat.zero_le _, by simp -implicitDefEqProofs [go_sem], by simp, by simp -implicitDefEqProofs [go_sem]⟩
      clear hJ h15 hh hi J
      rintro J s2 hJ hf2 ⟨i, hi, h102, hnd, hh⟩
      simp -implicitDefEqProofs [go_sem, h102, hh, hf2.t, hf2.m]
      refine cK_dec (fun hlt => ?_) (fun hge => ?_)
      · have hg : c.leaves[i]? = some c.leaves[i] := List.getElem?_eq_getElem hlt
        have hw := wrap_succ (i := i) (by omega)
        simp -implicitDefEqProofs [go_sem, h102, hh, hf2.t, hf2.m, hlt, hg]
        refine iwp_loopF (rng [2,7] 105 120) nom (fun s => ∃ k, k ≤ i ∧ s.t 7 = .int .i64 k ∧ c.leaves[i].id ∉ c.ids.take k ∧ s.h = h'') (fun s => i - tn (s.t 7)) ?_ ?_
        · exact ⟨0, Nat.zero_le _, by simp -implicitDefEqProofs [go_sem], by simp, by simp -implicitDefEqProofs [go_sem, hh]⟩
        rintro J2 s3 hJ2 hf3 ⟨k, hk, h7, hni, hh3⟩
        simp -implicitDefEqProofs [go_sem, h7, hh3, hf3.t, hf3.m, hf2.t, hf2.m, h102]
        refine cK_dec (fun hlt3 => ?_) (fun hge3 => ?_)
        · have hltk : k < c.leaves.length := by omega
          have hgk : c.leaves[k]? = some c.leaves[k] := List.getElem?_eq_getElem hltk
          have hwk := wrap_succ (i := k) (by omega)
          simp -implicitDefEqProofs [go_sem, h7, hh3, hf3.t, hf3.m, hf2.t, hf2.m, h102]
          refine iwp_drawn_of mixed [0,1,2,3,4,5,6,7,8,9,10] (by kernel_rfl) ?_
          simp -implicitDefEqProofs [go_sem, h7, hh3, hf3.t, hf3.m, hf2.t, hf2.m, h102, hlt, hg, hltk, hgk]
          refine cK_beq (fun k4 => ?_) (fun k4 => ?_) <;> simp -implicitDefEqProofs [go_sem, h7, hh3, hf3.t, hf3.m, hf3, hf2.t, hf2.m, hwk]
          · refine ⟨h'', Sub.refl _, ?_, rfl⟩
            have : c.may = false := by
              rw [Cel.may, decide_eq_false_iff_not]
              intro hh
              have hp := List.pairwise_iff_getElem.1 hh.2.2 k i (by rw [ids_len]; exact hltk) (by rw [ids_len]; exact hlt) hlt3
              rw [ids_get c i hlt, ids_get c k hltk] at hp
              exact hp k4.symm
            rw [this]
          · refine hJ2 _ ⟨k + 1, by omega, rfl, ?_, hh3⟩ (by simp [go_sem, h7, hwk]; omega)
            have : c.ids[k]? = some c.leaves[k].id := by simp [Cel.ids, hgk]
            rw [List.take_add_one, this]
            simp only [List.mem_append, not_or]
            exact ⟨hni, by simp; exact k4⟩
        · have hf4 := Fr.trans2 hf2 hf3 (by simp -implicitDefEqProofs [go_sem]) (rng_sub (by decide)) nom_sub
          simp -implicitDefEqProofs [go_sem, h7, hh3, hf3.t, hf3.m, hf2.t, hf2.m, hf4, h102, hw]
          have hki : k = i := by omega
          subst hki
          refine hJ _ ⟨k + 1, by omega, by simp -implicitDefEqProofs [go_sem, hf3.t, h102, hw], ?_, by simp -implicitDefEqProofs [go_sem, hh3]⟩ (by simp [go_sem, h102, hf3.t, hw]; omega)
          have : c.ids[k]? = some c.leaves[k].id := by simp [Cel.ids, hg]
          rw [List.take_add_one, this]
          rw [List.nodup_append]
          refine ⟨hnd, by simp, ?_⟩
          intro a ha b hb
          simp at hb; subst hb
          exact fun e => hni (e ▸ ha)
      · simp -implicitDefEqProofs [go_sem, h102, hh, hf2.t, hf2.m]
        refine ⟨h'', Sub.refl _, ?_, rfl⟩
        have : c.may = true := by
          rw [Cel.may, decide_eq_true_eq]
          refine ⟨by omega, hall, ?_⟩
          rw [List.take_of_length_le (by rw [ids_len]; omega)] at hnd; exact hnd
        rw [this]
end Go.Proofs

set_option linter.unusedVariables false
set_option linter.unusedSimpArgs false
set_option pp.deepTerms false
set_option pp.maxSteps 400
namespace Go.Proofs
open Go.Idl

def Cel.one (c : Cel) : Option (List Rct) :=
  if c.kind = 1 then some [] else
  match cutS c.r (c.kind - 1) c.szs with
  | some (ps, ls) => if ps = c.kids.map Cel.r then some ls else none
  | none => none
def oneV : Option (List Rct) → IV
  | some ls => .tup [.list .plain (ls.map Rct.row), .bool true]
  | none => .tup [.list .plain [], .bool false]

theorem cutS_len {r : Rct} {ax : Int} {l : List Int} {ps ls : List Rct} (h : cutS r ax l = some (ps, ls)) : ps.length = l.length ∧ ls.length ≤ l.length := by
  unfold cutS at h
  split at h
  · split at h
    · rename_i off ps' ls' hF
      split at h
      · cases h; have := cutF_len _ _ _ _ _ _ hF; exact ⟨this.1, this.2.1⟩
      · cases h
    · cases h
  · cases h

theorem wrap_u8 {n : Int} (h : 0 ≤ n ∧ n ≤ 255) : IntKind.u8.wrap n = n := Go.IntWalk.u8_in _ (by omega)

set_option maxRecDepth 20000 in
set_option maxHeartbeats 4000000 in
theorem one_c (c : Cel) (h : Heap) (hs : c.kids.length < 100000000000) (hk1 : 1 ≤ c.kind) (hk3 : c.kind ≤ 3) : ICall Tryz.prog 137 [.agg c.row] h (retP (oneV c.one) h) := by
  refine icall_of_iwp (fun _ => 0) Tryz.func137 rfl (by kernel_rfl) (Nat.le_of_ble_eq_true rfl) ?_
  rw [Tryz.results137]
  simp -implicitDefEqProofs [go_sem]
  refine cK_beq (fun hk => ?_) (fun hk => ?_) <;> simp -implicitDefEqProofs [go_sem]
  · exact ⟨h, Sub.refl _, by rw [Cel.one, if_pos hk]; rfl, rfl⟩
  have hwk : IntKind.u8.wrap (c.kind - 1) = c.kind - 1 := wrap_u8 (by omega)
  have hone : c.one = match cutS c.r (c.kind - 1) c.szs with | some (ps, ls) => if ps = c.kids.map Cel.r then some ls else none | none => none := by rw [Cel.one, if_neg hk]
  refine iwp_drawn_of mixed [0, 1, 2, 3, 4, 5, 6, 7, 8, 9, 10, 11, 12, 13, 14] (by kernel_rfl) ?_
  simp -implicitDefEqProofs [go_sem, hwk]
  refine ⟨_, sizes_c c h hs, ?_⟩
  simp -implicitDefEqProofs [go_sem, hwk]
  refine ⟨_, cut_c c.r (c.kind - 1) c.szs h (by simp [Cel.szs]; exact hs), ?_⟩
  cases hcut : cutS c.r (c.kind - 1) c.szs with
  | none =>
    simp -implicitDefEqProofs [go_sem, hwk, cutV]
    exact ⟨h, Sub.refl _, by rw [hone, hcut]; rfl, rfl⟩
  | some p =>
    obtain ⟨ps, ls⟩ := p
    have hlen := cutS_len hcut
    rw [show c.szs.length = c.kids.length by simp [Cel.szs]] at hlen
    rw [hcut] at hone
    simp only at hone
    simp -implicitDefEqProofs [go_sem, hwk, cutV]
    refine iwp_loopF (rng [2,3,7] 29 44) nom (fun s => ∃ i, i ≤ ps.length ∧ s.t 29 = .int .i64 i ∧ ps.take i = (c.kids.map Cel.r).take i ∧ s.h = h) (fun s => ps.length - tn (s.t 29)) ?_ ?_
    · exact ⟨0, Nat.zero_le _, by simp -implicitDefEqProofs [go_sem], by simp, by simp -implicitDefEqProofs [go_sem]⟩
    rintro J s hJ hf ⟨i, hi, h29, heq, hh⟩
    simp -implicitDefEqProofs [go_sem, h29, hh, hf.t, hf.m]
    refine cK_dec (fun hlt => ?_) (fun hge => ?_)
    · have hg : ps[i]? = some ps[i] := List.getElem?_eq_getElem hlt
      have hltk : i < c.kids.length := by omega
      have hgk : c.kids[i]? = some c.kids[i] := List.getElem?_eq_getElem hltk
      have hw := wrap_succ (i := i) (by omega)
      simp -implicitDefEqProofs [go_sem, h29, hh, hf.t, hf.m]
      refine iwp_drawn_of mixed [0, 1, 2, 3, 4, 5, 6, 7, 8, 9, 10] (by kernel_rfl) ?_
      simp -implicitDefEqProofs [go_sem, h29, hh, hf.t, hf.m, hlt, hg, hltk, hgk]
      refine cK_any (fun k1 => ?_) (fun k1 => ?_) <;> simp -implicitDefEqProofs [go_sem, h29, hh, hf.t, hf.m, hf, hlt, hg, hltk, hgk, hw]
      · refine ⟨h, Sub.refl _, ?_, rfl⟩
        rw [hone, if_neg]
        · rfl
        · intro e
          have : ps[i] = c.kids[i].r := by simp [e]
          simp [this] at k1
      · refine hJ _ ⟨i + 1, by omega, rfl, ?_, by simp -implicitDefEqProofs [go_sem, hh]⟩ (by simp [go_sem, h29, hw]; omega)
        have k2 : ps[i] = c.kids[i].r := by simpa using k1
        rw [List.take_add_one, List.take_add_one, heq, hg]
        simp [hgk, k2]
    · simp -implicitDefEqProofs [go_sem, h29, hh, hf.t, hf.m]
      refine ⟨h, Sub.refl _, ?_, rfl⟩
      rw [List.take_of_length_le (by omega), List.take_of_length_le (by simp; omega)] at heq
      rw [hone, if_pos heq]; rfl

def chkL : List Cel → Nat → List Rct → List Rct × Int × Int
  | [], _, acc => (acc, 0, 0)
  | d :: ds, i, acc => match d.one with | some ls => chkL ds (i + 1) (acc ++ ls) | none => ([], 5, i)
def Cel.check (c : Cel) : List Rct × Int × Int := if c.may = true then chkL c.all 0 [] else ([], 1, 0)
def checkV (x : List Rct × Int × Int) : IV := .tup [.list .plain (x.1.map Rct.row), .int .i64 x.2.1, .int .i64 x.2.2]
def Cel.tiles (c : Cel) : Bool := decide (c.check.2.1 = 0)

theorem mem_alls {d : Cel} : ∀ {l : List Cel}, d ∈ Cel.alls l → ∃ k ∈ l, d ∈ k.all
  | [], h => by simp [Cel.alls] at h
  | c :: cs, h => by
    simp only [Cel.alls, List.mem_append] at h
    rcases h with h | h
    · exact ⟨c, List.mem_cons_self, h⟩
    · obtain ⟨k, h1, h2⟩ := mem_alls h; exact ⟨k, List.mem_cons_of_mem _ h1, h2⟩
theorem mem_all_size (c : Cel) : ∀ d ∈ c.all, d.size ≤ c.size := by
  induction c using Cel.induct
  rename_i c ih
  intro d hd
  rw [c.all_eq] at hd
  rcases List.mem_cons.1 hd with rfl | hd
  · exact Nat.le_refl _
  · obtain ⟨k, h1, h2⟩ := mem_alls hd
    have := ih k h1 d h2
    have := Cel.mem_le h1
    rw [c.size_eq]; omega
theorem one_len {c : Cel} {ls : List Rct} (h : c.one = some ls) : ls.length ≤ c.kids.length := by
  unfold Cel.one at h
  split at h
  · cases h; simp
  · split at h
    · rename_i ps ls' hc
      split at h
      · cases h; have := (cutS_len hc).2; simpa [Cel.szs] using this
      · cases h
    · cases h

set_option maxRecDepth 20000 in
set_option maxHeartbeats 4000000 in
theorem check06_c (c : Cel) (h : Heap) (hs : c.size < 100000000000) : ICall Tryz.prog 87 [.agg c.row] h (retP (checkV c.check) h) := by
  refine icall_of_iwp (fun _ => 0) Tryz.func87 rfl (by kernel_rfl) (Nat.le_of_ble_eq_true rfl) ?_
  rw [Tryz.results87]
  simp -implicitDefEqProofs [go_sem]
  refine (may05_c c h hs).mono ?_
  rintro e h' ⟨rfl, rfl⟩
  simp -implicitDefEqProofs [go_sem]
  refine cK_any (fun hm => ?_) (fun hm => ?_) <;> simp -implicitDefEqProofs [go_sem]
  · exact ⟨h', Sub.refl _, by rw [Cel.check, if_neg (by simpa using hm)]; rfl, rfl⟩
  have hm' : c.may = true := by simpa using hm
  have hmb := hm'
  rw [Cel.may, decide_eq_true_eq] at hmb
  have hal := Cel.all_length c
  refine (all_c c h' hs).mono ?_
  rintro e h'' ⟨rfl, rfl⟩
  simp -implicitDefEqProofs [go_sem]
  refine iwp_loopF (rng [2,3,4,7,8,9,10] 21 39) nom (fun s => ∃ i acc, i ≤ c.all.length ∧ s.t 21 = .int .i64 i ∧ Own [38] s.x 23 (s.t 7) (acc.map Rct.row) ∧ acc.length ≤ i * 20000 ∧ chkL (c.all.drop i) i acc = chkL c.all 0 [] ∧ s.h = h'') (fun s => c.all.length - tn (s.t 21)) ?_ ?_
  · exact ⟨0, [], Nat.zero_le _, by simp -implicitDefEqProofs [go_sem], by simp -implicitDefEqProofs [go_sem, Own.tight], by simp, by simp, by simp -implicitDefEqProofs [go_sem]⟩
  rintro J s hJ hf ⟨i, acc, hi, h21, ho, hacc, heq, hh⟩
  simp -implicitDefEqProofs [go_sem, h21, hh, hf.t, hf.m]
  refine cK_dec (fun hlt => ?_) (fun hge => ?_)
  · have hg : c.all[i]? = some c.all[i] := List.getElem?_eq_getElem hlt
    have hw := wrap_succ (i := i) (by omega)
    have hmem : c.all[i] ∈ c.all := List.getElem_mem hlt
    have hok := hmb.2.1 _ hmem
    have hsz := mem_all_size c _ hmem
    have hkl := Cel.len_le c.all[i].kids
    rw [c.all[i].size_eq] at hsz
    have hdr : c.all.drop i = c.all[i] :: c.all.drop (i + 1) := List.drop_eq_getElem_cons hlt
    rw [hdr, chkL] at heq
    simp -implicitDefEqProofs [go_sem, h21, hh, hf.t, hf.m, hlt, hg]
    have hkk := hok.2
    refine (one_c c.all[i] h'' (by omega) (by omega) (by omega)).mono ?_
    rintro e h3 ⟨rfl, rfl⟩
    cases ho1 : c.all[i].one with
    | none =>
      rw [ho1] at heq
      simp -implicitDefEqProofs [go_sem, h21, hh, hf.t, hf.m, hlt, hg, oneV]
      exact ⟨h3, Sub.refl _, by rw [Cel.check, if_pos hm', ← heq]; rfl, rfl⟩
    | some ls =>
      rw [ho1] at heq
      have hll := one_len ho1
      simp -implicitDefEqProofs [go_sem, h21, hh, hf.t, hf.m, hlt, hg, oneV]
      refine aK_own (z := 4) (S := [38]) ho (by simp) elT_140 elZ_23 (by simp [roomy, byT_23]; omega) (Rct.rows_uni _) (Rct.rows_uni _) ?_
      intro v1' x'' ho' hx''
      simp -implicitDefEqProofs [go_sem, h21, hh, hf.t, hf.m, hf, hlt, hg, hw]
      exact hJ _ ⟨i + 1, acc ++ ls, by omega, by simp -implicitDefEqProofs [go_sem, hw], by simpa -implicitDefEqProofs [go_sem] using ho', by simp; omega, heq, by simp -implicitDefEqProofs [go_sem, hh]⟩ (by simp [go_sem, h21, hw]; omega)
  · simp -implicitDefEqProofs [go_sem, h21, hh, hf.t, hf.m, ho.strip]
    refine ⟨h'', Sub.refl _, ?_, rfl⟩
    rw [List.drop_of_length_le (by omega), chkL] at heq
    rw [Cel.check, if_pos hm', ← heq]; rfl

theorem tiles06_c (c : Cel) (h : Heap) (hs : c.size < 100000000000) : ICall Tryz.prog 45 [.agg c.row] h (retP (.bool c.tiles) h) := by
  refine icall_of_iwp (fun _ => 0) Tryz.func45 rfl (by kernel_rfl) (Nat.le_of_ble_eq_true rfl) ?_
  rw [Tryz.results45]
  simp -implicitDefEqProofs [go_sem]
  refine (check06_c c h hs).mono ?_
  rintro e h' ⟨rfl, rfl⟩
  simp -implicitDefEqProofs [go_sem, checkV]
  refine ⟨h', Sub.refl _, ?_, rfl⟩
  rw [Cel.tiles]; rfl
end Go.Proofs

set_option linter.unusedVariables false
set_option linter.unusedSimpArgs false
set_option pp.deepTerms false
set_option pp.maxSteps 400
namespace Go.Proofs
open Go.Idl

mutual
/-- how many leaves -/
def Cel.lv : Cel → Nat
  | .mk k _ _ kids => (if k = 1 then 1 else 0) + Cel.lvs kids
def Cel.lvs : List Cel → Nat
  | [] => 0
  | c :: cs => c.lv + Cel.lvs cs
end
mutual
/-- leaves have these numbers -/
def Cel.nm : Cel → List Int → Cel
  | .mk k r id kids, ids => .mk k r (if k = 1 then ids.headD 0 else id) (Cel.nms kids (ids.drop (if k = 1 then 1 else 0)))
def Cel.nms : List Cel → List Int → List Cel
  | [], _ => []
  | c :: cs, ids => c.nm ids :: Cel.nms cs (ids.drop c.lv)
end
theorem Cel.lv_eq (c : Cel) : c.lv = (if c.kind = 1 then 1 else 0) + Cel.lvs c.kids := by cases c; rw [Cel.lv]; rfl
theorem Cel.nm_eq (c : Cel) (ids : List Int) : c.nm ids = .mk c.kind c.r (if c.kind = 1 then ids.headD 0 else c.id) (Cel.nms c.kids (ids.drop (if c.kind = 1 then 1 else 0))) := by cases c; rw [Cel.nm]; rfl
theorem Cel.lvs_take (l : List Cel) (i : Nat) (h : i < l.length) : Cel.lvs (l.take (i + 1)) = Cel.lvs (l.take i) + l[i].lv := by
  induction l generalizing i with
  | nil => simp at h
  | cons c cs ih =>
    cases i with
    | zero => simp [Cel.lvs]
    | succ i => simp at h; simp [Cel.lvs, ih i h]; omega
theorem Cel.lvs_le (l : List Cel) (i : Nat) : Cel.lvs (l.take i) ≤ Cel.lvs l := by
  induction l generalizing i with
  | nil => simp [Cel.lvs]
  | cons c cs ih =>
    cases i with
    | zero => simp [Cel.lvs]
    | succ i => simp [Cel.lvs]; exact ih i
theorem Cel.lv_size (c : Cel) : c.lv ≤ c.size :=
  Cel.rec (motive_1 := fun c => c.lv ≤ c.size) (motive_2 := fun l => Cel.lvs l ≤ Cel.sizes l) (fun k r id kids ih => by simp only [Cel.lv, Cel.size]; split <;> omega) (by simp [Cel.lvs, Cel.sizes]) (fun c cs h1 h2 => by simp only [Cel.lvs, Cel.sizes]; omega) c
theorem Cel.lvs_sizes (l : List Cel) : Cel.lvs l ≤ Cel.sizes l := by
  induction l with
  | nil => simp [Cel.lvs, Cel.sizes]
  | cons c cs ih => have := c.lv_size; simp only [Cel.lvs, Cel.sizes]; omega
theorem Cel.nms_take (l : List Cel) (ids : List Int) (i : Nat) (h : i < l.length) : Cel.nms (l.take (i + 1)) ids = Cel.nms (l.take i) ids ++ [l[i].nm (ids.drop (Cel.lvs (l.take i)))] := by
  induction l generalizing i ids with
  | nil => simp at h
  | cons c cs ih =>
    cases i with
    | zero => simp [Cel.nms, Cel.lvs]
    | succ i => simp at h; simp [Cel.nms, ih _ i h, Cel.lvs]
theorem Cel.nms_length (l : List Cel) (ids : List Int) : (Cel.nms l ids).length = l.length := by
  induction l generalizing ids with
  | nil => simp [Cel.nms]
  | cons c cs ih => simp [Cel.nms, ih]
end Go.Proofs
