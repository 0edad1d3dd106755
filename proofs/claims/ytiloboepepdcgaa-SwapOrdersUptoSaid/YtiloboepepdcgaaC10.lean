/- This text is a part of the proofs of the statements of this seat: the ideal states and their rules, or what one of the functions that the statements reach comes to. Conditions: none beyond those that each theorem names. -/
import Derived.Test.YtiloboepepdcgaaC9
set_option linter.unusedVariables false
set_option linter.unusedSimpArgs false
set_option pp.deepTerms false
set_option pp.maxSteps 400
namespace Go.Proofs
open Go.Idl

def Cel.one (c : Cel) : Option (List Rct) :=
  if c.kind = 1 then some [] else
  match cutS c.r (c.kind - 1) c.szs with
  | some (ps, ls) => if ps = c.kids.map Cel.r then some ls else none
  | none => none
def oneV : Option (List Rct) → IV
  | some ls => .tup [.list .plain (ls.map Rct.row), .bool true]
  | none => .tup [.list .plain [], .bool false]

theorem cutS_len {r : Rct} {ax : Int} {l : List Int} {ps ls : List Rct} (h : cutS r ax l = some (ps, ls)) : ps.length = l.length ∧ ls.length ≤ l.length := by
  unfold cutS at h
  split at h
  · split at h
    · rename_i off ps' ls' hF
      split at h
      · cases h; have := cutF_len _ _ _ _ _ _ hF; exact ⟨this.1, this.2.1⟩
      · cases h
    · cases h
  · cases h

theorem wrap_u8 {n : Int} (h : 0 ≤ n ∧ n ≤ 255) : IntKind.u8.wrap n = n := Go.IntWalk.u8_in _ (by omega)

set_option maxRecDepth 20000 in
set_option maxHeartbeats 4000000 in
theorem one_c (c : Cel) (h : Heap) (hs : c.kids.length < 100000000000) (hk1 : 1 ≤ c.kind) (hk3 : c.kind ≤ 3) : ICall Try.prog 105 [.agg c.row] h (retP (oneV c.one) h) := by
  refine icall_of_iwp (fun _ => 0) Try.func105 rfl (by kernel_rfl) (Nat.le_of_ble_eq_true rfl) ?_
  rw [Try.results105]
  simp -implicitDefEqProofs [go_sem]
  refine cK_beq (fun hk => ?_) (fun hk => ?_) <;> simp -implicitDefEqProofs [go_sem]
  · exact ⟨h, Sub.refl _, by rw [Cel.one, if_pos hk]; rfl, rfl⟩
  have hwk : IntKind.u8.wrap (c.kind - 1) = c.kind - 1 := wrap_u8 (by omega)
  have hone : c.one = match cutS c.r (c.kind - 1) c.szs with | some (ps, ls) => if ps = c.kids.map Cel.r then some ls else none | none => none := by rw [Cel.one, if_neg hk]
  refine iwp_drawn_of mixed [0, 1, 2, 3, 4, 5, 6, 7, 8, 9, 10, 11, 12, 13, 14] (by kernel_rfl) ?_
  simp -implicitDefEqProofs [go_sem, hwk]
  refine ⟨_, sizes_c c h hs, ?_⟩
  simp -implicitDefEqProofs [go_sem, hwk]
  refine ⟨_, cut_c c.r (c.kind - 1) c.szs h (by simp [Cel.szs]; exact hs), ?_⟩
  cases hcut : cutS c.r (c.kind - 1) c.szs with
  | none =>
    simp -implicitDefEqProofs [go_sem, hwk, cutV]
    exact ⟨h, Sub.refl _, by rw [hone, hcut]; rfl, rfl⟩
  | some p =>
    obtain ⟨ps, ls⟩ := p
    have hlen := cutS_len hcut
    rw [show c.szs.length = c.kids.length by simp [Cel.szs]] at hlen
    rw [hcut] at hone
    simp only at hone
    simp -implicitDefEqProofs [go_sem, hwk, cutV]
    refine iwp_loopF (rng [2,3,7] 29 44) nom (fun s => ∃ i, i ≤ ps.length ∧ s.t 29 = .int .i64 i ∧ ps.take i = (c.kids.map Cel.r).take i ∧ s.h = h) (fun s => ps.length - tn (s.t 29)) ?_ ?_
    · exact ⟨0, Nat.zero_le _, by simp -implicitDefEqProofs [go_sem], by simp, by simp -implicitDefEqProofs [go_sem]⟩
    rintro J s hJ hf ⟨i, hi, h29, heq, hh⟩
    simp -implicitDefEqProofs [go_sem, h29, hh, hf.t, hf.m]
    refine cK_dec (fun hlt => ?_) (fun hge => ?_)
    · have hg : ps[i]? = some ps[i] := List.getElem?_eq_getElem hlt
      have hltk : i < c.kids.length := by omega
      have hgk : c.kids[i]? = some c.kids[i] := List.getElem?_eq_getElem hltk
      have hw := wrap_succ (i := i) (by omega)
      simp -implicitDefEqProofs [go_sem, h29, hh, hf.t, hf.m]
      refine iwp_drawn_of mixed [0, 1, 2, 3, 4, 5, 6, 7, 8, 9, 10] (by kernel_rfl) ?_
      simp -implicitDefEqProofs [go_sem, h29, hh, hf.t, hf.m, hlt, hg, hltk, hgk]
      refine cK_any (fun k1 => ?_) (fun k1 => ?_) <;> simp -implicitDefEqProofs [go_sem, h29, hh, hf.t, hf.m, hf, hlt, hg, hltk, hgk, hw]
      · refine ⟨h, Sub.refl _, ?_, rfl⟩
        rw [hone, if_neg]
        · rfl
        · intro e
          have : ps[i] = c.kids[i].r := by simp [e]
          simp [this] at k1
      · refine hJ _ ⟨i + 1, by omega, rfl, ?_, by simp -implicitDefEqProofs [go_sem, hh]⟩ (by simp [go_sem, h29, hw]; omega)
        have k2 : ps[i] = c.kids[i].r := by simpa using k1
        rw [List.take_add_one, List.take_add_one, heq, hg]
        simp [hgk, k2]
    · simp -implicitDefEqProofs [go_sem, h29, hh, hf.t, hf.m]
      refine ⟨h, Sub.refl _, ?_, rfl⟩
      rw [List.take_of_length_le (by omega), List.take_of_length_le (by simp; omega)] at heq
      rw [hone, if_pos heq]; rfl

def chkL : List Cel → Nat → List Rct → List Rct × Int × Int
  | [], _, acc => (acc, 0, 0)
  | d :: ds, i, acc => match d.one with | some ls => chkL ds (i + 1) (acc ++ ls) | none => ([], 5, i)
def Cel.check (c : Cel) : List Rct × Int × Int := if c.may = true then chkL c.all 0 [] else ([], 1, 0)
def checkV (x : List Rct × Int × Int) : IV := .tup [.list .plain (x.1.map Rct.row), .int .i64 x.2.1, .int .i64 x.2.2]
def Cel.tiles (c : Cel) : Bool := decide (c.check.2.1 = 0)

theorem mem_alls {d : Cel} : ∀ {l : List Cel}, d ∈ Cel.alls l → ∃ k ∈ l, d ∈ k.all
  | [], h => by simp [Cel.alls] at h
  | c :: cs, h => by
    simp only [Cel.alls, List.mem_append] at h
    rcases h with h | h
    · exact ⟨c, List.mem_cons_self, h⟩
    · obtain ⟨k, h1, h2⟩ := mem_alls h; exact ⟨k, List.mem_cons_of_mem _ h1, h2⟩
theorem mem_all_size (c : Cel) : ∀ d ∈ c.all, d.size ≤ c.size := by
  induction c using Cel.induct
  rename_i c ih
  intro d hd
  rw [c.all_eq] at hd
  rcases List.mem_cons.1 hd with rfl | hd
  · exact Nat.le_refl _
  · obtain ⟨k, h1, h2⟩ := mem_alls hd
    have := ih k h1 d h2
    have := Cel.mem_le h1
    rw [c.size_eq]; omega
theorem one_len {c : Cel} {ls : List Rct} (h : c.one = some ls) : ls.length ≤ c.kids.length := by
  unfold Cel.one at h
  split at h
  · cases h; simp
  · split at h
    · rename_i ps ls' hc
      split at h
      · cases h; have := (cutS_len hc).2; simpa [Cel.szs] using this
      · cases h
    · cases h

set_option maxRecDepth 20000 in
set_option maxHeartbeats 4000000 in
theorem check06_c (c : Cel) (h : Heap) (hs : c.size < 100000000000) : ICall Try.prog 77 [.agg c.row] h (retP (checkV c.check) h) := by
  refine icall_of_iwp (fun _ => 0) Try.func77 rfl (by kernel_rfl) (Nat.le_of_ble_eq_true rfl) ?_
  rw [Try.results77]
  simp -implicitDefEqProofs [go_sem]
  refine (may05_c c h hs).mono ?_
  rintro e h' ⟨rfl, rfl⟩
  simp -implicitDefEqProofs [go_sem]
  refine cK_any (fun hm => ?_) (fun hm => ?_) <;> simp -implicitDefEqProofs [go_sem]
  · exact ⟨h', Sub.refl _, by rw [Cel.check, if_neg (by simpa using hm)]; rfl, rfl⟩
  have hm' : c.may = true := by simpa using hm
  have hmb := hm'
  rw [Cel.may, decide_eq_true_eq] at hmb
  have hal := Cel.all_length c
  refine (all_c c h' hs).mono ?_
  rintro e h'' ⟨rfl, rfl⟩
  simp -implicitDefEqProofs [go_sem]
  refine iwp_loopF (rng [2,3,4,7,8,9,10] 21 39) nom (fun s => ∃ i acc, i ≤ c.all.length ∧ s.t 21 = .int .i64 i ∧ Own [38] s.x 65 (s.t 7) (acc.map Rct.row) ∧ acc.length ≤ i * 20000 ∧ chkL (c.all.drop i) i acc = chkL c.all 0 [] ∧ s.h = h'') (fun s => c.all.length - tn (s.t 21)) ?_ ?_
  · exact ⟨0, [], Nat.zero_le _, by simp -implicitDefEqProofs [go_sem], by simp -implicitDefEqProofs [go_sem, Own.tight], by simp, by simp, by simp -implicitDefEqProofs [go_sem]⟩
  rintro J s hJ hf ⟨i, acc, hi, h21, ho, hacc, heq, hh⟩
  simp -implicitDefEqProofs [go_sem, h21, hh, hf.t, hf.m]
  refine cK_dec (fun hlt => ?_) (fun hge => ?_)
  · have hg : c.all[i]? = some c.all[i] := List.getElem?_eq_getElem hlt
    have hw := wrap_succ (i := i) (by omega)
    have hmem : c.all[i] ∈ c.all := List.getElem_mem hlt
    have hok := hmb.2.1 _ hmem
    have hsz := mem_all_size c _ hmem
    have hkl := Cel.len_le c.all[i].kids
    rw [c.all[i].size_eq] at hsz
    have hdr : c.all.drop i = c.all[i] :: c.all.drop (i + 1) := List.drop_eq_getElem_cons hlt
    rw [hdr, chkL] at heq
    simp -implicitDefEqProofs [go_sem, h21, hh, hf.t, hf.m, hlt, hg]
    have hkk := hok.2
    refine (one_c c.all[i] h'' (by omega) (by omega) (by omega)).mono ?_
    rintro e h3 ⟨rfl, rfl⟩
    cases ho1 : c.all[i].one with
    | none =>
      rw [ho1] at heq
      simp -implicitDefEqProofs [go_sem, h21, hh, hf.t, hf.m, hlt, hg, oneV]
      exact ⟨h3, Sub.refl _, by rw [Cel.check, if_pos hm', ← heq]; rfl, rfl⟩
    | some ls =>
      rw [ho1] at heq
      have hll := one_len ho1
      simp -implicitDefEqProofs [go_sem, h21, hh, hf.t, hf.m, hlt, hg, oneV]
      refine aK_own (z := 4) (S := [38]) ho (by simp) elT_130 elZ_65 (by simp [roomy, byT_65]; omega) (Rct.rows_uni _) (Rct.rows_uni _) ?_
      intro v1' x'' ho' hx''
      simp -implicitDefEqProofs [go_sem, h21, hh, hf.t, hf.m, hf, hlt, hg, hw]
      exact hJ _ ⟨i + 1, acc ++ ls, by omega, by simp -implicitDefEqProofs [go_sem, hw], by simpa -implicitDefEqProofs [go_sem] using ho', by simp; omega, heq, by simp -implicitDefEqProofs [go_sem, hh]⟩ (by simp [go_sem, h21, hw]; omega)
  · simp -implicitDefEqProofs [go_sem, h21, hh, hf.t, hf.m, ho.strip]
    refine ⟨h'', Sub.refl _, ?_, rfl⟩
    rw [List.drop_of_length_le (by omega), chkL] at heq
    rw [Cel.check, if_pos hm', ← heq]; rfl

theorem tiles06_c (c : Cel) (h : Heap) (hs : c.size < 100000000000) : ICall Try.prog 43 [.agg c.row] h (retP (.bool c.tiles) h) := by
  refine icall_of_iwp (fun _ => 0) Try.func43 rfl (by kernel_rfl) (Nat.le_of_ble_eq_true rfl) ?_
  rw [Try.results43]
  simp -implicitDefEqProofs [go_sem]
  refine (check06_c c h hs).mono ?_
  rintro e h' ⟨rfl, rfl⟩
  simp -implicitDefEqProofs [go_sem, checkV]
  refine ⟨h', Sub.refl _, ?_, rfl⟩
  rw [Cel.tiles]; rfl
end Go.Proofs
