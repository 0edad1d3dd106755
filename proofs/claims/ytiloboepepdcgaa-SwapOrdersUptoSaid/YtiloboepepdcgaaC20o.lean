/- This text is a part of the proofs of the statements of this seat: the ideal states and their rules, or what one of the functions that the statements reach comes to. Conditions: none beyond those that each theorem names. -/
import Derived.Test.YtiloboepepdcgaaC19
set_option linter.unusedVariables false
set_option linter.unusedSimpArgs false
set_option pp.deepTerms false
set_option pp.maxSteps 400
namespace Go.Proofs
open Go.Idl

set_option maxRecDepth 20000 in
set_option maxHeartbeats 4000000 in
theorem flatName_c (c : Cel) (ids : List Int) (h : Heap) (hs : c.size < 100000000000) (hl : ids.length = c.ids.length) :
    ICall Try.prog 88 [.agg c.row, .list .plain (ids.map intRow)] h (retP (.tup [.agg (c.nm ids).row, .bool true]) h) := by
  have hlv := lv_ids c
  have hsz := c.lv_size
  refine icall_of_iwp (fun _ => 0) Try.func88 rfl (by kernel_rfl) (Nat.le_of_ble_eq_true rfl) ?_
  rw [Try.results88]
  simp -implicitDefEqProofs [go_sem]
  refine (cLeaves_c c h hs).mono ?_
  rintro e h' ⟨rfl, he⟩
  rw [he]
  have hb : ((c.ids.length : Int) != (ids.length : Int)) = false := by rw [hl]; simp
  simp -implicitDefEqProofs [go_sem, hb]
  refine (name_c c ids h hs (by omega) (by omega)).mono ?_
  rintro e h' ⟨rfl, he⟩
  rw [he]
  simp -implicitDefEqProofs [go_sem]
  exact ⟨h, Sub.refl _, rfl, rfl⟩

def growR (n : Nat) (h : Heap) (e : IEnd) (h' : Heap) : Prop := ∃ b cap, h b = none ∧ n ≤ cap ∧ e = .ret (.sl 1 b 0 0 cap) ∧ h' = upd h b (some (.arr 3 1 [] cap))
set_option maxRecDepth 20000 in
theorem grow_c (n : Nat) (h : Heap) (h0 : 0 < n) (hn : n < 100000000000) : ICall Try.prog 107 [.list .tight [], .int .i64 n] h (growR n h) := by
  refine icall_of_iwp (fun d => if d = 22 then 6 else 0) Try.func107 rfl (by kernel_rfl) (Nat.le_of_ble_eq_true rfl) ?_
  rw [Try.results107]
  have hw : IntKind.i64.wrap (n : Int) = n := wrap_in (by omega)
  have hw0 : IntKind.i64.wrap (0 : Int) = 0 := wrap_in (by omega)
  have h1 : ¬ ((n : Int) < 0) := by omega
  have h2 : (0 : Int) < n := by omega
  simp -implicitDefEqProofs [go_sem, h1, hw, hw0, h0]
  refine ⟨by simp [roomy, byT_3]; omega, ?_⟩
  intro b cap hb hcap
  have hc : 0 < cap := by omega
  simp -implicitDefEqProofs [go_sem, hc]
  exact ⟨_, Sub.refl _, b, cap, hb, hcap, rfl, rfl⟩

def lrow (l : List Int) : List IV := [.list .plain (l.map intRow)]
@[go_sem] theorem lrow_len (l : List Int) : (lrow l).length = 1 := rfl
@[go_sem high] theorem lrow_take (l : List Int) : (lrow l).take 1 = [.list .plain (l.map intRow)] := rfl
@[go_sem high] theorem lrows_uni (l : List (List Int)) : uni 1 (l.map lrow) = true := by simp [uni, lrow]

set_option maxRecDepth 20000 in
set_option maxHeartbeats 4000000 in
theorem concat_c (l : List (List Int)) (out : List Int) (hout : l.flatten = out) (h : Heap) (hl : l.length < 1000000) (h0 : 0 < out.length) (hn : out.length < 100000000000) :
    ICall Try.prog 85 [.list .plain (l.map lrow)] h (retP (.list .plain (out.map intRow)) h) := by
  suffices H : ICall Try.prog 85 [.list .plain (l.map lrow)] h (fun e h' => ∃ b cap, h b = none ∧ e = .ret (.sl 1 b 0 out.length cap) ∧ h' = upd h b (some (.arr 3 1 (out.map intRow) cap))) by
    refine H.fz ?_
    rintro e h' ⟨b, cap, hb, rfl, rfl⟩
    refine .inr ⟨_, b, 3, 1, out.map intRow, cap, rfl, by simp [upd], ?_, ?_⟩
    · simp only [fz3, fz2, fz1]
      rw [if_pos ⟨trivial, trivial, by simp⟩, List.drop_zero, List.take_of_length_le (by simp)]
    · funext j
      simp only [dropH, upd]
      split
      · rename_i e; rw [e, hb]
      · rfl
  have hfl : ∀ i, (l.take i).flatten.length ≤ out.length := fun i => by
    rw [← hout]
    have := congrArg List.length (congrArg List.flatten (List.take_append_drop i l))
    rw [List.flatten_append, List.length_append] at this; omega
  have hfs : ∀ i (hi : i < l.length), (l.take (i + 1)).flatten = (l.take i).flatten ++ l[i] := fun i hi => by
    rw [List.take_add_one, List.getElem?_eq_getElem hi, List.flatten_append]; simp
  refine icall_of_iwp (fun d => if d = 24 then 5 else if d = 33 then 2 else 0) Try.func85 rfl (by kernel_rfl) (Nat.le_of_ble_eq_true rfl) ?_
  rw [Try.results85]
  simp -implicitDefEqProofs [go_sem]
  refine iwp_loopF (rng [3,5] 11 22) nom (fun s => ∃ i n : Nat, i ≤ l.length ∧ s.t 11 = .int .i64 i ∧ s.t 3 = .int .i64 n ∧ n = (l.take i).flatten.length ∧ s.h = h) (fun s => l.length - tn (s.t 11)) ?_ ?_
  · exact ⟨0, 0, Nat.zero_le _, by simp -implicitDefEqProofs [go_sem], by simp -implicitDefEqProofs [go_sem], by simp, by simp -implicitDefEqProofs [go_sem]⟩
  rintro J s hJ hf ⟨i, n, hi, h11, h3, hn2, hh⟩
  simp -implicitDefEqProofs [go_sem, h11, h3, hh, hf.t, hf.m]
  refine cK_dec (fun hlt => ?_) (fun hge => ?_)
  · have hg : l[i]? = some l[i] := List.getElem?_eq_getElem hlt
    have hw := wrap_succ (i := i) (by omega)
    have h5 := hfs i hlt
    have h6 := hfl (i + 1)
    rw [h5, List.length_append] at h6
    obtain ⟨m, hm⟩ : ∃ m, m = n + l[i].length := ⟨_, rfl⟩
    have hw2 : IntKind.i64.wrap ((n : Int) + (l[i].length : Int)) = (m : Int) := by rw [wrap_in (by omega)]; omega
    have hneg : ¬ ((m : Int) < 0) := by omega
    simp -implicitDefEqProofs [go_sem, h11, h3, hh, hf.t, hf.m, hf, hlt, hg, hw, hw2, hneg]
    exact hJ _ ⟨i + 1, m, by omega, by simp -implicitDefEqProofs [go_sem, hw], by simp -implicitDefEqProofs [go_sem], by rw [h5, List.length_append]; omega, by simp -implicitDefEqProofs [go_sem, hh]⟩ (by simp [go_sem, h11, hw]; omega)
  · obtain rfl : i = l.length := by omega
    rw [List.take_length, hout] at hn2
    simp -implicitDefEqProofs [go_sem, h11, h3, hh, hf.t, hf.m]
    refine (grow_c n h (by omega) (by omega)).mono ?_
    rintro e h' ⟨b, cap, hb, hcap, rfl, he⟩
    rw [he]
    simp -implicitDefEqProofs [go_sem, h11, h3, hh, hf.t, hf.m]
    clear hJ J
    refine iwp_loopF (rng [6,8] 27 34) nom (fun s => ∃ i n : Nat, i ≤ l.length ∧ s.t 27 = .int .i64 i ∧ s.t 6 = .sl 1 b 0 n cap ∧ n = (l.take i).flatten.length ∧ s.h = upd h b (some (.arr 3 1 ((l.take i).flatten.map intRow) cap))) (fun s => l.length - tn (s.t 27)) ?_ ?_
    · exact ⟨0, 0, Nat.zero_le _, by simp -implicitDefEqProofs [go_sem], by simp -implicitDefEqProofs [go_sem], by simp, by simp -implicitDefEqProofs [go_sem]⟩
    rintro J s2 hJ hf2 ⟨i, k, hi, h27, h6, hk2, hh2⟩
    obtain ⟨rowsI, hrowsI⟩ : ∃ r, r = (l.take i).flatten.map intRow := ⟨_, rfl⟩
    rw [← hrowsI] at hh2
    have hrl : rowsI.length = k := by rw [hrowsI, hk2, List.length_map]
    simp -implicitDefEqProofs [go_sem, h27, h6, hf2.t, hf2.m, hf.t, hf.m]
    refine cK_dec (fun hlt => ?_) (fun hge => ?_)
    · have hg : l[i]? = some l[i] := List.getElem?_eq_getElem hlt
      have hw := wrap_succ (i := i) (by omega)
      have h5 := hfs i hlt
      have h8 := hfl (i + 1)
      rw [h5, List.length_append] at h8
      simp -implicitDefEqProofs [go_sem, h27, h6, hh2, hf2.t, hf2.m, hf.t, hf.m, hlt, hg]
      refine ⟨⟨by omega, by simp [roomy, byT_3]; omega⟩, fun hfit => ⟨by simp -implicitDefEqProofs [go_sem, hf2], ?_⟩, fun hno => by omega⟩
      refine hJ _ ⟨i + 1, k + l[i].length, by omega, by simp -implicitDefEqProofs [go_sem, hw], by simp -implicitDefEqProofs [go_sem], by rw [h5, List.length_append]; omega, ?_⟩ (by simp [go_sem, h27, hw]; omega)
      rw [h5, List.map_append, ← hrowsI]
      funext j
      simp -implicitDefEqProofs [go_sem, hh2]
      split <;> rfl
    · obtain rfl : i = l.length := by omega
      rw [List.take_length, hout] at hrowsI hk2
      simp -implicitDefEqProofs [go_sem, h27, h6, hh2, hf2.t, hf2.m, hf.t, hf.m]
      have hkl : k = out.length := by rw [hk2]
      refine ⟨_, Sub.refl _, b, hb, cap, ⟨rfl, hkl, rfl⟩, by rw [hrowsI]⟩

def vecR (c : Cel) (ids : List Int) (er : Int) : IV := .tup [.agg (if er = 0 then c.nm ids else Cel.zero).row, .int .i64 er]

set_option maxRecDepth 20000 in
set_option maxHeartbeats 4000000 in
theorem round1_c (ids : List Int) (by_ : Int) (qb : Nat) (h : Heap) (hq : h qb = some (.cells [.int .i64 by_])) (h0 : 0 < ids.length) (hn : ids.length < 100000000) :
    ICall Try.prog 84 [.list .plain (ids.map intRow), .ptr qb 0] h (retP (.tup [.list .plain ((rot ids by_).map intRow), .int .i64 0]) h) := by
  obtain ⟨k1, k2, k3⟩ := rotK_run ids.length by_ h0
  have hkle := rotK_le ids.length by_
  obtain ⟨k, hk⟩ : ∃ k, k = rotK ids.length by_ := ⟨_, rfl⟩
  rw [← hk] at k3 hkle
  have hw1 : IntKind.i64.wrap (by_.tmod (ids.length : Int) + (ids.length : Int)) = by_.tmod (ids.length : Int) + (ids.length : Int) := wrap_in (by omega)
  have hw2 : IntKind.i64.wrap ((ids.length : Int) - (by_.tmod (ids.length : Int) + (ids.length : Int)).tmod (ids.length : Int)) = (k : Int) := by rw [k3]; exact wrap_in (by omega)
  have hne : ¬ ids.length = 0 := by omega
  have hnn : ids ≠ [] := fun e => by rw [e] at h0; simp at h0
  have hkle2 : (k : Int) ≤ (ids.length : Int) := by omega
  have ht : (ids.map intRow).take ids.length = ids.map intRow := List.take_of_length_le (by simp)
  refine icall_of_iwp (fun _ => 0) Try.func84 rfl (by kernel_rfl) (Nat.le_of_ble_eq_true rfl) ?_
  rw [Try.results84]
  simp -implicitDefEqProofs [go_sem, hq, hne, hnn, hw1, hw2]
  refine iwp_drawn_of mixed [0, 1, 2, 3, 4, 5, 6, 7, 8, 9] (by kernel_rfl) ?_
  simp -implicitDefEqProofs [go_sem, hq, hkle, hkle2, ht]
  have hc := concat_c [ids.drop k, ids.take k] (rot ids by_) (by rw [rot, hk]; simp) h (by simp) (by rw [rot_len]; exact h0) (by rw [rot_len]; omega)
  simp only [List.map_cons, List.map_nil, lrow, List.map_drop, List.map_take] at hc
  refine ⟨_, hc, h, Sub.refl _, rfl, rfl⟩

set_option maxRecDepth 20000 in
set_option maxHeartbeats 4000000 in
theorem named_c (c : Cel) (f : FuncId) (cap : List IV) (ids' : List Int) (er : Int) (h : Heap) (hs : c.size < 100000000000)
    (hf : c.tiles = true → ICall Try.prog f (.list .plain (c.ids.map intRow) :: cap) h (retP (.tup [.list .plain (ids'.map intRow), .int .i64 er]) h)) (hlen : c.tiles = true → er = 0 → ids'.length = c.ids.length) :
    ICall Try.prog 64 [.agg c.row, .fn (.func f) [] cap] h (retP (if c.tiles = true then vecR c ids' er else .tup [.agg Cel.zero.row, .int .i64 1]) h) := by
  refine icall_of_iwp (fun _ => 0) Try.func64 rfl (by kernel_rfl) (Nat.le_of_ble_eq_true rfl) ?_
  rw [Try.results64]
  simp -implicitDefEqProofs [go_sem]
  refine (tTiles_c c h hs).mono ?_
  rintro e h' ⟨rfl, he⟩
  rw [he]
  cases ht : c.tiles with
  | false =>
    simp -implicitDefEqProofs [go_sem]
    exact ⟨h, Sub.refl _, by rw [Cel.zero_row], rfl⟩
  | true =>
    simp -implicitDefEqProofs [go_sem]
    refine (cLeaves_c c h hs).mono ?_
    rintro e h' ⟨rfl, he⟩
    rw [he]
    simp -implicitDefEqProofs [go_sem]
    refine (hf ht).mono ?_
    rintro e h' ⟨rfl, he⟩
    rw [he]
    by_cases her : er = 0
    · subst her
      simp -implicitDefEqProofs [go_sem]
      refine (flatName_c c ids' h hs (hlen ht rfl)).mono ?_
      rintro e h' ⟨rfl, he⟩
      rw [he]
      simp -implicitDefEqProofs [go_sem]
      exact ⟨h, Sub.refl _, rfl, rfl⟩
    · have hb : (er != 0) = true := by simpa using her
      simp -implicitDefEqProofs [go_sem, hb]
      exact ⟨h, Sub.refl _, by rw [vecR, if_neg her, Cel.zero_row], rfl⟩

set_option maxRecDepth 20000 in
theorem round_c (c : Cel) (by_ : Int) (h : Heap) (hs : c.size < 100000000) :
    ICall Try.prog 63 [.agg c.row, .int .i64 by_] h (retP (if c.tiles = true then vecR c (rot c.ids by_) 0 else .tup [.agg Cel.zero.row, .int .i64 1]) h) := by
  have hil : c.ids.length ≤ c.size := by rw [lv_ids]; exact c.lv_size
  refine icall_of_iwp (fun d => if d = 3 then 1 else 0) Try.func63 rfl (by kernel_rfl) (Nat.le_of_ble_eq_true rfl) ?_
  rw [Try.results63]
  simp -implicitDefEqProofs [go_sem]
  intro b hb
  refine (named_c c 84 [.ptr b 0] (rot c.ids by_) 0 _ (by omega) (fun ht => round1_c c.ids by_ b _ (by simp [upd]) (ids_pos c (tiles_may ht).2.1) (by omega)) (fun _ _ => rot_len _ _)).mono ?_
  rintro e h' ⟨rfl, he⟩
  rw [he]
  cases ht : c.tiles with
  | false =>
    simp -implicitDefEqProofs [go_sem]
    exact ⟨h, (Sub.refl _).upd hb _, rfl, rfl⟩
  | true =>
    simp -implicitDefEqProofs [go_sem, vecR]
    exact ⟨h, (Sub.refl _).upd hb _, rfl, rfl⟩

/-! the document's side -/
theorem name15_c (c : Cel) (ids : List Int) (h : Heap) (hs : c.size < 100000000) (hi : ids.length < 100000000000) (hl : c.lv ≤ ids.length) :
    ICall Try.prog 69 [.agg c.row, .list .plain (ids.map intRow)] h (retP (.agg (c.nm ids).row) h) := by
  refine icall_of_iwp (fun _ => 0) Try.func69 rfl (by kernel_rfl) (Nat.le_of_ble_eq_true rfl) ?_
  rw [Try.results69]
  simp -implicitDefEqProofs [go_sem]
  refine (name07_c c ids h (by omega) hi hl).mono ?_
  rintro e h' ⟨rfl, he⟩
  rw [he]
  simp -implicitDefEqProofs [go_sem]
  exact ⟨h, Sub.refl _, rfl, rfl⟩

end Go.Proofs
