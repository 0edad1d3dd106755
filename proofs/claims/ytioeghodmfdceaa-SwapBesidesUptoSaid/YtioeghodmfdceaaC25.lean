/- This text is a part of the proofs of the statements of this seat: the ideal states and their rules, or what one of the functions that the statements reach comes to. Conditions: none beyond those that each theorem names. -/
import Derived.Test.YtioeghodmfdceaaC24
set_option linter.unusedVariables false
set_option linter.unusedSimpArgs false
set_option pp.deepTerms false
set_option pp.maxSteps 400
namespace Go.Proofs
open Go.Idl

theorem cLeavesW_c (c : Cel) (h : Heap) (hs : c.size < 100000000000) (hne : c.ids ≠ []) : ICall Try.prog 41 [.list .plain [c.row]] h (newInts c.ids h) := by
  have e : idsL [c] = c.ids := by simp [idsL, Cel.alls, Cel.ids, Cel.leaves]
  have := leavesW_c [c] (by simpa [Cel.sizes] using hs) h (by rw [e]; exact hne)
  rw [e] at this
  exact this

def sw (a b x : Int) : Int := if x = a then b else if x = b then a else x
def two (ids : List Int) (a b : Int) : List Int := ids.map (sw a b)
theorem two_len (ids : List Int) (a b : Int) : (two ids a b).length = ids.length := by simp [two]

theorem two_set {ids : List Int} {a b : Int} (hn : ids.Nodup) {i k : Nat} (hi : i < ids.length) (hk : k < ids.length) (ha : ids[i] = a) (hb : ids[k] = b) : (ids.set i b).set k a = two ids a b := by
  apply List.ext_getElem?
  intro j
  simp only [two, List.getElem?_set, List.getElem?_map, List.length_set]
  by_cases hjl : j < ids.length
  · have hg : ids[j]? = some ids[j] := List.getElem?_eq_getElem hjl
    have inj : ∀ (p q : Nat) (hp : p < ids.length) (hq : q < ids.length), ids[p] = ids[q] → p = q := fun p q hp hq e => by
      rcases Nat.lt_trichotomy p q with h | h | h
      · exact absurd e (List.pairwise_iff_getElem.1 hn p q hp hq h)
      · exact h
      · exact absurd e.symm (List.pairwise_iff_getElem.1 hn q p hq hp h)
    rw [hg]
    by_cases hjk : k = j
    · subst hjk
      simp only [hk, if_true, Option.map_some, sw]
      by_cases hik : i = k
      · subst hik; rw [ha] at hb; rw [if_pos ha, ← hb]
      · rw [if_neg (fun e => hik (inj i k hi hk (ha.trans e.symm))), if_pos hb]
    · by_cases hji : i = j
      · subst hji
        simp only [hjk, if_false, hi, if_true, Option.map_some, sw]
        rw [if_pos ha]
      · simp only [hjk, if_false, hji, Option.map_some, sw]
        rw [if_neg (fun e => hji (inj i j hi hjl (ha.trans e.symm))), if_neg (fun e => hjk (inj k j hk hjl (hb.trans e.symm)))]
  · have hg : ids[j]? = none := List.getElem?_eq_none (by omega)
    rw [hg]
    simp only [Option.map_none]
    rw [if_neg (by omega), if_neg (by omega)]

def two1R (ids : List Int) (a b : Int) (ab cap : Nat) (H : Heap) (e : IEnd) (h' : Heap) : Prop :=
  if a ∈ ids ∧ b ∈ ids then e = .ret (.tup [.sl 1 ab 0 ids.length cap, .int .i64 0]) ∧ h' = upd H ab (some (.arr 3 1 ((two ids a b).map intRow) cap))
  else e = .ret (.tup [.list .plain [], .int .i64 6]) ∧ h' = H

set_option maxRecDepth 20000 in
set_option maxHeartbeats 4000000 in
theorem two1_c (ids : List Int) (a b : Int) (pa pb ab n cap : Nat) (H : Heap) (h1 : H pa = some (.cells [.int .i64 a])) (h2 : H pb = some (.cells [.int .i64 b])) (h3 : H ab = some (.arr 3 1 (ids.map intRow) cap)) (hn : ids.Nodup) (hnl : n = ids.length) (hc : n ≤ cap) (hl : ids.length < 100000000) :
    ICall Try.prog 29 [.sl 1 ab 0 n cap, .ptr pa 0, .ptr pb 0] H (two1R ids a b ab cap H) := by
  refine icall_of_iwp (fun _ => 0) Try.func29 rfl (by kernel_rfl) (Nat.le_of_ble_eq_true rfl) ?_
  rw [Try.results29]
  simp -implicitDefEqProofs [go_sem]
  refine iwp_drawn_of mixed [0, 1, 2, 3, 4, 5, 6, 7] (by kernel_rfl) ?_
  simp -implicitDefEqProofs [go_sem, h1, h2]
  have idx : ∀ x : Int, (x ∉ ids ∧ ICall Try.prog 30 [.sl 1 ab 0 n cap, .int .i64 x] H (fun ie h' => ie = .ret (.int .i64 (-1)) ∧ h' = H)) ∨
      ∃ (i : Nat) (hi : i < ids.length), ids[i] = x ∧ ICall Try.prog 30 [.sl 1 ab 0 n cap, .int .i64 x] H (fun ie h' => ie = .ret (.int .i64 i) ∧ h' = H) := by
    intro x
    have hc := indexW_c ids x ab n cap H h3 hnl (by omega)
    by_cases hx : x ∈ ids
    · obtain ⟨i, hi, he⟩ := List.getElem_of_mem hx
      refine .inr ⟨i, hi, he, hc.mono ?_⟩
      rintro e h' ⟨rfl, ⟨hx', _⟩ | ⟨k, hk, hke, rfl⟩⟩
      · exact absurd hx hx'
      · have : k = i := by
          rcases Nat.lt_trichotomy k i with h | h | h
          · exact absurd (hke.trans he.symm) (List.pairwise_iff_getElem.1 hn k i hk hi h)
          · exact h
          · exact absurd (he.trans hke.symm) (List.pairwise_iff_getElem.1 hn i k hi hk h)
        exact ⟨by rw [this], rfl⟩
    · refine .inl ⟨hx, hc.mono ?_⟩
      rintro e h' ⟨rfl, ⟨_, rfl⟩ | ⟨k, hk, hke, _⟩⟩
      · exact ⟨rfl, rfl⟩
      · exact absurd (hke ▸ List.getElem_mem hk) hx
  rcases idx a with ⟨ha, hca⟩ | ⟨i, hi, hia, hca⟩
  · refine ⟨_, hca, ?_⟩
    simp -implicitDefEqProofs [go_sem, h1, h2]
    rcases idx b with ⟨hb, hcb⟩ | ⟨k, hk, hkb, hcb⟩
    all_goals
      refine ⟨⟨_, hcb⟩, ?_⟩
      exact ⟨H, Sub.refl _, by rw [two1R, if_neg (fun h => ha h.1)]; exact ⟨rfl, rfl⟩⟩
  · refine ⟨_, hca, ?_⟩
    simp -implicitDefEqProofs [go_sem, h1, h2]
    have hni : ¬ ((i : Int) < 0) := by omega
    rcases idx b with ⟨hb, hcb⟩ | ⟨k, hk, hkb, hcb⟩
    · refine ⟨_, hcb, ?_⟩
      simp -implicitDefEqProofs [go_sem, hni]
      exact ⟨H, Sub.refl _, by rw [two1R, if_neg (fun h => hb h.2)]; exact ⟨rfl, rfl⟩⟩
    · refine ⟨_, hcb, ?_⟩
      have hnk : ¬ ((k : Int) < 0) := by omega
      have hgi : (ids.map intRow)[i]? = some (intRow a) := by rw [List.getElem?_map, List.getElem?_eq_getElem hi, hia]; rfl
      have hgk : (ids.map intRow)[k]? = some (intRow b) := by rw [List.getElem?_map, List.getElem?_eq_getElem hk, hkb]; rfl
      have hin : i < n := by omega
      have hkn : k < n := by omega
      simp -implicitDefEqProofs [go_sem, hni, hnk]
      refine iwp_drawn_of mixed [0, 1, 2, 3, 4, 5, 6, 7, 8, 9, 10, 11, 12, 13, 14, 15] (by kernel_rfl) ?_
      have hgk2 : ((ids.map intRow).set i [.int .i64 b])[k]? = some [.int .i64 b] := by
        rw [List.getElem?_set]
        by_cases hik : i = k
        · rw [if_pos hik, if_pos (by simp; omega)]
        · rw [if_neg hik]; exact hgk
      simp -implicitDefEqProofs [go_sem, h3, hin, hkn, hgi, hgk, hgk2]
      have hfin : ((ids.map intRow).set i [.int .i64 b]).set k [.int .i64 a] = (two ids a b).map intRow := by
        rw [← two_set hn hi hk hia hkb, List.map_set, List.map_set]; rfl
      rw [hfin]
      refine ⟨upd H ab (some (.arr 3 1 ((two ids a b).map intRow) cap)), ?_, ?_⟩
      · intro j o hj
        simp only [upd] at hj ⊢
        split
        · rename_i e; rw [if_pos e] at hj; exact hj
        · rename_i e; rw [if_neg e] at hj; simpa [e] using hj
      · rw [two1R, if_pos ⟨hia ▸ List.getElem_mem hi, hkb ▸ List.getElem_mem hk⟩]
        exact ⟨by rw [hnl], rfl⟩

/-- what becomes of two leaves that change places -/
def twoV (c : Cel) (a b : Int) : IV :=
  if c.tiles = true then (if a ∈ c.ids ∧ b ∈ c.ids then vecR c (two c.ids a b) 0 else .tup [.agg Cel.zero.row, .int .i64 6]) else .tup [.agg Cel.zero.row, .int .i64 1]

set_option maxRecDepth 20000 in
set_option maxHeartbeats 4000000 in
theorem namedW_c (c : Cel) (a b : Int) (pa pb : Nat) (h : Heap) (hs : c.size < 100000000) (h1 : h pa = some (.cells [.int .i64 a])) (h2 : h pb = some (.cells [.int .i64 b])) :
    ICall Try.prog 25 [.agg c.row, .fn (.func 29) [] [.ptr pa 0, .ptr pb 0]] h (retP (twoV c a b) h) := by
  have hil : c.ids.length ≤ c.size := by rw [lv_ids]; exact c.lv_size
  refine icall_of_iwp (fun d => if d = 6 then 3 else 0) Try.func25 rfl (by kernel_rfl) (Nat.le_of_ble_eq_true rfl) ?_
  rw [Try.results25]
  simp -implicitDefEqProofs [go_sem]
  refine (tTiles_c c h (by omega)).mono ?_
  rintro e h' ⟨rfl, he⟩
  rw [he]
  cases ht : c.tiles with
  | false =>
    simp -implicitDefEqProofs [go_sem]
    exact ⟨h, Sub.refl _, by rw [twoV, ht, Cel.zero_row]; rfl, rfl⟩
  | true =>
    obtain ⟨t1, t2, t3⟩ := tiles_may ht
    have hne : c.ids ≠ [] := fun e => by have := ids_pos c t2; rw [e] at this; simp at this
    simp -implicitDefEqProofs [go_sem]
    refine (cLeavesW_c c h (by omega) hne).mono ?_
    rintro e h' ⟨ab, cap, hab, hcap, rfl, he⟩
    rw [he]
    have na : ab ≠ pa := by rintro rfl; rw [hab] at h1; cases h1
    have nb : ab ≠ pb := by rintro rfl; rw [hab] at h2; cases h2
    simp -implicitDefEqProofs [go_sem]
    refine (two1_c c.ids a b pa pb ab c.ids.length cap _ (by simp [upd, na.symm, h1]) (by simp [upd, nb.symm, h2]) (by simp [upd]) t3 rfl hcap (by omega)).mono ?_
    intro e h' hr
    unfold two1R at hr
    by_cases hin : a ∈ c.ids ∧ b ∈ c.ids
    · rw [if_pos hin] at hr
      obtain ⟨rfl, he2⟩ := hr
      rw [he2]
      have htl : ((two c.ids a b).map intRow).take c.ids.length = (two c.ids a b).map intRow := List.take_of_length_le (by simp [two])
      have hle : c.ids.length ≤ ((two c.ids a b).map intRow).length := by simp [two]
      simp -implicitDefEqProofs [go_sem, htl, hle, two_len]
      refine (flatName_c c (two c.ids a b) _ (by omega) (two_len _ _ _)).mono ?_
      rintro e h' ⟨rfl, he3⟩
      rw [he3]
      simp -implicitDefEqProofs [go_sem]
      refine ⟨h, ?_, by rw [twoV, if_pos ht, if_pos hin]; rfl, rfl⟩
      intro b2 o hb2
      have hne2 : b2 ≠ ab := by rintro rfl; rw [hab] at hb2; cases hb2
      simp -implicitDefEqProofs [go_sem, hne2, hb2]
    · rw [if_neg hin] at hr
      obtain ⟨rfl, he2⟩ := hr
      rw [he2]
      simp -implicitDefEqProofs [go_sem]
      exact ⟨h, (Sub.refl _).upd hab _, by rw [twoV, if_pos ht, if_neg hin, Cel.zero_row], rfl⟩

set_option maxRecDepth 20000 in
theorem swapTwo_c (c : Cel) (a b : Int) (h : Heap) (hs : c.size < 100000000) : ICall Try.prog 13 [.agg c.row, .int .i64 a, .int .i64 b] h (retP (twoV c a b) h) := by
  refine icall_of_iwp (fun d => if d = 4 ∨ d = 5 then 1 else 0) Try.func13 rfl (by kernel_rfl) (Nat.le_of_ble_eq_true rfl) ?_
  rw [Try.results13]
  simp -implicitDefEqProofs [go_sem]
  intro pa hpa pb hpb
  have hne : pb ≠ pa := by rintro rfl; simp [upd] at hpb
  have hsub : Sub h (upd (upd h pa (some (.cells [.int .i64 a]))) pb (some (.cells [.int .i64 b]))) := ((Sub.refl _).upd hpa _).upd (by simpa [upd, hne] using hpb) _
  refine (namedW_c c a b pa pb _ hs (by simp [upd, hne.symm]) (by simp [upd])).mono ?_
  rintro e h' ⟨rfl, he⟩
  rw [he]
  unfold twoV
  by_cases ht : c.tiles = true
  · by_cases hin : a ∈ c.ids ∧ b ∈ c.ids
    · rw [if_pos ht, if_pos hin]
      simp -implicitDefEqProofs [go_sem, vecR]
      exact ⟨h, hsub, rfl, rfl⟩
    · rw [if_pos ht, if_neg hin]
      simp -implicitDefEqProofs [go_sem]
      exact ⟨h, hsub, rfl, rfl⟩
  · rw [if_neg ht]
    simp -implicitDefEqProofs [go_sem]
    exact ⟨h, hsub, rfl, rfl⟩

set_option maxRecDepth 20000 in
set_option maxHeartbeats 4000000 in
theorem two15_c (c : Cel) (a b : Int) (h : Heap) (hs : c.size < 100000000) : ICall Try.prog 14 [.agg c.row, .int .i64 a, .int .i64 b] h (retP (twoV c a b) h) := by
  have hil : c.ids.length ≤ c.size := by rw [lv_ids]; exact c.lv_size
  have hlv := lv_ids c
  refine icall_of_iwp (fun _ => 0) Try.func14 rfl (by kernel_rfl) (Nat.le_of_ble_eq_true rfl) ?_
  rw [Try.results14]
  simp -implicitDefEqProofs [go_sem]
  refine (tiles06_c c h (by omega)).mono ?_
  rintro e h' ⟨rfl, he⟩
  rw [he]
  cases ht : c.tiles with
  | false =>
    simp -implicitDefEqProofs [go_sem]
    exact ⟨h, Sub.refl _, by rw [twoV, ht, Cel.zero_row]; rfl, rfl⟩
  | true =>
    simp -implicitDefEqProofs [go_sem]
    refine (ids_c c h (by omega)).mono ?_
    rintro e h' ⟨rfl, he⟩
    rw [he]
    simp -implicitDefEqProofs [go_sem]
    refine (in_c c.ids a h (by omega)).mono ?_
    rintro e h' ⟨rfl, he⟩
    rw [he]
    by_cases ha : a ∈ c.ids
    rotate_left
    · simp -implicitDefEqProofs [go_sem, ha]
      exact ⟨h, Sub.refl _, by rw [twoV, if_pos ht, if_neg (fun hh => ha hh.1), Cel.zero_row], rfl⟩
    simp -implicitDefEqProofs [go_sem, ha]
    refine (in_c c.ids b h (by omega)).mono ?_
    rintro e h' ⟨rfl, he⟩
    rw [he]
    by_cases hb : b ∈ c.ids
    rotate_left
    · simp -implicitDefEqProofs [go_sem, hb]
      exact ⟨h, Sub.refl _, by rw [twoV, if_pos ht, if_neg (fun hh => hb hh.2), Cel.zero_row], rfl⟩
    simp -implicitDefEqProofs [go_sem, hb]
    refine iwp_loopF (rng [9,10] 31 59) nom (fun s => ∃ i, i ≤ c.ids.length ∧ s.t 31 = .int .i64 i ∧ Own [44, 51, 58] s.x 3 (s.t 9) ((two (c.ids.take i) a b).map intRow) ∧ s.h = h) (fun s => c.ids.length - tn (s.t 31)) ?_ ?_
    · exact ⟨0, Nat.zero_le _, by simp -implicitDefEqProofs [go_sem], by simp -implicitDefEqProofs [go_sem, Own.tight, two], by simp -implicitDefEqProofs [go_sem]⟩
    rintro J s hJ hf ⟨i, hi, h31, ho, hh⟩
    obtain ⟨tk, h9⟩ := ho.list
    simp -implicitDefEqProofs [go_sem, h31, h9, hh, hf.t, hf.m]
    refine cK_dec (fun hlt => ?_) (fun hge => ?_)
    · have hw := wrap_succ (i := i) (by omega)
      have hg : c.ids[i]? = some c.ids[i] := List.getElem?_eq_getElem hlt
      have htk : (two (c.ids.take (i + 1)) a b).map intRow = (two (c.ids.take i) a b).map intRow ++ [intRow (sw a b c.ids[i])] := by
        rw [List.take_add_one, hg, two, two, List.map_append, List.map_append]; rfl
      have hll : ((two (c.ids.take i) a b).map intRow).length = i := by rw [List.length_map, two_len, List.length_take]; omega
      simp -implicitDefEqProofs [go_sem, h31, h9, hh, hf.t, hf.m, hlt, hg]
      refine cK_beq (fun k1 => ?_) (fun k1 => ?_)
      · simp -implicitDefEqProofs [go_sem, h31, h9, hh, hf.t, hf.m, hlt, hg]
        refine aK_own (z := 1) (S := [44, 51, 58]) (rows := (two (c.ids.take i) a b).map intRow) (by simpa -implicitDefEqProofs [go_sem, h9] using ho) (by simp) elT_41 elZ_3 (by simp only [roomy, byT_3, hll]; simp; omega) (ints_uni _) (by simp [uni]) ?_
        intro r' x' ho' _
        simp -implicitDefEqProofs [go_sem, h31, h9, hh, hf.t, hf.m, hf, hw]
        exact hJ _ ⟨i + 1, by omega, by simp -implicitDefEqProofs [go_sem, hw], by rw [htk, sw, if_pos k1]; exact ho', by simp -implicitDefEqProofs [go_sem, hh]⟩ (by simp [go_sem, h31, hw]; omega)
      · simp -implicitDefEqProofs [go_sem, h31, h9, hh, hf.t, hf.m, hlt, hg]
        refine cK_beq (fun k2 => ?_) (fun k2 => ?_)
        · simp -implicitDefEqProofs [go_sem, h31, h9, hh, hf.t, hf.m, hlt, hg]
          refine aK_own (z := 1) (S := [44, 51, 58]) (rows := (two (c.ids.take i) a b).map intRow) (by simpa -implicitDefEqProofs [go_sem, h9] using ho) (by simp) elT_41 elZ_3 (by simp only [roomy, byT_3, hll]; simp; omega) (ints_uni _) (by simp [uni]) ?_
          intro r' x' ho' _
          simp -implicitDefEqProofs [go_sem, h31, h9, hh, hf.t, hf.m, hf, hw]
          exact hJ _ ⟨i + 1, by omega, by simp -implicitDefEqProofs [go_sem, hw], by rw [htk, sw, if_neg k1, if_pos k2]; exact ho', by simp -implicitDefEqProofs [go_sem, hh]⟩ (by simp [go_sem, h31, hw]; omega)
        · simp -implicitDefEqProofs [go_sem, h31, h9, hh, hf.t, hf.m, hlt, hg]
          refine aK_own (z := 1) (S := [44, 51, 58]) (rows := (two (c.ids.take i) a b).map intRow) (by simpa -implicitDefEqProofs [go_sem, h9] using ho) (by simp) elT_41 elZ_3 (by simp only [roomy, byT_3, hll]; simp; omega) (ints_uni _) (by simp [uni]) ?_
          intro r' x' ho' _
          simp -implicitDefEqProofs [go_sem, h31, h9, hh, hf.t, hf.m, hf, hw]
          exact hJ _ ⟨i + 1, by omega, by simp -implicitDefEqProofs [go_sem, hw], by rw [htk, sw, if_neg k1, if_neg k2]; exact ho', by simp -implicitDefEqProofs [go_sem, hh]⟩ (by simp [go_sem, h31, hw]; omega)
    · obtain rfl : i = c.ids.length := by omega
      rw [List.take_length] at ho h9
      simp -implicitDefEqProofs [go_sem, h31, h9, hh, hf.t, hf.m]
      refine (name15_c c (two c.ids a b) h hs (by rw [two_len]; omega) (by rw [two_len]; omega)).mono ?_
      rintro e h' ⟨rfl, he⟩
      rw [he]
      simp -implicitDefEqProofs [go_sem, h31, h9, hh, hf.t, hf.m]
      exact ⟨h, Sub.refl _, by rw [twoV, if_pos ht, if_pos ⟨ha, hb⟩]; rfl, rfl⟩
end Go.Proofs
