/- This text is a part of the proofs of the statements of this seat: the ideal states and their rules, or what one of the functions that the statements reach comes to. Conditions: none beyond those that each theorem names. -/
import Derived.Test.YtiloboepepdcgaaC20o
set_option linter.unusedVariables false
set_option linter.unusedSimpArgs false
set_option pp.deepTerms false
set_option pp.maxSteps 400
namespace Go.Proofs
open Go.Idl

/-! trees whose leaves have other numbers -/
def Cel.skel (d : Cel) : Int × Rct × List Rct × Int := (d.kind, d.r, d.kids.map Cel.r, if d.kind = 1 then 0 else d.id)
theorem Cel.nms_r (l : List Cel) (ids : List Int) : (Cel.nms l ids).map Cel.r = l.map Cel.r := by
  induction l generalizing ids with
  | nil => simp [Cel.nms]
  | cons c cs ih => rw [Cel.nms, List.map_cons, ih, c.nm_eq]; rfl
theorem Cel.nm_skel (c : Cel) : ∀ ids, (c.nm ids).all.map Cel.skel = c.all.map Cel.skel :=
  Cel.rec (motive_1 := fun c => ∀ ids, (c.nm ids).all.map Cel.skel = c.all.map Cel.skel) (motive_2 := fun l => ∀ ids, (Cel.alls (Cel.nms l ids)).map Cel.skel = (Cel.alls l).map Cel.skel)
    (fun k r id kids ih ids => by
      rw [Cel.nm, Cel.all, Cel.all, List.map_cons, List.map_cons, ih]
      congr 1
      simp only [Cel.skel, Cel.kind, Cel.r, Cel.kids, Cel.id, Cel.nms_r]
      by_cases hk : k = 1 <;> simp [hk])
    (fun ids => by simp [Cel.nms])
    (fun c cs h1 h2 ids => by rw [Cel.nms, Cel.alls, Cel.alls, List.map_append, List.map_append, h1, h2]) c
theorem Cel.nm_size (c : Cel) (ids : List Int) : (c.nm ids).size = c.size := by
  have := congrArg List.length (c.nm_skel ids)
  simpa [Cel.all_length] using this
theorem Cel.nm_ids (c : Cel) : ∀ ids : List Int, c.lv ≤ ids.length → (c.nm ids).ids = ids.take c.lv :=
  Cel.rec (motive_1 := fun c => ∀ ids : List Int, c.lv ≤ ids.length → (c.nm ids).ids = ids.take c.lv) (motive_2 := fun l => ∀ ids : List Int, Cel.lvs l ≤ ids.length → idsL (Cel.nms l ids) = ids.take (Cel.lvs l))
    (fun k r id kids ih ids h => by
      rw [Cel.lv] at h
      rw [Cel.nm, ids_eq]
      simp only [Cel.kind, Cel.kids, Cel.id]
      rw [Cel.lv]
      by_cases hk : k = 1
      · simp only [hk, if_true] at h ⊢
        rw [ih _ (by simp; omega)]
        cases ids with
        | nil => simp at h
        | cons a l => simp [Nat.add_comm 1]
      · simp only [hk, if_false] at h ⊢
        rw [ih _ (by simp; omega)]; simp)
    (fun ids h => by simp [Cel.nms, Cel.lvs, idsL, Cel.alls])
    (fun c cs h1 h2 ids h => by
      rw [Cel.lvs] at h
      have e : ∀ (c : Cel) (cs : List Cel), idsL (c :: cs) = c.ids ++ idsL cs := fun c cs => by simp [idsL, Cel.alls, Cel.ids, Cel.leaves]
      rw [Cel.nms, e, h1 _ (by omega), h2 _ (by simp; omega), Cel.lvs, List.take_add]) c
theorem Cel.nm_lv (c : Cel) : ∀ ids : List Int, (c.nm ids).lv = c.lv :=
  Cel.rec (motive_1 := fun c => ∀ ids : List Int, (c.nm ids).lv = c.lv) (motive_2 := fun l => ∀ ids : List Int, Cel.lvs (Cel.nms l ids) = Cel.lvs l)
    (fun k r id kids ih ids => by rw [Cel.nm, Cel.lv, Cel.lv, ih])
    (fun ids => by simp [Cel.nms])
    (fun c cs h1 h2 ids => by rw [Cel.nms, Cel.lvs, Cel.lvs, h1, h2]) c
theorem Cel.nm_nm (c : Cel) : ∀ ids ids2 : List Int, (c.nm ids).nm ids2 = c.nm ids2 :=
  Cel.rec (motive_1 := fun c => ∀ ids ids2 : List Int, (c.nm ids).nm ids2 = c.nm ids2) (motive_2 := fun l => ∀ ids ids2 : List Int, Cel.nms (Cel.nms l ids) ids2 = Cel.nms l ids2)
    (fun k r id kids ih ids ids2 => by
      rw [Cel.nm, Cel.nm, Cel.nm, ih]
      by_cases hk : k = 1 <;> simp [hk])
    (fun ids ids2 => by simp [Cel.nms])
    (fun c cs h1 h2 ids ids2 => by rw [Cel.nms, Cel.nms, Cel.nms, h1, h2, Cel.nm_lv]) c
theorem Cel.nm_own (c : Cel) : ∀ rest : List Int, c.nm (c.ids ++ rest) = c :=
  Cel.rec (motive_1 := fun c => ∀ rest : List Int, c.nm (c.ids ++ rest) = c) (motive_2 := fun l => ∀ rest : List Int, Cel.nms l (idsL l ++ rest) = l)
    (fun k r id kids ih rest => by
      rw [Cel.nm, ids_eq]
      simp only [Cel.kind, Cel.kids, Cel.id]
      by_cases hk : k = 1
      · simp only [hk, if_true, List.singleton_append, List.cons_append, List.headD_cons, List.drop_succ_cons, List.drop_zero, List.nil_append, ih]
      · simp only [hk, if_false, List.nil_append, List.drop_zero, ih])
    (fun rest => by simp [Cel.nms])
    (fun c cs h1 h2 rest => by
      have e : idsL (c :: cs) = c.ids ++ idsL cs := by simp [idsL, Cel.alls, Cel.ids, Cel.leaves]
      have hlv := lv_ids c
      rw [Cel.nms, e, List.append_assoc, h1, ← hlv, List.drop_left, h2]) c
theorem Cel.nm_self (c : Cel) : c.nm c.ids = c := by simpa using c.nm_own []

def oneK (k : Int) (r : Rct) (ks : List Rct) : Option (List Rct) :=
  if k = 1 then some [] else
  match cutS r (k - 1) (ks.map fun r => if k = 2 then r.w else r.h) with
  | some (ps, ls) => if ps = ks then some ls else none
  | none => none
theorem one_eq (c : Cel) : c.one = oneK c.kind c.r (c.kids.map Cel.r) := by
  have e : c.szs = (c.kids.map Cel.r).map fun r => if c.kind = 2 then r.w else r.h := by rw [Cel.szs, List.map_map]; rfl
  rw [Cel.one, oneK, e]
  by_cases hk : c.kind = 1
  · rw [if_pos hk, if_pos hk]
  · rw [if_neg hk, if_neg hk]
    cases cutS c.r (c.kind - 1) ((c.kids.map Cel.r).map fun r => if c.kind = 2 then r.w else r.h) <;> rfl
theorem skel_fold (l : List Cel) : ∀ ls, l.foldlM oneStep ls = (l.map Cel.skel).foldlM (fun ls s => (oneK s.1 s.2.1 s.2.2.1).map (ls ++ ·)) ls := by
  induction l with
  | nil => intro ls; rfl
  | cons d l ih =>
    intro ls
    rw [List.map_cons, List.foldlM_cons, List.foldlM_cons, oneStep, one_eq]
    cases h : oneK d.kind d.r (d.kids.map Cel.r) with
    | none => simp [Cel.skel, h]
    | some l1 => simp only [Cel.skel, h, Option.map_some]; exact ih _

theorem mem_ids {c d : Cel} (h : d ∈ c.all) (hk : d.kind = 1) : d.id ∈ c.ids := by
  rw [Cel.ids, Cel.leaves, List.mem_map]
  exact ⟨d, List.mem_filter.2 ⟨h, by simp [hk]⟩, rfl⟩

theorem tiles_nm {c : Cel} (ht : c.tiles = true) {ids : List Int} (hl : ids.length = c.lv) (hr : ∀ x ∈ ids, 0 ≤ x ∧ x ≤ 2147483647) (hn : ids.Nodup) : (c.nm ids).tiles = true := by
  have hsk := c.nm_skel ids
  have hid := c.nm_ids ids (by omega)
  rw [List.take_of_length_le (by omega)] at hid
  rw [tiles_fold, Bool.and_eq_true] at ht ⊢
  obtain ⟨hm, hf⟩ := ht
  rw [skel_fold] at hf ⊢
  rw [hsk]
  refine ⟨?_, hf⟩
  rw [Cel.may, decide_eq_true_eq] at hm ⊢
  rw [c.nm_size, hid]
  refine ⟨hm.1, ?_, hn⟩
  intro d hd
  obtain ⟨d0, hd0, he⟩ : ∃ d0 ∈ c.all, d0.skel = d.skel := by
    have : d.skel ∈ (c.nm ids).all.map Cel.skel := List.mem_map_of_mem hd
    rw [hsk, List.mem_map] at this
    exact this
  have hok := hm.2.1 d0 hd0
  simp only [Cel.skel, Prod.mk.injEq] at he
  obtain ⟨e1, e2, e3, e4⟩ := he
  have e5 : d0.kids.length = d.kids.length := by simpa using congrArg List.length e3
  refine ⟨e2 ▸ hok.1, ?_⟩
  rcases hok.2 with h | h
  · left
    have hk : d.kind = 1 := by omega
    have := hr d.id (hid ▸ mem_ids hd hk)
    omega
  · right
    rw [if_neg (by omega), if_neg (by omega)] at e4
    omega
theorem ids_range {c : Cel} (ht : c.tiles = true) : ∀ x ∈ c.ids, 0 ≤ x ∧ x ≤ 2147483647 := by
  intro x hx
  rw [Cel.ids, Cel.leaves, List.mem_map] at hx
  obtain ⟨d, hd, rfl⟩ := hx
  rw [List.mem_filter] at hd
  have := ((tiles_may ht).2.1 d hd.1).2
  have hk : d.kind = 1 := by simpa using hd.2
  omega
theorem rot_perm (ids : List Int) (b : Int) : (rot ids b).Perm ids := by
  have := List.perm_append_comm (l₁ := ids.drop (rotK ids.length b)) (l₂ := ids.take (rotK ids.length b))
  rw [List.take_append_drop] at this
  exact this
theorem rot_tiles {c : Cel} (ht : c.tiles = true) (b : Int) : (c.nm (rot c.ids b)).tiles = true ∧ (c.nm (rot c.ids b)).ids = rot c.ids b ∧ (c.nm (rot c.ids b)).nm (rot (rot c.ids b) (-b)) = c := by
  have hp := rot_perm c.ids b
  have hl : (rot c.ids b).length = c.lv := by rw [rot_len, lv_ids]
  refine ⟨tiles_nm ht hl (fun x hx => ids_range ht x (hp.mem_iff.1 hx)) (hp.nodup_iff.2 (tiles_may ht).2.2), ?_, ?_⟩
  · rw [c.nm_ids _ (by omega), List.take_of_length_le (by omega)]
  · rw [c.nm_nm, rot_back, c.nm_self]
end Go.Proofs
