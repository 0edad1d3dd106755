/- This text is a part of the proofs of the statements of this seat: the ideal states and their rules, or what one of the functions that the statements reach comes to. Conditions: none beyond those that each theorem names. -/
import Derived.Test.YtiloboepepdcgaaP3
import Derived.Test.YtiloboepepdcgaaGA
set_option linter.unusedVariables false
set_option linter.unusedSimpArgs false
namespace Go.Proofs
open Go.Idl

/-! what a layout is -/
def lf (r : Rct) (id : Int) : Cel := .mk 1 r id []
def kidsU (K : Nat → Rct → Option Cel) (ps : List Rct) : Nat → Option (List Cel)
  | 0 => some []
  | n + 1 => match kidsU K ps n with
    | none => none
    | some ks => match K n (ps[n]?.getD ⟨0, 0, 0, 0⟩) with | none => none | some k => some (ks ++ [k])
def groupC (r : Rct) (ax : Int) (ks : List Cel) : Cel := match ks with | [k] => k | ks => .mk (ax + 1) r 0 ks
def ofC (r : Rct) (ax : Int) (sizes : List Int) (K : Nat → Rct → Option Cel) : Option Cel :=
  match cutS r ax sizes with
  | none => none
  | some x => (kidsU K x.1 x.1.length).map (groupC r ax)
def dimR (r : Rct) (ax : Int) : Int := rsz r.w r.h ax
open Classical in
noncomputable def evenC (r : Rct) (ax : Int) (n : Nat) (K : Nat → Rct → Option Cel) : Option Cel :=
  if sizesBad (dimR r ax) n then none else ofC r ax (sizesL (dimR r ax) n) K
noncomputable def lineC (r : Rct) (ax : Int) (ids : List Int) : Option Cel := evenC r ax ids.length fun i p => some (lf p (ids[i]?.getD 0))
noncomputable def mainC (r : Rct) (ax size : Int) (ids : List Int) : Option Cel :=
  if ids.length = 1 then some (lf r (ids[0]?.getD 0)) else
  if dimR r ax < 3 then none else
  ofC r ax [max 1 (min size (dimR r ax - 2)), dimR r ax - 1 - max 1 (min size (dimR r ax - 2))] fun i p => if i = 0 then some (lf p (ids[0]?.getD 0)) else lineC p (3 - ax) ids.tail
def gcols (n : Nat) : Nat := (gridL 4096 1 1 n).2
/-- rows of so many -/
def chunks (k : Nat) (l : List Int) : List (List Int) := (List.range ((l.length + k - 1) / k)).map fun i => (l.drop (i * k)).take k
noncomputable def tiledC (r : Rct) (ids : List Int) : Option Cel :=
  evenC r 2 (chunks (gcols ids.length) ids).length fun i p => lineC p 1 ((chunks (gcols ids.length) ids)[i]?.getD [])
noncomputable def madeC (preset : Int) (r : Rct) (size : Int) (ids : List Int) : Option Cel :=
  if preset = 1 then lineC r 1 ids else if preset = 2 then lineC r 2 ids else if preset = 3 then mainC r 2 size ids else if preset = 4 then mainC r 1 size ids else tiledC r ids
def rightL (ids : List Int) : Prop := 1 ≤ ids.length ∧ ids.length ≤ 4096 ∧ (∀ n ∈ ids, 0 ≤ n ∧ n ≤ 2147483647) ∧ ids.Nodup
open Classical in
noncomputable def makeV (preset w h size : Int) (ids : List Int) : Cel × Int :=
  if 1 ≤ preset ∧ preset ≤ 5 ∧ (Rct.mk 0 0 w h).may = true ∧ rightL ids then
    match madeC preset ⟨0, 0, w, h⟩ size ids with
    | some c => (c, 0)
    | none => (Cel.zero, 7)
  else (Cel.zero, 1)

theorem kidsU_mono {K : Nat → Rct → Option Cel} {ps : List Rct} {i j : Nat} (h : i ≤ j) (hn : kidsU K ps i = none) : kidsU K ps j = none := by
  induction j with
  | zero => obtain rfl : i = 0 := by omega
            exact hn
  | succ j ih =>
    by_cases hij : i = j + 1
    · subst hij; exact hn
    · rw [kidsU, ih (by omega)]
theorem kidsU_len {K : Nat → Rct → Option Cel} {ps : List Rct} : ∀ {n : Nat} {ks : List Cel}, kidsU K ps n = some ks → ks.length = n
  | 0, ks, h => by cases h; rfl
  | n + 1, ks, h => by
    rw [kidsU] at h
    split at h
    · cases h
    · rename_i ks' hk
      split at h
      · cases h
      · cases h; simp [kidsU_len hk]
theorem kidsU_get {K : Nat → Rct → Option Cel} {ps : List Rct} : ∀ {n : Nat} {ks : List Cel}, kidsU K ps n = some ks → ∀ i, i < n → ∃ k, ks[i]? = some k ∧ K i (ps[i]?.getD ⟨0, 0, 0, 0⟩) = some k
  | 0, ks, h, i, hi => by omega
  | n + 1, ks, h, i, hi => by
    rw [kidsU] at h
    split at h
    · cases h
    · rename_i ks' hk
      have hl := kidsU_len hk
      split at h
      · cases h
      · rename_i k hK
        cases h
        by_cases hin : i < n
        · obtain ⟨k', h1, h2⟩ := kidsU_get hk i hin
          exact ⟨k', by rw [List.getElem?_append_left (by omega)]; exact h1, h2⟩
        · obtain rfl : i = n := by omega
          exact ⟨k, by rw [List.getElem?_append_right (by omega), hl]; simp, hK⟩
theorem kidsU_some {K : Nat → Rct → Option Cel} {ps : List Rct} (k : Nat → Cel) : ∀ n, (∀ i, i < n → K i (ps[i]?.getD ⟨0, 0, 0, 0⟩) = some (k i)) → kidsU K ps n = some ((List.range n).map k)
  | 0, _ => rfl
  | n + 1, h => by
    rw [kidsU, kidsU_some k n (fun i hi => h i (by omega))]
    simp only [h n (by omega), List.range_succ, List.map_append]
    rfl

/-! cuts that come out -/
theorem cutF_run (a1 : Bool) (r : Rct) : ∀ (l : List Int) (o : Int) (ps ls : List Rct), ps ≠ [] → 0 ≤ o → (∀ n ∈ l, 1 ≤ n) → o + l.sum + l.length ≤ cutW a1 r →
    ∃ ps' ls', l.foldl (cutStep a1 r) (some (o, ps, ls)) = some (o + l.sum + l.length, ps', ls')
  | [], o, ps, ls, _, _, _, _ => ⟨ps, ls, by simp⟩
  | n :: l, o, ps, ls, hp, ho, hl, hs => by
    have hn := hl n (List.mem_cons_self)
    have hsum : 0 ≤ l.sum := by
      have : ∀ m : List Int, (∀ x ∈ m, 1 ≤ x) → 0 ≤ m.sum := by
        intro m
        induction m with
        | nil => intro _; simp
        | cons x m ih => intro h; have := ih (fun y hy => h y (List.mem_cons_of_mem _ hy)); have := h x List.mem_cons_self; simp; omega
      exact this l fun x hx => hl x (List.mem_cons_of_mem _ hx)
    simp only [List.sum_cons, List.length_cons, Int.natCast_add, Int.cast_ofNat_Int] at hs
    have hO : cutO o ps = o + 1 := by cases ps with | nil => exact absurd rfl hp | cons _ _ => rfl
    rw [List.foldl_cons, cutStep, if_neg (by unfold cutBad; rw [hO]; omega), hO]
    obtain ⟨ps', ls', h⟩ := cutF_run a1 r l (o + 1 + n) (ps ++ [cutP a1 r (o + 1) n]) (cutL a1 r o ps ls) (by simp) (by omega) (fun x hx => hl x (List.mem_cons_of_mem _ hx)) (by omega)
    refine ⟨ps', ls', ?_⟩
    rw [h]
    simp only [List.sum_cons, List.length_cons, Int.natCast_add, Int.cast_ofNat_Int, Option.some.injEq, Prod.mk.injEq, and_true]
    omega
theorem cutS_ok {r : Rct} {ax : Int} {l : List Int} (hr : r.may = true) (h1 : 1 ≤ ax) (h2 : ax ≤ 2) (hl : ∀ n ∈ l, 1 ≤ n) (hne : l ≠ []) (hs : l.sum + l.length - 1 = dimR r ax) : ∃ ps ls, cutS r ax l = some (ps, ls) ∧ ps.length = l.length := by
  have hW : cutW (ax == 1) r = dimR r ax := by
    unfold cutW dimR rsz
    by_cases h : ax = 1
    · simp [h]
    · have : ax = 2 := by omega
      simp [this]
  cases l with
  | nil => exact absurd rfl hne
  | cons n l =>
    have hn := hl n List.mem_cons_self
    simp only [List.sum_cons, List.length_cons, Int.natCast_add, Int.cast_ofNat_Int] at hs
    have hsum : 0 ≤ l.sum := by
      have : ∀ m : List Int, (∀ x ∈ m, 1 ≤ x) → 0 ≤ m.sum := by
        intro m
        induction m with
        | nil => intro _; simp
        | cons x m ih => intro h; have := ih (fun y hy => h y (List.mem_cons_of_mem _ hy)); have := h x List.mem_cons_self; simp; omega
      exact this l fun x hx => hl x (List.mem_cons_of_mem _ hx)
    obtain ⟨ps, ls, h⟩ := cutF_run (ax == 1) r l n [cutP (ax == 1) r 0 n] [] (by simp) (by omega) (fun x hx => hl x (List.mem_cons_of_mem _ hx)) (by omega)
    have hF : cutF (ax == 1) r (n :: l) = some (n + l.sum + l.length, ps, ls) := by
      rw [cutF, List.foldl_cons, cutStep, if_neg (by unfold cutBad cutO; simp only; omega)]
      simpa [cutO, cutL] using h
    have hlen := (cutF_len _ _ _ _ _ _ hF).1
    refine ⟨ps, ls, ?_, hlen⟩
    rw [cutS, if_pos ⟨hr, h1, h2, by simp⟩, hF]
    simp only
    rw [if_pos (by omega)]
theorem share_sum (q r : Int) (hr : 0 ≤ r) : ∀ m : Nat, ((List.range m).map fun (i : Nat) => q + if (i : Int) < r then 1 else 0).sum = m * q + min (m : Int) r
  | 0 => by simp; omega
  | m + 1 => by
    rw [List.range_succ, List.map_append, List.sum_append, share_sum q r hr m]
    simp only [List.map_cons, List.map_nil, List.sum_cons, List.sum_nil, Int.natCast_add, Int.cast_ofNat_Int, Int.add_mul]
    split <;> omega
theorem sizesL_ok {s n : Int} (h : ¬ sizesBad s n) : (sizesL s n).sum + (sizesL s n).length - 1 = s ∧ (∀ x ∈ sizesL s n, 1 ≤ x) ∧ sizesL s n ≠ [] ∧ ((sizesL s n).length : Int) = n := by
  unfold sizesBad at h
  obtain ⟨m, rfl⟩ : ∃ m : Nat, n = m := ⟨n.toNat, by omega⟩
  have hm : 1 ≤ m := by omega
  obtain ⟨b, hb⟩ : ∃ b, b = s - ((m : Int) - 1) := ⟨_, rfl⟩
  have hb1 : (m : Int) ≤ b := by omega
  have hdm := Int.mul_tdiv_add_tmod b m
  have hr : 0 ≤ b.tmod m ∧ b.tmod m < m := by
    rw [Int.tmod_eq_emod_of_nonneg (by omega)]
    exact ⟨Int.emod_nonneg _ (by omega), Int.emod_lt_of_pos _ (by omega)⟩
  have hq : 1 ≤ b.tdiv m := by
    rw [Int.tdiv_eq_ediv_of_nonneg (by omega)]
    exact (Int.le_ediv_iff_mul_le (by omega)).2 (by omega)
  have hlen : (sizesL s m).length = m := by simp [sizesL]
  refine ⟨?_, ?_, ?_, by rw [hlen]⟩
  · rw [hlen, sizesL, Int.toNat_natCast, ← hb]
    have := share_sum (b.tdiv m) (b.tmod m) hr.1 m
    have e : (List.range m).map (shareI b m) = (List.range m).map fun (i : Nat) => b.tdiv m + if (i : Int) < b.tmod m then 1 else 0 := rfl
    rw [e, this]
    omega
  · intro x hx
    simp only [sizesL, List.mem_map] at hx
    obtain ⟨i, _, rfl⟩ := hx
    rw [← hb, shareI]
    split <;> omega
  · intro e; rw [e] at hlen; simp at hlen; omega
theorem sizes_cut {r : Rct} {ax : Int} {n : Int} (hr : r.may = true) (h1 : 1 ≤ ax) (h2 : ax ≤ 2) (h : ¬ sizesBad (dimR r ax) n) : ∃ ps ls, cutS r ax (sizesL (dimR r ax) n) = some (ps, ls) ∧ (ps.length : Int) = n := by
  obtain ⟨k1, k2, k3, k4⟩ := sizesL_ok h
  obtain ⟨ps, ls, h3, h4⟩ := cutS_ok hr h1 h2 k2 k3 k1
  exact ⟨ps, ls, h3, by omega⟩
/-- the whole is its only part -/
theorem cut_one {r : Rct} {ax : Int} (hr : r.may = true) (h1 : 1 ≤ ax) (h2 : ax ≤ 2) : ∃ ls, cutS r ax [dimR r ax] = some ([r], ls) := by
  have hm := hr
  rw [Rct.may, decide_eq_true_eq] at hm
  have : ax = 1 ∨ ax = 2 := by omega
  rcases this with rfl | rfl
  · refine ⟨[], ?_⟩
    have hb : ¬ cutBad true r 0 r.w [] := by unfold cutBad cutO cutW; simp; omega
    simp [cutS, hr, cutF, cutStep, dimR, rsz, hb, cutO, cutL, cutP, cutW]
  · refine ⟨[], ?_⟩
    have hb : ¬ cutBad false r 0 r.h [] := by unfold cutBad cutO cutW; simp; omega
    simp [cutS, hr, cutF, cutStep, dimR, rsz, hb, cutO, cutL, cutP, cutW]
theorem sizesL_one {s : Int} (h : ¬ sizesBad s 1) : sizesL s 1 = [s] := by
  obtain ⟨h1, _, _, h4⟩ := sizesL_ok h
  cases hl : sizesL s 1 with
  | nil => rw [hl] at h4; simp at h4
  | cons x l =>
    rw [hl] at h1 h4
    cases l with
    | nil => simp at h1; rw [h1]
    | cons y l => simp at h4; omega
end Go.Proofs

set_option linter.unusedVariables false
set_option linter.unusedSimpArgs false
namespace Go.Proofs
open Go.Idl

/-! a tree that tiles, node by node -/
def Cel.fine (c : Cel) : Prop := ∀ d ∈ c.all, d.Ok ∧ d.one.isSome = true
theorem mem_alls_of {d k : Cel} : ∀ {l : List Cel}, k ∈ l → d ∈ k.all → d ∈ Cel.alls l
  | c :: cs, h, hd => by
    rw [Cel.alls]
    rcases List.mem_cons.1 h with rfl | h
    · exact List.mem_append_left _ hd
    · exact List.mem_append_right _ (mem_alls_of h hd)
theorem fine_iff (c : Cel) : c.fine ↔ c.Ok ∧ c.one.isSome = true ∧ ∀ k ∈ c.kids, k.fine := by
  unfold Cel.fine
  constructor
  · intro h
    rw [c.all_eq] at h
    exact ⟨(h c List.mem_cons_self).1, (h c List.mem_cons_self).2, fun k hk d hd => h d (List.mem_cons_of_mem _ (mem_alls_of hk hd))⟩
  · rintro ⟨h1, h2, h3⟩ d hd
    rw [c.all_eq] at hd
    rcases List.mem_cons.1 hd with rfl | hd
    · exact ⟨h1, h2⟩
    · obtain ⟨k, hk, hd⟩ := mem_alls hd
      exact h3 k hk d hd
theorem fold_some : ∀ (l : List Cel) (acc : List Rct), (∀ d ∈ l, d.one.isSome = true) → (l.foldlM oneStep acc).isSome = true
  | [], acc, _ => rfl
  | d :: l, acc, h => by
    obtain ⟨x, hx⟩ := Option.isSome_iff_exists.1 (h d List.mem_cons_self)
    rw [List.foldlM_cons, oneStep, hx]
    exact fold_some l _ fun y hy => h y (List.mem_cons_of_mem _ hy)
theorem tiles_iff (c : Cel) : c.tiles = true ↔ c.size ≤ 20000 ∧ c.fine ∧ c.ids.Nodup := by
  rw [tiles_fold, Bool.and_eq_true, Cel.may, decide_eq_true_eq]
  constructor
  · rintro ⟨⟨h1, h2, h3⟩, h4⟩
    obtain ⟨ls, hls⟩ := Option.isSome_iff_exists.1 h4
    obtain ⟨_, h5⟩ := fold_lns _ _ _ hls
    exact ⟨h1, fun d hd => ⟨h2 d hd, h5 d hd⟩, h3⟩
  · rintro ⟨h1, h2, h3⟩
    exact ⟨⟨h1, fun d hd => (h2 d hd).1, h3⟩, fold_some _ _ fun d hd => (h2 d hd).2⟩
theorem idsL_eq : ∀ l : List Cel, idsL l = (l.map Cel.ids).flatten
  | [] => by simp [idsL, Cel.alls]
  | c :: cs => by
    have : idsL (c :: cs) = c.ids ++ idsL cs := by simp [idsL, Cel.alls, Cel.ids, Cel.leaves]
    rw [this, idsL_eq cs]; rfl
theorem fine_size (c : Cel) : c.fine → c.size + 1 ≤ 2 * c.ids.length := by
  induction c using Cel.induct
  rename_i c ih
  intro h
  obtain ⟨h1, _, h3⟩ := (fine_iff c).1 h
  rw [c.size_eq, ids_eq, idsL_eq]
  have key : ∀ l : List Cel, (∀ k ∈ l, k.size + 1 ≤ 2 * k.ids.length) → Cel.sizes l + l.length ≤ 2 * (l.map Cel.ids).flatten.length := by
    intro l
    induction l with
    | nil => intro _; simp [Cel.sizes]
    | cons k l ihl =>
      intro hl
      have a := hl k List.mem_cons_self
      have b := ihl fun x hx => hl x (List.mem_cons_of_mem _ hx)
      simp only [Cel.sizes, List.map_cons, List.flatten_cons, List.length_append, List.length_cons] at *
      omega
  have hk := key c.kids fun k hk => ih k hk (h3 k hk)
  have h12 := h1.2
  rw [List.length_append]
  by_cases hk1 : c.kind = 1
  · rw [if_pos hk1]
    have h0 : c.kids = [] := List.length_eq_zero_iff.1 (by omega)
    rw [h0]
    simp [Cel.sizes]
  · rw [if_neg hk1]
    simp only [List.length_nil, Nat.zero_add]
    omega

/-! the parts of a cut -/
theorem cutS_inv {r : Rct} {ax : Int} {l : List Int} {ps ls : List Rct} (h : cutS r ax l = some (ps, ls)) : r.may = true ∧ 1 ≤ ax ∧ ax ≤ 2 ∧ l ≠ [] ∧ ∃ off, cutF (ax == 1) r l = some (off, ps, ls) ∧ off = cutW (ax == 1) r := by
  unfold cutS at h
  split at h
  · rename_i hc
    split at h
    · rename_i off ps' ls' hF
      split at h
      · rename_i ho
        cases h
        exact ⟨hc.1, hc.2.1, hc.2.2.1, hc.2.2.2, off, hF, ho⟩
      · cases h
    · cases h
  · cases h
theorem cutF_dims (a1 : Bool) (r : Rct) : ∀ (l : List Int) (o : Int) (ps ls : List Rct) (off : Int) (ps' ls' : List Rct), l.foldl (cutStep a1 r) (some (o, ps, ls)) = some (off, ps', ls') →
    ps'.map (cutW a1) = ps.map (cutW a1) ++ l ∧ ∀ n ∈ l, 1 ≤ n
  | [], o, ps, ls, off, ps', ls', h => by cases h; simp
  | n :: l, o, ps, ls, off, ps', ls', h => by
    rw [List.foldl_cons] at h
    by_cases hc : cutBad a1 r o n ps
    · rw [cutStep, if_pos hc, cut_none] at h; cases h
    · rw [cutStep, if_neg hc] at h
      obtain ⟨h1, h2⟩ := cutF_dims a1 r l _ _ _ _ _ _ h
      refine ⟨?_, fun x hx => ?_⟩
      · rw [h1]; cases a1 <;> simp [cutP, cutW]
      · rcases List.mem_cons.1 hx with rfl | hx
        · unfold cutBad at hc; omega
        · exact h2 x hx
theorem cutS_dims {r : Rct} {ax : Int} {l : List Int} {ps ls : List Rct} (h : cutS r ax l = some (ps, ls)) : ps.map (cutW (ax == 1)) = l ∧ ∀ n ∈ l, 1 ≤ n := by
  obtain ⟨_, _, _, _, off, hF, _⟩ := cutS_inv h
  simpa using cutF_dims _ _ _ _ _ _ _ _ _ hF
theorem cutS_may {r : Rct} {ax : Int} {l : List Int} {ps ls : List Rct} (h : cutS r ax l = some (ps, ls)) {p : Rct} (hp : p ∈ ps) : p.may = true :=
  (cutS_til h).may (cutS_inv h).1 (List.mem_append_left _ hp)
theorem cutS_single {r : Rct} {ax : Int} {l : List Int} {p : Rct} {ls : List Rct} (h : cutS r ax l = some ([p], ls)) : p = r := by
  obtain ⟨_, _, _, _, off, hF, ho⟩ := cutS_inv h
  have hl := (cutF_len _ _ _ _ _ _ hF).1
  match l, hl with
  | [n], _ =>
    rw [cutF, List.foldl_cons, List.foldl_nil] at hF
    by_cases hc : cutBad (ax == 1) r 0 n []
    · rw [cutStep, if_pos hc] at hF; cases hF
    · rw [cutStep, if_neg hc] at hF
      simp only [cutO, Int.zero_add, List.nil_append, Option.some.injEq, Prod.mk.injEq, List.cons.injEq, and_true] at hF
      obtain ⟨h1, h2, _⟩ := hF
      rw [← h2, h1, ho]
      unfold cutP cutW
      cases (ax == 1) <;> simp
/-- a group of trees in the parts of a cut -/
theorem fine_group {r : Rct} {ax : Int} {l : List Int} {ps ls : List Rct} {ks : List Cel} (h : cutS r ax l = some (ps, ls)) (hk : ks.map Cel.r = ps) (hf : ∀ k ∈ ks, k.fine) (h2 : 2 ≤ ks.length) : (Cel.mk (ax + 1) r 0 ks).fine := by
  obtain ⟨hm, h1, h3, _⟩ := cutS_inv h
  rw [fine_iff]
  refine ⟨⟨hm, .inr ⟨by simp only [Cel.kind]; omega, h2, rfl⟩⟩, ?_, hf⟩
  have hs : (Cel.mk (ax + 1) r 0 ks).szs = l := by
    rw [← (cutS_dims h).1, ← hk, Cel.szs, List.map_map]
    apply List.map_congr_left
    intro k _
    simp only [Cel.sz, Cel.kind, Function.comp_apply, cutW]
    by_cases ha : ax = 1
    · simp [ha]
    · have : ax = 2 := by omega
      simp [this]
  have e : (Cel.mk (ax + 1) r 0 ks).kind - 1 = ax := by simp only [Cel.kind]; omega
  rw [Cel.one, if_neg (by simp only [Cel.kind]; omega), hs, e]
  simp only [Cel.r, Cel.kids, h, hk, if_true, Option.isSome_some]
theorem fine_leaf {r : Rct} {id : Int} (hr : r.may = true) (h0 : 0 ≤ id) (h1 : id ≤ 2147483647) : (Cel.mk 1 r id []).fine := by
  rw [fine_iff]
  refine ⟨⟨hr, .inl ⟨rfl, rfl, h0, h1⟩⟩, ?_, fun k hk => nomatch hk⟩
  rw [Cel.one, if_pos (show (Cel.mk 1 r id []).kind = 1 from rfl)]; rfl
end Go.Proofs

set_option linter.unusedVariables false
set_option linter.unusedSimpArgs false
namespace Go.Proofs
open Go.Idl

/-- a layout of panes in a rectangle -/
structure Lay (r : Rct) (ids : List Int) (c : Cel) : Prop where
  r : c.r = r
  ids : c.ids = ids
  fine : c.fine
def okN (ids : List Int) : Prop := ∀ n ∈ ids, 0 ≤ n ∧ n ≤ 2147483647
theorem lay_leaf {r : Rct} {id : Int} (hr : r.may = true) (h : 0 ≤ id ∧ id ≤ 2147483647) : Lay r [id] (lf r id) :=
  ⟨rfl, by rw [ids_eq]; simp [lf, Cel.kind, Cel.id, Cel.kids, idsL, Cel.alls], fine_leaf hr h.1 h.2⟩
theorem lay_of {r : Rct} {ax : Int} {sizes : List Int} {K : Nat → Rct → Option Cel} {c : Cel} (I : Nat → List Int) (h : ofC r ax sizes K = some c)
    (hK : ∀ i p k, i < sizes.length → p.may = true → K i p = some k → Lay p (I i) k) : Lay r (((List.range sizes.length).map I).flatten) c := by
  unfold ofC at h
  split at h
  · cases h
  · rename_i x hx
    obtain ⟨ps, ls⟩ := x
    obtain ⟨ks, hks, rfl⟩ := Option.map_eq_some_iff.1 h
    simp only at hks
    have hlen := (cutS_len hx).1
    have hk := kidsU_get hks
    have hkl := kidsU_len hks
    have hne := (cutS_inv hx).2.2.2.1
    have hl : ∀ i, i < ps.length → ∃ k p, ks[i]? = some k ∧ ps[i]? = some p ∧ p.may = true ∧ Lay p (I i) k := fun i hi => by
      obtain ⟨k, h1, h2⟩ := hk i hi
      have hp : ps[i]? = some ps[i] := List.getElem?_eq_getElem hi
      rw [hp, Option.getD_some] at h2
      have hm := cutS_may hx (List.getElem_mem hi)
      exact ⟨k, _, h1, hp, hm, hK i _ k (by omega) hm h2⟩
    have hr : ks.map Cel.r = ps := by
      apply List.ext_getElem?
      intro i
      by_cases hi : i < ps.length
      · obtain ⟨k, p, h1, h2, _, h3⟩ := hl i hi
        rw [List.getElem?_map, h1, h2, Option.map_some, h3.r]
      · rw [List.getElem?_eq_none (by simp; omega), List.getElem?_eq_none (by omega)]
    have hids : ks.map Cel.ids = (List.range sizes.length).map I := by
      apply List.ext_getElem?
      intro i
      by_cases hi : i < ps.length
      · obtain ⟨k, p, h1, h2, _, h3⟩ := hl i hi
        rw [List.getElem?_map, h1, Option.map_some, h3.ids, List.getElem?_map, List.getElem?_range (by omega), Option.map_some]
      · rw [List.getElem?_eq_none (by simp; omega), List.getElem?_eq_none (by simp; omega)]
    have hf : ∀ k ∈ ks, k.fine := fun k hk => by
      obtain ⟨i, hi, rfl⟩ := List.getElem_of_mem hk
      obtain ⟨k, p, h1, h2, _, h3⟩ := hl i (by omega)
      rw [List.getElem?_eq_getElem hi] at h1
      cases h1
      exact h3.fine
    rw [← hids]
    match ks, hkl with
    | [], hkl =>
      have : sizes = [] := List.eq_nil_of_length_eq_zero (by simp at hkl; omega)
      exact absurd this hne
    | [k], hkl =>
      have hp1 : ps = [k.r] := by simpa using hr.symm
      rw [hp1] at hx
      have := cutS_single hx
      exact ⟨this, by simp [groupC], hf k List.mem_cons_self⟩
    | k :: k2 :: ks, hkl =>
      refine ⟨rfl, ?_, fine_group hx hr hf (by simp)⟩
      rw [groupC, ids_eq, idsL_eq, if_neg (by simp only [Cel.kind]; have := (cutS_inv hx).2.1; omega)]
      · rfl
      · intro k' e; simp at e
theorem single_flat (ids : List Int) : ((List.range ids.length).map fun i => [ids[i]?.getD 0]).flatten = ids := by
  have : ((List.range ids.length).map fun i => [ids[i]?.getD 0]) = ids.map fun x => [x] := by
    apply List.ext_getElem
    · simp
    · intro i h1 h2; simp at h1; simp [h1]
  rw [this]
  clear this
  induction ids with
  | nil => rfl
  | cons x l ih => simp [ih]
theorem sizesL_len {s : Int} {n : Nat} : (sizesL s n).length = n := by simp [sizesL]
theorem evenC_some {r : Rct} {ax : Int} {n : Nat} {K : Nat → Rct → Option Cel} {c : Cel} (h : evenC r ax n K = some c) : ¬ sizesBad (dimR r ax) n ∧ ofC r ax (sizesL (dimR r ax) n) K = some c := by
  unfold evenC at h
  split at h
  · cases h
  · rename_i hb; exact ⟨hb, h⟩
theorem lay_line {r : Rct} {ax : Int} {ids : List Int} {c : Cel} (h : lineC r ax ids = some c) (hn : okN ids) : Lay r ids c := by
  obtain ⟨_, h2⟩ := evenC_some h
  have := lay_of (fun i => [ids[i]?.getD 0]) h2 (fun i p k hi hp hk => by
    cases hk
    rw [sizesL_len] at hi
    refine lay_leaf hp ?_
    rw [List.getElem?_eq_getElem hi]
    exact hn _ (List.getElem_mem hi))
  rwa [sizesL_len, single_flat] at this
theorem lay_main {r : Rct} {ax size : Int} {ids : List Int} {c : Cel} (h : mainC r ax size ids = some c) (hr : r.may = true) (hn : okN ids) (hne : ids ≠ []) : Lay r ids c := by
  unfold mainC at h
  cases ids with
  | nil => exact absurd rfl hne
  | cons x l =>
    have hx := hn x List.mem_cons_self
    split at h
    · rename_i h1
      cases h
      have hl : l = [] := List.eq_nil_of_length_eq_zero (by simpa using h1)
      subst hl
      exact lay_leaf hr hx
    · split at h
      · cases h
      · have := lay_of (fun i => if i = 0 then [x] else l) h (fun i p k hi hp hk => by
          by_cases h0 : i = 0
          · rw [if_pos h0] at hk ⊢
            cases hk
            exact lay_leaf hp hx
          · rw [if_neg h0] at hk ⊢
            exact lay_line hk fun n hnm => hn n (List.mem_cons_of_mem _ hnm))
        simpa [List.range_succ] using this
theorem chunks_flat (k : Nat) (l : List Int) (hk : 1 ≤ k) : (chunks k l).flatten = l := by
  have key : ∀ m, ((List.range m).map fun i => (l.drop (i * k)).take k).flatten = l.take (m * k) := by
    intro m
    induction m with
    | zero => simp
    | succ m ih =>
      rw [List.range_succ, List.map_append, List.flatten_append, ih]
      simp only [List.map_cons, List.map_nil, List.flatten_cons, List.flatten_nil, List.append_nil]
      rw [Nat.succ_mul, List.take_add]
  rw [chunks, key, List.take_of_length_le]
  have := Nat.div_add_mod (l.length + k - 1) k
  have hm := Nat.mod_lt (l.length + k - 1) (show 0 < k by omega)
  rw [Nat.mul_comm] at this
  omega
theorem lay_tiled {r : Rct} {ids : List Int} {c : Cel} (h : tiledC r ids = some c) (hn : okN ids) (hk : 1 ≤ gcols ids.length) : Lay r ids c := by
  obtain ⟨_, h2⟩ := evenC_some h
  have hfl := chunks_flat (gcols ids.length) ids hk
  generalize chunks (gcols ids.length) ids = gs at h2 hfl
  have := lay_of (fun i => gs[i]?.getD []) h2 (fun i p k hi hp hkk => by
    refine lay_line hkk fun n hnm => hn n ?_
    rw [← hfl, List.mem_flatten]
    rw [sizesL_len] at hi
    rw [List.getElem?_eq_getElem hi] at hnm
    exact ⟨_, List.getElem_mem hi, hnm⟩)
  rw [sizesL_len] at this
  have e : ((List.range gs.length).map fun i => gs[i]?.getD []) = gs := by
    apply List.ext_getElem
    · simp
    · intro i h1 h2; simp at h1; simp [h1]
  rwa [e, hfl] at this
theorem gcols_pos {n : Nat} (hn : n ≤ 4096) : 1 ≤ gcols n ∧ gcols n ≤ 64 := by
  obtain ⟨r, c, h, _, _, _, h1, h2, _⟩ := grid_facts hn
  rw [gcols, h]; exact ⟨h1, h2⟩
theorem lay_made {preset : Int} {r : Rct} {size : Int} {ids : List Int} {c : Cel} (h : madeC preset r size ids = some c) (hr : r.may = true) (hi : rightL ids) : Lay r ids c := by
  have hn : okN ids := hi.2.2.1
  have hne : ids ≠ [] := fun e => by have := hi.1; rw [e] at this; simp at this
  unfold madeC at h
  split at h
  · exact lay_line h hn
  split at h
  · exact lay_line h hn
  split at h
  · exact lay_main h hr hn hne
  split at h
  · exact lay_main h hr hn hne
  · exact lay_tiled h hn (gcols_pos hi.2.1).1
theorem make_lay {preset w h size : Int} {ids : List Int} {c : Cel} (hm : makeV preset w h size ids = (c, 0)) : Lay ⟨0, 0, w, h⟩ ids c ∧ c.tiles = true := by
  unfold makeV at hm
  split at hm
  · rename_i hc
    split at hm
    · rename_i c' hmade
      simp only [Prod.mk.injEq, and_true] at hm
      subst hm
      have hl := lay_made hmade hc.2.2.1 hc.2.2.2
      refine ⟨hl, (tiles_iff c').2 ⟨?_, hl.fine, by rw [hl.ids]; exact hc.2.2.2.2.2.2⟩⟩
      have := fine_size c' hl.fine
      have h2 := hc.2.2.2.2.1
      rw [hl.ids] at this
      omega
    · cases hm
  · cases hm
theorem make_err (preset w h size : Int) (ids : List Int) : (∃ c, makeV preset w h size ids = (c, 0)) ∨ makeV preset w h size ids = (Cel.zero, 1) ∨ makeV preset w h size ids = (Cel.zero, 7) := by
  unfold makeV
  split
  · split
    · exact .inl ⟨_, rfl⟩
    · exact .inr (.inr rfl)
  · exact .inr (.inl rfl)
end Go.Proofs

set_option linter.unusedVariables false
set_option linter.unusedSimpArgs false
namespace Go.Proofs
open Go.Idl

/-! whether a layout can be made, and in greater rectangles -/
theorem cutF_other (a1 : Bool) (r : Rct) : ∀ (l : List Int) (o : Int) (ps ls : List Rct) (off : Int) (ps' ls' : List Rct), l.foldl (cutStep a1 r) (some (o, ps, ls)) = some (off, ps', ls') →
    (∀ p ∈ ps, cutW (!a1) p = cutW (!a1) r) → ∀ p ∈ ps', cutW (!a1) p = cutW (!a1) r
  | [], o, ps, ls, off, ps', ls', h, hp => by cases h; exact hp
  | n :: l, o, ps, ls, off, ps', ls', h, hp => by
    rw [List.foldl_cons] at h
    by_cases hc : cutBad a1 r o n ps
    · rw [cutStep, if_pos hc, cut_none] at h; cases h
    · rw [cutStep, if_neg hc] at h
      refine cutF_other a1 r l _ _ _ _ _ _ h fun p hm => ?_
      rcases List.mem_append.1 hm with hm | hm
      · exact hp p hm
      · simp only [List.mem_singleton] at hm
        subst hm
        cases a1 <;> simp [cutP, cutW]
theorem cutS_other {r : Rct} {ax : Int} {l : List Int} {ps ls : List Rct} (h : cutS r ax l = some (ps, ls)) {p : Rct} (hp : p ∈ ps) : dimR p (3 - ax) = dimR r (3 - ax) := by
  obtain ⟨_, h1, h2, _, off, hF, _⟩ := cutS_inv h
  have := cutF_other _ _ _ _ _ _ _ _ _ hF (fun q hq => nomatch hq) p hp
  have hax : ax = 1 ∨ ax = 2 := by omega
  rcases hax with rfl | rfl <;> simpa [cutW, dimR, rsz] using this
theorem kidsU_isSome {K : Nat → Rct → Option Cel} {ps : List Rct} (n : Nat) : (kidsU K ps n).isSome = true ↔ ∀ i, i < n → (K i (ps[i]?.getD ⟨0, 0, 0, 0⟩)).isSome = true := by
  constructor
  · intro h i hi
    obtain ⟨ks, hk⟩ := Option.isSome_iff_exists.1 h
    obtain ⟨k, _, h2⟩ := kidsU_get hk i hi
    rw [h2]; rfl
  · induction n with
    | zero => intro _; rfl
    | succ n ih =>
      intro h
      obtain ⟨ks, hk⟩ := Option.isSome_iff_exists.1 (ih fun i hi => h i (by omega))
      obtain ⟨k, hk2⟩ := Option.isSome_iff_exists.1 (h n (by omega))
      rw [kidsU, hk]
      simp [hk2]
theorem evenC_isSome {r : Rct} {ax : Int} {n : Nat} {K : Nat → Rct → Option Cel} (hr : r.may = true) (h1 : 1 ≤ ax) (h2 : ax ≤ 2) (Q : Nat → Prop)
    (hK : ∀ i p, i < n → p.may = true → dimR p (3 - ax) = dimR r (3 - ax) → ((K i p).isSome = true ↔ Q i)) : (evenC r ax n K).isSome = true ↔ ¬ sizesBad (dimR r ax) n ∧ ∀ i, i < n → Q i := by
  unfold evenC
  split
  · rename_i hb; simp [hb]
  · rename_i hb
    obtain ⟨ps, ls, hc, hl⟩ := sizes_cut hr h1 h2 hb
    have hl' : ps.length = n := by omega
    rw [ofC, hc]
    simp only [Option.isSome_map, kidsU_isSome, hb, not_false_eq_true, true_and]
    rw [hl']
    refine ⟨fun h i hi => ?_, fun h i hi => ?_⟩
    · have hi' : i < ps.length := by omega
      have := h i hi
      rw [List.getElem?_eq_getElem hi', Option.getD_some] at this
      exact (hK i _ hi (cutS_may hc (List.getElem_mem hi')) (cutS_other hc (List.getElem_mem hi'))).1 this
    · have hi' : i < ps.length := by omega
      rw [List.getElem?_eq_getElem hi', Option.getD_some]
      exact (hK i _ hi (cutS_may hc (List.getElem_mem hi')) (cutS_other hc (List.getElem_mem hi'))).2 (h i hi)
theorem lineC_isSome {r : Rct} {ax : Int} {ids : List Int} (hr : r.may = true) (h1 : 1 ≤ ax) (h2 : ax ≤ 2) : (lineC r ax ids).isSome = true ↔ ¬ sizesBad (dimR r ax) ids.length := by
  rw [lineC, evenC_isSome hr h1 h2 (fun _ => True) (fun i p hi hp hd => by simp)]
  simp
theorem main_cut {r : Rct} {ax size : Int} (hr : r.may = true) (h1 : 1 ≤ ax) (h2 : ax ≤ 2) (h3 : ¬ dimR r ax < 3) :
    ∃ p q ls, cutS r ax [max 1 (min size (dimR r ax - 2)), dimR r ax - 1 - max 1 (min size (dimR r ax - 2))] = some ([p, q], ls) ∧ p.may = true ∧ q.may = true ∧ dimR q (3 - ax) = dimR r (3 - ax) := by
  obtain ⟨ps, ls, hc, hl⟩ := cutS_ok (l := [max 1 (min size (dimR r ax - 2)), dimR r ax - 1 - max 1 (min size (dimR r ax - 2))]) hr h1 h2 (by
    intro n hn; simp only [List.mem_cons, List.not_mem_nil, or_false] at hn; omega) (by simp) (by simp; omega)
  match ps, hl, hc with
  | [p, q], _, hc => exact ⟨p, q, ls, hc, cutS_may hc List.mem_cons_self, cutS_may hc (List.mem_cons_of_mem _ List.mem_cons_self), cutS_other hc (List.mem_cons_of_mem _ List.mem_cons_self)⟩
theorem mainC_isSome {r : Rct} {ax size : Int} {ids : List Int} (hr : r.may = true) (h1 : 1 ≤ ax) (h2 : ax ≤ 2) : (mainC r ax size ids).isSome = true ↔ ids.length = 1 ∨ (¬ dimR r ax < 3 ∧ ¬ sizesBad (dimR r (3 - ax)) (ids.length - 1 : Nat)) := by
  unfold mainC
  split
  · rename_i h; simp [h]
  · rename_i h
    split
    · rename_i h3; simp [h, h3]
    · rename_i h3
      obtain ⟨p, q, ls, hc, hp, hq, hd⟩ := main_cut (size := size) hr h1 h2 h3
      rw [ofC, hc]
      have := lineC_isSome (r := q) (ax := 3 - ax) (ids := ids.tail) hq (by omega) (by omega)
      rw [hd, List.length_tail] at this
      simp only [Option.isSome_map, kidsU_isSome, h, false_or, h3, not_false_eq_true, true_and]
      rw [← this]
      refine ⟨fun hh => by simpa using hh 1 (by simp), fun hh i hi => ?_⟩
      simp only [List.length_cons, List.length_nil] at hi
      have : i = 0 ∨ i = 1 := by omega
      rcases this with rfl | rfl
      · simp
      · simpa using hh
theorem tiledC_isSome {r : Rct} {ids : List Int} (hr : r.may = true) : (tiledC r ids).isSome = true ↔ ¬ sizesBad r.h (chunks (gcols ids.length) ids).length ∧ ∀ i, i < (chunks (gcols ids.length) ids).length → ¬ sizesBad r.w ((chunks (gcols ids.length) ids)[i]?.getD []).length := by
  rw [tiledC, evenC_isSome hr (by omega) (by omega) (fun i => ¬ sizesBad r.w ((chunks (gcols ids.length) ids)[i]?.getD []).length) (fun i p hi hp hd => by
    rw [lineC_isSome hp (by omega) (by omega)]
    have : dimR p 1 = r.w := by simpa [dimR, rsz] using hd
    rw [this])]
  have : dimR r 2 = r.h := by simp [dimR, rsz]
  rw [this]
theorem bad_mono {s s' n : Int} (h : s ≤ s') (h2 : s' ≤ 10000) (hb : ¬ sizesBad s n) : ¬ sizesBad s' n := by unfold sizesBad at *; omega
theorem made_mono {preset : Int} {r r' : Rct} {size : Int} {ids : List Int} (hr : r.may = true) (hr' : r'.may = true) (hw : r.w ≤ r'.w) (hh : r.h ≤ r'.h) (h : (madeC preset r size ids).isSome = true) : (madeC preset r' size ids).isSome = true := by
  have hm := hr'
  rw [Rct.may, decide_eq_true_eq] at hm
  have d1 : dimR r 1 ≤ dimR r' 1 ∧ dimR r' 1 ≤ 10000 := by simp [dimR, rsz]; omega
  have d2 : dimR r 2 ≤ dimR r' 2 ∧ dimR r' 2 ≤ 10000 := by simp [dimR, rsz]; omega
  unfold madeC at h ⊢
  split
  · rename_i hp
    rw [if_pos hp, lineC_isSome hr (by omega) (by omega)] at h
    rw [lineC_isSome hr' (by omega) (by omega)]
    exact bad_mono d1.1 d1.2 h
  rename_i hp1
  rw [if_neg hp1] at h
  split
  · rename_i hp
    rw [if_pos hp, lineC_isSome hr (by omega) (by omega)] at h
    rw [lineC_isSome hr' (by omega) (by omega)]
    exact bad_mono d2.1 d2.2 h
  rename_i hp2
  rw [if_neg hp2] at h
  split
  · rename_i hp
    rw [if_pos hp, mainC_isSome hr (by omega) (by omega)] at h
    rw [mainC_isSome hr' (by omega) (by omega)]
    refine h.imp id fun h => ⟨by omega, ?_⟩
    exact bad_mono d1.1 d1.2 h.2
  rename_i hp3
  rw [if_neg hp3] at h
  split
  · rename_i hp
    rw [if_pos hp, mainC_isSome hr (by omega) (by omega)] at h
    rw [mainC_isSome hr' (by omega) (by omega)]
    refine h.imp id fun h => ⟨by omega, ?_⟩
    exact bad_mono d2.1 d2.2 h.2
  rename_i hp4
  rw [if_neg hp4] at h
  rw [tiledC_isSome hr] at h
  rw [tiledC_isSome hr']
  refine ⟨bad_mono hh (by omega) h.1, fun i hi => bad_mono hw (by omega) (h.2 i hi)⟩
theorem make_zero {preset w h size : Int} {ids : List Int} : (makeV preset w h size ids).2 = 0 ↔ (1 ≤ preset ∧ preset ≤ 5 ∧ (Rct.mk 0 0 w h).may = true ∧ rightL ids) ∧ (madeC preset ⟨0, 0, w, h⟩ size ids).isSome = true := by
  unfold makeV
  split
  · rename_i hc
    split
    · rename_i c hm; simp [hc, hm]
    · rename_i hm; simp [hm]
  · rename_i hc; simp [hc]
theorem make_mono {preset w h w' h' size : Int} {ids : List Int} (hw : w ≤ w') (hh : h ≤ h') (hw2 : w' ≤ 10000) (hh2 : h' ≤ 10000) (hz : (makeV preset w h size ids).2 = 0) : (makeV preset w' h' size ids).2 = 0 := by
  rw [make_zero] at hz ⊢
  obtain ⟨⟨h1, h2, h3, h4⟩, h5⟩ := hz
  have hm : (Rct.mk 0 0 w' h').may = true := by
    simp only [Rct.may, decide_eq_true_eq] at h3 ⊢
    omega
  exact ⟨⟨h1, h2, hm, h4⟩, made_mono h3 hm hw hh h5⟩
end Go.Proofs
