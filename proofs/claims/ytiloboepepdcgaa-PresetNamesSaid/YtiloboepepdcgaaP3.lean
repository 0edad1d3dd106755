/- This text is a part of the proofs of the statements of this seat: the ideal states and their rules, or what one of the functions that the statements reach comes to. Conditions: none beyond those that each theorem names. -/
import Derived.Test.YtiloboepepdcgaaP2
set_option linter.unusedVariables false
set_option linter.unusedSimpArgs false
set_option pp.deepTerms false
set_option pp.maxSteps 400
namespace Go.Proofs
open Go.Idl

/-! what tiles: the leaves' rectangles and the lines part the whole -/
def Rct.apart (a b : Rct) : Prop := a.x + a.w ≤ b.x ∨ b.x + b.w ≤ a.x ∨ a.y + a.h ≤ b.y ∨ b.y + b.h ≤ a.y
def Rct.inside (o r : Rct) : Prop := o.x ≤ r.x ∧ o.y ≤ r.y ∧ r.x + r.w ≤ o.x + o.w ∧ r.y + r.h ≤ o.y + o.h
def areaL (l : List Rct) : Int := (l.map fun r => r.w * r.h).sum
structure Til (r : Rct) (l : List Rct) : Prop where
  pos : ∀ s ∈ l, 0 < s.w ∧ 0 < s.h ∧ r.inside s
  pw : l.Pairwise Rct.apart
  ar : areaL l = r.w * r.h

theorem Rct.apart_symm {a b : Rct} (h : a.apart b) : b.apart a := by unfold Rct.apart at *; omega
theorem areaL_append (l m : List Rct) : areaL (l ++ m) = areaL l + areaL m := by simp [areaL]
theorem areaL_perm {l m : List Rct} (h : l.Perm m) : areaL l = areaL m := by
  unfold areaL
  induction h with
  | nil => rfl
  | cons x _ ih => simp [ih]
  | swap x y l => simp; omega
  | trans _ _ h1 h2 => exact h1.trans h2
theorem Til.perm {r : Rct} {l m : List Rct} (h : Til r l) (hp : l.Perm m) : Til r m :=
  ⟨fun s hs => h.pos s (hp.mem_iff.2 hs), (hp.pairwise_iff (fun h => Rct.apart_symm h)).1 h.pw, by rw [← areaL_perm hp]; exact h.ar⟩

theorem apart_in {p q s t : Rct} (h : p.apart q) (hs : p.inside s) (ht : q.inside t) : s.apart t := by
  unfold Rct.apart Rct.inside at *; omega
theorem apart_in1 {p q s : Rct} (h : p.apart q) (hs : p.inside s) : s.apart q := by
  unfold Rct.apart Rct.inside at *; omega
theorem inside_trans {o p s : Rct} (h : o.inside p) (hs : p.inside s) : o.inside s := by
  unfold Rct.inside at *; omega

/-- one part is itself parted -/
theorem Til.repl {r q : Rct} {l rest : List Rct} (h : Til r (q :: rest)) (k : Til q l) : Til r (l ++ rest) := by
  have hq := h.pos q List.mem_cons_self
  obtain ⟨h1, h2⟩ := List.pairwise_cons.1 h.pw
  refine ⟨fun s hs => ?_, ?_, ?_⟩
  · rcases List.mem_append.1 hs with hs | hs
    · have := k.pos s hs
      exact ⟨this.1, this.2.1, inside_trans hq.2.2 this.2.2⟩
    · exact h.pos s (List.mem_cons_of_mem _ hs)
  · rw [List.pairwise_append]
    exact ⟨k.pw, h2, fun s hs t ht => apart_in1 (h1 t ht) (k.pos s hs).2.2⟩
  · have h3 := h.ar
    have h4 := k.ar
    rw [areaL_append, h4]
    have : areaL (q :: rest) = q.w * q.h + areaL rest := by simp [areaL]
    omega

theorem Til.repls {r : Rct} {S : Cel → List Rct} (ks : List Cel) : ∀ (rest : List Rct), Til r (ks.map Cel.r ++ rest) → (∀ k ∈ ks, Til k.r (S k)) → Til r ((ks.map S).flatten ++ rest) := by
  induction ks with
  | nil => intro rest h _; exact h
  | cons k ks ih =>
    intro rest h hk
    have h1 : Til r (k.r :: (ks.map Cel.r ++ rest)) := h
    have h2 := h1.repl (hk k List.mem_cons_self)
    have h3 : Til r (ks.map Cel.r ++ (rest ++ S k)) := h2.perm (by rw [← List.append_assoc (ks.map Cel.r)]; exact List.perm_append_comm)
    have h4 := ih _ h3 (fun d hd => hk d (List.mem_cons_of_mem _ hd))
    refine h4.perm ?_
    rw [List.map_cons, List.flatten_cons, List.append_assoc, ← List.append_assoc]
    exact List.perm_append_comm

/-! a cut -/
def dimO (a1 : Bool) (r : Rct) : Int := if a1 = true then r.h else r.w
structure CutI (a1 : Bool) (r : Rct) (off : Int) (ps ls : List Rct) : Prop where
  o0 : 0 ≤ off
  pos : ∀ s ∈ ps ++ ls, 0 < s.w ∧ 0 < s.h ∧ (cutP a1 r 0 off).inside s
  pw : (ps ++ ls).Pairwise Rct.apart
  ar : areaL (ps ++ ls) = off * dimO a1 r

theorem cutP_inside (a1 : Bool) (r : Rct) {o n : Int} (h0 : 0 ≤ o) {m : Int} (hm : o + n ≤ m) : (cutP a1 r 0 m).inside (cutP a1 r o n) := by
  unfold cutP Rct.inside; cases a1 <;> simp <;> omega
theorem cutP_mono (a1 : Bool) (r : Rct) {m m' : Int} (h : m ≤ m') {s : Rct} (hs : (cutP a1 r 0 m).inside s) : (cutP a1 r 0 m').inside s := by
  unfold cutP Rct.inside at *; cases a1 <;> simp at * <;> omega
theorem cutP_apart (a1 : Bool) (r : Rct) {m o n : Int} (h : m ≤ o) {s : Rct} (hs : (cutP a1 r 0 m).inside s) : s.apart (cutP a1 r o n) := by
  unfold cutP Rct.inside Rct.apart at *; cases a1 <;> simp at * <;> omega
theorem cutP_area (a1 : Bool) (r : Rct) (o n : Int) : (cutP a1 r o n).w * (cutP a1 r o n).h = n * dimO a1 r := by
  unfold cutP dimO; cases a1 <;> simp [Int.mul_comm]
theorem cutP_pos (a1 : Bool) (r : Rct) (hw : 0 < r.w) (hh : 0 < r.h) {o n : Int} (hn : 0 < n) : 0 < (cutP a1 r o n).w ∧ 0 < (cutP a1 r o n).h := by
  unfold cutP; cases a1 <;> simp <;> omega

/-- one more rectangle at the end -/
theorem CutI.add (a1 : Bool) (r : Rct) (hw : 0 < r.w) (hh : 0 < r.h) {m : Int} {l : List Rct} {o n : Int} (h0 : 0 ≤ m) (hmo : m = o) (hn : 0 < n)
    (pos : ∀ s ∈ l, 0 < s.w ∧ 0 < s.h ∧ (cutP a1 r 0 m).inside s) (pw : l.Pairwise Rct.apart) (ar : areaL l = m * dimO a1 r) :
    (∀ s ∈ cutP a1 r o n :: l, 0 < s.w ∧ 0 < s.h ∧ (cutP a1 r 0 (o + n)).inside s) ∧ (cutP a1 r o n :: l).Pairwise Rct.apart ∧ areaL (cutP a1 r o n :: l) = (o + n) * dimO a1 r := by
  subst hmo
  have hp := cutP_pos a1 r hw hh (o := m) hn
  refine ⟨fun s hs => ?_, ?_, ?_⟩
  · rcases List.mem_cons.1 hs with rfl | hs
    · exact ⟨hp.1, hp.2, cutP_inside a1 r h0 (Int.le_refl _)⟩
    · have := pos s hs
      exact ⟨this.1, this.2.1, cutP_mono a1 r (by omega) this.2.2⟩
  · rw [List.pairwise_cons]
    exact ⟨fun s hs => Rct.apart_symm (cutP_apart a1 r (Int.le_refl _) (pos s hs).2.2), pw⟩
  · have : areaL (cutP a1 r m n :: l) = (cutP a1 r m n).w * (cutP a1 r m n).h + areaL l := by simp [areaL]
    rw [this, cutP_area, ar, Int.add_mul]; omega

theorem CutI.step (a1 : Bool) (r : Rct) (hw : 0 < r.w) (hh : 0 < r.h) {off : Int} {ps ls : List Rct} {n : Int} (h : CutI a1 r off ps ls) (hn : 1 ≤ n) :
    CutI a1 r (cutO off ps + n) (ps ++ [cutP a1 r (cutO off ps) n]) (cutL a1 r off ps ls) := by
  have h0 := h.o0
  have ho : off ≤ cutO off ps := by unfold cutO; split <;> omega
  -- what stands, with the line
  have key : (∀ s ∈ ps ++ cutL a1 r off ps ls, 0 < s.w ∧ 0 < s.h ∧ (cutP a1 r 0 (cutO off ps)).inside s) ∧ (ps ++ cutL a1 r off ps ls).Pairwise Rct.apart ∧ areaL (ps ++ cutL a1 r off ps ls) = cutO off ps * dimO a1 r := by
    cases ps with
    | nil => exact ⟨h.pos, h.pw, h.ar⟩
    | cons p ps =>
      obtain ⟨k1, k2, k3⟩ := CutI.add a1 r hw hh (o := off) (n := 1) h0 rfl (by omega) h.pos h.pw h.ar
      have hp : (cutP a1 r off 1 :: ((p :: ps) ++ ls)).Perm ((p :: ps) ++ (ls ++ [cutP a1 r off 1])) := by
        rw [← List.append_assoc]; exact (List.perm_append_comm (l₁ := [cutP a1 r off 1]))
      refine ⟨fun s hs => k1 s (hp.mem_iff.2 hs), (hp.pairwise_iff (fun h => Rct.apart_symm h)).1 k2, ?_⟩
      have e := areaL_perm hp
      exact e.symm.trans k3
  obtain ⟨k1, k2, k3⟩ := key
  obtain ⟨m1, m2, m3⟩ := CutI.add a1 r hw hh (o := cutO off ps) (n := n) (by omega) rfl (by omega) k1 k2 k3
  have hp : (cutP a1 r (cutO off ps) n :: (ps ++ cutL a1 r off ps ls)).Perm ((ps ++ [cutP a1 r (cutO off ps) n]) ++ cutL a1 r off ps ls) := by
    rw [List.append_assoc]; exact (List.perm_middle (l₁ := ps) (a := cutP a1 r (cutO off ps) n)).symm
  exact ⟨by omega, fun s hs => m1 s (hp.mem_iff.2 hs), (hp.pairwise_iff (fun h => Rct.apart_symm h)).1 m2, by rw [← areaL_perm hp]; exact m3⟩

theorem cutF_inv (a1 : Bool) (r : Rct) (hw : 0 < r.w) (hh : 0 < r.h) : ∀ (l : List Int) (o1 : Int) (p1 l1 : List Rct) (off : Int) (ps ls : List Rct), CutI a1 r o1 p1 l1 → l.foldl (cutStep a1 r) (some (o1, p1, l1)) = some (off, ps, ls) → CutI a1 r off ps ls := by
  intro l
  induction l with
  | nil => intro o1 p1 l1 off ps ls hi h; cases h; exact hi
  | cons n l ih =>
    intro o1 p1 l1 off ps ls hi h
    rw [List.foldl_cons] at h
    by_cases hc : cutBad a1 r o1 n p1
    · rw [cutStep, if_pos hc, cut_none] at h; cases h
    · rw [cutStep, if_neg hc] at h
      have hn : 1 ≤ n := by unfold cutBad at hc; omega
      exact ih _ _ _ _ _ _ (hi.step a1 r hw hh hn) h

theorem cutS_til {r : Rct} {ax : Int} {l : List Int} {ps ls : List Rct} (h : cutS r ax l = some (ps, ls)) : Til r (ps ++ ls) := by
  unfold cutS at h
  split at h
  · rename_i hc
    have hm := hc.1
    rw [Rct.may, decide_eq_true_eq] at hm
    split at h
    · rename_i off ps' ls' hF
      split at h
      · rename_i hoff
        cases h
        have hi := cutF_inv (ax == 1) r hm.2.2.2.2.1 hm.2.2.2.2.2.2.1 l 0 [] [] off ps ls ⟨Int.le_refl _, (fun s hs => nomatch hs), List.Pairwise.nil, by simp [areaL]⟩ hF
        have hr : cutP (ax == 1) r 0 off = r := by rw [hoff]; unfold cutP cutW; cases (ax == 1) <;> simp
        have hpos := hi.pos
        rw [hr] at hpos
        refine ⟨hpos, hi.pw, ?_⟩
        rw [hi.ar, hoff]; unfold cutW dimO; cases (ax == 1) <;> simp [Int.mul_comm]
      · cases h
    · cases h
  · cases h

/-! a tree -/
def lnsL (l : List Cel) : List Rct := (l.map fun d => d.one.getD []).flatten
theorem lnsL_append (l m : List Cel) : lnsL (l ++ m) = lnsL l ++ lnsL m := by simp [lnsL]
theorem fold_lns : ∀ (l : List Cel) (acc ls : List Rct), l.foldlM oneStep acc = some ls → ls = acc ++ lnsL l ∧ ∀ d ∈ l, d.one.isSome = true := by
  intro l
  induction l with
  | nil => intro acc ls h; simp at h; subst h; exact ⟨by simp [lnsL], fun d hd => nomatch hd⟩
  | cons d l ih =>
    intro acc ls h
    rw [List.foldlM_cons] at h
    cases ho : d.one with
    | none => rw [oneStep, ho] at h; cases h
    | some l1 =>
      rw [oneStep, ho] at h
      obtain ⟨h1, h2⟩ := ih _ _ h
      refine ⟨by rw [h1]; simp [lnsL, ho], fun x hx => ?_⟩
      rcases List.mem_cons.1 hx with rfl | hx
      · rw [ho]; rfl
      · exact h2 x hx

def rctsL (l : List Cel) : List Rct := ((Cel.alls l).filter fun d => d.kind == 1).map Cel.r
def Cel.both (c : Cel) : List Rct := c.leaves.map Cel.r ++ lnsL c.all

theorem both_perm (ks : List Cel) : ((ks.map Cel.both).flatten).Perm (rctsL ks ++ lnsL (Cel.alls ks)) := by
  induction ks with
  | nil => exact .refl _
  | cons k ks ih =>
    have e1 : rctsL (k :: ks) = k.leaves.map Cel.r ++ rctsL ks := by simp [rctsL, Cel.alls, Cel.leaves]
    have e2 : lnsL (Cel.alls (k :: ks)) = lnsL k.all ++ lnsL (Cel.alls ks) := by rw [Cel.alls, lnsL_append]
    rw [List.map_cons, List.flatten_cons, e1, e2, Cel.both, List.append_assoc, List.append_assoc]
    refine List.Perm.append_left _ ?_
    refine (List.Perm.append_left _ ih).trans ?_
    rw [← List.append_assoc, ← List.append_assoc]
    exact List.Perm.append_right _ List.perm_append_comm

theorem tree_til (c : Cel) : (∀ d ∈ c.all, d.Ok ∧ d.one.isSome = true) → Til c.r c.both := by
  induction c using Cel.induct
  rename_i c ih
  intro h
  have hc := h c (by rw [c.all_eq]; exact List.mem_cons_self)
  have hm := hc.1.1
  rw [Rct.may, decide_eq_true_eq] at hm
  by_cases hk : c.kind = 1
  · have hk0 : c.kids = [] := by
      have := hc.1.2
      exact List.length_eq_zero_iff.1 (by omega)
    have hb : c.both = [c.r] := by
      rw [Cel.both, Cel.leaves, c.all_eq, hk0]
      simp [Cel.alls, hk, lnsL, Cel.one]
    rw [hb]
    refine ⟨fun s hs => ?_, List.pairwise_singleton _ _, by simp [areaL]⟩
    simp at hs
    subst hs
    exact ⟨hm.2.2.2.2.1, hm.2.2.2.2.2.2.1, by unfold Rct.inside; omega⟩
  · obtain ⟨ls, hls⟩ := Option.isSome_iff_exists.1 hc.2
    have hone := hls
    rw [Cel.one, if_neg hk] at hone
    split at hone
    · rename_i ps ls' hcut
      split at hone
      · rename_i hps
        cases hone
        have h1 := cutS_til hcut
        rw [hps] at h1
        have h2 := Til.repls (S := Cel.both) c.kids _ h1 (fun k hkm => ih k hkm (fun d hd => h d (by
          rw [c.all_eq]
          refine List.mem_cons_of_mem _ ?_
          clear ih h hc h1 hps hcut hls
          revert hkm
          generalize c.kids = l
          intro hkm
          induction l with
          | nil => cases hkm
          | cons x l ih2 =>
            rw [Cel.alls]
            rcases List.mem_cons.1 hkm with rfl | hkm
            · exact List.mem_append_left _ hd
            · exact List.mem_append_right _ (ih2 hkm))))
        refine h2.perm ?_
        have e1 : c.leaves.map Cel.r = rctsL c.kids := by
          rw [Cel.leaves, c.all_eq, List.filter_cons]
          have : (c.kind == 1) = false := by simpa using hk
          rw [this]; rfl
        have e2 : lnsL c.all = ls ++ lnsL (Cel.alls c.kids) := by rw [c.all_eq]; simp [lnsL, hls]
        rw [Cel.both, e1, e2]
        refine (List.Perm.append_right _ (both_perm c.kids)).trans ?_
        rw [List.append_assoc]
        exact List.Perm.append_left _ List.perm_append_comm
      · cases hone
    · cases hone

theorem tiles_til {c : Cel} (h : c.tiles = true) : Til c.r (c.leaves.map Cel.r ++ c.check.1) ∧ c.r.may = true := by
  have hm := tiles_may h
  rw [tiles_fold, Bool.and_eq_true] at h
  obtain ⟨ls, hls⟩ := Option.isSome_iff_exists.1 h.2
  obtain ⟨h1, h2⟩ := fold_lns _ _ _ hls
  have hck : c.check.1 = lnsL c.all := by
    rw [Cel.check, if_pos h.1, chkL_fold, hls, h1]; simp
  rw [hck]
  exact ⟨tree_til c (fun d hd => ⟨hm.2.1 d hd, h2 d hd⟩), (hm.2.1 c (by rw [c.all_eq]; exact List.mem_cons_self)).1⟩

theorem Til.may {r : Rct} {l : List Rct} (h : Til r l) (hr : r.may = true) {s : Rct} (hs : s ∈ l) : s.may = true := by
  obtain ⟨h1, h2, h3⟩ := h.pos s hs
  rw [Rct.may, decide_eq_true_eq] at hr ⊢
  unfold Rct.inside at h3
  omega
end Go.Proofs
