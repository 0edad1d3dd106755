/- This text is a part of the proofs of the statements of this seat: the ideal states and their rules, or what one of the functions that the statements reach comes to. Conditions: none beyond those that each theorem names. -/
import Derived.Test.YtkadknkpgogfjaaGreatT2
import Derived.Test.YtkadknkpgogfjaaGreatF15
import Derived.Test.YtkadknkpgogfjaaGreatT0
import Derived.Test.YtkadknkpgogfjaaGreatRows
import Derived.ProofKit
import Derived.OpenShut
import Derived.JoinedCond
import Derived.JoinedOf
import Derived.Handed
import Derived.Carry
set_option linter.unusedVariables false
set_option linter.unusedSimpArgs false
set_option pp.deepTerms false
set_option pp.maxSteps 400
namespace Go.Proofs
open Go.Idl

/-! what tiles: the leaves' rectangles and the lines part the whole -/
def Rct.apart (a b : Rct) : Prop := a.x + a.w ≤ b.x ∨ b.x + b.w ≤ a.x ∨ a.y + a.h ≤ b.y ∨ b.y + b.h ≤ a.y
def Rct.inside (o r : Rct) : Prop := o.x ≤ r.x ∧ o.y ≤ r.y ∧ r.x + r.w ≤ o.x + o.w ∧ r.y + r.h ≤ o.y + o.h
def areaL (l : List Rct) : Int := (l.map fun r => r.w * r.h).sum
structure Til (r : Rct) (l : List Rct) : Prop where
  pos : ∀ s ∈ l, 0 < s.w ∧ 0 < s.h ∧ r.inside s
  pw : l.Pairwise Rct.apart
  ar : areaL l = r.w * r.h

theorem Rct.apart_symm {a b : Rct} (h : a.apart b) : b.apart a := by unfold Rct.apart at *; omega
theorem areaL_append (l m : List Rct) : areaL (l ++ m) = areaL l + areaL m := by simp [areaL]
theorem areaL_perm {l m : List Rct} (h : l.Perm m) : areaL l = areaL m := by
  unfold areaL
  induction h with
  | nil => rfl
  | cons x _ ih => simp [ih]
  | swap x y l => simp; omega
  | trans _ _ h1 h2 => exact h1.trans h2
theorem Til.perm {r : Rct} {l m : List Rct} (h : Til r l) (hp : l.Perm m) : Til r m :=
  ⟨fun s hs => h.pos s (hp.mem_iff.2 hs), (hp.pairwise_iff (fun h => Rct.apart_symm h)).1 h.pw, by rw [← areaL_perm hp]; exact h.ar⟩

theorem apart_in {p q s t : Rct} (h : p.apart q) (hs : p.inside s) (ht : q.inside t) : s.apart t := by
  unfold Rct.apart Rct.inside at *; omega
theorem apart_in1 {p q s : Rct} (h : p.apart q) (hs : p.inside s) : s.apart q := by
  unfold Rct.apart Rct.inside at *; omega
theorem inside_trans {o p s : Rct} (h : o.inside p) (hs : p.inside s) : o.inside s := by
  unfold Rct.inside at *; omega

/-- one part is itself parted -/
theorem Til.repl {r q : Rct} {l rest : List Rct} (h : Til r (q :: rest)) (k : Til q l) : Til r (l ++ rest) := by
  have hq := h.pos q List.mem_cons_self
  obtain ⟨h1, h2⟩ := List.pairwise_cons.1 h.pw
  refine ⟨fun s hs => ?_, ?_, ?_⟩
  · rcases List.mem_append.1 hs with hs | hs
    · have := k.pos s hs
      exact ⟨this.1, this.2.1, inside_trans hq.2.2 this.2.2⟩
    · exact h.pos s (List.mem_cons_of_mem _ hs)
  · rw [List.pairwise_append]
    exact ⟨k.pw, h2, fun s hs t ht => apart_in1 (h1 t ht) (k.pos s hs).2.2⟩
  · have h3 := h.ar
    have h4 := k.ar
    rw [areaL_append, h4]
    have : areaL (q :: rest) = q.w * q.h + areaL rest := by simp [areaL]
    omega

theorem Til.repls {r : Rct} {S : Cel → List Rct} (ks : List Cel) : ∀ (rest : List Rct), Til r (ks.map Cel.r ++ rest) → (∀ k ∈ ks, Til k.r (S k)) → Til r ((ks.map S).flatten ++ rest) := by
  induction ks with
  | nil => intro rest h _; exact h
  | cons k ks ih =>
    intro rest h hk
    have h1 : Til r (k.r :: (ks.map Cel.r ++ rest)) := h
    have h2 := h1.repl (hk k List.mem_cons_self)
    have h3 : Til r (ks.map Cel.r ++ (rest ++ S k)) := h2.perm (by rw [← List.append_assoc (ks.map Cel.r)]; exact List.perm_append_comm)
    have h4 := ih _ h3 (fun d hd => hk d (List.mem_cons_of_mem _ hd))
    refine h4.perm ?_
    rw [List.map_cons, List.flatten_cons, List.append_assoc, ← List.append_assoc]
    exact List.perm_append_comm

/-! a cut -/
def dimO (a1 : Bool) (r : Rct) : Int := if a1 = true then r.h else r.w
structure CutI (a1 : Bool) (r : Rct) (off : Int) (ps ls : List Rct) : Prop where
  o0 : 0 ≤ off
  pos : ∀ s ∈ ps ++ ls, 0 < s.w ∧ 0 < s.h ∧ (cutP a1 r 0 off).inside s
  pw : (ps ++ ls).Pairwise Rct.apart
  ar : areaL (ps ++ ls) = off * dimO a1 r

theorem cutP_inside (a1 : Bool) (r : Rct) {o n : Int} (h0 : 0 ≤ o) {m : Int} (hm : o + n ≤ m) : (cutP a1 r 0 m).inside (cutP a1 r o n) := by
  unfold cutP Rct.inside; cases a1 <;> simp <;> omega
theorem cutP_mono (a1 : Bool) (r : Rct) {m m' : Int} (h : m ≤ m') {s : Rct} (hs : (cutP a1 r 0 m).inside s) : (cutP a1 r 0 m').inside s := by
  unfold cutP Rct.inside at *; cases a1 <;> simp at * <;> omega
theorem cutP_apart (a1 : Bool) (r : Rct) {m o n : Int} (h : m ≤ o) {s : Rct} (hs : (cutP a1 r 0 m).inside s) : s.apart (cutP a1 r o n) := by
  unfold cutP Rct.inside Rct.apart at *; cases a1 <;> simp at * <;> omega
theorem cutP_area (a1 : Bool) (r : Rct) (o n : Int) : (cutP a1 r o n).w * (cutP a1 r o n).h = n * dimO a1 r := by
  unfold cutP dimO; cases a1 <;> simp [Int.mul_comm]
theorem cutP_pos (a1 : Bool) (r : Rct) (hw : 0 < r.w) (hh : 0 < r.h) {o n : Int} (hn : 0 < n) : 0 < (cutP a1 r o n).w ∧ 0 < (cutP a1 r o n).h := by
  unfold cutP; cases a1 <;> simp <;> omega

/-- one more rectangle at the end -/
theorem CutI.add (a1 : Bool) (r : Rct) (hw : 0 < r.w) (hh : 0 < r.h) {m : Int} {l : List Rct} {o n : Int} (h0 : 0 ≤ m) (hmo : m = o) (hn : 0 < n)
    (pos : ∀ s ∈ l, 0 < s.w ∧ 0 < s.h ∧ (cutP a1 r 0 m).inside s) (pw : l.Pairwise Rct.apart) (ar : areaL l = m * dimO a1 r) :
    (∀ s ∈ cutP a1 r o n :: l, 0 < s.w ∧ 0 < s.h ∧ (cutP a1 r 0 (o + n)).inside s) ∧ (cutP a1 r o n :: l).Pairwise Rct.apart ∧ areaL (cutP a1 r o n :: l) = (o + n) * dimO a1 r := by
  subst hmo
  have hp := cutP_pos a1 r hw hh (o := m) hn
  refine ⟨fun s hs => ?_, ?_, ?_⟩
  · rcases List.mem_cons.1 hs with rfl | hs
    · exact ⟨hp.1, hp.2, cutP_inside a1 r h0 (Int.le_refl _)⟩
    · have := pos s hs
      exact ⟨this.1, this.2.1, cutP_mono a1 r (by omega) this.2.2⟩
  · rw [List.pairwise_cons]
    exact ⟨fun s hs => Rct.apart_symm (cutP_apart a1 r (Int.le_refl _) (pos s hs).2.2), pw⟩
  · have : areaL (cutP a1 r m n :: l) = (cutP a1 r m n).w * (cutP a1 r m n).h + areaL l := by simp [areaL]
    rw [this, cutP_area, ar, Int.add_mul]; omega

theorem CutI.step (a1 : Bool) (r : Rct) (hw : 0 < r.w) (hh : 0 < r.h) {off : Int} {ps ls : List Rct} {n : Int} (h : CutI a1 r off ps ls) (hn : 1 ≤ n) :
    CutI a1 r (cutO off ps + n) (ps ++ [cutP a1 r (cutO off ps) n]) (cutL a1 r off ps ls) := by
  have h0 := h.o0
  have ho : off ≤ cutO off ps := by unfold cutO; split <;> omega
  -- what stands, with the line
  have key : (∀ s ∈ ps ++ cutL a1 r off ps ls, 0 < s.w ∧ 0 < s.h ∧ (cutP a1 r 0 (cutO off ps)).inside s) ∧ (ps ++ cutL a1 r off ps ls).Pairwise Rct.apart ∧ areaL (ps ++ cutL a1 r off ps ls) = cutO off ps * dimO a1 r := by
    cases ps with
    | nil => exact ⟨h.pos, h.pw, h.ar⟩
    | cons p ps =>
      obtain ⟨k1, k2, k3⟩ := CutI.add a1 r hw hh (o := off) (n := 1) h0 rfl (by omega) h.pos h.pw h.ar
      have hp : (cutP a1 r off 1 :: ((p :: ps) ++ ls)).Perm ((p :: ps) ++ (ls ++ [cutP a1 r off 1])) := by
        rw [← List.append_assoc]; exact (List.perm_append_comm (l₁ := [cutP a1 r off 1]))
      refine ⟨fun s hs => k1 s (hp.mem_iff.2 hs), (hp.pairwise_iff (fun h => Rct.apart_symm h)).1 k2, ?_⟩
      have e := areaL_perm hp
      exact e.symm.trans k3
  obtain ⟨k1, k2, k3⟩ := key
  obtain ⟨m1, m2, m3⟩ := CutI.add a1 r hw hh (o := cutO off ps) (n := n) (by omega) rfl (by omega) k1 k2 k3
  have hp : (cutP a1 r (cutO off ps) n :: (ps ++ cutL a1 r off ps ls)).Perm ((ps ++ [cutP a1 r (cutO off ps) n]) ++ cutL a1 r off ps ls) := by
    rw [List.append_assoc]; exact (List.perm_middle (l₁ := ps) (a := cutP a1 r (cutO off ps) n)).symm
  exact ⟨by omega, fun s hs => m1 s (hp.mem_iff.2 hs), (hp.pairwise_iff (fun h => Rct.apart_symm h)).1 m2, by rw [← areaL_perm hp]; exact m3⟩

theorem cutF_inv (a1 : Bool) (r : Rct) (hw : 0 < r.w) (hh : 0 < r.h) : ∀ (l : List Int) (o1 : Int) (p1 l1 : List Rct) (off : Int) (ps ls : List Rct), CutI a1 r o1 p1 l1 → l.foldl (cutStep a1 r) (some (o1, p1, l1)) = some (off, ps, ls) → CutI a1 r off ps ls := by
  intro l
  induction l with
  | nil => intro o1 p1 l1 off ps ls hi h; cases h; exact hi
  | cons n l ih =>
    intro o1 p1 l1 off ps ls hi h
    rw [List.foldl_cons] at h
    by_cases hc : cutBad a1 r o1 n p1
    · rw [cutStep, if_pos hc, cut_none] at h; cases h
    · rw [cutStep, if_neg hc] at h
      have hn : 1 ≤ n := by unfold cutBad at hc; omega
      exact ih _ _ _ _ _ _ (hi.step a1 r hw hh hn) h

theorem cutS_til {r : Rct} {ax : Int} {l : List Int} {ps ls : List Rct} (h : cutS r ax l = some (ps, ls)) : Til r (ps ++ ls) := by
  unfold cutS at h
  split at h
  · rename_i hc
    have hm := hc.1
    rw [Rct.may, decide_eq_true_eq] at hm
    split at h
    · rename_i off ps' ls' hF
      split at h
      · rename_i hoff
        cases h
        have hi := cutF_inv (ax == 1) r hm.2.2.2.2.1 hm.2.2.2.2.2.2.1 l 0 [] [] off ps ls ⟨Int.le_refl _, (fun s hs => nomatch hs), List.Pairwise.nil, by simp [areaL]⟩ hF
        have hr : cutP (ax == 1) r 0 off = r := by rw [hoff]; unfold cutP cutW; cases (ax == 1) <;> simp
        have hpos := hi.pos
        rw [hr] at hpos
        refine ⟨hpos, hi.pw, ?_⟩
        rw [hi.ar, hoff]; unfold cutW dimO; cases (ax == 1) <;> simp [Int.mul_comm]
      · cases h
    · cases h
  · cases h

/-! a tree -/
def lnsL (l : List Cel) : List Rct := (l.map fun d => d.one.getD []).flatten
theorem lnsL_append (l m : List Cel) : lnsL (l ++ m) = lnsL l ++ lnsL m := by simp [lnsL]
theorem fold_lns : ∀ (l : List Cel) (acc ls : List Rct), l.foldlM oneStep acc = some ls → ls = acc ++ lnsL l ∧ ∀ d ∈ l, d.one.isSome = true := by
  intro l
  induction l with
  | nil => intro acc ls h; simp at h; subst h; exact ⟨by simp [lnsL], fun d hd => nomatch hd⟩
  | cons d l ih =>
    intro acc ls h
    rw [List.foldlM_cons] at h
    cases ho : d.one with
    | none => rw [oneStep, ho] at h; cases h
    | some l1 =>
      rw [oneStep, ho] at h
      obtain ⟨h1, h2⟩ := ih _ _ h
      refine ⟨by rw [h1]; simp [lnsL, ho], fun x hx => ?_⟩
      rcases List.mem_cons.1 hx with rfl | hx
      · rw [ho]; rfl
      · exact h2 x hx

def rctsL (l : List Cel) : List Rct := ((Cel.alls l).filter fun d => d.kind == 1).map Cel.r
def Cel.both (c : Cel) : List Rct := c.leaves.map Cel.r ++ lnsL c.all

theorem both_perm (ks : List Cel) : ((ks.map Cel.both).flatten).Perm (rctsL ks ++ lnsL (Cel.alls ks)) := by
  induction ks with
  | nil => exact .refl _
  | cons k ks ih =>
    have e1 : rctsL (k :: ks) = k.leaves.map Cel.r ++ rctsL ks := by simp [rctsL, Cel.alls, Cel.leaves]
    have e2 : lnsL (Cel.alls (k :: ks)) = lnsL k.all ++ lnsL (Cel.alls ks) := by rw [Cel.alls, lnsL_append]
    rw [List.map_cons, List.flatten_cons, e1, e2, Cel.both, List.append_assoc, List.append_assoc]
    refine List.Perm.append_left _ ?_
    refine (List.Perm.append_left _ ih).trans ?_
    rw [← List.append_assoc, ← List.append_assoc]
    exact List.Perm.append_right _ List.perm_append_comm

theorem tree_til (c : Cel) : (∀ d ∈ c.all, d.Ok ∧ d.one.isSome = true) → Til c.r c.both := by
  induction c using Cel.induct
  rename_i c ih
  intro h
  have hc := h c (by rw [c.all_eq]; exact List.mem_cons_self)
  have hm := hc.1.1
  rw [Rct.may, decide_eq_true_eq] at hm
  by_cases hk : c.kind = 1
  · have hk0 : c.kids = [] := by
      have := hc.1.2
      exact List.length_eq_zero_iff.1 (by omega)
    have hb : c.both = [c.r] := by
      rw [Cel.both, Cel.leaves, c.all_eq, hk0]
      simp [Cel.alls, hk, lnsL, Cel.one]
    rw [hb]
    refine ⟨fun s hs => ?_, List.pairwise_singleton _ _, by simp [areaL]⟩
    simp at hs
    subst hs
    exact ⟨hm.2.2.2.2.1, hm.2.2.2.2.2.2.1, by unfold Rct.inside; omega⟩
  · obtain ⟨ls, hls⟩ := Option.isSome_iff_exists.1 hc.2
    have hone := hls
    rw [Cel.one, if_neg hk] at hone
    split at hone
    · rename_i ps ls' hcut
      split at hone
      · rename_i hps
        cases hone
        have h1 := cutS_til hcut
        rw [hps] at h1
        have h2 := Til.repls (S := Cel.both) c.kids _ h1 (fun k hkm => ih k hkm (fun d hd => h d (by
          rw [c.all_eq]
          refine List.mem_cons_of_mem _ ?_
          clear ih h hc h1 hps hcut hls
          revert hkm
          generalize c.kids = l
          intro hkm
          induction l with
          | nil => cases hkm
          | cons x l ih2 =>
            rw [Cel.alls]
            rcases List.mem_cons.1 hkm with rfl | hkm
            · exact List.mem_append_left _ hd
            · exact List.mem_append_right _ (ih2 hkm))))
        refine h2.perm ?_
        have e1 : c.leaves.map Cel.r = rctsL c.kids := by
          rw [Cel.leaves, c.all_eq, List.filter_cons]
          have : (c.kind == 1) = false := by simpa using hk
          rw [this]; rfl
        have e2 : lnsL c.all = ls ++ lnsL (Cel.alls c.kids) := by rw [c.all_eq]; simp [lnsL, hls]
        rw [Cel.both, e1, e2]
        refine (List.Perm.append_right _ (both_perm c.kids)).trans ?_
        rw [List.append_assoc]
        exact List.Perm.append_left _ List.perm_append_comm
      · cases hone
    · cases hone

theorem tiles_til {c : Cel} (h : c.tiles = true) : Til c.r (c.leaves.map Cel.r ++ c.check.1) ∧ c.r.may = true := by
  have hm := tiles_may h
  rw [tiles_fold, Bool.and_eq_true] at h
  obtain ⟨ls, hls⟩ := Option.isSome_iff_exists.1 h.2
  obtain ⟨h1, h2⟩ := fold_lns _ _ _ hls
  have hck : c.check.1 = lnsL c.all := by
    rw [Cel.check, if_pos h.1, chkL_fold, hls, h1]; simp
  rw [hck]
  exact ⟨tree_til c (fun d hd => ⟨hm.2.1 d hd, h2 d hd⟩), (hm.2.1 c (by rw [c.all_eq]; exact List.mem_cons_self)).1⟩

theorem Til.may {r : Rct} {l : List Rct} (h : Til r l) (hr : r.may = true) {s : Rct} (hs : s ∈ l) : s.may = true := by
  obtain ⟨h1, h2, h3⟩ := h.pos s hs
  rw [Rct.may, decide_eq_true_eq] at hr ⊢
  unfold Rct.inside at h3
  omega
end Go.Proofs

set_option linter.unusedVariables false
set_option linter.unusedSimpArgs false
namespace Go.Proofs
open Go.Idl

/-! a tree that tiles, node by node -/
def Cel.fine (c : Cel) : Prop := ∀ d ∈ c.all, d.Ok ∧ d.one.isSome = true
theorem mem_alls_of {d k : Cel} : ∀ {l : List Cel}, k ∈ l → d ∈ k.all → d ∈ Cel.alls l
  | c :: cs, h, hd => by
    rw [Cel.alls]
    rcases List.mem_cons.1 h with rfl | h
    · exact List.mem_append_left _ hd
    · exact List.mem_append_right _ (mem_alls_of h hd)
theorem fine_iff (c : Cel) : c.fine ↔ c.Ok ∧ c.one.isSome = true ∧ ∀ k ∈ c.kids, k.fine := by
  unfold Cel.fine
  constructor
  · intro h
    rw [c.all_eq] at h
    exact ⟨(h c List.mem_cons_self).1, (h c List.mem_cons_self).2, fun k hk d hd => h d (List.mem_cons_of_mem _ (mem_alls_of hk hd))⟩
  · rintro ⟨h1, h2, h3⟩ d hd
    rw [c.all_eq] at hd
    rcases List.mem_cons.1 hd with rfl | hd
    · exact ⟨h1, h2⟩
    · obtain ⟨k, hk, hd⟩ := mem_alls hd
      exact h3 k hk d hd
theorem fold_some : ∀ (l : List Cel) (acc : List Rct), (∀ d ∈ l, d.one.isSome = true) → (l.foldlM oneStep acc).isSome = true
  | [], acc, _ => rfl
  | d :: l, acc, h => by
    obtain ⟨x, hx⟩ := Option.isSome_iff_exists.1 (h d List.mem_cons_self)
    rw [List.foldlM_cons, oneStep, hx]
    exact fold_some l _ fun y hy => h y (List.mem_cons_of_mem _ hy)
theorem tiles_iff (c : Cel) : c.tiles = true ↔ c.size ≤ 20000 ∧ c.fine ∧ c.ids.Nodup := by
  rw [tiles_fold, Bool.and_eq_true, Cel.may, decide_eq_true_eq]
  constructor
  · rintro ⟨⟨h1, h2, h3⟩, h4⟩
    obtain ⟨ls, hls⟩ := Option.isSome_iff_exists.1 h4
    obtain ⟨_, h5⟩ := fold_lns _ _ _ hls
    exact ⟨h1, fun d hd => ⟨h2 d hd, h5 d hd⟩, h3⟩
  · rintro ⟨h1, h2, h3⟩
    exact ⟨⟨h1, fun d hd => (h2 d hd).1, h3⟩, fold_some _ _ fun d hd => (h2 d hd).2⟩
theorem idsL_eq : ∀ l : List Cel, idsL l = (l.map Cel.ids).flatten
  | [] => by simp [idsL, Cel.alls]
  | c :: cs => by
    have : idsL (c :: cs) = c.ids ++ idsL cs := by simp [idsL, Cel.alls, Cel.ids, Cel.leaves]
    rw [this, idsL_eq cs]; rfl
theorem fine_size (c : Cel) : c.fine → c.size + 1 ≤ 2 * c.ids.length := by
  induction c using Cel.induct
  rename_i c ih
  intro h
  obtain ⟨h1, _, h3⟩ := (fine_iff c).1 h
  rw [c.size_eq, ids_eq, idsL_eq]
  have key : ∀ l : List Cel, (∀ k ∈ l, k.size + 1 ≤ 2 * k.ids.length) → Cel.sizes l + l.length ≤ 2 * (l.map Cel.ids).flatten.length := by
    intro l
    induction l with
    | nil => intro _; simp [Cel.sizes]
    | cons k l ihl =>
      intro hl
      have a := hl k List.mem_cons_self
      have b := ihl fun x hx => hl x (List.mem_cons_of_mem _ hx)
      simp only [Cel.sizes, List.map_cons, List.flatten_cons, List.length_append, List.length_cons] at *
      omega
  have hk := key c.kids fun k hk => ih k hk (h3 k hk)
  have h12 := h1.2
  rw [List.length_append]
  by_cases hk1 : c.kind = 1
  · rw [if_pos hk1]
    have h0 : c.kids = [] := List.length_eq_zero_iff.1 (by omega)
    rw [h0]
    simp [Cel.sizes]
  · rw [if_neg hk1]
    simp only [List.length_nil, Nat.zero_add]
    omega

/-! the parts of a cut -/
theorem cutS_inv {r : Rct} {ax : Int} {l : List Int} {ps ls : List Rct} (h : cutS r ax l = some (ps, ls)) : r.may = true ∧ 1 ≤ ax ∧ ax ≤ 2 ∧ l ≠ [] ∧ ∃ off, cutF (ax == 1) r l = some (off, ps, ls) ∧ off = cutW (ax == 1) r := by
  unfold cutS at h
  split at h
  · rename_i hc
    split at h
    · rename_i off ps' ls' hF
      split at h
      · rename_i ho
        cases h
        exact ⟨hc.1, hc.2.1, hc.2.2.1, hc.2.2.2, off, hF, ho⟩
      · cases h
    · cases h
  · cases h
theorem cutF_dims (a1 : Bool) (r : Rct) : ∀ (l : List Int) (o : Int) (ps ls : List Rct) (off : Int) (ps' ls' : List Rct), l.foldl (cutStep a1 r) (some (o, ps, ls)) = some (off, ps', ls') →
    ps'.map (cutW a1) = ps.map (cutW a1) ++ l ∧ ∀ n ∈ l, 1 ≤ n
  | [], o, ps, ls, off, ps', ls', h => by cases h; simp
  | n :: l, o, ps, ls, off, ps', ls', h => by
    rw [List.foldl_cons] at h
    by_cases hc : cutBad a1 r o n ps
    · rw [cutStep, if_pos hc, cut_none] at h; cases h
    · rw [cutStep, if_neg hc] at h
      obtain ⟨h1, h2⟩ := cutF_dims a1 r l _ _ _ _ _ _ h
      refine ⟨?_, fun x hx => ?_⟩
      · rw [h1]; cases a1 <;> simp [cutP, cutW]
      · rcases List.mem_cons.1 hx with rfl | hx
        · unfold cutBad at hc; omega
        · exact h2 x hx
theorem cutS_dims {r : Rct} {ax : Int} {l : List Int} {ps ls : List Rct} (h : cutS r ax l = some (ps, ls)) : ps.map (cutW (ax == 1)) = l ∧ ∀ n ∈ l, 1 ≤ n := by
  obtain ⟨_, _, _, _, off, hF, _⟩ := cutS_inv h
  simpa using cutF_dims _ _ _ _ _ _ _ _ _ hF
theorem cutS_may {r : Rct} {ax : Int} {l : List Int} {ps ls : List Rct} (h : cutS r ax l = some (ps, ls)) {p : Rct} (hp : p ∈ ps) : p.may = true :=
  (cutS_til h).may (cutS_inv h).1 (List.mem_append_left _ hp)
theorem cutS_single {r : Rct} {ax : Int} {l : List Int} {p : Rct} {ls : List Rct} (h : cutS r ax l = some ([p], ls)) : p = r := by
  obtain ⟨_, _, _, _, off, hF, ho⟩ := cutS_inv h
  have hl := (cutF_len _ _ _ _ _ _ hF).1
  match l, hl with
  | [n], _ =>
    rw [cutF, List.foldl_cons, List.foldl_nil] at hF
    by_cases hc : cutBad (ax == 1) r 0 n []
    · rw [cutStep, if_pos hc] at hF; cases hF
    · rw [cutStep, if_neg hc] at hF
      simp only [cutO, Int.zero_add, List.nil_append, Option.some.injEq, Prod.mk.injEq, List.cons.injEq, and_true] at hF
      obtain ⟨h1, h2, _⟩ := hF
      rw [← h2, h1, ho]
      unfold cutP cutW
      cases (ax == 1) <;> simp
/-- a group of trees in the parts of a cut -/
theorem fine_group {r : Rct} {ax : Int} {l : List Int} {ps ls : List Rct} {ks : List Cel} (h : cutS r ax l = some (ps, ls)) (hk : ks.map Cel.r = ps) (hf : ∀ k ∈ ks, k.fine) (h2 : 2 ≤ ks.length) : (Cel.mk (ax + 1) r 0 ks).fine := by
  obtain ⟨hm, h1, h3, _⟩ := cutS_inv h
  rw [fine_iff]
  refine ⟨⟨hm, .inr ⟨by simp only [Cel.kind]; omega, h2, rfl⟩⟩, ?_, hf⟩
  have hs : (Cel.mk (ax + 1) r 0 ks).szs = l := by
    rw [← (cutS_dims h).1, ← hk, Cel.szs, List.map_map]
    apply List.map_congr_left
    intro k _
    simp only [Cel.sz, Cel.kind, Function.comp_apply, cutW]
    by_cases ha : ax = 1
    · simp [ha]
    · have : ax = 2 := by omega
      simp [this]
  have e : (Cel.mk (ax + 1) r 0 ks).kind - 1 = ax := by simp only [Cel.kind]; omega
  rw [Cel.one, if_neg (by simp only [Cel.kind]; omega), hs, e]
  simp only [Cel.r, Cel.kids, h, hk, if_true, Option.isSome_some]
theorem fine_leaf {r : Rct} {id : Int} (hr : r.may = true) (h0 : 0 ≤ id) (h1 : id ≤ 2147483647) : (Cel.mk 1 r id []).fine := by
  rw [fine_iff]
  refine ⟨⟨hr, .inl ⟨rfl, rfl, h0, h1⟩⟩, ?_, fun k hk => nomatch hk⟩
  rw [Cel.one, if_pos (show (Cel.mk 1 r id []).kind = 1 from rfl)]; rfl
end Go.Proofs

set_option linter.unusedVariables false
set_option linter.unusedSimpArgs false
namespace Go.Proofs
open Go.Idl Go.ChangeShapes Go.WideShapes Go.ChangeAt Go.RowKit
open Go.Proofs.YtkadknkpgogfjaaGreat.Rows (uptoBulk uptoBulkAll)

/-- all old memory stands -/
def oldF (W : World) : Nat → Nat → Prop := fun b _ => b < W.heap.size

theorem cell_lt {W : World} {a : Addr} {v : Value} (h : W.cell? a = some v) : a.block < W.heap.size := by
  unfold World.cell? at h
  split at h
  · rename_i h1; exact (Array.getElem?_eq_some_iff.1 h1).1
  · cases h
theorem cell_spot {W : World} {a : Addr} {v : Value} (h : W.cell? a = some v) : a.spot = none := by
  unfold World.cell? at h
  split at h
  · split at h
    · cases h
    · rename_i h1
      cases hs : a.spot with
      | none => rfl
      | some x => rw [hs] at h1; exact absurd rfl h1
  · cases h

theorem list4 {α : Type} {l : List α} (h : l.length = 4) : ∃ a b c d, l = [a, b, c, d] := by
  match l, h with
  | [a, b, c, d], _ => exact ⟨a, b, c, d, rfl⟩
theorem list7 {α : Type} {l : List α} (h : l.length = 7) : ∃ a b c d e f g, l = [a, b, c, d, e, f, g] := by
  match l, h with
  | [a, b, c, d, e, f, g], _ => exact ⟨a, b, c, d, e, f, g, rfl⟩


theorem hrel0 (W : World) : HRel (oldF W) (fun _ => False) (fun _ => none) W where
  hp b o h := by cases h
  xf b o h := h.elim
  xb b h := h.elim
  fb b o h := h

theorem kept {W W' : World} {F' X'} (hk : Keep (oldF W) (fun _ => False) W F' X' W') : W.keptBut W' (fun _ => False) := by
  refine ⟨hk.os, hk.out, fun i hi => ?_⟩
  rw [hk.ub i hi (fun h => h)]
  cases hb : W.heap[i]? with
  | none => rfl
  | some o => cases o <;> simp

theorem same_at {W W' : World} {F' X'} (hk : Keep (oldF W) (fun _ => False) W F' X' W') {p : MemPlace} (hp : p.block < W.heap.size) : W.sameAt W' p := by
  cases p with
  | cell b o => exact hk.fc b o hp
  | map b => exact hk.ub b hp (fun h => h)

section
variable {H : Type} {enc : TypeId × Value → H} {W : World}

/-- a slice, read: its elements one behind the other -/
theorem slice_read {α : Type} (row : α → List IV) {st et : TypeId} {z : Nat} (hst : Tryz.prog.underlying st = some (.slice et)) (hz : Tryz.prog.cellsOf et = z) (hz0 : 0 < z)
    (helem : ∀ (fuel : Nat) (cs : List Value) (x : DataW H × List MemPlace), DataW.trod enc Tryz.prog W 0 (fun _ => true) true fuel et cs = some x → ∃ a : α, RepAll (oldF W) W (row a) cs ∧ ∀ u ∈ cs, u.oneCell' = true)
    {fuel : Nat} {v : Value} {x : DataW H × List MemPlace} (h : DataW.trod enc Tryz.prog W 0 (fun _ => true) true fuel st [v] = some x) :
    ∃ l : List α, Rep (oldF W) W (.list .plain (l.map row)) v ∧ v.oneCell' = true ∧ l.length ≤ maxLen := by
  rcases DataW.trod_slice hst h with ⟨hc, hy⟩ | ⟨a, len, cap, elems, rest, m, hm, hc, hy, hb, hlc, hcm, hel, hread, hsp, _⟩
  · simp at hc
    subst hc
    exact ⟨[], ⟨none, 0, [], rfl, Nat.le_refl _, Nat.zero_le _, (fun _ _ h => nomatch h), (fun h => nomatch h), rfl⟩, rfl, by simp⟩
  · simp at hc
    subst hc
    rw [hz] at hread hsp
    obtain ⟨b, off, spot⟩ := a
    have hspot : cap ≠ 0 → spot = none := by
      intro hc0
      have hz : ∃ cs', W.cells? 0 (Addr.add ⟨b, off, spot⟩ (0 * z)) z = some cs' := by
        by_cases hl0 : 0 < len
        · have := hread 0 hl0
          have h2 : elems[0]? = some elems[0] := List.getElem?_eq_getElem (by omega)
          rw [h2] at this
          obtain ⟨cs', h3, _⟩ := Option.bind_eq_some_iff.1 this
          exact ⟨cs', h3⟩
        · obtain ⟨hrl, hr⟩ := hsp rfl
          have := hr 0 (by omega)
          have h2 : rest[0]? = some (rest[0]'(by omega)) := List.getElem?_eq_getElem (by omega)
          rw [h2] at this
          obtain ⟨cs', h3, _⟩ := Option.bind_eq_some_iff.1 this
          have : len + 0 = 0 := by omega
          rw [this] at h3
          exact ⟨cs', h3⟩
      obtain ⟨cs', h3⟩ := hz
      obtain ⟨_, h4, h5⟩ := World.cells?_some h3
      have h6 := h5 0 (by omega)
      have h7 : cs'[0]? = some (cs'[0]'(by omega)) := List.getElem?_eq_getElem (by omega)
      rw [h7] at h6
      exact cell_spot (a := ⟨b, off, spot⟩) (by simpa [Addr.add] using h6)
    have key : ∀ k, k ≤ len → ∃ (l : List α) (vals : List Value), l.length = k ∧ vals.length = k * z ∧ RepRows (oldF W) W (l.map row) vals ∧ FCells (oldF W) W b off vals := by
      intro k
      induction k with
      | zero => intro _; exact ⟨[], [], rfl, by simp, rfl, (fun j v h => by simp at h)⟩
      | succ k ihk =>
        intro hk
        obtain ⟨l, vals, h1, h2, h3, h4⟩ := ihk (by omega)
        have hrd := hread k (by omega)
        have hek : elems[k]? = some (elems[k]'(by omega)) := List.getElem?_eq_getElem (by omega)
        rw [hek] at hrd
        obtain ⟨csk, hcs, htr⟩ := Option.bind_eq_some_iff.1 hrd
        obtain ⟨c, hc1, hc2⟩ := helem m _ _ htr
        obtain ⟨_, hcl, hcc⟩ := World.cells?_some hcs
        obtain rfl : spot = none := hspot (by omega)
        refine ⟨l ++ [c], vals ++ csk, by simp [h1], by rw [List.length_append, h2, hcl, Nat.succ_mul], ?_, ?_⟩
        · rw [List.map_append]
          exact h3.append ⟨csk, [], by simp, hc1, rfl⟩
        · intro j v hj
          by_cases hjl : j < vals.length
          · rw [List.getElem?_append_left hjl] at hj
            exact h4 j v hj
          · rw [List.getElem?_append_right (by omega)] at hj
            have hjk : j - vals.length < z := by have := (List.getElem?_eq_some_iff.1 hj).1; omega
            have hce := hcc _ hjk
            rw [hj, addr_add, addr_add] at hce
            have : off + k * z + (j - vals.length) = off + j := by omega
            rw [this] at hce
            exact ⟨cell_lt hce, hce, hc2 v (List.mem_of_getElem? hj)⟩
    obtain ⟨l, vals, h1, h2, h3, h4⟩ := key len (Nat.le_refl _)
    exact ⟨l, ⟨some ⟨b, off, spot⟩, cap, vals, by rw [List.length_map, h1], by rw [List.length_map, h1]; exact hlc, hcm, (fun _ _ h => nomatch h), (fun h => nomatch h), fun hh => hspot (hh.elim (fun e => nomatch e) (fun e => e)), h4, h3⟩, rfl, by omega⟩

set_option maxRecDepth 20000 in
theorem sl_cells {r : Reach} {b0 : Nat} {st et : TypeId} {v : Value} (hst : Tryz.prog.underlying st = some (.slice et)) (hval : Value.okWide Tryz.prog W r b0 st v) : v.cells.toList = [v] := by
  simp only [Value.okWide, hst, Cell.okWide, Cell.ok] at hval
  cases v <;> first | rfl | exact hval.elim
set_option maxRecDepth 20000 in
theorem sl_arg {α : Type} (row : α → List IV) {st et : TypeId} {z : Nat} (hst : Tryz.prog.underlying st = some (.slice et)) (hz : Tryz.prog.cellsOf et = z) (hz0 : 0 < z)
    (helem : ∀ (fuel : Nat) (cs : List Value) (x : DataW H × List MemPlace), DataW.trod enc Tryz.prog W 0 (fun _ => true) true fuel et cs = some x → ∃ a : α, RepAll (oldF W) W (row a) cs ∧ ∀ u ∈ cs, u.oneCell' = true)
    {r : Reach} {b0 : Nat} {v : Value} {d : DataW H} {ps : List MemPlace} (hval : Value.okWide Tryz.prog W r b0 st v) (h : DataW.Trod enc Tryz.prog W 0 (fun _ => true) true st v d ps) :
    ∃ l : List α, Rep (oldF W) W (.list .plain (l.map row)) v ∧ l.length ≤ maxLen := by
  obtain ⟨fuel, hf⟩ := h
  rw [sl_cells hst hval] at hf
  obtain ⟨l, h1, _, h2⟩ := slice_read row hst hz hz0 helem hf
  exact ⟨l, h1, h2⟩
/-- a number, read -/
theorem int_read {ty : TypeId} {k : IntKind} (hu : Tryz.prog.underlying ty = some (.int k)) (fuel : Nat) (cs : List Value) (x : DataW H × List MemPlace) (h : DataW.trod enc Tryz.prog W 0 (fun _ => true) true fuel ty cs = some x) :
    ∃ n : Int, cs = [.int k n] ∧ (Lit.int k n).wf = true := by
  obtain ⟨n, hn, h2⟩ := DataW.trod_int hu h
  exact ⟨n, hn, by first | exact h2.2 | exact h2.1 | simp_all⟩
end
end Go.Proofs

set_option linter.unusedVariables false
set_option linter.unusedSimpArgs false
namespace Go.Proofs
open Go.Idl Go.ChangeShapes Go.WideShapes Go.ChangeAt Go.RowKit

section
variable {H : Type} {enc : TypeId × Value → H} {W : World}
theorem ints_el (fuel : Nat) (cs : List Value) (x : DataW H × List MemPlace) (h : DataW.trod enc Tryz.prog W 0 (fun _ => true) true fuel 3 cs = some x) :
    ∃ a : Int, RepAll (oldF W) W (intRow a) cs ∧ ∀ u ∈ cs, u.oneCell' = true := by
  obtain ⟨n, rfl, _⟩ := int_read Tryz.underlying3 _ _ _ h
  exact ⟨n, ⟨_, _, rfl, rfl, rfl⟩, by intro u hu; simp at hu; subst hu; rfl⟩
end
end Go.Proofs

set_option linter.unusedVariables false
set_option linter.unusedSimpArgs false
set_option pp.deepTerms false
set_option pp.maxSteps 400
namespace Go.Proofs
open Go.Idl

@[go_sem] theorem pop_index {P : Program} {st : St} (t : TypeId) (x i : Operand) : pop P st (.index t x i) = match P.underlying t, st.ev x, st.ev i with
    | some .string, .str s, .int _ n => if h : 0 ≤ n ∧ n.toNat < s.size then some (.int .u8 (s[n.toNat]'h.2).toNat) else none
    | _, _, _ => none := rfl

/-! names -/
def okc (n : Nat) : Bool := (decide (97 ≤ n ∧ n ≤ 122)) || (decide (65 ≤ n ∧ n ≤ 90)) || (decide (48 ≤ n ∧ n ≤ 57)) || n == 45 || n == 95
def nameB (s : ByteArray) : Bool := s.data.toList.all (fun c => okc c.toNat) && decide (1 ≤ s.size ∧ s.size ≤ 30)

theorem nameB_bad {s : ByteArray} {i : Nat} (hi : i < s.size) (h : okc s[i].toNat = false) : nameB s = false := by
  have : s.data.toList.all (fun c => okc c.toNat) = false := by
    rw [List.all_eq_false]
    exact ⟨s[i], by simp [ByteArray.getElem_eq_getElem_data], by simp [h]⟩
  simp [nameB, this]
theorem nameB_all {s : ByteArray} (h : ∀ j, (hj : j < s.size) → okc s[j].toNat = true) : nameB s = decide (1 ≤ s.size ∧ s.size ≤ 30) := by
  have : s.data.toList.all (fun c => okc c.toNat) = true := by
    rw [List.all_eq_true]
    intro x hx
    obtain ⟨j, hj, rfl⟩ := List.getElem_of_mem hx
    have hj' : j < s.size := by simpa using hj
    exact h j hj'
  simp [nameB, this]

set_option maxRecDepth 20000 in
theorem rname_c (s : ByteArray) (hs : s.size < 100000000) (h : Heap) : ICall Tryz.prog 5 [.str s] h (retP (.bool (nameB s)) h) := by
  refine icall_of_iwp (fun _ => 0) Tryz.func5 rfl (by kernel_rfl) (Nat.le_of_ble_eq_true rfl) ?_
  rw [Tryz.results5]
  simp -implicitDefEqProofs [go_sem]
  refine iwp_loopF (rng [3,4] 5 45) nom (fun st => ∃ i : Nat, i ≤ s.size ∧ st.t 3 = .int .i64 i ∧ st.h = h ∧ ∀ j, (hj : j < s.size) → j < i → okc s[j].toNat = true) (fun st => s.size - tn (st.t 3)) ?_ ?_
  · exact ⟨0, Nat.zero_le _, by simp -implicitDefEqProofs [go_sem], by simp -implicitDefEqProofs [go_sem], fun j _ hj => by omega⟩
  rintro J st hJ hf ⟨i, hi, h3, hh, hpre⟩
  simp -implicitDefEqProofs [go_sem, h3, hh, hf.t, hf.m]
  refine cK_dec (fun hlt => ?_) (fun hlt => ?_)
  · have hlt' : i < s.size := by omega
    have hw := wrap_succ (i := i) (by omega)
    obtain ⟨c, hc⟩ : ∃ c : Nat, s[i].toNat = c := ⟨_, rfl⟩
    have good : okc c = true → ∀ j, (hj : j < s.size) → j < i + 1 → okc s[j].toNat = true := by
      intro hg j hj hj1
      by_cases hji : j = i
      · subst hji; rw [hc]; exact hg
      · exact hpre j hj (by omega)
    have bad : okc c = false → nameB s = false := fun hb => nameB_bad hlt' (by rw [hc]; exact hb)
    have hc255 : c ≤ 255 := by have := s[i].toNat_lt; omega
    obtain k | k | k | k | k | k | k | k | k | k | k : (97 ≤ c ∧ c ≤ 122) ∨ (123 ≤ c ∧ c ≤ 255) ∨ (96 ≤ c ∧ c ≤ 96) ∨ (95 ≤ c ∧ c ≤ 95) ∨ (91 ≤ c ∧ c ≤ 94) ∨ (65 ≤ c ∧ c ≤ 90) ∨ (58 ≤ c ∧ c ≤ 64) ∨ (48 ≤ c ∧ c ≤ 57) ∨ (46 ≤ c ∧ c ≤ 47) ∨ (45 ≤ c ∧ c ≤ 45) ∨ (0 ≤ c ∧ c ≤ 44) := by omega
    · have e1 : (97 : Int) ≤ c := by omega
      have e2 : (c : Int) ≤ 122 := by omega
      have e3 : (65 : Int) ≤ c := by omega
      have e4 : ¬ (c : Int) ≤ 90 := by omega
      have e5 : (48 : Int) ≤ c := by omega
      have e6 : ¬ (c : Int) ≤ 57 := by omega
      have e7 : ((c : Int) == 45) = false := by simp; omega
      have e8 : ((c : Int) == 95) = false := by simp; omega
      have hg : okc c = true := by simp [okc]; omega
      simp -implicitDefEqProofs [go_sem, h3, hh, hf.t, hf.m, hf, hlt', hc, e1, e2, e3, e4, e5, e6, e7, e8, hw]
      exact hJ _ ⟨i + 1, by omega, by simp -implicitDefEqProofs [go_sem, hw], by simp -implicitDefEqProofs [go_sem, hh], good hg⟩ (by simp [go_sem, h3, hw]; omega)
    · have e1 : (97 : Int) ≤ c := by omega
      have e2 : ¬ (c : Int) ≤ 122 := by omega
      have e3 : (65 : Int) ≤ c := by omega
      have e4 : ¬ (c : Int) ≤ 90 := by omega
      have e5 : (48 : Int) ≤ c := by omega
      have e6 : ¬ (c : Int) ≤ 57 := by omega
      have e7 : ((c : Int) == 45) = false := by simp; omega
      have e8 : ((c : Int) == 95) = false := by simp; omega
      have hb : nameB s = false := bad (by simp [okc]; omega)
      simp -implicitDefEqProofs [go_sem, h3, hh, hf.t, hf.m, hf, hlt', hc, e1, e2, e3, e4, e5, e6, e7, e8, hw]
      exact ⟨_, Sub.refl _, by rw [hb], rfl⟩
    · have e1 : ¬ (97 : Int) ≤ c := by omega
      have e2 : (c : Int) ≤ 122 := by omega
      have e3 : (65 : Int) ≤ c := by omega
      have e4 : ¬ (c : Int) ≤ 90 := by omega
      have e5 : (48 : Int) ≤ c := by omega
      have e6 : ¬ (c : Int) ≤ 57 := by omega
      have e7 : ((c : Int) == 45) = false := by simp; omega
      have e8 : ((c : Int) == 95) = false := by simp; omega
      have hb : nameB s = false := bad (by simp [okc]; omega)
      simp -implicitDefEqProofs [go_sem, h3, hh, hf.t, hf.m, hf, hlt', hc, e1, e2, e3, e4, e5, e6, e7, e8, hw]
      exact ⟨_, Sub.refl _, by rw [hb], rfl⟩
    · have e1 : ¬ (97 : Int) ≤ c := by omega
      have e2 : (c : Int) ≤ 122 := by omega
      have e3 : (65 : Int) ≤ c := by omega
      have e4 : ¬ (c : Int) ≤ 90 := by omega
      have e5 : (48 : Int) ≤ c := by omega
      have e6 : ¬ (c : Int) ≤ 57 := by omega
      have e7 : ((c : Int) == 45) = false := by simp; omega
      have e8 : ((c : Int) == 95) = true := by simp; omega
      have hg : okc c = true := by simp [okc]; omega
      simp -implicitDefEqProofs [go_sem, h3, hh, hf.t, hf.m, hf, hlt', hc, e1, e2, e3, e4, e5, e6, e7, e8, hw]
      exact hJ _ ⟨i + 1, by omega, by simp -implicitDefEqProofs [go_sem, hw], by simp -implicitDefEqProofs [go_sem, hh], good hg⟩ (by simp [go_sem, h3, hw]; omega)
    · have e1 : ¬ (97 : Int) ≤ c := by omega
      have e2 : (c : Int) ≤ 122 := by omega
      have e3 : (65 : Int) ≤ c := by omega
      have e4 : ¬ (c : Int) ≤ 90 := by omega
      have e5 : (48 : Int) ≤ c := by omega
      have e6 : ¬ (c : Int) ≤ 57 := by omega
      have e7 : ((c : Int) == 45) = false := by simp; omega
      have e8 : ((c : Int) == 95) = false := by simp; omega
      have hb : nameB s = false := bad (by simp [okc]; omega)
      simp -implicitDefEqProofs [go_sem, h3, hh, hf.t, hf.m, hf, hlt', hc, e1, e2, e3, e4, e5, e6, e7, e8, hw]
      exact ⟨_, Sub.refl _, by rw [hb], rfl⟩
    · have e1 : ¬ (97 : Int) ≤ c := by omega
      have e2 : (c : Int) ≤ 122 := by omega
      have e3 : (65 : Int) ≤ c := by omega
      have e4 : (c : Int) ≤ 90 := by omega
      have e5 : (48 : Int) ≤ c := by omega
      have e6 : ¬ (c : Int) ≤ 57 := by omega
      have e7 : ((c : Int) == 45) = false := by simp; omega
      have e8 : ((c : Int) == 95) = false := by simp; omega
      have hg : okc c = true := by simp [okc]; omega
      simp -implicitDefEqProofs [go_sem, h3, hh, hf.t, hf.m, hf, hlt', hc, e1, e2, e3, e4, e5, e6, e7, e8, hw]
      exact hJ _ ⟨i + 1, by omega, by simp -implicitDefEqProofs [go_sem, hw], by simp -implicitDefEqProofs [go_sem, hh], good hg⟩ (by simp [go_sem, h3, hw]; omega)
    · have e1 : ¬ (97 : Int) ≤ c := by omega
      have e2 : (c : Int) ≤ 122 := by omega
      have e3 : ¬ (65 : Int) ≤ c := by omega
      have e4 : (c : Int) ≤ 90 := by omega
      have e5 : (48 : Int) ≤ c := by omega
      have e6 : ¬ (c : Int) ≤ 57 := by omega
      have e7 : ((c : Int) == 45) = false := by simp; omega
      have e8 : ((c : Int) == 95) = false := by simp; omega
      have hb : nameB s = false := bad (by simp [okc]; omega)
      simp -implicitDefEqProofs [go_sem, h3, hh, hf.t, hf.m, hf, hlt', hc, e1, e2, e3, e4, e5, e6, e7, e8, hw]
      exact ⟨_, Sub.refl _, by rw [hb], rfl⟩
    · have e1 : ¬ (97 : Int) ≤ c := by omega
      have e2 : (c : Int) ≤ 122 := by omega
      have e3 : ¬ (65 : Int) ≤ c := by omega
      have e4 : (c : Int) ≤ 90 := by omega
      have e5 : (48 : Int) ≤ c := by omega
      have e6 : (c : Int) ≤ 57 := by omega
      have e7 : ((c : Int) == 45) = false := by simp; omega
      have e8 : ((c : Int) == 95) = false := by simp; omega
      have hg : okc c = true := by simp [okc]; omega
      simp -implicitDefEqProofs [go_sem, h3, hh, hf.t, hf.m, hf, hlt', hc, e1, e2, e3, e4, e5, e6, e7, e8, hw]
      exact hJ _ ⟨i + 1, by omega, by simp -implicitDefEqProofs [go_sem, hw], by simp -implicitDefEqProofs [go_sem, hh], good hg⟩ (by simp [go_sem, h3, hw]; omega)
    · have e1 : ¬ (97 : Int) ≤ c := by omega
      have e2 : (c : Int) ≤ 122 := by omega
      have e3 : ¬ (65 : Int) ≤ c := by omega
      have e4 : (c : Int) ≤ 90 := by omega
      have e5 : ¬ (48 : Int) ≤ c := by omega
      have e6 : (c : Int) ≤ 57 := by omega
      have e7 : ((c : Int) == 45) = false := by simp; omega
      have e8 : ((c : Int) == 95) = false := by simp; omega
      have hb : nameB s = false := bad (by simp [okc]; omega)
      simp -implicitDefEqProofs [go_sem, h3, hh, hf.t, hf.m, hf, hlt', hc, e1, e2, e3, e4, e5, e6, e7, e8, hw]
      exact ⟨_, Sub.refl _, by rw [hb], rfl⟩
    · have e1 : ¬ (97 : Int) ≤ c := by omega
      have e2 : (c : Int) ≤ 122 := by omega
      have e3 : ¬ (65 : Int) ≤ c := by omega
      have e4 : (c : Int) ≤ 90 := by omega
      have e5 : ¬ (48 : Int) ≤ c := by omega
      have e6 : (c : Int) ≤ 57 := by omega
      have e7 : ((c : Int) == 45) = true := by simp; omega
      have e8 : ((c : Int) == 95) = false := by simp; omega
      have hg : okc c = true := by simp [okc]; omega
      simp -implicitDefEqProofs [go_sem, h3, hh, hf.t, hf.m, hf, hlt', hc, e1, e2, e3, e4, e5, e6, e7, e8, hw]
      exact hJ _ ⟨i + 1, by omega, by simp -implicitDefEqProofs [go_sem, hw], by simp -implicitDefEqProofs [go_sem, hh], good hg⟩ (by simp [go_sem, h3, hw]; omega)
    · have e1 : ¬ (97 : Int) ≤ c := by omega
      have e2 : (c : Int) ≤ 122 := by omega
      have e3 : ¬ (65 : Int) ≤ c := by omega
      have e4 : (c : Int) ≤ 90 := by omega
      have e5 : ¬ (48 : Int) ≤ c := by omega
      have e6 : (c : Int) ≤ 57 := by omega
      have e7 : ((c : Int) == 45) = false := by simp; omega
      have e8 : ((c : Int) == 95) = false := by simp; omega
      have hb : nameB s = false := bad (by simp [okc]; omega)
      simp -implicitDefEqProofs [go_sem, h3, hh, hf.t, hf.m, hf, hlt', hc, e1, e2, e3, e4, e5, e6, e7, e8, hw]
      exact ⟨_, Sub.refl _, by rw [hb], rfl⟩
  · have hall : ∀ j, (hj : j < s.size) → okc s[j].toNat = true := fun j hj => hpre j hj (by omega)
    have hnb := nameB_all hall
    simp -implicitDefEqProofs [go_sem, h3, hh, hf.t, hf.m]
    refine cK_dec (fun h0 => ?_) (fun h0 => ?_)
    · simp -implicitDefEqProofs [go_sem, h3, hh, hf.t, hf.m, h0]
      have h1 : 1 ≤ s.size := by omega
      exact ⟨_, Sub.refl _, by rw [hnb]; simp [h1] <;> omega, rfl⟩
    · simp -implicitDefEqProofs [go_sem, h3, hh, hf.t, hf.m, h0]
      have h1 : ¬ 1 ≤ s.size := by omega
      exact ⟨_, Sub.refl _, by rw [hnb]; simp [h1] <;> omega, rfl⟩

theorem or32 (c : Nat) (hc : c ≤ 255) : ∃ o : Int, IntKind.u8.wrap ((BitVec.ofInt IntKind.u8.bits (c : Int) ||| BitVec.ofInt IntKind.u8.bits 32).toNat : Nat) = o ∧ (o < 97 ↔ (c ≤ 64 ∨ c = 96)) ∧ (122 < o ↔ ((91 ≤ c ∧ c ≤ 95) ∨ 123 ≤ c)) := by
  have : ∀ c : Fin 256, (IntKind.u8.wrap ((BitVec.ofInt IntKind.u8.bits (c.1 : Int) ||| BitVec.ofInt IntKind.u8.bits 32).toNat : Nat) < 97 ↔ (c.1 ≤ 64 ∨ c.1 = 96)) ∧ (122 < IntKind.u8.wrap ((BitVec.ofInt IntKind.u8.bits (c.1 : Int) ||| BitVec.ofInt IntKind.u8.bits 32).toNat : Nat) ↔ ((91 ≤ c.1 ∧ c.1 ≤ 95) ∨ 123 ≤ c.1)) := by decide +kernel
  exact ⟨_, rfl, this ⟨c, by omega⟩⟩

set_option maxRecDepth 20000 in
theorem name_c (s : ByteArray) (hs : s.size < 100000000) (h : Heap) : ICall Tryz.prog 25 [.str s] h (retP (.bool (nameB s)) h) := by
  refine icall_of_iwp (fun _ => 0) Tryz.func25 rfl (by kernel_rfl) (Nat.le_of_ble_eq_true rfl) ?_
  rw [Tryz.results25]
  simp -implicitDefEqProofs [go_sem]
  refine iwp_loopF (rng [3,4] 7 38) nom (fun st => ∃ i : Nat, i ≤ s.size ∧ st.t 7 = .int .i64 i ∧ st.h = h ∧ ∀ j, (hj : j < s.size) → j < i → okc s[j].toNat = true) (fun st => s.size - tn (st.t 7)) ?_ ?_
  · exact ⟨0, Nat.zero_le _, by simp -implicitDefEqProofs [go_sem], by simp -implicitDefEqProofs [go_sem], fun j _ hj => by omega⟩
  rintro J st hJ hf ⟨i, hi, h7, hh, hpre⟩
  simp -implicitDefEqProofs [go_sem, h7, hh, hf.t, hf.m]
  refine cK_dec (fun hlt => ?_) (fun hlt => ?_)
  · have hlt' : i < s.size := by omega
    have hw := wrap_succ (i := i) (by omega)
    obtain ⟨c, hc⟩ : ∃ c : Nat, s[i].toNat = c := ⟨_, rfl⟩
    have good : okc c = true → ∀ j, (hj : j < s.size) → j < i + 1 → okc s[j].toNat = true := by
      intro hg j hj hj1
      by_cases hji : j = i
      · subst hji; rw [hc]; exact hg
      · exact hpre j hj (by omega)
    have bad : okc c = false → nameB s = false := fun hb => nameB_bad hlt' (by rw [hc]; exact hb)
    have hc255 : c ≤ 255 := by have := s[i].toNat_lt; omega
    obtain ⟨o, ho, q1, q2⟩ := or32 c hc255
    simp -implicitDefEqProofs [go_sem] at ho
    obtain k | k | k | k | k | k | k | k | k | k | k : (97 ≤ c ∧ c ≤ 122) ∨ (123 ≤ c ∧ c ≤ 255) ∨ (96 ≤ c ∧ c ≤ 96) ∨ (95 ≤ c ∧ c ≤ 95) ∨ (91 ≤ c ∧ c ≤ 94) ∨ (65 ≤ c ∧ c ≤ 90) ∨ (58 ≤ c ∧ c ≤ 64) ∨ (48 ≤ c ∧ c ≤ 57) ∨ (46 ≤ c ∧ c ≤ 47) ∨ (45 ≤ c ∧ c ≤ 45) ∨ (0 ≤ c ∧ c ≤ 44) := by omega
    · have g1 : ¬ (o < 97) := by omega
      have g2 : ¬ (122 < o) := by omega
      have g3 : ¬ ((c : Int) < 48) := by omega
      have g4 : (57 < (c : Int)) := by omega
      have g5 : ((c : Int) != 45) = true := by simp; omega
      have g6 : ((c : Int) != 95) = true := by simp; omega
      have hg : okc c = true := by simp [okc]; omega
      simp -implicitDefEqProofs [go_sem, h7, hh, hf.t, hf.m, hf, hlt', hc, ho, g1, g2, g3, g4, g5, g6, hw]
      exact hJ _ ⟨i + 1, by omega, by simp -implicitDefEqProofs [go_sem, hw], by simp -implicitDefEqProofs [go_sem, hh], good hg⟩ (by simp [go_sem, h7, hw]; omega)
    · have g1 : ¬ (o < 97) := by omega
      have g2 : (122 < o) := by omega
      have g3 : ¬ ((c : Int) < 48) := by omega
      have g4 : (57 < (c : Int)) := by omega
      have g5 : ((c : Int) != 45) = true := by simp; omega
      have g6 : ((c : Int) != 95) = true := by simp; omega
      have hb : nameB s = false := bad (by simp [okc]; omega)
      simp -implicitDefEqProofs [go_sem, h7, hh, hf.t, hf.m, hf, hlt', hc, ho, g1, g2, g3, g4, g5, g6, hw]
      exact ⟨_, Sub.refl _, by rw [hb], rfl⟩
    · have g1 : (o < 97) := by omega
      have g2 : ¬ (122 < o) := by omega
      have g3 : ¬ ((c : Int) < 48) := by omega
      have g4 : (57 < (c : Int)) := by omega
      have g5 : ((c : Int) != 45) = true := by simp; omega
      have g6 : ((c : Int) != 95) = true := by simp; omega
      have hb : nameB s = false := bad (by simp [okc]; omega)
      simp -implicitDefEqProofs [go_sem, h7, hh, hf.t, hf.m, hf, hlt', hc, ho, g1, g2, g3, g4, g5, g6, hw]
      exact ⟨_, Sub.refl _, by rw [hb], rfl⟩
    · have g1 : ¬ (o < 97) := by omega
      have g2 : (122 < o) := by omega
      have g3 : ¬ ((c : Int) < 48) := by omega
      have g4 : (57 < (c : Int)) := by omega
      have g5 : ((c : Int) != 45) = true := by simp; omega
      have g6 : ((c : Int) != 95) = false := by simp; omega
      have hg : okc c = true := by simp [okc]; omega
      simp -implicitDefEqProofs [go_sem, h7, hh, hf.t, hf.m, hf, hlt', hc, ho, g1, g2, g3, g4, g5, g6, hw]
      exact hJ _ ⟨i + 1, by omega, by simp -implicitDefEqProofs [go_sem, hw], by simp -implicitDefEqProofs [go_sem, hh], good hg⟩ (by simp [go_sem, h7, hw]; omega)
    · have g1 : ¬ (o < 97) := by omega
      have g2 : (122 < o) := by omega
      have g3 : ¬ ((c : Int) < 48) := by omega
      have g4 : (57 < (c : Int)) := by omega
      have g5 : ((c : Int) != 45) = true := by simp; omega
      have g6 : ((c : Int) != 95) = true := by simp; omega
      have hb : nameB s = false := bad (by simp [okc]; omega)
      simp -implicitDefEqProofs [go_sem, h7, hh, hf.t, hf.m, hf, hlt', hc, ho, g1, g2, g3, g4, g5, g6, hw]
      exact ⟨_, Sub.refl _, by rw [hb], rfl⟩
    · have g1 : ¬ (o < 97) := by omega
      have g2 : ¬ (122 < o) := by omega
      have g3 : ¬ ((c : Int) < 48) := by omega
      have g4 : (57 < (c : Int)) := by omega
      have g5 : ((c : Int) != 45) = true := by simp; omega
      have g6 : ((c : Int) != 95) = true := by simp; omega
      have hg : okc c = true := by simp [okc]; omega
      simp -implicitDefEqProofs [go_sem, h7, hh, hf.t, hf.m, hf, hlt', hc, ho, g1, g2, g3, g4, g5, g6, hw]
      exact hJ _ ⟨i + 1, by omega, by simp -implicitDefEqProofs [go_sem, hw], by simp -implicitDefEqProofs [go_sem, hh], good hg⟩ (by simp [go_sem, h7, hw]; omega)
    · have g1 : (o < 97) := by omega
      have g2 : ¬ (122 < o) := by omega
      have g3 : ¬ ((c : Int) < 48) := by omega
      have g4 : (57 < (c : Int)) := by omega
      have g5 : ((c : Int) != 45) = true := by simp; omega
      have g6 : ((c : Int) != 95) = true := by simp; omega
      have hb : nameB s = false := bad (by simp [okc]; omega)
      simp -implicitDefEqProofs [go_sem, h7, hh, hf.t, hf.m, hf, hlt', hc, ho, g1, g2, g3, g4, g5, g6, hw]
      exact ⟨_, Sub.refl _, by rw [hb], rfl⟩
    · have g1 : (o < 97) := by omega
      have g2 : ¬ (122 < o) := by omega
      have g3 : ¬ ((c : Int) < 48) := by omega
      have g4 : ¬ (57 < (c : Int)) := by omega
      have g5 : ((c : Int) != 45) = true := by simp; omega
      have g6 : ((c : Int) != 95) = true := by simp; omega
      have hg : okc c = true := by simp [okc]; omega
      simp -implicitDefEqProofs [go_sem, h7, hh, hf.t, hf.m, hf, hlt', hc, ho, g1, g2, g3, g4, g5, g6, hw]
      exact hJ _ ⟨i + 1, by omega, by simp -implicitDefEqProofs [go_sem, hw], by simp -implicitDefEqProofs [go_sem, hh], good hg⟩ (by simp [go_sem, h7, hw]; omega)
    · have g1 : (o < 97) := by omega
      have g2 : ¬ (122 < o) := by omega
      have g3 : ((c : Int) < 48) := by omega
      have g4 : ¬ (57 < (c : Int)) := by omega
      have g5 : ((c : Int) != 45) = true := by simp; omega
      have g6 : ((c : Int) != 95) = true := by simp; omega
      have hb : nameB s = false := bad (by simp [okc]; omega)
      simp -implicitDefEqProofs [go_sem, h7, hh, hf.t, hf.m, hf, hlt', hc, ho, g1, g2, g3, g4, g5, g6, hw]
      exact ⟨_, Sub.refl _, by rw [hb], rfl⟩
    · have g1 : (o < 97) := by omega
      have g2 : ¬ (122 < o) := by omega
      have g3 : ((c : Int) < 48) := by omega
      have g4 : ¬ (57 < (c : Int)) := by omega
      have g5 : ((c : Int) != 45) = false := by simp; omega
      have g6 : ((c : Int) != 95) = true := by simp; omega
      have hg : okc c = true := by simp [okc]; omega
      simp -implicitDefEqProofs [go_sem, h7, hh, hf.t, hf.m, hf, hlt', hc, ho, g1, g2, g3, g4, g5, g6, hw]
      exact hJ _ ⟨i + 1, by omega, by simp -implicitDefEqProofs [go_sem, hw], by simp -implicitDefEqProofs [go_sem, hh], good hg⟩ (by simp [go_sem, h7, hw]; omega)
    · have g1 : (o < 97) := by omega
      have g2 : ¬ (122 < o) := by omega
      have g3 : ((c : Int) < 48) := by omega
      have g4 : ¬ (57 < (c : Int)) := by omega
      have g5 : ((c : Int) != 45) = true := by simp; omega
      have g6 : ((c : Int) != 95) = true := by simp; omega
      have hb : nameB s = false := bad (by simp [okc]; omega)
      simp -implicitDefEqProofs [go_sem, h7, hh, hf.t, hf.m, hf, hlt', hc, ho, g1, g2, g3, g4, g5, g6, hw]
      exact ⟨_, Sub.refl _, by rw [hb], rfl⟩
  · have hall : ∀ j, (hj : j < s.size) → okc s[j].toNat = true := fun j hj => hpre j hj (by omega)
    have hnb := nameB_all hall
    simp -implicitDefEqProofs [go_sem, h7, hh, hf.t, hf.m]
    refine cK_dec (fun h0 => ?_) (fun h0 => ?_)
    · simp -implicitDefEqProofs [go_sem, h7, hh, hf.t, hf.m, h0]
      have h1 : 1 ≤ s.size := by omega
      exact ⟨_, Sub.refl _, by rw [hnb]; simp [h1] <;> omega, rfl⟩
    · simp -implicitDefEqProofs [go_sem, h7, hh, hf.t, hf.m, h0]
      have h1 : ¬ 1 ≤ s.size := by omega
      exact ⟨_, Sub.refl _, by rw [hnb]; simp [h1] <;> omega, rfl⟩
end Go.Proofs
