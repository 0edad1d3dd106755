/- This text is a part of the proofs of the statements of this seat: the ideal states and their rules, or what one of the functions that the statements reach comes to. Conditions: none beyond those that each theorem names. -/
import Derived.Test.YtghpaalcedgcaaaGreatDA
import Derived.Test.YtghpaalcedgcaaaGreatD9
import Derived.Test.YtghpaalcedgcaaaGreatO1e
import Derived.Test.YtghpaalcedgcaaaGreatK7v
import Derived.Test.YtghpaalcedgcaaaGreatCE
import Derived.Test.YtghpaalcedgcaaaGreatP2
set_option linter.unusedVariables false
set_option linter.unusedSimpArgs false
set_option pp.deepTerms false
set_option pp.maxSteps 400
namespace Go.Proofs
open Go.Idl

/-! a new window, and one with another tree -/
def wZero : Wn := ⟨Cel.zero, 0, false⟩
theorem wZero_row : wZero.row = [.int .u8 0, .int .i64 0, .int .i64 0, .int .i64 0, .int .i64 0, .int .i64 0, .list .plain [], .int .i64 0, .bool false] := by rw [Wn.row_eq]; rfl
def wNew (w h id : Int) : Wn := ⟨.mk 1 ⟨0, 0, w, h⟩ id [], id, false⟩
theorem wNew_row (w h id : Int) : (wNew w h id).row = [.int .u8 1, .int .i64 0, .int .i64 0, .int .i64 w, .int .i64 h, .int .i64 id, .list .plain [], .int .i64 id, .bool false] := by rw [Wn.row_eq]; rfl
def newV (w h id : Int) : IV := if (wNew w h id).may = true then .tup [.agg (wNew w h id).row, .int .i64 0] else .tup [.agg wZero.row, .int .i64 1]
theorem wNew_small (w h id : Int) : (wNew w h id).tree.size < 100000000 := by simp [wNew, Cel.size, Cel.sizes]
theorem newG_c (w hh id : Int) (h : Heap) : ICall Tryz.prog 9 [.int .i64 w, .int .i64 hh, .int .i64 id] h (retP (newV w hh id) h) := by
  refine icall_of_iwp (fun _ => 0) Tryz.func9 rfl (by kernel_rfl) (Nat.le_of_ble_eq_true rfl) ?_
  rw [Tryz.results9]
  have hrow : [IV.int .i64 0, .int .i64 0, .int .i64 w, .int .i64 hh] = (Rct.mk 0 0 w hh).row := rfl
  have hrow2 : (Cel.mk 1 ⟨0, 0, w, hh⟩ id []).row ++ [IV.int .i64 0, .bool false] = (Wn.mk (Cel.mk 1 ⟨0, 0, w, hh⟩ id []) 0 false).row := rfl
  have hrow3 : Wn.mk (Cel.mk 1 ⟨0, 0, w, hh⟩ id []) id false = wNew w hh id := rfl
  simp -implicitDefEqProofs [go_sem]
  rw [hrow]
  refine (leaf_c ⟨0, 0, w, hh⟩ id h).mono ?_
  rintro e h' ⟨rfl, he⟩
  rw [he]
  simp -implicitDefEqProofs [go_sem, hrow2, hrow3]
  refine (wmay_c (wNew w hh id) h (wNew_small _ _ _)).mono ?_
  rintro e h' ⟨rfl, he⟩
  rw [he]
  cases hm : (wNew w hh id).may with
  | false =>
    simp -implicitDefEqProofs [go_sem]
    exact ⟨h, Sub.refl _, by rw [newV, if_neg (by rw [hm]; simp), wZero_row], rfl⟩
  | true =>
    simp -implicitDefEqProofs [go_sem]
    exact ⟨h, Sub.refl _, by rw [newV, if_pos hm], rfl⟩
theorem rnew18_c (w hh id : Int) (h : Heap) : ICall Tryz.prog 10 [.int .i64 w, .int .i64 hh, .int .i64 id] h (retP (newV w hh id) h) := by
  refine icall_of_iwp (fun _ => 0) Tryz.func10 rfl (by kernel_rfl) (Nat.le_of_ble_eq_true rfl) ?_
  rw [Tryz.results10]
  have hrow := wNew_row w hh id
  simp -implicitDefEqProofs [go_sem, ← hrow]
  refine (may18_c (wNew w hh id) h (wNew_small _ _ _)).mono ?_
  rintro e h' ⟨rfl, he⟩
  rw [he]
  cases hm : (wNew w hh id).may with
  | false =>
    simp -implicitDefEqProofs [go_sem]
    exact ⟨h, Sub.refl _, by rw [newV, if_neg (by rw [hm]; simp), wZero_row], rfl⟩
  | true =>
    simp -implicitDefEqProofs [go_sem]
    exact ⟨h, Sub.refl _, by rw [newV, if_pos hm], rfl⟩
theorem with_c (w : Wn) (c : Cel) (act : Int) (h : Heap) : ICall Tryz.prog 47 [.agg w.row, .agg c.row, .int .i64 act, .int .i64 0] h (retP (.tup [.agg (Wn.mk c act false).row, .int .i64 0]) h) := by
  refine icall_of_iwp (fun _ => 0) Tryz.func47 rfl (by kernel_rfl) (Nat.le_of_ble_eq_true rfl) ?_
  rw [Tryz.results47]
  have hrow2 : c.row ++ [IV.int .i64 0, .bool false] = (Wn.mk c 0 false).row := rfl
  simp -implicitDefEqProofs [go_sem, hrow2]
  exact ⟨h, Sub.refl _, rfl, rfl⟩

/-- two slices of other lengths are other ones -/
def lenV : IV → Nat | .list _ rows => rows.length | .sl _ _ _ n _ => n | _ => 0
def isSl : IV → Bool | .list .plain _ => true | .sl _ _ _ _ _ => true | _ => false
theorem equalN_c (a b : IV) (ha : isSl a = true) (hb : isSl b = true) (hn : lenV a ≠ lenV b) (h : Heap) : ICall Tryz.prog 41 [a, b] h (retP (.bool false) h) := by
  refine icall_of_iwp (fun _ => 0) Tryz.func41 rfl (by kernel_rfl) (Nat.le_of_ble_eq_true rfl) ?_
  rw [Tryz.results41]
  have hn' : ((lenV a : Nat) : Int) ≠ ((lenV b : Nat) : Int) := by omega
  have hb2 : (((lenV a : Nat) : Int) != ((lenV b : Nat) : Int)) = true := by simpa using hn'
  match a, ha, b, hb with
  | .list .plain r1, _, .list .plain r2, _ =>
    simp only [lenV] at hb2
    simp -implicitDefEqProofs [go_sem, hb2]
    exact ⟨_, Sub.refl _, rfl, rfl⟩
  | .list .plain r1, _, .sl z b o n c, _ =>
    simp only [lenV] at hb2
    simp -implicitDefEqProofs [go_sem, hb2]
    exact ⟨_, Sub.refl _, rfl, rfl⟩
  | .sl z b o n c, _, .list .plain r2, _ =>
    simp only [lenV] at hb2
    simp -implicitDefEqProofs [go_sem, hb2]
    exact ⟨_, Sub.refl _, rfl, rfl⟩
  | .sl z b o n c, _, .sl z2 b2 o2 n2 c2, _ =>
    simp only [lenV] at hb2
    simp -implicitDefEqProofs [go_sem, hb2]
    exact ⟨_, Sub.refl _, rfl, rfl⟩
end Go.Proofs

set_option linter.unusedVariables false
set_option linter.unusedSimpArgs false
set_option pp.deepTerms false
set_option pp.maxSteps 400
namespace Go.Proofs
open Go.Idl

/-- may a window have that tree? -/
def chgOk (w : Wn) (c : Cel) : Prop := c.tiles = true ∧ c.r = w.tree.r ∧ w.tree.ids.Perm c.ids
open Classical in
noncomputable def chgE (w : Wn) (c : Cel) (e : Int) : Int := if e ≠ 0 then e else if chgOk w c then 0 else 10
noncomputable def chgW (w : Wn) (c : Cel) (e : Int) : Wn := if chgE w c e = 0 then ⟨c, w.act, false⟩ else ⟨w.tree, w.act, false⟩
theorem chgE_e {w : Wn} {c : Cel} {e : Int} (he : e ≠ 0) : chgE w c e = e := by rw [chgE, if_pos he]
theorem chgE_ok {w : Wn} {c : Cel} (h : chgOk w c) : chgE w c 0 = 0 := by rw [chgE, if_neg (by simp), if_pos h]
theorem chgE_no {w : Wn} {c : Cel} (h : ¬ chgOk w c) : chgE w c 0 = 10 := by rw [chgE, if_neg (by simp), if_neg h]
theorem chgW_no {w : Wn} {c : Cel} {e : Int} (h : chgE w c e ≠ 0) : chgW w c e = ⟨w.tree, w.act, false⟩ := by rw [chgW, if_neg h]
theorem chgW_ok {w : Wn} {c : Cel} (h : chgOk w c) : chgW w c 0 = ⟨c, w.act, false⟩ := by rw [chgW, if_pos (chgE_ok h)]
theorem sortL_eq_perm {a b : List Int} : sortL a = sortL b ↔ a.Perm b :=
  ⟨fun h => ((sortL_perm a).symm.trans (by rw [h])).trans (sortL_perm b), sortL_congr⟩
theorem SH_comm {h : Heap} {a b ca cb : Nat} {x y : Array Int} (hne : a ≠ b) : SH (SH h a ca x) b cb y = SH (SH h b cb y) a ca x := by
  funext j
  simp only [SH, upd]
  by_cases h1 : j = a
  · subst h1; simp [hne]
  · simp [h1]
theorem SH_ne {h : Heap} {a j ca : Nat} {x : Array Int} (hne : j ≠ a) : SH h a ca x j = h j := upd_ne _ _ hne
theorem newInts_SH {l : List Int} {h : Heap} {e : IEnd} {h' : Heap} (hn : newInts l h e h') : ∃ b cap, h b = none ∧ l.length ≤ cap ∧ e = .ret (.sl 1 b 0 l.length cap) ∧ h' = SH h b cap l.toArray := by
  obtain ⟨b, cap, h1, h2, h3, h4⟩ := hn
  exact ⟨b, cap, h1, h2, h3, by rw [h4, SH, rowsD]⟩
theorem sortSH_c (l : List Int) (b cap : Nat) (h : Heap) (hl : l.length < 1000000000) : ICall Tryz.prog 39 [.sl 1 b 0 l.length cap] (SH h b cap l.toArray) (retP (.tup []) (SH h b cap (sortL l).toArray)) := by
  have := sort_c l.toArray b cap h (by simp; omega)
  simpa only [List.size_toArray, List.toList_toArray] using this
set_option maxRecDepth 20000 in
set_option maxHeartbeats 4000000 in
theorem change1_c (w : Wn) (c : Cel) (e : Int) (b qe qc : Nat) (h : Heap) (hs : w.tree.size < 100000000) (hcs : c.size < 100000000) (hm : w.may = true) (hb : h b = none) (he : h qe = some (.cells [.int .i64 e])) (hc : h qc = some (.cells c.row)) :
    ICall Tryz.prog 37 [.ptr b 0, .ptr qe 0, .ptr qc 0] (upd h b (some (.cells (Wn.mk w.tree w.act false).row))) (retP (.int .i64 (chgE w c e)) (upd h b (some (.cells (chgW w c e).row)))) := by
  have hne : qe ≠ b := fun x => by rw [x, hb] at he; cases he
  have hnc : qc ≠ b := fun x => by rw [x, hb] at hc; cases hc
  have hwt : w.tree.tiles = true := by simp [Wn.may] at hm; exact hm.1.1.1.1
  have hwne : w.tree.ids ≠ [] := by
    have := ids_pos w.tree (tiles_may hwt).2.1
    intro x; rw [x] at this; simp at this
  have hil := idsz_le w.tree
  have hicl := idsz_le c
  refine icall_of_iwp (fun d => if d = 15 then 10 else if d = 18 then 10 else 0) Tryz.func37 rfl (by kernel_rfl) (Nat.le_of_ble_eq_true rfl) ?_
  rw [Tryz.results37]
  simp -implicitDefEqProofs [go_sem, he, hc, hne, hnc]
  refine cK_bne (fun k0 => ?_) (fun k0 => ?_)
  · simp -implicitDefEqProofs [go_sem, he, hc, hne, hnc]
    exact ⟨_, Sub.refl _, by rw [chgE_e k0], by rw [chgW_no (by rw [chgE_e k0]; exact k0)]⟩
  subst k0
  simp -implicitDefEqProofs [go_sem, he, hc, hne, hnc]
  refine iwp_drawn_call mixed [0, 1, 2, 3, 4, 6, 7, 5, 8, 9, 10] (by kernel_rfl) (fun v st d x h => by cases d <;> exact h) ?_
  simp -implicitDefEqProofs [go_sem, he, hc, hne, hnc]
  have hbrow : ∀ H : Heap, H b = some (.cells (Wn.mk w.tree w.act false).row) → H b = some (.cells (Wn.mk w.tree w.act false).row) := fun _ h => h
  obtain ⟨H, hH⟩ : ∃ H, upd h b (some (.cells (Wn.mk w.tree w.act false).row)) = H := ⟨_, rfl⟩
  have hHb : H b = some (.cells (Wn.mk w.tree w.act false).row) := by rw [← hH]; simp [upd]
  have hHc : H qc = some (.cells c.row) := by rw [← hH]; simp [upd, hnc, hc]
  rw [hH]
  refine (cLeavesW_c w.tree H (by omega) hwne).mono ?_
  intro e1 h1 hn1
  obtain ⟨ba, ca, hba, hca, rfl, rfl⟩ := newInts_SH hn1
  have hsa : ∀ x, Sub H (SH H ba ca x) := fun x => (Sub.refl H).upd hba _
  refine ⟨hsa _, ?_⟩
  have hbba : b ≠ ba := fun x => by rw [← x, hHb] at hba; cases hba
  have hcba : qc ≠ ba := fun x => by rw [← x, hHc] at hba; cases hba
  simp -implicitDefEqProofs [go_sem]
  have hno : ∀ x : IV, ¬ chgOk w c → retP (.int .i64 (chgE w c 0)) (upd h b (some (.cells (chgW w c 0).row))) (.ret (.int .i64 10)) H := fun _ hx => ⟨by rw [chgE_no hx], by rw [chgW_no (by rw [chgE_no hx]; simp), hH]⟩
  have ht6 := tTiles_c c
  by_cases hcn : c.ids = []
  · have htf : c.tiles = false := by
      cases ht : c.tiles with
      | false => rfl
      | true => have := ids_pos c (tiles_may ht).2.1; rw [hcn] at this; simp at this
    refine (cLeaves_c c _ (by omega)).mono ?_
    rintro e2 h2 ⟨rfl, rfl⟩
    rw [hcn]
    refine ⟨Sub.refl _, ?_⟩
    simp -implicitDefEqProofs [go_sem]
    refine (sortSH_c w.tree.ids ba ca H (by omega)).mono ?_
    rintro e2 h2 ⟨rfl, rfl⟩
    simp -implicitDefEqProofs [go_sem]
    refine (sort_nil _).mono ?_
    rintro e2 h2 ⟨rfl, rfl⟩
    have hqc2 : SH H ba ca (sortL w.tree.ids).toArray qc = some (.cells c.row) := by rw [SH_ne hcba, hHc]
    simp -implicitDefEqProofs [go_sem]
    refine iwp_drawn_of mixed [0,1,2,3,4,5,6,7,8,9,10,11,12,13,14,15,16,17,18,19] (by kernel_rfl) ?_
    simp -implicitDefEqProofs [go_sem, hqc2]
    refine ⟨_, ht6 _ (by omega), ?_⟩
    rw [htf]
    simp -implicitDefEqProofs [go_sem]
    exact ⟨H, hsa _, hno .dead (fun x => by have := x.1; rw [htf] at this; cases this)⟩
  · refine (cLeavesW_c c _ (by omega) hcn).mono ?_
    intro e2 h2 hn2
    obtain ⟨bb, cb, hbb, hcb, rfl, rfl⟩ := newInts_SH hn2
    have hab : ba ≠ bb := fun x => by rw [← x, SH_at] at hbb; cases hbb
    have hbb' : H bb = none := by rw [SH_ne (Ne.symm hab)] at hbb; exact hbb
    have hsab : ∀ x y, Sub H (SH (SH H ba ca x) bb cb y) := fun x y => ((Sub.refl H).upd hba _).upd hbb' _
    have hbbb : b ≠ bb := fun x => by rw [← x, hHb] at hbb'; cases hbb'
    have hcbb : qc ≠ bb := fun x => by rw [← x, hHc] at hbb'; cases hbb'
    refine ⟨(Sub.refl _).upd hbb _, ?_⟩
    simp -implicitDefEqProofs [go_sem]
    rw [SH_comm hab]
    refine (sortSH_c w.tree.ids ba ca _ (by omega)).mono ?_
    rintro e3 h3 ⟨rfl, rfl⟩
    simp -implicitDefEqProofs [go_sem]
    rw [SH_comm (Ne.symm hab)]
    refine (sortSH_c c.ids bb cb _ (by omega)).mono ?_
    rintro e3 h3 ⟨rfl, rfl⟩
    obtain ⟨HF, hHF⟩ : ∃ HF, SH (SH H ba ca (sortL w.tree.ids).toArray) bb cb (sortL c.ids).toArray = HF := ⟨_, rfl⟩
    have hqc2 : HF qc = some (.cells c.row) := by rw [← hHF, SH_ne hcbb, SH_ne hcba, hHc]
    have hqb2 : HF b = some (.cells (Wn.mk w.tree w.act false).row) := by rw [← hHF, SH_ne hbbb, SH_ne hbba, hHb]
    have hFa : HF ba = some (.arr 3 1 (rowsD (sortL w.tree.ids).toArray) ca) := by rw [← hHF, SH_ne hab, SH_at]
    have hFb : HF bb = some (.arr 3 1 (rowsD (sortL c.ids).toArray) cb) := by rw [← hHF, SH_at]
    have hsF : Sub H HF := by rw [← hHF]; exact hsab _ _
    rw [hHF]
    simp -implicitDefEqProofs [go_sem]
    refine iwp_drawn_of mixed [0,1,2,3,4,5,6,7,8,9,10,11,12,13,14,15,16,17,18,19] (by kernel_rfl) ?_
    simp -implicitDefEqProofs [go_sem, hqc2]
    refine ⟨_, ht6 _ (by omega), ?_⟩
    cases ht : c.tiles with
    | false =>
      simp -implicitDefEqProofs [go_sem]
      exact ⟨H, hsF, hno .dead (fun x => by have := x.1; rw [ht] at this; cases this)⟩
    | true =>
    simp -implicitDefEqProofs [go_sem, hqc2, hqb2]
    by_cases hr : c.r = w.tree.r
    case neg =>
      simp -implicitDefEqProofs [go_sem, hr]
      exact ⟨H, hsF, hno .dead (fun x => hr x.2.1)⟩
    simp -implicitDefEqProofs [go_sem, hr]
    by_cases hlen : w.tree.ids.length = c.ids.length
    case neg =>
      refine ⟨_, equalN_c (.sl 1 ba 0 w.tree.ids.length ca) (.sl 1 bb 0 c.ids.length cb) rfl rfl (by simpa [lenV] using hlen) _, ?_⟩
      simp -implicitDefEqProofs [go_sem]
      exact ⟨H, hsF, hno .dead (fun x => hlen x.2.2.length_eq)⟩
    have heq := equalH_c (sortL w.tree.ids).toArray (sortL c.ids).toArray ba ca bb cb HF hFa hFb (by simp [sortL_len]; omega) (by simp [sortL_len]; omega)
    simp only [List.size_toArray, sortL_len] at heq
    refine ⟨_, heq, ?_⟩
    by_cases hpm : w.tree.ids.Perm c.ids
    · have hok : chgOk w c := ⟨ht, hr, hpm⟩
      have hd : decide ((sortL w.tree.ids).toArray = (sortL c.ids).toArray) = true := by rw [sortL_eq_perm.2 hpm]; simp
      rw [hd]
      simp -implicitDefEqProofs [go_sem, hqc2]
      refine (wset_c ⟨w.tree, w.act, false⟩ c b HF hqb2).mono ?_
      rintro e3 h3 ⟨rfl, rfl⟩
      simp -implicitDefEqProofs [go_sem]
      refine ⟨upd h b (some (.cells (Wn.mk c w.act false).row)), ?_, by rw [chgE_ok hok], by rw [chgW_ok hok]⟩
      intro j o hj
      by_cases hjb : j = b
      · subst hjb; rw [upd_same] at hj ⊢; exact hj
      · rw [upd_ne _ _ hjb] at hj ⊢
        exact hsF j o (by rw [← hH, upd_ne _ _ hjb]; exact hj)
    · have hd : decide ((sortL w.tree.ids).toArray = (sortL c.ids).toArray) = false := by
        rw [decide_eq_false_iff_not]
        intro x
        exact hpm (sortL_eq_perm.1 (by simpa using x))
      rw [hd]
      simp -implicitDefEqProofs [go_sem]
      exact ⟨H, hsF, hno .dead (fun x => hpm x.2.2)⟩
end Go.Proofs

set_option linter.unusedVariables false
set_option linter.unusedSimpArgs false
set_option pp.deepTerms false
set_option pp.maxSteps 400
namespace Go.Proofs
open Go.Idl

theorem perm_of_sub : ∀ {a b : List Int}, a.Nodup → a.length = b.length → (∀ x ∈ a, x ∈ b) → a.Perm b
  | [], b, _, hl, _ => by rw [List.eq_nil_of_length_eq_zero (l := b) (by simpa using hl.symm)]
  | x :: a, b, hn, hl, hs => by
    have hp := List.perm_cons_erase (hs x List.mem_cons_self)
    have hle := hp.length_eq
    have hx := (List.nodup_cons.1 hn).1
    have := perm_of_sub (a := a) (b := b.erase x) (List.nodup_cons.1 hn).2 (by simp at hl hle; omega) (fun y hy => (List.mem_erase_of_ne (fun e => hx (by rw [← e]; exact hy))).2 (hs y (List.mem_cons_of_mem _ hy)))
    exact (this.cons x).trans hp.symm
noncomputable def changeV (w : Wn) (c : Cel) (e : Int) : IV := chgV w (chgW w c e) (chgE w c e)
set_option maxRecDepth 20000 in
theorem change_c (w : Wn) (c : Cel) (e : Int) (h : Heap) (hs : w.tree.size < 100000000) (hcs : c.size < 100000000) : ICall Tryz.prog 7 [.agg w.row, .agg c.row, .int .i64 e] h (retP (changeV w c e) h) := by
  refine icall_of_iwp (fun d => if d = 4 ∨ d = 5 then 1 else 0) Tryz.func7 rfl (by kernel_rfl) (Nat.le_of_ble_eq_true rfl) ?_
  rw [Tryz.results7]
  simp -implicitDefEqProofs [go_sem]
  intro qc hqc qe hqe
  have hne : qc ≠ qe := fun x => by subst x; simp at hqe
  have hqe' : h qe = none := by rw [if_neg (Ne.symm hne)] at hqe; exact hqe
  have hsub := ((Sub.refl h).upd hqc (some (.cells c.row))).upd hqe' (some (.cells [.int .i64 e]))
  have hc := changed_c w 37 [.ptr qe 0, .ptr qc 0] (chgW w c e) (chgE w c e) (upd (upd h qc (some (.cells c.row))) qe (some (.cells [.int .i64 e]))) hs
    (fun hm b hb => change1_c w c e b qe qc _ hs hcs hm hb (by simp [upd]) (by simp [upd, hne]))
  refine hc.mono ?_
  rintro e1 h' ⟨rfl, rfl⟩
  have hcv : ∃ x y, chgV w (chgW w c e) (chgE w c e) = .tup [.agg (Wn.row x), .int .i64 y] := by
    unfold chgV
    split
    · split
      · exact ⟨_, _, rfl⟩
      · exact ⟨_, _, rfl⟩
    · exact ⟨_, _, rfl⟩
  obtain ⟨x, y, hxy⟩ := hcv
  rw [hxy]
  simp -implicitDefEqProofs [go_sem]
  exact ⟨h, hsub, by rw [changeV, hxy], rfl⟩
def subU (a b : List Int) (i : Nat) : Prop := ∀ j, j < i → ∀ n, a[j]? = some n → n ∈ b
set_option maxRecDepth 20000 in
set_option maxHeartbeats 4000000 in
theorem rchange_c (w : Wn) (c : Cel) (e : Int) (h : Heap) (hs : w.tree.size < 100000000) (hcs : c.size < 100000000) : ICall Tryz.prog 8 [.agg w.row, .agg c.row, .int .i64 e] h (retP (changeV w c e) h) := by
  refine icall_of_iwp (fun _ => 0) Tryz.func8 rfl (by kernel_rfl) (Nat.le_of_ble_eq_true rfl) ?_
  rw [Tryz.results8]
  have hil := idsz_le w.tree
  have hicl := idsz_le c
  simp -implicitDefEqProofs [go_sem]
  refine (may18_c w h hs).mono ?_
  rintro e1 h' ⟨rfl, he⟩
  rw [he]
  cases hm : w.may with
  | false =>
    simp -implicitDefEqProofs [go_sem]
    exact ⟨h, Sub.refl _, by rw [changeV, chgV, if_neg (by rw [hm]; simp)], rfl⟩
  | true =>
  have hwt : w.tree.tiles = true := by simp [Wn.may] at hm; exact hm.1.1.1.1
  have hnd := (tiles_may hwt).2.2
  have hbad : ∀ x, chgE w c e = x → x ≠ 0 → changeV w c e = .tup [.agg w.row, .int .i64 x] := fun x hx h0 => by rw [changeV, chgV, if_pos hm, hx, if_neg h0]
  simp -implicitDefEqProofs [go_sem]
  refine cK_bne (fun k0 => ?_) (fun k0 => ?_)
  · simp -implicitDefEqProofs [go_sem]
    exact ⟨h, Sub.refl _, by rw [hbad e (chgE_e k0) k0], rfl⟩
  subst k0
  try simp -implicitDefEqProofs [go_sem]
  refine iwp_drawn_of mixed [0,1,2,3,4,5,6] (by kernel_rfl) ?_
  simp -implicitDefEqProofs [go_sem]
  refine ⟨_, ids_c w.tree h (by omega), ?_⟩
  try simp -implicitDefEqProofs [go_sem]
  refine ⟨_, ids_c c h (by omega), ?_⟩
  try simp -implicitDefEqProofs [go_sem]
  refine (tiles06_c c h (by omega)).mono ?_
  rintro e1 h' ⟨rfl, he⟩
  rw [he]
  cases ht : c.tiles with
  | false =>
    simp -implicitDefEqProofs [go_sem]
    exact ⟨h, Sub.refl _, by rw [hbad 10 (chgE_no (fun x => by have := x.1; rw [ht] at this; cases this)) (by simp)], rfl⟩
  | true =>
  simp -implicitDefEqProofs [go_sem]
  by_cases hr : c.r = w.tree.r
  case neg =>
    simp -implicitDefEqProofs [go_sem, hr]
    exact ⟨h, Sub.refl _, by rw [hbad 10 (chgE_no (fun x => hr x.2.1)) (by simp)], rfl⟩
  simp -implicitDefEqProofs [go_sem, hr]
  refine cK_bne (fun k1 => ?_) (fun k1 => ?_)
  · simp -implicitDefEqProofs [go_sem]
    exact ⟨h, Sub.refl _, by rw [hbad 10 (chgE_no (fun x => k1 (by rw [x.2.2.length_eq]))) (by simp)], rfl⟩
  have hlen : w.tree.ids.length = c.ids.length := by omega
  simp -implicitDefEqProofs [go_sem]
  refine iwp_loopF (rng [10] 45 56) nom (fun s => ∃ i : Nat, i ≤ w.tree.ids.length ∧ s.t 45 = .int .i64 i ∧ s.h = h ∧ subU w.tree.ids c.ids i) (fun s => w.tree.ids.length - tn (s.t 45)) ?_ ?_
  · exact ⟨0, Nat.zero_le _, by simp -implicitDefEqProofs [go_sem], by simp -implicitDefEqProofs [go_sem], fun j hj => by omega⟩
  rintro J s hJ hf ⟨i, hi, h45, hh, hU⟩
  simp -implicitDefEqProofs [go_sem, h45, hh, hf.t, hf.m]
  refine cK_dec (fun hlt => ?_) (fun hge => ?_)
  · have hlt' : i < w.tree.ids.length := by omega
    have hg : w.tree.ids[i]? = some w.tree.ids[i] := List.getElem?_eq_getElem hlt'
    have hg2 : (w.tree.ids.map intRow)[i]? = some [.int .i64 w.tree.ids[i]] := by simp [hg, intRow]
    have hw := wrap_succ (i := i) (by omega)
    simp -implicitDefEqProofs [go_sem, h45, hh, hf.t, hf.m, hlt', hg2]
    refine (in_c c.ids w.tree.ids[i] h (by omega)).mono ?_
    rintro e1 h' ⟨rfl, he⟩
    rw [he]
    by_cases hmem : w.tree.ids[i] ∈ c.ids
    · have hd : decide (w.tree.ids[i] ∈ c.ids) = true := by simp [hmem]
      rw [hd]
      simp -implicitDefEqProofs [go_sem, h45, hh, hf.t, hf.m, hf, hw]
      refine hJ _ ⟨i + 1, by omega, by simp -implicitDefEqProofs [go_sem, hw], by simp -implicitDefEqProofs [go_sem, hh], fun j hj n hn => ?_⟩ (by simp [go_sem, h45, hw]; omega)
      by_cases hji : j = i
      · subst hji; rw [hg] at hn; cases hn; exact hmem
      · exact hU j (by omega) n hn
    · have hd : decide (w.tree.ids[i] ∈ c.ids) = false := by simp [hmem]
      rw [hd]
      simp -implicitDefEqProofs [go_sem, h45, hh, hf.t, hf.m]
      exact ⟨h, Sub.refl _, by rw [hbad 10 (chgE_no (fun x => hmem (x.2.2.mem_iff.1 (List.getElem_mem hlt')))) (by simp)], rfl⟩
  · obtain rfl : i = w.tree.ids.length := by omega
    have hperm : w.tree.ids.Perm c.ids := perm_of_sub hnd hlen fun x hx => by
      obtain ⟨j, hj, rfl⟩ := List.getElem_of_mem hx
      exact hU j hj _ (List.getElem?_eq_getElem hj)
    have hok : chgOk w c := ⟨ht, hr, hperm⟩
    simp -implicitDefEqProofs [go_sem, h45, hh, hf.t, hf.m]
    refine (with_c w c w.act h).mono ?_
    rintro e1 h' ⟨rfl, he⟩
    rw [he]
    simp -implicitDefEqProofs [go_sem, hh, hf.t, hf.m]
    exact ⟨h, Sub.refl _, by rw [changeV, chgV, if_pos hm, chgE_ok hok, if_pos rfl, chgW_ok hok], rfl⟩

theorem wsame_self18 (w : Wn) : w.same w = true := by simp [Wn.same, Cel.beq_iff.2 rfl]
set_option maxRecDepth 20000 in
theorem windowChanges_c (w : Wn) (c : Cel) (a ww hh id : Int) (ha : 0 ≤ a ∧ a ≤ 255) (h : Heap) (hs : w.tree.size < 100000000) (hcs : c.size < 100000000) :
    ICall Tryz.prog 3 [.agg w.row, .agg c.row, .int .u8 a, .int .i64 ww, .int .i64 hh, .int .i64 id] h (retP (.bool true) h) := by
  refine icall_of_iwp (fun _ => 0) Tryz.func3 rfl (by kernel_rfl) (Nat.le_of_ble_eq_true rfl) ?_
  rw [Tryz.results3]
  have aw : ∀ (R : IEnd → Heap → Prop), R (.ret (.bool true)) h → ICall Tryz.prog 6 [] h R := fun R hR => (awake18_c h).mono (by rintro e h' ⟨rfl, rfl⟩; exact hR)
  have wa : IntKind.i64.wrap a = a := wrap_in (by omega)
  have sm : ∀ (x : Wn) (R : IEnd → Heap → Prop), x.tree.size < 100000000 → R (.ret (.bool true)) h → ICall Tryz.prog 11 [.agg x.row, .agg x.row] h R := fun x R hx hR => (same18_c x x h hx).mono (by rintro e h' ⟨rfl, rfl⟩; rw [wsame_self18]; exact hR)
  obtain ⟨x, y, hxy, hxs⟩ : ∃ x y, changeV w c a = .tup [.agg (Wn.row x), .int .i64 y] ∧ x.tree.size < 100000000 := by
    unfold changeV chgV
    split
    · split
      · refine ⟨_, _, rfl, ?_⟩
        unfold chgW
        split
        · first | exact hcs | exact hs
        · first | exact hcs | exact hs
      · exact ⟨_, _, rfl, hs⟩
    · exact ⟨_, _, rfl, hs⟩
  obtain ⟨x2, y2, hxy2, hxs2⟩ : ∃ x y, newV ww hh id = .tup [.agg (Wn.row x), .int .i64 y] ∧ x.tree.size < 100000000 := by
    unfold newV
    split
    · exact ⟨_, _, rfl, wNew_small _ _ _⟩
    · exact ⟨_, _, rfl, by decide +kernel⟩
  simp -implicitDefEqProofs [go_sem]
  refine (great_c w.tree h (by omega)).mono ?_
  rintro e h' ⟨b1, rfl, rfl, _⟩
  cases b1 with
  | true =>
    simp -implicitDefEqProofs [go_sem]
    refine aw _ ?_
    simp -implicitDefEqProofs [go_sem]
    exact ⟨_, Sub.refl _, rfl, rfl⟩
  | false =>
  simp -implicitDefEqProofs [go_sem]
  refine (great_c c h' (by omega)).mono ?_
  rintro e h2 ⟨b2, rfl, rfl, _⟩
  cases b2 with
  | true =>
    simp -implicitDefEqProofs [go_sem]
    refine aw _ ?_
    simp -implicitDefEqProofs [go_sem]
    exact ⟨_, Sub.refl _, rfl, rfl⟩
  | false =>
  simp -implicitDefEqProofs [go_sem, wa]
  refine (change_c w c a _ hs hcs).mono ?_
  rintro e h' ⟨rfl, he⟩
  rw [he, hxy]
  simp -implicitDefEqProofs [go_sem, wa]
  refine (rchange_c w c a _ hs hcs).mono ?_
  rintro e h' ⟨rfl, he⟩
  rw [he, hxy]
  simp -implicitDefEqProofs [go_sem]
  refine (newG_c ww hh id _).mono ?_
  rintro e h' ⟨rfl, he⟩
  rw [he, hxy2]
  simp -implicitDefEqProofs [go_sem]
  refine (rnew18_c ww hh id _).mono ?_
  rintro e h' ⟨rfl, he⟩
  rw [he, hxy2]
  simp -implicitDefEqProofs [go_sem]
  refine sm x _ hxs ?_
  simp -implicitDefEqProofs [go_sem]
  refine sm x2 _ hxs2 ?_
  simp -implicitDefEqProofs [go_sem]
  refine aw _ ?_
  simp -implicitDefEqProofs [go_sem]
  exact ⟨_, Sub.refl _, rfl, rfl⟩
end Go.Proofs
