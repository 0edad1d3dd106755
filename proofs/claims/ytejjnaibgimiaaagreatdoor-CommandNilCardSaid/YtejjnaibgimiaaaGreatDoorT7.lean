/- This text is a part of the proofs of the statements of this seat: the ideal states and their rules, or what one of the functions that the statements reach comes to. Conditions: none beyond those that each theorem names. -/
import Derived.Test.YtejjnaibgimiaaaGreatDoorT6
import Derived.Test.YtejjnaibgimiaaaGreatDoorT2
import Derived.Test.YtejjnaibgimiaaaGreatDoorT5
set_option linter.unusedVariables false
set_option linter.unusedSimpArgs false
set_option pp.deepTerms false
set_option pp.maxSteps 400
namespace Go.Proofs
open Go.Idl

/-! maps of numbers, as lists -/
def encK {α : Type} (f : α → Int) (v : α → IV) (a : α) : IV × IV := (.int .i64 (f a), v a)
theorem ifind_k {α : Type} (f : α → Int) (v : α → IV) (id : Int) : ∀ l : List α, ifind (.int .i64) (.int .i64 id) (l.map (encK f v)) = some ((l.find? fun a => f a == id).map v)
  | [] => rfl
  | a :: l => by
    have ih := ifind_k f v id l
    by_cases h : id = f a
    · have h1 : (f a == id) = true := by simp [h]
      simp [ifind, kEq, encK, h]
    · have h1 : (id == f a) = false := by simpa using h
      have h2 : (f a == id) = false := by simpa using Ne.symm h
      rw [List.map_cons, encK, ifind]
      simp only [kEq, if_true, h1, ih, List.find?_cons, h2]
theorem iput_k {α : Type} (f : α → Int) (v : α → IV) (id : Int) (x : IV) : ∀ l : List α, (∀ a ∈ l, f a ≠ id) → iput (.int .i64) (.int .i64 id) x (l.map (encK f v)) = some (l.map (encK f v) ++ [(.int .i64 id, x)])
  | [], _ => rfl
  | a :: l, h => by
    have h1 : (id == f a) = false := by simpa using Ne.symm (h a List.mem_cons_self)
    rw [List.map_cons, encK, iput]
    simp only [kEq, if_true, h1, iput_k f v id x l fun b hb => h b (List.mem_cons_of_mem _ hb), Option.map_some, List.cons_append]
theorem iput_kset {α : Type} (f : α → Int) (v : α → IV) (id : Int) (x : IV) : ∀ (l : List α) (i : Nat) (a : α), (l.map f).Nodup → l[i]? = some a → f a = id → iput (.int .i64) (.int .i64 id) x (l.map (encK f v)) = some ((l.map (encK f v)).set i (.int .i64 id, x))
  | [], i, a, _, h, _ => by simp at h
  | b :: l, 0, a, _, h, hf => by
    cases h
    simp [iput, kEq, encK, hf]
  | b :: l, i + 1, a, hn, h, hf => by
    simp only [List.getElem?_cons_succ] at h
    simp only [List.map_cons, List.nodup_cons] at hn
    have h1 : (id == f b) = false := by
      have : f b ≠ id := by rintro e; apply hn.1; rw [e, ← hf]; exact List.mem_map_of_mem (List.mem_of_getElem? h)
      simpa using Ne.symm this
    rw [List.map_cons, encK, iput]
    simp only [kEq, if_true, h1, iput_kset f v id x l i a hn.2 h hf, Option.map_some, List.set_cons_succ]
/-! a registry that turns -/
theorem RG.winE_k (R : RG) : R.winE = R.win.map (encK (·.1) fun p => .agg p.2.row) := rfl
theorem RG.ownE_k (R : RG) : R.ownE = R.own.map (encK (·.1) fun p => .int .i64 p.2) := rfl
theorem RG.sesE_k (R : RG) : R.sesE = R.ses.map (encK (·.id) fun s => .ptr s.sb 0) := rfl
theorem RG.recE_k (R : RG) : R.recE = R.L.map (encK (·.m.id) fun p => .ptr p.rb 0) := rfl
theorem BoardAt.frm {k k' tag h bb mb L tag' h'} (hB : BoardAt k tag h bb mb L) (hF : Frm k' tag h tag' h') (hk : k ≠ k') : BoardAt k tag' h' bb mb L := by
  have key : ∀ j o t, h j = some o → tag j = t → t.1 = k → h' j = some o ∧ tag' j = t := by
    intro j o t ho ht hk1
    obtain ⟨g1, g2⟩ := hF j o ho (by rw [ht, hk1]; exact hk)
    exact ⟨g1, g2.trans ht⟩
  refine ⟨(key _ _ _ hB.hb hB.tb rfl).1, (key _ _ _ hB.hb hB.tb rfl).2, (key _ _ _ hB.hm hB.tm rfl).1, (key _ _ _ hB.hm hB.tm rfl).2, ?_, hB.nd⟩
  intro i p hp
  obtain ⟨q1, q2, q3, q4⟩ := hB.hp i p hp
  obtain ⟨v, hv⟩ := q2.some
  refine ⟨fun hg => key _ _ _ (q1 hg).1 (q1 hg).2 rfl, ?_, (key _ _ _ hv q3 rfl).2, fun he => ?_⟩
  · refine q2.keep ?_ (fun he => ?_)
    · rw [hv]; exact (key _ _ _ hv q3 rfl).1
    · rcases q2 with ⟨g0, _⟩ | ⟨_, _, g2, _⟩
      · exact absurd g0 he
      · rw [g2]; exact (key _ _ _ g2 (q4 he) rfl).1
  · rcases q2 with ⟨g0, _⟩ | ⟨_, _, g2, _⟩
    · exact absurd g0 he
    · exact (key _ _ _ g2 (q4 he) rfl).2
theorem SB.is_keep {h h' : Heap} {s : SB} (hs : s.is h) (h1 : h' s.sb = h s.sb) (h2 : s.wins ≠ [] → h' s.wb = h s.wb) : s.is h' := by
  rcases hs with ⟨g0, g1⟩ | ⟨g0, g1, g2, g3⟩
  · exact .inl ⟨g0, h1.trans g1⟩
  · exact .inr ⟨g0, h1.trans g1, (h2 g0).trans g2, g3⟩
theorem SB.is_sb {h : Heap} {s : SB} (hs : s.is h) : ∃ o, h s.sb = some o := by
  rcases hs with ⟨_, g1⟩ | ⟨_, g1, _⟩ <;> exact ⟨_, g1⟩
theorem SB.is_wb {h : Heap} {s : SB} (hs : s.is h) (h0 : s.wins ≠ []) : ∃ o, h s.wb = some o := by
  rcases hs with ⟨g0, g1⟩ | ⟨_, _, g2, _⟩
  · exact absurd g0 h0
  · exact ⟨_, g2⟩
/-- what the blocks of a registry say, told by their marks -/
theorem RegAt.of {k tag h rb R} (hR : RegAt k tag h rb R) {R' : RG} {tag' : Nat → Nat × Nat × Nat} {h' : Heap} (T : Nat × Nat × Nat → Prop)
    (keep : ∀ j o, h j = some o → (tag j).1 = k + 1 → ¬ T (tag j) → h' j = some o ∧ tag' j = tag j)
    (e1 : R'.bb = R.bb) (e2 : R'.mb = R.mb) (e3 : R'.recb = R.recb) (e4 : R'.sesb = R.sesb) (e5 : R'.winb = R.winb) (e6 : R'.ownb = R.ownb)
    (c0 : (¬ T (k + 1, 0, 0) ∧ R'.cells = R.cells) ∨ (h' rb = some (.cells R'.cells) ∧ tag' rb = (k + 1, 0, 0)))
    (c1 : (¬ T (k + 1, 1, 0) ∧ R'.recE = R.recE) ∨ (h' R.recb = some (.map R'.recE) ∧ tag' R.recb = (k + 1, 1, 0)))
    (c2 : (¬ T (k + 1, 2, 0) ∧ R'.sesE = R.sesE) ∨ (h' R.sesb = some (.map R'.sesE) ∧ tag' R.sesb = (k + 1, 2, 0)))
    (c3 : (¬ T (k + 1, 3, 0) ∧ R'.winE = R.winE) ∨ (h' R.winb = some (.map R'.winE) ∧ tag' R.winb = (k + 1, 3, 0)))
    (c4 : (¬ T (k + 1, 4, 0) ∧ R'.ownE = R.ownE) ∨ (h' R.ownb = some (.map R'.ownE) ∧ tag' R.ownb = (k + 1, 4, 0)))
    (cB : BoardAt k tag' h' R.bb R.mb R'.L)
    (cs : ∀ s ∈ R'.ses, (s ∈ R.ses ∧ ¬ T (k + 1, 5, s.id.toNat) ∧ ¬ T (k + 1, 6, s.id.toNat)) ∨ (s.is h' ∧ tag' s.sb = (k + 1, 5, s.id.toNat) ∧ (s.wins ≠ [] → tag' s.wb = (k + 1, 6, s.id.toNat)))) :
    RegAt k tag' h' rb R' := by
  have kp : ∀ j o t, h j = some o → tag j = t → t.1 = k + 1 → ¬ T t → h' j = some o ∧ tag' j = t := fun j o t ho ht h1 h2 => by
    obtain ⟨g1, g2⟩ := keep j o ho (by rw [ht]; exact h1) (by rw [ht]; exact h2)
    exact ⟨g1, g2.trans ht⟩
  have a0 : h' rb = some (.cells R'.cells) ∧ tag' rb = (k + 1, 0, 0) := c0.elim (fun g => by rw [g.2]; exact kp _ _ _ hR.hr hR.tr rfl g.1) id
  have a1 : h' R.recb = some (.map R'.recE) ∧ tag' R.recb = (k + 1, 1, 0) := c1.elim (fun g => by rw [g.2]; exact kp _ _ _ hR.hrec hR.trec rfl g.1) id
  have a2 : h' R.sesb = some (.map R'.sesE) ∧ tag' R.sesb = (k + 1, 2, 0) := c2.elim (fun g => by rw [g.2]; exact kp _ _ _ hR.hses hR.tses rfl g.1) id
  have a3 : h' R.winb = some (.map R'.winE) ∧ tag' R.winb = (k + 1, 3, 0) := c3.elim (fun g => by rw [g.2]; exact kp _ _ _ hR.hwin hR.twin rfl g.1) id
  have a4 : h' R.ownb = some (.map R'.ownE) ∧ tag' R.ownb = (k + 1, 4, 0) := c4.elim (fun g => by rw [g.2]; exact kp _ _ _ hR.hown hR.town rfl g.1) id
  refine ⟨a0.1, a0.2, by rw [e3]; exact a1.1, by rw [e3]; exact a1.2, by rw [e4]; exact a2.1, by rw [e4]; exact a2.2, by rw [e5]; exact a3.1, by rw [e5]; exact a3.2, by rw [e6]; exact a4.1, by rw [e6]; exact a4.2, by rw [e1, e2]; exact cB, fun s hs => ?_⟩
  rcases cs s hs with ⟨g1, g2, g3⟩ | g
  · obtain ⟨q1, q2, q3⟩ := hR.hs s g1
    obtain ⟨o, ho⟩ := SB.is_sb q1
    have b1 := kp _ _ _ ho q2 rfl g2
    refine ⟨SB.is_keep q1 (by rw [b1.1, ho]) (fun h0 => ?_), b1.2, fun h0 => ?_⟩
    · obtain ⟨o2, ho2⟩ := SB.is_wb q1 h0
      rw [(kp _ _ _ ho2 (q3 h0) rfl g3).1, ho2]
    · obtain ⟨o2, ho2⟩ := SB.is_wb q1 h0
      exact (kp _ _ _ ho2 (q3 h0) rfl g3).2
  · exact g
theorem upd_keep {k : Nat} {tag : Nat → Nat × Nat × Nat} {h : Heap} {b : Nat} {t : Nat × Nat × Nat} (ht : tag b = t) (o : Option IObj) : ∀ j oj, h j = some oj → (tag j).1 = k + 1 → ¬ (tag j = t) → upd h b o j = some oj ∧ tag j = tag j := fun j oj hj _ hn =>
  ⟨by rw [upd_ne _ _ (by rintro rfl; exact hn ht)]; exact hj, rfl⟩
theorem Frm2.own {k : Nat} {tag : Nat → Nat × Nat × Nat} {h : Heap} {b : Nat} (ht : (tag b).1 = k + 1) (o : Option IObj) : Frm2 k tag h tag (upd h b o) := fun j oj hj _ h2 =>
  ⟨by rw [upd_ne _ _ (by rintro rfl; exact h2 ht)]; exact hj, rfl⟩
theorem BoardAt.own {k tag h bb mb L} (hB : BoardAt k tag h bb mb L) {b : Nat} (ht : (tag b).1 = k + 1) (o : Option IObj) : BoardAt k tag (upd h b o) bb mb L :=
  hB.frm (k' := k + 1) (fun j oj hj h2 => ⟨by rw [upd_ne _ _ (by rintro rfl; exact h2 ht)]; exact hj, rfl⟩) (by omega)
theorem RegAt.root {k tag h rb R} (hR : RegAt k tag h rb R) (a b c : Int) : RegAt k tag (upd h rb (some (.cells (RG.cells { R with ns := a, nw := b, np := c })))) rb { R with ns := a, nw := b, np := c } :=
  hR.of (fun t => t = (k + 1, 0, 0)) (upd_keep hR.tr _) rfl rfl rfl rfl rfl rfl (.inr ⟨upd_same _ _ _, hR.tr⟩) (.inl ⟨by simp, rfl⟩) (.inl ⟨by simp, rfl⟩) (.inl ⟨by simp, rfl⟩) (.inl ⟨by simp, rfl⟩)
    (hR.hB.own (by rw [hR.tr]) _) (fun s hs => .inl ⟨hs, by simp, by simp⟩)
theorem RegAt.setWin {k tag h rb R} (hR : RegAt k tag h rb R) (W : List (Int × Wn)) : RegAt k tag (upd h R.winb (some (.map (RG.winE { R with win := W })))) rb { R with win := W } :=
  hR.of (fun t => t = (k + 1, 3, 0)) (upd_keep hR.twin _) rfl rfl rfl rfl rfl rfl (.inl ⟨by simp, rfl⟩) (.inl ⟨by simp, rfl⟩) (.inl ⟨by simp, rfl⟩) (.inr ⟨upd_same _ _ _, hR.twin⟩) (.inl ⟨by simp, rfl⟩)
    (hR.hB.own (by rw [hR.twin]) _) (fun s hs => .inl ⟨hs, by simp, by simp⟩)
theorem RegAt.setOwn {k tag h rb R} (hR : RegAt k tag h rb R) (W : List (Int × Int)) : RegAt k tag (upd h R.ownb (some (.map (RG.ownE { R with own := W })))) rb { R with own := W } :=
  hR.of (fun t => t = (k + 1, 4, 0)) (upd_keep hR.town _) rfl rfl rfl rfl rfl rfl (.inl ⟨by simp, rfl⟩) (.inl ⟨by simp, rfl⟩) (.inl ⟨by simp, rfl⟩) (.inl ⟨by simp, rfl⟩) (.inr ⟨upd_same _ _ _, hR.town⟩)
    (hR.hB.own (by rw [hR.town]) _) (fun s hs => .inl ⟨hs, by simp, by simp⟩)
/-- the board turns -/
theorem RegAt.board {k tag h rb R} (hR : RegAt k tag h rb R) {tag' : Nat → Nat × Nat × Nat} {h' : Heap} {L' : List PB} (hB : BoardAt k tag' h' R.bb R.mb L') (hF : Frm k tag h tag' h') (he : RG.recE { R with L := L' } = R.recE) : RegAt k tag' h' rb { R with L := L' } :=
  hR.of (fun _ => False) (fun j o ho ht _ => hF j o ho (by omega)) rfl rfl rfl rfl rfl rfl (.inl ⟨id, rfl⟩) (.inl ⟨id, he⟩) (.inl ⟨id, rfl⟩) (.inl ⟨id, rfl⟩) (.inl ⟨id, rfl⟩) hB (fun s hs => .inl ⟨hs, id, id⟩)
theorem stay_recE {L L' : List PB} (hs : Stay L L') (hm : (L'.map (·.m)).map (·.id) = (L.map (·.m)).map (·.id)) : L'.map (encK (·.m.id) fun p => IV.ptr p.rb 0) = L.map (encK (·.m.id) fun p => IV.ptr p.rb 0) := by
  have hl : L'.length = L.length := by have := congrArg List.length hm; simpa using this
  apply List.ext_getElem?
  intro i
  rw [List.getElem?_map, List.getElem?_map]
  cases h : L[i]? with
  | none =>
    rw [List.getElem?_eq_none_iff] at h
    rw [List.getElem?_eq_none (by omega)]
  | some p =>
    obtain ⟨p', h1, h2⟩ := hs i p h
    have h3 := congrArg (·[i]?) hm
    simp only [List.getElem?_map, h, h1, Option.map_some, Option.some.injEq] at h3
    rw [h1]
    simp only [Option.map_some, encK, h2, h3]
theorem show1_ids (L : List PM) (x : Pk) : (show1 L x).1.map (·.id) = L.map (·.id) := by
  unfold show1
  split
  · rfl
  · split
    · rfl
    · rename_i i _ p hp
      split
      · rfl
      · apply List.ext_getElem?
        intro j
        rw [List.getElem?_map, List.getElem?_map, List.getElem?_set]
        split
        · rename_i e; subst e
          have := (List.getElem?_eq_some_iff.1 hp).1
          rw [if_pos this, hp]; rfl
        · rfl
theorem showM_ids : ∀ (l : List Pk) (L : List PM), (showM L l).1.map (·.id) = L.map (·.id)
  | [], _ => rfl
  | x :: l, L => by rw [showM]; show (showM (show1 L x).1 l).1.map _ = _; rw [showM_ids l, show1_ids]
/-! how many panes, is there room -/
theorem panes_z' {k tag h bb mb L} (hB : BoardAt k tag h bb mb L) (hin : ∀ p ∈ L, inR p.m.id) (hl : L.length < 1000000000) : ICall Tryz.prog 226 [.ptr bb 0] h (retP (.list .plain ((sortL (liveM (L.map (·.m)))).map intRow)) h) := by
  refine (panes_c hB hin hl).fz ?_
  rintro e h' ⟨ss, hss, ⟨rfl, rfl, rfl⟩ | ⟨hne, b, cap, hb, hle, rfl, rfl⟩⟩
  · have : liveM (L.map (·.m)) = [] := List.nil_perm.1 hss
    rw [this]
    exact .inl ⟨by simp [sortL], rfl⟩
  · refine .inr ⟨_, b, 3, 1, rowsD (sortL ss).toArray, cap, rfl, SH_at _ _ _ _, ?_, ?_⟩
    · have hlen : (rowsD (sortL ss).toArray).length = ss.length := by simp [rowsD, sortL_len]
      simp only [fz3, fz2, fz1, hlen]
      rw [if_pos ⟨trivial, trivial, by omega⟩, List.drop_zero, List.take_of_length_le (by omega), ← sortL_congr hss, rowsD]
    · funext j
      simp only [dropH, SH, upd]
      split
      · rename_i e; rw [e, hb]
      · rfl
def RG.np' (R : RG) : Nat := (liveM (R.L.map (·.m))).length
structure RG.Bd (R : RG) : Prop where
  ids : ∀ p ∈ R.L, inR p.m.id
  ln : R.L.length < 100000000
  lw : R.win.length < 100000000
  ls : R.ses.length < 100000000
set_option maxRecDepth 20000 in
theorem panes21_c {k tag h rb R} (hR : RegAt k tag h rb R) (hb : R.Bd) : ICall Tryz.prog 177 [.ptr rb 0] h (retP (.int .i64 R.np') h) := by
  refine icall_of_iwp (fun d => 0) Tryz.func177 rfl (by kernel_rfl) (Nat.le_of_ble_eq_true rfl) ?_
  rw [Tryz.results177]
  have h1 := hR.hr
  simp -implicitDefEqProofs [go_sem, h1, RG.cells]
  refine (panes_z' hR.hB hb.ids (by have := hb.ln; omega)).mono ?_
  rintro e h' ⟨rfl, rfl⟩
  simp -implicitDefEqProofs [go_sem]
  exact ⟨_, Sub.refl _, by simp [RG.np', sortL_len], rfl⟩
def RG.fullB (R : RG) : Bool := decide (256 ≤ R.win.length) || decide (4096 ≤ R.np')
set_option maxRecDepth 20000 in
theorem full_c {k tag h rb R} (hR : RegAt k tag h rb R) (hb : R.Bd) : ICall Tryz.prog 171 [.ptr rb 0] h (retP (.bool R.fullB) h) := by
  refine icall_of_iwp (fun d => if d = 10 then 11 else 0) Tryz.func171 rfl (by kernel_rfl) (Nat.le_of_ble_eq_true rfl) ?_
  rw [Tryz.results171]
  have h1 := hR.hr
  have h2 := hR.hwin
  have hl : R.winE.length = R.win.length := by simp [RG.winE]
  simp -implicitDefEqProofs [go_sem, h1, h2, RG.cells, hl]
  refine cK_dec (fun g => ?_) (fun g => ?_)
  · simp -implicitDefEqProofs [go_sem, h1, h2, RG.cells, hl]
    have : R.fullB = true := by simp only [RG.fullB, Bool.or_eq_true, decide_eq_true_eq]; omega
    rw [this]
    exact ⟨_, Sub.refl _, rfl, rfl⟩
  · simp -implicitDefEqProofs [go_sem, h1, h2, RG.cells, hl]
    refine (panes21_c hR hb).mono ?_
    rintro e h' ⟨rfl, rfl⟩
    simp -implicitDefEqProofs [go_sem]
    refine ⟨_, Sub.refl _, ?_, rfl⟩
    have : R.fullB = decide ((4096 : Int) ≤ R.np') := by
      rw [Bool.eq_iff_iff]; simp only [RG.fullB, Bool.or_eq_true, decide_eq_true_eq]; omega
    rw [this]

/-! another pane; a window's panes are shown -/
theorem ifind_new {α : Type} (f : α → Int) (v : α → IV) (id : Int) (x : IV) : ∀ l : List α, (∀ a ∈ l, f a ≠ id) → ifind (.int .i64) (.int .i64 id) (l.map (encK f v) ++ [(.int .i64 id, x)]) = some (some x)
  | [], _ => by simp [ifind, kEq]
  | a :: l, h => by
    have h1 : (id == f a) = false := by simpa using Ne.symm (h a List.mem_cons_self)
    rw [List.map_cons, encK, List.cons_append, ifind]
    simp only [kEq, if_true, h1]
    exact ifind_new f v id x l fun b hb => h b (List.mem_cons_of_mem _ hb)
def addR21 (k : Nat) (tag : Nat → Nat × Nat × Nat) (h : Heap) (rb : Nat) (R : RG) (id : Int) (e : IEnd) (h' : Heap) : Prop :=
  e = .ret (.tup []) ∧ ∃ pb rb' tag', RegAt k tag' h' rb { R with L := R.L ++ [newP id pb rb'] } ∧ Frm2 k tag h tag' h'
set_option maxRecDepth 20000 in
theorem add21_c {k tag h rb R} (hR : RegAt k tag h rb R) (hm : R.mkr = .nilfn) (id : Int) (h0 : 0 ≤ id ∧ id ≤ 2147483647) (hn : ∀ p ∈ R.L, p.m.id ≠ id) :
    ICall Tryz.prog 179 [.ptr rb 0, .int .i64 id] h (addR21 k tag h rb R id) := by
  refine icall_of_iwp (fun d => if d = 23 then 10 else 0) Tryz.func179 rfl (by kernel_rfl) (Nat.le_of_ble_eq_true rfl) ?_
  rw [Tryz.results179]
  have h1 := hR.hr
  have h2 := hR.hrec
  simp -implicitDefEqProofs [go_sem, h1, RG.cells, hm]
  refine iwp_drawn_call mixed [0, 1, 2, 3, 4, 5, 6] (by kernel_rfl) (fun v st d x h => by cases d <;> exact h) ?_
  simp -implicitDefEqProofs [go_sem, h1, RG.cells, hm]
  refine (newRec_c h).mono ?_
  rintro e h' ⟨rc, hrc, rfl, rfl⟩
  have hs1 : Sub h (upd h rc (some (.cells [.list .tight []]))) := (Sub.refl h).upd hrc _
  refine ⟨hs1, ?_⟩
  have g1 := hs1 _ _ h1
  have g2 := hs1 _ _ h2
  have hrn : rb ≠ R.recb := by rintro e; have := hR.tr; rw [e, hR.trec] at this; simp at this
  have hcn : rc ≠ R.recb := by rintro e; rw [e, h2] at hrc; cases hrc
  have hp := iput_k (·.m.id) (fun p : PB => IV.ptr p.rb 0) id (.ptr rc 0) R.L hn
  have hq := ifind_new (·.m.id) (fun p : PB => IV.ptr p.rb 0) id (.ptr rc 0) R.L hn
  rw [RG.recE_k] at g2
  have hB1 := hR.hB.grow hrc (some (.cells [.list .tight []])) (k, 3, R.L.length)
  have hF1 : Frm2 k tag h (upd tag rc (k, 3, R.L.length)) (upd h rc (some (.cells [.list .tight []]))) := Frm2.grow hrc _ _
  have hc1 : upd h rc (some (.cells [.list .tight []])) rc = some (.cells [.list .tight []]) := upd_same _ _ _
  have ht1 : upd tag rc (k, 3, R.L.length) rc = (k, 3, R.L.length) := upd_same _ _ _
  have ht2 : ∀ j o, h j = some o → upd tag rc (k, 3, R.L.length) j = tag j := fun j o hj => upd_ne _ _ (by rintro rfl; rw [hrc] at hj; cases hj)
  generalize upd h rc (some (.cells [.list .tight []])) = H at *
  generalize upd tag rc (k, 3, R.L.length) = T at *
  simp -implicitDefEqProofs [go_sem, g1, g2, hp, hq, hrn, RG.cells]
  have htr : T R.recb = (k + 1, 1, 0) := (ht2 _ _ h2).trans hR.trec
  have hB2 := hB1.own (b := R.recb) (by rw [htr]) (some (.map (R.L.map (encK (·.m.id) fun p : PB => IV.ptr p.rb 0) ++ [(.int .i64 id, .ptr rc 0)])))
  have hfind : (R.L.find? fun p => p.m.is id) = none := by
    rw [List.find?_eq_none]; intro p hp; simp [PM.is, hn p hp]
  refine (add_c hB2 id (by rw [upd_ne _ _ hcn]; exact hc1) ht1).mono ?_
  intro e h' hA
  rw [addR, if_neg (by omega), if_neg (by rw [hfind]; simp)] at hA
  obtain ⟨rfl, pb, tag', hB3, hF3, _⟩ := hA
  simp -implicitDefEqProofs [go_sem]
  have hF3' : ∀ j o, H j = some o → (T j).1 ≠ k → j ≠ R.recb → h' j = some o ∧ tag' j = T j := fun j o hj ht hne => hF3 j o (by rw [upd_ne _ _ hne]; exact hj) ht
  refine ⟨_, Sub.refl _, rfl, pb, rc, tag', hR.of (fun t => t = (k + 1, 1, 0)) ?_ rfl rfl rfl rfl rfl rfl (.inl ⟨by simp, rfl⟩) (.inr ?_) (.inl ⟨by simp, rfl⟩) (.inl ⟨by simp, rfl⟩) (.inl ⟨by simp, rfl⟩) hB3 (fun s hs => .inl ⟨hs, by simp, by simp⟩), ?_⟩
  · intro j o hj h6 h7
    have h8 := ht2 j o hj
    have := hF3' j o (hs1 j o hj) (by rw [h8]; omega) (by rintro rfl; exact h7 hR.trec)
    rw [h8] at this; exact this
  · have := hF3 R.recb _ (upd_same _ _ _) (by rw [htr]; simp)
    refine ⟨?_, this.2.trans htr⟩
    rw [this.1]
    simp [RG.recE, encK, newP, Function.comp_def]
  · refine hF1.trans fun j o hj h6 h7 => hF3' j o hj h6 (by rintro rfl; rw [htr] at h7; exact h7 rfl)

def pk (p : Pn) : Pk := ⟨p.id, p.r.x, p.r.y, p.r.w, p.r.h⟩
theorem pk_rows (l : List Pn) : l.map Pn.row = (l.map pk).map Pk.row := by rw [List.map_map]; rfl
def showR21 (k : Nat) (tag : Nat → Nat × Nat × Nat) (h : Heap) (rb : Nat) (R : RG) (w : Wn) (e : IEnd) (h' : Heap) : Prop :=
  e = .ret (.tup []) ∧ ∃ tag' L', RegAt k tag' h' rb { R with L := L' } ∧ Frm2 k tag h tag' h' ∧ Stay R.L L' ∧ L'.map (·.m) = (showM (R.L.map (·.m)) (w.shown.map pk)).1
set_option maxRecDepth 20000 in
theorem show21_c {k tag h rb R} (hR : RegAt k tag h rb R) (id : Int) (w : Wn) (hw : (R.win.find? fun p => p.1 == id) = some (id, w)) (hs : w.tree.size < 100000000) (hev : evsLe 100000000 (R.L.map (·.m))) :
    ICall Tryz.prog 57 [.ptr rb 0, .int .i64 id] h (showR21 k tag h rb R w) := by
  refine icall_of_iwp (fun d => if d = 14 then 10 else if d = 15 then 5 else 0) Tryz.func57 rfl (by kernel_rfl) (Nat.le_of_ble_eq_true rfl) ?_
  rw [Tryz.results57]
  have h1 := hR.hr
  have h2 := hR.hwin
  rw [RG.winE_k] at h2
  have hq := ifind_k (·.1) (fun p : Int × Wn => IV.agg p.2.row) id R.win
  rw [hw] at hq
  simp -implicitDefEqProofs [go_sem, h1, h2, hq, RG.cells]
  refine iwp_drawn_call mixed [0, 1, 2, 3, 4, 5, 6, 7, 8, 9, 10, 11] (by kernel_rfl) (fun v st d x h => by cases d <;> exact h) ?_
  simp -implicitDefEqProofs [go_sem, h1, h2, hq, RG.cells]
  refine (shown_c w h hs).mono ?_
  rintro e h' ⟨rfl, rfl⟩
  refine ⟨Sub.refl _, ?_⟩
  simp -implicitDefEqProofs [go_sem]
  have hlen : w.shown.length ≤ w.tree.size := by
    have := panes_size w.tree
    have := w.tree.one_le_size
    rw [Wn.shown]; split
    · split
      · simp; omega
      · exact panes_size w.tree
    · simp
  rw [pk_rows]
  refine (show_c hR.hB (w.shown.map pk) 100000000 hev (by simp; omega)).mono ?_
  rintro e h' ⟨tag', L', rfl, hB, hF, hS, hL⟩
  simp -implicitDefEqProofs [go_sem]
  exact ⟨_, Sub.refl _, rfl, tag', L', hR.board hB hF (stay_recE hS (by rw [hL, showM_ids])), hF.two, hS, hL⟩
end Go.Proofs

set_option linter.unusedVariables false
set_option linter.unusedSimpArgs false
set_option pp.deepTerms false
set_option pp.maxSteps 400
namespace Go.Proofs
open Go.Idl

theorem dR_heap {P : Program} {hint : Nat → Nat} {ops : Array Oper} {st : St} {K : St → Prop} {Q : IExit → St → Prop} (H : Heap) (h : st.h = H) (k : dR P hint ops (st.putH H) K Q) : dR P hint ops st K Q := by
  subst h; exact k
/-! another window -/
theorem RegAt.setS {k tag h rb R} (hR : RegAt k tag h rb R) {i : Nat} {s s' : SB} (hi : R.ses[i]? = some s) (hd : ∀ (j : Nat) (s2 : SB), R.ses[j]? = some s2 → j ≠ i → s2.id.toNat ≠ s.id.toNat) (e1 : s'.id = s.id) (e2 : s'.sb = s.sb) {h' : Heap} (his : SB.is h' s')
    (hwb : (s'.wb = s.wb ∧ s.wins ≠ []) ∨ h s'.wb = none) (hfr : ∀ j, j ≠ s.sb → j ≠ s'.wb → h' j = h j) :
    RegAt k (upd tag s'.wb (k + 1, 6, s.id.toNat)) h' rb { R with ses := R.ses.set i s' } ∧ Frm2 k tag h (upd tag s'.wb (k + 1, 6, s.id.toNat)) h' := by
  obtain ⟨q1, q2, q3⟩ := hR.hs s (List.mem_of_getElem? hi)
  have hne : ∀ j o, h j = some o → tag j ≠ (k + 1, 6, s.id.toNat) → j ≠ s'.wb := by
    rintro j o hj ht rfl
    rcases hwb with ⟨g1, g2⟩ | g
    · rw [g1] at ht; exact ht (q3 g2)
    · rw [g] at hj; cases hj
  have hne2 : ∀ j, tag j ≠ (k + 1, 5, s.id.toNat) → j ≠ s.sb := by rintro j ht rfl; exact ht q2
  have hkeep : ∀ j o, h j = some o → tag j ≠ (k + 1, 5, s.id.toNat) → tag j ≠ (k + 1, 6, s.id.toNat) → h' j = some o ∧ upd tag s'.wb (k + 1, 6, s.id.toNat) j = tag j := fun j o hj h5 h6 => by
    have n := hne j o hj h6
    exact ⟨by rw [hfr j (hne2 j h5) n]; exact hj, upd_ne _ _ n⟩
  obtain ⟨os, hos⟩ := SB.is_sb q1
  have nsb : s.sb ≠ s'.wb := hne _ _ hos (by rw [q2]; simp)
  have hse : RG.sesE { R with ses := R.ses.set i s' } = R.sesE := by
    show (R.ses.set i s').map _ = R.ses.map _
    apply List.ext_getElem?
    intro j
    rw [List.getElem?_map, List.getElem?_map, List.getElem?_set]
    split
    · rename_i e; subst e
      rw [if_pos (List.getElem?_eq_some_iff.1 hi).1, hi, Option.map_some, Option.map_some, e1, e2]
    · rfl
  refine ⟨hR.of (fun t => t = (k + 1, 5, s.id.toNat) ∨ t = (k + 1, 6, s.id.toNat)) (fun j o hj h1 h2 => hkeep j o hj (fun e => h2 (.inl e)) (fun e => h2 (.inr e))) rfl rfl rfl rfl rfl rfl
    (.inl ⟨by simp, rfl⟩) (.inl ⟨by simp, rfl⟩) (.inl ⟨by simp, hse⟩) (.inl ⟨by simp, rfl⟩) (.inl ⟨by simp, rfl⟩)
    (hR.hB.frm (k' := k + 1) (fun j o hj ht => hkeep j o hj (fun e => by rw [e] at ht; exact ht rfl) (fun e => by rw [e] at ht; exact ht rfl)) (by omega)) ?_, fun j o hj _ ht => hkeep j o hj (fun e => by rw [e] at ht; exact ht rfl) (fun e => by rw [e] at ht; exact ht rfl)⟩
  intro s2 hs2
  obtain ⟨j, hj⟩ := List.getElem?_of_mem hs2
  rw [List.getElem?_set] at hj
  split at hj
  · rename_i e; subst e
    rw [if_pos (List.getElem?_eq_some_iff.1 hi).1] at hj
    cases hj
    exact .inr ⟨his, by rw [e1, e2, upd_ne _ _ nsb]; exact q2, fun _ => by rw [e1, upd_same]⟩
  · rename_i e
    have := hd j s2 hj (Ne.symm e)
    exact .inl ⟨List.mem_of_getElem? hj, by simp [this], by simp [this]⟩
theorem wNew_may {w hh id : Int} (hr : Rct.may ⟨0, 0, w, hh⟩ = true) (h0 : 0 ≤ id ∧ id ≤ 2147483647) : (wNew w hh id).may = true := by
  have ht : (wNew w hh id).tree.tiles = true := (tiles_iff _).2 ⟨by simp [wNew, Cel.size, Cel.sizes], fine_leaf hr h0.1 h0.2, by rw [ids_eq]; simp [wNew, Cel.kind, Cel.kids, idsL, Cel.alls]⟩
  have hi : (wNew w hh id).tree.ids = [id] := by rw [ids_eq]; simp [wNew, Cel.kind, Cel.kids, Cel.id, idsL, Cel.alls]
  simp only [Wn.may, ht, hi]
  simp [wNew, Cel.r]
def opR (R : RG) (i : Nat) (s : SB) (w hh : Int) (wb cap : Nat) (L' : List PB) : RG :=
  { R with nw := R.nw + 1, np := R.np + 1, win := R.win ++ [(R.nw, wNew w hh R.np)], own := R.own ++ [(R.nw, s.id)], ses := R.ses.set i { s with wins := s.wins ++ [R.nw], cur := R.nw, wb := wb, cap := cap }, L := L' }
def openR (k : Nat) (tag : Nat → Nat × Nat × Nat) (h : Heap) (rb : Nat) (R : RG) (i : Nat) (s : SB) (w hh : Int) (e : IEnd) (h' : Heap) : Prop :=
  e = .ret (.agg (plR s.id R.nw R.np)) ∧ ∃ tag' wb cap pb rc L', RegAt k tag' h' rb (opR R i s w hh wb cap L') ∧ Frm2 k tag h tag' h' ∧ Stay (R.L ++ [newP R.np pb rc]) L' ∧
    L'.map (·.m) = (showM ((R.L ++ [newP R.np pb rc]).map (·.m)) [⟨R.np, 0, 0, w, hh⟩]).1
structure OpenOk (R : RG) (i : Nat) (s : SB) : Prop where
  mkn : R.mkr = .nilfn
  hi : R.ses[i]? = some s
  hf : (R.ses.find? fun a => a.id == s.id) = some s
  hd : ∀ (j : Nat) (s2 : SB), R.ses[j]? = some s2 → j ≠ i → s2.id.toNat ≠ s.id.toNat
  nw : 0 ≤ R.nw ∧ R.nw ≤ 2147483646
  np : 0 ≤ R.np ∧ R.np ≤ 2147483646
  fw : ∀ a ∈ R.win, a.1 ≠ R.nw
  fo : ∀ a ∈ R.own, a.1 ≠ R.nw
  fp : ∀ p ∈ R.L, p.m.id ≠ R.np
  ev : evsLe 99999999 (R.L.map (·.m))
  sl : s.wins.length < 100000000
set_option maxRecDepth 20000 in
set_option maxHeartbeats 4000000 in
theorem open21_c {k tag h rb R} (hR : RegAt k tag h rb R) {i : Nat} {s : SB} (o : OpenOk R i s) {w hh : Int} (hr : Rct.may ⟨0, 0, w, hh⟩ = true) :
    ICall Tryz.prog 172 [.ptr rb 0, .int .i64 s.id, .int .i64 w, .int .i64 hh] h (openR k tag h rb R i s w hh) := by
  refine icall_of_iwp (fun d => if d = 76 then 2 else if d = 78 then 9 else 0) Tryz.func172 rfl (by kernel_rfl) (Nat.le_of_ble_eq_true rfl) ?_
  rw [Tryz.results172]
  have h1 := hR.hr
  simp -implicitDefEqProofs [go_sem]
  refine iwp_drawn_alloc mixed 12 [0, 1, 2, 3, 4, 5, 6, 7, 8, 9, 10, 11, 13] (by kernel_rfl) ?_
  have ww := wrap_in (n := R.nw + 1) (by have := o.nw; omega)
  have wp := wrap_in (n := R.np + 1) (by have := o.np; omega)
  have hR1 := hR.root R.ns (R.nw + 1) (R.np + 1)
  have hF1 : Frm2 k tag h tag _ := Frm2.own (by rw [hR.tr]) (some (.cells (RG.cells { R with ns := R.ns, nw := R.nw + 1, np := R.np + 1 })))
  obtain ⟨R1, e1⟩ : ∃ R1 : RG, { R with ns := R.ns, nw := R.nw + 1, np := R.np + 1 } = R1 := ⟨_, rfl⟩
  have c1 : R1.cells = [.int .i64 R.ns, .int .i64 (R.nw + 1), .int .i64 (R.np + 1), .ptr R.bb 0, R.mkr, .mapv R.recb, .mapv R.sesb, .mapv R.winb, .mapv R.ownb] := by rw [← e1]; rfl
  rw [e1, c1] at hR1 hF1
  obtain ⟨H1, he1⟩ : ∃ H1, upd h rb (some (IObj.cells [.int .i64 R.ns, .int .i64 (R.nw + 1), .int .i64 (R.np + 1), .ptr R.bb 0, R.mkr, .mapv R.recb, .mapv R.sesb, .mapv R.winb, .mapv R.ownb])) = H1 := ⟨_, rfl⟩
  rw [he1] at hR1 hF1
  simp -implicitDefEqProofs [go_sem, h1, RG.cells, ww, wp]
  refine dR_heap H1 (by simp -implicitDefEqProofs [go_sem, h1, RG.cells, ww, wp]; exact he1) ?_
  clear he1
  have hn := newG_c w hh R.np H1
  rw [newV, if_pos (wNew_may hr (by have := o.np; omega))] at hn
  have g1 := hR1.hr
  have g2 := hR1.hwin
  rw [c1] at g1
  rw [RG.winE_k, ← e1] at g2
  have hiw := iput_k (·.1) (fun p : Int × Wn => IV.agg p.2.row) R.nw (.agg (wNew w hh R.np).row) R.win o.fw
  refine iwp_drawn_of mixed [0, 1, 2, 3, 4, 5, 6, 7, 8, 9, 10, 11, 12, 13, 14] (by kernel_rfl) ?_
  simp -implicitDefEqProofs [go_sem, g1, g2, hiw]
  refine ⟨_, hn, ?_⟩
  simp -implicitDefEqProofs [go_sem, g1, g2, hiw]
  have b1 : R1.winb = R.winb := by rw [← e1]
  have hR2 := hR1.setWin (R.win ++ [(R.nw, wNew w hh R.np)])
  have hF2 := hF1.trans (Frm2.own (b := R1.winb) (by rw [hR1.twin]) (some (.map (RG.winE { R1 with win := R.win ++ [(R.nw, wNew w hh R.np)] }))))
  obtain ⟨R2, e2⟩ : ∃ R2 : RG, { R1 with win := R.win ++ [(R.nw, wNew w hh R.np)] } = R2 := ⟨_, rfl⟩
  have w2 : R2.winE = R.win.map (encK (·.1) fun p => .agg p.2.row) ++ [(.int .i64 R.nw, .agg (wNew w hh R.np).row)] := by rw [← e2]; simp [RG.winE, encK]
  rw [e2, w2, b1] at hR2 hF2
  obtain ⟨H2, he2⟩ : ∃ H2, upd H1 R.winb (some (IObj.map (R.win.map (encK (·.1) fun p => .agg p.2.row) ++ [(.int .i64 R.nw, .agg (wNew w hh R.np).row)]))) = H2 := ⟨_, rfl⟩
  rw [he2] at hR2 hF2
  refine dR_heap H2 (by simp -implicitDefEqProofs [go_sem]; exact he2) ?_
  clear he2
  have c2 : R2.cells = R1.cells := by rw [← e2]; rfl
  have g3 := hR2.hr
  have g4 := hR2.hown
  rw [c2, c1] at g3
  rw [RG.ownE_k, ← e2, ← e1] at g4
  have hio := iput_k (·.1) (fun p : Int × Int => IV.int .i64 p.2) R.nw (.int .i64 s.id) R.own o.fo
  have g5 := hR2.hses
  rw [RG.sesE_k, ← e2, ← e1] at g5
  have hq := ifind_k (·.id) (fun a : SB => IV.ptr a.sb 0) s.id R.ses
  rw [o.hf] at hq
  have n1 : rb ≠ R.ownb := by rintro e; have := hR.town; rw [← e, hR.tr] at this; simp at this
  have n2 : R.sesb ≠ R.ownb := by rintro e; have := hR.town; rw [← e, hR.tses] at this; simp at this
  refine iwp_drawn_of mixed [0, 1, 2, 3, 4, 5, 6, 7] (by kernel_rfl) ?_
  simp -implicitDefEqProofs [go_sem, g3, g4, g5, hio, hq, n1, n2]
  have b2 : R2.ownb = R.ownb := by rw [← e2, ← e1]
  have hR3 := hR2.setOwn (R.own ++ [(R.nw, s.id)])
  have hF3 := hF2.trans (Frm2.own (b := R2.ownb) (by rw [hR2.town]) (some (.map (RG.ownE { R2 with own := R.own ++ [(R.nw, s.id)] }))))
  obtain ⟨R3, e3⟩ : ∃ R3 : RG, { R2 with own := R.own ++ [(R.nw, s.id)] } = R3 := ⟨_, rfl⟩
  have w3 : R3.ownE = R.own.map (encK (·.1) fun p => .int .i64 p.2) ++ [(.int .i64 R.nw, .int .i64 s.id)] := by rw [← e3]; simp [RG.ownE, encK]
  rw [e3, w3, b2] at hR3 hF3
  obtain ⟨H3, he3⟩ : ∃ H3, upd H2 R.ownb (some (IObj.map (R.own.map (encK (·.1) fun p => .int .i64 p.2) ++ [(.int .i64 R.nw, .int .i64 s.id)]))) = H3 := ⟨_, rfl⟩
  rw [he3] at hR3 hF3
  refine dR_heap H3 (by simp -implicitDefEqProofs [go_sem]; exact he3) ?_
  clear he3 g1 g2 g3 g4 g5
  have r3 : R3.ses = R.ses := by rw [← e3, ← e2, ← e1]
  obtain ⟨q1, q2, q3⟩ := hR3.hs s (by rw [r3]; exact List.mem_of_getElem? o.hi)
  have c3 : R3.cells = R1.cells := by rw [← e3, ← e2]; rfl
  have g3 := hR3.hr
  rw [c3, c1] at g3
  have hroom : roomy Tryz.prog 3 (s.wins.length + 1) := by have := o.sl; simp only [roomy, byT_3]; omega
  have hroom1 : roomy Tryz.prog 3 1 := by simp only [roomy, byT_3]; omega
  -- behind the session
  have fin : ∀ (H4 : Heap) (wb cap : Nat), SB.is H4 { s with wins := s.wins ++ [R.nw], cur := R.nw, wb := wb, cap := cap } → ((wb = s.wb ∧ s.wins ≠ []) ∨ H3 wb = none) → (∀ j, j ≠ s.sb → j ≠ wb → H4 j = H3 j) →
      ∃ tag4, RegAt k tag4 H4 rb { opR R i s w hh wb cap R.L with L := R.L } ∧ Frm2 k tag h tag4 H4 := by
    intro H4 wb cap j1 j2 j3
    obtain ⟨m1, m2⟩ := hR3.setS (i := i) (s := s) (s' := { s with wins := s.wins ++ [R.nw], cur := R.nw, wb := wb, cap := cap }) (by rw [r3]; exact o.hi) (by rw [r3]; exact o.hd) rfl rfl j1 j2 j3
    refine ⟨_, ?_, hF3.trans m2⟩
    have e4 : { R3 with ses := R3.ses.set i { s with wins := s.wins ++ [R.nw], cur := R.nw, wb := wb, cap := cap } } = { opR R i s w hh wb cap R.L with L := R.L } := by rw [← e3, ← e2, ← e1]; rfl
    rw [← e4]; exact m1
  have hfw : ((R.win ++ [(R.nw, wNew w hh R.np)]).find? fun p => p.1 == R.nw) = some (R.nw, wNew w hh R.np) := by
    rw [List.find?_append, List.find?_eq_none.2 (fun a ha => by simpa using o.fw a ha)]; simp
  have hsm : (wNew w hh R.np).tree.size < 100000000 := wNew_small _ _ _
  have hsh : (wNew w hh R.np).shown.map pk = [⟨R.np, 0, 0, w, hh⟩] := by
    rw [Wn.shown, if_pos (wNew_may hr (by have := o.np; omega))]; rfl
  rcases q1 with ⟨k0, k1⟩ | ⟨k0, k1, k2, k3⟩
  case' inr =>
    refine iwp_drawn_of mixed [0, 1, 2, 3, 4, 5, 6, 7, 8, 9, 10, 11] (by kernel_rfl) ?_
    have nsb : s.sb ≠ s.wb := by rintro e; rw [e, k2] at k1; cases k1
    simp -implicitDefEqProofs [go_sem, k1, k2, hroom, nsb]
    refine ⟨fun hfit => ?fit, fun hbig wb cap hwb hcap => ?big⟩
    case' big =>
      have nsb2 : s.sb ≠ wb := by rintro e; rw [← e, k1] at hwb; cases hwb
      simp -implicitDefEqProofs [go_sem, k1, k2, hroom, nsb2]
      obtain ⟨H4, he4⟩ : ∃ H4, upd (upd H3 wb (some (IObj.arr 3 1 (s.wins.map intRow ++ [[.int .i64 R.nw]]) cap))) s.sb (some (IObj.cells [.int .i64 s.id, .str s.name, .sl 1 wb 0 (s.wins.length + 1) cap, .int .i64 R.nw])) = H4 := ⟨_, rfl⟩
      rw [he4]
      obtain ⟨tag4, hR4, hF4⟩ := fin H4 wb cap (.inr ⟨by simp, by rw [← he4]; simp [upd], by rw [← he4]; simp [upd, Ne.symm nsb2, intRow], by simpa using hcap⟩) (.inr hwb) (fun j j1 j2 => by rw [← he4, upd_ne _ _ j1, upd_ne _ _ j2])
    case' fit =>
      obtain ⟨H4, he4⟩ : ∃ H4, upd (upd H3 s.wb (some (IObj.arr 3 1 (s.wins.map intRow ++ [[.int .i64 R.nw]]) s.cap))) s.sb (some (IObj.cells [.int .i64 s.id, .str s.name, .sl 1 s.wb 0 (s.wins.length + 1) s.cap, .int .i64 R.nw])) = H4 := ⟨_, rfl⟩
      rw [he4]
      obtain ⟨tag4, hR4, hF4⟩ := fin H4 s.wb s.cap (.inr ⟨by simp, by rw [← he4]; simp [upd], by rw [← he4]; simp [upd, Ne.symm nsb, intRow], by simpa using hfit⟩) (.inl ⟨rfl, k0⟩) (fun j j1 j2 => by rw [← he4, upd_ne _ _ j1, upd_ne _ _ j2])
  case' inl =>
    refine iwp_drawn_of mixed [0, 1, 2, 3, 4, 5, 6, 7, 8, 9, 10, 11] (by kernel_rfl) ?_
    simp -implicitDefEqProofs [go_sem, k1, hroom1]
    intro wb cap hwb hcap
    have nsb : s.sb ≠ wb := by rintro e; rw [← e, k1] at hwb; cases hwb
    simp -implicitDefEqProofs [go_sem, k1, hroom1, nsb]
    obtain ⟨H4, he4⟩ : ∃ H4, upd (upd H3 wb (some (IObj.arr 3 1 [[.int .i64 R.nw]] cap))) s.sb (some (IObj.cells [.int .i64 s.id, .str s.name, .sl 1 wb 0 1 cap, .int .i64 R.nw])) = H4 := ⟨_, rfl⟩
    rw [he4]
    obtain ⟨tag4, hR4, hF4⟩ := fin H4 wb cap (.inr ⟨by simp, by rw [← he4]; simp [upd, k0], by rw [← he4]; simp [upd, Ne.symm nsb, k0, intRow], by simpa [k0] using hcap⟩) (.inr hwb) (fun j j1 j2 => by rw [← he4, upd_ne _ _ j1, upd_ne _ _ j2])
  all_goals (
    refine (add21_c hR4 o.mkn R.np (by have := o.np; omega) o.fp).mono ?_
    rintro e h' ⟨rfl, pb, rc, tag5, hR5, hF5⟩
    simp -implicitDefEqProofs [go_sem]
    refine (show21_c hR5 R.nw (wNew w hh R.np) hfw hsm (fun p hp => ?ev)).mono ?_
    case ev =>
      obtain ⟨q, hq1, rfl⟩ := List.mem_map.1 hp
      rcases List.mem_append.1 hq1 with hq1 | hq1
      · have := o.ev _ (List.mem_map_of_mem hq1); omega
      · simp at hq1; rw [hq1]; simp [newP]
    rintro e h' ⟨rfl, tag6, L', hR6, hF6, hS, hL⟩
    simp -implicitDefEqProofs [go_sem]
    rw [hsh] at hL
    exact ⟨_, Sub.refl _, rfl, tag6, _, _, pb, rc, L', hR6, (hF4.trans hF5).trans hF6, hS, hL⟩)
end Go.Proofs

set_option linter.unusedVariables false
set_option linter.unusedSimpArgs false
set_option pp.deepTerms false
set_option pp.maxSteps 400
namespace Go.Proofs
open Go.Idl Go.Sort

/-! the sessions, as they are told -/
def SB.row (s : SB) : List IV := [.int .i64 s.id, .str s.name, .list .plain (s.wins.map intRow), .int .i64 s.cur]
theorem sb_uni (l : List SB) : uni 4 (l.map SB.row) = true := by simp [uni, SB.row]
attribute [go_sem high] sb_uni
theorem cloneI_c (h : Heap) (b cap : Nat) (l : List Int) (hh : h b = some (.arr 3 1 (l.map intRow) cap)) (hl : l.length < 1000000000) :
    ICall Tryz.prog 218 [.sl 1 b 0 l.length cap] h (retP (.list .plain (l.map intRow)) h) := by
  refine icall_of_iwp (fun d => if d = 7 then 7 else 0) Tryz.func218 rfl (by kernel_rfl) (Nat.le_of_ble_eq_true rfl) ?_
  rw [Tryz.results218]
  have hroom : roomy Tryz.prog 3 l.length := by simp only [roomy, byT_3]; omega
  simp -implicitDefEqProofs [go_sem, hh, hroom]
  refine ⟨fun h0 => ?_, fun h0 => ?_⟩
  · subst h0; exact ⟨_, Sub.refl _, rfl, rfl⟩
  · exact ⟨_, Sub.refl _, by rw [List.take_of_length_le (by simp)], rfl⟩
theorem cloneI0_c (h : Heap) : ICall Tryz.prog 218 [.list .plain []] h (retP (.list .plain []) h) := by
  refine icall_of_iwp (fun d => if d = 7 then 2 else 0) Tryz.func218 rfl (by kernel_rfl) (Nat.le_of_ble_eq_true rfl) ?_
  rw [Tryz.results218]
  have hroom : roomy Tryz.prog 3 0 := by simp [roomy]
  simp -implicitDefEqProofs [go_sem, hroom]
  exact ⟨_, Sub.refl _, rfl, rfl⟩
set_option maxRecDepth 20000 in
theorem clone21_c {h : Heap} {s : SB} (hs : SB.is h s) (hl : s.wins.length < 1000000000) : ICall Tryz.prog 160 [.ptr s.sb 0] h (retP (.agg s.row) h) := by
  refine icall_of_iwp (fun _ => 0) Tryz.func160 rfl (by kernel_rfl) (Nat.le_of_ble_eq_true rfl) ?_
  rw [Tryz.results160]
  rcases hs with ⟨k0, k1⟩ | ⟨k0, k1, k2, k3⟩
  · simp -implicitDefEqProofs [go_sem, k1]
    refine (cloneI0_c h).mono ?_
    rintro e h' ⟨rfl, rfl⟩
    simp -implicitDefEqProofs [go_sem, k1]
    exact ⟨_, Sub.refl _, by rw [SB.row, k0]; rfl, rfl⟩
  · simp -implicitDefEqProofs [go_sem, k1]
    refine (cloneI_c h s.wb s.cap s.wins k2 hl).mono ?_
    rintro e h' ⟨rfl, rfl⟩
    simp -implicitDefEqProofs [go_sem, k1]
    exact ⟨_, Sub.refl _, rfl, rfl⟩
def sesV (R : RG) (id : Int) : IV := match R.ses.find? fun a => a.id == id with | some s => .tup [.agg s.row, .bool true] | none => .tup [.agg [.int .i64 0, .str ⟨#[]⟩, .list .plain [], .int .i64 0], .bool false]
set_option maxRecDepth 20000 in
theorem session21_c {k tag h rb R} (hR : RegAt k tag h rb R) (id : Int) (hl : ∀ s ∈ R.ses, s.wins.length < 1000000000) : ICall Tryz.prog 99 [.ptr rb 0, .int .i64 id] h (retP (sesV R id) h) := by
  refine icall_of_iwp (fun _ => 0) Tryz.func99 rfl (by kernel_rfl) (Nat.le_of_ble_eq_true rfl) ?_
  rw [Tryz.results99]
  have h1 := hR.hr
  have h2 := hR.hses
  rw [RG.sesE_k] at h2
  have hq := ifind_k (·.id) (fun a : SB => IV.ptr a.sb 0) id R.ses
  unfold sesV
  cases hf : R.ses.find? fun a => a.id == id with
  | none =>
    rw [hf] at hq
    simp -implicitDefEqProofs [go_sem, h1, h2, hq, RG.cells]
    exact ⟨_, Sub.refl _, rfl, rfl⟩
  | some s =>
    rw [hf] at hq
    have hm := List.mem_of_find?_eq_some hf
    simp -implicitDefEqProofs [go_sem, h1, h2, hq, RG.cells]
    refine (clone21_c (hR.hs s hm).1 (hl s hm)).mono ?_
    rintro e h' ⟨rfl, rfl⟩
    simp -implicitDefEqProofs [go_sem, SB.row]
    exact ⟨_, Sub.refl _, rfl, rfl⟩
/-- the keys, sorted, as a list -/
theorem sorted_z {it : List IV} {H : Heap} {ks : List Int} (hc : ICall Tryz.prog 25 it H (sortedR (fun ss => ss.Perm ks) H)) : ICall Tryz.prog 25 it H (retP (.list .plain ((sortL ks).map intRow)) H) := by
  refine hc.fz ?_
  rintro e h' ⟨ss, hss, ⟨rfl, rfl, rfl⟩ | ⟨hne, b, cap, hb, hle, rfl, rfl⟩⟩
  · have : ks = [] := List.nil_perm.1 hss
    rw [this]
    exact .inl ⟨by simp [sortL], rfl⟩
  · refine .inr ⟨_, b, 3, 1, rowsD (sortL ss).toArray, cap, rfl, SH_at _ _ _ _, ?_, ?_⟩
    · have hlen : (rowsD (sortL ss).toArray).length = ss.length := by simp [rowsD, sortL_len]
      simp only [fz3, fz2, fz1, hlen]
      rw [if_pos ⟨trivial, trivial, by omega⟩, List.drop_zero, List.take_of_length_le (by omega), ← sortL_congr hss, rowsD]
    · funext j
      simp only [dropH, SH, upd]
      split
      · rename_i e; rw [e, hb]
      · rfl
theorem find_key {α : Type} {f : α → Int} : ∀ {l : List α} {i : Nat} {a : α}, (l.map f).Nodup → l[i]? = some a → (l.find? fun b => f b == f a) = some a
  | [], i, a, _, h => by simp at h
  | b :: l, 0, a, _, h => by cases h; simp
  | b :: l, i + 1, a, hn, h => by
    simp only [List.getElem?_cons_succ] at h
    simp only [List.map_cons, List.nodup_cons] at hn
    have h1 : (f b == f a) = false := by
      have : f b ≠ f a := fun e => hn.1 (by rw [e]; exact List.mem_map_of_mem (List.mem_of_getElem? h))
      simpa using this
    rw [List.find?_cons, h1]
    exact find_key hn.2 h
set_option maxRecDepth 20000 in
theorem sessions21'_c {k tag h rb R} (hR : RegAt k tag h rb R) (hin : ∀ s ∈ R.ses, inR s.id) (has : (R.ses.map (·.id)).Pairwise (· < ·)) (hn : R.ses.length < 100000000) (hl : ∀ s ∈ R.ses, s.wins.length < 1000000000) :
    ICall Tryz.prog 173 [.ptr rb 0] h (retP (.list .plain (R.ses.map SB.row)) h) := by
  refine icall_of_iwp (fun _ => 0) Tryz.func173 rfl (by kernel_rfl) (Nat.le_of_ble_eq_true rfl) ?_
  rw [Tryz.results173]
  have h1 := hR.hr
  simp -implicitDefEqProofs [go_sem, h1, RG.cells]
  refine (keys_rhoS_c R.sesb h).mono ?_
  rintro e h' ⟨bx, hbx, rfl, rfl⟩
  simp -implicitDefEqProofs [go_sem]
  refine (sorted_z (it_rhoS hR.hses hbx (sesE_keys R) (by simpa using hin) (by simp; omega))).mono ?_
  rintro e h' ⟨rfl, he⟩
  rw [sortL_asc has]
  have hg := fun j o (hj : h j = some o) => (show h' j = some o by rw [he, upd_ne _ _ (by rintro rfl; rw [hbx] at hj; cases hj)]; exact hj)
  simp -implicitDefEqProofs [go_sem]
  refine iwp_loopF (rng [3,5] 15 30) nom (fun s => ∃ i, i ≤ R.ses.length ∧ s.t 15 = .int .i64 i ∧ Idl.Own [28] s.x 194 (s.t 3) ((R.ses.take i).map SB.row) ∧ s.h = h') (fun s => R.ses.length - tn (s.t 15)) ?_ ?_
  · exact ⟨0, Nat.zero_le _, by simp -implicitDefEqProofs [go_sem], by simp -implicitDefEqProofs [go_sem, Own.tight], by simp -implicitDefEqProofs [go_sem]⟩
  rintro J s hJ hf ⟨i, hi, h15, ho, hh⟩
  obtain ⟨tk, h3⟩ := ho.list
  simp -implicitDefEqProofs [go_sem, h15, h3, hh, hf.t, hf.m]
  refine cK_dec (fun hlt => ?_) (fun hge => ?_)
  · have hlt' : i < R.ses.length := by omega
    have hgi : R.ses[i]? = some R.ses[i] := List.getElem?_eq_getElem hlt'
    have hw := wrap_succ (i := i) (by omega)
    have hfd : (R.ses.find? fun a => a.id == R.ses[i].id) = some R.ses[i] := by
      have hn : (R.ses.map (·.id)).Nodup := has.imp fun h => by omega
      exact find_key hn hgi
    have hq := ifind_k (·.id) (fun a : SB => IV.ptr a.sb 0) R.ses[i].id R.ses
    rw [hfd] at hq
    have h2 := hg _ _ hR.hses
    have h1' := hg _ _ h1
    rw [RG.sesE_k] at h2
    have htk : (R.ses.take (i + 1)).map SB.row = (R.ses.take i).map SB.row ++ [R.ses[i].row] := by rw [List.take_add_one, hgi, List.map_append]; rfl
    simp -implicitDefEqProofs [go_sem, h15, h3, hh, hf.t, hf.m, hlt, hlt', hgi, h1', h2, hq, intRow, RG.cells]
    have hm := List.getElem_mem hlt'
    have his := (hR.hs _ hm).1
    refine (clone21_c (h := h') (SB.is_keep his (by obtain ⟨o, hob⟩ := SB.is_sb his; rw [hg _ _ hob, hob]) (fun h0 => by obtain ⟨o, hob⟩ := SB.is_wb his h0; rw [hg _ _ hob, hob])) (hl _ hm)).mono ?_
    rintro e h2' ⟨rfl, he2⟩
    rw [he2]
    simp -implicitDefEqProofs [go_sem, h15, h3, hh, hf.t, hf.m, SB.row]
    refine aK_own (e := 194) (z := 4) (S := [28]) (rows := (R.ses.take i).map SB.row) (ys := [R.ses[i].row]) (by simpa -implicitDefEqProofs [go_sem, h3] using ho) (by simp) elT_293 elZ_194 (by simp only [roomy, byT_194]; simp; omega) (sb_uni _) (by simp [uni, SB.row]) ?_
    intro r2 x2 ho2 _
    simp -implicitDefEqProofs [go_sem, h15, h3, hh, hf.t, hf.m, hf, hw]
    exact hJ _ ⟨i + 1, by omega, by simp -implicitDefEqProofs [go_sem, hw], by rw [htk]; simpa -implicitDefEqProofs [go_sem] using ho2, by simp -implicitDefEqProofs [go_sem, hh]⟩ (by simp [go_sem, h15, hw]; omega)
  · obtain rfl : i = R.ses.length := by omega
    rw [List.take_length] at ho h3
    simp -implicitDefEqProofs [go_sem, h15, h3, hh, hf.t, hf.m]
    exact ⟨h, by rw [he]; exact (Sub.refl h).upd hbx _, rfl, rfl⟩
end Go.Proofs

set_option linter.unusedVariables false
set_option linter.unusedSimpArgs false
set_option pp.deepTerms false
set_option pp.maxSteps 400
namespace Go.Proofs
open Go.Idl

/-! a session's name; another session -/
set_option maxRecDepth 20000 in
theorem indexFunc_ses {l : List SB} {f : FuncId} {first cap : List IV} {Inv Hit : Nat → Heap → Prop} (hl : l.length < 100000000000)
    (hstep : ∀ i (hi : i < l.length) h, Inv i h → ICall Tryz.prog f (first ++ [.agg l[i].row] ++ cap) h fun e h' => (e = .ret (.bool false) ∧ Inv (i + 1) h') ∨ (e = .ret (.bool true) ∧ Hit i h')) (h : Heap) (h0 : Inv 0 h) :
    ICall Tryz.prog 174 [.list .plain (l.map SB.row), .fn (.func f) first cap] h (idxI Inv Hit l.length) := by
  refine icall_of_iwp (fun _ => 0) Tryz.func174 rfl (by kernel_rfl) (Nat.le_of_ble_eq_true rfl) ?_
  rw [Tryz.results174]
  simp -implicitDefEqProofs [go_sem]
  refine iwp_loopF (rng [4,5] 8 18) nom (fun s => ∃ i, i ≤ l.length ∧ s.t 8 = .int .i64 i ∧ Inv i s.h) (fun s => l.length - tn (s.t 8)) ?_ ?_
  · exact ⟨0, Nat.zero_le _, by simp -implicitDefEqProofs [go_sem], by simpa -implicitDefEqProofs [go_sem] using h0⟩
  rintro J s hJ hf ⟨i, hi, h8, hinv⟩
  simp -implicitDefEqProofs [go_sem, h8, hf.t, hf.m]
  refine cK_dec (fun hlt => ?_) (fun hge => ?_)
  · have hg : l[i]? = some l[i] := List.getElem?_eq_getElem (by omega)
    have hw := wrap_succ (i := i) (by omega)
    simp -implicitDefEqProofs [go_sem, h8, hf.t, hf.m, hlt, hg, SB.row]
    have hs := hstep i (by omega) _ hinv
    simp only [List.append_assoc, List.singleton_append, List.cons_append, List.nil_append, SB.row] at hs
    refine hs.mono ?_
    rintro e h' (⟨rfl, hi'⟩ | ⟨rfl, hi'⟩)
    · simp -implicitDefEqProofs [go_sem, h8, hf.t, hf.m, hf, hlt, hg, hw]
      exact hJ _ ⟨i + 1, by omega, by simp -implicitDefEqProofs [go_sem, hw], by simpa -implicitDefEqProofs [go_sem] using hi'⟩ (by simp [go_sem, h8, hw]; omega)
    · simp -implicitDefEqProofs [go_sem, h8, hf.t, hf.m, hf, hlt, hg, hw]
      exact ⟨h', Sub.refl _, .inr ⟨i, by omega, rfl, hi'⟩⟩
  · simp -implicitDefEqProofs [go_sem, h8, hf.t, hf.m]
    obtain rfl : i = l.length := by omega
    exact ⟨s.h, Sub.refl _, .inl ⟨rfl, hinv⟩⟩
theorem named1_c (s : SB) (nm : ByteArray) (qb : Nat) (h : Heap) (hq : h qb = some (.cells [.str nm])) : ICall Tryz.prog 175 [.agg s.row, .ptr qb 0] h (retP (.bool (s.name.toList == nm.toList)) h) := by
  refine icall_of_iwp (fun _ => 0) Tryz.func175 rfl (by kernel_rfl) (Nat.le_of_ble_eq_true rfl) ?_
  rw [Tryz.results175]
  simp -implicitDefEqProofs [go_sem, SB.row, hq]
  exact ⟨_, Sub.refl _, rfl, rfl⟩
def namV (R : RG) (nm : ByteArray) : IV := match R.ses.find? fun s => s.name.toList == nm.toList with | some s => .tup [.int .i64 s.id, .bool true] | none => .tup [.int .i64 0, .bool false]
structure SesOk (R : RG) : Prop where
  hin : ∀ s ∈ R.ses, inR s.id
  has : (R.ses.map (·.id)).Pairwise (· < ·)
  hn : R.ses.length < 100000000
  hl : ∀ s ∈ R.ses, s.wins.length < 100000000
set_option maxRecDepth 20000 in
theorem named21_c {k tag h rb R} (hR : RegAt k tag h rb R) (hS : SesOk R) (nm : ByteArray) : ICall Tryz.prog 118 [.ptr rb 0, .str nm] h (retP (namV R nm) h) := by
  refine icall_of_iwp (fun d => if d = 3 then 1 else 0) Tryz.func118 rfl (by kernel_rfl) (Nat.le_of_ble_eq_true rfl) ?_
  rw [Tryz.results118]
  simp -implicitDefEqProofs [go_sem]
  intro qb hqb
  have hR' : RegAt k (upd tag qb (k + 2, 0, 0)) (upd h qb (some (.cells [.str nm]))) rb R := by
    have hfr : ∀ j o, h j = some o → upd h qb (some (.cells [.str nm])) j = some o ∧ upd tag qb (k + 2, 0, 0) j = tag j := fun j o hj => by
      have : j ≠ qb := by rintro rfl; rw [hqb] at hj; cases hj
      exact ⟨by rw [upd_ne _ _ this]; exact hj, upd_ne _ _ this⟩
    exact hR.of (fun _ => False) (fun j o hj _ _ => hfr j o hj) rfl rfl rfl rfl rfl rfl (.inl ⟨id, rfl⟩) (.inl ⟨id, rfl⟩) (.inl ⟨id, rfl⟩) (.inl ⟨id, rfl⟩) (.inl ⟨id, rfl⟩) (hR.hB.frm (k' := k + 1) (fun j o hj _ => hfr j o hj) (by omega)) (fun s hs => .inl ⟨hs, id, id⟩)
  have hq : upd h qb (some (.cells [.str nm])) qb = some (.cells [.str nm]) := upd_same _ _ _
  have hsub : Sub h (upd h qb (some (.cells [.str nm]))) := (Sub.refl h).upd hqb _
  generalize upd h qb (some (.cells [.str nm])) = H at *
  refine (sessions21'_c hR' hS.hin hS.has hS.hn (fun s hs => by have := hS.hl s hs; omega)).mono ?_
  rintro e h' ⟨rfl, he⟩
  rw [he]
  simp -implicitDefEqProofs [go_sem]
  refine (indexFunc_ses (l := R.ses) (f := 175) (first := []) (cap := [.ptr qb 0]) (Inv := fun i h2 => h2 = H ∧ ∀ j (hj : j < R.ses.length), j < i → (R.ses[j].name.toList == nm.toList) = false) (Hit := fun i h2 => h2 = H ∧ R.ses.find? (fun s => s.name.toList == nm.toList) = R.ses[i]?) (by have := hS.hn; omega) ?_ H ⟨rfl, fun _ _ h => by omega⟩).mono ?_
  · rintro i hi h2 ⟨rfl, hno⟩
    refine (named1_c R.ses[i] nm qb h2 hq).mono ?_
    rintro e h3 ⟨rfl, rfl⟩
    cases hb : R.ses[i].name.toList == nm.toList with
    | false =>
      refine .inl ⟨rfl, rfl, fun j hj hji => ?_⟩
      by_cases e : j = i
      · subst e; exact hb
      · exact hno j hj (by omega)
    | true =>
      refine .inr ⟨rfl, rfl, ?_⟩
      rw [List.getElem?_eq_getElem hi, List.find?_eq_some_iff_getElem]
      exact ⟨hb, i, hi, rfl, fun j hj => by rw [hno j (by omega) hj]; rfl⟩
  rintro e h2 (⟨rfl, rfl, hno⟩ | ⟨i, hi, rfl, rfl, hhit⟩)
  · have hf : R.ses.find? (fun s => s.name.toList == nm.toList) = none := by
      rw [List.find?_eq_none]
      intro s hs
      obtain ⟨j, hj, rfl⟩ := List.getElem_of_mem hs
      rw [hno j hj hj]; simp
    simp -implicitDefEqProofs [go_sem]
    exact ⟨h, hsub, by rw [namV, hf], rfl⟩
  · have hgi : R.ses[i]? = some R.ses[i] := List.getElem?_eq_getElem hi
    rw [hgi] at hhit
    have hi0 : ¬ ((i : Int) < 0) := by omega
    simp -implicitDefEqProofs [go_sem, hi0, hi, hgi, SB.row]
    exact ⟨h, hsub, by rw [namV, hhit], rfl⟩
end Go.Proofs

set_option linter.unusedVariables false
set_option linter.unusedSimpArgs false
set_option pp.deepTerms false
set_option pp.maxSteps 400
namespace Go.Proofs
open Go.Idl

/-! another session -/
def newS (id : Int) (nm : ByteArray) (sb : Nat) : SB := ⟨id, nm, [], 0, sb, 0, 0⟩
theorem RegAt.addS {k tag h rb R} (hR : RegAt k tag h rb R) (id : Int) (nm : ByteArray) {sb : Nat} (hn : h sb = none) :
    RegAt k (upd tag sb (k + 1, 5, id.toNat)) (upd (upd h sb (some (.cells [.int .i64 id, .str nm, .list .tight [], .int .i64 0]))) R.sesb (some (.map (R.sesE ++ [(.int .i64 id, .ptr sb 0)])))) rb { R with ses := R.ses ++ [newS id nm sb] } ∧
    Frm2 k tag h (upd tag sb (k + 1, 5, id.toNat)) (upd (upd h sb (some (.cells [.int .i64 id, .str nm, .list .tight [], .int .i64 0]))) R.sesb (some (.map (R.sesE ++ [(.int .i64 id, .ptr sb 0)])))) := by
  have hne : ∀ j o, h j = some o → j ≠ sb := by rintro j o hj rfl; rw [hn] at hj; cases hj
  have n1 := hne _ _ hR.hses
  have hk : ∀ j o, h j = some o → tag j ≠ (k + 1, 2, 0) → upd (upd h sb (some (.cells [.int .i64 id, .str nm, .list .tight [], .int .i64 0]))) R.sesb (some (.map (R.sesE ++ [(.int .i64 id, .ptr sb 0)]))) j = some o ∧ upd tag sb (k + 1, 5, id.toNat) j = tag j := fun j o hj ht => by
    have h1 := hne j o hj
    exact ⟨by rw [upd_ne _ _ (by rintro rfl; exact ht hR.tses), upd_ne _ _ h1]; exact hj, upd_ne _ _ h1⟩
  refine ⟨hR.of (fun t => t = (k + 1, 2, 0)) (fun j o hj _ ht => hk j o hj ht) rfl rfl rfl rfl rfl rfl (.inl ⟨by simp, rfl⟩) (.inl ⟨by simp, rfl⟩) (.inr ⟨by rw [upd_same]; simp [RG.sesE, newS], by rw [upd_ne _ _ n1]; exact hR.tses⟩) (.inl ⟨by simp, rfl⟩) (.inl ⟨by simp, rfl⟩)
    (hR.hB.frm (k' := k + 1) (fun j o hj ht => hk j o hj (fun e => by rw [e] at ht; exact ht rfl)) (by omega)) (fun s hs => ?_), fun j o hj _ ht => hk j o hj (fun e => by rw [e] at ht; exact ht rfl)⟩
  rcases List.mem_append.1 hs with hs | hs
  · exact .inl ⟨hs, by simp, by simp⟩
  · simp only [List.mem_singleton] at hs
    subst hs
    exact .inr ⟨.inl ⟨rfl, by show upd _ _ _ sb = _; rw [upd_ne _ _ (Ne.symm n1), upd_same]; rfl⟩, upd_same _ _ _, fun h => absurd rfl h⟩
structure BegOk (R : RG) : Prop where
  mkn : R.mkr = .nilfn
  ses : SesOk R
  bd : R.Bd
  ns : 0 ≤ R.ns ∧ R.ns ≤ 2147483646
  sid : ∀ s ∈ R.ses, 0 ≤ s.id ∧ s.id < R.ns
  nw : 0 ≤ R.nw ∧ R.nw ≤ 2147483646
  np : 0 ≤ R.np ∧ R.np ≤ 2147483646
  fw : ∀ a ∈ R.win, a.1 ≠ R.nw
  fo : ∀ a ∈ R.own, a.1 ≠ R.nw
  fp : ∀ p ∈ R.L, p.m.id ≠ R.np
  ev : evsLe 99999999 (R.L.map (·.m))
def begE (R : RG) (nm : ByteArray) (w hh : Int) : Int := if nameB nm = true ∧ Rct.may ⟨0, 0, w, hh⟩ = true then (if (R.ses.find? fun s => s.name.toList == nm.toList).isSome = true then 10 else if R.fullB = true then 8 else 0) else 1
def beginR (k : Nat) (tag : Nat → Nat × Nat × Nat) (h : Heap) (rb : Nat) (R : RG) (nm : ByteArray) (w hh : Int) (e : IEnd) (h' : Heap) : Prop :=
  if begE R nm w hh = 0 then ∃ sb tag1 h1, Frm2 k tag h tag1 h1 ∧ ∃ h2, openR k tag1 h1 rb { R with ns := R.ns + 1, ses := R.ses ++ [newS R.ns nm sb] } R.ses.length (newS R.ns nm sb) w hh (.ret (.agg (plR R.ns R.nw R.np))) h2 ∧ h' = h2 ∧ e = .ret (.tup [.agg (plR R.ns R.nw R.np), .int .i64 0])
  else retP (.tup [.agg (plR 0 0 0), .int .i64 (begE R nm w hh)]) h e h'
set_option maxRecDepth 20000 in
theorem begin21_c {k tag h rb R} (hR : RegAt k tag h rb R) (o : BegOk R) (nm : ByteArray) (hnm : nm.size < 100000000) (w hh : Int) :
    ICall Tryz.prog 115 [.ptr rb 0, .str nm, .int .i64 w, .int .i64 hh] h (beginR k tag h rb R nm w hh) := by
  refine icall_of_iwp (fun d => if d = 59 then 1 else 0) Tryz.func115 rfl (by kernel_rfl) (Nat.le_of_ble_eq_true rfl) ?_
  rw [Tryz.results115]
  have h1 := hR.hr
  simp -implicitDefEqProofs [go_sem]
  refine (named21_c hR o.ses nm).mono ?_
  rintro e h' ⟨rfl, rfl⟩
  have hnv : namV R nm = .tup [.int .i64 (match R.ses.find? fun s => s.name.toList == nm.toList with | some s => s.id | none => 0), .bool (R.ses.find? fun s => s.name.toList == nm.toList).isSome] := by
    unfold namV; cases R.ses.find? fun s => s.name.toList == nm.toList <;> rfl
  rw [hnv]
  simp -implicitDefEqProofs [go_sem]
  refine (name_c nm hnm h').mono ?_
  rintro e h2 ⟨rfl, he⟩
  rw [he]
  cases hnb : nameB nm with
  | false =>
    have hb : begE R nm w hh = 1 := by rw [begE, if_neg (by rw [hnb]; simp)]
    simp -implicitDefEqProofs [go_sem]
    exact ⟨_, Sub.refl _, by rw [beginR, hb, if_neg (by omega)]; exact ⟨rfl, rfl⟩⟩
  | true =>
    simp -implicitDefEqProofs [go_sem]
    refine (fits_c w hh h').mono ?_
    rintro e h3 ⟨rfl, he⟩
    rw [he]
    cases hfb : Rct.may ⟨0, 0, w, hh⟩ with
    | false =>
      have hb : begE R nm w hh = 1 := by rw [begE, if_neg (by rw [hfb]; simp)]
      simp -implicitDefEqProofs [go_sem]
      exact ⟨_, Sub.refl _, by rw [beginR, hb, if_neg (by omega)]; exact ⟨rfl, rfl⟩⟩
    | true =>
      simp -implicitDefEqProofs [go_sem]
      cases hth : (R.ses.find? fun s => s.name.toList == nm.toList).isSome with
      | true =>
        have hb : begE R nm w hh = 10 := by rw [begE, if_pos ⟨hnb, hfb⟩, if_pos hth]
        simp -implicitDefEqProofs [go_sem]
        exact ⟨_, Sub.refl _, by rw [beginR, hb, if_neg (by omega)]; exact ⟨rfl, rfl⟩⟩
      | false =>
        simp -implicitDefEqProofs [go_sem]
        refine (full_c hR o.bd).mono ?_
        rintro e h4 ⟨rfl, he⟩
        rw [he]
        cases hfu : R.fullB with
        | true =>
          have hb : begE R nm w hh = 8 := by rw [begE, if_pos ⟨hnb, hfb⟩, if_neg (by rw [hth]; simp), if_pos hfu]
          simp -implicitDefEqProofs [go_sem]
          exact ⟨_, Sub.refl _, by rw [beginR, hb, if_neg (by omega)]; exact ⟨rfl, rfl⟩⟩
        | false =>
          have hb : begE R nm w hh = 0 := by rw [begE, if_pos ⟨hnb, hfb⟩, if_neg (by rw [hth]; simp), if_neg (by rw [hfu]; simp)]
          have ww := wrap_in (n := R.ns + 1) (by have := o.ns; omega)
          have hR1 := hR.root (R.ns + 1) R.nw R.np
          have hF1 : Frm2 k tag h' tag _ := Frm2.own (by rw [hR.tr]) (some (.cells (RG.cells { R with ns := R.ns + 1, nw := R.nw, np := R.np })))
          obtain ⟨R1, e1⟩ : ∃ R1 : RG, { R with ns := R.ns + 1, nw := R.nw, np := R.np } = R1 := ⟨_, rfl⟩
          have c1 : R1.cells = [.int .i64 (R.ns + 1), .int .i64 R.nw, .int .i64 R.np, .ptr R.bb 0, R.mkr, .mapv R.recb, .mapv R.sesb, .mapv R.winb, .mapv R.ownb] := by rw [← e1]; rfl
          rw [e1, c1] at hR1 hF1
          have n1 : R.sesb ≠ rb := by rintro e; have := hR.tses; rw [e, hR.tr] at this; simp at this
          have g2 := hR.hses
          rw [RG.sesE_k] at g2
          have hput := fun x => iput_k (·.id) (fun a : SB => IV.ptr a.sb 0) R.ns x R.ses (fun a ha => by have := o.sid a ha; omega)
          simp -implicitDefEqProofs [go_sem, h1, RG.cells, ww, n1]
          intro sb hsb
          obtain ⟨H1, he1⟩ : ∃ H1, upd h' rb (some (IObj.cells [.int .i64 (R.ns + 1), .int .i64 R.nw, .int .i64 R.np, .ptr R.bb 0, R.mkr, .mapv R.recb, .mapv R.sesb, .mapv R.winb, .mapv R.ownb])) = H1 := ⟨_, rfl⟩
          have hsb' : H1 sb = none := by rw [← he1]; unfold upd; exact hsb
          rw [he1] at hR1 hF1
          have n2 : R.sesb ≠ sb := by rintro e; have := hR1.hses; rw [← e1] at this; rw [← e, this] at hsb'; cases hsb'
          simp -implicitDefEqProofs [go_sem, g2, hput, n2]
          rw [he1]
          obtain ⟨hR2, hF2⟩ := hR1.addS R.ns nm hsb'
          have b1 : R1.sesb = R.sesb := by rw [← e1]
          have b2 : R1.sesE = R.ses.map (encK (·.id) fun a : SB => IV.ptr a.sb 0) := by rw [← e1]; rfl
          have e2 : { R1 with ses := R1.ses ++ [newS R.ns nm sb] } = { R with ns := R.ns + 1, ses := R.ses ++ [newS R.ns nm sb] } := by rw [← e1]
          rw [e2] at hR2
          rw [b1, b2] at hR2 hF2
          have hfd : ((R.ses ++ [newS R.ns nm sb]).find? fun a => a.id == R.ns) = some (newS R.ns nm sb) := by
            rw [List.find?_append, List.find?_eq_none.2 (fun a ha => by have := o.sid a ha; simp; omega)]; simp [newS]
          have hop : OpenOk { R with ns := R.ns + 1, ses := R.ses ++ [newS R.ns nm sb] } R.ses.length (newS R.ns nm sb) :=
            ⟨o.mkn, by simp, hfd, (fun j s2 hj hne => by
              rw [List.getElem?_append] at hj
              split at hj
              · have h6 := o.sid s2 (List.mem_of_getElem? hj)
                have h7 := o.ns
                show s2.id.toNat ≠ R.ns.toNat
                omega
              · have h8 : ([newS R.ns nm sb] : List SB)[j - R.ses.length]? = none := List.getElem?_eq_none (by show 1 ≤ _; omega)
                rw [h8] at hj; cases hj), o.nw, o.np, o.fw, o.fo, o.fp, o.ev, by show (0 : Nat) < _; omega⟩
          refine (open21_c hR2 hop hfb).mono ?_
          rintro e h5 hO
          have he : e = .ret (.agg (plR R.ns R.nw R.np)) := hO.1
          subst he
          simp -implicitDefEqProofs [go_sem, plR]
          refine ⟨h5, Sub.refl _, ?_⟩
          rw [beginR, if_pos hb]
          exact ⟨sb, _, _, hF1.trans hF2, h5, hO, rfl, rfl⟩
end Go.Proofs

set_option linter.unusedVariables false
set_option linter.unusedSimpArgs false
set_option pp.deepTerms false
set_option pp.maxSteps 400
namespace Go.Proofs
open Go.Idl

/-! where a pane stands -/
structure WinOk (R : RG) : Prop where
  hin : ∀ p ∈ R.win, inR p.1
  was : (R.win.map (·.1)).Pairwise (· < ·)
  hn : R.win.length < 100000000
  sz : ∀ p ∈ R.win, p.2.tree.size < 100000000
def ownOf (R : RG) (id : Int) : Int := match R.own.find? fun a => a.1 == id with | some a => a.2 | none => 0
def findP (R : RG) (pane : Int) : Option (Int × Wn) := R.win.find? fun p => decide (pane ∈ p.2.tree.ids)
def findV (R : RG) (pane : Int) : IV := match findP R pane with | some p => .tup [.agg (plR (ownOf R p.1) p.1 pane), .bool true] | none => .tup [.agg (plR 0 0 0), .bool false]
attribute [go_sem] fieldT prt
set_option maxRecDepth 20000 in
theorem find21_c {k tag h rb R} (hR : RegAt k tag h rb R) (o : WinOk R) (pane : Int) : ICall Tryz.prog 53 [.ptr rb 0, .int .i64 pane] h (retP (findV R pane) h) := by
  refine icall_of_iwp (fun _ => 0) Tryz.func53 rfl (by kernel_rfl) (Nat.le_of_ble_eq_true rfl) ?_
  rw [Tryz.results53]
  have h1 := hR.hr
  have h2 := hR.hwin
  have h3 := hR.hown
  rw [RG.winE_k] at h2
  rw [RG.ownE_k] at h3
  simp -implicitDefEqProofs [go_sem]
  refine (windows_c hR o.hin (by have := o.hn; omega)).mono ?_
  rintro e h' ⟨rfl, rfl⟩
  rw [sortL_asc o.was]
  simp -implicitDefEqProofs [go_sem]
  refine iwp_loopF (rng [4,5,7] 11 37) (fun k => k == 4) (fun s => ∃ i, i ≤ R.win.length ∧ s.t 11 = .int .i64 i ∧ s.h = h' ∧ s.t 4 = .loc 4 0 0 ∧ s.m 4 = some (0, [.int .i64 0, .int .i64 0, .int .i64 0]) ∧ ∀ j (hj : j < R.win.length), j < i → pane ∉ R.win[j].2.tree.ids) (fun s => R.win.length - tn (s.t 11)) ?_ ?_
  · exact ⟨0, Nat.zero_le _, by simp -implicitDefEqProofs [go_sem], by simp -implicitDefEqProofs [go_sem], by simp -implicitDefEqProofs [go_sem], by simp -implicitDefEqProofs [go_sem], fun _ _ h => by omega⟩
  rintro J s hJ hf ⟨i, hi, h11, hh, h4, hm4, hno⟩
  simp -implicitDefEqProofs [go_sem, h11, hh, hf.t, hf.m]
  refine cK_dec (fun hlt => ?_) (fun hge => ?_)
  · have hlt' : i < R.win.length := by omega
    have hgi : R.win[i]? = some R.win[i] := List.getElem?_eq_getElem hlt'
    have hw := wrap_succ (i := i) (by have := o.hn; omega)
    have hq := ifind_k (·.1) (fun p : Int × Wn => IV.agg p.2.row) R.win[i].1 R.win
    have hnd : (R.win.map (·.1)).Nodup := o.was.imp fun h => by omega
    rw [find_key hnd hgi] at hq
    simp -implicitDefEqProofs [go_sem, h11, hh, hf.t, hf.m, hlt, hlt', hgi, h1, h2, hq, intRow, RG.cells]
    have hsz := o.sz _ (List.getElem_mem hlt')
    refine (cLeaves_c R.win[i].2.tree h' (by omega)).mono ?_
    rintro e h5 ⟨rfl, he⟩
    rw [he]
    simp -implicitDefEqProofs [go_sem, h11, hh, hf.t, hf.m]
    refine (contains_c R.win[i].2.tree.ids pane h' (by have := idsz_le R.win[i].2.tree; omega)).mono ?_
    rintro e h6 ⟨rfl, he⟩
    rw [he]
    cases hd : decide (pane ∈ R.win[i].2.tree.ids) with
    | true =>
      have hfi : findP R pane = some R.win[i] := by
        rw [findP, List.find?_eq_some_iff_getElem]
        exact ⟨hd, i, hlt', rfl, fun j hj => by simpa using hno j (by omega) hj⟩
      have hqo := ifind_k (·.1) (fun p : Int × Int => IV.int .i64 p.2) R.win[i].1 R.own
      have hoo : ((R.own.find? fun a => a.1 == R.win[i].1).map fun p => IV.int .i64 p.2).getD (.int .i64 0) = .int .i64 (ownOf R R.win[i].1) := by
        unfold ownOf; cases R.own.find? fun a => a.1 == R.win[i].1 <;> rfl
      simp -implicitDefEqProofs [go_sem, h11, hh, h4, hm4, hf.t, hf.m, h1, h3, hqo, hoo, RG.cells]
      exact ⟨h', Sub.refl _, by rw [findV, hfi]; rfl, rfl⟩
    | false =>
      simp -implicitDefEqProofs [go_sem, h11, hh, hf.t, hf.m, hf, hw]
      refine hJ _ ⟨i + 1, by omega, by simp -implicitDefEqProofs [go_sem, hw], by simp -implicitDefEqProofs [go_sem, hh], by simp -implicitDefEqProofs [go_sem, h4], by simp -implicitDefEqProofs [go_sem, hm4], fun j hj hji => ?_⟩ (by simp [go_sem, h11, hw]; omega)
      by_cases e : j = i
      · subst e; simpa using hd
      · exact hno j hj (by omega)
  · have hfi : findP R pane = none := by
      rw [findP, List.find?_eq_none]
      intro p hp
      obtain ⟨j, hj, rfl⟩ := List.getElem_of_mem hp
      simpa using hno j hj (by omega)
    simp -implicitDefEqProofs [go_sem, h11, hh, h4, hm4, hf.t, hf.m]
    exact ⟨h', Sub.refl _, by rw [findV, hfi]; rfl, rfl⟩
/-! a pane is split -/
def splR (R : RG) (i : Nat) (wid : Int) (w' : Wn) (L' : List PB) : RG := { R with np := R.np + 1, win := R.win.set i (wid, w'), L := L' }
structure SplOk (R : RG) : Prop where
  mkn : R.mkr = .nilfn
  win : WinOk R
  bd : R.Bd
  np : 0 ≤ R.np ∧ R.np ≤ 2147483646
  fp : ∀ p ∈ R.L, p.m.id ≠ R.np
  ev : evsLe 99999999 (R.L.map (·.m))
/-- what a split comes to, told by what the window's is -/
def splitR (k : Nat) (tag : Nat → Nat × Nat × Nat) (h : Heap) (rb : Nat) (R : RG) (pane : Int) (sp : Wn → Wn × Int) (e : IEnd) (h' : Heap) : Prop :=
  match findP R pane with
  | none => retP (.tup [.agg (plR 0 0 0), .int .i64 6]) h e h'
  | some p =>
    if 4096 ≤ R.np' then retP (.tup [.agg (plR 0 0 0), .int .i64 8]) h e h' else
    if (sp p.2).2 ≠ 0 then retP (.tup [.agg (plR 0 0 0), .int .i64 (sp p.2).2]) h e h' else
    e = .ret (.tup [.agg (plR (ownOf R p.1) p.1 R.np), .int .i64 0]) ∧ ∃ i tag' pb rc L', R.win[i]? = some p ∧ RegAt k tag' h' rb (splR R i p.1 (sp p.2).1 L') ∧ Frm2 k tag h tag' h' ∧ Stay (R.L ++ [newP R.np pb rc]) L' ∧
      L'.map (·.m) = (showM ((R.L ++ [newP R.np pb rc]).map (·.m)) ((sp p.2).1.shown.map pk)).1
set_option maxRecDepth 20000 in
set_option maxHeartbeats 4000000 in
theorem split21_c {k tag h rb R} (hR : RegAt k tag h rb R) (o : SplOk R) (pane ax size : Int) (ahead : Bool) (sp : Wn → Wn × Int)
    (hsp : ∀ p ∈ R.win, (sp p.2).1.tree.size < 100000000 ∧ ∀ h, ICall Tryz.prog 178 [.agg p.2.row, .int .i64 pane, .int .u8 ax, .int .i64 size, .int .i64 R.np, .bool ahead] h (retP (.tup [.agg (sp p.2).1.row, .int .i64 (sp p.2).2]) h)) :
    ICall Tryz.prog 126 [.ptr rb 0, .int .i64 pane, .int .u8 ax, .int .i64 size, .bool ahead] h (splitR k tag h rb R pane sp) := by
  refine icall_of_iwp (fun d => 0) Tryz.func126 rfl (by kernel_rfl) (Nat.le_of_ble_eq_true rfl) ?_
  rw [Tryz.results126]
  have h1 := hR.hr
  have h2 := hR.hwin
  rw [RG.winE_k] at h2
  simp -implicitDefEqProofs [go_sem]
  refine (find21_c hR o.win pane).mono ?_
  rintro e h' ⟨rfl, rfl⟩
  unfold findV splitR
  cases hfp : findP R pane with
  | none =>
    simp -implicitDefEqProofs [go_sem, plR]
    exact ⟨_, Sub.refl _, rfl, rfl⟩
  | some p =>
    have hpm : p ∈ R.win := List.mem_of_find?_eq_some hfp
    obtain ⟨i, hi⟩ := List.getElem?_of_mem hpm
    obtain ⟨hss, hsp⟩ := hsp p hpm
    have hnd : (R.win.map (·.1)).Nodup := o.win.was.imp fun h => by omega
    have hq := ifind_k (·.1) (fun p : Int × Wn => IV.agg p.2.row) p.1 R.win
    rw [find_key hnd hi] at hq
    simp -implicitDefEqProofs [go_sem, plR]
    refine (panes21_c hR o.bd).mono ?_
    rintro e h3 ⟨rfl, he⟩
    rw [he]
    simp -implicitDefEqProofs [go_sem, plR]
    refine cK_dec (fun hc => ?_) (fun hc => ?_)
    · simp -implicitDefEqProofs [go_sem, plR]
      exact ⟨_, Sub.refl _, by rw [if_pos (by omega)]; exact ⟨rfl, rfl⟩⟩
    have hc' : ¬ 4096 ≤ R.np' := by omega
    simp -implicitDefEqProofs [go_sem, plR]
    refine iwp_drawn_alloc mixed 20 [0, 1, 2, 3, 4, 5, 6, 7, 8, 9, 10, 11, 12, 13, 14, 15, 16, 17, 18, 19, 21, 22] (by kernel_rfl) ?_
    simp -implicitDefEqProofs [go_sem, h1, h2, hq, RG.cells]
    refine ⟨_, hsp _, ?_⟩
    simp -implicitDefEqProofs [go_sem, h1, h2, hq, RG.cells]
    refine cK_bne (fun he0 => ?_) (fun he0 => ?_)
    · simp -implicitDefEqProofs [go_sem, plR]
      exact ⟨_, Sub.refl _, by rw [if_neg hc', if_neg he0]; exact ⟨rfl, rfl⟩⟩
    have wp := wrap_in (n := R.np + 1) (by have := o.np; omega)
    have hR1 := hR.root R.ns R.nw (R.np + 1)
    have hF1 : Frm2 k tag h' tag _ := Frm2.own (by rw [hR.tr]) (some (.cells (RG.cells { R with ns := R.ns, nw := R.nw, np := R.np + 1 })))
    obtain ⟨R1, e1⟩ : ∃ R1 : RG, { R with ns := R.ns, nw := R.nw, np := R.np + 1 } = R1 := ⟨_, rfl⟩
    have c1 : R1.cells = [.int .i64 R.ns, .int .i64 R.nw, .int .i64 (R.np + 1), .ptr R.bb 0, R.mkr, .mapv R.recb, .mapv R.sesb, .mapv R.winb, .mapv R.ownb] := by rw [← e1]; rfl
    rw [e1, c1] at hR1 hF1
    obtain ⟨H1, he1⟩ : ∃ H1, upd h' rb (some (IObj.cells [.int .i64 R.ns, .int .i64 R.nw, .int .i64 (R.np + 1), .ptr R.bb 0, R.mkr, .mapv R.recb, .mapv R.sesb, .mapv R.winb, .mapv R.ownb])) = H1 := ⟨_, rfl⟩
    rw [he1] at hR1 hF1
    simp -implicitDefEqProofs [go_sem, h1, RG.cells, wp]
    refine dR_heap H1 (by simp -implicitDefEqProofs [go_sem, h1, RG.cells, wp]; exact he1) ?_
    clear he1
    have g1 := hR1.hr
    have g2 := hR1.hwin
    rw [c1] at g1
    rw [RG.winE_k, ← e1] at g2
    have hiw := iput_kset (·.1) (fun p : Int × Wn => IV.agg p.2.row) p.1 (.agg (sp p.2).1.row) R.win i p hnd hi rfl
    refine iwp_drawn_of mixed [0, 1, 2, 3, 4, 5, 6, 7] (by kernel_rfl) ?_
    simp -implicitDefEqProofs [go_sem, g1, g2, hiw]
    have b1 : R1.winb = R.winb := by rw [← e1]
    have hR2 := hR1.setWin (R.win.set i (p.1, (sp p.2).1))
    have hF2 := hF1.trans (Frm2.own (b := R1.winb) (by rw [hR1.twin]) (some (.map (RG.winE { R1 with win := R.win.set i (p.1, (sp p.2).1) }))))
    obtain ⟨R2, e2⟩ : ∃ R2 : RG, { R1 with win := R.win.set i (p.1, (sp p.2).1) } = R2 := ⟨_, rfl⟩
    have w2 : R2.winE = (R.win.map (encK (·.1) fun p => .agg p.2.row)).set i (.int .i64 p.1, .agg (sp p.2).1.row) := by
      rw [← e2]
      show (R.win.set i (p.1, (sp p.2).1)).map _ = _
      rw [List.map_set]; rfl
    rw [e2, w2, b1] at hR2 hF2
    generalize upd H1 R.winb (some (IObj.map ((R.win.map (encK (·.1) fun p => .agg p.2.row)).set i (.int .i64 p.1, .agg (sp p.2).1.row)))) = H2 at hR2 hF2 ⊢
    have l2 : R2.L = R.L := by rw [← e2, ← e1]
    have m2 : R2.mkr = .nilfn := by rw [← e2, ← e1]; exact o.mkn
    refine (add21_c hR2 m2 R.np (by have := o.np; omega) (by rw [l2]; exact o.fp)).mono ?_
    rintro e h5 ⟨rfl, pb, rc, tag5, hR5, hF5⟩
    simp -implicitDefEqProofs [go_sem]
    have hfw : ((R.win.set i (p.1, (sp p.2).1)).find? fun a => a.1 == p.1) = some (p.1, (sp p.2).1) := by
      have hnd2 : ((R.win.set i (p.1, (sp p.2).1)).map (·.1)).Nodup := by
        rw [List.map_set]
        have : (R.win.map (·.1)).set i p.1 = R.win.map (·.1) := by
          apply List.ext_getElem?
          intro j
          rw [List.getElem?_set]
          split
          · rename_i e; subst e; rw [List.length_map, if_pos (List.getElem?_eq_some_iff.1 hi).1, List.getElem?_map, hi]; rfl
          · rfl
        rw [this]; exact hnd
      have hgi : (R.win.set i (p.1, (sp p.2).1))[i]? = some (p.1, (sp p.2).1) := by rw [List.getElem?_set, if_pos rfl, if_pos (List.getElem?_eq_some_iff.1 hi).1]
      exact find_key hnd2 hgi
    have w5 : ({ R2 with L := R2.L ++ [newP R.np pb rc] } : RG).win = R.win.set i (p.1, (sp p.2).1) := by rw [← e2]
    refine (show21_c hR5 p.1 (sp p.2).1 (by rw [w5]; exact hfw) hss (fun q hq => ?ev)).mono ?_
    case ev =>
      obtain ⟨q, hq1, rfl⟩ := List.mem_map.1 hq
      rcases List.mem_append.1 hq1 with hq1 | hq1
      · rw [l2] at hq1; have := o.ev _ (List.mem_map_of_mem hq1); omega
      · simp at hq1; rw [hq1]; simp [newP]
    rintro e h6 ⟨rfl, tag6, L', hR6, hF6, hS, hL⟩
    simp -implicitDefEqProofs [go_sem]
    have e6 : ({ ({ R2 with L := R2.L ++ [newP R.np pb rc] } : RG) with L := L' } : RG) = splR R i p.1 (sp p.2).1 L' := by rw [← e2, ← e1]; rfl
    rw [e6] at hR6
    refine ⟨_, Sub.refl _, ?_⟩
    rw [if_neg hc', if_pos he0]
    rw [l2] at hS hL
    exact ⟨i, hi, tag6, pb, rc, L', hR6, (hF2.trans hF5).trans hF6, hS, by simpa using hL⟩
end Go.Proofs

set_option linter.unusedVariables false
set_option linter.unusedSimpArgs false
set_option pp.deepTerms false
set_option pp.maxSteps 400
namespace Go.Proofs
open Go.Idl

/-! what a pane's record was told; the document's example -/
theorem eqI_pl (a b c a' b' c' : Int) (n : Nat) : eqI Tryz.prog (n + 2) 121 (.agg [.int .i64 a, .int .i64 b, .int .i64 c]) (.agg [.int .i64 a', .int .i64 b', .int .i64 c']) = some (decide (a = a') && (decide (b = b') && decide (c = c'))) := by
  simp [eqI, eqFs, prt, Tryz.underlying121, Tryz.underlying3, stood_121, aggT_3, szT_3]
  rw [Bool.eq_iff_iff]; simp
@[go_sem high] theorem eqI_pl' (a b c a' b' c' : Int) : eqI Tryz.prog 10000 121 (.agg [.int .i64 a, .int .i64 b, .int .i64 c]) (.agg [.int .i64 a', .int .i64 b', .int .i64 c']) = some (decide (a = a') && (decide (b = b') && decide (c = c'))) := eqI_pl a b c a' b' c' 9998
end Go.Proofs
