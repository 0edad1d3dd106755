/- This text is a part of the proofs of the statements of this seat: the ideal states and their rules, or what one of the functions that the statements reach comes to. Conditions: none beyond those that each theorem names. -/
import Derived.Test.YtiloboepepdcgaaK8
set_option linter.unusedVariables false
set_option linter.unusedSimpArgs false
set_option pp.deepTerms false
set_option pp.maxSteps 400
namespace Go.Proofs
open Go.Idl Go.RowKit Go.Maps Go.Sort Go.Shelf

/-! Panes -/
def rhoK : Ren := { f := fun | 10 => 83 | _ => 0, t := fun | 0 => 0 | 3 => 100 | 4 => 4 | 23 => 93 | 26 => 3 | 33 => 86 | _ => 0, g := fun x => x }
theorem layK : SlLaysZI.n10 Try.prog rhoK where
  mixed := mixed
  f10 := ⟨Try.f83.name, by decide, Try.func83.trans (congrArg some (by kernel_rfl))⟩
  t0 := Try.underlying0
  a0 := Try.isAgg0
  z0 := Try.sizeOf0
  v0 := Try.zeroValue0
  t4 := Try.underlying4
  a4 := Try.isAgg4
  z4 := Try.sizeOf4
  v4 := Try.zeroValue4
  t23 := Try.underlying93
  a23 := Try.isAgg93
  z23 := Try.sizeOf93
  v23 := Try.zeroValue93
  t26 := Try.underlying3
  a26 := Try.isAgg3
  z26 := Try.sizeOf3
  v26 := Try.zeroValue3
  t33 := Try.underlying86
  a33 := Try.isAgg86
  z33 := Try.sizeOf86
  v33 := Try.zeroValue86

def keysFR (m : Nat) (h : Heap) (e : IEnd) (h' : Heap) : Prop := ∃ bx, h bx = none ∧ e = .ret (.fn (.func 83) [] [.ptr bx 0]) ∧ h' = upd h bx (some (.cells [.mapv m]))
theorem keysF_c (m : Nat) (h : Heap) : ICall Try.prog 60 [.mapv m] h (keysFR m h) := by
  refine icall_of_iwp (fun d => if d = 1 then 1 else 0) Try.func60 rfl (by kernel_rfl) (Nat.le_of_ble_eq_true rfl) ?_
  rw [Try.results60]
  simp -implicitDefEqProofs [go_sem]
  intro b hb
  exact ⟨_, Sub.refl _, b, hb, rfl, rfl⟩

def liveM (L : List PM) : List Int := (L.filter fun p => !p.gone).map (·.id)
theorem liveE_keys (L : List PB) : KeysOf (liveE L) (liveM (L.map (·.m))) := by
  induction L with
  | nil => rfl
  | cons p r ih =>
    simp only [KeysOf, liveE, liveM, List.map_cons, List.filter_cons] at ih ⊢
    split <;> simp_all
/-- the panes of a board, sorted: a new array, or none -/
def panesR (L : List PM) (h : Heap) (e : IEnd) (h' : Heap) : Prop := ∃ ss : List Int, ss.Perm (liveM L) ∧ ((ss = [] ∧ e = .ret (.list .plain []) ∧ h' = h) ∨ (ss ≠ [] ∧ ∃ b cap, h b = none ∧ ss.length ≤ cap ∧ e = .ret (.sl 1 b 0 ss.length cap) ∧ h' = SH h b cap (sortL ss).toArray))
theorem panes_c {k tag h bb mb L} (hB : BoardAt k tag h bb mb L) (hin : ∀ p ∈ L, inR p.m.id) (hl : L.length < 1000000000) : ICall Try.prog 30 [.ptr bb 0] h (panesR (L.map (·.m)) h) := by
  refine icall_of_iwp (fun d => 0) Try.func30 rfl (by kernel_rfl) (Nat.le_of_ble_eq_true rfl) ?_
  rw [Try.results30]
  have h1 := hB.hb
  simp -implicitDefEqProofs [go_sem, h1]
  refine (keysF_c mb h).mono ?_
  rintro e h' ⟨bx, hbx, rfl, rfl⟩
  simp -implicitDefEqProofs [go_sem]
  have hnm : mb ≠ bx := by rintro rfl; rw [hB.hm] at hbx; cases hbx
  have hm : (upd h bx (some (.cells [.mapv mb]))) mb = some (.map (liveE L)) := by rw [upd_ne _ _ hnm]; exact hB.hm
  have hll : (liveM (L.map (·.m))).length ≤ L.length := by
    have := List.length_filter_le (fun p : PM => !p.gone) (L.map (·.m))
    simpa [liveM] using this
  have hit := keys_it (ρ := rhoK) layK rfl ⟨_, Try.func83, by kernel_rfl, by kernel_rfl⟩ hm (upd_same _ _ _) (liveE_keys L) (fun x hx => by
    obtain ⟨p, hp, rfl⟩ := List.mem_map.1 hx
    obtain ⟨hp1, _⟩ := List.mem_filter.1 hp
    obtain ⟨q, hq, rfl⟩ := List.mem_map.1 hp1
    exact hin q hq) (by omega)
  refine (sorted_c hit (by omega) (fun ss hs => by rw [hs.length_eq]; exact Nat.le_refl _) rfl).mono ?_
  rintro e h' ⟨ss, hss, ⟨rfl, rfl, rfl⟩ | ⟨hne, b, cap, hb, hle, rfl, rfl⟩⟩
  · simp -implicitDefEqProofs [go_sem]
    exact ⟨_, (Sub.refl h).upd hbx _, [], hss, .inl ⟨rfl, rfl, rfl⟩⟩
  · simp -implicitDefEqProofs [go_sem]
    have hbb : b ≠ bx := by rintro rfl; rw [upd_same] at hb; cases hb
    have hb' : h b = none := by rw [upd_ne _ _ hbb] at hb; exact hb
    refine ⟨SH h b cap (sortL ss).toArray, ?_, ss, hss, .inr ⟨hne, b, cap, hb', hle, rfl, rfl⟩⟩
    intro j o hj
    simp only [SH, upd] at hj ⊢
    split at hj
    · rename_i h0; simp [h0]; exact Option.some.inj hj
    · rename_i h0
      have : j ≠ bx := by rintro rfl; rw [hbx] at hj; cases hj
      simp [h0, this, hj]
theorem panes_nil_c (h : Heap) : ICall Try.prog 30 [.nilptr] h (retP (.list .plain []) h) := by
  refine icall_of_iwp (fun d => 0) Try.func30 rfl (by kernel_rfl) (Nat.le_of_ble_eq_true rfl) ?_
  rw [Try.results30]
  simp -implicitDefEqProofs [go_sem]
  exact ⟨_, Sub.refl _, rfl, rfl⟩
theorem show_nil_c (l : List Pn) (hl : l.length < 1000000000) (h : Heap) : ICall Try.prog 18 [.nilptr, .list .plain (l.map Pn.row)] h (retP (.int .i64 0) h) := by
  refine icall_of_iwp (fun d => if d = 52 then 8 else if d = 55 then 8 else if d = 57 then 9 else if d = 59 then 9 else if d = 61 then 9 else 0) Try.func18 rfl (by kernel_rfl) (Nat.le_of_ble_eq_true rfl) ?_
  rw [Try.results18]
  simp -implicitDefEqProofs [go_sem]
  refine iwp_loopF (rng [5,7,8] 11 76) (fun k => k == 7) (fun s => ∃ (i : Nat), i ≤ l.length ∧ s.t 11 = .int .i64 i ∧ s.t 5 = .int .i64 0 ∧ s.h = h) (fun s => l.length - tn (s.t 11)) ?_ ?_
  · exact ⟨0, Nat.zero_le _, by simp -implicitDefEqProofs [go_sem], by simp -implicitDefEqProofs [go_sem], by simp -implicitDefEqProofs [go_sem]⟩
  rintro J s hJ hf ⟨i, hi, h11, h5, hh⟩
  simp -implicitDefEqProofs [go_sem, h11, h5, hh, hf.t, hf.m]
  refine cK_dec (fun hlt => ?_) (fun hlt => ?_)
  · have hlt' : i < l.length := by omega
    have hw := wrap_succ (i := i) (by omega)
    simp -implicitDefEqProofs [go_sem, h11, h5, hh, hf.t, hf.m, hlt', Pn.row]
    refine (has_nil_c l[i].id h).mono ?_
    rintro e h' ⟨rfl, he⟩
    rw [he]
    simp -implicitDefEqProofs [go_sem, h11, h5, hf.t, hf.m]
    refine iwp_drawn_of mixed [0,1,2,3,4,5,6,7,8,9,10,11,12,13,14,15,16,17,18,19,20,21,22,23,24,25,26,27] (by kernel_rfl) ?_
    simp -implicitDefEqProofs [go_sem, h11, h5, hf.t, hf.m, hf, hw]
    exact hJ _ ⟨i + 1, hlt', by simp -implicitDefEqProofs [go_sem, h11, hw], by simp -implicitDefEqProofs [go_sem, h5], by simp -implicitDefEqProofs [go_sem]⟩ (by simp [go_sem, h11, hw]; omega)
  · simp -implicitDefEqProofs [go_sem, h11, h5, hh, hf.t, hf.m]
    exact ⟨_, Sub.refl _, rfl, rfl⟩
theorem drop1_nil_c (id : Int) {qb : Nat} {h : Heap} (hq : h qb = some (.cells [.nilptr])) :
    ICall Try.prog 57 [.int .i64 id, .ptr qb 0] h (retP (.bool true) h) := by
  refine icall_of_iwp (fun _ => 0) Try.func57 rfl (by kernel_rfl) (Nat.le_of_ble_eq_true rfl) ?_
  rw [Try.results57]
  simp -implicitDefEqProofs [go_sem, hq]
  refine (has_nil_c id h).mono ?_
  rintro e h' ⟨rfl, he⟩
  rw [he]
  simp -implicitDefEqProofs [go_sem]
  exact ⟨_, Sub.refl _, rfl, rfl⟩
set_option maxRecDepth 20000 in
theorem drop_nil_c (ids : List Int) (hl : ids.length < 100000000) (h : Heap) : ICall Try.prog 20 [.nilptr, .list .plain (ids.map intRow)] h (retP (.int .i64 (if ids = [] then 0 else 6)) h) := by
  refine icall_of_iwp (fun d => if d = 2 then 1 else 0) Try.func20 rfl (by kernel_rfl) (Nat.le_of_ble_eq_true rfl) ?_
  rw [Try.results20]
  simp -implicitDefEqProofs [go_sem]
  intro qb hqb
  refine (values_c ids _).mono ?_
  rintro e h' ⟨bx, hbx, rfl, rfl⟩
  simp -implicitDefEqProofs [go_sem]
  refine (sorted_c (values_it (upd_same _ _ _) (by omega)) (by omega) (by rintro ss rfl; exact Nat.le_refl _) rfl).mono ?_
  have hqbx : qb ≠ bx := by rintro rfl; simp [upd] at hbx
  have hHq : (upd (upd h qb (some (.cells [.nilptr]))) bx (some (.cells [.list .plain (ids.map intRow)]))) qb = some (.cells [.nilptr]) := by rw [upd_ne _ _ hqbx, upd_same]
  have hsub : Sub h (upd (upd h qb (some (.cells [.nilptr]))) bx (some (.cells [.list .plain (ids.map intRow)]))) := ((Sub.refl h).upd hqb _).upd (by
    rw [upd_ne _ _ (Ne.symm hqbx)] at hbx; exact hbx) _
  generalize hH : (upd (upd h qb (some (.cells [.nilptr]))) bx (some (.cells [.list .plain (ids.map intRow)]))) = H at *
  rintro e h' ⟨ss, hss, hcase⟩
  rw [hss] at hcase
  clear hss ss
  have hcon := containsFunc_int (l := ids) (f := 57) (first := []) (cap := [.ptr qb 0])
    (Inv := fun i h' => h' = H ∧ i = 0) (Hit := fun i h' => h' = H) (by omega)
    (fun i hi h' hI => by
      obtain ⟨rfl, hI⟩ := hI
      refine (drop1_nil_c ids[i] hHq).mono ?_
      rintro e h' ⟨rfl, rfl⟩
      exact .inr ⟨rfl, rfl⟩) H ⟨rfl, rfl⟩
  rcases hcase with ⟨rfl, rfl, hq0⟩ | ⟨hne, b, cp, hb, hle, rfl, rfl⟩
  · rw [hq0]
    simp -implicitDefEqProofs [go_sem]
    refine (compact0_c _).mono ?_
    rintro e h2 ⟨rfl, he⟩
    rw [he]
    simp -implicitDefEqProofs [go_sem]
    refine hcon.mono ?_
    rintro e h2 (⟨rfl, hq1, _⟩ | ⟨i, hi, _⟩)
    rotate_left
    · simp at hi
    rw [hq1]
    simp -implicitDefEqProofs [go_sem]
    refine iwp_loopF (rng [7] 24 44) nom (fun s => s.t 24 = .int .i64 0 ∧ s.h = H) (fun s => 0) ?_ ?_
    · exact ⟨by simp -implicitDefEqProofs [go_sem], by simp -implicitDefEqProofs [go_sem]⟩
    rintro J s hJ hf ⟨h24, hh⟩
    simp -implicitDefEqProofs [go_sem, h24, hh, hf.t, hf.m]
    exact ⟨_, hsub, rfl, rfl⟩
  · simp -implicitDefEqProofs [go_sem]
    have hsz : (sortL ids).toArray.size = ids.length := by simp [sortL_len]
    have hpos : 0 < ids.length := List.length_pos_iff.2 hne
    have hcc := compact_c (sortL ids).toArray b cp H hb (by omega) (by omega) (by omega)
    rw [hsz] at hcc
    refine hcc.mono ?_
    rintro e h' ⟨hq0, m, rfl, hm1, hm2⟩
    rw [hq0]
    rw [hsz] at hm1
    by_cases hmn : m < ids.length
    · simp -implicitDefEqProofs [go_sem, hmn]
      exact ⟨_, hsub, by rw [if_neg hne], rfl⟩
    simp -implicitDefEqProofs [go_sem, hmn]
    refine hcon.mono ?_
    rintro e h2 (⟨rfl, hq1, h0⟩ | ⟨i, hi, rfl, hq1⟩)
    · omega
    rw [hq1]
    simp -implicitDefEqProofs [go_sem, hmn]
    exact ⟨_, hsub, by rw [if_neg hne], rfl⟩

/-! the same events -/
@[go_sem] theorem Ev.row_len (e : Ev) : e.row.length = 4 := rfl
@[go_sem] theorem Ev.row_ss (e : Ev) : List.take 4 (List.map (strC ∘ strip) e.row) = e.row := rfl
theorem eqI_ev (a b : Ev) (n : Nat) : eqI Try.prog (n + 2) 38 (.agg a.row) (.agg b.row) = some (decide (a = b)) := by
  have hl : ∀ x y : ByteArray, (x.toList == y.toList) = decide (x = y) := by
    intro x y
    rw [Bool.eq_iff_iff]
    simp only [beq_iff_eq, decide_eq_true_eq]
    exact ⟨fun h => by rw [ByteArray.toList_eq, ByteArray.toList_eq] at h; exact ByteArray.ext (Array.toList_inj.1 h), fun h => by rw [h]⟩
  obtain ⟨a1, a2, a3, a4⟩ := a; obtain ⟨b1, b2, b3, b4⟩ := b
  simp [eqI, eqFs, prt, Try.underlying38, Try.underlying3, Try.underlying5, Try.underlying9, stood_38, aggT_3, szT_3, aggT_5, szT_5, aggT_9, szT_9, Ev.row, Ev.mk.injEq, Bool.decide_and, hl]
  rfl
@[go_sem high] theorem eqI_ev' (a b : Ev) : eqI Try.prog 10000 38 (.agg a.row) (.agg b.row) = some (decide (a = b)) := eqI_ev a b 9998
@[go_sem] theorem eqG_ev : Try.prog.eqGuardType Try.prog.depth 38 = false := by kernel_rfl
set_option maxRecDepth 20000 in
theorem same_c (a b : List Ev) (ha : a.length < 100000000) (hbl : b.length < 100000000) (h : Heap) : ICall Try.prog 28 [.list .plain (a.map Ev.row), .list .plain (b.map Ev.row)] h (retP (.bool (decide (a = b))) h) := by
  refine icall_of_iwp (fun _ => 0) Try.func28 rfl (by kernel_rfl) (Nat.le_of_ble_eq_true rfl) ?_
  rw [Try.results28]
  simp -implicitDefEqProofs [go_sem]
  refine cK_any (fun hne => ?_) (fun hne => ?_)
  · have hab : a ≠ b := by rintro rfl; simp at hne
    simp -implicitDefEqProofs [go_sem]
    exact ⟨_, Sub.refl _, by simp [hab], rfl⟩
  have hlen : a.length = b.length := by
    have : (a.length : Int) = b.length := by simpa using hne
    omega
  simp -implicitDefEqProofs [go_sem]
  refine iwp_loopF (rng [5] 13 26) nom (fun s => ∃ i : Nat, i ≤ a.length ∧ s.t 13 = .int .i64 i ∧ s.h = h ∧ a.take i = b.take i) (fun s => a.length - tn (s.t 13)) ?_ ?_
  · exact ⟨0, Nat.zero_le _, by simp -implicitDefEqProofs [go_sem], by simp -implicitDefEqProofs [go_sem], rfl⟩
  rintro J s hJ hf ⟨i, hi, h13, hh, hpre⟩
  simp -implicitDefEqProofs [go_sem, h13, hh, hf.t, hf.m]
  refine cK_dec (fun hlt => ?_) (fun hlt => ?_)
  · have hlb : i < b.length := by omega
    have hlt' : i < a.length := by omega
    have hw := wrap_succ (i := i) (by omega)
    have hga : (a.map Ev.row)[i]? = some a[i].row := by simp [hlt']
    have hgb : (b.map Ev.row)[i]? = some b[i].row := by simp [hlb]
    simp -implicitDefEqProofs [go_sem, h13, hh, hf.t, hf.m]
    refine iwp_drawn_of mixed [0,1,2,3,4,5,6,7,8] (by kernel_rfl) ?_
    simp -implicitDefEqProofs [go_sem, h13, hh, hf.t, hf.m, hlt', hlb, hga, hgb]
    refine cK_any (fun hq => ?_) (fun hq => ?_)
    · have hab : a ≠ b := by rintro rfl; simp at hq
      simp -implicitDefEqProofs [go_sem]
      exact ⟨_, Sub.refl _, by simp [hab], hh⟩
    · have hab : a[i] = b[i] := by simpa using hq
      simp -implicitDefEqProofs [go_sem, h13, hh, hf.t, hf.m, hf, hw]
      exact hJ _ ⟨i + 1, by omega, by simp -implicitDefEqProofs [go_sem, hw], by simp -implicitDefEqProofs [go_sem, hh], by rw [List.take_add_one, List.take_add_one, hpre, List.getElem?_eq_getElem hlt', List.getElem?_eq_getElem hlb, hab]⟩ (by simp [go_sem, h13, hw]; omega)
  · simp -implicitDefEqProofs [go_sem, h13, hh, hf.t, hf.m]
    have hab : a = b := by
      have hia : i = a.length := by omega
      rw [hia, List.take_length, hlen, List.take_length] at hpre; exact hpre
    exact ⟨_, Sub.refl _, by simp [hab], rfl⟩
end Go.Proofs
