/- This text is a part of the proofs of the statements of this seat: the ideal states and their rules, or what one of the functions that the statements reach comes to. Conditions: none beyond those that each theorem names. -/
import Derived.Test.YtejjnaibgimiaaaGreatDoorT3
import Derived.Test.YtejjnaibgimiaaaGreatDoorT4
import Derived.Test.YtejjnaibgimiaaaGreatDoorT7
import Derived.Test.YtejjnaibgimiaaaGreatDoorT6
import Derived.Test.YtejjnaibgimiaaaGreatDoorT2
import Derived.Test.YtejjnaibgimiaaaGreatDoorCards
import Derived.Test.YtejjnaibgimiaaaGreatDoorTie
import Derived.JoinedOf
import Derived.ChangeMaps5
import Derived.SevenTiedAt
import Derived.Lay
import Derived.LaidHandle
import Derived.LaidSub
import Derived.Handed
import Derived.LaidLaws
set_option linter.unusedVariables false
set_option linter.unusedSimpArgs false
set_option pp.deepTerms false
set_option pp.maxSteps 500
namespace Go.Proofs
open Go.Idl

/-! what a runner asks of the registry -/
theorem window21_c {k tag h rb R} (hR : RegAt k tag h rb R) (id : Int) (w : Wn) (hw : (R.win.find? fun p => p.1 == id) = some (id, w)) (hs : w.tree.size < 100000000) :
    ICall Tryz.prog 100 [.ptr rb 0, .int .i64 id] h (retP (.tup [.agg w.row, .bool true]) h) := by
  refine icall_of_iwp (fun _ => 0) Tryz.func100 rfl (by kernel_rfl) (Nat.le_of_ble_eq_true rfl) ?_
  rw [Tryz.results100]
  have h1 := hR.hr
  have h2 := hR.hwin
  rw [RG.winE_k] at h2
  have hq := ifind_k (·.1) (fun p : Int × Wn => IV.agg p.2.row) id R.win
  rw [hw] at hq
  simp -implicitDefEqProofs [go_sem, h1, h2, hq, RG.cells]
  refine (at0_c w.tree h (by omega)).mono ?_
  rintro e h' ⟨rfl, rfl⟩
  simp -implicitDefEqProofs [go_sem]
  exact ⟨_, Sub.refl _, by cases w; rfl, rfl⟩
theorem num_c {h : Heap} {b : Nat} {r : Rn} (hr : RnAt h b r) (c : UInt8) (d : Int) : ICall Tryz.prog 116 [.ptr b 0, .int .u8 c.toNat, .int .i64 d] h (retP (.int .i64 ((getN r.ns c).getD d)) h) := by
  refine icall_of_iwp (fun d => 0) Tryz.func116 rfl (by kernel_rfl) (Nat.le_of_ble_eq_true rfl) ?_
  rw [Tryz.results116]
  have h1 := hr.hb
  have h2 := hr.hn
  have hq := ifind_n c r.ns
  cases hg : getN r.ns c with
  | none =>
    rw [hg] at hq
    simp -implicitDefEqProofs [go_sem, h1, h2, hq, Rn.cells]
    exact ⟨h, Sub.refl _, rfl, rfl⟩
  | some v =>
    rw [hg] at hq
    simp -implicitDefEqProofs [go_sem, h1, h2, hq, Rn.cells]
    exact ⟨h, Sub.refl _, rfl, rfl⟩
/-- a place, told in signs -/
def plc (a b c : Int) (x : UInt8) : ByteArray := ⟨#[x]⟩ ++ digL [if x = 36 then a else if x = 64 then b else c]
theorem digL_one (v : Int) : digL [v] = digB v := by
  show (⟨(Lib.join [(digB v).data.toList] [44]).toArray⟩ : ByteArray) = _
  simp [Lib.join]
theorem dig1_len (v : Int) : 1 + (digL [v]).size ≤ 9223372036854775807 := by
  have h1 := digB_len v
  have h2 : (digB v).data.toList.length = (digB v).size := by simp
  rw [digL_one]; omega
set_option maxRecDepth 20000 in
theorem place_c (a b c : Int) (s : ByteArray) (L : List UInt8) (hL : s.data.toList = L) (h : Heap) (hs : L.length ≤ 1000) (hi : ∀ n ∈ [a, b, c], 0 ≤ n → n ≤ 2147483647 → ∀ h, ICall Tryz.prog 102 [.int .i64 n] h (retP (.str (itoaB n)) h)) :
    ICall Tryz.prog 117 [.agg (plR a b c), .str s] h (retP (.str (joinB (L.map (plc a b c)) ⟨#[32]⟩)) h) := by
  refine icall_of_iwp (fun _ => 0) Tryz.func117 rfl (by kernel_rfl) (Nat.le_of_ble_eq_true rfl) ?_
  rw [Tryz.results117]
  have hs9 : s.size ≤ 1000000000 := by have : s.size = L.length := by rw [← hL]; simp
                                       omega
  have hsr : strRows s = L.map byRow := by rw [← hL]; rfl
  simp -implicitDefEqProofs [go_sem, plR, hs9]
  rw [hsr]
  simp -implicitDefEqProofs [go_sem]
  refine iwp_loopF (rng [5,7,8] 12 38) (fun k => k == 2) (fun st => ∃ i v, i ≤ L.length ∧ st.t 12 = .int .i64 i ∧ st.t 5 = v ∧ Idl.Own [36] st.x 9 v (((L.take i).map (plc a b c)).map strRow) ∧ st.h = h ∧ st.t 2 = .loc 2 0 0 ∧ st.m 2 = some (0, [.int .i64 a, .int .i64 b, .int .i64 c])) (fun st => L.length - tn (st.t 12)) ?_ ?_
  · exact ⟨0, .list .tight [], Nat.zero_le _, by simp -implicitDefEqProofs [go_sem], by simp -implicitDefEqProofs [go_sem], Idl.Own.tight, by simp -implicitDefEqProofs [go_sem], by simp -implicitDefEqProofs [go_sem], by simp -implicitDefEqProofs [go_sem]⟩
  rintro J st hJ hf ⟨i, v, hle, h12, h5, ho, hh, h2, hm2⟩
  simp -implicitDefEqProofs [go_sem, h12, h5, hh, hf.t, hf.m]
  refine cK_dec (fun hlt => ?_) (fun hge => ?_)
  · have hlt' : i < L.length := by omega
    have hw := wrap_succ (i := i) (by omega)
    obtain ⟨x, hx⟩ : ∃ x, L[i] = x := ⟨_, rfl⟩
    have hg : L[i]? = some x := by rw [← hx]; exact List.getElem?_eq_getElem hlt'
    simp -implicitDefEqProofs [go_sem, h12, h5, hh, h2, hm2, hf.t, hf.m, hlt', hg, hx, byRow]
    cases h36 : ((x.toNat : Int) == 36) with
    | true =>
      have c36 : x = 36 := (u8_i _ _).1 (by simpa using h36)
      simp -implicitDefEqProofs [go_sem, h12, h5, hh, h2, hm2, hf.t, hf.m]
      refine iwp_drawn_of mixed [0, 1, 2, 3, 4, 5, 6, 7, 8, 9, 10] (by kernel_rfl) ?_
      simp -implicitDefEqProofs [go_sem, h12, h5, hh, h2, hm2, hf.t, hf.m]
      refine ⟨_, Digits_c [a] h (by simp) (fun n hn h0 h1 => by simp at hn; subst hn; exact hi _ (by simp) h0 h1 h), ?_⟩
      have hpx : plc a b c x = ⟨#[x]⟩ ++ digL [a] := by rw [plc]; simp [c36]
      simp -implicitDefEqProofs [go_sem, h12, h5, hh, h2, hm2, hf.t, hf.m, dig1_len a]
      refine aK_own (z := 1) (S := [36]) ho (by simp) elT_23 elZ_9 (by simp [roomy, byT_9]; omega) (strs_uni _) (by simp [uni]) ?_
      intro r x' ho' _
      simp -implicitDefEqProofs [go_sem, h12, h5, hh, h2, hm2, hf.t, hf.m, hf, hw]
      refine hJ _ ⟨i + 1, r, by omega, by simp -implicitDefEqProofs [go_sem, hw], by simp -implicitDefEqProofs [go_sem], ?_, by simp -implicitDefEqProofs [go_sem, hh], by simp -implicitDefEqProofs [go_sem, h2], by simp -implicitDefEqProofs [go_sem, hm2]⟩ (by simp [go_sem, h12, hw]; omega)
      have e1 : L.take (i + 1) = L.take i ++ [x] := by rw [List.take_add_one, hg]; rfl
      show Idl.Own [36] x' _ r _
      rw [e1, List.map_append, List.map_append, List.map_singleton, hpx]
      exact ho'
    | false =>
      have c36 : x ≠ 36 := fun e => by rw [e] at h36; exact absurd h36 (by decide)
      simp -implicitDefEqProofs [go_sem, h12, h5, hh, h2, hm2, hf.t, hf.m]
      cases h64 : ((x.toNat : Int) == 64) with
      | true =>
        have c64 : x = 64 := (u8_i _ _).1 (by simpa using h64)
        simp -implicitDefEqProofs [go_sem, h12, h5, hh, h2, hm2, hf.t, hf.m]
        refine iwp_drawn_of mixed [0, 1, 2, 3, 4, 5, 6, 7, 8, 9, 10] (by kernel_rfl) ?_
        simp -implicitDefEqProofs [go_sem, h12, h5, hh, h2, hm2, hf.t, hf.m]
        refine ⟨_, Digits_c [b] h (by simp) (fun n hn h0 h1 => by simp at hn; subst hn; exact hi _ (by simp) h0 h1 h), ?_⟩
        have hpx : plc a b c x = ⟨#[x]⟩ ++ digL [b] := by rw [plc]; simp [c36, c64]
        simp -implicitDefEqProofs [go_sem, h12, h5, hh, h2, hm2, hf.t, hf.m, dig1_len b]
        refine aK_own (z := 1) (S := [36]) ho (by simp) elT_23 elZ_9 (by simp [roomy, byT_9]; omega) (strs_uni _) (by simp [uni]) ?_
        intro r x' ho' _
        simp -implicitDefEqProofs [go_sem, h12, h5, hh, h2, hm2, hf.t, hf.m, hf, hw]
        refine hJ _ ⟨i + 1, r, by omega, by simp -implicitDefEqProofs [go_sem, hw], by simp -implicitDefEqProofs [go_sem], ?_, by simp -implicitDefEqProofs [go_sem, hh], by simp -implicitDefEqProofs [go_sem, h2], by simp -implicitDefEqProofs [go_sem, hm2]⟩ (by simp [go_sem, h12, hw]; omega)
        have e1 : L.take (i + 1) = L.take i ++ [x] := by rw [List.take_add_one, hg]; rfl
        show Idl.Own [36] x' _ r _
        rw [e1, List.map_append, List.map_append, List.map_singleton, hpx]
        exact ho'
      | false =>
        have c64 : x ≠ 64 := fun e => by rw [e] at h64; exact absurd h64 (by decide)
        simp -implicitDefEqProofs [go_sem, h12, h5, hh, h2, hm2, hf.t, hf.m]
        refine iwp_drawn_of mixed [0, 1, 2, 3, 4, 5, 6, 7, 8, 9, 10] (by kernel_rfl) ?_
        simp -implicitDefEqProofs [go_sem, h12, h5, hh, h2, hm2, hf.t, hf.m]
        refine ⟨_, Digits_c [c] h (by simp) (fun n hn h0 h1 => by simp at hn; subst hn; exact hi _ (by simp) h0 h1 h), ?_⟩
        have hpx : plc a b c x = ⟨#[x]⟩ ++ digL [c] := by rw [plc]; simp [c36, c64]
        simp -implicitDefEqProofs [go_sem, h12, h5, hh, h2, hm2, hf.t, hf.m, dig1_len c]
        refine aK_own (z := 1) (S := [36]) ho (by simp) elT_23 elZ_9 (by simp [roomy, byT_9]; omega) (strs_uni _) (by simp [uni]) ?_
        intro r x' ho' _
        simp -implicitDefEqProofs [go_sem, h12, h5, hh, h2, hm2, hf.t, hf.m, hf, hw]
        refine hJ _ ⟨i + 1, r, by omega, by simp -implicitDefEqProofs [go_sem, hw], by simp -implicitDefEqProofs [go_sem], ?_, by simp -implicitDefEqProofs [go_sem, hh], by simp -implicitDefEqProofs [go_sem, h2], by simp -implicitDefEqProofs [go_sem, hm2]⟩ (by simp [go_sem, h12, hw]; omega)
        have e1 : L.take (i + 1) = L.take i ++ [x] := by rw [List.take_add_one, hg]; rfl
        show Idl.Own [36] x' _ r _
        rw [e1, List.map_append, List.map_append, List.map_singleton, hpx]
        exact ho'
  · obtain rfl : i = L.length := by omega
    rw [List.take_length] at ho
    simp -implicitDefEqProofs [go_sem, h12, h5, hh, hf.t, hf.m, ho.strip]
    have hpl : ∀ x, (plc a b c x).data.toList.length ≤ 11 := fun x => by
      have := digB_len (if x = 36 then a else if x = 64 then b else c)
      simp [plc, digL, joinB, Lib.join] at this ⊢
      omega
    have hjl := join_len ((L.map (plc a b c)).map (·.data.toList)) [32] 11 (fun x hx => by
      obtain ⟨y, hy, rfl⟩ := List.mem_map.1 hx
      obtain ⟨n, _, rfl⟩ := List.mem_map.1 hy
      exact hpl n)
    simp only [List.length_map, List.length_cons, List.length_nil] at hjl
    have hjc := sjoin_c (L.map (plc a b c)) ⟨#[32]⟩ .plain h (by simp; omega) (by show (Lib.join ((L.map (plc a b c)).map (·.data.toList)) [32]).length ≤ _; omega)
    rw [List.map_map] at hjc
    refine hjc.mono ?_
    rintro e h' ⟨rfl, he⟩
    rw [he]
    simp -implicitDefEqProofs [go_sem]
    exact ⟨h, Sub.refl _, rfl, rfl⟩
/-- what stood is of no colour of the registry -/
def tagS (k : Nat) (h : Heap) (tag : Nat → Nat × Nat × Nat) (j : Nat) : Nat × Nat × Nat := match h j with | none => (k + 2, 0, 0) | some _ => tag j
theorem RegAt.sub {k tag h rb R h'} (hR : RegAt k tag h rb R) (hs : Sub h h') : RegAt k (tagS k h tag) h' rb R := by
  have hfr : ∀ j o, h j = some o → h' j = some o ∧ tagS k h tag j = tag j := fun j o hj => ⟨hs j o hj, by unfold tagS; rw [hj]⟩
  exact hR.of (fun _ => False) (fun j o hj _ _ => hfr j o hj) rfl rfl rfl rfl rfl rfl (.inl ⟨id, rfl⟩) (.inl ⟨id, rfl⟩) (.inl ⟨id, rfl⟩) (.inl ⟨id, rfl⟩) (.inl ⟨id, rfl⟩) (hR.hB.frm (k' := k + 1) (fun j o hj _ => hfr j o hj) (by omega)) (fun s hs => .inl ⟨hs, id, id⟩)
/-- what is foreign may be written -/
theorem RegAt.foreign {k tag h rb R b} (hR : RegAt k tag h rb R) (h1 : (tag b).1 ≠ k) (h2 : (tag b).1 ≠ k + 1) (o : Option IObj) : RegAt k tag (upd h b o) rb R := by
  have hfr : ∀ j oj, h j = some oj → (tag j).1 = k ∨ (tag j).1 = k + 1 → upd h b o j = some oj ∧ tag j = tag j := fun j oj hj ht => by
    have : j ≠ b := by rintro rfl; rcases ht with h | h <;> contradiction
    exact ⟨by rw [upd_ne _ _ this]; exact hj, rfl⟩
  refine hR.of (fun _ => False) (fun j oj hj ht _ => hfr j oj hj (.inr ht)) rfl rfl rfl rfl rfl rfl (.inl ⟨id, rfl⟩) (.inl ⟨id, rfl⟩) (.inl ⟨id, rfl⟩) (.inl ⟨id, rfl⟩) (.inl ⟨id, rfl⟩) (hR.hB.frm (k' := (tag b).1) (fun j oj hj ht => ?_) (Ne.symm h1)) (fun s hs => .inl ⟨hs, id, id⟩)
  have : j ≠ b := by rintro rfl; exact ht rfl
  exact ⟨by rw [upd_ne _ _ this]; exact hj, rfl⟩
theorem Frm2.foreign {k tag h tag' h' b} (hF : Frm2 k tag h tag' h') (hb : ∃ o, h b = some o) (o : Option IObj) : Frm2 k tag (upd h b o) tag' (upd h' b o) := fun j oj hj t1 t2 => by
  by_cases e : j = b
  · subst e
    rw [upd_same] at hj ⊢
    obtain ⟨o2, ho2⟩ := hb
    exact ⟨hj, (hF j o2 ho2 t1 t2).2⟩
  · rw [upd_ne _ _ e] at hj ⊢
    exact hF j oj hj t1 t2
end Go.Proofs

set_option linter.unusedVariables false
set_option linter.unusedSimpArgs false
set_option pp.deepTerms false
set_option pp.maxSteps 500
namespace Go.Proofs
open Go.Idl

/-! what a runner stands at -/
structure RunOk (R : RG) (r : Rn) (rb : Nat) (s : SB) (w : Wn) : Prop where
  reg : r.reg = .ptr rb 0
  ses : (R.ses.find? fun a => a.id == r.seat) = some s
  sl : ∀ s ∈ R.ses, s.wins.length < 1000000000
  win : (R.win.find? fun p => p.1 == s.cur) = some (s.cur, w)
  wok : WinOk R
theorem RunOk.sz {R r rb s w} (o : RunOk R r rb s w) : w.tree.size < 100000000 := o.wok.sz _ (List.mem_of_find?_eq_some o.win)
set_option maxRecDepth 20000 in
theorem rsession_c {k tag h rb R b r s w} (hR : RegAt k tag h rb R) (hr : RnAt h b r) (o : RunOk R r rb s w) : ICall Tryz.prog 119 [.ptr b 0] h (retP (.agg s.row) h) := by
  refine icall_of_iwp (fun _ => 0) Tryz.func119 rfl (by kernel_rfl) (Nat.le_of_ble_eq_true rfl) ?_
  rw [Tryz.results119]
  have h1 := hr.hb
  have hses := session21_c hR r.seat o.sl
  have hv : sesV R r.seat = .tup [.agg s.row, .bool true] := by rw [sesV, o.ses]
  rw [hv] at hses
  simp -implicitDefEqProofs [go_sem]
  refine iwp_drawn_alloc mixed 12 [0, 1, 2, 3, 4, 5, 6, 7, 8, 9, 10, 11, 13, 14] (by kernel_rfl) ?_
  simp -implicitDefEqProofs [go_sem, h1, Rn.cells, o.reg]
  refine ⟨_, hses, ?_⟩
  simp -implicitDefEqProofs [go_sem, SB.row]
  refine (must_c true 6 h).mono ?_
  rintro e h' ⟨rfl, rfl⟩
  simp -implicitDefEqProofs [go_sem, SB.row]
  exact ⟨_, Sub.refl _, rfl, rfl⟩
set_option maxRecDepth 20000 in
theorem own_c {k tag h rb R b r s w} (hR : RegAt k tag h rb R) (hr : RnAt h b r) (o : RunOk R r rb s w) : ICall Tryz.prog 176 [.ptr b 0] h (retP (.int .i64 w.act) h) := by
  refine icall_of_iwp (fun _ => 0) Tryz.func176 rfl (by kernel_rfl) (Nat.le_of_ble_eq_true rfl) ?_
  rw [Tryz.results176]
  have h1 := hr.hb
  simp -implicitDefEqProofs [go_sem]
  refine iwp_drawn_alloc mixed 11 [0, 1, 2, 3, 4, 5, 6, 7, 8, 9, 10, 12, 13] (by kernel_rfl) ?_
  simp -implicitDefEqProofs [go_sem, h1, Rn.cells, o.reg]
  refine ⟨_, rsession_c hR hr o, ?_⟩
  simp -implicitDefEqProofs [go_sem, h1, SB.row]
  refine ⟨_, window21_c hR s.cur w o.win o.sz, ?_⟩
  simp -implicitDefEqProofs [go_sem, h1, SB.row]
  exact ⟨_, Sub.refl _, rfl, rfl⟩
theorem RnAt.sub {h h' : Heap} {b : Nat} {r : Rn} (hr : RnAt h b r) (hs : Sub h h') : RnAt h' b r :=
  ⟨hs _ _ hr.hb, hr.hm.imp (hs _ _) (fun ⟨e, c, q⟩ => ⟨e, c, hs _ _ q⟩), hs _ _ hr.hn, hr.hne⟩
set_option maxRecDepth 20000 in
theorem pane_c {k tag h rb R b r s w} (hR : RegAt k tag h rb R) (hr : RnAt h b r) (o : RunOk R r rb s w) (hn : getN r.ns 116 = none) (hf : findP R w.act = some (s.cur, w)) : ICall Tryz.prog 125 [.ptr b 0] h (retP (.tup [.int .i64 w.act, .agg w.row, .int .i64 s.cur]) h) := by
  refine icall_of_iwp (fun d => if d = 3 then 1 else if d = 46 then 8 else 0) Tryz.func125 rfl (by kernel_rfl) (Nat.le_of_ble_eq_true rfl) ?_
  rw [Tryz.results125]
  have hb0 := hr.hb
  have hn0 := hr.hn
  simp -implicitDefEqProofs [go_sem]
  intro q hq0
  have qb : b ≠ q := by rintro rfl; rw [hb0] at hq0; cases hq0
  have qn : r.mn ≠ q := by rintro e; rw [← e, hn0] at hq0; cases hq0
  have hs : Sub h (upd h q (some (IObj.cells [.int .u8 0, .int .i64 0, .int .i64 0, .int .i64 0, .int .i64 0, .int .i64 0, .list .tight [], .int .i64 0, .bool false]))) := (Sub.refl h).upd hq0 _
  have hR' := hR.sub hs
  have hr' := hr.sub hs
  have hq := ifind_n 116 r.ns
  rw [hn] at hq
  have hq' : ifind (.int .u8) (.int .u8 116) (r.ns.map encN) = some none := hq
  have hfi := find21_c hR' o.wok w.act
  rw [findV, hf] at hfi
  simp -implicitDefEqProofs [go_sem, hb0, hn0, qb, qn, hq', Rn.cells]
  refine (own_c hR' hr' o).mono ?_
  rintro e h1 ⟨rfl, he⟩
  rw [he]
  simp -implicitDefEqProofs [go_sem, hb0, hn0, qb, qn, Rn.cells, o.reg]
  refine hfi.mono ?_
  rintro e h3 ⟨rfl, he⟩
  rw [he]
  simp -implicitDefEqProofs [go_sem, plR]
  refine (must_c true 6 _).mono ?_
  rintro e h4 ⟨rfl, he⟩
  rw [he]
  simp -implicitDefEqProofs [go_sem, plR]
  refine iwp_drawn_alloc mixed 10 [0, 1, 2, 3, 4, 5, 6, 7, 8, 9, 11, 12] (by kernel_rfl) ?_
  simp -implicitDefEqProofs [go_sem, hb0, hn0, qb, qn, Rn.cells, o.reg, plR]
  refine ⟨_, window21_c hR' s.cur w o.win o.sz, ?_⟩
  simp -implicitDefEqProofs [go_sem, hb0, hn0, qb, qn, Rn.cells, o.reg, plR]
  refine iwp_drawn_of mixed [0, 1, 2, 3, 4, 5, 6] (by kernel_rfl) ?_
  simp -implicitDefEqProofs [go_sem, hb0, hn0, qb, qn, Rn.cells, o.reg, plR]
  exact ⟨h, (Sub.refl h).upd hq0 _, rfl, rfl⟩
end Go.Proofs

set_option linter.unusedVariables false
set_option linter.unusedSimpArgs false
set_option pp.deepTerms false
set_option pp.maxSteps 500
namespace Go.Proofs
open Go.Idl

/-! a runner makes a session -/
def newsW : List UInt8 := [110, 101, 119, 45, 115, 101, 115, 115, 105, 111, 110]
def begunR (k : Nat) (tag : Nat → Nat × Nat × Nat) (h : Heap) (rb : Nat) (R : RG) (nm : ByteArray) (w hh : Int) (h' : Heap) : Prop :=
  ∃ sb tag1 h1, Frm2 k tag h tag1 h1 ∧ openR k tag1 h1 rb { R with ns := R.ns + 1, ses := R.ses ++ [newS R.ns nm sb] } R.ses.length (newS R.ns nm sb) w hh (.ret (.agg (plR R.ns R.nw R.np))) h'
set_option maxRecDepth 20000 in
set_option maxHeartbeats 1000000 in
theorem sessions_new {k tag h rb R b r nm} (hR : RegAt k tag h rb R) (hr : RnAt h b r) (hb1 : (tag b).1 ≠ k) (hb2 : (tag b).1 ≠ k + 1) (hreg : r.reg = .ptr rb 0) (hw : r.word.toList = newsW) (hrest : r.rest = [nm]) (hx : getN r.ns 120 = none) (hy : getN r.ns 121 = none)
    (o : BegOk R) (hnm : nm.size < 100000000) (hbe : begE R nm 80 24 = 0) (hi : ∀ n ∈ [R.ns, R.nw, R.np], 0 ≤ n → n ≤ 2147483647 → ∀ h, ICall Tryz.prog 102 [.int .i64 n] h (retP (.str (itoaB n)) h)) :
    ICall Tryz.prog 76 [.ptr b 0] h fun e h' => e = .ret (.tup [.str (joinB ([36, 64, 37].map (plc R.ns R.nw R.np)) ⟨#[32]⟩), .bool true]) ∧
      ∃ h2, begunR k tag h rb R nm 80 24 h2 ∧ h' = upd h2 b (some (.cells { r with seat := R.ns }.cells)) := by
  refine icall_of_iwp (fun d => if d = 37 then 5 else 0) Tryz.func76 rfl (by kernel_rfl) (Nat.le_of_ble_eq_true rfl) ?_
  rw [Tryz.results76]
  have h1 := hr.hb
  have hwb : (r.word.toList == [110, 101, 119, 45, 115, 101, 115, 115, 105, 111, 110]) = true := by rw [hw]; decide
  simp -implicitDefEqProofs [go_sem, h1, Rn.cells, hwb]
  refine iwp_drawn_allocC mixed 18 [0, 1, 2, 3, 4, 5, 6, 7, 8, 9, 10, 11, 12, 13, 14, 15, 16, 17, 19, 20] (by kernel_rfl) (fun v st d x h => by cases d <;> exact h) (fun v st m h => h) ?_
  have hnx := num_c hr 120 80
  have hny := num_c hr 121 24
  rw [hx] at hnx
  rw [hy] at hny
  simp -implicitDefEqProofs [go_sem, h1, Rn.cells, hreg, hrest, strRow]
  refine ⟨_, hnx, ?_⟩
  simp -implicitDefEqProofs [go_sem, h1, Rn.cells, hreg, hrest, strRow]
  refine ⟨_, hny, ?_⟩
  simp -implicitDefEqProofs [go_sem, h1, Rn.cells, hreg, hrest, strRow]
  refine (begin21_c hR o nm hnm 80 24).mono ?_
  intro e h2 hB
  rw [beginR, if_pos hbe] at hB
  obtain ⟨sb, tag1, hh1, hF, h3, hO, rfl, rfl⟩ := hB
  have hbk : h2 b = some (.cells r.cells) := (hO.2.elim fun t q => q.elim fun _ q => q.elim fun _ q => q.elim fun _ q => q.elim fun _ q => q.elim fun _ q => by
    obtain ⟨f1, f2⟩ := hF b _ h1 hb1 hb2
    exact (q.2.1 b _ f1 (by rw [f2]; exact hb1) (by rw [f2]; exact hb2)).1)
  simp -implicitDefEqProofs [go_sem, plR]
  refine (ok_c 0 h2).mono ?_
  rintro e h4 ⟨rfl, he⟩
  rw [he]
  simp -implicitDefEqProofs [go_sem, plR, hbk, Rn.cells]
  refine (place_c R.ns R.nw R.np ⟨#[36, 64, 37]⟩ [36, 64, 37] rfl _ (by simp) hi).mono ?_
  rintro e h5 ⟨rfl, he⟩
  rw [he]
  simp -implicitDefEqProofs [go_sem, plR]
  refine ⟨_, Sub.refl _, h2, ⟨sb, tag1, hh1, hF, hO⟩, ?_⟩
  rw [hreg, hrest]; rfl
/-! a runner splits -/
def splW : List UInt8 := [115, 112, 108, 105, 116, 45, 119, 105, 110, 100, 111, 119]
set_option maxRecDepth 20000 in
theorem sessions_spl {h b r} (hr : RnAt h b r) (hw : r.word.toList = splW) : ICall Tryz.prog 76 [.ptr b 0] h (retP (.tup [.str ⟨#[]⟩, .bool false]) h) := by
  refine icall_of_iwp (fun d => if d = 37 then 5 else 0) Tryz.func76 rfl (by kernel_rfl) (Nat.le_of_ble_eq_true rfl) ?_
  rw [Tryz.results76]
  have h1 := hr.hb
  have hw' : r.word.toList = [115, 112, 108, 105, 116, 45, 119, 105, 110, 100, 111, 119] := hw
  simp -implicitDefEqProofs [go_sem, h1, Rn.cells, hw']
  exact ⟨_, Sub.refl _, rfl, rfl⟩
set_option maxRecDepth 20000 in
set_option maxHeartbeats 1000000 in
theorem panes_spl {k tag h rb R b r s w} (hR : RegAt k tag h rb R) (hr : RnAt h b r) (o : RunOk R r rb s w) (hw : r.word.toList = splW) (hn : getN r.ns 116 = none) (hl : getN r.ns 108 = none) (h104 : (getO r.m 104).isSome = true) (hf : findP R w.act = some (s.cur, w))
    (so : SplOk R) (sp : Wn → Wn × Int) (hsp : ∀ p ∈ R.win, (sp p.2).1.tree.size < 100000000 ∧ ∀ h, ICall Tryz.prog 178 [.agg p.2.row, .int .i64 w.act, .int .u8 1, .int .i64 0, .int .i64 R.np, .bool (getO r.m 98).isSome] h (retP (.tup [.agg (sp p.2).1.row, .int .i64 (sp p.2).2]) h))
    (hok : (sp w).2 = 0) (hnf : ¬ 4096 ≤ R.np') (hi : ∀ n ∈ [ownOf R s.cur, s.cur, R.np], 0 ≤ n → n ≤ 2147483647 → ∀ h, ICall Tryz.prog 102 [.int .i64 n] h (retP (.str (itoaB n)) h)) :
    ICall Tryz.prog 77 [.ptr b 0] h fun e h' => e = .ret (.tup [.str (joinB ([37].map (plc (ownOf R s.cur) s.cur R.np)) ⟨#[32]⟩), .bool true]) ∧
      splitR k tag h rb R w.act sp (.ret (.tup [.agg (plR (ownOf R s.cur) s.cur R.np), .int .i64 0])) h' := by
  refine icall_of_iwp (fun d => if d = 49 then 5 else 0) Tryz.func77 rfl (by kernel_rfl) (Nat.le_of_ble_eq_true rfl) ?_
  rw [Tryz.results77]
  have h1 := hr.hb
  have hw' : r.word.toList = [115, 112, 108, 105, 116, 45, 119, 105, 110, 100, 111, 119] := hw
  have hnl := num_c hr 108 0
  rw [hl] at hnl
  simp -implicitDefEqProofs [go_sem, h1, Rn.cells, hw']
  refine (pane_c hR hr o hn hf).mono ?_
  rintro e h2 ⟨rfl, rfl⟩
  simp -implicitDefEqProofs [go_sem, h1, Rn.cells, hw', o.reg]
  refine (ohas_c hr 104).mono ?_
  rintro e h3 ⟨rfl, he⟩
  rw [he, h104]
  simp -implicitDefEqProofs [go_sem, h1, Rn.cells, hw', o.reg]
  refine iwp_drawn_allocC mixed 14 [0, 1, 2, 3, 4, 5, 6, 7, 8, 9, 10, 11, 12, 13, 15, 16] (by kernel_rfl) (fun v st d x h => by cases d <;> exact h) (fun v st m h => h) ?_
  simp -implicitDefEqProofs [go_sem, h1, Rn.cells, hw', o.reg]
  refine ⟨_, hnl, ?_⟩
  simp -implicitDefEqProofs [go_sem, h1, Rn.cells, hw', o.reg]
  refine ⟨_, ohas_c hr 98, ?_⟩
  simp -implicitDefEqProofs [go_sem, h1, Rn.cells, hw', o.reg]
  refine (split21_c hR so w.act 1 0 (getO r.m 98).isSome sp hsp).mono ?_
  intro e h4 hS
  have hS0 := hS
  simp only [splitR, hf, if_neg hnf, hok, ne_eq, not_true_eq_false, if_false] at hS
  obtain ⟨rfl, _⟩ := hS
  simp -implicitDefEqProofs [go_sem, h1, Rn.cells, hw', o.reg, plR]
  refine (ok_c 0 h4).mono ?_
  rintro e h5 ⟨rfl, he⟩
  rw [he]
  simp -implicitDefEqProofs [go_sem, plR]
  refine (place_c (ownOf R s.cur) s.cur R.np ⟨#[37]⟩ [37] rfl _ (by simp) hi).mono ?_
  rintro e h6 ⟨rfl, he⟩
  rw [he]
  simp -implicitDefEqProofs [go_sem, plR]
  exact ⟨h4, Sub.refl _, hS0⟩
end Go.Proofs

set_option linter.unusedVariables false
set_option linter.unusedSimpArgs false
set_option pp.deepTerms false
set_option pp.maxSteps 500
namespace Go.Proofs
open Go.Idl

/-! a runner without a registry -/
set_option maxRecDepth 20000
set_option maxHeartbeats 1000000
theorem nsession_c {h b r} (hr : RnAt h b r) (hreg : r.reg = .nilptr) : ICall Tryz.prog 119 [.ptr b 0] h (panP (wrongV 6) h) := by
  refine icall_of_iwp (fun _ => 0) Tryz.func119 rfl (by kernel_rfl) (Nat.le_of_ble_eq_true rfl) ?_
  rw [Tryz.results119]
  have h1 := hr.hb
  simp -implicitDefEqProofs [go_sem]
  refine iwp_drawn_alloc mixed 12 [0, 1, 2, 3, 4, 5, 6, 7, 8, 9, 10, 11, 13, 14] (by kernel_rfl) ?_
  simp -implicitDefEqProofs [go_sem, h1, Rn.cells, hreg]
  refine ⟨_, nil_session r.seat h, ?_⟩
  simp -implicitDefEqProofs [go_sem]
  refine (must_c false 6 h).mono ?_
  rintro e h' ⟨rfl, he⟩
  rw [he]
  simp -implicitDefEqProofs [go_sem]
  exact ⟨_, Sub.refl _, rfl, rfl⟩
theorem nwindow_c {h b r} (hr : RnAt h b r) (hreg : r.reg = .nilptr) : ICall Tryz.prog 121 [.ptr b 0] h (panP (wrongV 6) h) := by
  refine icall_of_iwp (fun _ => 0) Tryz.func121 rfl (by kernel_rfl) (Nat.le_of_ble_eq_true rfl) ?_
  rw [Tryz.results121]
  have h1 := hr.hb
  have h2 := hr.hn
  have hq := ifind_n 116 r.ns
  cases hn : getN r.ns 116 with
  | none =>
    rw [hn] at hq
    have hq' : ifind (.int .u8) (.int .u8 116) (r.ns.map encN) = some none := hq
    simp -implicitDefEqProofs [go_sem, h1, h2, hq', Rn.cells]
    refine (nsession_c hr hreg).mono ?_
    rintro e h' ⟨rfl, he⟩
    rw [he]
    simp -implicitDefEqProofs [go_sem]
    exact ⟨_, Sub.refl _, rfl, rfl⟩
  | some v =>
    rw [hn] at hq
    have hq' : ifind (.int .u8) (.int .u8 116) (r.ns.map encN) = some (some (.int .i64 v)) := hq
    simp -implicitDefEqProofs [go_sem, h1, h2, hq', Rn.cells, hreg]
    refine (nil_window v h).mono ?_
    rintro e h' ⟨rfl, he⟩
    rw [he]
    simp -implicitDefEqProofs [go_sem]
    refine (must_c false 6 h).mono ?_
    rintro e h' ⟨rfl, he⟩
    rw [he]
    simp -implicitDefEqProofs [go_sem]
    exact ⟨_, Sub.refl _, rfl, rfl⟩
theorem nown_c {h b r} (hr : RnAt h b r) (hreg : r.reg = .nilptr) : ICall Tryz.prog 176 [.ptr b 0] h (panP (wrongV 6) h) := by
  refine icall_of_iwp (fun d => if d = 11 then 10 else 0) Tryz.func176 rfl (by kernel_rfl) (Nat.le_of_ble_eq_true rfl) ?_
  rw [Tryz.results176]
  have h1 := hr.hb
  simp -implicitDefEqProofs [go_sem]
  refine iwp_drawn_allocC mixed 11 [0, 1, 2, 3, 4, 5, 6, 7, 8, 9, 10, 12, 13] (by kernel_rfl) (fun v st d x h => by cases d <;> exact h) (fun v st m h => h) ?_
  simp -implicitDefEqProofs [go_sem, h1, Rn.cells, hreg]
  refine (nsession_c hr hreg).mono ?_
  rintro e h' ⟨rfl, he⟩
  rw [he]
  refine ⟨Sub.refl _, ?_⟩
  simp -implicitDefEqProofs [go_sem]
  exact ⟨_, Sub.refl _, rfl, rfl⟩
theorem npane_c {h b r} (hr : RnAt h b r) (hreg : r.reg = .nilptr) : ICall Tryz.prog 125 [.ptr b 0] h (panP (wrongV 6) h) := by
  refine icall_of_iwp (fun _ => 0) Tryz.func125 rfl (by kernel_rfl) (Nat.le_of_ble_eq_true rfl) ?_
  rw [Tryz.results125]
  have h1 := hr.hb
  have h2 := hr.hn
  have hq := ifind_n 116 r.ns
  cases hn : getN r.ns 116 with
  | none =>
    rw [hn] at hq
    have hq' : ifind (.int .u8) (.int .u8 116) (r.ns.map encN) = some none := hq
    simp -implicitDefEqProofs [go_sem, h1, h2, hq', Rn.cells]
    refine (nown_c hr hreg).mono ?_
    rintro e h' ⟨rfl, he⟩
    rw [he]
    simp -implicitDefEqProofs [go_sem]
    exact ⟨_, Sub.refl _, rfl, rfl⟩
  | some v =>
    rw [hn] at hq
    have hq' : ifind (.int .u8) (.int .u8 116) (r.ns.map encN) = some (some (.int .i64 v)) := hq
    simp -implicitDefEqProofs [go_sem, h1, h2, hq', Rn.cells, hreg]
    refine (nil_find v h).mono ?_
    rintro e h' ⟨rfl, he⟩
    rw [he]
    simp -implicitDefEqProofs [go_sem]
    refine (must_c false 6 h).mono ?_
    rintro e h' ⟨rfl, he⟩
    rw [he]
    simp -implicitDefEqProofs [go_sem]
    exact ⟨_, Sub.refl _, rfl, rfl⟩
/-- what a run comes to -/
def nilR (h : Heap) (b : Nat) (r : Rn) (ok : IV) (e : IEnd) (h' : Heap) : Prop := (e = .ret ok ∧ h' = upd h b (some (.cells { r with seat := -1 }.cells))) ∨ ∃ x, e = .pan (wrongV x) ∧ h' = h
def nsesR (h : Heap) (b : Nat) (r : Rn) (e : IEnd) (h' : Heap) : Prop := nilR h b r (.tup [.str ⟨#[]⟩, .bool true]) e h' ∨ (e = .ret (.tup [.str ⟨#[]⟩, .bool false]) ∧ h' = h)
theorem nsessions_c {h b r} (hr : RnAt h b r) (hreg : r.reg = .nilptr) (hrest : r.word.toList = [110, 101, 119, 45, 115, 101, 115, 115, 105, 111, 110] ∨ r.word.toList = [97, 116, 116, 97, 99, 104] → ∃ nm, r.rest = [nm] ∧ nm.size < 100000000) :
    ICall Tryz.prog 76 [.ptr b 0] h (nsesR h b r) := by
  refine icall_of_iwp (fun d => if d = 37 then 5 else if d = 84 then 10 else if d = 152 then 10 else 0) Tryz.func76 rfl (by kernel_rfl) (Nat.le_of_ble_eq_true rfl) ?_
  rw [Tryz.results76]
  have h1 := hr.hb
  cases w1 : r.word.toList == [110, 101, 119, 45, 115, 101, 115, 115, 105, 111, 110] with
  | true =>
    obtain ⟨nm, hn1, hn2⟩ := hrest (.inl (by simpa using w1))
    simp -implicitDefEqProofs [go_sem, h1, Rn.cells, w1]
    refine iwp_drawn_allocC mixed 18 [0, 1, 2, 3, 4, 5, 6, 7, 8, 9, 10, 11, 12, 13, 14, 15, 16, 17, 19, 20] (by kernel_rfl) (fun v st d x h => by cases d <;> exact h) (fun v st m h => h) ?_
    simp -implicitDefEqProofs [go_sem, h1, Rn.cells, hreg, hn1, strRow]
    refine ⟨_, num_c hr 120 80, ?_⟩
    simp -implicitDefEqProofs [go_sem, h1, Rn.cells, hreg, hn1, strRow]
    refine ⟨_, num_c hr 121 24, ?_⟩
    simp -implicitDefEqProofs [go_sem, h1, Rn.cells, hreg, hn1, strRow]
    refine (nil_begin nm _ _ hn2 h).mono ?_
    rintro e h' ⟨rfl, he⟩
    rw [he]
    simp -implicitDefEqProofs [go_sem]
    obtain ⟨er, her, her0⟩ : ∃ er : Int, (if nameB nm = true ∧ Rct.may ⟨0, 0, (getN r.ns 120).getD 80, (getN r.ns 121).getD 24⟩ = true then (8 : Int) else 1) = er ∧ er ≠ 0 := ⟨_, rfl, by split <;> omega⟩
    rw [her]
    have hb0 : (er == 0) = false := by simpa using her0
    refine (ok_c er h).mono ?_
    rw [hb0]
    rintro e h' ⟨rfl, he⟩
    rw [he]
    simp -implicitDefEqProofs [go_sem]
    exact ⟨_, Sub.refl _, .inl (.inr ⟨_, rfl, rfl⟩)⟩
  | false =>
  cases w2 : r.word.toList == [97, 116, 116, 97, 99, 104] with
  | true =>
    obtain ⟨nm, hn1, hn2⟩ := hrest (.inr (by simpa using w2))
    simp -implicitDefEqProofs [go_sem, h1, Rn.cells, w1, w2]
    refine iwp_drawn_of mixed [0, 1, 2, 3, 4, 5, 6, 7, 8, 9, 10, 11, 12, 13, 14, 15] (by kernel_rfl) ?_
    simp -implicitDefEqProofs [go_sem, h1, Rn.cells, hreg, hn1, strRow]
    refine ⟨_, nil_named nm h, ?_⟩
    simp -implicitDefEqProofs [go_sem]
    refine (must_c false 6 h).mono ?_
    rintro e h' ⟨rfl, he⟩
    rw [he]
    simp -implicitDefEqProofs [go_sem]
    exact ⟨_, Sub.refl _, .inl (.inr ⟨_, rfl, rfl⟩)⟩
  | false =>
  cases w3 : r.word.toList == [100, 101, 116, 97, 99, 104] with
  | true =>
    simp -implicitDefEqProofs [go_sem, h1, Rn.cells, w1, w2, w3]
    exact ⟨_, Sub.refl _, .inl (.inl ⟨rfl, rfl⟩)⟩
  | false =>
  cases w4 : r.word.toList == [110, 101, 119, 45, 119, 105, 110, 100, 111, 119] with
  | true =>
    simp -implicitDefEqProofs [go_sem, h1, Rn.cells, w1, w2, w3, w4]
    refine iwp_drawn_allocC mixed 11 [0, 1, 2, 3, 4, 5, 6, 7, 8, 9, 10, 12, 13] (by kernel_rfl) (fun v st d x h => by cases d <;> exact h) (fun v st m h => h) ?_
    simp -implicitDefEqProofs [go_sem, h1, Rn.cells, hreg]
    refine (nsession_c hr hreg).mono ?_
    rintro e h' ⟨rfl, he⟩
    rw [he]
    refine ⟨Sub.refl _, ?_⟩
    simp -implicitDefEqProofs [go_sem]
    exact ⟨_, Sub.refl _, .inl (.inr ⟨_, rfl, rfl⟩)⟩
  | false =>
  cases w5 : r.word.toList == [115, 101, 108, 101, 99, 116, 45, 119, 105, 110, 100, 111, 119] with
  | true =>
    simp -implicitDefEqProofs [go_sem, h1, Rn.cells, w1, w2, w3, w4, w5]
    refine (nwindow_c hr hreg).mono ?_
    rintro e h' ⟨rfl, he⟩
    rw [he]
    simp -implicitDefEqProofs [go_sem]
    exact ⟨_, Sub.refl _, .inl (.inr ⟨_, rfl, rfl⟩)⟩
  | false =>
  cases w6 : r.word.toList == [107, 105, 108, 108, 45, 119, 105, 110, 100, 111, 119] with
  | true =>
    simp -implicitDefEqProofs [go_sem, h1, Rn.cells, w1, w2, w3, w4, w5, w6]
    refine (nwindow_c hr hreg).mono ?_
    rintro e h' ⟨rfl, he⟩
    rw [he]
    simp -implicitDefEqProofs [go_sem]
    exact ⟨_, Sub.refl _, .inl (.inr ⟨_, rfl, rfl⟩)⟩
  | false =>
  cases w7 : r.word.toList == [107, 105, 108, 108, 45, 115, 101, 115, 115, 105, 111, 110] with
  | true =>
    simp -implicitDefEqProofs [go_sem, h1, Rn.cells, w1, w2, w3, w4, w5, w6, w7]
    refine iwp_drawn_call mixed [0, 1, 2, 3, 4, 5, 6, 7, 8] (by kernel_rfl) (fun v st d x h => by cases d <;> exact h) ?_
    simp -implicitDefEqProofs [go_sem, h1, Rn.cells, hreg]
    refine (nsession_c hr hreg).mono ?_
    rintro e h' ⟨rfl, he⟩
    rw [he]
    refine ⟨Sub.refl _, ?_⟩
    simp -implicitDefEqProofs [go_sem]
    exact ⟨_, Sub.refl _, .inl (.inr ⟨_, rfl, rfl⟩)⟩
  | false =>
  simp -implicitDefEqProofs [go_sem, h1, Rn.cells, w1, w2, w3, w4, w5, w6, w7]
  exact ⟨_, Sub.refl _, .inr ⟨rfl, rfl⟩⟩
def npanR (h : Heap) (e : IEnd) (h' : Heap) : Prop := (e = .pan (wrongV 6) ∧ h' = h) ∨ (e = .ret (.tup [.str ⟨#[]⟩, .bool false]) ∧ h' = h)
theorem npanes_c {h b r} (hr : RnAt h b r) (hreg : r.reg = .nilptr) : ICall Tryz.prog 77 [.ptr b 0] h (npanR h) := by
  refine icall_of_iwp (fun _ => 0) Tryz.func77 rfl (by kernel_rfl) (Nat.le_of_ble_eq_true rfl) ?_
  rw [Tryz.results77]
  have h1 := hr.hb
  cases w1 : r.word.toList == [115, 112, 108, 105, 116, 45, 119, 105, 110, 100, 111, 119] with
  | true =>
    simp -implicitDefEqProofs [go_sem, h1, Rn.cells, w1]
    refine (npane_c hr hreg).mono ?_
    rintro e h' ⟨rfl, he⟩
    rw [he]
    simp -implicitDefEqProofs [go_sem]
    exact ⟨_, Sub.refl _, .inl ⟨rfl, rfl⟩⟩
  | false =>
  cases w2 : r.word.toList == [107, 105, 108, 108, 45, 112, 97, 110, 101] with
  | true =>
    simp -implicitDefEqProofs [go_sem, h1, Rn.cells, w1, w2]
    refine (npane_c hr hreg).mono ?_
    rintro e h' ⟨rfl, he⟩
    rw [he]
    simp -implicitDefEqProofs [go_sem]
    exact ⟨_, Sub.refl _, .inl ⟨rfl, rfl⟩⟩
  | false =>
  cases w3 : r.word.toList == [114, 101, 115, 105, 122, 101, 45, 112, 97, 110, 101] with
  | true =>
    simp -implicitDefEqProofs [go_sem, h1, Rn.cells, w1, w2, w3]
    refine (npane_c hr hreg).mono ?_
    rintro e h' ⟨rfl, he⟩
    rw [he]
    simp -implicitDefEqProofs [go_sem]
    exact ⟨_, Sub.refl _, .inl ⟨rfl, rfl⟩⟩
  | false =>
  cases w4 : r.word.toList == [115, 101, 108, 101, 99, 116, 45, 112, 97, 110, 101] with
  | true =>
    simp -implicitDefEqProofs [go_sem, h1, Rn.cells, w1, w2, w3, w4]
    refine (npane_c hr hreg).mono ?_
    rintro e h' ⟨rfl, he⟩
    rw [he]
    simp -implicitDefEqProofs [go_sem]
    exact ⟨_, Sub.refl _, .inl ⟨rfl, rfl⟩⟩
  | false =>
  cases w5 : r.word.toList == [115, 119, 97, 112, 45, 112, 97, 110, 101] with
  | true =>
    simp -implicitDefEqProofs [go_sem, h1, Rn.cells, w1, w2, w3, w4, w5]
    refine (npane_c hr hreg).mono ?_
    rintro e h' ⟨rfl, he⟩
    rw [he]
    simp -implicitDefEqProofs [go_sem]
    exact ⟨_, Sub.refl _, .inl ⟨rfl, rfl⟩⟩
  | false =>
  cases w6 : r.word.toList == [115, 101, 110, 100, 45, 105, 110, 112, 117, 116] with
  | true =>
    simp -implicitDefEqProofs [go_sem, h1, Rn.cells, w1, w2, w3, w4, w5, w6]
    refine (npane_c hr hreg).mono ?_
    rintro e h' ⟨rfl, he⟩
    rw [he]
    simp -implicitDefEqProofs [go_sem]
    exact ⟨_, Sub.refl _, .inl ⟨rfl, rfl⟩⟩
  | false =>
  simp -implicitDefEqProofs [go_sem, h1, Rn.cells, w1, w2, w3, w4, w5, w6]
  exact ⟨_, Sub.refl _, .inr ⟨rfl, rfl⟩⟩
theorem nwindows_c {h b r} (hr : RnAt h b r) (hreg : r.reg = .nilptr) : ICall Tryz.prog 78 [.ptr b 0] h (panP (wrongV 6) h) := by
  refine icall_of_iwp (fun _ => 0) Tryz.func78 rfl (by kernel_rfl) (Nat.le_of_ble_eq_true rfl) ?_
  rw [Tryz.results78]
  simp -implicitDefEqProofs [go_sem]
  refine (nwindow_c hr hreg).mono ?_
  rintro e h' ⟨rfl, he⟩
  rw [he]
  simp -implicitDefEqProofs [go_sem]
  exact ⟨_, Sub.refl _, rfl, rfl⟩
theorem nrun_c {h b r} (hr : RnAt h b r) (hreg : r.reg = .nilptr) (hrest : r.word.toList = [110, 101, 119, 45, 115, 101, 115, 115, 105, 111, 110] ∨ r.word.toList = [97, 116, 116, 97, 99, 104] → ∃ nm, r.rest = [nm] ∧ nm.size < 100000000) :
    ICall Tryz.prog 47 [.ptr b 0] h (nilR h b r (.str ⟨#[]⟩)) := by
  refine icall_of_iwp (fun d => 0) Tryz.func47 rfl (by kernel_rfl) (Nat.le_of_ble_eq_true rfl) ?_
  rw [Tryz.results47]
  simp -implicitDefEqProofs [go_sem]
  refine (nsessions_c hr hreg hrest).mono ?_
  rintro e h' ((⟨rfl, he⟩ | ⟨x, rfl, he⟩) | ⟨rfl, he⟩)
  · rw [he]
    simp -implicitDefEqProofs [go_sem]
    exact ⟨_, Sub.refl _, .inl ⟨rfl, rfl⟩⟩
  · rw [he]
    simp -implicitDefEqProofs [go_sem]
    exact ⟨_, Sub.refl _, .inr ⟨x, rfl, rfl⟩⟩
  rw [he]
  simp -implicitDefEqProofs [go_sem]
  refine (npanes_c hr hreg).mono ?_
  rintro e h' (⟨rfl, he⟩ | ⟨rfl, he⟩)
  · rw [he]
    simp -implicitDefEqProofs [go_sem]
    exact ⟨_, Sub.refl _, .inr ⟨6, rfl, rfl⟩⟩
  rw [he]
  simp -implicitDefEqProofs [go_sem]
  refine (nwindows_c hr hreg).mono ?_
  rintro e h' ⟨rfl, he⟩
  rw [he]
  simp -implicitDefEqProofs [go_sem]
  exact ⟨_, Sub.refl _, .inr ⟨6, rfl, rfl⟩⟩
end Go.Proofs

set_option linter.unusedVariables false
set_option linter.unusedSimpArgs false
set_option pp.deepTerms false
set_option pp.maxSteps 500
namespace Go.Proofs
open Go.Idl

/-! one command -/
theorem run_new {h : Heap} {b : Nat} {text : ByteArray} {P : Heap → Prop} (hs : ICall Tryz.prog 76 [.ptr b 0] h fun e h' => e = .ret (.tup [.str text, .bool true]) ∧ P h') : ICall Tryz.prog 47 [.ptr b 0] h fun e h' => e = .ret (.str text) ∧ P h' := by
  refine icall_of_iwp (fun d => 0) Tryz.func47 rfl (by kernel_rfl) (Nat.le_of_ble_eq_true rfl) ?_
  rw [Tryz.results47]
  simp -implicitDefEqProofs [go_sem]
  refine hs.mono ?_
  rintro e h' ⟨rfl, hp⟩
  simp -implicitDefEqProofs [go_sem]
  exact ⟨_, Sub.refl _, hp⟩
theorem run_spl {h : Heap} {b : Nat} {text : ByteArray} {P : Heap → Prop} (hs : ICall Tryz.prog 76 [.ptr b 0] h (retP (.tup [.str ⟨#[]⟩, .bool false]) h))
    (hp : ICall Tryz.prog 77 [.ptr b 0] h fun e h' => e = .ret (.tup [.str text, .bool true]) ∧ P h') : ICall Tryz.prog 47 [.ptr b 0] h fun e h' => e = .ret (.str text) ∧ P h' := by
  refine icall_of_iwp (fun d => 0) Tryz.func47 rfl (by kernel_rfl) (Nat.le_of_ble_eq_true rfl) ?_
  rw [Tryz.results47]
  simp -implicitDefEqProofs [go_sem]
  refine hs.mono ?_
  rintro e h' ⟨rfl, rfl⟩
  simp -implicitDefEqProofs [go_sem]
  refine hp.mono ?_
  rintro e h' ⟨rfl, hp⟩
  simp -implicitDefEqProofs [go_sem]
  exact ⟨_, Sub.refl _, hp⟩
theorem one1_none (b4 b6 b7 b8 : Nat) (h : Heap) : ICallD Tryz.prog 45 [.ptr b4 0, .ptr b6 0, .ptr b7 0, .ptr b8 0] none h (fun h' => h' = h) := by
  refine icalld_of_iwp (fun _ => 0) Tryz.func45 rfl (by kernel_rfl) (Nat.le_of_ble_eq_true rfl) ?_
  simp -implicitDefEqProofs [go_sem]
  exact Sub.refl _
def leftR (k : Nat) (tag : Nat → Nat × Nat × Nat) (h : Heap) (rb : Nat) (P : RG → Prop) (h' : Heap) : Prop := ∃ tag2 R', RegAt k tag2 h' rb R' ∧ P R' ∧ Frm2 k tag h tag2 h'
set_option maxRecDepth 20000 in
set_option maxHeartbeats 1000000 in
theorem cone_c {k tag h rb R} {rd : ByteArray → Int × Int} {nm : ByteArray → UInt8 → Int × Int} (hR : RegAt k tag h rb R) (seat : Int) (l : List ByteArray) (hl : l.length ≤ 100000) (hN : ∀ h, BegOkN rd nm l h) (text : ByteArray) (seat' : Int) (P : RG → Prop) {w m rest ns} (hb : beginV rd nm l = .inr (w, m, rest, ns))
    (hrun : ∀ tag1 b mo mn h1, RegAt k tag1 h1 rb R → (tag1 b).1 ≠ k → (tag1 b).1 ≠ k + 1 → RnAt h1 b ⟨.ptr rb 0, seat, w, mo, mn, m, rest, ns⟩ → ICall Tryz.prog 47 [.ptr b 0] h1 fun e h' => e = .ret (.str text) ∧ leftR k tag1 (upd h1 b (some (.cells (Rn.cells ⟨.ptr rb 0, seat', w, mo, mn, m, rest, ns⟩)))) rb P h') :
    ICall Tryz.prog 23 [.ptr rb 0, .int .i64 seat, .list .plain (l.map strRow)] h fun e h' => e = .ret (.tup [.int .i64 seat', .str text, .int .i64 0]) ∧ leftR k tag h rb P h' := by
  refine icall_defer (fun d => if d = 4 then 1 else if d = 6 then 1 else if d = 7 then 1 else if d = 8 then 1 else 0) Tryz.func23 rfl (by kernel_rfl) (Nat.le_of_ble_eq_true rfl) ?_
  rw [Tryz.results23]
  simp -implicitDefEqProofs [go_sem]
  intro b4 g4 b6 g6 b7 g7 b8 g8
  have m4 : h b4 = none := g4
  have m6 := upd_none.1 (show upd h b4 (some (.cells [.int .i64 seat])) b6 = none by unfold upd; exact g6)
  have m7 := upd_none.1 (show upd (upd h b4 (some (.cells [.int .i64 seat]))) b6 (some (.cells [.int .i64 0])) b7 = none by unfold upd; exact g7)
  have m7' := upd_none.1 m7.2
  have m8 := upd_none.1 (show upd (upd (upd h b4 (some (.cells [.int .i64 seat]))) b6 (some (.cells [.int .i64 0]))) b7 (some (.cells [.str ⟨#[]⟩])) b8 = none by unfold upd; exact g8)
  have m8' := upd_none.1 m8.2
  have m8'' := upd_none.1 m8'.2
  have n64 := m6.1
  have n76 := m7.1
  have n74 := m7'.1
  have n87 := m8.1
  have n86 := m8'.1
  have n84 := m8''.1
  have hs0 : Sub h (upd (upd (upd (upd h b4 (some (IObj.cells [.int .i64 seat]))) b6 (some (IObj.cells [.int .i64 0]))) b7 (some (IObj.cells [.str ⟨#[]⟩]))) b8 (some (IObj.cells [.int .i64 0]))) := ((((Sub.refl h).upd m4 _).upd m6.2 _).upd m7'.2 _).upd m8''.2 _
  simp -implicitDefEqProofs [go_sem, n64, n76, n74, n87, n86, n84, n64.symm, n76.symm, n74.symm, n87.symm, n86.symm, n84.symm]
  refine (begin_c (.ptr rb 0) (.inr ⟨rb, rfl⟩) seat l _ hl (hN _)).mono ?_
  intro e h1 hB
  rw [begR, hb] at hB
  obtain ⟨b, mo, mn, rfl, hb0, hmo, hmn, hs1, hr1⟩ := hB
  have hs01 : Sub h h1 := fun j o q => hs1 j o (hs0 j o q)
  have hbn : h b = none := by cases hq : h b with
    | none => rfl
    | some o => rw [hs0 b o hq] at hb0; cases hb0
  have tbn : ∀ j, h j = none → tagS k h tag j = (k + 2, 0, 0) := fun j hj => by unfold tagS; rw [hj]
  have x4 : b4 ≠ b := by rintro rfl; simp [upd, n64.symm, n74.symm, n84.symm] at hb0
  have x6 : b6 ≠ b := by rintro rfl; simp [upd, n76.symm, n86.symm] at hb0
  have x7 : b7 ≠ b := by rintro rfl; simp [upd, n87.symm] at hb0
  have x8 : b8 ≠ b := by rintro rfl; simp [upd] at hb0
  have hk1 : (k + 2 : Nat) ≠ k := by omega
  have hk2 : (k + 2 : Nat) ≠ k + 1 := by omega
  simp -implicitDefEqProofs [go_sem]
  refine (hrun (tagS k h tag) b mo mn h1 (hR.sub hs01) (by rw [tbn b hbn]; exact hk1) (by rw [tbn b hbn]; exact hk2) hr1).mono ?_
  rintro e h2 ⟨rfl, tag2, R', hR2, hP, hF2⟩
  have kp : ∀ j o, h1 j = some o → j ≠ b → (tagS k h tag j).1 ≠ k → (tagS k h tag j).1 ≠ k + 1 → h2 j = some o ∧ tag2 j = tagS k h tag j := fun j o hj hjb t1 t2 => hF2 j o (by rw [upd_ne _ _ hjb]; exact hj) t1 t2
  have y4 := kp b4 (.cells [.int .i64 seat]) (hs1 _ _ (by simp [upd, n64.symm, n74.symm, n84.symm])) x4 (by rw [tbn b4 m4]; exact hk1) (by rw [tbn b4 m4]; exact hk2)
  have y6 := kp b6 (.cells [.int .i64 0]) (hs1 _ _ (by simp [upd, n76.symm, n86.symm])) x6 (by rw [tbn b6 m6.2]; exact hk1) (by rw [tbn b6 m6.2]; exact hk2)
  have y7 := kp b7 (.cells [.str ⟨#[]⟩]) (hs1 _ _ (by simp [upd, n87.symm])) x7 (by rw [tbn b7 m7'.2]; exact hk1) (by rw [tbn b7 m7'.2]; exact hk2)
  have y8 := kp b8 (.cells [.int .i64 0]) (hs1 _ _ (by simp [upd])) x8 (by rw [tbn b8 m8''.2]; exact hk1) (by rw [tbn b8 m8''.2]; exact hk2)
  have yb := hF2 b _ (upd_same _ _ _) (by rw [tbn b hbn]; exact hk1) (by rw [tbn b hbn]; exact hk2)
  rw [tbn b6 m6.2] at y6
  rw [tbn b7 m7'.2] at y7
  rw [tbn b8 m8''.2] at y8
  have q4 := y4.1
  have q6 := y6.1
  have q7 := y7.1
  have q8 := y8.1
  have qb := yb.1
  have fin : ∀ o6 o7 o7' o8, leftR k tag h rb P (upd (upd (upd (upd h2 b7 o7) b6 o6) b7 o7') b8 o8) := fun o6 o7 o7' o8 => by
    refine ⟨tag2, R', (((hR2.foreign (by rw [y7.2]; exact hk1) (by rw [y7.2]; exact hk2) _).foreign (by rw [y6.2]; exact hk1) (by rw [y6.2]; exact hk2) _).foreign (by rw [y7.2]; exact hk1) (by rw [y7.2]; exact hk2) _).foreign (by rw [y8.2]; exact hk1) (by rw [y8.2]; exact hk2) _, hP, fun j o hj t1 t2 => ?_⟩
    have tj : tagS k h tag j = tag j := by unfold tagS; rw [hj]
    have z : ∀ i, h i = none → j ≠ i := by rintro i hi rfl; rw [hi] at hj; cases hj
    have := kp j o (hs01 j o hj) (z b hbn) (by rw [tj]; exact t1) (by rw [tj]; exact t2)
    rw [upd_ne _ _ (z b8 m8''.2), upd_ne _ _ (z b7 m7'.2), upd_ne _ _ (z b6 m6.2), upd_ne _ _ (z b7 m7'.2), ← tj]
    exact this
  simp -implicitDefEqProofs [go_sem, q7, q6, q8, qb, x7, x7.symm, x6, x6.symm, x8, x8.symm]
  refine iwp_drawn_tree mixed [0, 1, 2, 3, 4, 5, 6, 7] (.alt 0 (.alt 1 (.alt 2 (.alt 3 (.alt 4 (.alt 5 (.alt 6 (.alt 7 .done .none) .none) .none) (.alt 5 (.alt 4 (.alt 6 (.alt 7 .done .none) .none) .none) .none)) (.alt 4 (.alt 3 (.alt 5 (.alt 6 (.alt 7 .done .none) .none) .none) .none) .none)) (.alt 4 (.alt 2 (.alt 3 (.alt 5 (.alt 6 (.alt 7 .done .none) .none) .none) .none) .none) .none)) (.alt 4 (.alt 1 (.alt 2 (.alt 3 (.alt 5 (.alt 6 (.alt 7 .done .none) .none) .none) .none) .none) .none) .none)) (.alt 4 (.alt 0 (.alt 1 (.alt 2 (.alt 3 (.alt 5 (.alt 6 (.alt 7 .done .none) .none) .none) .none) .none) .none) .none) .none)) (by kernel_rfl) ?_
  simp -implicitDefEqProofs [go_sem, q7, q6, q8, qb, x7, x7.symm, x6, x6.symm, x8, x8.symm, n76, n76.symm, n87, n87.symm, n86, n86.symm, Rn.cells]
  refine (one1_none b4 b6 b7 b8 _).mono ?_
  rintro h3 rfl
  simp -implicitDefEqProofs [go_sem, n76, n76.symm, n87, n87.symm, n86, n86.symm]
  exact ⟨_, Sub.refl _, fin _ _ _ _⟩
end Go.Proofs

set_option linter.unusedVariables false
set_option linter.unusedSimpArgs false
set_option pp.deepTerms false
set_option pp.maxSteps 500
namespace Go.Proofs
open Go.Idl

/-! replies; a line of commands -/
def okW : ByteArray := ⟨#[111, 107]⟩
def replyV (text : ByteArray) (e : Int) : ByteArray := if e ≠ 0 then ⟨#[101, 114, 114, 111, 114, 32]⟩ ++ digL [e] else if text = ⟨#[]⟩ then ⟨#[111, 107]⟩ else ⟨#[111, 107, 32]⟩ ++ text
theorem reply_c (text : ByteArray) (e : Int) (h : Heap) (ht : text.size < 1000000000000) (hi : 0 ≤ e → e ≤ 2147483647 → ICall Tryz.prog 102 [.int .i64 e] h (retP (.str (itoaB e)) h)) :
    ICall Tryz.prog 21 [.str text, .int .i64 e] h (retP (.str (replyV text e)) h) := by
  refine icall_of_iwp (fun d => 0) Tryz.func21 rfl (by kernel_rfl) (Nat.le_of_ble_eq_true rfl) ?_
  rw [Tryz.results21]
  by_cases he : e = 0
  · subst he
    have hz : 3 + text.size ≤ 9223372036854775807 := by omega
    by_cases ht0 : text = ⟨#[]⟩
    · subst ht0
      simp -implicitDefEqProofs [go_sem]
      exact ⟨_, Sub.refl _, rfl, rfl⟩
    · have hb : (text.toList == ([] : List UInt8)) = false := by
        cases hq : text.toList == ([] : List UInt8) with
        | false => rfl
        | true =>
          exfalso; apply ht0
          have h1 : text.toList = [] := by simpa using hq
          rw [ByteArray.toList_eq] at h1
          exact ByteArray.ext (Array.toList_inj.1 (by rw [h1]))
      simp -implicitDefEqProofs [go_sem, hb, hz]
      exact ⟨_, Sub.refl _, by rw [replyV, if_neg (by omega), if_neg ht0], rfl⟩
  · have hne : (e != 0) = true := by simpa using he
    simp -implicitDefEqProofs [go_sem, hne]
    refine (Digits_c [e] h (by simp) (fun n hn h0 h1 => by simp at hn; subst hn; exact hi h0 h1)).mono ?_
    rintro x h' ⟨rfl, rfl⟩
    have hd := digB_len e
    have hd2 : (digB e).data.toList.length = (digB e).size := by simp
    have hz : 6 + (digL [e]).size ≤ 9223372036854775807 := by rw [digL_one]; omega
    simp -implicitDefEqProofs [go_sem, hz]
    exact ⟨_, Sub.refl _, by rw [replyV, if_pos he], rfl⟩
theorem range_map_succ {α : Type} (f : Nat → α) (i : Nat) : (List.range (i + 1)).map f = (List.range i).map f ++ [f i] := by rw [List.range_succ, List.map_append]; rfl
set_option maxRecDepth 20000 in
set_option maxHeartbeats 1000000 in
theorem crun_c {k tag h rb R} (hR : RegAt k tag h rb R) (seats : Nat → Int) (cmds : List (List ByteArray)) (texts : Nat → ByteArray) (P : Nat → RG → Prop) (line : ByteArray) (hsz : line.size < 4611686018427387904) (hcut : wcutV line = some cmds) (hn : cmds.length ≤ 100000) (h0 : P 0 R) (ht : ∀ i, (texts i).size < 1000000000000)
    (hone : ∀ i (hi : i < cmds.length) tag h R, RegAt k tag h rb R → P i R → ICall Tryz.prog 23 [.ptr rb 0, .int .i64 (seats i), .list .plain (cmds[i].map strRow)] h fun e h' => e = .ret (.tup [.int .i64 (seats (i + 1)), .str (texts i), .int .i64 0]) ∧ leftR k tag h rb (P (i + 1)) h') :
    ICall Tryz.prog 7 [.ptr rb 0, .int .i64 (seats 0), .str line] h fun e h' => e = .ret (.tup [.int .i64 (seats cmds.length), .list .plain (((List.range cmds.length).map fun i => replyV (texts i) 0).map strRow)]) ∧ leftR k tag h rb (P cmds.length) h' := by
  refine icall_of_iwp (fun d => 0) Tryz.func7 rfl (by kernel_rfl) (Nat.le_of_ble_eq_true rfl) ?_
  rw [Tryz.results7]
  simp -implicitDefEqProofs [go_sem]
  refine (wcut_c line h hsz).mono ?_
  intro e h1 hc
  obtain ⟨rfl, rfl⟩ : e = .ret (.tup [.list .plain (cmds.map cmdRow), .niliface]) ∧ h1 = h := by
    rcases hc with ⟨cs, hcs, he, hh⟩ | ⟨hcs, _⟩
    · rw [hcut] at hcs; cases hcs; exact ⟨he, hh⟩
    · rw [hcut] at hcs; cases hcs
  simp -implicitDefEqProofs [go_sem]
  refine iwp_loopF (rng [1, 10, 12, 13, 14, 15] 30 52) nom (fun s => ∃ i v, i ≤ cmds.length ∧ s.t 30 = .int .i64 i ∧ s.t 1 = .int .i64 (seats i) ∧ s.t 10 = v ∧ Idl.Own [47] s.x 9 v (((List.range i).map fun i => replyV (texts i) 0).map strRow) ∧ leftR k tag h1 rb (P i) s.h) (fun s => cmds.length - tn (s.t 30)) ?_ ?_
  · exact ⟨0, .list .tight [], Nat.zero_le _, by simp -implicitDefEqProofs [go_sem], by simp -implicitDefEqProofs [go_sem], by simp -implicitDefEqProofs [go_sem], Idl.Own.tight, tag, R, by simpa -implicitDefEqProofs [go_sem] using hR, h0, by simpa -implicitDefEqProofs [go_sem] using Frm2.refl k tag h1⟩
  rintro J s hJ hf ⟨i, v, hle, h30, h1', h10, ho, tag1, R1, hR1, hP1, hF1⟩
  simp -implicitDefEqProofs [go_sem, h30, hf.t, hf.m]
  refine cK_dec (fun hlt => ?_) (fun hge => ?_)
  · have hlt' : i < cmds.length := by omega
    have hw := wrap_succ (i := i) (by omega)
    have hg : cmds[i]? = some cmds[i] := List.getElem?_eq_getElem hlt'
    have hO := hone i hlt' tag1 s.h R1 hR1 hP1
    simp -implicitDefEqProofs [go_sem, h30, h1', h10, hf.t, hf.m, hlt', hg, cmdRow]
    refine hO.mono ?_
    rintro e h2 ⟨rfl, tag2, R2, hR2, hP2, hF2⟩
    simp -implicitDefEqProofs [go_sem, h30, h1', h10, hf.t, hf.m]
    refine (reply_c (texts i) 0 h2 (ht i) (fun _ _ => itoaS_c 0 (by omega) h2)).mono ?_
    rintro e h3 ⟨rfl, he⟩
    rw [he]
    simp -implicitDefEqProofs [go_sem, h30, h1', h10, hf.t, hf.m]
    refine aK_own (z := 1) (S := [47]) ho (by simp) elT_23 elZ_9 (by simp [roomy, byT_9]; omega) (strs_uni _) (by simp [uni]) ?_
    intro r x' ho' _
    simp -implicitDefEqProofs [go_sem, h30, h1', h10, hf.t, hf.m, hf, hw]
    refine hJ _ ⟨i + 1, r, by omega, by simp -implicitDefEqProofs [go_sem, hw], by simp -implicitDefEqProofs [go_sem], by simp -implicitDefEqProofs [go_sem], ?_, tag2, R2, by simpa -implicitDefEqProofs [go_sem] using hR2, hP2, by simpa -implicitDefEqProofs [go_sem] using hF1.trans hF2⟩ (by simp [go_sem, h30, hw]; omega)
    show Idl.Own [47] x' _ r _
    rw [range_map_succ, List.map_append, List.map_singleton]
    exact ho'
  · obtain rfl : i = cmds.length := by omega
    simp -implicitDefEqProofs [go_sem, h30, h1', h10, hf.t, hf.m, ho.strip]
    exact ⟨_, Sub.refl _, tag1, R1, hR1, hP1, hF1⟩
end Go.Proofs

set_option linter.unusedVariables false
set_option linter.unusedSimpArgs false
set_option pp.deepTerms false
set_option pp.maxSteps 500
namespace Go.Proofs
open Go.Idl

/-! the document's example of commands -/
theorem bsq (x y : ByteArray) : (x.toList == y.toList) = decide (x = y) := by
  rw [Bool.eq_iff_iff]
  simp only [beq_iff_eq, decide_eq_true_eq]
  exact ⟨fun h => by rw [ByteArray.toList_eq, ByteArray.toList_eq] at h; exact ByteArray.ext (Array.toList_inj.1 h), fun h => by rw [h]⟩
set_option maxRecDepth 20000 in
theorem same20_c (l m : List ByteArray) (h : Heap) (hl : l.length < 100000000000) : ICall Tryz.prog 19 [.list .plain (l.map strRow), .list .plain (m.map strRow)] h (retP (.bool (decide (l = m))) h) := by
  refine icall_of_iwp (fun _ => 0) Tryz.func19 rfl (by kernel_rfl) (Nat.le_of_ble_eq_true rfl) ?_
  rw [Tryz.results19]
  simp -implicitDefEqProofs [go_sem]
  by_cases hlm : l.length = m.length
  case neg =>
    have hq : ((l.length : Int) != (m.length : Int)) = true := by simpa using fun h => hlm (by omega)
    have : ¬ l = m := fun e => by rw [e] at hlm; exact absurd rfl hlm
    simp -implicitDefEqProofs [go_sem, hq]
    exact ⟨_, Sub.refl _, by simp [this], rfl⟩
  have hq : ((l.length : Int) != (m.length : Int)) = false := by simp; omega
  simp -implicitDefEqProofs [go_sem, hq]
  refine iwp_loopF (rng [5] 13 26) nom (fun s => ∃ i, i ≤ l.length ∧ s.t 13 = .int .i64 i ∧ s.h = h ∧ ∀ j, j < i → l[j]? = m[j]?) (fun s => l.length - tn (s.t 13)) ?_ ?_
  · exact ⟨0, Nat.zero_le _, by simp -implicitDefEqProofs [go_sem], by simp -implicitDefEqProofs [go_sem], fun _ h => by omega⟩
  rintro J s hJ hf ⟨i, hi, h13, hh, hno⟩
  simp -implicitDefEqProofs [go_sem, h13, hh, hf.t, hf.m]
  refine cK_dec (fun hlt => ?_) (fun hge => ?_)
  · have hlt' : i < l.length := by omega
    have hlt2 : i < m.length := by omega
    have hg : l[i]? = some l[i] := List.getElem?_eq_getElem hlt'
    have hg2 : m[i]? = some m[i] := List.getElem?_eq_getElem hlt2
    have hw := wrap_succ (i := i) (by omega)
    obtain ⟨x, hx⟩ : ∃ x, l[i] = x := ⟨_, rfl⟩
    obtain ⟨y, hy⟩ : ∃ y, m[i] = y := ⟨_, rfl⟩
    rw [hx] at hg
    rw [hy] at hg2
    simp -implicitDefEqProofs [go_sem, h13, hh, hf.t, hf.m]
    refine iwp_drawn_of mixed [0, 1, 2, 3, 4, 5, 6, 7, 8] (by kernel_rfl) ?_
    simp -implicitDefEqProofs [go_sem, h13, hh, hf.t, hf.m, hlt', hlt2, hg, hg2, hx, hy, strRow]
    cases hb : x.toList == y.toList with
    | false =>
      have hne : x ≠ y := fun e => by rw [e] at hb; simp at hb
      have : ¬ l = m := fun e => by subst e; rw [hg] at hg2; cases hg2; exact hne rfl
      simp -implicitDefEqProofs [go_sem, h13, hh, hf.t, hf.m]
      exact ⟨_, Sub.refl _, by simp [this], rfl⟩
    | true =>
      have he : x = y := by rw [bsq] at hb; simpa using hb
      simp -implicitDefEqProofs [go_sem, h13, hh, hf.t, hf.m, hf, hw]
      refine hJ _ ⟨i + 1, by omega, by simp -implicitDefEqProofs [go_sem, hw], by simp -implicitDefEqProofs [go_sem, hh], fun j hj => ?_⟩ (by simp [go_sem, h13, hw]; omega)
      by_cases e : j = i
      · subst e; rw [hg, hg2, he]
      · exact hno j (by omega)
  · have hlm2 : l = m := List.ext_getElem? fun j => by
      by_cases hj : j < l.length
      · exact hno j (by omega)
      · rw [List.getElem?_eq_none (by omega), List.getElem?_eq_none (by omega)]
    simp -implicitDefEqProofs [go_sem, h13, hh, hf.t, hf.m]
    exact ⟨_, Sub.refl _, by simp [hlm2], rfl⟩
structure St0 (R : RG) : Prop where
  ns : R.ns = 0
  nw : R.nw = 0
  np : R.np = 0
  mkn : R.mkr = .nilfn
  L : R.L = []
  ses : R.ses = []
  win : R.win = []
  own : R.own = []
structure St1 (R : RG) : Prop where
  mkn : R.mkr = .nilfn
  np : R.np = 1
  win : R.win = [(0, wA)]
  own : R.own = [(0, 0)]
  ses : ∃ s, R.ses = [s] ∧ s.id = 0 ∧ s.cur = 0 ∧ s.wins = [0]
  L : R.L.map (·.m) = [⟨0, true, 80, 24, [⟨1, 80, 24, ⟨#[]⟩⟩], false⟩]
theorem St0.beg {R : RG} (o : St0 R) : BegOk R := by
  obtain ⟨h1, h2, h3, h4, h5, h6, h7, h8⟩ := o
  exact ⟨h4, ⟨by simp [h6], by simp [h6], by simp [h6], by simp [h6]⟩, ⟨by simp [h5], by simp [h5], by simp [h7], by simp [h6]⟩, by omega, by simp [h6], by omega, by omega, by simp [h7], by simp [h8], by simp [h5], by rw [h5]; intro p hp; simp at hp⟩
def mainB : ByteArray := ⟨#[109, 97, 105, 110]⟩
theorem St0.begE {R : RG} (o : St0 R) : Go.Proofs.begE R mainB 80 24 = 0 := by
  obtain ⟨ns, nw, np, mkr, bb, mb, recb, sesb, winb, ownb, L, ses, win, own⟩ := R
  obtain ⟨h1, h2, h3, h4, h5, h6, h7, h8⟩ := o
  simp only at h1 h2 h3 h4 h5 h6 h7 h8
  subst h1 h2 h3 h4 h5 h6 h7 h8
  rw [Go.Proofs.begE, if_pos (by decide +kernel)]; rfl
def rd0 (_ : ByteArray) : Int × Int := (0, 0)
def nm0 (_ : ByteArray) (_ : UInt8) : Int × Int := (0, 0)
def newB : ByteArray := ⟨#[110, 101, 119, 45, 115, 101, 115, 115, 105, 111, 110]⟩
def splB : ByteArray := ⟨#[115, 112, 108, 105, 116, 45, 119, 105, 110, 100, 111, 119]⟩
def hB : ByteArray := ⟨#[45, 104]⟩
theorem beg_new : beginV rd0 nm0 [newB, mainB] = .inr (newB, [], [mainB], []) := by decide +kernel
theorem beg_spl : beginV rd0 nm0 [splB, hB] = .inr (splB, [(104, ⟨#[]⟩)], [], []) := by decide +kernel
theorem cut22 : wcutV ⟨#[110, 101, 119, 45, 115, 101, 115, 115, 105, 111, 110, 32, 109, 97, 105, 110, 59, 32, 115, 112, 108, 105, 116, 45, 119, 105, 110, 100, 111, 119, 32, 45, 104]⟩ = some [[newB, mainB], [splB, hB]] := by decide +kernel
def noNum (l : List ByteArray) (w : ByteArray) : Bool := (formT w.toList).all fun f => match optZ l f.values with
  | .inr (_, m) => letters.all fun c => (getO m c).isNone || decide (Lib.indexByte f.values.data.toList c < 0)
  | _ => true
theorem opt_no {w : ByteArray} {r : List ByteArray} (hz : noNum (w :: r) w = true) (h : Heap) : BegOkN rd0 nm0 (w :: r) h := by
  intro w' r' f i m e hf ho
  cases e
  rw [noNum, hf, Option.all_some, ho, List.all_eq_true] at hz
  have key : ∀ c s, c ∈ letters → getO m c = some s → ¬ Lib.indexByte f.values.data.toList c < 0 → False := fun c s hc hg hn => by
    have := hz c hc
    rw [hg] at this
    simp [hn] at this
  exact ⟨fun c s hc hg hn => (key c s hc hg hn).elim, fun c s g hc hg hn => (key c s hc hg hn).elim⟩
theorem no_new : noNum [newB, mainB] newB = true := by decide +kernel
theorem no_spl : noNum [splB, hB] splB = true := by decide +kernel
end Go.Proofs

set_option linter.unusedVariables false
set_option linter.unusedSimpArgs false
set_option pp.deepTerms false
set_option pp.maxSteps 500
namespace Go.Proofs
open Go.Idl

theorem itoaN (n : Int) (l : List Int) (hl : ∀ n ∈ l, 0 ≤ n ∧ n < 100) : ∀ n ∈ l, 0 ≤ n → n ≤ 2147483647 → ∀ h, ICall Tryz.prog 102 [.int .i64 n] h (retP (.str (itoaB n)) h) := fun n hn h0 _ h => by
  obtain ⟨k, rfl⟩ : ∃ k : Nat, n = k := ⟨n.toNat, by omega⟩
  exact itoaS_c k (by have := hl _ hn; omega) h
def text0 : ByteArray := joinB ([36, 64, 37].map (plc 0 0 0)) ⟨#[32]⟩
def text1 : ByteArray := joinB ([37].map (plc 0 0 1)) ⟨#[32]⟩
set_option maxHeartbeats 1000000 in
theorem one_new {k tag h rb R} (hR : RegAt k tag h rb R) (o : St0 R) : ICall Tryz.prog 23 [.ptr rb 0, .int .i64 (-1), .list .plain ([newB, mainB].map strRow)] h fun e h' => e = .ret (.tup [.int .i64 0, .str text0, .int .i64 0]) ∧ leftR k tag h rb St1 h' := by
  refine cone_c (w := newB) (m := []) (rest := [mainB]) (ns := []) hR (-1) [newB, mainB] (by simp) (opt_no no_new) text0 0 St1 beg_new ?_
  intro tag1 b mo mn h1 hR1 hb1 hb2 hr
  have hns : R.ns = 0 := o.ns
  have hs := sessions_new (nm := mainB) hR1 hr hb1 hb2 rfl (show newB.toList = newsW from by decide +kernel) rfl rfl rfl o.beg (by decide) o.begE (itoaN 0 _ (by rw [o.ns, o.nw, o.np]; simp))
  refine (run_new hs).mono ?_
  rintro e h' ⟨rfl, h2, ⟨sb, tag2, hh1, hF, ⟨_, tag3, wb, cap, pb, rc, L1, hR3, hF3, hS3, hL3⟩⟩, rfl⟩
  have hFF := hF.trans hF3
  obtain ⟨fb1, fb2⟩ := hFF b _ hr.hb hb1 hb2
  refine ⟨by rw [o.ns, o.nw, o.np]; rfl, tag3, _, hR3.foreign (by rw [fb2]; exact hb1) (by rw [fb2]; exact hb2) _, ?_, ?_⟩
  · obtain ⟨ns, nw, np, mkr, bb, mb, recb, sesb, winb, ownb, L, ses, win, own⟩ := R
    obtain ⟨q1, q2, q3, q4, q5, q6, q7, q8⟩ := o
    simp only at q1 q2 q3 q4 q5 q6 q7 q8
    subst q1 q2 q3 q4 q5 q6 q7 q8
    exact ⟨rfl, rfl, rfl, rfl, ⟨_, rfl, rfl, rfl, rfl⟩, hL3⟩
  · have := hFF.foreign (b := b) ⟨_, hr.hb⟩ (some (.cells (Rn.cells ⟨.ptr rb 0, 0, newB, mo, mn, [], [mainB], []⟩)))
    rw [hns]
    exact this
theorem updh_self {h : Heap} {b : Nat} {o : IObj} (hb : h b = some o) : upd h b (some o) = h := by
  funext j
  by_cases e : j = b
  · subst e; rw [upd_same, hb]
  · rw [upd_ne _ _ e]
theorem St1.spl {R : RG} (o : St1 R) : SplOk R := by
  obtain ⟨h1, h2, h3, h4, ⟨s, h5, h6, h7, h8⟩, h9⟩ := o
  have hpm : ∀ p ∈ R.L, p.m = ⟨0, true, 80, 24, [⟨1, 80, 24, ⟨#[]⟩⟩], false⟩ := fun p hp => by
    have := List.mem_map_of_mem (f := (·.m)) hp
    rw [h9] at this; simpa using this
  have hl1 : R.L.length = 1 := by have := congrArg List.length h9; simpa using this
  have in0 : inR 0 := by unfold inR; omega
  exact ⟨h1, ⟨by rw [h3]; intro p hp; simp at hp; rw [hp]; exact in0, by rw [h3]; simp, by rw [h3]; simp, by rw [h3]; intro p hp; simp at hp; rw [hp]; decide +kernel⟩, ⟨by intro p hp; rw [hpm p hp]; exact in0, by rw [hl1]; omega, by rw [h3]; simp, by rw [h5]; simp⟩, by rw [h2]; omega, by rw [h2]; intro p hp; rw [hpm p hp]; simp, by
    rw [h9]; intro p hp; simp at hp; rw [hp]; simp⟩
set_option maxHeartbeats 1000000 in
theorem one_spl {k tag h rb R} (hR : RegAt k tag h rb R) (o : St1 R) : ICall Tryz.prog 23 [.ptr rb 0, .int .i64 0, .list .plain ([splB, hB].map strRow)] h fun e h' => e = .ret (.tup [.int .i64 0, .str text1, .int .i64 0]) ∧ leftR k tag h rb (fun _ => True) h' := by
  refine cone_c (w := splB) (m := [(104, ⟨#[]⟩)]) (rest := []) (ns := []) hR 0 [splB, hB] (by simp) (opt_no no_spl) text1 0 (fun _ => True) beg_spl ?_
  intro tag1 b mo mn h1 hR1 hb1 hb2 hr
  obtain ⟨s, hs1, hs2, hs3, hs4⟩ := o.ses
  have hwin := o.win
  have hro : RunOk R ⟨.ptr rb 0, 0, splB, mo, mn, [(104, ⟨#[]⟩)], [], []⟩ rb s wA := ⟨rfl, by rw [hs1]; simp [hs2], by rw [hs1]; intro s' hs'; simp at hs'; rw [hs', hs4]; simp, by rw [hwin, hs3]; rfl, o.spl.win⟩
  have hfp : findP R wA.act = some (s.cur, wA) := by rw [findP, hwin, hs3]; exact List.find?_cons_of_pos (by decide +kernel)
  have how : ownOf R s.cur = 0 := by rw [ownOf, o.own, hs3]; rfl
  have hnp : ¬ 4096 ≤ R.np' := by rw [RG.np', o.L]; decide +kernel
  have hw : splB.toList = splW := by decide +kernel
  have hp := panes_spl hR1 hr hro hw rfl rfl rfl hfp o.spl (fun _ => (wB, 0)) (fun p hp => by
    rw [hwin] at hp
    simp at hp
    subst hp
    rw [o.np]
    exact ⟨by decide +kernel, fun h => split_c h⟩) rfl hnp (itoaN 0 _ (by rw [how, hs3, o.np]; simp))
  refine (run_spl (sessions_spl hr hw) hp).mono ?_
  rintro e h' ⟨rfl, hS⟩
  simp only [splitR, hfp, if_neg hnp, ne_eq, not_true_eq_false, if_false] at hS
  obtain ⟨_, i, tag4, pb2, rc2, L2, hi, hR4, hF4, hS4, hL4⟩ := hS
  refine ⟨by rw [how, hs3, o.np]; rfl, tag4, _, hR4, trivial, ?_⟩
  rw [updh_self hr.hb]
  exact hF4
end Go.Proofs

set_option linter.unusedVariables false
set_option linter.unusedSimpArgs false
set_option pp.deepTerms false
set_option pp.maxSteps 500
namespace Go.Proofs
open Go.Idl

def out0 : ByteArray := ⟨#[111, 107, 32, 36, 48, 32, 64, 48, 32, 37, 48]⟩
def out1 : ByteArray := ⟨#[111, 107, 32, 37, 49]⟩
theorem itoaB_0 : itoaB 0 = ⟨#[48]⟩ := by
  unfold itoaB Lib.itoa
  rw [if_neg (by omega), Lib.decDigits, dif_pos (by decide)]; rfl
theorem itoaB_1 : itoaB 1 = ⟨#[49]⟩ := by
  unfold itoaB Lib.itoa
  rw [if_neg (by omega), Lib.decDigits, dif_pos (by decide)]; rfl
theorem plc_0 (x : UInt8) : plc 0 0 0 x = ⟨#[x, 48]⟩ := by
  have : (if x = 36 then (0 : Int) else if x = 64 then 0 else 0) = 0 := by simp
  rw [plc, this, digL_one, digB, if_neg (by omega), itoaB_0]; rfl
theorem plc_1 : plc 0 0 1 37 = ⟨#[37, 49]⟩ := by
  rw [plc, digL_one, digB]; simp only [show ¬ ((37 : UInt8) = 36) from by decide, show ¬ ((37 : UInt8) = 64) from by decide, if_false]
  rw [if_neg (by omega), itoaB_1]; rfl
theorem text0_eq : text0 = ⟨#[36, 48, 32, 64, 48, 32, 37, 48]⟩ := by
  rw [text0]; simp only [List.map_cons, List.map_nil, plc_0]; rfl
theorem text1_eq : text1 = ⟨#[37, 49]⟩ := by
  rw [text1]; simp only [List.map_cons, List.map_nil, plc_1]; rfl
theorem out0_eq : replyV text0 0 = out0 := by
  rw [text0_eq, replyV, if_neg (by omega), if_neg (by decide)]; decide +kernel
theorem out1_eq : replyV text1 0 = out1 := by
  rw [text1_eq, replyV, if_neg (by omega), if_neg (by decide)]; decide +kernel
def seat22 (i : Nat) : Int := if i = 0 then -1 else 0
def text22 (i : Nat) : ByteArray := if i = 0 then text0 else if i = 1 then text1 else ⟨#[]⟩
def st22 (i : Nat) : RG → Prop := if i = 0 then St0 else if i = 1 then St1 else fun _ => True
theorem text22_sz (i : Nat) : (text22 i).size < 1000000000000 := by
  unfold text22; rw [text0_eq, text1_eq]
  split
  · decide
  · split <;> decide
set_option maxRecDepth 20000 in
theorem awake22_c (h : Heap) : ICall Tryz.prog 6 [] h (retP (.bool true) h) := by
  refine icall_of_iwp (fun _ => 0) Tryz.func6 rfl (by kernel_rfl) (Nat.le_of_ble_eq_true rfl) ?_
  rw [Tryz.results6]
  simp -implicitDefEqProofs [go_sem]
  refine (newReg_c 1 (fun _ => (9, 0, 0)) h).mono ?_
  rintro e h1 ⟨bb, mb, recb, sesb, winb, ownb, rb, tag1, rfl, hR1, hF1⟩
  simp -implicitDefEqProofs [go_sem]
  have hrun := crun_c hR1 seat22 [[newB, mainB], [splB, hB]] text22 st22 _ (by decide) cut22 (by simp) (show St0 _ from ⟨rfl, rfl, rfl, rfl, rfl, rfl, rfl, rfl⟩) text22_sz ?_
  · refine hrun.mono ?_
    rintro e h2 ⟨rfl, tag2, R2, hR2, _, hF2⟩
    simp -implicitDefEqProofs [go_sem, seat22]
    have hs := same20_c [replyV (text22 0) 0, replyV (text22 1) 0] [out0, out1] h2 (by simp)
    have h0 : text22 0 = text0 := rfl
    have h1 : text22 1 = text1 := rfl
    have hd : decide ([replyV (text22 0) 0, replyV (text22 1) 0] = [out0, out1]) = true := by rw [h0, h1, out0_eq, out1_eq]; simp
    rw [hd] at hs
    refine hs.mono ?_
    rintro e h3 ⟨rfl, he⟩
    rw [he]
    simp -implicitDefEqProofs [go_sem]
    have hF := hF1.trans hF2
    exact ⟨h, fun j o hj => (hF j o hj (by simp) (by simp)).1, rfl, rfl⟩
  · intro i hi tag h R hR hP
    match i, hi with
    | 0, _ => exact one_new hR hP
    | 1, _ => exact one_spl hR hP
end Go.Proofs

set_option linter.unusedVariables false
set_option linter.unusedSimpArgs false
set_option pp.deepTerms false
set_option pp.maxSteps 500
namespace Go.Proofs
open Go.Idl Go.Shelf

/-! every number's digits; the replies' law -/
theorem rep_ints {F : Nat → Nat → Prop} {w : World} {k : IntKind} : ∀ (l : List Int) (vs : List Value), RepAll F w (l.map (IV.int k)) vs → vs = l.map (Value.int k)
  | [], vs, h => by cases h; rfl
  | z :: l, vs, h => by
    obtain ⟨v, vs', rfl, h1, h2⟩ := h
    have := rep_ints l vs' h2
    subst this
    cases h1
    rfl
def tabH (h : Heap) : Prop := h 2 = some (.froz (Lib.pow10Tab.map (IV.int .u64)))
theorem tab_named : Tryz.prog.globalNamed "internal/strconv.uint64pow10" = some 2 := by kernel_rfl
theorem tabIs_of {F X h w} (hh : HRel F X h w) (ht : tabH h) : Lib.TabIs Tryz.prog w "internal/strconv.uint64pow10" .u64 Lib.pow10Tab := by
  obtain ⟨_, vals, h1, h2, h3, h4, e, fr, h5⟩ := hh.hp _ _ ht
  have := rep_ints _ _ h2
  subst this
  unfold Lib.TabIs World.var?
  rw [tab_named, Option.bind_some, h5]
theorem below_grow (w : World) (k : Nat) (os : Array Obj) : RowKit.Below w.heap.size w (Go.Sort.grow (w.drewN k) os) :=
  ⟨rfl, rfl, rfl, by simp [Go.Sort.grow], fun b hb => by simp [Go.Sort.grow, Array.getElem?_append, hb]⟩
theorem itoa_c (n : Int) (h0 : 0 ≤ n) (h1 : n ≤ 2147483647) (h : Heap) (ht : tabH h) : ICall Tryz.prog 102 [.int .i64 n] h (retP (.str (itoaB n)) h) := by
  refine icall_grow ⟨_, Tryz.func102, by kernel_rfl, by kernel_rfl⟩ fun F X w vs hh hr => ?_
  obtain ⟨v, vs', hv, rfl, hr3⟩ := hr
  cases hr3
  have hvs : vs = #[.int .i64 n] := by apply Array.ext'; exact hv
  subst hvs
  refine (Any.strconv_Itoa layItoa n (by omega) (by omega) w (tabIs_of hh ht)).mono ?_
  rintro e w' ⟨rfl, k, os, rfl⟩
  exact ⟨⟨_, rfl, rfl⟩, below_grow w k os⟩
end Go.Proofs

set_option linter.unusedVariables false
set_option linter.unusedSimpArgs false
set_option pp.deepTerms false
set_option pp.maxSteps 500
namespace Go.Proofs
open Go.Idl

/-! a command without a registry -/
set_option maxRecDepth 20000
set_option maxHeartbeats 2000000
theorem one1_wrong (b4 b6 b7 b8 : Nat) (seat x : Int) (h : Heap) {c6 c7 c8 : IV} (n64 : b6 ≠ b4) (n74 : b7 ≠ b4) (n76 : b7 ≠ b6) (n84 : b8 ≠ b4) (n86 : b8 ≠ b6) (n87 : b8 ≠ b7)
    (h4 : h b4 = some (.cells [.int .i64 seat])) (h6 : h b6 = some (.cells [c6])) (h7 : h b7 = some (.cells [c7])) (h8 : h b8 = some (.cells [c8])) :
    ICallD Tryz.prog 45 [.ptr b4 0, .ptr b6 0, .ptr b7 0, .ptr b8 0] (some (wrongV x)) h (fun h' => h' = upd (upd (upd h b6 (some (.cells [.int .i64 seat]))) b7 (some (.cells [.str ⟨#[]⟩]))) b8 (some (.cells [.int .i64 x]))) := by
  refine icalld_of_iwp (fun d => if d = 15 then 8 else if d = 1 then 9 else if d = 2 then 9 else if d = 3 then 9 else 0) Tryz.func45 rfl (by kernel_rfl) (Nat.le_of_ble_eq_true rfl) ?_
  simp -implicitDefEqProofs [go_sem, wrongV]
  refine iwp_drawn_of mixed [0, 1, 2, 3, 4, 5] (by kernel_rfl) ?_
  simp -implicitDefEqProofs [go_sem, wrongV, h4, h6, h7, h8, n64, n74, n76, n84, n86, n87, n64.symm, n74.symm, n76.symm, n84.symm, n86.symm, n87.symm]
  exact Sub.refl _
def nOneR (seat : Int) (h : Heap) (e : IEnd) (h' : Heap) : Prop := ∃ s' x, (s' = seat ∨ s' = -1) ∧ e = .ret (.tup [.int .i64 s', .str ⟨#[]⟩, .int .i64 x]) ∧ Sub h h'
/-- what a command's words are, that was begun -/
theorem begun_rest {rd nm l w m rest ns} (hb : beginV rd nm l = .inr (w, m, rest, ns)) (hw : w.toList = [110, 101, 119, 45, 115, 101, 115, 115, 105, 111, 110] ∨ w.toList = [97, 116, 116, 97, 99, 104]) : rest.length = 1 ∧ ∀ x ∈ rest, x ∈ l := by
  cases l with
  | nil => simp [beginV] at hb
  | cons w0 t =>
    simp only [beginV] at hb
    split at hb
    · cases hb
    rename_i f hf
    split at hb
    · cases hb
    rename_i i m2 ho
    split at hb
    · cases hb
    split at hb
    · cases hb
    rename_i hlen
    split at hb
    · cases hb
    rename_i ns2 hns
    simp only [Sum.inr.injEq, Prod.mk.injEq] at hb
    obtain ⟨rfl, rfl, rfl, rfl⟩ := hb
    have hl2 := Classical.not_not.1 hlen
    have hfr : f.rest = 1 := by
      rcases hw with h | h
      · rw [h] at hf
        have : formT [110, 101, 119, 45, 115, 101, 115, 115, 105, 111, 110] = some f := hf
        have e : (formT [110, 101, 119, 45, 115, 101, 115, 115, 105, 111, 110]).map (·.rest) = some 1 := by decide
        rw [this] at e; simpa using e
      · rw [h] at hf
        have : formT [97, 116, 116, 97, 99, 104] = some f := hf
        have e : (formT [97, 116, 116, 97, 99, 104]).map (·.rest) = some 1 := by decide
        rw [this] at e; simpa using e
    have hsel : ¬ (w0.toList = selW ∧ (getO m2 101).isSome = true) := by
      rintro ⟨h1, _⟩
      rcases hw with h | h <;> rw [h1] at h <;> exact absurd h (by decide)
    rw [restN, if_neg hsel, hfr] at hl2
    exact ⟨by omega, fun x hx => List.mem_of_mem_drop hx⟩
theorem none_one {rd : ByteArray → Int × Int} {nm : ByteArray → UInt8 → Int × Int} (seat : Int) (l : List ByteArray) (hl : l.length ≤ 100000) (hsz : ∀ x ∈ l, x.size < 100000000) (h : Heap) (hN : ∀ H, Sub h H → BegOkN rd nm l H) :
    ICall Tryz.prog 23 [.nilptr, .int .i64 seat, .list .plain (l.map strRow)] h (nOneR seat h) := by
  refine icall_defer (fun d => if d = 4 then 1 else if d = 6 then 1 else if d = 7 then 1 else if d = 8 then 1 else 0) Tryz.func23 rfl (by kernel_rfl) (Nat.le_of_ble_eq_true rfl) ?_
  rw [Tryz.results23]
  simp -implicitDefEqProofs [go_sem]
  intro b4 g4 b6 g6 b7 g7 b8 g8
  have m4 : h b4 = none := g4
  have m6 := upd_none.1 (show upd h b4 (some (.cells [.int .i64 seat])) b6 = none by unfold upd; exact g6)
  have m7 := upd_none.1 (show upd (upd h b4 (some (.cells [.int .i64 seat]))) b6 (some (.cells [.int .i64 0])) b7 = none by unfold upd; exact g7)
  have m7' := upd_none.1 m7.2
  have m8 := upd_none.1 (show upd (upd (upd h b4 (some (.cells [.int .i64 seat]))) b6 (some (.cells [.int .i64 0]))) b7 (some (.cells [.str ⟨#[]⟩])) b8 = none by unfold upd; exact g8)
  have m8' := upd_none.1 m8.2
  have m8'' := upd_none.1 m8'.2
  have n64 := m6.1
  have n76 := m7.1
  have n74 := m7'.1
  have n87 := m8.1
  have n86 := m8'.1
  have n84 := m8''.1
  have hs0 : Sub h (upd (upd (upd (upd h b4 (some (IObj.cells [.int .i64 seat]))) b6 (some (IObj.cells [.int .i64 0]))) b7 (some (IObj.cells [.str ⟨#[]⟩]))) b8 (some (IObj.cells [.int .i64 0]))) := ((((Sub.refl h).upd m4 _).upd m6.2 _).upd m7'.2 _).upd m8''.2 _
  have hoff : ∀ (H : Heap) o6 o7 o8, Sub h H → Sub h (upd (upd (upd H b6 o6) b7 o7) b8 o8) := fun H o6 o7 o8 hs j o hj => by
    have z : ∀ i, h i = none → j ≠ i := by rintro i hi rfl; rw [hi] at hj; cases hj
    rw [upd_ne _ _ (z b8 m8''.2), upd_ne _ _ (z b7 m7'.2), upd_ne _ _ (z b6 m6.2)]; exact hs j o hj
  simp -implicitDefEqProofs [go_sem, n64, n76, n74, n87, n86, n84, n64.symm, n76.symm, n74.symm, n87.symm, n86.symm, n84.symm]
  refine (begin_c .nilptr (.inl rfl) seat l _ hl (hN _ hs0)).mono ?_
  intro e h1 hB
  rw [begR] at hB
  cases hb : beginV rd nm l with
  | inl x =>
    rw [hb] at hB
    obtain ⟨rfl, hs1⟩ := hB
    have q4 := hs1 b4 (.cells [.int .i64 seat]) (by simp [upd, n64.symm, n74.symm, n84.symm])
    have q6 := hs1 b6 (.cells [.int .i64 0]) (by simp [upd, n76.symm, n86.symm])
    have q7 := hs1 b7 (.cells [.str ⟨#[]⟩]) (by simp [upd, n87.symm])
    have q8 := hs1 b8 (.cells [.int .i64 0]) (by simp [upd])
    have hs01 : Sub h h1 := fun j o q => hs1 j o (hs0 j o q)
    simp -implicitDefEqProofs [go_sem]
    refine (one1_wrong b4 b6 b7 b8 seat x h1 n64 n74 n76 n84 n86 n87 q4 q6 q7 q8).mono ?_
    rintro h2 rfl
    simp -implicitDefEqProofs [go_sem, n76, n76.symm, n87, n87.symm, n86, n86.symm]
    exact ⟨_, Sub.refl _, seat, x, .inl rfl, rfl, hoff _ _ _ _ hs01⟩
  | inr v =>
    obtain ⟨w, m, rest, ns⟩ := v
    rw [hb] at hB
    obtain ⟨b, mo, mn, rfl, hb0, hmo, hmn, hs1, hr1⟩ := hB
    have q4 := hs1 b4 (.cells [.int .i64 seat]) (by simp [upd, n64.symm, n74.symm, n84.symm])
    have q6 := hs1 b6 (.cells [.int .i64 0]) (by simp [upd, n76.symm, n86.symm])
    have q7 := hs1 b7 (.cells [.str ⟨#[]⟩]) (by simp [upd, n87.symm])
    have q8 := hs1 b8 (.cells [.int .i64 0]) (by simp [upd])
    have hs01 : Sub h h1 := fun j o q => hs1 j o (hs0 j o q)
    have hbn : h b = none := by cases hq : h b with
      | none => rfl
      | some o => rw [hs0 b o hq] at hb0; cases hb0
    have x4 : b4 ≠ b := by rintro rfl; simp [upd, n64.symm, n74.symm, n84.symm] at hb0
    have x6 : b6 ≠ b := by rintro rfl; simp [upd, n76.symm, n86.symm] at hb0
    have x7 : b7 ≠ b := by rintro rfl; simp [upd, n87.symm] at hb0
    have x8 : b8 ≠ b := by rintro rfl; simp [upd] at hb0
    simp -implicitDefEqProofs [go_sem]
    refine (nrun_c hr1 rfl (fun hw => by
      obtain ⟨r1, r2⟩ := begun_rest hb hw
      obtain ⟨y, rfl⟩ := List.length_eq_one_iff.1 r1
      exact ⟨y, rfl, hsz y (r2 y (by simp))⟩)).mono ?_
    rintro e h2 (⟨rfl, rfl⟩ | ⟨x, rfl, he⟩)
    · have y4 : (upd h1 b (some (.cells (Rn.cells ⟨.nilptr, -1, w, mo, mn, m, rest, ns⟩)))) b4 = some (.cells [.int .i64 seat]) := by rw [upd_ne _ _ x4]; exact q4
      have y6 : (upd h1 b (some (.cells (Rn.cells ⟨.nilptr, -1, w, mo, mn, m, rest, ns⟩)))) b6 = some (.cells [.int .i64 0]) := by rw [upd_ne _ _ x6]; exact q6
      have y7 : (upd h1 b (some (.cells (Rn.cells ⟨.nilptr, -1, w, mo, mn, m, rest, ns⟩)))) b7 = some (.cells [.str ⟨#[]⟩]) := by rw [upd_ne _ _ x7]; exact q7
      have y8 : (upd h1 b (some (.cells (Rn.cells ⟨.nilptr, -1, w, mo, mn, m, rest, ns⟩)))) b8 = some (.cells [.int .i64 0]) := by rw [upd_ne _ _ x8]; exact q8
      have yb : (upd h1 b (some (.cells (Rn.cells ⟨.nilptr, -1, w, mo, mn, m, rest, ns⟩)))) b = some (.cells (Rn.cells ⟨.nilptr, -1, w, mo, mn, m, rest, ns⟩)) := upd_same _ _ _
      have hs2 : Sub h (upd h1 b (some (.cells (Rn.cells ⟨.nilptr, -1, w, mo, mn, m, rest, ns⟩)))) := fun j o hj => by
        rw [upd_ne _ _ (by rintro rfl; rw [hbn] at hj; cases hj)]; exact hs01 j o hj
      generalize upd h1 b (some (.cells (Rn.cells ⟨.nilptr, -1, w, mo, mn, m, rest, ns⟩))) = h3 at *
      have fin : ∀ o6 o7 o7' o8, Sub h (upd (upd (upd (upd h3 b7 o7) b6 o6) b7 o7') b8 o8) := fun o6 o7 o7' o8 j o hj => by
        have z : ∀ i, h i = none → j ≠ i := by rintro i hi rfl; rw [hi] at hj; cases hj
        rw [upd_ne _ _ (z b8 m8''.2), upd_ne _ _ (z b7 m7'.2), upd_ne _ _ (z b6 m6.2), upd_ne _ _ (z b7 m7'.2)]; exact hs2 j o hj
      simp -implicitDefEqProofs [go_sem, y7, y6, y8, yb, x7, x7.symm, x6, x6.symm, x8, x8.symm]
      refine iwp_drawn_tree mixed [0, 1, 2, 3, 4, 5, 6, 7] (.alt 0 (.alt 1 (.alt 2 (.alt 3 (.alt 4 (.alt 5 (.alt 6 (.alt 7 .done .none) .none) .none) (.alt 5 (.alt 4 (.alt 6 (.alt 7 .done .none) .none) .none) .none)) (.alt 4 (.alt 3 (.alt 5 (.alt 6 (.alt 7 .done .none) .none) .none) .none) .none)) (.alt 4 (.alt 2 (.alt 3 (.alt 5 (.alt 6 (.alt 7 .done .none) .none) .none) .none) .none) .none)) (.alt 4 (.alt 1 (.alt 2 (.alt 3 (.alt 5 (.alt 6 (.alt 7 .done .none) .none) .none) .none) .none) .none) .none)) (.alt 4 (.alt 0 (.alt 1 (.alt 2 (.alt 3 (.alt 5 (.alt 6 (.alt 7 .done .none) .none) .none) .none) .none) .none) .none) .none)) (by kernel_rfl) ?_
      simp -implicitDefEqProofs [go_sem, y7, y6, y8, yb, x7, x7.symm, x6, x6.symm, x8, x8.symm, n76, n76.symm, n87, n87.symm, n86, n86.symm, Rn.cells]
      refine (one1_none b4 b6 b7 b8 _).mono ?_
      rintro h4 rfl
      simp -implicitDefEqProofs [go_sem, n76, n76.symm, n87, n87.symm, n86, n86.symm]
      exact ⟨_, Sub.refl _, -1, 0, .inr rfl, rfl, fin _ _ _ _⟩
    · rw [he]
      simp -implicitDefEqProofs [go_sem]
      refine (one1_wrong b4 b6 b7 b8 seat x h1 n64 n74 n76 n84 n86 n87 q4 q6 q7 q8).mono ?_
      rintro h2 rfl
      simp -implicitDefEqProofs [go_sem, n76, n76.symm, n87, n87.symm, n86, n86.symm]
      exact ⟨_, Sub.refl _, seat, x, .inl rfl, rfl, hoff _ _ _ _ hs01⟩
end Go.Proofs

set_option linter.unusedVariables false
set_option linter.unusedSimpArgs false
set_option pp.deepTerms false
set_option pp.maxSteps 500
namespace Go.Proofs
open Go.Idl
set_option maxRecDepth 20000
set_option maxHeartbeats 1000000

/-! how long a line's words are -/
def CSz (s : CS) (N : Nat) : Prop := (∀ c ∈ s.cmds, c.length ≤ N ∧ ∀ w ∈ c, w.size ≤ N) ∧ ∀ w ∈ s.words, w.size ≤ N
theorem CSz.le {s : CS} {N M : Nat} (h : CSz s N) (hl : N ≤ M) : CSz s M := ⟨fun c hc => ⟨by have := (h.1 c hc).1; omega, fun w hw => by have := (h.1 c hc).2 w hw; omega⟩, fun w hw => by have := h.2 w hw; omega⟩
theorem CSz.put {s : CS} {N : Nat} (h : CSz s N) (b : UInt8) : CSz (s.put b) N := h
theorem CSz.endw {s : CS} {N : Nat} (h : CSz s N) (ho : s.ok N) : CSz s.endw N := by
  refine ⟨h.1, fun w hw => ?_⟩
  simp only [CS.endw] at hw
  split at hw
  · rcases List.mem_append.1 hw with g | g
    · exact h.2 w g
    · simp only [List.mem_singleton] at g
      rw [g]
      have := ho.b
      show (List.toArray s.word).size ≤ N
      simpa using this
  · exact h.2 w hw
theorem CSz.cmd {s : CS} {N : Nat} (h : CSz s N) (ho : s.ok N) : CSz s.cmd (N + 1) := by
  have he := h.endw ho
  have hw := ho.endw.w
  refine ⟨fun c hc => ?_, fun w hw => by simp [CS.cmd] at hw⟩
  simp only [CS.cmd] at hc
  split at hc
  · have := he.1 c hc
    exact ⟨by omega, fun w hw => by have := this.2 w hw; omega⟩
  · rcases List.mem_append.1 hc with g | g
    · have := he.1 c g
      exact ⟨by omega, fun w hw => by have := this.2 w hw; omega⟩
    · simp only [List.mem_singleton] at g
      rw [g]
      exact ⟨hw, fun w hw => by have := he.2 w hw; omega⟩
theorem CSz.plain {s : CS} {N : Nat} (h : CSz s N) (ho : s.ok N) (b : UInt8) : CSz (s.plain b) (N + 1) := by
  unfold CS.plain
  split
  · exact h.cmd ho
  · split
    · exact (h.endw ho).le (by omega)
    · exact (h.put b).le (by omega)
theorem cutRun_sz (l : ByteArray) : ∀ (n i : Nat) (q : Int) (s : CS) (N : Nat), s.ok N → CSz s N → (cutRun l n i q s).2.ok (N + n) ∧ CSz (cutRun l n i q s).2 (N + n)
  | 0, i, q, s, N, ho, hz => ⟨ho, hz⟩
  | n + 1, i, q, s, N, ho, hz => by
    rw [cutRun]
    have st : ∀ i q s', s'.ok (N + 1) → CSz s' (N + 1) → (cutRun l n i q s').2.ok (N + (n + 1)) ∧ CSz (cutRun l n i q s').2 (N + (n + 1)) := fun i q s' h1 h2 => by
      have := cutRun_sz l n i q s' (N + 1) h1 h2
      rw [show N + (n + 1) = N + 1 + n from by omega]; exact this
    have s1 : s.ok (N + 1) := ho.le (by omega)
    have z1 : CSz s (N + 1) := hz.le (by omega)
    split
    · split
      · split
        · exact st _ _ _ (ho.put _) ((hz.put _).le (by omega))
        · exact st _ _ _ s1 z1
      · split
        · exact st _ _ _ s1 z1
        · split
          · exact st _ _ _ ⟨s1.c, s1.w, s1.b⟩ ⟨z1.1, z1.2⟩
          · split
            · exact st _ _ _ (ho.put _) ((hz.put _).le (by omega))
            · exact st _ _ _ (ho.plain _) (hz.plain ho _)
    · exact ⟨ho.le (by omega), hz.le (by omega)⟩
theorem wcut_sz {l : ByteArray} {cmds : List (List ByteArray)} (h : wcutV l = some cmds) : cmds.length ≤ 5000 ∧ ∀ c ∈ cmds, c.length ≤ 5000 ∧ ∀ w ∈ c, w.size ≤ 5000 := by
  unfold wcutV at h
  split at h
  · cases h
  rename_i hl
  split at h
  · cases h
  cases h
  obtain ⟨h1, h2⟩ := cutRun_sz l (l.size + 1) 0 (-1) cs0 0 ⟨by simp [cs0], by simp [cs0], by simp [cs0]⟩ ⟨by simp [cs0], by simp [cs0]⟩
  have hz := h2.cmd h1
  have hc := h1.cmd.c
  simp only [cutZ] at *
  refine ⟨by omega, fun c hc => ?_⟩
  obtain ⟨q1, q2⟩ := hz.1 c hc
  exact ⟨by omega, fun w hw => by have := q2 w hw; omega⟩
theorem putO_mem {m : OM} {c : UInt8} {s : ByteArray} : ∀ p ∈ putO m c s, p ∈ m ∨ p = (c, s) := by
  induction m with
  | nil => intro p hp; simp [putO] at hp; exact .inr hp
  | cons q r ih =>
    intro p hp
    rw [putO] at hp
    split at hp
    · rcases List.mem_cons.1 hp with e | e
      · exact .inr e
      · exact .inl (List.mem_cons_of_mem _ e)
    · rcases List.mem_cons.1 hp with e | e
      · exact .inl (by rw [e]; exact List.mem_cons_self)
      · exact (ih p e).imp_left (List.mem_cons_of_mem _)
theorem optRun_mem (l : List ByteArray) (takes : ByteArray) : ∀ (n i : Nat) (m : OM) (i' : Nat) (m' : OM), (∀ p ∈ m, p.2 = ⟨#[]⟩ ∨ p.2 ∈ l) → optRun l takes n i m = .inr (i', m') → ∀ p ∈ m', p.2 = ⟨#[]⟩ ∨ p.2 ∈ l
  | 0, i, m, i', m', hm, h => by
    simp only [optRun, Sum.inr.injEq, Prod.mk.injEq] at h
    obtain ⟨rfl, rfl⟩ := h; exact hm
  | n + 1, i, m, i', m', hm, h => by
    rw [optRun] at h
    split at h
    · simp only [Sum.inr.injEq, Prod.mk.injEq] at h
      obtain ⟨rfl, rfl⟩ := h; exact hm
    split at h
    · simp only [Sum.inr.injEq, Prod.mk.injEq] at h
      obtain ⟨rfl, rfl⟩ := h; exact hm
    split at h
    · simp only [Sum.inr.injEq, Prod.mk.injEq] at h
      obtain ⟨rfl, rfl⟩ := h; exact hm
    rename_i c _
    have hm1 : ∀ p ∈ putO m c ⟨#[]⟩, p.2 = ⟨#[]⟩ ∨ p.2 ∈ l := fun p hp => by
      rcases putO_mem p hp with e | e
      · exact hm p e
      · exact .inl (by rw [e])
    split at h
    · exact optRun_mem l takes n _ _ i' m' hm1 h
    split at h
    · cases h
    rename_i v hv
    exact optRun_mem l takes n _ _ i' m' (fun p hp => by
      rcases putO_mem p hp with e | e
      · exact hm1 p e
      · exact .inr (by rw [e]; exact List.mem_of_getElem? hv)) h
theorem getO_mem {m : OM} {c : UInt8} {s : ByteArray} (h : getO m c = some s) : ∃ p ∈ m, p.2 = s := by
  unfold getO at h
  obtain ⟨p, hp, rfl⟩ := Option.map_eq_some_iff.1 h
  exact ⟨p, List.mem_of_find?_eq_some hp, rfl⟩
theorem numsOk_all (l : List ByteArray) (hsz : ∀ x ∈ l, x.size < 100000000) (h : Heap) (hR : rngH h) : BegOkN readV numV l h := by
  intro w r f i m e hf ho
  have hs : ∀ c s, getO m c = some s → s.size < 100000000 := fun c s hg => by
    obtain ⟨p, hp, rfl⟩ := getO_mem hg
    rcases optRun_mem l f.values _ _ _ i m (by simp) ho p hp with e | e
    · rw [e]; decide
    · exact hsz _ e
  exact ⟨fun c s _ hg _ H hH => read_c s (hs c s hg) H (hR.sub hH), fun c s g _ hg _ H hH => wnum_c s g (hs c s hg) H (hR.sub hH)⟩
/-! a line without a registry -/
def okL (l : List ByteArray) : Prop := ∀ i, i + 1 < l.length → l[i]? = some okW
theorem okL_snoc {l : List ByteArray} (x : ByteArray) (h : ∀ y ∈ l, y = okW) : okL (l ++ [x]) := fun i hi => by
  have hi' : i < l.length := by simp at hi; omega
  rw [List.getElem?_append_left hi', List.getElem?_eq_getElem hi', h _ (List.getElem_mem hi')]
theorem okL_all {l : List ByteArray} (h : ∀ y ∈ l, y = okW) : okL l := fun i hi => by
  rw [List.getElem?_eq_getElem (by omega), h _ (List.getElem_mem (by omega))]
def nRunR (seat : Int) (h : Heap) (e : IEnd) (h' : Heap) : Prop := ∃ s' l, (s' = seat ∨ s' = -1) ∧ l.length ≤ 1000000 ∧ okL l ∧ e = .ret (.tup [.int .i64 s', .list .plain (l.map strRow)]) ∧ Sub h h'
theorem tabH_sub {h h' : Heap} (ht : tabH h) (hs : Sub h h') : tabH h' := hs _ _ ht
theorem errH_sub {h h' : Heap} (ht : errH h) (hs : Sub h h') : errH h' := hs _ _ ht
theorem nRun_c (seat : Int) (line : ByteArray) (h : Heap) (ht : tabH h) (hE : errH h) (hR : rngH h) (hsz : line.size < 4611686018427387904) : ICall Tryz.prog 7 [.nilptr, .int .i64 seat, .str line] h (nRunR seat h) := by
  refine icall_of_iwp (fun d => 0) Tryz.func7 rfl (by kernel_rfl) (Nat.le_of_ble_eq_true rfl) ?_
  rw [Tryz.results7]
  simp -implicitDefEqProofs [go_sem]
  refine (wcut_c line h hsz).mono ?_
  rintro e h1 (⟨cmds, hcs, rfl, rfl⟩ | ⟨hcs, v, a, rfl, hfa⟩)
  rotate_left
  · obtain ⟨b, fb, q1, q2, rfl, q4, q5, q6⟩ := hfa
    simp -implicitDefEqProofs [go_sem]
    refine (code_c (errH_sub hE q6) q4 q5).mono ?_
    rintro e h2 ⟨rfl, rfl⟩
    simp -implicitDefEqProofs [go_sem]
    refine (reply_c ⟨#[]⟩ (cutE line) h2 (by decide) (fun z1 z2 => itoa_c _ z1 z2 h2 (tabH_sub ht q6))).mono ?_
    rintro e h3 ⟨rfl, rfl⟩
    simp -implicitDefEqProofs [go_sem]
    exact ⟨_, Sub.refl _, seat, [_], .inl rfl, by simp, fun i hi => by simp at hi, rfl, q6⟩
  obtain ⟨hcl, hcw⟩ := wcut_sz hcs
  simp -implicitDefEqProofs [go_sem]
  refine iwp_loopF (rng [1, 10, 12, 13, 14, 15] 30 52) nom (fun s => ∃ (i : Nat) (v : IV) (sx : Int) (out : List ByteArray), i ≤ cmds.length ∧ s.t 30 = .int .i64 i ∧ s.t 1 = .int .i64 sx ∧ (sx = seat ∨ sx = -1) ∧ s.t 10 = v ∧ Idl.Own [47] s.x 9 v (out.map strRow) ∧ out.length = i ∧ (∀ y ∈ out, y = okW) ∧ Sub h1 s.h) (fun s => cmds.length - tn (s.t 30)) ?_ ?_
  · exact ⟨0, .list .tight [], seat, [], Nat.zero_le _, by simp -implicitDefEqProofs [go_sem], by simp -implicitDefEqProofs [go_sem], .inl rfl, by simp -implicitDefEqProofs [go_sem], Idl.Own.tight, rfl, by simp, by simp -implicitDefEqProofs [go_sem]; exact Sub.refl _⟩
  rintro J s hJ hf ⟨i, v, sx, out, hle, h30, h1', hsx, h10, ho, hol, hok, hsub⟩
  simp -implicitDefEqProofs [go_sem, h30, hf.t, hf.m]
  refine cK_dec (fun hlt => ?_) (fun hge => ?_)
  · have hlt' : i < cmds.length := by omega
    have hw := wrap_succ (i := i) (by omega)
    have hg : cmds[i]? = some cmds[i] := List.getElem?_eq_getElem hlt'
    obtain ⟨cl1, cl2⟩ := hcw cmds[i] (List.getElem_mem hlt')
    have hO := none_one sx cmds[i] (by omega) (fun x hx => by have := cl2 x hx; omega) s.h (fun H hH => numsOk_all cmds[i] (fun x hx => by have := cl2 x hx; omega) H (hR.sub (fun j o q => hH j o (hsub j o q))))
    simp -implicitDefEqProofs [go_sem, h30, h1', h10, hf.t, hf.m, hlt', hg, cmdRow]
    refine hO.mono ?_
    rintro e h2 ⟨s', x, hs', rfl, hsub2⟩
    have hs12 : Sub h1 h2 := fun j o q => hsub2 j o (hsub j o q)
    simp -implicitDefEqProofs [go_sem, h30, h1', h10, hf.t, hf.m]
    refine (reply_c ⟨#[]⟩ x h2 (by decide) (fun z1 z2 => itoa_c _ z1 z2 h2 (tabH_sub ht hs12))).mono ?_
    rintro e h3 ⟨rfl, he⟩
    rw [he]
    simp -implicitDefEqProofs [go_sem, h30, h1', h10, hf.t, hf.m]
    refine aK_own (z := 1) (S := [47]) ho (by simp) elT_23 elZ_9 (by simp [roomy, byT_9]; omega) (strs_uni _) (by simp [uni]) ?_
    intro r x' ho' _
    have ho2 : Idl.Own [47] x' 9 r ((out ++ [replyV ⟨#[]⟩ x]).map strRow) := by rw [List.map_append]; exact ho'
    have hos := ho2.strip
    have hs'' : s' = seat ∨ s' = -1 := by
      rcases hs' with e | e
      · rw [e]; exact hsx
      · exact .inr e
    by_cases hx0 : x = 0
    · subst hx0
      have hr0 : replyV ⟨#[]⟩ 0 = okW := rfl
      simp -implicitDefEqProofs [go_sem, h30, h1', h10, hf.t, hf.m, hf, hw]
      refine hJ _ ⟨i + 1, r, s', out ++ [okW], by omega, by simp -implicitDefEqProofs [go_sem, hw], by simp -implicitDefEqProofs [go_sem], hs'', by simp -implicitDefEqProofs [go_sem], by rw [hr0] at ho2; exact ho2, by simp; omega, fun y hy => ?_, by simp -implicitDefEqProofs [go_sem]; exact hs12⟩ (by simp [go_sem, h30, hw]; omega)
      rcases List.mem_append.1 hy with g | g
      · exact hok y g
      · simpa using g
    · have hxb : (x != 0) = true := by simpa using hx0
      simp -implicitDefEqProofs [go_sem, h30, h1', h10, hf.t, hf.m, hxb, hos]
      exact ⟨_, Sub.refl _, sx, out ++ [replyV ⟨#[]⟩ x], hsx, by simp; omega, okL_snoc _ hok, by rw [List.map_append]; rfl, hs12⟩
  · obtain rfl : i = cmds.length := by omega
    simp -implicitDefEqProofs [go_sem, h30, h1', h10, hf.t, hf.m, ho.strip]
    exact ⟨_, Sub.refl _, sx, out, hsx, by omega, okL_all hok, rfl, hsub⟩
theorem cmdNil_c (seat : Int) (line : ByteArray) (h : Heap) (ht : tabH h) (hE : errH h) (hR : rngH h) : ICall Tryz.prog 3 [.int .i64 seat, .str line] h (retP (.bool true) h) := by
  refine icall_of_iwp (fun d => 0) Tryz.func3 rfl (by kernel_rfl) (Nat.le_of_ble_eq_true rfl) ?_
  rw [Tryz.results3]
  simp -implicitDefEqProofs [go_sem]
  refine cK_dec (fun hlong => ?_) (fun hshort => ?_)
  · simp -implicitDefEqProofs [go_sem]
    refine (awake22_c h).mono ?_
    rintro e h' ⟨rfl, rfl⟩
    simp -implicitDefEqProofs [go_sem]
    exact ⟨_, Sub.refl _, rfl, rfl⟩
  simp -implicitDefEqProofs [go_sem]
  have hsz : line.size < 4611686018427387904 := by omega
  refine (nRun_c seat line h ht hE hR hsz).mono ?_
  rintro e h1 ⟨s', l, hs', hl, hok, rfl, hsub⟩
  simp -implicitDefEqProofs [go_sem]
  have hw0 : IntKind.i64.wrap (0 + 1 : Int) = 1 := wrap_in (by omega)
  refine iwp_loopF (rng [7] 18 29) nom (fun s => ∃ i : Nat, i ≤ l.length ∧ s.t 7 = .int .i64 i ∧ s.h = h1) (fun s => l.length + 1 - tn (s.t 7)) ?_ ?_
  · exact ⟨0, Nat.zero_le _, by simp -implicitDefEqProofs [go_sem], by simp -implicitDefEqProofs [go_sem]⟩
  rintro J s hJ hf ⟨i, hi, h7, hh⟩
  have hw := wrap_succ (i := i) (by omega)
  simp -implicitDefEqProofs [go_sem, h7, hh, hf.t, hf.m, hw]
  refine cK_dec (fun hlt => ?_) (fun hge => ?_)
  · have hlt' : i + 1 < l.length := by omega
    have hlt2 : i < l.length := by omega
    have hg := hok i hlt'
    have hgi : l[i] = okW := by rw [List.getElem?_eq_getElem hlt2] at hg; simpa using hg
    have hbb : (okW.toList == ([111, 107] : List UInt8)) = true := by decide +kernel
    simp -implicitDefEqProofs [go_sem, h7, hh, hf.t, hf.m, hw, hlt2, hg, hgi, strRow, hbb, hf]
    exact hJ _ ⟨i + 1, by omega, by simp -implicitDefEqProofs [go_sem, hw], by simp -implicitDefEqProofs [go_sem, hh]⟩ (by simp [go_sem, h7, hw]; omega)
  · have fin : ∀ K : IEnd → Heap → Prop, K (.ret (.bool true)) h1 → ICall Tryz.prog 6 [] h1 K := fun K hK => (awake22_c h1).mono (by rintro e h' ⟨rfl, rfl⟩; exact hK)
    rcases hs' with e | e
    · subst e
      simp -implicitDefEqProofs [go_sem, h7, hh, hf.t, hf.m]
      refine fin _ ?_
      simp -implicitDefEqProofs [go_sem]
      exact ⟨_, hsub, rfl, rfl⟩
    · subst e
      cases hq : ((-1 : Int) == seat) with
      | true =>
        simp -implicitDefEqProofs [go_sem, h7, hh, hf.t, hf.m, hq]
        refine fin _ ?_
        simp -implicitDefEqProofs [go_sem]
        exact ⟨_, hsub, rfl, rfl⟩
      | false =>
        simp -implicitDefEqProofs [go_sem, h7, hh, hf.t, hf.m, hq]
        refine fin _ ?_
        simp -implicitDefEqProofs [go_sem]
        exact ⟨_, hsub, rfl, rfl⟩
end Go.Proofs

set_option linter.unusedVariables false
set_option linter.unusedSimpArgs false
namespace Go.Proofs.YtejjnaibgimiaaaGreatDoor
open Go.Idl Go.ChangeShapes Go.WideShapes Go.ChangeAt Go.RowKit Go.Proofs

/-! what the rows of this seat share: the variables laid; nothing goes -/
theorem goes_none : (Tryz.prog.funcs.toList.all fun fn => !Func.goes fn) = true := by kernel_rfl
theorem goesBy_false {P : Program} (h : (P.funcs.toList.all fun fn => !Func.goes fn) = true) (c : OpenClaim) (hs : c.start = .entering) : false = c.goesBy P := by
  have h1 : ∀ g : Nat, (P.funcs[g]?).any Func.goes = false := fun g => by
    cases hg : P.funcs[g]? with
    | none => rfl
    | some fn =>
      have := List.all_eq_true.1 h fn (Array.mem_toList_iff.2 (Array.mem_of_getElem? hg))
      simpa using this
  have h2 : P.funcs.any Func.goes = false := by
    rw [← Array.any_toList, List.any_eq_false]
    intro fn hf
    have := List.all_eq_true.1 h fn hf
    simpa using this
  have h3 : ∀ f, P.goes f = false := fun f => by
    unfold Program.goes
    rw [h2, Bool.and_false, Bool.or_false, List.any_eq_false]
    intro g _
    rw [h1]; simp
  unfold OpenClaim.goesBy Program.goesAt Program.goesFrom
  rw [hs]
  cases P.funcNamed c.func with
  | none => rfl
  | some f => simp [h3]
theorem own : ownKnob Tryz.prog.godebug = none := by kernel_rfl
def laidL : List (String × DataW Unit) := Rows.serverNilRow.laid
def plainL : List (String × DataW Unit) := laidL.filter fun x => x.2.handleName?.isNone
noncomputable def w1 (os : Os) : World :=
  let w0 := World.holding Tryz.prog os ⟨#[], #[], []⟩
  { w0 with heap := w0.heap.modify 0 fun
      | .cells _ t frozen => .cells #[.iface 214 (.agg #[typeHandle Tryz.prog 47])] t frozen
      | o => o }
noncomputable def laidW (os : Os) : World := (w1 os).layVars Tryz.prog plainL
theorem laidMet_on {P : Program} {w0 : World} {laid : List (String × DataW Unit)} (hf : w0.layFits P laid [] = true) (hi : w0.layIfaces P laid (w0.layVars P laid) = true) : laidMet P laid (w0.layVars P laid) := by
  have e1 : (laid.filter fun x => (laid.map (·.1)).contains x.1) = laid := List.filter_eq_self.2 fun x hx => List.contains_iff_mem.2 (List.mem_map.2 ⟨x, hx, rfl⟩)
  have e2 : (laid.filter fun x => !(laid.map (·.1)).contains x.1) = [] := List.filter_eq_nil_iff.2 fun x hx => by rw [List.contains_iff_mem.2 (List.mem_map.2 ⟨x, hx, rfl⟩)]; simp
  exact laidMet_layVars (w0 := w0) (laid.map (·.1)) [] (by rw [e1]) (by rw [e1]; exact hf) (by rw [e1]; exact hi) (by rw [e2]; exact LaidIn.none)
set_option maxRecDepth 100000 in
theorem laidW_met (os : Os) : laidMetH Tryz.prog laidL (laidW os) :=
  laidMetH_of_parts (laidMet_on (w0 := w1 os) (by kernel_rfl) (by kernel_rfl)) (by kernel_rfl)
theorem laidW_os (os : Os) : (laidW os).os = os := (World.layVars_os _ _ _).trans rfl
theorem laidW_in (os : Os) (args : Array Value) : laidMetH Tryz.prog laidL ((laidW os).forCall (fun _ _ => 0) ⟨#[], args, []⟩).memory :=
  (laidW_met os).of_heap (by simp [World.memory, World.forCall, Input.heap])
def tabG : Nat := 2
theorem tab_met {W : World} (h : laidMetH Tryz.prog laidL W) : Lib.TabIs Tryz.prog W "internal/strconv.uint64pow10" .u64 Lib.pow10Tab := by
  have h1 := (laidMetH_iff.1 h).1.filter fun x => x.1 == "internal/strconv.uint64pow10"
  have e : ((laidL.filter fun x => x.2.handleName?.isNone).filter fun x => x.1 == "internal/strconv.uint64pow10") = [("internal/strconv.uint64pow10", Lib.tabData .u64 Lib.pow10Tab)] := by kernel_rfl
  rw [e] at h1
  exact Lib.tabIs_of_head (g := tabG) (t := 417) (e := 268) (n := 20) (by kernel_rfl) (by kernel_rfl) (by kernel_rfl) (by kernel_rfl) (by kernel_rfl) (by kernel_rfl) h1
def hT : Heap := upd (fun _ => none) tabG (some (.froz (Lib.pow10Tab.map (IV.int .u64))))
theorem rep_tab {F : Nat → Nat → Prop} {w : World} : ∀ (l : List Int), RepAll F w (l.map (IV.int .u64)) (l.map (Value.int .u64))
  | [] => rfl
  | z :: l => ⟨_, _, rfl, rfl, rep_tab l⟩
theorem hrelT {W : World} (h : laidMetH Tryz.prog laidL W) : HRel (oldF W) (fun _ => False) hT W := by
  have ht := tab_met h
  have hv := ht
  unfold Lib.TabIs World.var? at hv
  rw [tab_named, Option.bind_some] at hv
  refine ⟨fun b o hb => ?_, fun b o h => h.elim, fun b h => h.elim, fun b o h => h⟩
  by_cases e : b = tabG
  · subst e
    rw [hT, upd_same] at hb
    cases hb
    have hlt : tabG < W.heap.size := by
      cases hq : W.heap[tabG]? with
      | none => rw [show (2 : Nat) = tabG from rfl, hq] at hv; cases hv
      | some o => exact (Array.getElem?_eq_some_iff.1 hq).1
    refine ⟨trivial, Lib.pow10Tab.map (Value.int .u64), fun j v hj => ⟨hlt, ?_, ?_⟩, rep_tab _, by simp [Lib.pow10Tab], fun o => hlt, ?_⟩
    · have := World.var?_cell tab_named ht j
      rw [Nat.zero_add]
      simpa [hj, tabG] using this
    · simp only [List.getElem?_map, Option.map_eq_some_iff] at hj
      obtain ⟨z, _, rfl⟩ := hj; rfl
    · cases hq : W.heap[tabG]? with
      | none => rw [show (2 : Nat) = tabG from rfl, hq] at hv; cases hv
      | some o =>
        rw [show (2 : Nat) = tabG from rfl, hq] at hv
        cases o <;> first | (cases hv; done) | skip
        rename_i cs t fr
        simp only [Option.some.injEq] at hv
        subst hv
        exact ⟨t, fr, rfl⟩
  · rw [hT, upd_ne _ _ e] at hb; cases hb
end Go.Proofs.YtejjnaibgimiaaaGreatDoor

set_option linter.unusedVariables false
set_option linter.unusedSimpArgs false
namespace Go.Proofs.YtejjnaibgimiaaaGreatDoor
open Go.Idl Go.ChangeShapes Go.WideShapes Go.ChangeAt Go.RowKit Go.Proofs

/-! three variables laid, as frozen blocks -/
def errG : Nat := 0
def rngG : Nat := 4
def hT3 (u : TypeId) : Heap := upd (upd (upd (fun _ => none) tabG (some (.froz (Lib.pow10Tab.map (IV.int .u64))))) errG (some (.froz [errV]))) rngG (some (.froz [.iface u .dead]))
theorem hT3_rng (u : TypeId) : rngH (hT3 u) := ⟨.iface u .dead, upd_same _ _ _, .inr ⟨_, _, rfl⟩⟩
theorem hT3_err (u : TypeId) : errH (hT3 u) := (upd_ne _ _ (show errG ≠ rngG by decide)).trans (upd_same _ _ _)
theorem hT3_tab (u : TypeId) : tabH (hT3 u) := (upd_ne _ _ (show tabG ≠ rngG by decide)).trans ((upd_ne _ _ (show tabG ≠ errG by decide)).trans (upd_same _ _ _))
theorem var_cells {P : Program} {W : World} {n : String} {g : Nat} {cs : Array Value} (hg : P.globalNamed n = some g) (h : W.var? P n = some cs) : ∃ t fr, W.heap[g]? = some (.cells cs t fr) := by
  unfold World.var? at h
  rw [hg, Option.bind_some] at h
  cases hq : W.heap[g]? with
  | none => rw [hq] at h; cases h
  | some o =>
    rw [hq] at h
    cases o <;> first | (cases h; done) | skip
    rename_i cs' t fr
    simp only [Option.some.injEq] at h
    subst h
    exact ⟨t, fr, rfl⟩
theorem froz_at {W : World} {g : Nat} {t : TypeId} {fr : Nat × Nat} {vals : List Value} {cs : List IV} (h : W.heap[g]? = some (.cells vals.toArray t fr)) (hr : RepAll (oldF W) W cs vals) (hne : vals ≠ []) (h1 : ∀ v ∈ vals, v.oneCell' = true) : ObjRep (oldF W) W g (.froz cs) := by
  have hlt : g < W.heap.size := (Array.getElem?_eq_some_iff.1 h).1
  refine ⟨vals, fun j v hj => ⟨hlt, ?_, h1 v (List.mem_of_getElem? hj)⟩, hr, hne, fun o => hlt, t, fr, h⟩
  rw [Nat.zero_add]
  simp [World.cell?, h, hj]
theorem tyNum : Tryz.prog.types.size = 514 := by kernel_rfl
theorem rtNum : (Tryz.prog.cutTypes.find? (·.1 == "internal/reflectlite.rtype")).map (·.2) = some 214 := by kernel_rfl
theorem oneRow : ((List.range 514).filter fun t => Tryz.prog.rowNamed t [101, 114, 114, 111, 114]) = [47] := by kernel_rfl
theorem err_var {W : World} (h : laidMetH Tryz.prog laidL W) : W.var? Tryz.prog "errors.errorType" = some #[.iface 214 (.agg #[.pointer (some ⟨7, 47, none⟩)])] := by
  have hm : (("errors.errorType", .iface "internal/reflectlite.rtype" (.agg [.ptr (.lit (.string [101, 114, 114, 111, 114]))])) : String × DataW Unit) ∈ laidL.filter fun x => x.2.handleName?.isSome := by
    have e : (laidL.filter fun x => x.2.handleName?.isSome) = [("errors.errorType", .iface "internal/reflectlite.rtype" (.agg [.ptr (.lit (.string [101, 114, 114, 111, 114]))]))] := by kernel_rfl
    rw [e]; exact List.mem_singleton.2 rfl
  obtain ⟨name, u, ty, e1, e2, e3, e4, e5⟩ := (laidMetH_iff.1 h).2 _ hm
  have en : name = [101, 114, 114, 111, 114] := (Option.some.inj e1).symm
  subst en
  obtain rfl := Option.some.inj (rtNum.symm.trans e2)
  have hm : ty ∈ (List.range 514).filter fun t => Tryz.prog.rowNamed t [101, 114, 114, 111, 114] := List.mem_filter.2 ⟨List.mem_range.2 (by rw [← tyNum]; exact e3), e4⟩
  rw [oneRow] at hm
  obtain rfl := List.mem_singleton.1 hm
  have hh : typeHandle Tryz.prog 47 = .pointer (some ⟨7, 47, none⟩) := by kernel_rfl
  rw [hh] at e5
  exact e5
theorem rng_var {W : World} (h : laidMetH Tryz.prog laidL W) : ∃ u v, W.var? Tryz.prog "strconv.ErrRange" = some #[.iface u v] := by
  have h1 := (laidMetH_iff.1 h).1.filter fun x => x.1 == "strconv.ErrRange"
  have e : ((laidL.filter fun x => x.2.handleName?.isNone).filter fun x => x.1 == "strconv.ErrRange") = [("strconv.ErrRange", .iface "*errors.errorString" (.ptr (.agg [.lit (.string [118, 97, 108, 117, 101, 32, 111, 117, 116, 32, 111, 102, 32, 114, 97, 110, 103, 101])])))] := by kernel_rfl
  rw [e] at h1
  obtain ⟨ps, ⟨g', t', cs, fuel, p, q, hg', ht', hvar, hd, _, _⟩, _⟩ := h1
  obtain rfl : g' = 4 := Option.some.inj (hg'.symm.trans (show Tryz.prog.globalNamed "strconv.ErrRange" = some 4 by kernel_rfl))
  obtain rfl : t' = 47 := Option.some.inj (ht'.symm.trans (show (Tryz.prog.globals[4]?).map (·.type) = some 47 by kernel_rfl))
  obtain ⟨_, u, v, hcs, _⟩ := iface_of_trod Tryz.underlying47 hd
  exact ⟨u, v, by rw [hvar]; congr 1; exact Array.ext' hcs⟩
theorem hrel3 {W : World} (h : laidMetH Tryz.prog laidL W) : ∃ u, HRel (oldF W) (fun _ => False) (hT3 u) W := by
  obtain ⟨u, v, hr⟩ := rng_var h
  refine ⟨u, fun b o hb => ?_, fun b o h => h.elim, fun b h => h.elim, fun b o h => h⟩
  by_cases e1 : b = rngG
  · subst e1
    rw [hT3, upd_same] at hb
    cases hb
    obtain ⟨t, fr, hc⟩ := var_cells (g := rngG) (by kernel_rfl) hr
    exact ⟨trivial, froz_at (vals := [.iface u v]) hc ⟨_, _, rfl, ⟨_, rfl, trivial⟩, rfl⟩ (by simp) (by intro x hx; simp at hx; subst hx; rfl)⟩
  rw [hT3, upd_ne _ _ e1] at hb
  by_cases e2 : b = errG
  · subst e2
    rw [upd_same] at hb
    cases hb
    obtain ⟨t, fr, hc⟩ := var_cells (g := errG) (by kernel_rfl) (err_var h)
    refine ⟨trivial, froz_at (vals := [.iface 214 (.agg #[.pointer (some ⟨7, 47, none⟩)])]) hc ⟨_, _, rfl, ⟨_, rfl, #[.pointer (some ⟨7, 47, none⟩)], rfl, ?_, ⟨_, _, rfl, rfl, rfl⟩⟩, rfl⟩ (by simp) (by intro x hx; simp at hx; subst hx; rfl)⟩
    intro x hx
    simp at hx; subst hx; rfl
  rw [upd_ne _ _ e2] at hb
  exact (hrelT h).hp b o hb
end Go.Proofs.YtejjnaibgimiaaaGreatDoor
