/- This text is a part of the proofs of the statements of this seat: the ideal states and their rules, or what one of the functions that the statements reach comes to. Conditions: none beyond those that each theorem names. -/
import Derived.Test.YtcknalapblabfaaGreatDoorT3
import Derived.Test.YtcknalapblabfaaGreatDoorT4
import Derived.Test.YtcknalapblabfaaGreatDoorT7
import Derived.Test.YtcknalapblabfaaGreatDoorT2
import Derived.Test.YtcknalapblabfaaGreatDoorCards
import Derived.Test.YtcknalapblabfaaGreatDoorTie
import Derived.JoinedOf
import Derived.ChangeMaps5
import Derived.SevenTiedAt
import Derived.Lay
import Derived.LaidHandle
import Derived.LaidSub
import Derived.Handed
set_option linter.unusedVariables false
set_option linter.unusedSimpArgs false
set_option pp.deepTerms false
set_option pp.maxSteps 500
namespace Go.Proofs
open Go.Idl

/-! what a runner asks of the registry -/
theorem window21_c {k tag h rb R} (hR : RegAt k tag h rb R) (id : Int) (w : Wn) (hw : (R.win.find? fun p => p.1 == id) = some (id, w)) (hs : w.tree.size < 100000000) :
    ICall Tryz.prog 31 [.ptr rb 0, .int .i64 id] h (retP (.tup [.agg w.row, .bool true]) h) := by
  refine icall_of_iwp (fun _ => 0) Tryz.func31 rfl (by kernel_rfl) (Nat.le_of_ble_eq_true rfl) ?_
  rw [Tryz.results31]
  have h1 := hR.hr
  have h2 := hR.hwin
  rw [RG.winE_k] at h2
  have hq := ifind_k (·.1) (fun p : Int × Wn => IV.agg p.2.row) id R.win
  rw [hw] at hq
  simp -implicitDefEqProofs [go_sem, h1, h2, hq, RG.cells]
  refine (at0_c w.tree h (by omega)).mono ?_
  rintro e h' ⟨rfl, rfl⟩
  simp -implicitDefEqProofs [go_sem]
  exact ⟨_, Sub.refl _, by cases w; rfl, rfl⟩
theorem num_c {h : Heap} {b : Nat} {r : Rn} (hr : RnAt h b r) (c : UInt8) (d : Int) : ICall Tryz.prog 169 [.ptr b 0, .int .u8 c.toNat, .int .i64 d] h (retP (.int .i64 ((getN r.ns c).getD d)) h) := by
  refine icall_of_iwp (fun d => 0) Tryz.func169 rfl (by kernel_rfl) (Nat.le_of_ble_eq_true rfl) ?_
  rw [Tryz.results169]
  have h1 := hr.hb
  have h2 := hr.hn
  have hq := ifind_n c r.ns
  cases hg : getN r.ns c with
  | none =>
    rw [hg] at hq
    simp -implicitDefEqProofs [go_sem, h1, h2, hq, Rn.cells]
    exact ⟨h, Sub.refl _, rfl, rfl⟩
  | some v =>
    rw [hg] at hq
    simp -implicitDefEqProofs [go_sem, h1, h2, hq, Rn.cells]
    exact ⟨h, Sub.refl _, rfl, rfl⟩
/-- a place, told in signs -/
def plc (a b c : Int) (x : UInt8) : ByteArray := ⟨#[x]⟩ ++ digL [if x = 36 then a else if x = 64 then b else c]
theorem digL_one (v : Int) : digL [v] = digB v := by
  show (⟨(Lib.join [(digB v).data.toList] [44]).toArray⟩ : ByteArray) = _
  simp [Lib.join]
theorem dig1_len (v : Int) : 1 + (digL [v]).size ≤ 9223372036854775807 := by
  have h1 := digB_len v
  have h2 : (digB v).data.toList.length = (digB v).size := by simp
  rw [digL_one]; omega
set_option maxRecDepth 20000 in
theorem place_c (a b c : Int) (s : ByteArray) (L : List UInt8) (hL : s.data.toList = L) (h : Heap) (hs : L.length ≤ 1000) (hi : ∀ n ∈ [a, b, c], 0 ≤ n → n ≤ 2147483647 → ∀ h, ICall Tryz.prog 108 [.int .i64 n] h (retP (.str (itoaB n)) h)) :
    ICall Tryz.prog 170 [.agg (plR a b c), .str s] h (retP (.str (joinB (L.map (plc a b c)) ⟨#[32]⟩)) h) := by
  refine icall_of_iwp (fun _ => 0) Tryz.func170 rfl (by kernel_rfl) (Nat.le_of_ble_eq_true rfl) ?_
  rw [Tryz.results170]
  have hs9 : s.size ≤ 1000000000 := by have : s.size = L.length := by rw [← hL]; simp
                                       omega
  have hsr : strRows s = L.map byRow := by rw [← hL]; rfl
  simp -implicitDefEqProofs [go_sem, plR, hs9]
  rw [hsr]
  simp -implicitDefEqProofs [go_sem]
  refine iwp_loopF (rng [5,7,8] 12 38) (fun k => k == 2) (fun st => ∃ i v, i ≤ L.length ∧ st.t 12 = .int .i64 i ∧ st.t 5 = v ∧ Idl.Own [36] st.x 9 v (((L.take i).map (plc a b c)).map strRow) ∧ st.h = h ∧ st.t 2 = .loc 2 0 0 ∧ st.m 2 = some (0, [.int .i64 a, .int .i64 b, .int .i64 c])) (fun st => L.length - tn (st.t 12)) ?_ ?_
  · exact ⟨0, .list .tight [], Nat.zero_le _, by simp -implicitDefEqProofs [go_sem], by simp -implicitDefEqProofs [go_sem], Idl.Own.tight, by simp -implicitDefEqProofs [go_sem], by simp -implicitDefEqProofs [go_sem], by simp -implicitDefEqProofs [go_sem]⟩
  rintro J st hJ hf ⟨i, v, hle, h12, h5, ho, hh, h2, hm2⟩
  simp -implicitDefEqProofs [go_sem, h12, h5, hh, hf.t, hf.m]
  refine cK_dec (fun hlt => ?_) (fun hge => ?_)
  · have hlt' : i < L.length := by omega
    have hw := wrap_succ (i := i) (by omega)
    obtain ⟨x, hx⟩ : ∃ x, L[i] = x := ⟨_, rfl⟩
    have hg : L[i]? = some x := by rw [← hx]; exact List.getElem?_eq_getElem hlt'
    simp -implicitDefEqProofs [go_sem, h12, h5, hh, h2, hm2, hf.t, hf.m, hlt', hg, hx, byRow]
    cases h36 : ((x.toNat : Int) == 36) with
    | true =>
      have c36 : x = 36 := (u8_i _ _).1 (by simpa using h36)
      simp -implicitDefEqProofs [go_sem, h12, h5, hh, h2, hm2, hf.t, hf.m]
      refine iwp_drawn_of mixed [0, 1, 2, 3, 4, 5, 6, 7, 8, 9, 10] (by kernel_rfl) ?_
      simp -implicitDefEqProofs [go_sem, h12, h5, hh, h2, hm2, hf.t, hf.m]
      refine ⟨_, Digits_c [a] h (by simp) (fun n hn h0 h1 => by simp at hn; subst hn; exact hi _ (by simp) h0 h1 h), ?_⟩
      have hpx : plc a b c x = ⟨#[x]⟩ ++ digL [a] := by rw [plc]; simp [c36]
      simp -implicitDefEqProofs [go_sem, h12, h5, hh, h2, hm2, hf.t, hf.m, dig1_len a]
      refine aK_own (z := 1) (S := [36]) ho (by simp) elT_27 elZ_9 (by simp [roomy, byT_9]; omega) (strs_uni _) (by simp [uni]) ?_
      intro r x' ho' _
      simp -implicitDefEqProofs [go_sem, h12, h5, hh, h2, hm2, hf.t, hf.m, hf, hw]
      refine hJ _ ⟨i + 1, r, by omega, by simp -implicitDefEqProofs [go_sem, hw], by simp -implicitDefEqProofs [go_sem], ?_, by simp -implicitDefEqProofs [go_sem, hh], by simp -implicitDefEqProofs [go_sem, h2], by simp -implicitDefEqProofs [go_sem, hm2]⟩ (by simp [go_sem, h12, hw]; omega)
      have e1 : L.take (i + 1) = L.take i ++ [x] := by rw [List.take_add_one, hg]; rfl
      show Idl.Own [36] x' _ r _
      rw [e1, List.map_append, List.map_append, List.map_singleton, hpx]
      exact ho'
    | false =>
      have c36 : x ≠ 36 := fun e => by rw [e] at h36; exact absurd h36 (by decide)
      simp -implicitDefEqProofs [go_sem, h12, h5, hh, h2, hm2, hf.t, hf.m]
      cases h64 : ((x.toNat : Int) == 64) with
      | true =>
        have c64 : x = 64 := (u8_i _ _).1 (by simpa using h64)
        simp -implicitDefEqProofs [go_sem, h12, h5, hh, h2, hm2, hf.t, hf.m]
        refine iwp_drawn_of mixed [0, 1, 2, 3, 4, 5, 6, 7, 8, 9, 10] (by kernel_rfl) ?_
        simp -implicitDefEqProofs [go_sem, h12, h5, hh, h2, hm2, hf.t, hf.m]
        refine ⟨_, Digits_c [b] h (by simp) (fun n hn h0 h1 => by simp at hn; subst hn; exact hi _ (by simp) h0 h1 h), ?_⟩
        have hpx : plc a b c x = ⟨#[x]⟩ ++ digL [b] := by rw [plc]; simp [c36, c64]
        simp -implicitDefEqProofs [go_sem, h12, h5, hh, h2, hm2, hf.t, hf.m, dig1_len b]
        refine aK_own (z := 1) (S := [36]) ho (by simp) elT_27 elZ_9 (by simp [roomy, byT_9]; omega) (strs_uni _) (by simp [uni]) ?_
        intro r x' ho' _
        simp -implicitDefEqProofs [go_sem, h12, h5, hh, h2, hm2, hf.t, hf.m, hf, hw]
        refine hJ _ ⟨i + 1, r, by omega, by simp -implicitDefEqProofs [go_sem, hw], by simp -implicitDefEqProofs [go_sem], ?_, by simp -implicitDefEqProofs [go_sem, hh], by simp -implicitDefEqProofs [go_sem, h2], by simp -implicitDefEqProofs [go_sem, hm2]⟩ (by simp [go_sem, h12, hw]; omega)
        have e1 : L.take (i + 1) = L.take i ++ [x] := by rw [List.take_add_one, hg]; rfl
        show Idl.Own [36] x' _ r _
        rw [e1, List.map_append, List.map_append, List.map_singleton, hpx]
        exact ho'
      | false =>
        have c64 : x ≠ 64 := fun e => by rw [e] at h64; exact absurd h64 (by decide)
        simp -implicitDefEqProofs [go_sem, h12, h5, hh, h2, hm2, hf.t, hf.m]
        refine iwp_drawn_of mixed [0, 1, 2, 3, 4, 5, 6, 7, 8, 9, 10] (by kernel_rfl) ?_
        simp -implicitDefEqProofs [go_sem, h12, h5, hh, h2, hm2, hf.t, hf.m]
        refine ⟨_, Digits_c [c] h (by simp) (fun n hn h0 h1 => by simp at hn; subst hn; exact hi _ (by simp) h0 h1 h), ?_⟩
        have hpx : plc a b c x = ⟨#[x]⟩ ++ digL [c] := by rw [plc]; simp [c36, c64]
        simp -implicitDefEqProofs [go_sem, h12, h5, hh, h2, hm2, hf.t, hf.m, dig1_len c]
        refine aK_own (z := 1) (S := [36]) ho (by simp) elT_27 elZ_9 (by simp [roomy, byT_9]; omega) (strs_uni _) (by simp [uni]) ?_
        intro r x' ho' _
        simp -implicitDefEqProofs [go_sem, h12, h5, hh, h2, hm2, hf.t, hf.m, hf, hw]
        refine hJ _ ⟨i + 1, r, by omega, by simp -implicitDefEqProofs [go_sem, hw], by simp -implicitDefEqProofs [go_sem], ?_, by simp -implicitDefEqProofs [go_sem, hh], by simp -implicitDefEqProofs [go_sem, h2], by simp -implicitDefEqProofs [go_sem, hm2]⟩ (by simp [go_sem, h12, hw]; omega)
        have e1 : L.take (i + 1) = L.take i ++ [x] := by rw [List.take_add_one, hg]; rfl
        show Idl.Own [36] x' _ r _
        rw [e1, List.map_append, List.map_append, List.map_singleton, hpx]
        exact ho'
  · obtain rfl : i = L.length := by omega
    rw [List.take_length] at ho
    simp -implicitDefEqProofs [go_sem, h12, h5, hh, hf.t, hf.m, ho.strip]
    have hpl : ∀ x, (plc a b c x).data.toList.length ≤ 11 := fun x => by
      have := digB_len (if x = 36 then a else if x = 64 then b else c)
      simp [plc, digL, joinB, Lib.join] at this ⊢
      omega
    have hjl := join_len ((L.map (plc a b c)).map (·.data.toList)) [32] 11 (fun x hx => by
      obtain ⟨y, hy, rfl⟩ := List.mem_map.1 hx
      obtain ⟨n, _, rfl⟩ := List.mem_map.1 hy
      exact hpl n)
    simp only [List.length_map, List.length_cons, List.length_nil] at hjl
    have hjc := sjoin_c (L.map (plc a b c)) ⟨#[32]⟩ .plain h (by simp; omega) (by show (Lib.join ((L.map (plc a b c)).map (·.data.toList)) [32]).length ≤ _; omega)
    rw [List.map_map] at hjc
    refine hjc.mono ?_
    rintro e h' ⟨rfl, he⟩
    rw [he]
    simp -implicitDefEqProofs [go_sem]
    exact ⟨h, Sub.refl _, rfl, rfl⟩
/-- what stood is of no colour of the registry -/
def tagS (k : Nat) (h : Heap) (tag : Nat → Nat × Nat × Nat) (j : Nat) : Nat × Nat × Nat := match h j with | none => (k + 2, 0, 0) | some _ => tag j
theorem RegAt.sub {k tag h rb R h'} (hR : RegAt k tag h rb R) (hs : Sub h h') : RegAt k (tagS k h tag) h' rb R := by
  have hfr : ∀ j o, h j = some o → h' j = some o ∧ tagS k h tag j = tag j := fun j o hj => ⟨hs j o hj, by unfold tagS; rw [hj]⟩
  exact hR.of (fun _ => False) (fun j o hj _ _ => hfr j o hj) rfl rfl rfl rfl rfl rfl (.inl ⟨id, rfl⟩) (.inl ⟨id, rfl⟩) (.inl ⟨id, rfl⟩) (.inl ⟨id, rfl⟩) (.inl ⟨id, rfl⟩) (hR.hB.frm (k' := k + 1) (fun j o hj _ => hfr j o hj) (by omega)) (fun s hs => .inl ⟨hs, id, id⟩)
/-- what is foreign may be written -/
theorem RegAt.foreign {k tag h rb R b} (hR : RegAt k tag h rb R) (h1 : (tag b).1 ≠ k) (h2 : (tag b).1 ≠ k + 1) (o : Option IObj) : RegAt k tag (upd h b o) rb R := by
  have hfr : ∀ j oj, h j = some oj → (tag j).1 = k ∨ (tag j).1 = k + 1 → upd h b o j = some oj ∧ tag j = tag j := fun j oj hj ht => by
    have : j ≠ b := by rintro rfl; rcases ht with h | h <;> contradiction
    exact ⟨by rw [upd_ne _ _ this]; exact hj, rfl⟩
  refine hR.of (fun _ => False) (fun j oj hj ht _ => hfr j oj hj (.inr ht)) rfl rfl rfl rfl rfl rfl (.inl ⟨id, rfl⟩) (.inl ⟨id, rfl⟩) (.inl ⟨id, rfl⟩) (.inl ⟨id, rfl⟩) (.inl ⟨id, rfl⟩) (hR.hB.frm (k' := (tag b).1) (fun j oj hj ht => ?_) (Ne.symm h1)) (fun s hs => .inl ⟨hs, id, id⟩)
  have : j ≠ b := by rintro rfl; exact ht rfl
  exact ⟨by rw [upd_ne _ _ this]; exact hj, rfl⟩
theorem Frm2.foreign {k tag h tag' h' b} (hF : Frm2 k tag h tag' h') (hb : ∃ o, h b = some o) (o : Option IObj) : Frm2 k tag (upd h b o) tag' (upd h' b o) := fun j oj hj t1 t2 => by
  by_cases e : j = b
  · subst e
    rw [upd_same] at hj ⊢
    obtain ⟨o2, ho2⟩ := hb
    exact ⟨hj, (hF j o2 ho2 t1 t2).2⟩
  · rw [upd_ne _ _ e] at hj ⊢
    exact hF j oj hj t1 t2
end Go.Proofs

set_option linter.unusedVariables false
set_option linter.unusedSimpArgs false
set_option pp.deepTerms false
set_option pp.maxSteps 500
namespace Go.Proofs
open Go.Idl

/-! what a runner stands at -/
structure RunOk (R : RG) (r : Rn) (rb : Nat) (s : SB) (w : Wn) : Prop where
  reg : r.reg = .ptr rb 0
  ses : (R.ses.find? fun a => a.id == r.seat) = some s
  sl : ∀ s ∈ R.ses, s.wins.length < 1000000000
  win : (R.win.find? fun p => p.1 == s.cur) = some (s.cur, w)
  wok : WinOk R
theorem RunOk.sz {R r rb s w} (o : RunOk R r rb s w) : w.tree.size < 100000000 := o.wok.sz _ (List.mem_of_find?_eq_some o.win)
set_option maxRecDepth 20000 in
theorem rsession_c {k tag h rb R b r s w} (hR : RegAt k tag h rb R) (hr : RnAt h b r) (o : RunOk R r rb s w) : ICall Tryz.prog 172 [.ptr b 0] h (retP (.agg s.row) h) := by
  refine icall_of_iwp (fun _ => 0) Tryz.func172 rfl (by kernel_rfl) (Nat.le_of_ble_eq_true rfl) ?_
  rw [Tryz.results172]
  have h1 := hr.hb
  have hses := session21_c hR r.seat o.sl
  have hv : sesV R r.seat = .tup [.agg s.row, .bool true] := by rw [sesV, o.ses]
  rw [hv] at hses
  simp -implicitDefEqProofs [go_sem]
  refine iwp_drawn_alloc mixed 12 [0, 1, 2, 3, 4, 5, 6, 7, 8, 9, 10, 11, 13, 14] (by kernel_rfl) ?_
  simp -implicitDefEqProofs [go_sem, h1, Rn.cells, o.reg]
  refine ⟨_, hses, ?_⟩
  simp -implicitDefEqProofs [go_sem, SB.row]
  refine (must_c true 6 h).mono ?_
  rintro e h' ⟨rfl, rfl⟩
  simp -implicitDefEqProofs [go_sem, SB.row]
  exact ⟨_, Sub.refl _, rfl, rfl⟩
set_option maxRecDepth 20000 in
theorem own_c {k tag h rb R b r s w} (hR : RegAt k tag h rb R) (hr : RnAt h b r) (o : RunOk R r rb s w) : ICall Tryz.prog 238 [.ptr b 0] h (retP (.int .i64 w.act) h) := by
  refine icall_of_iwp (fun _ => 0) Tryz.func238 rfl (by kernel_rfl) (Nat.le_of_ble_eq_true rfl) ?_
  rw [Tryz.results238]
  have h1 := hr.hb
  simp -implicitDefEqProofs [go_sem]
  refine iwp_drawn_alloc mixed 11 [0, 1, 2, 3, 4, 5, 6, 7, 8, 9, 10, 12, 13] (by kernel_rfl) ?_
  simp -implicitDefEqProofs [go_sem, h1, Rn.cells, o.reg]
  refine ⟨_, rsession_c hR hr o, ?_⟩
  simp -implicitDefEqProofs [go_sem, h1, SB.row]
  refine ⟨_, window21_c hR s.cur w o.win o.sz, ?_⟩
  simp -implicitDefEqProofs [go_sem, h1, SB.row]
  exact ⟨_, Sub.refl _, rfl, rfl⟩
theorem RnAt.sub {h h' : Heap} {b : Nat} {r : Rn} (hr : RnAt h b r) (hs : Sub h h') : RnAt h' b r :=
  ⟨hs _ _ hr.hb, hr.hm.imp (hs _ _) (fun ⟨e, c, q⟩ => ⟨e, c, hs _ _ q⟩), hs _ _ hr.hn, hr.hne⟩
set_option maxRecDepth 20000 in
theorem pane_c {k tag h rb R b r s w} (hR : RegAt k tag h rb R) (hr : RnAt h b r) (o : RunOk R r rb s w) (hn : getN r.ns 116 = none) (hf : findP R w.act = some (s.cur, w)) : ICall Tryz.prog 178 [.ptr b 0] h (retP (.tup [.int .i64 w.act, .agg w.row, .int .i64 s.cur]) h) := by
  refine icall_of_iwp (fun d => if d = 3 then 1 else if d = 46 then 8 else 0) Tryz.func178 rfl (by kernel_rfl) (Nat.le_of_ble_eq_true rfl) ?_
  rw [Tryz.results178]
  have hb0 := hr.hb
  have hn0 := hr.hn
  simp -implicitDefEqProofs [go_sem]
  intro q hq0
  have qb : b ≠ q := by rintro rfl; rw [hb0] at hq0; cases hq0
  have qn : r.mn ≠ q := by rintro e; rw [← e, hn0] at hq0; cases hq0
  have hs : Sub h (upd h q (some (IObj.cells [.int .u8 0, .int .i64 0, .int .i64 0, .int .i64 0, .int .i64 0, .int .i64 0, .list .tight [], .int .i64 0, .bool false]))) := (Sub.refl h).upd hq0 _
  have hR' := hR.sub hs
  have hr' := hr.sub hs
  have hq := ifind_n 116 r.ns
  rw [hn] at hq
  have hq' : ifind (.int .u8) (.int .u8 116) (r.ns.map encN) = some none := hq
  have hfi := find21_c hR' o.wok w.act
  rw [findV, hf] at hfi
  simp -implicitDefEqProofs [go_sem, hb0, hn0, qb, qn, hq', Rn.cells]
  refine (own_c hR' hr' o).mono ?_
  rintro e h1 ⟨rfl, he⟩
  rw [he]
  simp -implicitDefEqProofs [go_sem, hb0, hn0, qb, qn, Rn.cells, o.reg]
  refine hfi.mono ?_
  rintro e h3 ⟨rfl, he⟩
  rw [he]
  simp -implicitDefEqProofs [go_sem, plR]
  refine (must_c true 6 _).mono ?_
  rintro e h4 ⟨rfl, he⟩
  rw [he]
  simp -implicitDefEqProofs [go_sem, plR]
  refine iwp_drawn_alloc mixed 10 [0, 1, 2, 3, 4, 5, 6, 7, 8, 9, 11, 12] (by kernel_rfl) ?_
  simp -implicitDefEqProofs [go_sem, hb0, hn0, qb, qn, Rn.cells, o.reg, plR]
  refine ⟨_, window21_c hR' s.cur w o.win o.sz, ?_⟩
  simp -implicitDefEqProofs [go_sem, hb0, hn0, qb, qn, Rn.cells, o.reg, plR]
  refine iwp_drawn_of mixed [0, 1, 2, 3, 4, 5, 6] (by kernel_rfl) ?_
  simp -implicitDefEqProofs [go_sem, hb0, hn0, qb, qn, Rn.cells, o.reg, plR]
  exact ⟨h, (Sub.refl h).upd hq0 _, rfl, rfl⟩
end Go.Proofs

set_option linter.unusedVariables false
set_option linter.unusedSimpArgs false
set_option pp.deepTerms false
set_option pp.maxSteps 500
namespace Go.Proofs
open Go.Idl

/-! a runner makes a session -/
def newsW : List UInt8 := [110, 101, 119, 45, 115, 101, 115, 115, 105, 111, 110]
def begunR (k : Nat) (tag : Nat → Nat × Nat × Nat) (h : Heap) (rb : Nat) (R : RG) (nm : ByteArray) (w hh : Int) (h' : Heap) : Prop :=
  ∃ sb tag1 h1, Frm2 k tag h tag1 h1 ∧ openR k tag1 h1 rb { R with ns := R.ns + 1, ses := R.ses ++ [newS R.ns nm sb] } R.ses.length (newS R.ns nm sb) w hh (.ret (.agg (plR R.ns R.nw R.np))) h'
set_option maxRecDepth 20000 in
set_option maxHeartbeats 1000000 in
theorem sessions_new {k tag h rb R b r nm} (hR : RegAt k tag h rb R) (hr : RnAt h b r) (hb1 : (tag b).1 ≠ k) (hb2 : (tag b).1 ≠ k + 1) (hreg : r.reg = .ptr rb 0) (hw : r.word.toList = newsW) (hrest : r.rest = [nm]) (hx : getN r.ns 120 = none) (hy : getN r.ns 121 = none)
    (o : BegOk R) (hnm : nm.size < 100000000) (hbe : begE R nm 80 24 = 0) (hi : ∀ n ∈ [R.ns, R.nw, R.np], 0 ≤ n → n ≤ 2147483647 → ∀ h, ICall Tryz.prog 108 [.int .i64 n] h (retP (.str (itoaB n)) h)) :
    ICall Tryz.prog 125 [.ptr b 0] h fun e h' => e = .ret (.tup [.str (joinB ([36, 64, 37].map (plc R.ns R.nw R.np)) ⟨#[32]⟩), .bool true]) ∧
      ∃ h2, begunR k tag h rb R nm 80 24 h2 ∧ h' = upd h2 b (some (.cells { r with seat := R.ns }.cells)) := by
  refine icall_of_iwp (fun d => if d = 37 then 5 else 0) Tryz.func125 rfl (by kernel_rfl) (Nat.le_of_ble_eq_true rfl) ?_
  rw [Tryz.results125]
  have h1 := hr.hb
  have hwb : (r.word.toList == [110, 101, 119, 45, 115, 101, 115, 115, 105, 111, 110]) = true := by rw [hw]; decide
  simp -implicitDefEqProofs [go_sem, h1, Rn.cells, hwb]
  refine iwp_drawn_allocC mixed 18 [0, 1, 2, 3, 4, 5, 6, 7, 8, 9, 10, 11, 12, 13, 14, 15, 16, 17, 19, 20] (by kernel_rfl) (fun v st d x h => by cases d <;> exact h) (fun v st m h => h) ?_
  have hnx := num_c hr 120 80
  have hny := num_c hr 121 24
  rw [hx] at hnx
  rw [hy] at hny
  simp -implicitDefEqProofs [go_sem, h1, Rn.cells, hreg, hrest, strRow]
  refine ⟨_, hnx, ?_⟩
  simp -implicitDefEqProofs [go_sem, h1, Rn.cells, hreg, hrest, strRow]
  refine ⟨_, hny, ?_⟩
  simp -implicitDefEqProofs [go_sem, h1, Rn.cells, hreg, hrest, strRow]
  refine (begin21_c hR o nm hnm 80 24).mono ?_
  intro e h2 hB
  rw [beginR, if_pos hbe] at hB
  obtain ⟨sb, tag1, hh1, hF, h3, hO, rfl, rfl⟩ := hB
  have hbk : h2 b = some (.cells r.cells) := (hO.2.elim fun t q => q.elim fun _ q => q.elim fun _ q => q.elim fun _ q => q.elim fun _ q => q.elim fun _ q => by
    obtain ⟨f1, f2⟩ := hF b _ h1 hb1 hb2
    exact (q.2.1 b _ f1 (by rw [f2]; exact hb1) (by rw [f2]; exact hb2)).1)
  simp -implicitDefEqProofs [go_sem, plR]
  refine (ok_c 0 h2).mono ?_
  rintro e h4 ⟨rfl, he⟩
  rw [he]
  simp -implicitDefEqProofs [go_sem, plR, hbk, Rn.cells]
  refine (place_c R.ns R.nw R.np ⟨#[36, 64, 37]⟩ [36, 64, 37] rfl _ (by simp) hi).mono ?_
  rintro e h5 ⟨rfl, he⟩
  rw [he]
  simp -implicitDefEqProofs [go_sem, plR]
  refine ⟨_, Sub.refl _, h2, ⟨sb, tag1, hh1, hF, hO⟩, ?_⟩
  rw [hreg, hrest]; rfl
/-! a runner splits -/
def splW : List UInt8 := [115, 112, 108, 105, 116, 45, 119, 105, 110, 100, 111, 119]
set_option maxRecDepth 20000 in
theorem sessions_spl {h b r} (hr : RnAt h b r) (hw : r.word.toList = splW) : ICall Tryz.prog 125 [.ptr b 0] h (retP (.tup [.str ⟨#[]⟩, .bool false]) h) := by
  refine icall_of_iwp (fun d => if d = 37 then 5 else 0) Tryz.func125 rfl (by kernel_rfl) (Nat.le_of_ble_eq_true rfl) ?_
  rw [Tryz.results125]
  have h1 := hr.hb
  have hw' : r.word.toList = [115, 112, 108, 105, 116, 45, 119, 105, 110, 100, 111, 119] := hw
  simp -implicitDefEqProofs [go_sem, h1, Rn.cells, hw']
  exact ⟨_, Sub.refl _, rfl, rfl⟩
set_option maxRecDepth 20000 in
set_option maxHeartbeats 1000000 in
theorem panes_spl {k tag h rb R b r s w} (hR : RegAt k tag h rb R) (hr : RnAt h b r) (o : RunOk R r rb s w) (hw : r.word.toList = splW) (hn : getN r.ns 116 = none) (hl : getN r.ns 108 = none) (h104 : (getO r.m 104).isSome = true) (hf : findP R w.act = some (s.cur, w))
    (so : SplOk R) (sp : Wn → Wn × Int) (hsp : ∀ p ∈ R.win, (sp p.2).1.tree.size < 100000000 ∧ ∀ h, ICall Tryz.prog 240 [.agg p.2.row, .int .i64 w.act, .int .u8 1, .int .i64 0, .int .i64 R.np, .bool (getO r.m 98).isSome] h (retP (.tup [.agg (sp p.2).1.row, .int .i64 (sp p.2).2]) h))
    (hok : (sp w).2 = 0) (hnf : ¬ 4096 ≤ R.np') (hi : ∀ n ∈ [ownOf R s.cur, s.cur, R.np], 0 ≤ n → n ≤ 2147483647 → ∀ h, ICall Tryz.prog 108 [.int .i64 n] h (retP (.str (itoaB n)) h)) :
    ICall Tryz.prog 126 [.ptr b 0] h fun e h' => e = .ret (.tup [.str (joinB ([37].map (plc (ownOf R s.cur) s.cur R.np)) ⟨#[32]⟩), .bool true]) ∧
      splitR k tag h rb R w.act sp (.ret (.tup [.agg (plR (ownOf R s.cur) s.cur R.np), .int .i64 0])) h' := by
  refine icall_of_iwp (fun d => if d = 49 then 5 else 0) Tryz.func126 rfl (by kernel_rfl) (Nat.le_of_ble_eq_true rfl) ?_
  rw [Tryz.results126]
  have h1 := hr.hb
  have hw' : r.word.toList = [115, 112, 108, 105, 116, 45, 119, 105, 110, 100, 111, 119] := hw
  have hnl := num_c hr 108 0
  rw [hl] at hnl
  simp -implicitDefEqProofs [go_sem, h1, Rn.cells, hw']
  refine (pane_c hR hr o hn hf).mono ?_
  rintro e h2 ⟨rfl, rfl⟩
  simp -implicitDefEqProofs [go_sem, h1, Rn.cells, hw', o.reg]
  refine (ohas_c hr 104).mono ?_
  rintro e h3 ⟨rfl, he⟩
  rw [he, h104]
  simp -implicitDefEqProofs [go_sem, h1, Rn.cells, hw', o.reg]
  refine iwp_drawn_allocC mixed 14 [0, 1, 2, 3, 4, 5, 6, 7, 8, 9, 10, 11, 12, 13, 15, 16] (by kernel_rfl) (fun v st d x h => by cases d <;> exact h) (fun v st m h => h) ?_
  simp -implicitDefEqProofs [go_sem, h1, Rn.cells, hw', o.reg]
  refine ⟨_, hnl, ?_⟩
  simp -implicitDefEqProofs [go_sem, h1, Rn.cells, hw', o.reg]
  refine ⟨_, ohas_c hr 98, ?_⟩
  simp -implicitDefEqProofs [go_sem, h1, Rn.cells, hw', o.reg]
  refine (split21_c hR so w.act 1 0 (getO r.m 98).isSome sp hsp).mono ?_
  intro e h4 hS
  have hS0 := hS
  simp only [splitR, hf, if_neg hnf, hok, ne_eq, not_true_eq_false, if_false] at hS
  obtain ⟨rfl, _⟩ := hS
  simp -implicitDefEqProofs [go_sem, h1, Rn.cells, hw', o.reg, plR]
  refine (ok_c 0 h4).mono ?_
  rintro e h5 ⟨rfl, he⟩
  rw [he]
  simp -implicitDefEqProofs [go_sem, plR]
  refine (place_c (ownOf R s.cur) s.cur R.np ⟨#[37]⟩ [37] rfl _ (by simp) hi).mono ?_
  rintro e h6 ⟨rfl, he⟩
  rw [he]
  simp -implicitDefEqProofs [go_sem, plR]
  exact ⟨h4, Sub.refl _, hS0⟩
end Go.Proofs

set_option linter.unusedVariables false
set_option linter.unusedSimpArgs false
set_option pp.deepTerms false
set_option pp.maxSteps 500
namespace Go.Proofs
open Go.Idl

/-! one command -/
theorem run_new {h : Heap} {b : Nat} {text : ByteArray} {P : Heap → Prop} (hs : ICall Tryz.prog 125 [.ptr b 0] h fun e h' => e = .ret (.tup [.str text, .bool true]) ∧ P h') : ICall Tryz.prog 80 [.ptr b 0] h fun e h' => e = .ret (.str text) ∧ P h' := by
  refine icall_of_iwp (fun d => 0) Tryz.func80 rfl (by kernel_rfl) (Nat.le_of_ble_eq_true rfl) ?_
  rw [Tryz.results80]
  simp -implicitDefEqProofs [go_sem]
  refine hs.mono ?_
  rintro e h' ⟨rfl, hp⟩
  simp -implicitDefEqProofs [go_sem]
  exact ⟨_, Sub.refl _, hp⟩
theorem run_spl {h : Heap} {b : Nat} {text : ByteArray} {P : Heap → Prop} (hs : ICall Tryz.prog 125 [.ptr b 0] h (retP (.tup [.str ⟨#[]⟩, .bool false]) h))
    (hp : ICall Tryz.prog 126 [.ptr b 0] h fun e h' => e = .ret (.tup [.str text, .bool true]) ∧ P h') : ICall Tryz.prog 80 [.ptr b 0] h fun e h' => e = .ret (.str text) ∧ P h' := by
  refine icall_of_iwp (fun d => 0) Tryz.func80 rfl (by kernel_rfl) (Nat.le_of_ble_eq_true rfl) ?_
  rw [Tryz.results80]
  simp -implicitDefEqProofs [go_sem]
  refine hs.mono ?_
  rintro e h' ⟨rfl, rfl⟩
  simp -implicitDefEqProofs [go_sem]
  refine hp.mono ?_
  rintro e h' ⟨rfl, hp⟩
  simp -implicitDefEqProofs [go_sem]
  exact ⟨_, Sub.refl _, hp⟩
theorem one1_none (b4 b6 b7 b8 : Nat) (h : Heap) : ICallD Tryz.prog 78 [.ptr b4 0, .ptr b6 0, .ptr b7 0, .ptr b8 0] none h (fun h' => h' = h) := by
  refine icalld_of_iwp (fun _ => 0) Tryz.func78 rfl (by kernel_rfl) (Nat.le_of_ble_eq_true rfl) ?_
  simp -implicitDefEqProofs [go_sem]
  exact Sub.refl _
def leftR (k : Nat) (tag : Nat → Nat × Nat × Nat) (h : Heap) (rb : Nat) (P : RG → Prop) (h' : Heap) : Prop := ∃ tag2 R', RegAt k tag2 h' rb R' ∧ P R' ∧ Frm2 k tag h tag2 h'
set_option maxRecDepth 20000 in
set_option maxHeartbeats 1000000 in
theorem cone_c {k tag h rb R} {rd : ByteArray → Int × Int} {nm : ByteArray → UInt8 → Int × Int} (hR : RegAt k tag h rb R) (seat : Int) (l : List ByteArray) (hl : l.length ≤ 100000) (hN : ∀ h, BegOkN rd nm l h) (text : ByteArray) (seat' : Int) (P : RG → Prop) {w m rest ns} (hb : beginV rd nm l = .inr (w, m, rest, ns))
    (hrun : ∀ tag1 b mo mn h1, RegAt k tag1 h1 rb R → (tag1 b).1 ≠ k → (tag1 b).1 ≠ k + 1 → RnAt h1 b ⟨.ptr rb 0, seat, w, mo, mn, m, rest, ns⟩ → ICall Tryz.prog 80 [.ptr b 0] h1 fun e h' => e = .ret (.str text) ∧ leftR k tag1 (upd h1 b (some (.cells (Rn.cells ⟨.ptr rb 0, seat', w, mo, mn, m, rest, ns⟩)))) rb P h') :
    ICall Tryz.prog 39 [.ptr rb 0, .int .i64 seat, .list .plain (l.map strRow)] h fun e h' => e = .ret (.tup [.int .i64 seat', .str text, .int .i64 0]) ∧ leftR k tag h rb P h' := by
  refine icall_defer (fun d => if d = 4 then 1 else if d = 6 then 1 else if d = 7 then 1 else if d = 8 then 1 else 0) Tryz.func39 rfl (by kernel_rfl) (Nat.le_of_ble_eq_true rfl) ?_
  rw [Tryz.results39]
  simp -implicitDefEqProofs [go_sem]
  intro b4 g4 b6 g6 b7 g7 b8 g8
  have m4 : h b4 = none := g4
  have m6 := upd_none.1 (show upd h b4 (some (.cells [.int .i64 seat])) b6 = none by unfold upd; exact g6)
  have m7 := upd_none.1 (show upd (upd h b4 (some (.cells [.int .i64 seat]))) b6 (some (.cells [.int .i64 0])) b7 = none by unfold upd; exact g7)
  have m7' := upd_none.1 m7.2
  have m8 := upd_none.1 (show upd (upd (upd h b4 (some (.cells [.int .i64 seat]))) b6 (some (.cells [.int .i64 0]))) b7 (some (.cells [.str ⟨#[]⟩])) b8 = none by unfold upd; exact g8)
  have m8' := upd_none.1 m8.2
  have m8'' := upd_none.1 m8'.2
  have n64 := m6.1
  have n76 := m7.1
  have n74 := m7'.1
  have n87 := m8.1
  have n86 := m8'.1
  have n84 := m8''.1
  have hs0 : Sub h (upd (upd (upd (upd h b4 (some (IObj.cells [.int .i64 seat]))) b6 (some (IObj.cells [.int .i64 0]))) b7 (some (IObj.cells [.str ⟨#[]⟩]))) b8 (some (IObj.cells [.int .i64 0]))) := ((((Sub.refl h).upd m4 _).upd m6.2 _).upd m7'.2 _).upd m8''.2 _
  simp -implicitDefEqProofs [go_sem, n64, n76, n74, n87, n86, n84, n64.symm, n76.symm, n74.symm, n87.symm, n86.symm, n84.symm]
  refine (begin_c (.ptr rb 0) (.inr ⟨rb, rfl⟩) seat l _ hl (hN _)).mono ?_
  intro e h1 hB
  rw [begR, hb] at hB
  obtain ⟨b, mo, mn, rfl, hb0, hmo, hmn, hs1, hr1⟩ := hB
  have hs01 : Sub h h1 := fun j o q => hs1 j o (hs0 j o q)
  have hbn : h b = none := by cases hq : h b with
    | none => rfl
    | some o => rw [hs0 b o hq] at hb0; cases hb0
  have tbn : ∀ j, h j = none → tagS k h tag j = (k + 2, 0, 0) := fun j hj => by unfold tagS; rw [hj]
  have x4 : b4 ≠ b := by rintro rfl; simp [upd, n64.symm, n74.symm, n84.symm] at hb0
  have x6 : b6 ≠ b := by rintro rfl; simp [upd, n76.symm, n86.symm] at hb0
  have x7 : b7 ≠ b := by rintro rfl; simp [upd, n87.symm] at hb0
  have x8 : b8 ≠ b := by rintro rfl; simp [upd] at hb0
  have hk1 : (k + 2 : Nat) ≠ k := by omega
  have hk2 : (k + 2 : Nat) ≠ k + 1 := by omega
  simp -implicitDefEqProofs [go_sem]
  refine (hrun (tagS k h tag) b mo mn h1 (hR.sub hs01) (by rw [tbn b hbn]; exact hk1) (by rw [tbn b hbn]; exact hk2) hr1).mono ?_
  rintro e h2 ⟨rfl, tag2, R', hR2, hP, hF2⟩
  have kp : ∀ j o, h1 j = some o → j ≠ b → (tagS k h tag j).1 ≠ k → (tagS k h tag j).1 ≠ k + 1 → h2 j = some o ∧ tag2 j = tagS k h tag j := fun j o hj hjb t1 t2 => hF2 j o (by rw [upd_ne _ _ hjb]; exact hj) t1 t2
  have y4 := kp b4 (.cells [.int .i64 seat]) (hs1 _ _ (by simp [upd, n64.symm, n74.symm, n84.symm])) x4 (by rw [tbn b4 m4]; exact hk1) (by rw [tbn b4 m4]; exact hk2)
  have y6 := kp b6 (.cells [.int .i64 0]) (hs1 _ _ (by simp [upd, n76.symm, n86.symm])) x6 (by rw [tbn b6 m6.2]; exact hk1) (by rw [tbn b6 m6.2]; exact hk2)
  have y7 := kp b7 (.cells [.str ⟨#[]⟩]) (hs1 _ _ (by simp [upd, n87.symm])) x7 (by rw [tbn b7 m7'.2]; exact hk1) (by rw [tbn b7 m7'.2]; exact hk2)
  have y8 := kp b8 (.cells [.int .i64 0]) (hs1 _ _ (by simp [upd])) x8 (by rw [tbn b8 m8''.2]; exact hk1) (by rw [tbn b8 m8''.2]; exact hk2)
  have yb := hF2 b _ (upd_same _ _ _) (by rw [tbn b hbn]; exact hk1) (by rw [tbn b hbn]; exact hk2)
  rw [tbn b6 m6.2] at y6
  rw [tbn b7 m7'.2] at y7
  rw [tbn b8 m8''.2] at y8
  have q4 := y4.1
  have q6 := y6.1
  have q7 := y7.1
  have q8 := y8.1
  have qb := yb.1
  have fin : ∀ o6 o7 o7' o8, leftR k tag h rb P (upd (upd (upd (upd h2 b7 o7) b6 o6) b7 o7') b8 o8) := fun o6 o7 o7' o8 => by
    refine ⟨tag2, R', (((hR2.foreign (by rw [y7.2]; exact hk1) (by rw [y7.2]; exact hk2) _).foreign (by rw [y6.2]; exact hk1) (by rw [y6.2]; exact hk2) _).foreign (by rw [y7.2]; exact hk1) (by rw [y7.2]; exact hk2) _).foreign (by rw [y8.2]; exact hk1) (by rw [y8.2]; exact hk2) _, hP, fun j o hj t1 t2 => ?_⟩
    have tj : tagS k h tag j = tag j := by unfold tagS; rw [hj]
    have z : ∀ i, h i = none → j ≠ i := by rintro i hi rfl; rw [hi] at hj; cases hj
    have := kp j o (hs01 j o hj) (z b hbn) (by rw [tj]; exact t1) (by rw [tj]; exact t2)
    rw [upd_ne _ _ (z b8 m8''.2), upd_ne _ _ (z b7 m7'.2), upd_ne _ _ (z b6 m6.2), upd_ne _ _ (z b7 m7'.2), ← tj]
    exact this
  simp -implicitDefEqProofs [go_sem, q7, q6, q8, qb, x7, x7.symm, x6, x6.symm, x8, x8.symm]
  refine iwp_drawn_tree mixed [0, 1, 2, 3, 4, 5, 6, 7] (.alt 0 (.alt 1 (.alt 2 (.alt 3 (.alt 4 (.alt 5 (.alt 6 (.alt 7 .done .none) .none) .none) (.alt 5 (.alt 4 (.alt 6 (.alt 7 .done .none) .none) .none) .none)) (.alt 4 (.alt 3 (.alt 5 (.alt 6 (.alt 7 .done .none) .none) .none) .none) .none)) (.alt 4 (.alt 2 (.alt 3 (.alt 5 (.alt 6 (.alt 7 .done .none) .none) .none) .none) .none) .none)) (.alt 4 (.alt 1 (.alt 2 (.alt 3 (.alt 5 (.alt 6 (.alt 7 .done .none) .none) .none) .none) .none) .none) .none)) (.alt 4 (.alt 0 (.alt 1 (.alt 2 (.alt 3 (.alt 5 (.alt 6 (.alt 7 .done .none) .none) .none) .none) .none) .none) .none) .none)) (by kernel_rfl) ?_
  simp -implicitDefEqProofs [go_sem, q7, q6, q8, qb, x7, x7.symm, x6, x6.symm, x8, x8.symm, n76, n76.symm, n87, n87.symm, n86, n86.symm, Rn.cells]
  refine (one1_none b4 b6 b7 b8 _).mono ?_
  rintro h3 rfl
  simp -implicitDefEqProofs [go_sem, n76, n76.symm, n87, n87.symm, n86, n86.symm]
  exact ⟨_, Sub.refl _, fin _ _ _ _⟩
end Go.Proofs

set_option linter.unusedVariables false
set_option linter.unusedSimpArgs false
set_option pp.deepTerms false
set_option pp.maxSteps 500
namespace Go.Proofs
open Go.Idl

/-! replies; a line of commands -/
def replyV (text : ByteArray) (e : Int) : ByteArray := if e ≠ 0 then ⟨#[101, 114, 114, 111, 114, 32]⟩ ++ digL [e] else if text = ⟨#[]⟩ then ⟨#[111, 107]⟩ else ⟨#[111, 107, 32]⟩ ++ text
theorem reply_c (text : ByteArray) (e : Int) (h : Heap) (ht : text.size < 1000000000000) (hi : 0 ≤ e → e ≤ 2147483647 → ICall Tryz.prog 108 [.int .i64 e] h (retP (.str (itoaB e)) h)) :
    ICall Tryz.prog 10 [.str text, .int .i64 e] h (retP (.str (replyV text e)) h) := by
  refine icall_of_iwp (fun d => 0) Tryz.func10 rfl (by kernel_rfl) (Nat.le_of_ble_eq_true rfl) ?_
  rw [Tryz.results10]
  by_cases he : e = 0
  · subst he
    have hz : 3 + text.size ≤ 9223372036854775807 := by omega
    by_cases ht0 : text = ⟨#[]⟩
    · subst ht0
      simp -implicitDefEqProofs [go_sem]
      exact ⟨_, Sub.refl _, rfl, rfl⟩
    · have hb : (text.toList == ([] : List UInt8)) = false := by
        cases hq : text.toList == ([] : List UInt8) with
        | false => rfl
        | true =>
          exfalso; apply ht0
          have h1 : text.toList = [] := by simpa using hq
          rw [ByteArray.toList_eq] at h1
          exact ByteArray.ext (Array.toList_inj.1 (by rw [h1]))
      simp -implicitDefEqProofs [go_sem, hb, hz]
      exact ⟨_, Sub.refl _, by rw [replyV, if_neg (by omega), if_neg ht0], rfl⟩
  · have hne : (e != 0) = true := by simpa using he
    simp -implicitDefEqProofs [go_sem, hne]
    refine (Digits_c [e] h (by simp) (fun n hn h0 h1 => by simp at hn; subst hn; exact hi h0 h1)).mono ?_
    rintro x h' ⟨rfl, rfl⟩
    have hd := digB_len e
    have hd2 : (digB e).data.toList.length = (digB e).size := by simp
    have hz : 6 + (digL [e]).size ≤ 9223372036854775807 := by rw [digL_one]; omega
    simp -implicitDefEqProofs [go_sem, hz]
    exact ⟨_, Sub.refl _, by rw [replyV, if_pos he], rfl⟩
theorem range_map_succ {α : Type} (f : Nat → α) (i : Nat) : (List.range (i + 1)).map f = (List.range i).map f ++ [f i] := by rw [List.range_succ, List.map_append]; rfl
set_option maxRecDepth 20000 in
set_option maxHeartbeats 1000000 in
theorem crun_c {k tag h rb R} (hR : RegAt k tag h rb R) (seats : Nat → Int) (cmds : List (List ByteArray)) (texts : Nat → ByteArray) (P : Nat → RG → Prop) (line : ByteArray) (hsz : line.size < 4611686018427387904) (hcut : wcutV line = some cmds) (hn : cmds.length ≤ 100000) (h0 : P 0 R) (ht : ∀ i, (texts i).size < 1000000000000)
    (hone : ∀ i (hi : i < cmds.length) tag h R, RegAt k tag h rb R → P i R → ICall Tryz.prog 39 [.ptr rb 0, .int .i64 (seats i), .list .plain (cmds[i].map strRow)] h fun e h' => e = .ret (.tup [.int .i64 (seats (i + 1)), .str (texts i), .int .i64 0]) ∧ leftR k tag h rb (P (i + 1)) h') :
    ICall Tryz.prog 12 [.ptr rb 0, .int .i64 (seats 0), .str line] h fun e h' => e = .ret (.tup [.int .i64 (seats cmds.length), .list .plain (((List.range cmds.length).map fun i => replyV (texts i) 0).map strRow)]) ∧ leftR k tag h rb (P cmds.length) h' := by
  refine icall_of_iwp (fun d => 0) Tryz.func12 rfl (by kernel_rfl) (Nat.le_of_ble_eq_true rfl) ?_
  rw [Tryz.results12]
  simp -implicitDefEqProofs [go_sem]
  refine (wcut_c line h hsz).mono ?_
  intro e h1 hc
  obtain ⟨rfl, rfl⟩ : e = .ret (.tup [.list .plain (cmds.map cmdRow), .niliface]) ∧ h1 = h := by
    rcases hc with ⟨cs, hcs, he, hh⟩ | ⟨hcs, _⟩
    · rw [hcut] at hcs; cases hcs; exact ⟨he, hh⟩
    · rw [hcut] at hcs; cases hcs
  simp -implicitDefEqProofs [go_sem]
  refine iwp_loopF (rng [1, 10, 12, 13, 14, 15] 30 52) nom (fun s => ∃ i v, i ≤ cmds.length ∧ s.t 30 = .int .i64 i ∧ s.t 1 = .int .i64 (seats i) ∧ s.t 10 = v ∧ Idl.Own [47] s.x 9 v (((List.range i).map fun i => replyV (texts i) 0).map strRow) ∧ leftR k tag h1 rb (P i) s.h) (fun s => cmds.length - tn (s.t 30)) ?_ ?_
  · exact ⟨0, .list .tight [], Nat.zero_le _, by simp -implicitDefEqProofs [go_sem], by simp -implicitDefEqProofs [go_sem], by simp -implicitDefEqProofs [go_sem], Idl.Own.tight, tag, R, by simpa -implicitDefEqProofs [go_sem] using hR, h0, by simpa -implicitDefEqProofs [go_sem] using Frm2.refl k tag h1⟩
  rintro J s hJ hf ⟨i, v, hle, h30, h1', h10, ho, tag1, R1, hR1, hP1, hF1⟩
  simp -implicitDefEqProofs [go_sem, h30, hf.t, hf.m]
  refine cK_dec (fun hlt => ?_) (fun hge => ?_)
  · have hlt' : i < cmds.length := by omega
    have hw := wrap_succ (i := i) (by omega)
    have hg : cmds[i]? = some cmds[i] := List.getElem?_eq_getElem hlt'
    have hO := hone i hlt' tag1 s.h R1 hR1 hP1
    simp -implicitDefEqProofs [go_sem, h30, h1', h10, hf.t, hf.m, hlt', hg, cmdRow]
    refine hO.mono ?_
    rintro e h2 ⟨rfl, tag2, R2, hR2, hP2, hF2⟩
    simp -implicitDefEqProofs [go_sem, h30, h1', h10, hf.t, hf.m]
    refine (reply_c (texts i) 0 h2 (ht i) (fun _ _ => itoaS_c 0 (by omega) h2)).mono ?_
    rintro e h3 ⟨rfl, he⟩
    rw [he]
    simp -implicitDefEqProofs [go_sem, h30, h1', h10, hf.t, hf.m]
    refine aK_own (z := 1) (S := [47]) ho (by simp) elT_27 elZ_9 (by simp [roomy, byT_9]; omega) (strs_uni _) (by simp [uni]) ?_
    intro r x' ho' _
    simp -implicitDefEqProofs [go_sem, h30, h1', h10, hf.t, hf.m, hf, hw]
    refine hJ _ ⟨i + 1, r, by omega, by simp -implicitDefEqProofs [go_sem, hw], by simp -implicitDefEqProofs [go_sem], by simp -implicitDefEqProofs [go_sem], ?_, tag2, R2, by simpa -implicitDefEqProofs [go_sem] using hR2, hP2, by simpa -implicitDefEqProofs [go_sem] using hF1.trans hF2⟩ (by simp [go_sem, h30, hw]; omega)
    show Idl.Own [47] x' _ r _
    rw [range_map_succ, List.map_append, List.map_singleton]
    exact ho'
  · obtain rfl : i = cmds.length := by omega
    simp -implicitDefEqProofs [go_sem, h30, h1', h10, hf.t, hf.m, ho.strip]
    exact ⟨_, Sub.refl _, tag1, R1, hR1, hP1, hF1⟩
end Go.Proofs

set_option linter.unusedVariables false
set_option linter.unusedSimpArgs false
set_option pp.deepTerms false
set_option pp.maxSteps 500
namespace Go.Proofs
open Go.Idl

/-! the document's example of commands -/
theorem bsq (x y : ByteArray) : (x.toList == y.toList) = decide (x = y) := by
  rw [Bool.eq_iff_iff]
  simp only [beq_iff_eq, decide_eq_true_eq]
  exact ⟨fun h => by rw [ByteArray.toList_eq, ByteArray.toList_eq] at h; exact ByteArray.ext (Array.toList_inj.1 h), fun h => by rw [h]⟩
set_option maxRecDepth 20000 in
theorem same20_c (l m : List ByteArray) (h : Heap) (hl : l.length < 100000000000) : ICall Tryz.prog 34 [.list .plain (l.map strRow), .list .plain (m.map strRow)] h (retP (.bool (decide (l = m))) h) := by
  refine icall_of_iwp (fun _ => 0) Tryz.func34 rfl (by kernel_rfl) (Nat.le_of_ble_eq_true rfl) ?_
  rw [Tryz.results34]
  simp -implicitDefEqProofs [go_sem]
  by_cases hlm : l.length = m.length
  case neg =>
    have hq : ((l.length : Int) != (m.length : Int)) = true := by simpa using fun h => hlm (by omega)
    have : ¬ l = m := fun e => by rw [e] at hlm; exact absurd rfl hlm
    simp -implicitDefEqProofs [go_sem, hq]
    exact ⟨_, Sub.refl _, by simp [this], rfl⟩
  have hq : ((l.length : Int) != (m.length : Int)) = false := by simp; omega
  simp -implicitDefEqProofs [go_sem, hq]
  refine iwp_loopF (rng [5] 13 26) nom (fun s => ∃ i, i ≤ l.length ∧ s.t 13 = .int .i64 i ∧ s.h = h ∧ ∀ j, j < i → l[j]? = m[j]?) (fun s => l.length - tn (s.t 13)) ?_ ?_
  · exact ⟨0, Nat.zero_le _, by simp -implicitDefEqProofs [go_sem], by simp -implicitDefEqProofs [go_sem], fun _ h => by omega⟩
  rintro J s hJ hf ⟨i, hi, h13, hh, hno⟩
  simp -implicitDefEqProofs [go_sem, h13, hh, hf.t, hf.m]
  refine cK_dec (fun hlt => ?_) (fun hge => ?_)
  · have hlt' : i < l.length := by omega
    have hlt2 : i < m.length := by omega
    have hg : l[i]? = some l[i] := List.getElem?_eq_getElem hlt'
    have hg2 : m[i]? = some m[i] := List.getElem?_eq_getElem hlt2
    have hw := wrap_succ (i := i) (by omega)
    obtain ⟨x, hx⟩ : ∃ x, l[i] = x := ⟨_, rfl⟩
    obtain ⟨y, hy⟩ : ∃ y, m[i] = y := ⟨_, rfl⟩
    rw [hx] at hg
    rw [hy] at hg2
    simp -implicitDefEqProofs [go_sem, h13, hh, hf.t, hf.m]
    refine iwp_drawn_of mixed [0, 1, 2, 3, 4, 5, 6, 7, 8] (by kernel_rfl) ?_
    simp -implicitDefEqProofs [go_sem, h13, hh, hf.t, hf.m, hlt', hlt2, hg, hg2, hx, hy, strRow]
    cases hb : x.toList == y.toList with
    | false =>
      have hne : x ≠ y := fun e => by rw [e] at hb; simp at hb
      have : ¬ l = m := fun e => by subst e; rw [hg] at hg2; cases hg2; exact hne rfl
      simp -implicitDefEqProofs [go_sem, h13, hh, hf.t, hf.m]
      exact ⟨_, Sub.refl _, by simp [this], rfl⟩
    | true =>
      have he : x = y := by rw [bsq] at hb; simpa using hb
      simp -implicitDefEqProofs [go_sem, h13, hh, hf.t, hf.m, hf, hw]
      refine hJ _ ⟨i + 1, by omega, by simp -implicitDefEqProofs [go_sem, hw], by simp -implicitDefEqProofs [go_sem, hh], fun j hj => ?_⟩ (by simp [go_sem, h13, hw]; omega)
      by_cases e : j = i
      · subst e; rw [hg, hg2, he]
      · exact hno j (by omega)
  · have hlm2 : l = m := List.ext_getElem? fun j => by
      by_cases hj : j < l.length
      · exact hno j (by omega)
      · rw [List.getElem?_eq_none (by omega), List.getElem?_eq_none (by omega)]
    simp -implicitDefEqProofs [go_sem, h13, hh, hf.t, hf.m]
    exact ⟨_, Sub.refl _, by simp [hlm2], rfl⟩
structure St0 (R : RG) : Prop where
  ns : R.ns = 0
  nw : R.nw = 0
  np : R.np = 0
  mkn : R.mkr = .nilfn
  L : R.L = []
  ses : R.ses = []
  win : R.win = []
  own : R.own = []
structure St1 (R : RG) : Prop where
  mkn : R.mkr = .nilfn
  np : R.np = 1
  win : R.win = [(0, wA)]
  own : R.own = [(0, 0)]
  ses : ∃ s, R.ses = [s] ∧ s.id = 0 ∧ s.cur = 0 ∧ s.wins = [0]
  L : R.L.map (·.m) = [⟨0, true, 80, 24, [⟨1, 80, 24, ⟨#[]⟩⟩], false⟩]
theorem St0.beg {R : RG} (o : St0 R) : BegOk R := by
  obtain ⟨h1, h2, h3, h4, h5, h6, h7, h8⟩ := o
  exact ⟨h4, ⟨by simp [h6], by simp [h6], by simp [h6], by simp [h6]⟩, ⟨by simp [h5], by simp [h5], by simp [h7], by simp [h6]⟩, by omega, by simp [h6], by omega, by omega, by simp [h7], by simp [h8], by simp [h5], by rw [h5]; intro p hp; simp at hp⟩
def mainB : ByteArray := ⟨#[109, 97, 105, 110]⟩
theorem St0.begE {R : RG} (o : St0 R) : Go.Proofs.begE R mainB 80 24 = 0 := by
  obtain ⟨ns, nw, np, mkr, bb, mb, recb, sesb, winb, ownb, L, ses, win, own⟩ := R
  obtain ⟨h1, h2, h3, h4, h5, h6, h7, h8⟩ := o
  simp only at h1 h2 h3 h4 h5 h6 h7 h8
  subst h1 h2 h3 h4 h5 h6 h7 h8
  rw [Go.Proofs.begE, if_pos (by decide +kernel)]; rfl
def rd0 (_ : ByteArray) : Int × Int := (0, 0)
def nm0 (_ : ByteArray) (_ : UInt8) : Int × Int := (0, 0)
def newB : ByteArray := ⟨#[110, 101, 119, 45, 115, 101, 115, 115, 105, 111, 110]⟩
def splB : ByteArray := ⟨#[115, 112, 108, 105, 116, 45, 119, 105, 110, 100, 111, 119]⟩
def hB : ByteArray := ⟨#[45, 104]⟩
theorem beg_new : beginV rd0 nm0 [newB, mainB] = .inr (newB, [], [mainB], []) := by decide +kernel
theorem beg_spl : beginV rd0 nm0 [splB, hB] = .inr (splB, [(104, ⟨#[]⟩)], [], []) := by decide +kernel
theorem cut22 : wcutV ⟨#[110, 101, 119, 45, 115, 101, 115, 115, 105, 111, 110, 32, 109, 97, 105, 110, 59, 32, 115, 112, 108, 105, 116, 45, 119, 105, 110, 100, 111, 119, 32, 45, 104]⟩ = some [[newB, mainB], [splB, hB]] := by decide +kernel
def noNum (l : List ByteArray) (w : ByteArray) : Bool := (formT w.toList).all fun f => match optZ l f.values with
  | .inr (_, m) => letters.all fun c => (getO m c).isNone || decide (Lib.indexByte f.values.data.toList c < 0)
  | _ => true
theorem opt_no {w : ByteArray} {r : List ByteArray} (hz : noNum (w :: r) w = true) (h : Heap) : BegOkN rd0 nm0 (w :: r) h := by
  intro w' r' f i m e hf ho
  cases e
  rw [noNum, hf, Option.all_some, ho, List.all_eq_true] at hz
  have key : ∀ c s, c ∈ letters → getO m c = some s → ¬ Lib.indexByte f.values.data.toList c < 0 → False := fun c s hc hg hn => by
    have := hz c hc
    rw [hg] at this
    simp [hn] at this
  exact ⟨fun c s hc hg hn => (key c s hc hg hn).elim, fun c s g hc hg hn => (key c s hc hg hn).elim⟩
theorem no_new : noNum [newB, mainB] newB = true := by decide +kernel
theorem no_spl : noNum [splB, hB] splB = true := by decide +kernel
end Go.Proofs

set_option linter.unusedVariables false
set_option linter.unusedSimpArgs false
set_option pp.deepTerms false
set_option pp.maxSteps 500
namespace Go.Proofs
open Go.Idl

theorem itoaN (n : Int) (l : List Int) (hl : ∀ n ∈ l, 0 ≤ n ∧ n < 100) : ∀ n ∈ l, 0 ≤ n → n ≤ 2147483647 → ∀ h, ICall Tryz.prog 108 [.int .i64 n] h (retP (.str (itoaB n)) h) := fun n hn h0 _ h => by
  obtain ⟨k, rfl⟩ : ∃ k : Nat, n = k := ⟨n.toNat, by omega⟩
  exact itoaS_c k (by have := hl _ hn; omega) h
def text0 : ByteArray := joinB ([36, 64, 37].map (plc 0 0 0)) ⟨#[32]⟩
def text1 : ByteArray := joinB ([37].map (plc 0 0 1)) ⟨#[32]⟩
set_option maxHeartbeats 1000000 in
theorem one_new {k tag h rb R} (hR : RegAt k tag h rb R) (o : St0 R) : ICall Tryz.prog 39 [.ptr rb 0, .int .i64 (-1), .list .plain ([newB, mainB].map strRow)] h fun e h' => e = .ret (.tup [.int .i64 0, .str text0, .int .i64 0]) ∧ leftR k tag h rb St1 h' := by
  refine cone_c (w := newB) (m := []) (rest := [mainB]) (ns := []) hR (-1) [newB, mainB] (by simp) (opt_no no_new) text0 0 St1 beg_new ?_
  intro tag1 b mo mn h1 hR1 hb1 hb2 hr
  have hns : R.ns = 0 := o.ns
  have hs := sessions_new (nm := mainB) hR1 hr hb1 hb2 rfl (show newB.toList = newsW from by decide +kernel) rfl rfl rfl o.beg (by decide) o.begE (itoaN 0 _ (by rw [o.ns, o.nw, o.np]; simp))
  refine (run_new hs).mono ?_
  rintro e h' ⟨rfl, h2, ⟨sb, tag2, hh1, hF, ⟨_, tag3, wb, cap, pb, rc, L1, hR3, hF3, hS3, hL3⟩⟩, rfl⟩
  have hFF := hF.trans hF3
  obtain ⟨fb1, fb2⟩ := hFF b _ hr.hb hb1 hb2
  refine ⟨by rw [o.ns, o.nw, o.np]; rfl, tag3, _, hR3.foreign (by rw [fb2]; exact hb1) (by rw [fb2]; exact hb2) _, ?_, ?_⟩
  · obtain ⟨ns, nw, np, mkr, bb, mb, recb, sesb, winb, ownb, L, ses, win, own⟩ := R
    obtain ⟨q1, q2, q3, q4, q5, q6, q7, q8⟩ := o
    simp only at q1 q2 q3 q4 q5 q6 q7 q8
    subst q1 q2 q3 q4 q5 q6 q7 q8
    exact ⟨rfl, rfl, rfl, rfl, ⟨_, rfl, rfl, rfl, rfl⟩, hL3⟩
  · have := hFF.foreign (b := b) ⟨_, hr.hb⟩ (some (.cells (Rn.cells ⟨.ptr rb 0, 0, newB, mo, mn, [], [mainB], []⟩)))
    rw [hns]
    exact this
theorem updh_self {h : Heap} {b : Nat} {o : IObj} (hb : h b = some o) : upd h b (some o) = h := by
  funext j
  by_cases e : j = b
  · subst e; rw [upd_same, hb]
  · rw [upd_ne _ _ e]
theorem St1.spl {R : RG} (o : St1 R) : SplOk R := by
  obtain ⟨h1, h2, h3, h4, ⟨s, h5, h6, h7, h8⟩, h9⟩ := o
  have hpm : ∀ p ∈ R.L, p.m = ⟨0, true, 80, 24, [⟨1, 80, 24, ⟨#[]⟩⟩], false⟩ := fun p hp => by
    have := List.mem_map_of_mem (f := (·.m)) hp
    rw [h9] at this; simpa using this
  have hl1 : R.L.length = 1 := by have := congrArg List.length h9; simpa using this
  have in0 : inR 0 := by unfold inR; omega
  exact ⟨h1, ⟨by rw [h3]; intro p hp; simp at hp; rw [hp]; exact in0, by rw [h3]; simp, by rw [h3]; simp, by rw [h3]; intro p hp; simp at hp; rw [hp]; decide +kernel⟩, ⟨by intro p hp; rw [hpm p hp]; exact in0, by rw [hl1]; omega, by rw [h3]; simp, by rw [h5]; simp⟩, by rw [h2]; omega, by rw [h2]; intro p hp; rw [hpm p hp]; simp, by
    rw [h9]; intro p hp; simp at hp; rw [hp]; simp⟩
set_option maxHeartbeats 1000000 in
theorem one_spl {k tag h rb R} (hR : RegAt k tag h rb R) (o : St1 R) : ICall Tryz.prog 39 [.ptr rb 0, .int .i64 0, .list .plain ([splB, hB].map strRow)] h fun e h' => e = .ret (.tup [.int .i64 0, .str text1, .int .i64 0]) ∧ leftR k tag h rb (fun _ => True) h' := by
  refine cone_c (w := splB) (m := [(104, ⟨#[]⟩)]) (rest := []) (ns := []) hR 0 [splB, hB] (by simp) (opt_no no_spl) text1 0 (fun _ => True) beg_spl ?_
  intro tag1 b mo mn h1 hR1 hb1 hb2 hr
  obtain ⟨s, hs1, hs2, hs3, hs4⟩ := o.ses
  have hwin := o.win
  have hro : RunOk R ⟨.ptr rb 0, 0, splB, mo, mn, [(104, ⟨#[]⟩)], [], []⟩ rb s wA := ⟨rfl, by rw [hs1]; simp [hs2], by rw [hs1]; intro s' hs'; simp at hs'; rw [hs', hs4]; simp, by rw [hwin, hs3]; rfl, o.spl.win⟩
  have hfp : findP R wA.act = some (s.cur, wA) := by rw [findP, hwin, hs3]; exact List.find?_cons_of_pos (by decide +kernel)
  have how : ownOf R s.cur = 0 := by rw [ownOf, o.own, hs3]; rfl
  have hnp : ¬ 4096 ≤ R.np' := by rw [RG.np', o.L]; decide +kernel
  have hw : splB.toList = splW := by decide +kernel
  have hp := panes_spl hR1 hr hro hw rfl rfl rfl hfp o.spl (fun _ => (wB, 0)) (fun p hp => by
    rw [hwin] at hp
    simp at hp
    subst hp
    rw [o.np]
    exact ⟨by decide +kernel, fun h => split_c h⟩) rfl hnp (itoaN 0 _ (by rw [how, hs3, o.np]; simp))
  refine (run_spl (sessions_spl hr hw) hp).mono ?_
  rintro e h' ⟨rfl, hS⟩
  simp only [splitR, hfp, if_neg hnp, ne_eq, not_true_eq_false, if_false] at hS
  obtain ⟨_, i, tag4, pb2, rc2, L2, hi, hR4, hF4, hS4, hL4⟩ := hS
  refine ⟨by rw [how, hs3, o.np]; rfl, tag4, _, hR4, trivial, ?_⟩
  rw [updh_self hr.hb]
  exact hF4
end Go.Proofs

set_option linter.unusedVariables false
set_option linter.unusedSimpArgs false
set_option pp.deepTerms false
set_option pp.maxSteps 500
namespace Go.Proofs
open Go.Idl

def out0 : ByteArray := ⟨#[111, 107, 32, 36, 48, 32, 64, 48, 32, 37, 48]⟩
def out1 : ByteArray := ⟨#[111, 107, 32, 37, 49]⟩
theorem itoaB_0 : itoaB 0 = ⟨#[48]⟩ := by
  unfold itoaB Lib.itoa
  rw [if_neg (by omega), Lib.decDigits, dif_pos (by decide)]; rfl
theorem itoaB_1 : itoaB 1 = ⟨#[49]⟩ := by
  unfold itoaB Lib.itoa
  rw [if_neg (by omega), Lib.decDigits, dif_pos (by decide)]; rfl
theorem plc_0 (x : UInt8) : plc 0 0 0 x = ⟨#[x, 48]⟩ := by
  have : (if x = 36 then (0 : Int) else if x = 64 then 0 else 0) = 0 := by simp
  rw [plc, this, digL_one, digB, if_neg (by omega), itoaB_0]; rfl
theorem plc_1 : plc 0 0 1 37 = ⟨#[37, 49]⟩ := by
  rw [plc, digL_one, digB]; simp only [show ¬ ((37 : UInt8) = 36) from by decide, show ¬ ((37 : UInt8) = 64) from by decide, if_false]
  rw [if_neg (by omega), itoaB_1]; rfl
theorem text0_eq : text0 = ⟨#[36, 48, 32, 64, 48, 32, 37, 48]⟩ := by
  rw [text0]; simp only [List.map_cons, List.map_nil, plc_0]; rfl
theorem text1_eq : text1 = ⟨#[37, 49]⟩ := by
  rw [text1]; simp only [List.map_cons, List.map_nil, plc_1]; rfl
theorem out0_eq : replyV text0 0 = out0 := by
  rw [text0_eq, replyV, if_neg (by omega), if_neg (by decide)]; decide +kernel
theorem out1_eq : replyV text1 0 = out1 := by
  rw [text1_eq, replyV, if_neg (by omega), if_neg (by decide)]; decide +kernel
def seat22 (i : Nat) : Int := if i = 0 then -1 else 0
def text22 (i : Nat) : ByteArray := if i = 0 then text0 else if i = 1 then text1 else ⟨#[]⟩
def st22 (i : Nat) : RG → Prop := if i = 0 then St0 else if i = 1 then St1 else fun _ => True
theorem text22_sz (i : Nat) : (text22 i).size < 1000000000000 := by
  unfold text22; rw [text0_eq, text1_eq]
  split
  · decide
  · split <;> decide
set_option maxRecDepth 20000 in
theorem awake22_c (h : Heap) : ICall Tryz.prog 9 [] h (retP (.bool true) h) := by
  refine icall_of_iwp (fun _ => 0) Tryz.func9 rfl (by kernel_rfl) (Nat.le_of_ble_eq_true rfl) ?_
  rw [Tryz.results9]
  simp -implicitDefEqProofs [go_sem]
  refine (newReg_c 1 (fun _ => (9, 0, 0)) h).mono ?_
  rintro e h1 ⟨bb, mb, recb, sesb, winb, ownb, rb, tag1, rfl, hR1, hF1⟩
  simp -implicitDefEqProofs [go_sem]
  have hrun := crun_c hR1 seat22 [[newB, mainB], [splB, hB]] text22 st22 _ (by decide) cut22 (by simp) (show St0 _ from ⟨rfl, rfl, rfl, rfl, rfl, rfl, rfl, rfl⟩) text22_sz ?_
  · refine hrun.mono ?_
    rintro e h2 ⟨rfl, tag2, R2, hR2, _, hF2⟩
    simp -implicitDefEqProofs [go_sem, seat22]
    have hs := same20_c [replyV (text22 0) 0, replyV (text22 1) 0] [out0, out1] h2 (by simp)
    have h0 : text22 0 = text0 := rfl
    have h1 : text22 1 = text1 := rfl
    have hd : decide ([replyV (text22 0) 0, replyV (text22 1) 0] = [out0, out1]) = true := by rw [h0, h1, out0_eq, out1_eq]; simp
    rw [hd] at hs
    refine hs.mono ?_
    rintro e h3 ⟨rfl, he⟩
    rw [he]
    simp -implicitDefEqProofs [go_sem]
    have hF := hF1.trans hF2
    exact ⟨h, fun j o hj => (hF j o hj (by simp) (by simp)).1, rfl, rfl⟩
  · intro i hi tag h R hR hP
    match i, hi with
    | 0, _ => exact one_new hR hP
    | 1, _ => exact one_spl hR hP
end Go.Proofs

set_option linter.unusedVariables false
set_option linter.unusedSimpArgs false
set_option pp.deepTerms false
set_option pp.maxSteps 500
namespace Go.Proofs
open Go.Idl Go.Shelf

/-! every number's digits; the replies' law -/
theorem rep_ints {F : Nat → Nat → Prop} {w : World} {k : IntKind} : ∀ (l : List Int) (vs : List Value), RepAll F w (l.map (IV.int k)) vs → vs = l.map (Value.int k)
  | [], vs, h => by cases h; rfl
  | z :: l, vs, h => by
    obtain ⟨v, vs', rfl, h1, h2⟩ := h
    have := rep_ints l vs' h2
    subst this
    cases h1
    rfl
def tabH (h : Heap) : Prop := h 2 = some (.froz (Lib.pow10Tab.map (IV.int .u64)))
theorem tab_named : Tryz.prog.globalNamed "internal/strconv.uint64pow10" = some 2 := by kernel_rfl
theorem tabIs_of {F X h w} (hh : HRel F X h w) (ht : tabH h) : Lib.TabIs Tryz.prog w "internal/strconv.uint64pow10" .u64 Lib.pow10Tab := by
  obtain ⟨_, vals, h1, h2, h3, h4, e, fr, h5⟩ := hh.hp _ _ ht
  have := rep_ints _ _ h2
  subst this
  unfold Lib.TabIs World.var?
  rw [tab_named, Option.bind_some, h5]
theorem below_grow (w : World) (k : Nat) (os : Array Obj) : RowKit.Below w.heap.size w (Go.Sort.grow (w.drewN k) os) :=
  ⟨rfl, rfl, rfl, by simp [Go.Sort.grow], fun b hb => by simp [Go.Sort.grow, Array.getElem?_append, hb]⟩
theorem itoa_c (n : Int) (h0 : 0 ≤ n) (h1 : n ≤ 2147483647) (h : Heap) (ht : tabH h) : ICall Tryz.prog 108 [.int .i64 n] h (retP (.str (itoaB n)) h) := by
  refine icall_grow ⟨_, Tryz.func108, by kernel_rfl, by kernel_rfl⟩ fun F X w vs hh hr => ?_
  obtain ⟨v, vs', hv, rfl, hr3⟩ := hr
  cases hr3
  have hvs : vs = #[.int .i64 n] := by apply Array.ext'; exact hv
  subst hvs
  refine (Any.strconv_Itoa layItoa n (by omega) (by omega) w (tabIs_of hh ht)).mono ?_
  rintro e w' ⟨rfl, k, os, rfl⟩
  exact ⟨⟨_, rfl, rfl⟩, below_grow w k os⟩
def hexB : ByteArray := ⟨#[48, 49, 50, 51, 52, 53, 54, 55, 56, 57, 97, 98, 99, 100, 101, 102]⟩
theorem hex_at (d : Nat) (hd : d < 10) : hexB.extract d (d + 1) = ⟨#[48 + UInt8.ofNat d]⟩ := by
  match d, hd with
  | 0, _ | 1, _ | 2, _ | 3, _ | 4, _ | 5, _ | 6, _ | 7, _ | 8, _ | 9, _ => decide +kernel
theorem digit_c (d : Nat) (hd : d < 10) (h : Heap) : ICall Tryz.prog 112 [.int .i64 d] h (retP (.str ⟨#[48 + UInt8.ofNat d]⟩) h) := by
  refine icall_of_iwp (fun _ => 0) Tryz.func112 rfl (by kernel_rfl) (Nat.le_of_ble_eq_true rfl) ?_
  rw [Tryz.results112]
  have hw := wrap_succ (i := d) (by omega)
  have h1 : (d : Int) ≤ (d : Int) + 1 := by omega
  have h2 : (d : Int) + 1 ≤ 16 := by omega
  have h3 : ((d : Int) + 1).toNat = d + 1 := by omega
  have hx := hex_at d hd
  simp -implicitDefEqProofs [go_sem, hw, h1, h2, h3]
  rw [show ((⟨#[48, 49, 50, 51, 52, 53, 54, 55, 56, 57, 97, 98, 99, 100, 101, 102]⟩ : ByteArray).extract d (d + 1)) = ⟨#[48 + UInt8.ofNat d]⟩ from hx]
  exact ⟨_, Sub.refl _, rfl, rfl⟩
theorem dec_step (n : Nat) : Lib.decDigits n = (if n < 10 then [] else Lib.decDigits (n / 10)) ++ [48 + UInt8.ofNat (n % 10)] := by
  rw [Lib.decDigits]
  by_cases h : n < 10
  · rw [if_pos h]; simp [h, Nat.mod_eq_of_lt h]
  · rw [if_neg h]; simp [h]
set_option maxRecDepth 20000 in
theorem refDigits_c (n : Int) (h : Heap) : ICall Tryz.prog 71 [.int .i64 n] h (retP (.str (digB n)) h) := by
  refine icall_of_iwp (fun _ => 0) Tryz.func71 rfl (by kernel_rfl) (Nat.le_of_ble_eq_true rfl) ?_
  rw [Tryz.results71]
  simp -implicitDefEqProofs [go_sem]
  refine cK_dec (fun h1 => ?_) (fun h1 => ?_)
  · simp -implicitDefEqProofs [go_sem, h1]
    exact ⟨h, Sub.refl _, by rw [digB, if_pos (.inl h1)], rfl⟩
  simp -implicitDefEqProofs [go_sem, h1]
  refine cK_dec (fun h2 => ?_) (fun h2 => ?_)
  · simp -implicitDefEqProofs [go_sem, h1, h2]
    exact ⟨h, Sub.refl _, by rw [digB, if_pos (.inr h2)], rfl⟩
  obtain ⟨N, rfl⟩ : ∃ N : Nat, n = N := ⟨n.toNat, by omega⟩
  have hN : N ≤ 2147483647 := by omega
  have hdg : ∀ (M : Nat) (H : Heap), ICall Tryz.prog 112 [.int .i64 ((M : Int) % 10)] H (retP (.str ⟨#[48 + UInt8.ofNat (M % 10)]⟩) H) := fun M H => by
    have := digit_c (M % 10) (by omega) H
    rw [show (((M % 10 : Nat)) : Int) = (M : Int) % 10 from by omega] at this
    exact this
  simp -implicitDefEqProofs [go_sem, h1, h2]
  refine (hdg N h).mono ?_
  rintro e h' ⟨rfl, he⟩
  rw [he]
  simp -implicitDefEqProofs [go_sem]
  have hlen : (Lib.decDigits N).length ≤ 10 := nDigits_le N 9 (by omega)
  refine iwp_loopF (rng [0, 3] 13 22) nom (fun s => ∃ (M : Nat) (A : ByteArray), M ≤ N ∧ s.t 0 = .int .i64 M ∧ s.t 3 = .str A ∧ Lib.decDigits N = (if M < 10 then [] else Lib.decDigits (M / 10)) ++ A.data.toList ∧ s.h = h) (fun s => tn (s.t 0)) ?_ ?_
  · exact ⟨N, _, Nat.le_refl _, by simp -implicitDefEqProofs [go_sem], by simp -implicitDefEqProofs [go_sem]; rfl, dec_step N, by simp -implicitDefEqProofs [go_sem]⟩
  rintro J s hJ hf ⟨M, A, hM, h0, h3, hd, hh⟩
  simp -implicitDefEqProofs [go_sem, h0, h3, hh, hf.t, hf.m]
  refine cK_dec (fun hlt => ?_) (fun hge => ?_)
  · have hM9 : ¬ M < 10 := by omega
    rw [if_neg hM9] at hd
    have hw : IntKind.i64.wrap ((M : Int) / 10) = (M : Int) / 10 := wrap_in (by omega)
    have hr : ((M : Int) / 10).tmod 10 = (M : Int) / 10 % 10 := Int.tmod_eq_emod_of_nonneg (by omega)
    have hdm := hdg (M / 10) h
    rw [show (((M / 10 : Nat)) : Int) = (M : Int) / 10 from by omega] at hdm
    have hA : A.size ≤ 10 := by
      have h5 := congrArg List.length hd
      rw [List.length_append] at h5
      have h6 : A.data.toList.length = A.size := by simp
      omega
    have hz : 1 + A.size ≤ 9223372036854775807 := by omega
    simp -implicitDefEqProofs [go_sem, h0, h3, hh, hf.t, hf.m, hw, hr]
    refine hdm.mono ?_
    rintro e h' ⟨rfl, he⟩
    rw [he]
    simp -implicitDefEqProofs [go_sem, h0, h3, hh, hf.t, hf.m, hz, hf]
    refine hJ _ ⟨M / 10, ⟨#[48 + UInt8.ofNat (M / 10 % 10)]⟩ ++ A, by omega, by simp -implicitDefEqProofs [go_sem, hw], by simp -implicitDefEqProofs [go_sem], ?_, by simp -implicitDefEqProofs [go_sem]⟩ (by simp [go_sem, h0, hw, tn]; omega)
    rw [hd, dec_step (M / 10), List.append_assoc]
    simp
  · have hM9 : M < 10 := by omega
    rw [if_pos hM9, List.nil_append] at hd
    simp -implicitDefEqProofs [go_sem, h0, h3, hh, hf.t, hf.m]
    refine ⟨h, Sub.refl _, ?_, rfl⟩
    rw [digB, if_neg (by omega), itoaB, Lib.itoa, if_neg (by omega)]
    simp [hd]
theorem rdigits_c (n : Int) (h : Heap) : ICall Tryz.prog 36 [.str ⟨#[32]⟩, .int .i64 n] h (retP (.str (⟨#[32]⟩ ++ digB n)) h) := by
  refine icall_of_iwp (fun _ => 0) Tryz.func36 rfl (by kernel_rfl) (Nat.le_of_ble_eq_true rfl) ?_
  rw [Tryz.results36]
  simp -implicitDefEqProofs [go_sem]
  refine (refDigits_c n h).mono ?_
  rintro e h' ⟨rfl, he⟩
  rw [he]
  have hz := dig1_len n
  rw [digL_one] at hz
  simp -implicitDefEqProofs [go_sem, hz]
  exact ⟨_, Sub.refl _, rfl, rfl⟩
theorem rreply_c (text : ByteArray) (e : Int) (h : Heap) (ht : text.size < 1000000000000) : ICall Tryz.prog 11 [.str text, .int .i64 e] h (retP (.str (replyV text e)) h) := by
  refine icall_of_iwp (fun d => 0) Tryz.func11 rfl (by kernel_rfl) (Nat.le_of_ble_eq_true rfl) ?_
  rw [Tryz.results11]
  by_cases he : e = 0
  · subst he
    have hz : 3 + text.size ≤ 9223372036854775807 := by omega
    by_cases ht0 : text = ⟨#[]⟩
    · subst ht0
      simp -implicitDefEqProofs [go_sem]
      exact ⟨_, Sub.refl _, rfl, rfl⟩
    · have hb : (text.toList == ([] : List UInt8)) = false := by
        cases hq : text.toList == ([] : List UInt8) with
        | false => rfl
        | true =>
          exfalso; apply ht0
          have h1 : text.toList = [] := by simpa using hq
          rw [ByteArray.toList_eq] at h1
          exact ByteArray.ext (Array.toList_inj.1 (by rw [h1]))
      simp -implicitDefEqProofs [go_sem, hb, hz]
      exact ⟨_, Sub.refl _, by rw [replyV, if_neg (by omega), if_neg ht0], rfl⟩
  · have hne : (e != 0) = true := by simpa using he
    simp -implicitDefEqProofs [go_sem, hne]
    refine (rdigits_c e h).mono ?_
    rintro x h' ⟨rfl, rfl⟩
    have hd := digB_len e
    have hd2 : (digB e).data.toList.length = (digB e).size := by simp
    have hz : 5 + (1 + (digB e).size) ≤ 9223372036854775807 := by omega
    simp -implicitDefEqProofs [go_sem, hz]
    refine ⟨_, Sub.refl _, ?_, rfl⟩
    rw [replyV, if_pos he, digL_one, ← ByteArray.append_assoc]; rfl
set_option maxRecDepth 20000 in
theorem cmdRep_c (s : ByteArray) (e : UInt8) (h : Heap) (ht : tabH h) : ICall Tryz.prog 3 [.str s, .int .u8 e.toNat] h (retP (.bool true) h) := by
  refine icall_of_iwp (fun d => 0) Tryz.func3 rfl (by kernel_rfl) (Nat.le_of_ble_eq_true rfl) ?_
  rw [Tryz.results3]
  simp -implicitDefEqProofs [go_sem]
  refine cK_dec (fun h1 => ?_) (fun h1 => ?_)
  · simp -implicitDefEqProofs [go_sem]
    refine (awake22_c h).mono ?_
    rintro x h' ⟨rfl, rfl⟩
    simp -implicitDefEqProofs [go_sem]
    exact ⟨_, Sub.refl _, rfl, rfl⟩
  have he := e.toNat_lt
  have hw1 : IntKind.i64.wrap (e.toNat : Int) = e.toNat := wrap_in (by omega)
  simp -implicitDefEqProofs [go_sem, hw1]
  refine (reply_c s e.toNat h (by omega) (fun q1 q2 => itoa_c _ q1 q2 h ht)).mono ?_
  rintro x h' ⟨rfl, he2⟩
  rw [he2]
  simp -implicitDefEqProofs [go_sem, hw1]
  refine (rreply_c s e.toNat h (by omega)).mono ?_
  rintro x h2 ⟨rfl, he3⟩
  rw [he3]
  simp -implicitDefEqProofs [go_sem, hw1]
  refine (awake22_c h).mono ?_
  rintro x h3 ⟨rfl, he4⟩
  rw [he4]
  simp -implicitDefEqProofs [go_sem]
  exact ⟨_, Sub.refl _, rfl, rfl⟩
end Go.Proofs

set_option linter.unusedVariables false
set_option linter.unusedSimpArgs false
namespace Go.Proofs.YtcknalapblabfaaGreatDoor
open Go.Idl Go.ChangeShapes Go.WideShapes Go.ChangeAt Go.RowKit Go.Proofs

/-! what the rows of this seat share: the variables laid; nothing goes -/
theorem goes_none : (Tryz.prog.funcs.toList.all fun fn => !Func.goes fn) = true := by kernel_rfl
theorem goesBy_false {P : Program} (h : (P.funcs.toList.all fun fn => !Func.goes fn) = true) (c : OpenClaim) (hs : c.start = .entering) : false = c.goesBy P := by
  have h1 : ∀ g : Nat, (P.funcs[g]?).any Func.goes = false := fun g => by
    cases hg : P.funcs[g]? with
    | none => rfl
    | some fn =>
      have := List.all_eq_true.1 h fn (Array.mem_toList_iff.2 (Array.mem_of_getElem? hg))
      simpa using this
  have h2 : P.funcs.any Func.goes = false := by
    rw [← Array.any_toList, List.any_eq_false]
    intro fn hf
    have := List.all_eq_true.1 h fn hf
    simpa using this
  have h3 : ∀ f, P.goes f = false := fun f => by
    unfold Program.goes
    rw [h2, Bool.and_false, Bool.or_false, List.any_eq_false]
    intro g _
    rw [h1]; simp
  unfold OpenClaim.goesBy Program.goesAt Program.goesFrom
  rw [hs]
  cases P.funcNamed c.func with
  | none => rfl
  | some f => simp [h3]
theorem own : ownKnob Tryz.prog.godebug = none := by kernel_rfl
def laidL : List (String × DataW Unit) := Rows.commandRepliesRow.laid
def plainL : List (String × DataW Unit) := laidL.filter fun x => x.2.handleName?.isNone
noncomputable def w1 (os : Os) : World :=
  let w0 := World.holding Tryz.prog os ⟨#[], #[], []⟩
  { w0 with heap := w0.heap.modify 0 fun
      | .cells _ t frozen => .cells #[.iface 263 (.agg #[typeHandle Tryz.prog 73])] t frozen
      | o => o }
noncomputable def laidW (os : Os) : World := (w1 os).layVars Tryz.prog plainL
theorem laidMet_on {P : Program} {w0 : World} {laid : List (String × DataW Unit)} (hf : w0.layFits P laid [] = true) (hi : w0.layIfaces P laid (w0.layVars P laid) = true) : laidMet P laid (w0.layVars P laid) := by
  have e1 : (laid.filter fun x => (laid.map (·.1)).contains x.1) = laid := List.filter_eq_self.2 fun x hx => List.contains_iff_mem.2 (List.mem_map.2 ⟨x, hx, rfl⟩)
  have e2 : (laid.filter fun x => !(laid.map (·.1)).contains x.1) = [] := List.filter_eq_nil_iff.2 fun x hx => by rw [List.contains_iff_mem.2 (List.mem_map.2 ⟨x, hx, rfl⟩)]; simp
  exact laidMet_layVars (w0 := w0) (laid.map (·.1)) [] (by rw [e1]) (by rw [e1]; exact hf) (by rw [e1]; exact hi) (by rw [e2]; exact LaidIn.none)
set_option maxRecDepth 100000 in
theorem laidW_met (os : Os) : laidMetH Tryz.prog laidL (laidW os) :=
  laidMetH_of_parts (laidMet_on (w0 := w1 os) (by kernel_rfl) (by kernel_rfl)) (by kernel_rfl)
theorem laidW_os (os : Os) : (laidW os).os = os := (World.layVars_os _ _ _).trans rfl
theorem laidW_in (os : Os) (args : Array Value) : laidMetH Tryz.prog laidL ((laidW os).forCall (fun _ _ => 0) ⟨#[], args, []⟩).memory :=
  (laidW_met os).of_heap (by simp [World.memory, World.forCall, Input.heap])
def tabG : Nat := 2
theorem tab_met {W : World} (h : laidMetH Tryz.prog laidL W) : Lib.TabIs Tryz.prog W "internal/strconv.uint64pow10" .u64 Lib.pow10Tab := by
  have h1 := (laidMetH_iff.1 h).1.filter fun x => x.1 == "internal/strconv.uint64pow10"
  have e : ((laidL.filter fun x => x.2.handleName?.isNone).filter fun x => x.1 == "internal/strconv.uint64pow10") = [("internal/strconv.uint64pow10", Lib.tabData .u64 Lib.pow10Tab)] := by kernel_rfl
  rw [e] at h1
  exact Lib.tabIs_of_head (g := tabG) (t := 438) (e := 315) (n := 20) (by kernel_rfl) (by kernel_rfl) (by kernel_rfl) (by kernel_rfl) (by kernel_rfl) (by kernel_rfl) h1
def hT : Heap := upd (fun _ => none) tabG (some (.froz (Lib.pow10Tab.map (IV.int .u64))))
theorem hT_tab : tabH hT := upd_same _ _ _
theorem rep_tab {F : Nat → Nat → Prop} {w : World} : ∀ (l : List Int), RepAll F w (l.map (IV.int .u64)) (l.map (Value.int .u64))
  | [] => rfl
  | z :: l => ⟨_, _, rfl, rfl, rep_tab l⟩
theorem hrelT {W : World} (h : laidMetH Tryz.prog laidL W) : HRel (oldF W) (fun _ => False) hT W := by
  have ht := tab_met h
  have hv := ht
  unfold Lib.TabIs World.var? at hv
  rw [tab_named, Option.bind_some] at hv
  refine ⟨fun b o hb => ?_, fun b o h => h.elim, fun b h => h.elim, fun b o h => h⟩
  by_cases e : b = tabG
  · subst e
    rw [hT, upd_same] at hb
    cases hb
    have hlt : tabG < W.heap.size := by
      cases hq : W.heap[tabG]? with
      | none => rw [show (2 : Nat) = tabG from rfl, hq] at hv; cases hv
      | some o => exact (Array.getElem?_eq_some_iff.1 hq).1
    refine ⟨trivial, Lib.pow10Tab.map (Value.int .u64), fun j v hj => ⟨hlt, ?_, ?_⟩, rep_tab _, by simp [Lib.pow10Tab], fun o => hlt, ?_⟩
    · have := World.var?_cell tab_named ht j
      rw [Nat.zero_add]
      simpa [hj, tabG] using this
    · simp only [List.getElem?_map, Option.map_eq_some_iff] at hj
      obtain ⟨z, _, rfl⟩ := hj; rfl
    · cases hq : W.heap[tabG]? with
      | none => rw [show (2 : Nat) = tabG from rfl, hq] at hv; cases hv
      | some o =>
        rw [show (2 : Nat) = tabG from rfl, hq] at hv
        cases o <;> first | (cases hv; done) | skip
        rename_i cs t fr
        simp only [Option.some.injEq] at hv
        subst hv
        exact ⟨t, fr, rfl⟩
  · rw [hT, upd_ne _ _ e] at hb; cases hb
end Go.Proofs.YtcknalapblabfaaGreatDoor
