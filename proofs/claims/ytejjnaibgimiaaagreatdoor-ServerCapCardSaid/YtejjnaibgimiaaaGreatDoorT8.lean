/- This text is a part of the proofs of the statements of this seat: the ideal states and their rules, or what one of the functions that the statements reach comes to. Conditions: none beyond those that each theorem names. -/
import Derived.Test.YtejjnaibgimiaaaGreatDoorT3
import Derived.Test.YtejjnaibgimiaaaGreatDoorT4
import Derived.Test.YtejjnaibgimiaaaGreatDoorT7
import Derived.Test.YtejjnaibgimiaaaGreatDoorT0
set_option linter.unusedVariables false
set_option linter.unusedSimpArgs false
set_option pp.deepTerms false
set_option pp.maxSteps 500
namespace Go.Proofs
open Go.Idl

/-! what a runner asks of the registry -/
theorem num_c {h : Heap} {b : Nat} {r : Rn} (hr : RnAt h b r) (c : UInt8) (d : Int) : ICall Tryz.prog 116 [.ptr b 0, .int .u8 c.toNat, .int .i64 d] h (retP (.int .i64 ((getN r.ns c).getD d)) h) := by
  refine icall_of_iwp (fun d => 0) Tryz.func116 rfl (by kernel_rfl) (Nat.le_of_ble_eq_true rfl) ?_
  rw [Tryz.results116]
  have h1 := hr.hb
  have h2 := hr.hn
  have hq := ifind_n c r.ns
  cases hg : getN r.ns c with
  | none =>
    rw [hg] at hq
    simp -implicitDefEqProofs [go_sem, h1, h2, hq, Rn.cells]
    exact ⟨h, Sub.refl _, rfl, rfl⟩
  | some v =>
    rw [hg] at hq
    simp -implicitDefEqProofs [go_sem, h1, h2, hq, Rn.cells]
    exact ⟨h, Sub.refl _, rfl, rfl⟩
/-- a place, told in signs -/
def plc (a b c : Int) (x : UInt8) : ByteArray := ⟨#[x]⟩ ++ digL [if x = 36 then a else if x = 64 then b else c]
theorem digL_one (v : Int) : digL [v] = digB v := by
  show (⟨(Lib.join [(digB v).data.toList] [44]).toArray⟩ : ByteArray) = _
  simp [Lib.join]
theorem dig1_len (v : Int) : 1 + (digL [v]).size ≤ 9223372036854775807 := by
  have h1 := digB_len v
  have h2 : (digB v).data.toList.length = (digB v).size := by simp
  rw [digL_one]; omega
set_option maxRecDepth 20000 in
theorem place_c (a b c : Int) (s : ByteArray) (L : List UInt8) (hL : s.data.toList = L) (h : Heap) (hs : L.length ≤ 1000) (hi : ∀ n ∈ [a, b, c], 0 ≤ n → n ≤ 2147483647 → ∀ h, ICall Tryz.prog 102 [.int .i64 n] h (retP (.str (itoaB n)) h)) :
    ICall Tryz.prog 117 [.agg (plR a b c), .str s] h (retP (.str (joinB (L.map (plc a b c)) ⟨#[32]⟩)) h) := by
  refine icall_of_iwp (fun _ => 0) Tryz.func117 rfl (by kernel_rfl) (Nat.le_of_ble_eq_true rfl) ?_
  rw [Tryz.results117]
  have hs9 : s.size ≤ 1000000000 := by have : s.size = L.length := by rw [← hL]; simp
                                       omega
  have hsr : strRows s = L.map byRow := by rw [← hL]; rfl
  simp -implicitDefEqProofs [go_sem, plR, hs9]
  rw [hsr]
  simp -implicitDefEqProofs [go_sem]
  refine iwp_loopF (rng [5,7,8] 12 38) (fun k => k == 2) (fun st => ∃ i v, i ≤ L.length ∧ st.t 12 = .int .i64 i ∧ st.t 5 = v ∧ Idl.Own [36] st.x 9 v (((L.take i).map (plc a b c)).map strRow) ∧ st.h = h ∧ st.t 2 = .loc 2 0 0 ∧ st.m 2 = some (0, [.int .i64 a, .int .i64 b, .int .i64 c])) (fun st => L.length - tn (st.t 12)) ?_ ?_
  · exact ⟨0, .list .tight [], Nat.zero_le _, by simp -implicitDefEqProofs [go_sem], by simp -implicitDefEqProofs [go_sem], Idl.Own.tight, by simp -implicitDefEqProofs [go_sem], by simp -implicitDefEqProofs [go_sem], by simp -implicitDefEqProofs [go_sem]⟩
  rintro J st hJ hf ⟨i, v, hle, h12, h5, ho, hh, h2, hm2⟩
  simp -implicitDefEqProofs [go_sem, h12, h5, hh, hf.t, hf.m]
  refine cK_dec (fun hlt => ?_) (fun hge => ?_)
  · have hlt' : i < L.length := by omega
    have hw := wrap_succ (i := i) (by omega)
    obtain ⟨x, hx⟩ : ∃ x, L[i] = x := ⟨_, rfl⟩
    have hg : L[i]? = some x := by rw [← hx]; exact List.getElem?_eq_getElem hlt'
    simp -implicitDefEqProofs [go_sem, h12, h5, hh, h2, hm2, hf.t, hf.m, hlt', hg, hx, byRow]
    cases h36 : ((x.toNat : Int) == 36) with
    | true =>
      have c36 : x = 36 := (u8_i _ _).1 (by simpa using h36)
      simp -implicitDefEqProofs [go_sem, h12, h5, hh, h2, hm2, hf.t, hf.m]
      refine iwp_drawn_of mixed [0, 1, 2, 3, 4, 5, 6, 7, 8, 9, 10] (by kernel_rfl) ?_
      simp -implicitDefEqProofs [go_sem, h12, h5, hh, h2, hm2, hf.t, hf.m]
      refine ⟨_, Digits_c [a] h (by simp) (fun n hn h0 h1 => by simp at hn; subst hn; exact hi _ (by simp) h0 h1 h), ?_⟩
      have hpx : plc a b c x = ⟨#[x]⟩ ++ digL [a] := by rw [plc]; simp [c36]
      simp -implicitDefEqProofs [go_sem, h12, h5, hh, h2, hm2, hf.t, hf.m, dig1_len a]
      refine aK_own (z := 1) (S := [36]) ho (by simp) elT_23 elZ_9 (by simp [roomy, byT_9]; omega) (strs_uni _) (by simp [uni]) ?_
      intro r x' ho' _
      simp -implicitDefEqProofs [go_sem, h12, h5, hh, h2, hm2, hf.t, hf.m, hf, hw]
      refine hJ _ ⟨i + 1, r, by omega, by simp -implicitDefEqProofs [go_sem, hw], by simp -implicitDefEqProofs [go_sem], ?_, by simp -implicitDefEqProofs [go_sem, hh], by simp -implicitDefEqProofs [go_sem, h2], by simp -implicitDefEqProofs [go_sem, hm2]⟩ (by simp [go_sem, h12, hw]; omega)
      have e1 : L.take (i + 1) = L.take i ++ [x] := by rw [List.take_add_one, hg]; rfl
      show Idl.Own [36] x' _ r _
      rw [e1, List.map_append, List.map_append, List.map_singleton, hpx]
      exact ho'
    | false =>
      have c36 : x ≠ 36 := fun e => by rw [e] at h36; exact absurd h36 (by decide)
      simp -implicitDefEqProofs [go_sem, h12, h5, hh, h2, hm2, hf.t, hf.m]
      cases h64 : ((x.toNat : Int) == 64) with
      | true =>
        have c64 : x = 64 := (u8_i _ _).1 (by simpa using h64)
        simp -implicitDefEqProofs [go_sem, h12, h5, hh, h2, hm2, hf.t, hf.m]
        refine iwp_drawn_of mixed [0, 1, 2, 3, 4, 5, 6, 7, 8, 9, 10] (by kernel_rfl) ?_
        simp -implicitDefEqProofs [go_sem, h12, h5, hh, h2, hm2, hf.t, hf.m]
        refine ⟨_, Digits_c [b] h (by simp) (fun n hn h0 h1 => by simp at hn; subst hn; exact hi _ (by simp) h0 h1 h), ?_⟩
        have hpx : plc a b c x = ⟨#[x]⟩ ++ digL [b] := by rw [plc]; simp [c36, c64]
        simp -implicitDefEqProofs [go_sem, h12, h5, hh, h2, hm2, hf.t, hf.m, dig1_len b]
        refine aK_own (z := 1) (S := [36]) ho (by simp) elT_23 elZ_9 (by simp [roomy, byT_9]; omega) (strs_uni _) (by simp [uni]) ?_
        intro r x' ho' _
        simp -implicitDefEqProofs [go_sem, h12, h5, hh, h2, hm2, hf.t, hf.m, hf, hw]
        refine hJ _ ⟨i + 1, r, by omega, by simp -implicitDefEqProofs [go_sem, hw], by simp -implicitDefEqProofs [go_sem], ?_, by simp -implicitDefEqProofs [go_sem, hh], by simp -implicitDefEqProofs [go_sem, h2], by simp -implicitDefEqProofs [go_sem, hm2]⟩ (by simp [go_sem, h12, hw]; omega)
        have e1 : L.take (i + 1) = L.take i ++ [x] := by rw [List.take_add_one, hg]; rfl
        show Idl.Own [36] x' _ r _
        rw [e1, List.map_append, List.map_append, List.map_singleton, hpx]
        exact ho'
      | false =>
        have c64 : x ≠ 64 := fun e => by rw [e] at h64; exact absurd h64 (by decide)
        simp -implicitDefEqProofs [go_sem, h12, h5, hh, h2, hm2, hf.t, hf.m]
        refine iwp_drawn_of mixed [0, 1, 2, 3, 4, 5, 6, 7, 8, 9, 10] (by kernel_rfl) ?_
        simp -implicitDefEqProofs [go_sem, h12, h5, hh, h2, hm2, hf.t, hf.m]
        refine ⟨_, Digits_c [c] h (by simp) (fun n hn h0 h1 => by simp at hn; subst hn; exact hi _ (by simp) h0 h1 h), ?_⟩
        have hpx : plc a b c x = ⟨#[x]⟩ ++ digL [c] := by rw [plc]; simp [c36, c64]
        simp -implicitDefEqProofs [go_sem, h12, h5, hh, h2, hm2, hf.t, hf.m, dig1_len c]
        refine aK_own (z := 1) (S := [36]) ho (by simp) elT_23 elZ_9 (by simp [roomy, byT_9]; omega) (strs_uni _) (by simp [uni]) ?_
        intro r x' ho' _
        simp -implicitDefEqProofs [go_sem, h12, h5, hh, h2, hm2, hf.t, hf.m, hf, hw]
        refine hJ _ ⟨i + 1, r, by omega, by simp -implicitDefEqProofs [go_sem, hw], by simp -implicitDefEqProofs [go_sem], ?_, by simp -implicitDefEqProofs [go_sem, hh], by simp -implicitDefEqProofs [go_sem, h2], by simp -implicitDefEqProofs [go_sem, hm2]⟩ (by simp [go_sem, h12, hw]; omega)
        have e1 : L.take (i + 1) = L.take i ++ [x] := by rw [List.take_add_one, hg]; rfl
        show Idl.Own [36] x' _ r _
        rw [e1, List.map_append, List.map_append, List.map_singleton, hpx]
        exact ho'
  · obtain rfl : i = L.length := by omega
    rw [List.take_length] at ho
    simp -implicitDefEqProofs [go_sem, h12, h5, hh, hf.t, hf.m, ho.strip]
    have hpl : ∀ x, (plc a b c x).data.toList.length ≤ 11 := fun x => by
      have := digB_len (if x = 36 then a else if x = 64 then b else c)
      simp [plc, digL, joinB, Lib.join] at this ⊢
      omega
    have hjl := join_len ((L.map (plc a b c)).map (·.data.toList)) [32] 11 (fun x hx => by
      obtain ⟨y, hy, rfl⟩ := List.mem_map.1 hx
      obtain ⟨n, _, rfl⟩ := List.mem_map.1 hy
      exact hpl n)
    simp only [List.length_map, List.length_cons, List.length_nil] at hjl
    have hjc := sjoin_c (L.map (plc a b c)) ⟨#[32]⟩ .plain h (by simp; omega) (by show (Lib.join ((L.map (plc a b c)).map (·.data.toList)) [32]).length ≤ _; omega)
    rw [List.map_map] at hjc
    refine hjc.mono ?_
    rintro e h' ⟨rfl, he⟩
    rw [he]
    simp -implicitDefEqProofs [go_sem]
    exact ⟨h, Sub.refl _, rfl, rfl⟩
/-- what stood is of no colour of the registry -/
def tagS (k : Nat) (h : Heap) (tag : Nat → Nat × Nat × Nat) (j : Nat) : Nat × Nat × Nat := match h j with | none => (k + 2, 0, 0) | some _ => tag j
theorem RegAt.sub {k tag h rb R h'} (hR : RegAt k tag h rb R) (hs : Sub h h') : RegAt k (tagS k h tag) h' rb R := by
  have hfr : ∀ j o, h j = some o → h' j = some o ∧ tagS k h tag j = tag j := fun j o hj => ⟨hs j o hj, by unfold tagS; rw [hj]⟩
  exact hR.of (fun _ => False) (fun j o hj _ _ => hfr j o hj) rfl rfl rfl rfl rfl rfl (.inl ⟨id, rfl⟩) (.inl ⟨id, rfl⟩) (.inl ⟨id, rfl⟩) (.inl ⟨id, rfl⟩) (.inl ⟨id, rfl⟩) (hR.hB.frm (k' := k + 1) (fun j o hj _ => hfr j o hj) (by omega)) (fun s hs => .inl ⟨hs, id, id⟩)
/-- what is foreign may be written -/
theorem RegAt.foreign {k tag h rb R b} (hR : RegAt k tag h rb R) (h1 : (tag b).1 ≠ k) (h2 : (tag b).1 ≠ k + 1) (o : Option IObj) : RegAt k tag (upd h b o) rb R := by
  have hfr : ∀ j oj, h j = some oj → (tag j).1 = k ∨ (tag j).1 = k + 1 → upd h b o j = some oj ∧ tag j = tag j := fun j oj hj ht => by
    have : j ≠ b := by rintro rfl; rcases ht with h | h <;> contradiction
    exact ⟨by rw [upd_ne _ _ this]; exact hj, rfl⟩
  refine hR.of (fun _ => False) (fun j oj hj ht _ => hfr j oj hj (.inr ht)) rfl rfl rfl rfl rfl rfl (.inl ⟨id, rfl⟩) (.inl ⟨id, rfl⟩) (.inl ⟨id, rfl⟩) (.inl ⟨id, rfl⟩) (.inl ⟨id, rfl⟩) (hR.hB.frm (k' := (tag b).1) (fun j oj hj ht => ?_) (Ne.symm h1)) (fun s hs => .inl ⟨hs, id, id⟩)
  have : j ≠ b := by rintro rfl; exact ht rfl
  exact ⟨by rw [upd_ne _ _ this]; exact hj, rfl⟩
theorem Frm2.foreign {k tag h tag' h' b} (hF : Frm2 k tag h tag' h') (hb : ∃ o, h b = some o) (o : Option IObj) : Frm2 k tag (upd h b o) tag' (upd h' b o) := fun j oj hj t1 t2 => by
  by_cases e : j = b
  · subst e
    rw [upd_same] at hj ⊢
    obtain ⟨o2, ho2⟩ := hb
    exact ⟨hj, (hF j o2 ho2 t1 t2).2⟩
  · rw [upd_ne _ _ e] at hj ⊢
    exact hF j oj hj t1 t2
end Go.Proofs

set_option linter.unusedVariables false
set_option linter.unusedSimpArgs false
set_option pp.deepTerms false
set_option pp.maxSteps 500
namespace Go.Proofs
open Go.Idl

/-! what a runner stands at -/
structure RunOk (R : RG) (r : Rn) (rb : Nat) (s : SB) (w : Wn) : Prop where
  reg : r.reg = .ptr rb 0
  ses : (R.ses.find? fun a => a.id == r.seat) = some s
  sl : ∀ s ∈ R.ses, s.wins.length < 1000000000
  win : (R.win.find? fun p => p.1 == s.cur) = some (s.cur, w)
  wok : WinOk R
theorem RunOk.sz {R r rb s w} (o : RunOk R r rb s w) : w.tree.size < 100000000 := o.wok.sz _ (List.mem_of_find?_eq_some o.win)
theorem RnAt.sub {h h' : Heap} {b : Nat} {r : Rn} (hr : RnAt h b r) (hs : Sub h h') : RnAt h' b r :=
  ⟨hs _ _ hr.hb, hr.hm.imp (hs _ _) (fun ⟨e, c, q⟩ => ⟨e, c, hs _ _ q⟩), hs _ _ hr.hn, hr.hne⟩
end Go.Proofs

set_option linter.unusedVariables false
set_option linter.unusedSimpArgs false
set_option pp.deepTerms false
set_option pp.maxSteps 500
namespace Go.Proofs
open Go.Idl

/-! a runner makes a session -/
def newsW : List UInt8 := [110, 101, 119, 45, 115, 101, 115, 115, 105, 111, 110]
def begunR (k : Nat) (tag : Nat → Nat × Nat × Nat) (h : Heap) (rb : Nat) (R : RG) (nm : ByteArray) (w hh : Int) (h' : Heap) : Prop :=
  ∃ sb tag1 h1, Frm2 k tag h tag1 h1 ∧ openR k tag1 h1 rb { R with ns := R.ns + 1, ses := R.ses ++ [newS R.ns nm sb] } R.ses.length (newS R.ns nm sb) w hh (.ret (.agg (plR R.ns R.nw R.np))) h'
set_option maxRecDepth 20000 in
set_option maxHeartbeats 1000000 in
theorem sessions_new {k tag h rb R b r nm} (hR : RegAt k tag h rb R) (hr : RnAt h b r) (hb1 : (tag b).1 ≠ k) (hb2 : (tag b).1 ≠ k + 1) (hreg : r.reg = .ptr rb 0) (hw : r.word.toList = newsW) (hrest : r.rest = [nm]) (hx : getN r.ns 120 = none) (hy : getN r.ns 121 = none)
    (o : BegOk R) (hnm : nm.size < 100000000) (hbe : begE R nm 80 24 = 0) (hi : ∀ n ∈ [R.ns, R.nw, R.np], 0 ≤ n → n ≤ 2147483647 → ∀ h, ICall Tryz.prog 102 [.int .i64 n] h (retP (.str (itoaB n)) h)) :
    ICall Tryz.prog 76 [.ptr b 0] h fun e h' => e = .ret (.tup [.str (joinB ([36, 64, 37].map (plc R.ns R.nw R.np)) ⟨#[32]⟩), .bool true]) ∧
      ∃ h2, begunR k tag h rb R nm 80 24 h2 ∧ h' = upd h2 b (some (.cells { r with seat := R.ns }.cells)) := by
  refine icall_of_iwp (fun d => if d = 37 then 5 else 0) Tryz.func76 rfl (by kernel_rfl) (Nat.le_of_ble_eq_true rfl) ?_
  rw [Tryz.results76]
  have h1 := hr.hb
  have hwb : (r.word.toList == [110, 101, 119, 45, 115, 101, 115, 115, 105, 111, 110]) = true := by rw [hw]; decide
  simp -implicitDefEqProofs [go_sem, h1, Rn.cells, hwb]
  refine iwp_drawn_allocC mixed 18 [0, 1, 2, 3, 4, 5, 6, 7, 8, 9, 10, 11, 12, 13, 14, 15, 16, 17, 19, 20] (by kernel_rfl) (fun v st d x h => by cases d <;> exact h) (fun v st m h => h) ?_
  have hnx := num_c hr 120 80
  have hny := num_c hr 121 24
  rw [hx] at hnx
  rw [hy] at hny
  simp -implicitDefEqProofs [go_sem, h1, Rn.cells, hreg, hrest, strRow]
  refine ⟨_, hnx, ?_⟩
  simp -implicitDefEqProofs [go_sem, h1, Rn.cells, hreg, hrest, strRow]
  refine ⟨_, hny, ?_⟩
  simp -implicitDefEqProofs [go_sem, h1, Rn.cells, hreg, hrest, strRow]
  refine (begin21_c hR o nm hnm 80 24).mono ?_
  intro e h2 hB
  rw [beginR, if_pos hbe] at hB
  obtain ⟨sb, tag1, hh1, hF, h3, hO, rfl, rfl⟩ := hB
  have hbk : h2 b = some (.cells r.cells) := (hO.2.elim fun t q => q.elim fun _ q => q.elim fun _ q => q.elim fun _ q => q.elim fun _ q => q.elim fun _ q => by
    obtain ⟨f1, f2⟩ := hF b _ h1 hb1 hb2
    exact (q.2.1 b _ f1 (by rw [f2]; exact hb1) (by rw [f2]; exact hb2)).1)
  simp -implicitDefEqProofs [go_sem, plR]
  refine (ok_c 0 h2).mono ?_
  rintro e h4 ⟨rfl, he⟩
  rw [he]
  simp -implicitDefEqProofs [go_sem, plR, hbk, Rn.cells]
  refine (place_c R.ns R.nw R.np ⟨#[36, 64, 37]⟩ [36, 64, 37] rfl _ (by simp) hi).mono ?_
  rintro e h5 ⟨rfl, he⟩
  rw [he]
  simp -implicitDefEqProofs [go_sem, plR]
  refine ⟨_, Sub.refl _, h2, ⟨sb, tag1, hh1, hF, hO⟩, ?_⟩
  rw [hreg, hrest]; rfl
/-! a runner splits -/
end Go.Proofs

set_option linter.unusedVariables false
set_option linter.unusedSimpArgs false
set_option pp.deepTerms false
set_option pp.maxSteps 500
namespace Go.Proofs
open Go.Idl

/-! one command -/
theorem run_new {h : Heap} {b : Nat} {text : ByteArray} {P : Heap → Prop} (hs : ICall Tryz.prog 76 [.ptr b 0] h fun e h' => e = .ret (.tup [.str text, .bool true]) ∧ P h') : ICall Tryz.prog 47 [.ptr b 0] h fun e h' => e = .ret (.str text) ∧ P h' := by
  refine icall_of_iwp (fun d => 0) Tryz.func47 rfl (by kernel_rfl) (Nat.le_of_ble_eq_true rfl) ?_
  rw [Tryz.results47]
  simp -implicitDefEqProofs [go_sem]
  refine hs.mono ?_
  rintro e h' ⟨rfl, hp⟩
  simp -implicitDefEqProofs [go_sem]
  exact ⟨_, Sub.refl _, hp⟩
theorem one1_none (b4 b6 b7 b8 : Nat) (h : Heap) : ICallD Tryz.prog 45 [.ptr b4 0, .ptr b6 0, .ptr b7 0, .ptr b8 0] none h (fun h' => h' = h) := by
  refine icalld_of_iwp (fun _ => 0) Tryz.func45 rfl (by kernel_rfl) (Nat.le_of_ble_eq_true rfl) ?_
  simp -implicitDefEqProofs [go_sem]
  exact Sub.refl _
def leftR (k : Nat) (tag : Nat → Nat × Nat × Nat) (h : Heap) (rb : Nat) (P : RG → Prop) (h' : Heap) : Prop := ∃ tag2 R', RegAt k tag2 h' rb R' ∧ P R' ∧ Frm2 k tag h tag2 h'
set_option maxRecDepth 20000 in
set_option maxHeartbeats 1000000 in
theorem cone_c {k tag h rb R} {rd : ByteArray → Int × Int} {nm : ByteArray → UInt8 → Int × Int} (hR : RegAt k tag h rb R) (seat : Int) (l : List ByteArray) (hl : l.length ≤ 100000) (hN : ∀ h, BegOkN rd nm l h) (text : ByteArray) (seat' : Int) (P : RG → Prop) {w m rest ns} (hb : beginV rd nm l = .inr (w, m, rest, ns))
    (hrun : ∀ tag1 b mo mn h1, RegAt k tag1 h1 rb R → (tag1 b).1 ≠ k → (tag1 b).1 ≠ k + 1 → RnAt h1 b ⟨.ptr rb 0, seat, w, mo, mn, m, rest, ns⟩ → ICall Tryz.prog 47 [.ptr b 0] h1 fun e h' => e = .ret (.str text) ∧ leftR k tag1 (upd h1 b (some (.cells (Rn.cells ⟨.ptr rb 0, seat', w, mo, mn, m, rest, ns⟩)))) rb P h') :
    ICall Tryz.prog 23 [.ptr rb 0, .int .i64 seat, .list .plain (l.map strRow)] h fun e h' => e = .ret (.tup [.int .i64 seat', .str text, .int .i64 0]) ∧ leftR k tag h rb P h' := by
  refine icall_defer (fun d => if d = 4 then 1 else if d = 6 then 1 else if d = 7 then 1 else if d = 8 then 1 else 0) Tryz.func23 rfl (by kernel_rfl) (Nat.le_of_ble_eq_true rfl) ?_
  rw [Tryz.results23]
  simp -implicitDefEqProofs [go_sem]
  intro b4 g4 b6 g6 b7 g7 b8 g8
  have m4 : h b4 = none := g4
  have m6 := upd_none.1 (show upd h b4 (some (.cells [.int .i64 seat])) b6 = none by unfold upd; exact g6)
  have m7 := upd_none.1 (show upd (upd h b4 (some (.cells [.int .i64 seat]))) b6 (some (.cells [.int .i64 0])) b7 = none by unfold upd; exact g7)
  have m7' := upd_none.1 m7.2
  have m8 := upd_none.1 (show upd (upd (upd h b4 (some (.cells [.int .i64 seat]))) b6 (some (.cells [.int .i64 0]))) b7 (some (.cells [.str ⟨#[]⟩])) b8 = none by unfold upd; exact g8)
  have m8' := upd_none.1 m8.2
  have m8'' := upd_none.1 m8'.2
  have n64 := m6.1
  have n76 := m7.1
  have n74 := m7'.1
  have n87 := m8.1
  have n86 := m8'.1
  have n84 := m8''.1
  have hs0 : Sub h (upd (upd (upd (upd h b4 (some (IObj.cells [.int .i64 seat]))) b6 (some (IObj.cells [.int .i64 0]))) b7 (some (IObj.cells [.str ⟨#[]⟩]))) b8 (some (IObj.cells [.int .i64 0]))) := ((((Sub.refl h).upd m4 _).upd m6.2 _).upd m7'.2 _).upd m8''.2 _
  simp -implicitDefEqProofs [go_sem, n64, n76, n74, n87, n86, n84, n64.symm, n76.symm, n74.symm, n87.symm, n86.symm, n84.symm]
  refine (begin_c (.ptr rb 0) (.inr ⟨rb, rfl⟩) seat l _ hl (hN _)).mono ?_
  intro e h1 hB
  rw [begR, hb] at hB
  obtain ⟨b, mo, mn, rfl, hb0, hmo, hmn, hs1, hr1⟩ := hB
  have hs01 : Sub h h1 := fun j o q => hs1 j o (hs0 j o q)
  have hbn : h b = none := by cases hq : h b with
    | none => rfl
    | some o => rw [hs0 b o hq] at hb0; cases hb0
  have tbn : ∀ j, h j = none → tagS k h tag j = (k + 2, 0, 0) := fun j hj => by unfold tagS; rw [hj]
  have x4 : b4 ≠ b := by rintro rfl; simp [upd, n64.symm, n74.symm, n84.symm] at hb0
  have x6 : b6 ≠ b := by rintro rfl; simp [upd, n76.symm, n86.symm] at hb0
  have x7 : b7 ≠ b := by rintro rfl; simp [upd, n87.symm] at hb0
  have x8 : b8 ≠ b := by rintro rfl; simp [upd] at hb0
  have hk1 : (k + 2 : Nat) ≠ k := by omega
  have hk2 : (k + 2 : Nat) ≠ k + 1 := by omega
  simp -implicitDefEqProofs [go_sem]
  refine (hrun (tagS k h tag) b mo mn h1 (hR.sub hs01) (by rw [tbn b hbn]; exact hk1) (by rw [tbn b hbn]; exact hk2) hr1).mono ?_
  rintro e h2 ⟨rfl, tag2, R', hR2, hP, hF2⟩
  have kp : ∀ j o, h1 j = some o → j ≠ b → (tagS k h tag j).1 ≠ k → (tagS k h tag j).1 ≠ k + 1 → h2 j = some o ∧ tag2 j = tagS k h tag j := fun j o hj hjb t1 t2 => hF2 j o (by rw [upd_ne _ _ hjb]; exact hj) t1 t2
  have y4 := kp b4 (.cells [.int .i64 seat]) (hs1 _ _ (by simp [upd, n64.symm, n74.symm, n84.symm])) x4 (by rw [tbn b4 m4]; exact hk1) (by rw [tbn b4 m4]; exact hk2)
  have y6 := kp b6 (.cells [.int .i64 0]) (hs1 _ _ (by simp [upd, n76.symm, n86.symm])) x6 (by rw [tbn b6 m6.2]; exact hk1) (by rw [tbn b6 m6.2]; exact hk2)
  have y7 := kp b7 (.cells [.str ⟨#[]⟩]) (hs1 _ _ (by simp [upd, n87.symm])) x7 (by rw [tbn b7 m7'.2]; exact hk1) (by rw [tbn b7 m7'.2]; exact hk2)
  have y8 := kp b8 (.cells [.int .i64 0]) (hs1 _ _ (by simp [upd])) x8 (by rw [tbn b8 m8''.2]; exact hk1) (by rw [tbn b8 m8''.2]; exact hk2)
  have yb := hF2 b _ (upd_same _ _ _) (by rw [tbn b hbn]; exact hk1) (by rw [tbn b hbn]; exact hk2)
  rw [tbn b6 m6.2] at y6
  rw [tbn b7 m7'.2] at y7
  rw [tbn b8 m8''.2] at y8
  have q4 := y4.1
  have q6 := y6.1
  have q7 := y7.1
  have q8 := y8.1
  have qb := yb.1
  have fin : ∀ o6 o7 o7' o8, leftR k tag h rb P (upd (upd (upd (upd h2 b7 o7) b6 o6) b7 o7') b8 o8) := fun o6 o7 o7' o8 => by
    refine ⟨tag2, R', (((hR2.foreign (by rw [y7.2]; exact hk1) (by rw [y7.2]; exact hk2) _).foreign (by rw [y6.2]; exact hk1) (by rw [y6.2]; exact hk2) _).foreign (by rw [y7.2]; exact hk1) (by rw [y7.2]; exact hk2) _).foreign (by rw [y8.2]; exact hk1) (by rw [y8.2]; exact hk2) _, hP, fun j o hj t1 t2 => ?_⟩
    have tj : tagS k h tag j = tag j := by unfold tagS; rw [hj]
    have z : ∀ i, h i = none → j ≠ i := by rintro i hi rfl; rw [hi] at hj; cases hj
    have := kp j o (hs01 j o hj) (z b hbn) (by rw [tj]; exact t1) (by rw [tj]; exact t2)
    rw [upd_ne _ _ (z b8 m8''.2), upd_ne _ _ (z b7 m7'.2), upd_ne _ _ (z b6 m6.2), upd_ne _ _ (z b7 m7'.2), ← tj]
    exact this
  simp -implicitDefEqProofs [go_sem, q7, q6, q8, qb, x7, x7.symm, x6, x6.symm, x8, x8.symm]
  refine iwp_drawn_tree mixed [0, 1, 2, 3, 4, 5, 6, 7] (.alt 0 (.alt 1 (.alt 2 (.alt 3 (.alt 4 (.alt 5 (.alt 6 (.alt 7 .done .none) .none) .none) (.alt 5 (.alt 4 (.alt 6 (.alt 7 .done .none) .none) .none) .none)) (.alt 4 (.alt 3 (.alt 5 (.alt 6 (.alt 7 .done .none) .none) .none) .none) .none)) (.alt 4 (.alt 2 (.alt 3 (.alt 5 (.alt 6 (.alt 7 .done .none) .none) .none) .none) .none) .none)) (.alt 4 (.alt 1 (.alt 2 (.alt 3 (.alt 5 (.alt 6 (.alt 7 .done .none) .none) .none) .none) .none) .none) .none)) (.alt 4 (.alt 0 (.alt 1 (.alt 2 (.alt 3 (.alt 5 (.alt 6 (.alt 7 .done .none) .none) .none) .none) .none) .none) .none) .none)) (by kernel_rfl) ?_
  simp -implicitDefEqProofs [go_sem, q7, q6, q8, qb, x7, x7.symm, x6, x6.symm, x8, x8.symm, n76, n76.symm, n87, n87.symm, n86, n86.symm, Rn.cells]
  refine (one1_none b4 b6 b7 b8 _).mono ?_
  rintro h3 rfl
  simp -implicitDefEqProofs [go_sem, n76, n76.symm, n87, n87.symm, n86, n86.symm]
  exact ⟨_, Sub.refl _, fin _ _ _ _⟩
end Go.Proofs

set_option linter.unusedVariables false
set_option linter.unusedSimpArgs false
set_option pp.deepTerms false
set_option pp.maxSteps 500
namespace Go.Proofs
open Go.Idl

/-! replies; a line of commands -/
def replyV (text : ByteArray) (e : Int) : ByteArray := if e ≠ 0 then ⟨#[101, 114, 114, 111, 114, 32]⟩ ++ digL [e] else if text = ⟨#[]⟩ then ⟨#[111, 107]⟩ else ⟨#[111, 107, 32]⟩ ++ text
theorem reply_c (text : ByteArray) (e : Int) (h : Heap) (ht : text.size < 1000000000000) (hi : 0 ≤ e → e ≤ 2147483647 → ICall Tryz.prog 102 [.int .i64 e] h (retP (.str (itoaB e)) h)) :
    ICall Tryz.prog 21 [.str text, .int .i64 e] h (retP (.str (replyV text e)) h) := by
  refine icall_of_iwp (fun d => 0) Tryz.func21 rfl (by kernel_rfl) (Nat.le_of_ble_eq_true rfl) ?_
  rw [Tryz.results21]
  by_cases he : e = 0
  · subst he
    have hz : 3 + text.size ≤ 9223372036854775807 := by omega
    by_cases ht0 : text = ⟨#[]⟩
    · subst ht0
      simp -implicitDefEqProofs [go_sem]
      exact ⟨_, Sub.refl _, rfl, rfl⟩
    · have hb : (text.toList == ([] : List UInt8)) = false := by
        cases hq : text.toList == ([] : List UInt8) with
        | false => rfl
        | true =>
          exfalso; apply ht0
          have h1 : text.toList = [] := by simpa using hq
          rw [ByteArray.toList_eq] at h1
          exact ByteArray.ext (Array.toList_inj.1 (by rw [h1]))
      simp -implicitDefEqProofs [go_sem, hb, hz]
      exact ⟨_, Sub.refl _, by rw [replyV, if_neg (by omega), if_neg ht0], rfl⟩
  · have hne : (e != 0) = true := by simpa using he
    simp -implicitDefEqProofs [go_sem, hne]
    refine (Digits_c [e] h (by simp) (fun n hn h0 h1 => by simp at hn; subst hn; exact hi h0 h1)).mono ?_
    rintro x h' ⟨rfl, rfl⟩
    have hd := digB_len e
    have hd2 : (digB e).data.toList.length = (digB e).size := by simp
    have hz : 6 + (digL [e]).size ≤ 9223372036854775807 := by rw [digL_one]; omega
    simp -implicitDefEqProofs [go_sem, hz]
    exact ⟨_, Sub.refl _, by rw [replyV, if_pos he], rfl⟩
theorem range_map_succ {α : Type} (f : Nat → α) (i : Nat) : (List.range (i + 1)).map f = (List.range i).map f ++ [f i] := by rw [List.range_succ, List.map_append]; rfl
set_option maxRecDepth 20000 in
set_option maxHeartbeats 1000000 in
theorem crun_c {k tag h rb R} (hR : RegAt k tag h rb R) (seats : Nat → Int) (cmds : List (List ByteArray)) (texts : Nat → ByteArray) (P : Nat → RG → Prop) (line : ByteArray) (hsz : line.size < 4611686018427387904) (hcut : wcutV line = some cmds) (hn : cmds.length ≤ 100000) (h0 : P 0 R) (ht : ∀ i, (texts i).size < 1000000000000)
    (hone : ∀ i (hi : i < cmds.length) tag h R, RegAt k tag h rb R → P i R → ICall Tryz.prog 23 [.ptr rb 0, .int .i64 (seats i), .list .plain (cmds[i].map strRow)] h fun e h' => e = .ret (.tup [.int .i64 (seats (i + 1)), .str (texts i), .int .i64 0]) ∧ leftR k tag h rb (P (i + 1)) h') :
    ICall Tryz.prog 7 [.ptr rb 0, .int .i64 (seats 0), .str line] h fun e h' => e = .ret (.tup [.int .i64 (seats cmds.length), .list .plain (((List.range cmds.length).map fun i => replyV (texts i) 0).map strRow)]) ∧ leftR k tag h rb (P cmds.length) h' := by
  refine icall_of_iwp (fun d => 0) Tryz.func7 rfl (by kernel_rfl) (Nat.le_of_ble_eq_true rfl) ?_
  rw [Tryz.results7]
  simp -implicitDefEqProofs [go_sem]
  refine (wcut_c line h hsz).mono ?_
  intro e h1 hc
  obtain ⟨rfl, rfl⟩ : e = .ret (.tup [.list .plain (cmds.map cmdRow), .niliface]) ∧ h1 = h := by
    rcases hc with ⟨cs, hcs, he, hh⟩ | ⟨hcs, _⟩
    · rw [hcut] at hcs; cases hcs; exact ⟨he, hh⟩
    · rw [hcut] at hcs; cases hcs
  simp -implicitDefEqProofs [go_sem]
  refine iwp_loopF (rng [1, 10, 12, 13, 14, 15] 30 52) nom (fun s => ∃ i v, i ≤ cmds.length ∧ s.t 30 = .int .i64 i ∧ s.t 1 = .int .i64 (seats i) ∧ s.t 10 = v ∧ Idl.Own [47] s.x 9 v (((List.range i).map fun i => replyV (texts i) 0).map strRow) ∧ leftR k tag h1 rb (P i) s.h) (fun s => cmds.length - tn (s.t 30)) ?_ ?_
  · exact ⟨0, .list .tight [], Nat.zero_le _, by simp -implicitDefEqProofs [go_sem], by simp -implicitDefEqProofs [go_sem], by simp -implicitDefEqProofs [go_sem], Idl.Own.tight, tag, R, by simpa -implicitDefEqProofs [go_sem] using hR, h0, by simpa -implicitDefEqProofs [go_sem] using Frm2.refl k tag h1⟩
  rintro J s hJ hf ⟨i, v, hle, h30, h1', h10, ho, tag1, R1, hR1, hP1, hF1⟩
  simp -implicitDefEqProofs [go_sem, h30, hf.t, hf.m]
  refine cK_dec (fun hlt => ?_) (fun hge => ?_)
  · have hlt' : i < cmds.length := by omega
    have hw := wrap_succ (i := i) (by omega)
    have hg : cmds[i]? = some cmds[i] := List.getElem?_eq_getElem hlt'
    have hO := hone i hlt' tag1 s.h R1 hR1 hP1
    simp -implicitDefEqProofs [go_sem, h30, h1', h10, hf.t, hf.m, hlt', hg, cmdRow]
    refine hO.mono ?_
    rintro e h2 ⟨rfl, tag2, R2, hR2, hP2, hF2⟩
    simp -implicitDefEqProofs [go_sem, h30, h1', h10, hf.t, hf.m]
    refine (reply_c (texts i) 0 h2 (ht i) (fun _ _ => itoaS_c 0 (by omega) h2)).mono ?_
    rintro e h3 ⟨rfl, he⟩
    rw [he]
    simp -implicitDefEqProofs [go_sem, h30, h1', h10, hf.t, hf.m]
    refine aK_own (z := 1) (S := [47]) ho (by simp) elT_23 elZ_9 (by simp [roomy, byT_9]; omega) (strs_uni _) (by simp [uni]) ?_
    intro r x' ho' _
    simp -implicitDefEqProofs [go_sem, h30, h1', h10, hf.t, hf.m, hf, hw]
    refine hJ _ ⟨i + 1, r, by omega, by simp -implicitDefEqProofs [go_sem, hw], by simp -implicitDefEqProofs [go_sem], by simp -implicitDefEqProofs [go_sem], ?_, tag2, R2, by simpa -implicitDefEqProofs [go_sem] using hR2, hP2, by simpa -implicitDefEqProofs [go_sem] using hF1.trans hF2⟩ (by simp [go_sem, h30, hw]; omega)
    show Idl.Own [47] x' _ r _
    rw [range_map_succ, List.map_append, List.map_singleton]
    exact ho'
  · obtain rfl : i = cmds.length := by omega
    simp -implicitDefEqProofs [go_sem, h30, h1', h10, hf.t, hf.m, ho.strip]
    exact ⟨_, Sub.refl _, tag1, R1, hR1, hP1, hF1⟩
end Go.Proofs

set_option linter.unusedVariables false
set_option linter.unusedSimpArgs false
set_option pp.deepTerms false
set_option pp.maxSteps 500
namespace Go.Proofs
open Go.Idl

/-! the document's example of commands -/
theorem bsq (x y : ByteArray) : (x.toList == y.toList) = decide (x = y) := by
  rw [Bool.eq_iff_iff]
  simp only [beq_iff_eq, decide_eq_true_eq]
  exact ⟨fun h => by rw [ByteArray.toList_eq, ByteArray.toList_eq] at h; exact ByteArray.ext (Array.toList_inj.1 h), fun h => by rw [h]⟩
set_option maxRecDepth 20000 in
theorem same20_c (l m : List ByteArray) (h : Heap) (hl : l.length < 100000000000) : ICall Tryz.prog 19 [.list .plain (l.map strRow), .list .plain (m.map strRow)] h (retP (.bool (decide (l = m))) h) := by
  refine icall_of_iwp (fun _ => 0) Tryz.func19 rfl (by kernel_rfl) (Nat.le_of_ble_eq_true rfl) ?_
  rw [Tryz.results19]
  simp -implicitDefEqProofs [go_sem]
  by_cases hlm : l.length = m.length
  case neg =>
    have hq : ((l.length : Int) != (m.length : Int)) = true := by simpa using fun h => hlm (by omega)
    have : ¬ l = m := fun e => by rw [e] at hlm; exact absurd rfl hlm
    simp -implicitDefEqProofs [go_sem, hq]
    exact ⟨_, Sub.refl _, by simp [this], rfl⟩
  have hq : ((l.length : Int) != (m.length : Int)) = false := by simp; omega
  simp -implicitDefEqProofs [go_sem, hq]
  refine iwp_loopF (rng [5] 13 26) nom (fun s => ∃ i, i ≤ l.length ∧ s.t 13 = .int .i64 i ∧ s.h = h ∧ ∀ j, j < i → l[j]? = m[j]?) (fun s => l.length - tn (s.t 13)) ?_ ?_
  · exact ⟨0, Nat.zero_le _, by simp -implicitDefEqProofs [go_sem], by simp -implicitDefEqProofs [go_sem], fun _ h => by omega⟩
  rintro J s hJ hf ⟨i, hi, h13, hh, hno⟩
  simp -implicitDefEqProofs [go_sem, h13, hh, hf.t, hf.m]
  refine cK_dec (fun hlt => ?_) (fun hge => ?_)
  · have hlt' : i < l.length := by omega
    have hlt2 : i < m.length := by omega
    have hg : l[i]? = some l[i] := List.getElem?_eq_getElem hlt'
    have hg2 : m[i]? = some m[i] := List.getElem?_eq_getElem hlt2
    have hw := wrap_succ (i := i) (by omega)
    obtain ⟨x, hx⟩ : ∃ x, l[i] = x := ⟨_, rfl⟩
    obtain ⟨y, hy⟩ : ∃ y, m[i] = y := ⟨_, rfl⟩
    rw [hx] at hg
    rw [hy] at hg2
    simp -implicitDefEqProofs [go_sem, h13, hh, hf.t, hf.m]
    refine iwp_drawn_of mixed [0, 1, 2, 3, 4, 5, 6, 7, 8] (by kernel_rfl) ?_
    simp -implicitDefEqProofs [go_sem, h13, hh, hf.t, hf.m, hlt', hlt2, hg, hg2, hx, hy, strRow]
    cases hb : x.toList == y.toList with
    | false =>
      have hne : x ≠ y := fun e => by rw [e] at hb; simp at hb
      have : ¬ l = m := fun e => by subst e; rw [hg] at hg2; cases hg2; exact hne rfl
      simp -implicitDefEqProofs [go_sem, h13, hh, hf.t, hf.m]
      exact ⟨_, Sub.refl _, by simp [this], rfl⟩
    | true =>
      have he : x = y := by rw [bsq] at hb; simpa using hb
      simp -implicitDefEqProofs [go_sem, h13, hh, hf.t, hf.m, hf, hw]
      refine hJ _ ⟨i + 1, by omega, by simp -implicitDefEqProofs [go_sem, hw], by simp -implicitDefEqProofs [go_sem, hh], fun j hj => ?_⟩ (by simp [go_sem, h13, hw]; omega)
      by_cases e : j = i
      · subst e; rw [hg, hg2, he]
      · exact hno j (by omega)
  · have hlm2 : l = m := List.ext_getElem? fun j => by
      by_cases hj : j < l.length
      · exact hno j (by omega)
      · rw [List.getElem?_eq_none (by omega), List.getElem?_eq_none (by omega)]
    simp -implicitDefEqProofs [go_sem, h13, hh, hf.t, hf.m]
    exact ⟨_, Sub.refl _, by simp [hlm2], rfl⟩
structure St0 (R : RG) : Prop where
  ns : R.ns = 0
  nw : R.nw = 0
  np : R.np = 0
  mkn : R.mkr = .nilfn
  L : R.L = []
  ses : R.ses = []
  win : R.win = []
  own : R.own = []
structure St1 (R : RG) : Prop where
  mkn : R.mkr = .nilfn
  np : R.np = 1
  win : R.win = [(0, wA)]
  own : R.own = [(0, 0)]
  ses : ∃ s, R.ses = [s] ∧ s.id = 0 ∧ s.cur = 0 ∧ s.wins = [0]
  L : R.L.map (·.m) = [⟨0, true, 80, 24, [⟨1, 80, 24, ⟨#[]⟩⟩], false⟩]
theorem St0.beg {R : RG} (o : St0 R) : BegOk R := by
  obtain ⟨h1, h2, h3, h4, h5, h6, h7, h8⟩ := o
  exact ⟨h4, ⟨by simp [h6], by simp [h6], by simp [h6], by simp [h6]⟩, ⟨by simp [h5], by simp [h5], by simp [h7], by simp [h6]⟩, by omega, by simp [h6], by omega, by omega, by simp [h7], by simp [h8], by simp [h5], by rw [h5]; intro p hp; simp at hp⟩
def mainB : ByteArray := ⟨#[109, 97, 105, 110]⟩
theorem St0.begE {R : RG} (o : St0 R) : Go.Proofs.begE R mainB 80 24 = 0 := by
  obtain ⟨ns, nw, np, mkr, bb, mb, recb, sesb, winb, ownb, L, ses, win, own⟩ := R
  obtain ⟨h1, h2, h3, h4, h5, h6, h7, h8⟩ := o
  simp only at h1 h2 h3 h4 h5 h6 h7 h8
  subst h1 h2 h3 h4 h5 h6 h7 h8
  rw [Go.Proofs.begE, if_pos (by decide +kernel)]; rfl
def rd0 (_ : ByteArray) : Int × Int := (0, 0)
def nm0 (_ : ByteArray) (_ : UInt8) : Int × Int := (0, 0)
def newB : ByteArray := ⟨#[110, 101, 119, 45, 115, 101, 115, 115, 105, 111, 110]⟩
def hB : ByteArray := ⟨#[45, 104]⟩
theorem beg_new : beginV rd0 nm0 [newB, mainB] = .inr (newB, [], [mainB], []) := by decide +kernel
def noNum (l : List ByteArray) (w : ByteArray) : Bool := (formT w.toList).all fun f => match optZ l f.values with
  | .inr (_, m) => letters.all fun c => (getO m c).isNone || decide (Lib.indexByte f.values.data.toList c < 0)
  | _ => true
theorem opt_no {w : ByteArray} {r : List ByteArray} (hz : noNum (w :: r) w = true) (h : Heap) : BegOkN rd0 nm0 (w :: r) h := by
  intro w' r' f i m e hf ho
  cases e
  rw [noNum, hf, Option.all_some, ho, List.all_eq_true] at hz
  have key : ∀ c s, c ∈ letters → getO m c = some s → ¬ Lib.indexByte f.values.data.toList c < 0 → False := fun c s hc hg hn => by
    have := hz c hc
    rw [hg] at this
    simp [hn] at this
  exact ⟨fun c s hc hg hn => (key c s hc hg hn).elim, fun c s g hc hg hn => (key c s hc hg hn).elim⟩
theorem no_new : noNum [newB, mainB] newB = true := by decide +kernel
end Go.Proofs

set_option linter.unusedVariables false
set_option linter.unusedSimpArgs false
set_option pp.deepTerms false
set_option pp.maxSteps 500
namespace Go.Proofs
open Go.Idl

theorem itoaN (n : Int) (l : List Int) (hl : ∀ n ∈ l, 0 ≤ n ∧ n < 100) : ∀ n ∈ l, 0 ≤ n → n ≤ 2147483647 → ∀ h, ICall Tryz.prog 102 [.int .i64 n] h (retP (.str (itoaB n)) h) := fun n hn h0 _ h => by
  obtain ⟨k, rfl⟩ : ∃ k : Nat, n = k := ⟨n.toNat, by omega⟩
  exact itoaS_c k (by have := hl _ hn; omega) h
def text0 : ByteArray := joinB ([36, 64, 37].map (plc 0 0 0)) ⟨#[32]⟩
def text1 : ByteArray := joinB ([37].map (plc 0 0 1)) ⟨#[32]⟩
set_option maxHeartbeats 1000000 in
theorem one_new {k tag h rb R} (hR : RegAt k tag h rb R) (o : St0 R) : ICall Tryz.prog 23 [.ptr rb 0, .int .i64 (-1), .list .plain ([newB, mainB].map strRow)] h fun e h' => e = .ret (.tup [.int .i64 0, .str text0, .int .i64 0]) ∧ leftR k tag h rb St1 h' := by
  refine cone_c (w := newB) (m := []) (rest := [mainB]) (ns := []) hR (-1) [newB, mainB] (by simp) (opt_no no_new) text0 0 St1 beg_new ?_
  intro tag1 b mo mn h1 hR1 hb1 hb2 hr
  have hns : R.ns = 0 := o.ns
  have hs := sessions_new (nm := mainB) hR1 hr hb1 hb2 rfl (show newB.toList = newsW from by decide +kernel) rfl rfl rfl o.beg (by decide) o.begE (itoaN 0 _ (by rw [o.ns, o.nw, o.np]; simp))
  refine (run_new hs).mono ?_
  rintro e h' ⟨rfl, h2, ⟨sb, tag2, hh1, hF, ⟨_, tag3, wb, cap, pb, rc, L1, hR3, hF3, hS3, hL3⟩⟩, rfl⟩
  have hFF := hF.trans hF3
  obtain ⟨fb1, fb2⟩ := hFF b _ hr.hb hb1 hb2
  refine ⟨by rw [o.ns, o.nw, o.np]; rfl, tag3, _, hR3.foreign (by rw [fb2]; exact hb1) (by rw [fb2]; exact hb2) _, ?_, ?_⟩
  · obtain ⟨ns, nw, np, mkr, bb, mb, recb, sesb, winb, ownb, L, ses, win, own⟩ := R
    obtain ⟨q1, q2, q3, q4, q5, q6, q7, q8⟩ := o
    simp only at q1 q2 q3 q4 q5 q6 q7 q8
    subst q1 q2 q3 q4 q5 q6 q7 q8
    exact ⟨rfl, rfl, rfl, rfl, ⟨_, rfl, rfl, rfl, rfl⟩, hL3⟩
  · have := hFF.foreign (b := b) ⟨_, hr.hb⟩ (some (.cells (Rn.cells ⟨.ptr rb 0, 0, newB, mo, mn, [], [mainB], []⟩)))
    rw [hns]
    exact this
end Go.Proofs

set_option linter.unusedVariables false
set_option linter.unusedSimpArgs false
set_option pp.deepTerms false
set_option pp.maxSteps 500
namespace Go.Proofs
open Go.Idl

def out0 : ByteArray := ⟨#[111, 107, 32, 36, 48, 32, 64, 48, 32, 37, 48]⟩
theorem itoaB_0 : itoaB 0 = ⟨#[48]⟩ := by
  unfold itoaB Lib.itoa
  rw [if_neg (by omega), Lib.decDigits, dif_pos (by decide)]; rfl
theorem itoaB_1 : itoaB 1 = ⟨#[49]⟩ := by
  unfold itoaB Lib.itoa
  rw [if_neg (by omega), Lib.decDigits, dif_pos (by decide)]; rfl
theorem plc_0 (x : UInt8) : plc 0 0 0 x = ⟨#[x, 48]⟩ := by
  have : (if x = 36 then (0 : Int) else if x = 64 then 0 else 0) = 0 := by simp
  rw [plc, this, digL_one, digB, if_neg (by omega), itoaB_0]; rfl
theorem plc_1 : plc 0 0 1 37 = ⟨#[37, 49]⟩ := by
  rw [plc, digL_one, digB]; simp only [show ¬ ((37 : UInt8) = 36) from by decide, show ¬ ((37 : UInt8) = 64) from by decide, if_false]
  rw [if_neg (by omega), itoaB_1]; rfl
theorem text0_eq : text0 = ⟨#[36, 48, 32, 64, 48, 32, 37, 48]⟩ := by
  rw [text0]; simp only [List.map_cons, List.map_nil, plc_0]; rfl
theorem text1_eq : text1 = ⟨#[37, 49]⟩ := by
  rw [text1]; simp only [List.map_cons, List.map_nil, plc_1]; rfl
theorem out0_eq : replyV text0 0 = out0 := by
  rw [text0_eq, replyV, if_neg (by omega), if_neg (by decide)]; decide +kernel
def seat22 (i : Nat) : Int := if i = 0 then -1 else 0
def text22 (i : Nat) : ByteArray := if i = 0 then text0 else if i = 1 then text1 else ⟨#[]⟩
def st22 (i : Nat) : RG → Prop := if i = 0 then St0 else if i = 1 then St1 else fun _ => True
theorem text22_sz (i : Nat) : (text22 i).size < 1000000000000 := by
  unfold text22; rw [text0_eq, text1_eq]
  split
  · decide
  · split <;> decide
end Go.Proofs

set_option linter.unusedVariables false
set_option linter.unusedSimpArgs false
set_option pp.deepTerms false
set_option pp.maxSteps 500
namespace Go.Proofs
open Go.Idl Go.Sort

/-! no server -/
end Go.Proofs

set_option linter.unusedVariables false
set_option linter.unusedSimpArgs false
set_option pp.deepTerms false
set_option pp.maxSteps 500
namespace Go.Proofs
open Go.Idl

/-! a frame, put into bytes; a new server -/
def frB (k : UInt8) (L : List UInt8) : List UInt8 := [k, 0, 0, UInt8.ofNat (L.length / 256), UInt8.ofNat (L.length % 256)] ++ L
set_option maxRecDepth 20000 in
theorem put23_c (k : UInt8) (hk : 1 ≤ k.toNat ∧ k.toNat ≤ 2) (s : ByteArray) (L : List UInt8) (hL : s.data.toList = L) (hs : L.length ≤ 65535) (h : Heap) :
    ICall Tryz.prog 32 [.agg [.int .u8 k.toNat, .str s]] h (retP (.tup [.list .plain ((frB k L).map byRow), .int .i64 0]) h) := by
  refine icall_of_iwp (fun _ => 0) Tryz.func32 rfl (by kernel_rfl) (Nat.le_of_ble_eq_true rfl) ?_
  rw [Tryz.results32]
  have hsz : s.size = L.length := by rw [← hL]; simp
  have k1 : ¬ ((k.toNat : Int) < 1) := by omega
  have k2 : ¬ (2 < (k.toNat : Int)) := by omega
  have h3 : ¬ (65535 < (L.length : Int)) := by omega
  obtain ⟨HD, hHD⟩ : ∃ HD, [k, 0, 0, UInt8.ofNat (L.length / 256), UInt8.ofNat (L.length % 256)] = HD := ⟨_, rfl⟩
  have hHl : HD.length = 5 := by rw [← hHD]; rfl
  simp -implicitDefEqProofs [go_sem, hsz, k1, k2, h3]
  refine iwp_loopF (rng [5, 6] 31 43) (fun k => k == 1) (fun st => ∃ i v, i ≤ L.length ∧ st.t 6 = .int .i64 i ∧ st.t 5 = v ∧ Idl.Own [42] st.x 5 v ((HD ++ L.take i).map byRow) ∧ st.h = h ∧ st.t 1 = .loc 1 0 0 ∧ st.m 1 = some (0, [.int .u8 k.toNat, .str s])) (fun st => L.length - tn (st.t 6)) ?_ ?_
  · refine ⟨0, _, Nat.zero_le _, by simp -implicitDefEqProofs [go_sem], by simp -implicitDefEqProofs [go_sem]; rfl, ?_, by simp -implicitDefEqProofs [go_sem], by simp -implicitDefEqProofs [go_sem], by simp -implicitDefEqProofs [go_sem]⟩
    have w1 : IntKind.u8.wrap (IntKind.i64.wrap ((L.length : Int) / 256)) = ((UInt8.ofNat (L.length / 256)).toNat : Int) := by
      rw [wrap_in (by omega)]
      simp [IntKind.wrap, IntKind.signed, IntKind.bits]
    have w2 : IntKind.u8.wrap ((L.length : Int).tmod 256) = ((UInt8.ofNat (L.length % 256)).toNat : Int) := by
      rw [Int.tmod_eq_emod_of_nonneg (by omega)]
      simp [IntKind.wrap, IntKind.signed, IntKind.bits]
    refine .inl ?_
    rw [w1, w2, List.take_zero, List.append_nil, ← hHD]
    rfl
  rintro J st hJ hf ⟨i, v, hle, h6, h5, ho, hh, h1, hm1⟩
  simp -implicitDefEqProofs [go_sem, h6, h5, hh, hf.t, hf.m]
  refine cK_dec (fun hlt => ?_) (fun hge => ?_)
  · have hlt' : i < L.length := by omega
    have hw := wrap_succ (i := i) (by omega)
    obtain ⟨x, hx⟩ : ∃ x, L[i] = x := ⟨_, rfl⟩
    have hg : L[i]? = some x := by rw [← hx]; exact List.getElem?_eq_getElem hlt'
    have hi9 : i < s.size := by omega
    have hsx : s[i] = x := by rw [← hx]; subst hL; rfl
    simp -implicitDefEqProofs [go_sem, h6, h5, hh, h1, hm1, hf.t, hf.m, hlt', hsz, hg, hx]
    simp only [hsx]
    refine aK_own (z := 1) (S := [42]) ho (by simp) elT_74 elZ_5 (by simp [roomy, byT_5]; omega) (bys_uni _) (by simp [uni]) ?_
    intro r x' ho' _
    simp -implicitDefEqProofs [go_sem, h6, h5, hh, h1, hm1, hf.t, hf.m, hf, hw]
    refine hJ _ ⟨i + 1, r, by omega, by simp -implicitDefEqProofs [go_sem, hw], by simp -implicitDefEqProofs [go_sem], ?_, by simp -implicitDefEqProofs [go_sem, hh], by simp -implicitDefEqProofs [go_sem, h1], by simp -implicitDefEqProofs [go_sem, hm1]⟩ (by simp [go_sem, h6, hw]; omega)
    have e1 : L.take (i + 1) = L.take i ++ [x] := by rw [List.take_add_one, hg]; rfl
    show Idl.Own [42] x' _ r _
    rw [e1, ← List.append_assoc, List.map_append]
    exact ho'
  · obtain rfl : i = L.length := by omega
    rw [List.take_length] at ho
    simp -implicitDefEqProofs [go_sem, h6, h5, hh, hf.t, hf.m, ho.strip]
    exact ⟨_, Sub.refl _, by rw [frB, hHD, List.map_append], rfl⟩
theorem newSrv_c (k : Nat) (tag : Nat → Nat × Nat × Nat) (h : Heap) (hfr : ∀ j o, h j = some o → (tag j).1 ≠ k ∧ (tag j).1 ≠ k + 1) : ICall Tryz.prog 8 [.nilfn] h fun e h' => ∃ sb mc mr rb tag' R, e = .ret (.ptr sb 0) ∧ RegAt k tag' h' rb R ∧ St0 R ∧ Frm2 k tag h tag' h' ∧ h sb = none ∧ h mc = none ∧ h mr = none ∧
    h' sb = some (.cells [.ptr rb 0, .mapv mc, .mapv mr, .int .i64 0]) ∧ h' mc = some (.map []) ∧ h' mr = some (.map []) ∧ mc ≠ mr ∧ (tag' sb).1 = k + 2 ∧ (tag' mc).1 = k + 2 ∧ (tag' mr).1 = k + 2 := by
  refine icall_of_iwp (fun d => if d = 8 then 1 else 0) Tryz.func8 rfl (by kernel_rfl) (Nat.le_of_ble_eq_true rfl) ?_
  rw [Tryz.results8]
  simp -implicitDefEqProofs [go_sem]
  refine (newReg_c k tag h).mono ?_
  rintro e h1 ⟨bb, mb, recb, sesb, winb, ownb, rb, tag1, rfl, hR1, hF1⟩
  simp -implicitDefEqProofs [go_sem]
  intro b1 n1 b2 n2 b3 n3
  have m1 : h1 b1 = none := n1
  have m2 := upd_none.1 (show upd h1 b1 (some (.map [])) b2 = none by unfold upd; exact n2)
  have m3 := upd_none.1 (show upd (upd h1 b1 (some (.map []))) b2 (some (.map [])) b3 = none by unfold upd; exact n3)
  have m3' := upd_none.1 m3.2
  have hs : Sub h h1 := fun j o hj => (hF1 j o hj (hfr j o hj).1 (hfr j o hj).2).1
  have hno : ∀ j, h1 j = none → h j = none := fun j hj => by
    cases hq : h j with
    | none => rfl
    | some o => rw [hs j o hq] at hj; cases hj
  have hs1 : Sub h1 (upd (upd (upd h1 b1 (some (IObj.map []))) b2 (some (IObj.map []))) b3 (some (IObj.cells [IV.ptr rb 0, IV.mapv b1, IV.mapv b2, IV.int IntKind.i64 0]))) := (((Sub.refl h1).upd m1 _).upd m2.2 _).upd m3'.2 _
  have tg : ∀ j, h1 j = none → tagS k h1 tag1 j = (k + 2, 0, 0) := fun j hj => by unfold tagS; rw [hj]
  refine ⟨_, Sub.refl _, b1, b2, rb, tagS k h1 tag1, _, hR1.sub hs1, ⟨rfl, rfl, rfl, rfl, rfl, rfl, rfl, rfl⟩, fun j o hj t1 t2 => ?_, hno b3 m3'.2, hno b1 m1, hno b2 m2.2, upd_same _ _ _, ?_, ?_, Ne.symm m2.1, by rw [tg b3 m3'.2], by rw [tg b1 m1], by rw [tg b2 m2.2]⟩
  · obtain ⟨q1, q2⟩ := hF1 j o hj t1 t2
    exact ⟨hs1 j o q1, by unfold tagS; rw [q1]; exact q2⟩
  · rw [upd_ne _ _ (Ne.symm m3'.1), upd_ne _ _ (Ne.symm m2.1), upd_same]
  · rw [upd_ne _ _ (Ne.symm m3.1), upd_same]
end Go.Proofs

set_option linter.unusedVariables false
set_option linter.unusedSimpArgs false
set_option pp.deepTerms false
set_option pp.maxSteps 500
namespace Go.Proofs
open Go.Idl

@[go_sem ↓] theorem dop1_box {P : Program} {hint : Nat → Nat} {dst : Option Tmp} {ty pos after guard} {st : St} {K : St → Prop} {Q : IExit → St → Prop} (e : TypeId) (x : Operand) : dop1 P hint ⟨dst, .box e x, ty, pos, after, guard⟩ st K Q = iop P hint ⟨dst, .box e x, ty, pos, after, guard⟩ st K Q := by simp [dop1, kd, sto9]
/-! a server in the heap -/
structure Dec where
  bytes : List UInt8
  fed : Int
  over : Bool
structure Cl where
  id : Int
  cb : Nat
  db : Nat
  ab : Nat
  cap : Nat
  seat : Int
  d : Dec
structure Rp where
  id : Int
  ab : Nat
  cap : Nat
  l : List ByteArray
structure SV where
  rb : Nat
  mc : Nat
  mr : Nat
  last : Int
  R : RG
  cls : List Cl
  rps : List Rp
/-- a slice that owns its array, nil where it is empty -/
def growIs (h : Heap) (ty : TypeId) (b cap : Nat) (rows : List (List IV)) (c : IV) : Prop :=
  (rows = [] ∧ c = .list .tight []) ∨ (rows ≠ [] ∧ c = .sl 1 b 0 rows.length cap ∧ h b = some (.arr ty 1 rows cap) ∧ rows.length ≤ cap)
theorem growIs.str {h ty b cap rows c} (hs : growIs h ty b cap rows c) : stripT c = c := by rcases hs with ⟨_, rfl⟩ | ⟨_, rfl, _⟩ <;> rfl
theorem growIs.ok {h ty b cap rows c} (hs : growIs h ty b cap rows c) : okV c = true := by rcases hs with ⟨_, rfl⟩ | ⟨_, rfl, _⟩ <;> rfl
theorem growIs.ic {h ty b cap rows c} (hs : growIs h ty b cap rows c) : icells c = [c] := by rcases hs with ⟨_, rfl⟩ | ⟨_, rfl, _⟩ <;> rfl
theorem growIs.keep {h h' ty b cap rows c} (hs : growIs h ty b cap rows c) (hk : rows ≠ [] → h' b = h b) : growIs h' ty b cap rows c := by
  rcases hs with h1 | ⟨h1, h2, h3, h4⟩
  · exact .inl h1
  · exact .inr ⟨h1, h2, (hk h1).trans h3, h4⟩
theorem growIs.none {h ty b cap c} (hs : growIs h ty b cap [] c) : c = .list .tight [] := by rcases hs with h1 | h1; exact h1.2; exact absurd rfl h1.1
theorem growIs.some {h ty b cap rows c} (hs : growIs h ty b cap rows c) (hne : rows ≠ []) : c = .sl 1 b 0 rows.length cap ∧ h b = some (.arr ty 1 rows cap) ∧ rows.length ≤ cap := by rcases hs with h1 | h1; exact absurd h1.1 hne; exact h1.2
theorem abK_grow {P : Program} {st : St} {d : Nat} {t ty : TypeId} {b cap : Nat} {c : IV} {rows R : List (List IV)} {tk : Tok} {K : St → Prop} (hs : growIs st.h ty b cap rows c) (he : elT P t = some ty) (hz : elZ P ty = some 1)
    (hr : roomy P ty (rows.length + R.length)) (hu : uni 1 rows = true) (hu2 : uni 1 R = true) (hR : R ≠ [])
    (hK : ∀ b' cap', (b' = b ∧ rows ≠ []) ∨ st.h b' = none → rows.length + R.length ≤ cap' → K ((st.putH (upd st.h b' (some (.arr ty 1 (rows ++ R) cap')))).put (some d) (.sl 1 b' 0 (rows.length + R.length) cap'))) : abK P st d t c (.list tk R) K := by
  rcases hs with ⟨rfl, rfl⟩ | ⟨hne, rfl, hb, hle⟩
  · rw [abK_list, he, Option.bind_some, hz, dK_some, eoK_some]
    refine ⟨⟨by simpa using hr, rfl, hu2⟩, (fun e => absurd e hR), fun _ b' cap' hb' hcap => ?_⟩
    exact hK b' cap' (.inr hb') (by simpa using hcap)
  · rw [abK_sl, hb, arK_some, he, eoK_some]
    refine ⟨⟨rfl, rfl, rfl, hz, rfl, rfl, hr, hu2⟩, fun hfit => ?_, fun _ b' cap' hb' hcap => ?_⟩
    · exact hK b cap (.inl ⟨rfl, hne⟩) (by simpa using hfit)
    · exact hK b' cap' (.inr hb') (by simpa using hcap)
def DecIs (h : Heap) (db ab cap : Nat) (d : Dec) : Prop := ∃ c, growIs h 5 ab cap (d.bytes.map byRow) c ∧ h db = some (.cells [c, .int .i64 d.fed, .bool d.over])
def Cl.is (h : Heap) (c : Cl) : Prop := h c.cb = some (.cells [.ptr c.db 0, .int .i64 c.seat]) ∧ DecIs h c.db c.ab c.cap c.d
def SV.clE (S : SV) : List (IV × IV) := S.cls.map (encK (·.id) fun c => .ptr c.cb 0)
def SV.rpE (S : SV) : List (IV × IV) := S.rps.map (encK (·.id) fun r => .sl 1 r.ab 0 r.l.length r.cap)
def SV.cells (S : SV) : List IV := [.ptr S.rb 0, .mapv S.mc, .mapv S.mr, .int .i64 S.last]
/-- the server's own blocks bear the colour k + 3 -/
structure SrvAt (k : Nat) (tag : Nat → Nat × Nat × Nat) (h : Heap) (sb : Nat) (S : SV) : Prop where
  hR : RegAt k tag h S.rb S.R
  hs : h sb = some (.cells S.cells)
  ts : tag sb = (k + 3, 0, 0)
  hmc : h S.mc = some (.map S.clE)
  tmc : tag S.mc = (k + 3, 1, 0)
  hmr : h S.mr = some (.map S.rpE)
  tmr : tag S.mr = (k + 3, 2, 0)
  hc : ∀ c ∈ S.cls, c.is h ∧ tag c.cb = (k + 3, 3, c.id.toNat) ∧ tag c.db = (k + 3, 4, c.id.toNat) ∧ (c.d.bytes ≠ [] → tag c.ab = (k + 3, 5, c.id.toNat))
  hr : ∀ r ∈ S.rps, (r.l ≠ [] ∧ h r.ab = some (.arr 9 1 (r.l.map strRow) r.cap) ∧ r.l.length ≤ r.cap) ∧ tag r.ab = (k + 3, 6, r.id.toNat)
def Frm3 (k : Nat) (tag : Nat → Nat × Nat × Nat) (h : Heap) (tag' : Nat → Nat × Nat × Nat) (h' : Heap) : Prop := ∀ j o, h j = some o → (tag j).1 ≠ k → (tag j).1 ≠ k + 1 → (tag j).1 ≠ k + 3 → h' j = some o ∧ tag' j = tag j
theorem Frm3.refl (k tag h) : Frm3 k tag h tag h := fun _ _ h _ _ _ => ⟨h, rfl⟩
theorem Frm3.trans {k tag h tag1 h1 tag2 h2} (a : Frm3 k tag h tag1 h1) (b : Frm3 k tag1 h1 tag2 h2) : Frm3 k tag h tag2 h2 := fun j o ho t1 t2 t3 => by
  obtain ⟨g1, g2⟩ := a j o ho t1 t2 t3
  obtain ⟨g3, g4⟩ := b j o g1 (by rw [g2]; exact t1) (by rw [g2]; exact t2) (by rw [g2]; exact t3)
  exact ⟨g3, g4.trans g2⟩
theorem Frm2.three {k tag h tag' h'} (a : Frm2 k tag h tag' h') : Frm3 k tag h tag' h' := fun j o ho t1 t2 _ => a j o ho t1 t2
theorem BoardAt.stay {k tag h bb mb L tag' h'} (hB : BoardAt k tag h bb mb L) (hF : ∀ j o, h j = some o → (tag j).1 = k → h' j = some o ∧ tag' j = tag j) : BoardAt k tag' h' bb mb L := by
  have key : ∀ j o t, h j = some o → tag j = t → t.1 = k → h' j = some o ∧ tag' j = t := by
    intro j o t ho ht hk1
    obtain ⟨g1, g2⟩ := hF j o ho (by rw [ht, hk1])
    exact ⟨g1, g2.trans ht⟩
  refine ⟨(key _ _ _ hB.hb hB.tb rfl).1, (key _ _ _ hB.hb hB.tb rfl).2, (key _ _ _ hB.hm hB.tm rfl).1, (key _ _ _ hB.hm hB.tm rfl).2, ?_, hB.nd⟩
  intro i p hp
  obtain ⟨q1, q2, q3, q4⟩ := hB.hp i p hp
  obtain ⟨v, hv⟩ := q2.some
  refine ⟨fun hg => key _ _ _ (q1 hg).1 (q1 hg).2 rfl, ?_, (key _ _ _ hv q3 rfl).2, fun he => ?_⟩
  · refine q2.keep ?_ (fun he => ?_)
    · rw [hv]; exact (key _ _ _ hv q3 rfl).1
    · rcases q2 with ⟨g0, _⟩ | ⟨_, _, g2, _⟩
      · exact absurd g0 he
      · rw [g2]; exact (key _ _ _ g2 (q4 he) rfl).1
  · rcases q2 with ⟨g0, _⟩ | ⟨_, _, g2, _⟩
    · exact absurd g0 he
    · exact (key _ _ _ g2 (q4 he) rfl).2
theorem RegAt.stay {k tag h rb R tag' h'} (hR : RegAt k tag h rb R) (hF : ∀ j o, h j = some o → (tag j).1 = k ∨ (tag j).1 = k + 1 → h' j = some o ∧ tag' j = tag j) : RegAt k tag' h' rb R :=
  hR.of (fun _ => False) (fun j o hj ht _ => hF j o hj (.inr ht)) rfl rfl rfl rfl rfl rfl (.inl ⟨id, rfl⟩) (.inl ⟨id, rfl⟩) (.inl ⟨id, rfl⟩) (.inl ⟨id, rfl⟩) (.inl ⟨id, rfl⟩)
    (hR.hB.stay fun j o hj ht => hF j o hj (.inl ht)) (fun s hs => .inl ⟨hs, id, id⟩)
theorem DecIs.keep {h h' db ab cap d} (hd : DecIs h db ab cap d) (h1 : h' db = h db) (h2 : d.bytes ≠ [] → h' ab = h ab) : DecIs h' db ab cap d := by
  obtain ⟨c, g1, g2⟩ := hd
  exact ⟨c, g1.keep fun hn => h2 fun e => hn (by rw [e]; rfl), h1.trans g2⟩
theorem DecIs.ab {h db ab cap d} (hd : DecIs h db ab cap d) (hn : d.bytes ≠ []) : ∃ o, h ab = some o := by
  obtain ⟨c, g1, g2⟩ := hd
  exact ⟨_, (g1.some (by simpa using hn)).2.1⟩
/-- what the blocks of a server say, told by their marks -/
theorem SrvAt.of {k tag h sb S} (hS : SrvAt k tag h sb S) {S' : SV} {tag' : Nat → Nat × Nat × Nat} {h' : Heap} (T : Nat × Nat × Nat → Prop)
    (keep : ∀ j o, h j = some o → (tag j).1 = k + 3 → ¬ T (tag j) → h' j = some o ∧ tag' j = tag j)
    (e1 : S'.mc = S.mc) (e2 : S'.mr = S.mr)
    (c0 : (¬ T (k + 3, 0, 0) ∧ S'.cells = S.cells) ∨ (h' sb = some (.cells S'.cells) ∧ tag' sb = (k + 3, 0, 0)))
    (c1 : (¬ T (k + 3, 1, 0) ∧ S'.clE = S.clE) ∨ (h' S.mc = some (.map S'.clE) ∧ tag' S.mc = (k + 3, 1, 0)))
    (c2 : (¬ T (k + 3, 2, 0) ∧ S'.rpE = S.rpE) ∨ (h' S.mr = some (.map S'.rpE) ∧ tag' S.mr = (k + 3, 2, 0)))
    (cR : RegAt k tag' h' S'.rb S'.R)
    (cc : ∀ c ∈ S'.cls, (c ∈ S.cls ∧ ¬ T (k + 3, 3, c.id.toNat) ∧ ¬ T (k + 3, 4, c.id.toNat) ∧ ¬ T (k + 3, 5, c.id.toNat)) ∨ (c.is h' ∧ tag' c.cb = (k + 3, 3, c.id.toNat) ∧ tag' c.db = (k + 3, 4, c.id.toNat) ∧ (c.d.bytes ≠ [] → tag' c.ab = (k + 3, 5, c.id.toNat))))
    (cr : ∀ r ∈ S'.rps, (r ∈ S.rps ∧ ¬ T (k + 3, 6, r.id.toNat)) ∨ ((r.l ≠ [] ∧ h' r.ab = some (.arr 9 1 (r.l.map strRow) r.cap) ∧ r.l.length ≤ r.cap) ∧ tag' r.ab = (k + 3, 6, r.id.toNat))) :
    SrvAt k tag' h' sb S' := by
  have kp : ∀ j o t, h j = some o → tag j = t → t.1 = k + 3 → ¬ T t → h' j = some o ∧ tag' j = t := fun j o t ho ht h1 h2 => by
    obtain ⟨g1, g2⟩ := keep j o ho (by rw [ht]; exact h1) (by rw [ht]; exact h2)
    exact ⟨g1, g2.trans ht⟩
  have a0 : h' sb = some (.cells S'.cells) ∧ tag' sb = (k + 3, 0, 0) := c0.elim (fun g => by rw [g.2]; exact kp _ _ _ hS.hs hS.ts rfl g.1) id
  have a1 : h' S.mc = some (.map S'.clE) ∧ tag' S.mc = (k + 3, 1, 0) := c1.elim (fun g => by rw [g.2]; exact kp _ _ _ hS.hmc hS.tmc rfl g.1) id
  have a2 : h' S.mr = some (.map S'.rpE) ∧ tag' S.mr = (k + 3, 2, 0) := c2.elim (fun g => by rw [g.2]; exact kp _ _ _ hS.hmr hS.tmr rfl g.1) id
  refine ⟨cR, a0.1, a0.2, by rw [e1]; exact a1.1, by rw [e1]; exact a1.2, by rw [e2]; exact a2.1, by rw [e2]; exact a2.2, fun c hc => ?_, fun r hr => ?_⟩
  · rcases cc c hc with ⟨g1, g2, g3, g4⟩ | g
    · obtain ⟨⟨q1, q2⟩, t1, t2, t3⟩ := hS.hc c g1
      have b1 := kp _ _ _ q1 t1 rfl g2
      obtain ⟨cc, q3, q4⟩ := q2
      have b2 := kp _ _ _ q4 t2 rfl g3
      have q2 : DecIs h c.db c.ab c.cap c.d := ⟨cc, q3, q4⟩
      have b3 : c.d.bytes ≠ [] → h' c.ab = h c.ab ∧ tag' c.ab = (k + 3, 5, c.id.toNat) := fun hn => by
        obtain ⟨o, ho⟩ := q2.ab hn
        have b3 := kp _ _ _ ho (t3 hn) rfl g4
        exact ⟨by rw [b3.1, ho], b3.2⟩
      exact ⟨⟨b1.1, q2.keep (by rw [b2.1, q4]) fun hn => (b3 hn).1⟩, b1.2, b2.2, fun hn => (b3 hn).2⟩
    · exact g
  · rcases cr r hr with ⟨g1, g2⟩ | g
    · obtain ⟨⟨q1, q2, q3⟩, t1⟩ := hS.hr r g1
      have b1 := kp _ _ _ q2 t1 rfl g2
      exact ⟨⟨q1, b1.1, q3⟩, b1.2⟩
    · exact g
structure SV.ok (S : SV) : Prop where
  nd : (S.cls.map (·.id)).Nodup
  c0 : ∀ c ∈ S.cls, 0 ≤ c.id ∧ c.id < S.last
  ndr : (S.rps.map (·.id)).Nodup
  r0 : ∀ r ∈ S.rps, 0 ≤ r.id
  l0 : 0 ≤ S.last ∧ S.last < 1000000000000
  len : S.cls.length ≤ 64
  rl : ∀ r ∈ S.rps, r.l.length ≤ 1000000000000
/-- what the server's call leaves -/
def srvR (k : Nat) (tag : Nat → Nat × Nat × Nat) (h : Heap) (sb : Nat) (P : SV → Prop) (h' : Heap) : Prop := ∃ tag' S', SrvAt k tag' h' sb S' ∧ P S' ∧ Frm3 k tag h tag' h'
/-- what a registry leaves of a server -/
theorem SrvAt.reg {k tag h sb S tag' h' R'} (hS : SrvAt k tag h sb S) (hR : RegAt k tag' h' S.rb R') (hF : Frm2 k tag h tag' h') : SrvAt k tag' h' sb { S with R := R' } :=
  hS.of (fun _ => False) (fun j o hj ht _ => hF j o hj (by rw [ht]; omega) (by rw [ht]; omega)) rfl rfl (.inl ⟨id, rfl⟩) (.inl ⟨id, rfl⟩) (.inl ⟨id, rfl⟩) hR (fun c hc => .inl ⟨hc, id, id, id⟩) (fun r hr => .inl ⟨hr, id⟩)
theorem encK_find {α : Type} {f : α → Int} {l : List α} {a : α} (hn : (l.map f).Nodup) (ha : a ∈ l) : (l.find? fun b => f b == f a) = some a := by
  induction l with
  | nil => cases ha
  | cons b l ih =>
    simp only [List.map_cons, List.nodup_cons] at hn
    rw [List.find?_cons]
    by_cases e : f b = f a
    · rw [show (f b == f a) = true from by simp [e]]
      rcases List.mem_cons.1 ha with rfl | h
      · rfl
      · exact absurd (e ▸ List.mem_map_of_mem h) hn.1
    · rw [show (f b == f a) = false from by simpa using e]
      rcases List.mem_cons.1 ha with rfl | h
      · exact absurd rfl e
      · exact ih hn.2 h
end Go.Proofs

set_option linter.unusedVariables false
set_option linter.unusedSimpArgs false
set_option pp.deepTerms false
set_option pp.maxSteps 500
namespace Go.Proofs
open Go.Idl

/-! frames out of bytes -/
structure Fra where
  k : UInt8
  body : ByteArray
def frRow (f : Fra) : List IV := [.int .u8 f.k.toNat, .str f.body]
@[go_sem high] theorem frs_uni (l : List Fra) : uni 2 (l.map frRow) = true := by simp [uni, frRow]
def valB (l : List UInt8) : Nat := l.foldl (fun n b => n * 256 + b.toNat) 0
def lenD (bs : List UInt8) : Int := if bs.length < 5 then 0 else valB ((bs.drop 1).take 4)
def wroD (bs : List UInt8) : Int :=
  if bs.length = 1 ∧ bs.headD 0 ≠ 1 ∧ bs.headD 0 ≠ 2 then 2 else if bs.length = 5 ∧ 65535 < lenD bs then 3 else 0
def whoD (bs : List UInt8) : Option Fra := if bs.length < 5 ∨ (bs.length : Int) < 5 + lenD bs then none else some ⟨bs.headD 0, ⟨(bs.drop 5).toArray⟩⟩
theorem valB_succ (l : List UInt8) (i : Nat) (x : UInt8) (hx : l[i]? = some x) : valB (l.take (i + 1)) = valB (l.take i) * 256 + x.toNat := by
  have : l.take (i + 1) = l.take i ++ [x] := by rw [List.take_add_one, hx]; rfl
  rw [this, valB, List.foldl_append]; rfl
theorem valB_le (l : List UInt8) : ∀ i, i ≤ 4 → valB (l.take i) < 256 ^ i := by
  intro i
  induction i with
  | zero => intro _; simp [valB]
  | succ i ih =>
    intro hi
    have := ih (by omega)
    cases hx : l[i]? with
    | none =>
      have hl : l.length ≤ i := List.getElem?_eq_none_iff.1 hx
      rw [List.take_of_length_le (by omega)] at this ⊢
      have : 256 ^ i ≤ 256 ^ (i + 1) := Nat.pow_le_pow_right (by omega) (by omega)
      omega
    | some x =>
      rw [valB_succ l i x hx, Nat.pow_succ]
      have := x.toNat_lt
      omega
theorem or_byte (n b : Nat) (hb : b < 256) : (n * 256) ||| b = n * 256 + b := by
  rw [show (256 : Nat) = 2 ^ 8 from rfl] at hb ⊢
  rw [Nat.mul_comm]
  exact (Nat.two_pow_add_eq_or_of_lt hb n).symm
theorem lenD_le (bs : List UInt8) : 0 ≤ lenD bs ∧ lenD bs < 4294967296 := by
  unfold lenD
  split
  · omega
  · have := valB_le (bs.drop 1) 4 (by omega)
    omega
set_option maxRecDepth 20000 in
set_option maxHeartbeats 1000000 in
theorem length_c {h : Heap} {db ab cap : Nat} {d : Dec} (hd : DecIs h db ab cap d) (hl : d.bytes.length < 1000000000000) :
    ICall Tryz.prog 159 [.ptr db 0] h (retP (.tup [.int .i64 (lenD d.bytes), .bool (decide (5 ≤ d.bytes.length))]) h) := by
  refine icall_of_iwp (fun _ => 0) Tryz.func159 rfl (by kernel_rfl) (Nat.le_of_ble_eq_true rfl) ?_
  rw [Tryz.results159]
  obtain ⟨c, hg, hdb⟩ := hd
  obtain ⟨bs, fed, over⟩ := d
  simp only at hg hdb hl ⊢
  by_cases hne : bs = []
  · subst hne
    have := hg.none
    subst this
    simp -implicitDefEqProofs [go_sem, hdb]
    exact ⟨_, Sub.refl _, rfl, rfl⟩
  obtain ⟨rfl, hab, hcap⟩ := hg.some (by simpa using hne)
  simp only [List.length_map] at hcap hdb
  simp -implicitDefEqProofs [go_sem, hdb, hab]
  refine cK_dec (fun h5 => ?_) (fun h5 => ?_)
  · have h5' : bs.length < 5 := by omega
    simp -implicitDefEqProofs [go_sem]
    exact ⟨_, Sub.refl _, by rw [lenD, if_pos h5']; simp [h5'], rfl⟩
  have h5' : 5 ≤ bs.length := by omega
  have hc5 : (5 : Int) ≤ (cap : Int) := by omega
  have hc1 : (1 : Int) < (cap : Int) := by omega
  simp -implicitDefEqProofs [go_sem, hdb, hab, hc5, hc1]
  refine iwp_loopF (rng [4, 6] 19 28) nom (fun s => ∃ i : Nat, i ≤ 4 ∧ s.t 19 = .int .i64 i ∧ s.t 4 = .int .i64 (valB (((bs.drop 1).take 4).take i) : Nat) ∧ s.h = h) (fun s => 4 - tn (s.t 19)) ?_ ?_
  · exact ⟨0, by omega, by simp -implicitDefEqProofs [go_sem], by simp -implicitDefEqProofs [go_sem, valB], by simp -implicitDefEqProofs [go_sem]⟩
  rintro J s hJ hf ⟨i, hi, h19, h4, hh⟩
  simp -implicitDefEqProofs [go_sem, h19, h4, hh, hf.t, hf.m]
  refine cK_dec (fun hlt => ?_) (fun hge => ?_)
  · have hlt' : i < 4 := by omega
    have hw := wrap_succ (i := i) (by omega)
    obtain ⟨x, hx⟩ : ∃ x, bs[1 + i]? = some x := ⟨_, List.getElem?_eq_getElem (by omega)⟩
    have hx2 : ((bs.drop 1).take 4)[i]? = some x := by rw [List.getElem?_take, if_pos hlt', List.getElem?_drop]; exact hx
    have hrow : (bs.map byRow)[1 + i]? = some (byRow x) := by rw [List.getElem?_map, hx]; rfl
    have hv := valB_succ _ i x hx2
    have hle := valB_le ((bs.drop 1).take 4) i hi
    obtain ⟨n, hn⟩ : ∃ n, valB (((bs.drop 1).take 4).take i) = n := ⟨_, rfl⟩
    rw [hn] at h4 hv hle
    have hn2 : n < 16777216 := by
      have : 256 ^ i ≤ 256 ^ 3 := Nat.pow_le_pow_right (by omega) (by omega)
      omega
    have hxl := x.toNat_lt
    have hs8 : IntKind.i64.wrap ((n : Int) * 256) = ((n * 256 : Nat) : Int) := by rw [wrap_in (by omega)]; omega
    have hor := or_byte n x.toNat hxl
    simp -implicitDefEqProofs [go_sem, h19, h4, hh, hf.t, hf.m, hlt, hab, hrow, byRow, hs8, hf, hw]
    refine hJ _ ⟨i + 1, by omega, by simp -implicitDefEqProofs [go_sem, hw], ?_, by simp -implicitDefEqProofs [go_sem, hh]⟩ (by simp [go_sem, h19, hw]; omega)
    rw [hv]
    simp -implicitDefEqProofs [go_sem]
    show IntKind.i64.wrap (((BitVec.ofInt 64 ((n : Int) * 256) ||| BitVec.ofInt 64 (IntKind.i64.wrap (x.toNat : Int)) : BitVec 64).toNat : Nat) : Int) = _
    rw [show ((n : Int) * 256) = ((n * 256 : Nat) : Int) from by omega, wrap_in (n := (x.toNat : Int)) (by omega), BitVec.ofInt_natCast, BitVec.ofInt_natCast, BitVec.toNat_or, BitVec.toNat_ofNat, BitVec.toNat_ofNat,
      Nat.mod_eq_of_lt (by omega), Nat.mod_eq_of_lt (by omega), hor, wrap_in (by omega)]
    omega
  · obtain rfl : i = 4 := by omega
    rw [List.take_of_length_le (by simp; omega)] at h4
    simp -implicitDefEqProofs [go_sem, h19, h4, hh, hf.t, hf.m]
    exact ⟨_, Sub.refl _, by rw [lenD, if_neg (by omega)]; simp [h5'], rfl⟩
set_option maxRecDepth 20000 in
set_option maxHeartbeats 1000000 in
theorem wrong_c {h : Heap} {db ab cap : Nat} {d : Dec} (hd : DecIs h db ab cap d) (hl : d.bytes.length < 1000000000000) :
    ICall Tryz.prog 97 [.ptr db 0] h (retP (.int .i64 (wroD d.bytes)) h) := by
  refine icall_of_iwp (fun _ => 0) Tryz.func97 rfl (by kernel_rfl) (Nat.le_of_ble_eq_true rfl) ?_
  rw [Tryz.results97]
  simp -implicitDefEqProofs [go_sem]
  refine (length_c hd hl).mono ?_
  rintro e h' ⟨rfl, he⟩
  rw [he]
  obtain ⟨c, hg, hdb⟩ := hd
  obtain ⟨bs, fed, over⟩ := d
  simp only at hg hdb hl ⊢
  have hlv := lenD_le bs
  by_cases hne : bs = []
  · subst hne
    have := hg.none
    subst this
    simp -implicitDefEqProofs [go_sem, hdb]
    exact ⟨_, Sub.refl _, rfl, rfl⟩
  obtain ⟨rfl, hab, hcap⟩ := hg.some (by simpa using hne)
  simp only [List.length_map] at hcap hdb
  obtain ⟨x, r, rfl⟩ : ∃ x r, bs = x :: r := by cases bs with | nil => exact absurd rfl hne | cons x r => exact ⟨x, r, rfl⟩
  obtain ⟨n, hn⟩ : ∃ n, (x :: r).length = n := ⟨_, rfl⟩
  rw [hn] at hdb hcap hl
  have hpos : 0 < n := by rw [← hn]; simp
  have hrow : ((x :: r).map byRow)[0]? = some (byRow x) := rfl
  generalize hrows : (x :: r).map byRow = rows at *
  cases h1 : ((n : Int) == 1) with
  | true =>
    have hn1 : n = 1 := by have : (n : Int) = 1 := by simpa using h1
                           omega
    have hr0 : r = [] := by subst hn1; simpa using hn
    have hw0 : wroD (x :: r) = if x ≠ 1 ∧ x ≠ 2 then 2 else 0 := by subst hr0; simp [wroD]
    simp -implicitDefEqProofs [go_sem, hdb, hab, h1, hpos, hrow, byRow]
    cases hx1 : ((x.toNat : Int) != 1) with
    | false =>
      have hx : x = 1 := by have : (x.toNat : Int) = 1 := by simpa using hx1
                            exact (u8_i _ _).1 this
      simp -implicitDefEqProofs [go_sem, hdb, hab, h1, hpos, hrow, byRow, hn1]
      exact ⟨_, Sub.refl _, by rw [hw0, hx]; rfl, rfl⟩
    | true =>
      have hxn : x ≠ 1 := fun e => by rw [e] at hx1; exact absurd hx1 (by decide)
      simp -implicitDefEqProofs [go_sem, hdb, hab, h1, hpos, hrow, byRow, hn1]
      cases hx2 : ((x.toNat : Int) != 2) with
      | false =>
        have hx : x = 2 := by have : (x.toNat : Int) = 2 := by simpa using hx2
                              exact (u8_i _ _).1 this
        simp -implicitDefEqProofs [go_sem, hdb, hab, h1, hpos, hrow, byRow, hn1]
        exact ⟨_, Sub.refl _, by rw [hw0, hx]; rfl, rfl⟩
      | true =>
        have hxn2 : x ≠ 2 := fun e => by rw [e] at hx2; exact absurd hx2 (by decide)
        simp -implicitDefEqProofs [go_sem, hdb, hab, h1, hpos, hrow, byRow, hn1]
        exact ⟨_, Sub.refl _, by rw [hw0, if_pos ⟨hxn, hxn2⟩], rfl⟩
  | false =>
    have hn1 : n ≠ 1 := by rintro rfl; simp at h1
    have hw0 : wroD (x :: r) = if n = 5 ∧ 65535 < lenD (x :: r) then 3 else 0 := by rw [wroD, if_neg (by rw [hn]; exact fun h => hn1 h.1), hn]
    simp -implicitDefEqProofs [go_sem, hdb, hab, h1, hpos, hrow, byRow]
    cases h5 : ((n : Int) == 5) with
    | false =>
      have hn5 : n ≠ 5 := by rintro rfl; simp at h5
      simp -implicitDefEqProofs [go_sem, hdb, hab, h1, hpos, hrow, byRow]
      exact ⟨_, Sub.refl _, by rw [hw0, if_neg (fun h => hn5 h.1)], rfl⟩
    | true =>
      have hn5 : n = 5 := by have : (n : Int) = 5 := by simpa using h5
                             omega
      simp -implicitDefEqProofs [go_sem, hdb, hab, h1, hpos, hrow, byRow]
      refine cK_dec (fun hg => ?_) (fun hg => ?_)
      · simp -implicitDefEqProofs [go_sem, hdb, hab, h1, hpos, hrow, byRow]
        exact ⟨_, Sub.refl _, by rw [hw0, if_pos ⟨hn5, hg⟩], rfl⟩
      · simp -implicitDefEqProofs [go_sem, hdb, hab, h1, hpos, hrow, byRow]
        exact ⟨_, Sub.refl _, by rw [hw0, if_neg (fun h => hg h.2)], rfl⟩
set_option maxRecDepth 20000 in
set_option maxHeartbeats 1000000 in
theorem whole_no {h : Heap} {db ab cap : Nat} {d : Dec} (hd : DecIs h db ab cap d) (hl : d.bytes.length < 1000000000000) (hw : whoD d.bytes = none) :
    ICall Tryz.prog 98 [.ptr db 0] h (retP (.tup [.agg [.int .u8 0, .str ⟨#[]⟩], .bool false]) h) := by
  refine icall_of_iwp (fun _ => 0) Tryz.func98 rfl (by kernel_rfl) (Nat.le_of_ble_eq_true rfl) ?_
  rw [Tryz.results98]
  simp -implicitDefEqProofs [go_sem]
  refine (length_c hd hl).mono ?_
  rintro e h' ⟨rfl, he⟩
  rw [he]
  obtain ⟨c, hg, hdb⟩ := hd
  obtain ⟨bs, fed, over⟩ := d
  simp only at hg hdb hl hw ⊢
  have hlv := lenD_le bs
  by_cases h5 : bs.length < 5
  · have hd5 : decide (5 ≤ bs.length) = false := by simp; omega
    rw [hd5]
    simp -implicitDefEqProofs [go_sem, hdb]
    exact ⟨_, Sub.refl _, rfl, rfl⟩
  have hne : bs ≠ [] := by rintro rfl; simp at h5
  obtain ⟨rfl, hab, hcap⟩ := hg.some (by simpa using hne)
  simp only [List.length_map] at hcap hdb
  have hd5 : decide (5 ≤ bs.length) = true := by simp; omega
  rw [hd5]
  obtain ⟨N, hN⟩ : ∃ N, lenD bs = N := ⟨_, rfl⟩
  rw [hN] at hlv ⊢
  have hw5 := wrap_in (n := 5 + N) (by omega)
  simp -implicitDefEqProofs [go_sem, hdb, hab, hw5]
  refine cK_dec (fun hg => ?_) (fun hg => ?_)
  · simp -implicitDefEqProofs [go_sem, hdb]
    exact ⟨_, Sub.refl _, rfl, rfl⟩
  · rw [whoD, if_neg (by rw [hN]; rintro (h | h); exact h5 h; exact hg h)] at hw
    cases hw
theorem ffK_arr {st : St} {k cb b cap : Nat} {d : Option Tmp} {ty : TypeId} {cs : List IV} {rows : List (List IV)} {K : St → Prop} (hcb : st.h cb = some (.cells cs)) (hc : cs[k]? = some (.sl 1 b 0 rows.length cap)) (hb : st.h b = some (.arr ty 1 rows cap))
    (hK : ∀ H', H' cb = some (.cells (cs.set k (.list .plain rows))) → (∀ j, j ≠ cb → j ≠ b → H' j = st.h j) → K ((st.putH H').put d (.ptr cb 0))) : ffK k st (.ptr cb 0) d K := by
  rw [ffK_ptr, hcb, oK_some, hc, fcK_sl, hb, arK_some]
  refine ⟨⟨rfl, by simp⟩, ?_⟩
  rw [lK_eq]
  have e1 : (rows.drop 0).take rows.length = rows := by simp
  rw [e1]
  exact hK (upd (fun j => if j = b then none else st.h j) cb (some (.cells (cs.set k (.list .plain rows))))) (upd_same _ _ _) fun j h1 h2 => by rw [upd_ne _ _ h1, if_neg h2]
theorem bytesOf_drop (l : List UInt8) (n : Nat) : bytesOf ((l.map byRow).drop n) = some (l.drop n) := by rw [← List.map_drop, bytesOf_by]
set_option maxRecDepth 20000 in
set_option maxHeartbeats 1000000 in
theorem whole_yes {h : Heap} {db ab cap : Nat} {d : Dec} (hd : DecIs h db ab cap d) (hl : d.bytes.length < 1000000000000) {f : Fra} (hw : whoD d.bytes = some f) (hn : db ≠ ab) :
    ICall Tryz.prog 98 [.ptr db 0] h (fun e h' => e = .ret (.tup [.agg (frRow f), .bool true]) ∧ h' db = some (.cells [.list .plain (d.bytes.map byRow), .int .i64 d.fed, .bool d.over]) ∧ ∀ j, j ≠ db → j ≠ ab → h' j = h j) := by
  refine icall_of_iwp (fun d => if d = 14 then 100 else 0) Tryz.func98 rfl (by kernel_rfl) (Nat.le_of_ble_eq_true rfl) ?_
  rw [Tryz.results98]
  simp -implicitDefEqProofs [go_sem]
  refine (length_c hd hl).mono ?_
  rintro e h' ⟨rfl, he⟩
  rw [he]
  obtain ⟨c, hg, hdb⟩ := hd
  obtain ⟨bs, fed, over⟩ := d
  simp only at hg hdb hl hw ⊢
  have hlv := lenD_le bs
  by_cases h5 : bs.length < 5
  · rw [whoD, if_pos (.inl h5)] at hw; cases hw
  have hne : bs ≠ [] := by rintro rfl; simp at h5
  obtain ⟨rfl, hab, hcap⟩ := hg.some (by simpa using hne)
  simp only [List.length_map] at hcap hdb
  have hd5 : decide (5 ≤ bs.length) = true := by simp; omega
  rw [hd5]
  obtain ⟨N, hN⟩ : ∃ N, lenD bs = N := ⟨_, rfl⟩
  rw [hN] at hlv ⊢
  have hw5 := wrap_in (n := 5 + N) (by omega)
  by_cases hlt : (bs.length : Int) < 5 + N
  · rw [whoD, if_pos (.inr (by rw [hN]; exact hlt))] at hw; cases hw
  rw [whoD, if_neg (by rw [hN]; rintro (h | h); exact h5 h; exact hlt h)] at hw
  cases hw
  obtain ⟨x, r, rfl⟩ : ∃ x r, bs = x :: r := by cases bs with | nil => exact absurd rfl hne | cons x r => exact ⟨x, r, rfl⟩
  have hpos : 0 < (x :: r).length := by simp
  have hrow : ((x :: r).map byRow)[0]? = some (byRow x) := rfl
  obtain ⟨n, hnl⟩ : ∃ n, (x :: r).length = n := ⟨_, rfl⟩
  have hbd := bytesOf_drop (x :: r) 5
  simp -implicitDefEqProofs [go_sem, hw5]
  refine ffK_arr (b := ab) (cap := cap) (rows := (x :: r).map byRow) (cs := _) (by simp -implicitDefEqProofs [go_sem]; exact hdb) (by simp) (by simp -implicitDefEqProofs [go_sem]; exact hab) fun H hH hoff => ?_
  simp only [List.set_cons_zero] at hH
  simp -implicitDefEqProofs [go_sem] at hoff
  obtain ⟨rows, hrows⟩ : ∃ rows, (x :: r).map byRow = rows := ⟨_, rfl⟩
  have hlr : rows.length = (x :: r).length := by rw [← hrows]; simp
  rw [hrows] at hH hrow hbd
  have hlt2 : ¬ ((r.length : Int) + 1 < 5 + N) := by simpa using hlt
  have hlr2 : rows.length = r.length + 1 := hlr
  have hc1 : (5 : Int) ≤ (r.length : Int) + 1 := by simp at h5; omega
  have hu1 : ∀ x, x ∈ rows → x.length = 1 := by
    rw [← hrows]; intro y hy
    obtain ⟨z, _, rfl⟩ := List.mem_map.1 hy
    rfl
  have hu2 := eq_true hu1
  have hr0 : ∀ (h : 0 < rows.length), rows[0] = [.int .u8 x.toNat] := fun h => by
    have := List.getElem?_eq_getElem h
    rw [hrow] at this
    exact (Option.some.inj this).symm
  have htk : rows.take (r.length + 1) = rows := List.take_of_length_le (by omega)
  simp -implicitDefEqProofs [go_sem, hH, hlr, hw5, hlt2]
  refine iwp_drawn_of mixed [0, 1, 2, 3, 4, 5, 6, 7, 8, 9, 10, 11, 12, 13, 14] (by kernel_rfl) ?_
  simp -implicitDefEqProofs [go_sem, hH, hlr2, hrow, byRow, hc1, hu2, htk, hbd, hr0]
  exact ⟨H, Sub.refl _, rfl, by rw [hH, ← hrows]; rfl, fun j h1 h2 => hoff j h1 h2⟩
end Go.Proofs

set_option linter.unusedVariables false
set_option linter.unusedSimpArgs false
set_option pp.deepTerms false
set_option pp.maxSteps 500
namespace Go.Proofs
open Go.Idl

/-! clients come -/
theorem newDec_c (h : Heap) : ICall Tryz.prog 24 [] h (fun e h' => ∃ db, h db = none ∧ e = .ret (.ptr db 0) ∧ h' = upd h db (some (.cells [.list .tight [], .int .i64 0, .bool false]))) := by
  refine icall_of_iwp (fun d => if d = 2 then 1 else 0) Tryz.func24 rfl (by kernel_rfl) (Nat.le_of_ble_eq_true rfl) ?_
  rw [Tryz.results24]
  simp -implicitDefEqProofs [go_sem]
  intro b hb
  exact ⟨_, Sub.refl _, b, hb, rfl, rfl⟩
def attV (S : SV) (cb db : Nat) : SV := { S with last := S.last + 1, cls := S.cls ++ [⟨S.last, cb, db, 0, 0, -1, ⟨[], 0, false⟩⟩] }
def attR (k : Nat) (tag : Nat → Nat × Nat × Nat) (h : Heap) (sb : Nat) (S : SV) (e : IEnd) (h' : Heap) : Prop :=
  if 64 ≤ S.cls.length then e = .ret (.tup [.int .i64 0, .int .i64 8]) ∧ h' = h
  else e = .ret (.tup [.int .i64 S.last, .int .i64 0]) ∧ ∃ tag' cb db, SrvAt k tag' h' sb (attV S cb db) ∧ Frm3 k tag h tag' h'
theorem SrvAt.att {k tag h sb S} (hS : SrvAt k tag h sb S) {db cb : Nat} (hdb : h db = none) (hcb : h cb = none) (hne : cb ≠ db) :
    let h' := upd (upd (upd (upd h sb (some (.cells (attV S cb db).cells))) db (some (.cells [.list .tight [], .int .i64 0, .bool false]))) cb (some (.cells [.ptr db 0, .int .i64 (-1)]))) S.mc (some (.map (attV S cb db).clE))
    SrvAt k (upd (upd tag db (k + 3, 4, S.last.toNat)) cb (k + 3, 3, S.last.toNat)) h' sb (attV S cb db) ∧ Frm3 k tag h (upd (upd tag db (k + 3, 4, S.last.toNat)) cb (k + 3, 3, S.last.toNat)) h' := by
  intro h'
  have nn : ∀ j o, h j = some o → j ≠ db ∧ j ≠ cb := fun j o hj => ⟨(by rintro rfl; rw [hdb] at hj; cases hj), (by rintro rfl; rw [hcb] at hj; cases hj)⟩
  have nsb := nn _ _ hS.hs
  have nmc := nn _ _ hS.hmc
  have n1 : sb ≠ S.mc := by rintro e; have := hS.ts; rw [e, hS.tmc] at this; simp at this
  have keep : ∀ (j : Nat) (o : IObj), h j = some o → j ≠ sb → j ≠ S.mc → h' j = some o ∧ (upd (upd tag db (k + 3, 4, S.last.toNat)) cb (k + 3, 3, S.last.toNat)) j = tag j := fun j o hj j1 j2 => by
    obtain ⟨j3, j4⟩ := nn j o hj
    exact ⟨by show upd _ _ _ j = _; rw [upd_ne _ _ j2, upd_ne _ _ j4, upd_ne _ _ j3, upd_ne _ _ j1]; exact hj, by rw [upd_ne _ _ j4, upd_ne _ _ j3]⟩
  have hmcn : ∀ j o, h j = some o → (tag j).1 ≠ k + 3 → j ≠ sb ∧ j ≠ S.mc := fun j o hj ht => ⟨by rintro rfl; rw [hS.ts] at ht; exact ht rfl, by rintro rfl; rw [hS.tmc] at ht; exact ht rfl⟩
  have hcn : h' cb = some (.cells [.ptr db 0, .int .i64 (-1)]) := by show upd _ _ _ cb = _; rw [upd_ne _ _ (Ne.symm nmc.2), upd_same]
  have hdn : h' db = some (.cells [.list .tight [], .int .i64 0, .bool false]) := by show upd _ _ _ db = _; rw [upd_ne _ _ (Ne.symm nmc.1), upd_ne _ _ (Ne.symm hne), upd_same]
  refine ⟨hS.of (fun t => t = (k + 3, 0, 0) ∨ t = (k + 3, 1, 0)) (fun j o hj ht hT => keep j o hj (by rintro rfl; exact hT (.inl hS.ts)) (by rintro rfl; exact hT (.inr hS.tmc))) rfl rfl (.inr ⟨?_, ?_⟩) (.inr ⟨?_, ?_⟩) (.inl ⟨by simp, rfl⟩)
    (hS.hR.stay fun j o hj ht => keep j o hj (hmcn j o hj (by omega)).1 (hmcn j o hj (by omega)).2) (fun c hc => ?_) (fun r hr => .inl ⟨hr, by simp⟩), fun j o hj t1 t2 t3 => keep j o hj (hmcn j o hj t3).1 (hmcn j o hj t3).2⟩
  · show upd _ _ _ sb = _
    rw [upd_ne _ _ n1, upd_ne _ _ nsb.2, upd_ne _ _ nsb.1, upd_same]
  · rw [upd_ne _ _ nsb.2, upd_ne _ _ nsb.1]; exact hS.ts
  · exact upd_same _ _ _
  · rw [upd_ne _ _ nmc.2, upd_ne _ _ nmc.1]; exact hS.tmc
  · rcases List.mem_append.1 hc with hc | hc
    · exact .inl ⟨hc, by simp, by simp, by simp⟩
    · simp only [List.mem_singleton] at hc
      subst hc
      exact .inr ⟨⟨hcn, _, .inl ⟨rfl, rfl⟩, hdn⟩, upd_same _ _ _, by rw [upd_ne _ _ (Ne.symm hne), upd_same], fun h => absurd rfl h⟩
set_option maxRecDepth 20000 in
set_option maxHeartbeats 1000000 in
theorem attach_c {k tag h sb S} (hS : SrvAt k tag h sb S) (ho : S.ok) : ICall Tryz.prog 9 [.ptr sb 0] h (attR k tag h sb S) := by
  refine icall_of_iwp (fun d => if d = 12 then 11 else if d = 31 then 10 else if d = 33 then 1 else 0) Tryz.func9 rfl (by kernel_rfl) (Nat.le_of_ble_eq_true rfl) ?_
  rw [Tryz.results9]
  have h1 := hS.hs
  have h2 := hS.hmc
  have hl : S.clE.length = S.cls.length := by simp [SV.clE]
  simp -implicitDefEqProofs [go_sem, h1, h2, SV.cells, hl]
  refine cK_dec (fun g => ?_) (fun g => ?_)
  · have g' : 64 ≤ S.cls.length := by omega
    simp -implicitDefEqProofs [go_sem]
    exact ⟨_, Sub.refl _, by rw [attR, if_pos g']; exact ⟨rfl, rfl⟩⟩
  have g' : ¬ 64 ≤ S.cls.length := by omega
  have hw := wrap_in (n := S.last + 1) (by have := ho.l0; omega)
  have n1 : sb ≠ S.mc := by rintro e; have := hS.ts; rw [e, hS.tmc] at this; simp at this
  have hp : ∀ cb, iput (.int .i64) (.int .i64 S.last) (.ptr cb 0) S.clE = some (S.clE ++ [(.int .i64 S.last, .ptr cb 0)]) := fun cb => iput_k (·.id) (fun c : Cl => IV.ptr c.cb 0) S.last _ S.cls fun c hc => by have := ho.c0 c hc; omega
  have hce : ∀ cb db, (attV S cb db).clE = S.clE ++ [(.int .i64 S.last, .ptr cb 0)] := fun cb db => by simp [SV.clE, attV, encK]
  simp -implicitDefEqProofs [go_sem, h1, h2, SV.cells, hw]
  refine iwp_drawn_call mixed [0, 1, 2, 3, 4, 5, 6, 7, 8] (by kernel_rfl) (fun v st d x h => by cases d <;> exact h) ?_
  simp -implicitDefEqProofs [go_sem, h1, h2, SV.cells, hw, n1, n1.symm]
  refine (newDec_c _).mono ?_
  rintro e h' ⟨db, hdb, rfl, rfl⟩
  have hdb' := upd_none.1 hdb
  refine ⟨(Sub.refl _).upd hdb _, ?_⟩
  have nsb : sb ≠ db := by rintro rfl; exact hdb'.1 rfl
  have nmc : S.mc ≠ db := by rintro e; rw [← e, h2] at hdb'; cases hdb'.2
  simp -implicitDefEqProofs [go_sem, h1, h2, SV.cells, hw, n1, n1.symm, nsb, nmc]
  intro cb hcb
  have hcb1 := upd_none.1 (show upd (upd h sb (some (.cells [.ptr S.rb 0, .mapv S.mc, .mapv S.mr, .int .i64 (S.last + 1)]))) db (some (.cells [.list .tight [], .int .i64 0, .bool false])) cb = none by unfold upd; exact hcb)
  have hcb2 := upd_none.1 hcb1.2
  have nmcb : S.mc ≠ cb := by rintro e; rw [← e, h2] at hcb2; cases hcb2.2
  simp -implicitDefEqProofs [go_sem, nmcb, hp]
  refine ⟨_, Sub.refl _, ?_⟩
  rw [attR, if_neg g', ← hce cb db]
  exact ⟨rfl, _, cb, db, hS.att hdb'.2 hcb2.2 hcb1.1⟩
end Go.Proofs

set_option linter.unusedVariables false
set_option linter.unusedSimpArgs false
set_option pp.deepTerms false
set_option pp.maxSteps 500
namespace Go.Proofs
open Go.Idl

/-! a decoder is fed -/
def feedV (d : Dec) (b : UInt8) : Dec × Option Fra × Int :=
  let bs := d.bytes ++ [b]
  if wroD bs ≠ 0 then (⟨bs, IntKind.i64.wrap (d.fed + 1), true⟩, none, wroD bs)
  else match whoD bs with
    | some f => (⟨[], IntKind.i64.wrap (d.fed + 1), d.over⟩, some f, 0)
    | none => (⟨bs, IntKind.i64.wrap (d.fed + 1), d.over⟩, none, 0)
def frameB : ByteArray := ⟨#[102, 114, 97, 109, 101]⟩
/-- what a decoder's call turns -/
def decFr (h : Heap) (db ab : Nat) (d : Dec) (ab' : Nat) (d' : Dec) (h' : Heap) : Prop := (d'.bytes ≠ [] → (ab' = ab ∧ d.bytes ≠ []) ∨ h ab' = none) ∧ ∀ j o, h j = some o → j ≠ db → (d.bytes ≠ [] → j ≠ ab) → h' j = some o
def feedR (h : Heap) (db ab : Nat) (d : Dec) (b : UInt8) (e : IEnd) (h' : Heap) : Prop :=
  ∃ ab' cap', DecIs h' db ab' cap' (feedV d b).1 ∧ decFr h db ab d ab' (feedV d b).1 h' ∧
    (((feedV d b).2.2 = 0 ∧ e = .ret (.tup [.list .plain ((feedV d b).2.1.toList.map frRow), .niliface])) ∨
     ((feedV d b).2.2 ≠ 0 ∧ (feedV d b).2.1 = none ∧ ∃ v H1 a, e = .ret (.tup [.list .plain [], v]) ∧ faultAt H1 h' v (feedV d b).2.2 a [frameB] ∧ (∀ j o, h j = some o → ∃ o', H1 j = some o')))
set_option maxRecDepth 20000 in
set_option maxHeartbeats 1000000 in
theorem feed_c {h : Heap} {db ab cap : Nat} {d : Dec} (b : UInt8) (hd : DecIs h db ab cap d) (hl : d.bytes.length < 100000000000) :
    ICall Tryz.prog 60 [.ptr db 0, .int .u8 b.toNat] h (feedR h db ab d b) := by
  refine icall_of_iwp (fun d => if d = 17 then 2 else 0) Tryz.func60 rfl (by kernel_rfl) (Nat.le_of_ble_eq_true rfl) ?_
  rw [Tryz.results60]
  obtain ⟨c, hg, hdb⟩ := hd
  simp -implicitDefEqProofs [go_sem, hdb]
  refine abK_grow hg elT_74 elZ_5 (by simp [roomy, byT_5]; omega) (bys_uni _) rfl (by simp) fun ab' cap' hab hcap => ?_
  have hab0 : (ab' = ab ∧ d.bytes ≠ []) ∨ h ab' = none := by
    rcases hab with ⟨g1, g2⟩ | g
    · exact .inl ⟨g1, by simpa using g2⟩
    · exact .inr (by simpa -implicitDefEqProofs [go_sem] using g)
  have nd : db ≠ ab' := by
    rintro rfl
    rcases hab0 with ⟨g1, g2⟩ | g
    · have := (hg.some (by simpa using g2)).2.1
      subst g1
      rw [hdb] at this; cases this
    · rw [hdb] at g; cases g
  obtain ⟨fd, hfd⟩ : ∃ fd, IntKind.i64.wrap (d.fed + 1) = fd := ⟨_, rfl⟩
  obtain ⟨bs, hbs⟩ : ∃ bs, d.bytes ++ [b] = bs := ⟨_, rfl⟩
  have hrows : d.bytes.map byRow ++ [[.int .u8 b.toNat]] = bs.map byRow := by rw [← hbs, List.map_append]; rfl
  have hlen : (d.bytes.map byRow).length + 1 = bs.length := by rw [← hbs]; simp
  have hlb : bs.length < 1000000000000 := by rw [← hbs]; simp; omega
  have hbne : bs ≠ [] := by rw [← hbs]; simp
  have hD : ∀ (H : Heap) (o : Bool), H db = some (.cells [.sl 1 ab' 0 bs.length cap', .int .i64 fd, .bool o]) → H ab' = some (.arr 5 1 (bs.map byRow) cap') → DecIs H db ab' cap' ⟨bs, fd, o⟩ := fun H o h1 h2 =>
    ⟨_, .inr ⟨by simpa using hbne, by simp, h2, by rw [List.length_map, ← hlen]; exact hcap⟩, h1⟩
  have hcap2 : bs.length ≤ cap' := by rw [← hlen]; exact hcap
  simp only [List.length_map] at hlen
  simp -implicitDefEqProofs [go_sem, nd, nd.symm, hdb, hfd, hrows, hlen]
  have hHd : upd (upd h ab' (some (.arr 5 1 (bs.map byRow) cap'))) db (some (.cells [.sl 1 ab' 0 bs.length cap', .int .i64 fd, .bool d.over])) db = some (.cells [.sl 1 ab' 0 bs.length cap', .int .i64 fd, .bool d.over]) := upd_same _ _ _
  have hHa : upd (upd h ab' (some (.arr 5 1 (bs.map byRow) cap'))) db (some (.cells [.sl 1 ab' 0 bs.length cap', .int .i64 fd, .bool d.over])) ab' = some (.arr 5 1 (bs.map byRow) cap') := by rw [upd_ne _ _ nd.symm, upd_same]
  have hHo : ∀ j, j ≠ db → j ≠ ab' → upd (upd h ab' (some (.arr 5 1 (bs.map byRow) cap'))) db (some (.cells [.sl 1 ab' 0 bs.length cap', .int .i64 fd, .bool d.over])) j = h j := fun j j1 j2 => by rw [upd_ne _ _ j1, upd_ne _ _ j2]
  generalize upd (upd h ab' (some (.arr 5 1 (bs.map byRow) cap'))) db (some (.cells [.sl 1 ab' 0 bs.length cap', .int .i64 fd, .bool d.over])) = H at *
  have hDH := hD H d.over hHd hHa
  have hfr : ∀ H' : Heap, (∀ j, j ≠ db → j ≠ ab' → ∀ o, H j = some o → H' j = some o) → decFr h db ab d ab' (feedV d b).1 H' := fun H' hk => ⟨fun _ => hab0, fun j o hj j1 j2 => by
    have j3 : j ≠ ab' := by
      rintro rfl
      rcases hab0 with ⟨g1, g2⟩ | g
      · exact j2 g2 g1
      · rw [g] at hj; cases hj
    exact hk j j1 j3 o (by rw [hHo j j1 j3]; exact hj)⟩
  refine (wrong_c hDH hlb).mono ?_
  rintro e h' ⟨rfl, he⟩
  rw [he]
  clear he h'
  by_cases hwr : wroD bs = 0
  · simp -implicitDefEqProofs [go_sem, hwr]
    cases hwh : whoD bs with
    | none =>
      refine (whole_no hDH hlb hwh).mono ?_
      rintro e h' ⟨rfl, he⟩
      rw [he]
      simp -implicitDefEqProofs [go_sem]
      have hv : feedV d b = (⟨bs, fd, d.over⟩, none, 0) := by simp only [feedV, hbs, hfd, hwr, hwh]; rfl
      refine ⟨_, Sub.refl _, ab', cap', ?_, hfr H fun j _ _ o ho => ho, .inl ⟨?_, ?_⟩⟩
      · rw [hv]; exact hDH
      · rw [hv]
      · rw [hv]; rfl
    | some f =>
      refine (whole_yes hDH hlb hwh nd).mono ?_
      rintro e h' ⟨rfl, hdb', hoff⟩
      simp -implicitDefEqProofs [go_sem, hdb', frRow]
      have hv : feedV d b = (⟨[], fd, d.over⟩, some f, 0) := by simp only [feedV, hbs, hfd, hwr, hwh]; rfl
      refine ⟨_, Sub.refl _, ab', cap', ?_, hfr _ fun j j1 j2 o ho => by rw [upd_ne _ _ j1, hoff j j1 j2]; exact ho, .inl ⟨?_, ?_⟩⟩
      · rw [hv]; exact ⟨_, .inl ⟨rfl, rfl⟩, upd_same _ _ _⟩
      · rw [hv]
      · rw [hv]; rfl
  · have hwb : (wroD bs != 0) = true := by simpa using hwr
    simp -implicitDefEqProofs [go_sem, hwb, hHd]
    have hv : feedV d b = (⟨bs, fd, true⟩, none, wroD bs) := by simp only [feedV, hbs, hfd]; rw [if_pos hwr]
    obtain ⟨H1, hH1⟩ : ∃ H1, upd H db (some (IObj.cells [.sl 1 ab' 0 bs.length cap', .int .i64 fd, .bool true])) = H1 := ⟨_, rfl⟩
    rw [hH1]
    have hD1 : DecIs H1 db ab' cap' ⟨bs, fd, true⟩ := hD H1 true (by rw [← hH1, upd_same]) (by rw [← hH1, upd_ne _ _ nd.symm]; exact hHa)
    have hk1 : ∀ j, j ≠ db → j ≠ ab' → ∀ o, H j = some o → H1 j = some o := fun j j1 j2 o ho => by rw [← hH1, upd_ne _ _ j1]; exact ho
    refine (newF_c (wroD bs) _ _ hwr).mono ?_
    rintro e h1 ⟨fb, hfb, rfl, he1⟩
    simp -implicitDefEqProofs [go_sem]
    refine (inF_c fb [frameB] h1 (by simp) (by simp)).mono ?_
    rintro e h2 ⟨bb, hbb, rfl, he2⟩
    simp -implicitDefEqProofs [go_sem]
    have hfa := fault_two hfb he1 hbb he2
    have hs : Sub H1 h2 := by obtain ⟨_, _, _, _, _, _, _, hs⟩ := hfa; exact hs
    refine ⟨_, Sub.refl _, ab', cap', ?_, hfr _ fun j j1 j2 o ho => hs _ _ (hk1 j j1 j2 o ho), .inr ⟨?_, ?_, _, H1, IntKind.i64.wrap (fd - 1), rfl, ?_, fun j o hj => ?_⟩⟩
    · rw [hv]
      obtain ⟨c9, g1, g2⟩ := hD1
      have g3 := g1.some (by simpa using hbne)
      exact ⟨c9, g1.keep fun _ => by rw [g3.2.1]; exact hs _ _ g3.2.1, hs _ _ g2⟩
    · rw [hv]; exact hwr
    · rw [hv]
    · rw [hv]; exact hfa
    · by_cases j1 : j = db
      · subst j1; obtain ⟨c9, _, g2⟩ := hD1; exact ⟨_, g2⟩
      by_cases j2 : j = ab'
      · subst j2; exact ⟨_, by rw [← hH1, upd_ne _ _ nd.symm]; exact hHa⟩
      · exact ⟨o, hk1 j j1 j2 o (by rw [hHo j j1 j2]; exact hj)⟩
end Go.Proofs

set_option linter.unusedVariables false
set_option linter.unusedSimpArgs false
set_option pp.deepTerms false
set_option pp.maxSteps 500
namespace Go.Proofs
open Go.Idl

/-! a server turns -/
theorem SV.ok.apart {S : SV} (ho : S.ok) {i j : Nat} {c c2 : Cl} (hi : S.cls[i]? = some c) (hj : S.cls[j]? = some c2) (hne : j ≠ i) : c2.id.toNat ≠ c.id.toNat := by
  have h0 := ho.c0 c (List.mem_of_getElem? hi)
  have h1 := ho.c0 c2 (List.mem_of_getElem? hj)
  have : c2.id ≠ c.id := fun e => by
    have hnd := ho.nd
    have hi' : (S.cls.map (·.id))[i]? = some c.id := by rw [List.getElem?_map, hi]; rfl
    have hj' : (S.cls.map (·.id))[j]? = some c.id := by rw [List.getElem?_map, hj, ← e]; rfl
    exact hne ((List.getElem?_inj (List.getElem?_eq_some_iff.1 hj').1 hnd).1 (hj'.trans hi'.symm))
  omega
/-- one client turns -/
theorem SrvAt.setC {k tag h sb S} (hS : SrvAt k tag h sb S) (ho : S.ok) {i : Nat} {c c' : Cl} (hi : S.cls[i]? = some c) (e1 : c'.id = c.id) (e2 : c'.cb = c.cb) {tag' : Nat → Nat × Nat × Nat} {h' : Heap} (his : c'.is h')
    (t1 : tag' c'.cb = (k + 3, 3, c.id.toNat)) (t2 : tag' c'.db = (k + 3, 4, c.id.toNat)) (t3 : c'.d.bytes ≠ [] → tag' c'.ab = (k + 3, 5, c.id.toNat))
    (keep : ∀ j o, h j = some o → tag j ≠ (k + 3, 3, c.id.toNat) → tag j ≠ (k + 3, 4, c.id.toNat) → tag j ≠ (k + 3, 5, c.id.toNat) → h' j = some o ∧ tag' j = tag j) :
    SrvAt k tag' h' sb { S with cls := S.cls.set i c' } ∧ Frm3 k tag h tag' h' := by
  have off : ∀ j, (tag j).1 ≠ k + 3 → tag j ≠ (k + 3, 3, c.id.toNat) ∧ tag j ≠ (k + 3, 4, c.id.toNat) ∧ tag j ≠ (k + 3, 5, c.id.toNat) := fun j hj => ⟨fun e => hj (by rw [e]), fun e => hj (by rw [e]), fun e => hj (by rw [e])⟩
  have hE : SV.clE { S with cls := S.cls.set i c' } = S.clE := by
    show (S.cls.set i c').map _ = S.cls.map _
    apply List.ext_getElem?
    intro j
    rw [List.getElem?_map, List.getElem?_map, List.getElem?_set]
    split
    · rename_i e; subst e
      rw [if_pos (List.getElem?_eq_some_iff.1 hi).1, hi, Option.map_some, Option.map_some]
      simp [encK, e1, e2]
    · rfl
  refine ⟨hS.of (fun t => t = (k + 3, 3, c.id.toNat) ∨ t = (k + 3, 4, c.id.toNat) ∨ t = (k + 3, 5, c.id.toNat)) (fun j o hj ht hT => keep j o hj (fun e => hT (.inl e)) (fun e => hT (.inr (.inl e))) (fun e => hT (.inr (.inr e)))) rfl rfl
    (.inl ⟨by simp, rfl⟩) (.inl ⟨by simp, hE⟩) (.inl ⟨by simp, rfl⟩) (hS.hR.stay fun j o hj ht => ?_) (fun c2 hc2 => ?_) (fun r hr => .inl ⟨hr, by simp⟩), fun j o hj _ _ h3 => ?_⟩
  · obtain ⟨o1, o2, o3⟩ := off j (by omega)
    exact keep j o hj o1 o2 o3
  · obtain ⟨j, hj⟩ := List.getElem?_of_mem hc2
    rw [List.getElem?_set] at hj
    split at hj
    · rename_i e; subst e
      rw [if_pos (List.getElem?_eq_some_iff.1 hi).1] at hj
      cases hj
      exact .inr ⟨his, by rw [e1]; exact t1, by rw [e1]; exact t2, fun hn => by rw [e1]; exact t3 hn⟩
    · rename_i e
      have := ho.apart hi hj (Ne.symm e)
      exact .inl ⟨List.mem_of_getElem? hj, by simp [this], by simp [this], by simp [this]⟩
  · obtain ⟨o1, o2, o3⟩ := off j h3
    exact keep j o hj o1 o2 o3
/-- a client's decoder was fed -/
theorem SrvAt.fed {k tag h sb S} (hS : SrvAt k tag h sb S) (ho : S.ok) {i : Nat} {c : Cl} (hi : S.cls[i]? = some c) {h' : Heap} {ab' cap' : Nat} {d' : Dec} (hd : DecIs h' c.db ab' cap' d') (hF : decFr h c.db c.ab c.d ab' d' h') :
    ∃ tag', SrvAt k tag' h' sb { S with cls := S.cls.set i { c with ab := ab', cap := cap', d := d' } } ∧ Frm3 k tag h tag' h' := by
  obtain ⟨⟨q1, q2⟩, t1, t2, t3⟩ := hS.hc c (List.mem_of_getElem? hi)
  obtain ⟨f1, f2⟩ := hF
  obtain ⟨cc, q3, q4⟩ := q2
  have ncd : c.cb ≠ c.db := by rintro e; rw [e, t2] at t1; simp at t1
  have q1' : h' c.cb = some (.cells [.ptr c.db 0, .int .i64 c.seat]) := f2 _ _ q1 ncd (fun hn e => by have := t3 hn; rw [← e, t1] at this; simp at this)
  have kp : ∀ j o, h j = some o → tag j ≠ (k + 3, 3, c.id.toNat) → tag j ≠ (k + 3, 4, c.id.toNat) → tag j ≠ (k + 3, 5, c.id.toNat) → h' j = some o := fun j o hj a1 a2 a3 => f2 j o hj (by rintro rfl; exact a2 t2) (fun hn e => a3 (e ▸ t3 hn))
  by_cases hn' : d'.bytes = []
  · exact ⟨tag, hS.setC ho hi (c' := { c with ab := ab', cap := cap', d := d' }) rfl rfl ⟨q1', hd⟩ t1 t2 (fun h => absurd hn' h) fun j o hj a1 a2 a3 => ⟨kp j o hj a1 a2 a3, rfl⟩⟩
  have nab : ∀ j o, h j = some o → tag j ≠ (k + 3, 5, c.id.toNat) → j ≠ ab' := by
    rintro j o hj ht rfl
    rcases f1 hn' with ⟨g1, g2⟩ | g
    · rw [g1] at ht; exact ht (t3 g2)
    · rw [g] at hj; cases hj
  have nc := nab _ _ q1 (by rw [t1]; simp)
  have nd := nab _ _ q4 (by rw [t2]; simp)
  refine ⟨upd tag ab' (k + 3, 5, c.id.toNat), hS.setC ho hi (c' := { c with ab := ab', cap := cap', d := d' }) rfl rfl ⟨q1', hd⟩ (by rw [upd_ne _ _ nc]; exact t1) (by rw [upd_ne _ _ nd]; exact t2) (fun _ => upd_same _ _ _) fun j o hj a1 a2 a3 => ?_⟩
  exact ⟨kp j o hj a1 a2 a3, upd_ne _ _ (nab j o hj a3)⟩
/-- a client's seat -/
theorem SrvAt.seat {k tag h sb S} (hS : SrvAt k tag h sb S) (ho : S.ok) {i : Nat} {c : Cl} (hi : S.cls[i]? = some c) (s : Int) :
    SrvAt k tag (upd h c.cb (some (.cells [.ptr c.db 0, .int .i64 s]))) sb { S with cls := S.cls.set i { c with seat := s } } ∧ Frm3 k tag h tag (upd h c.cb (some (.cells [.ptr c.db 0, .int .i64 s]))) := by
  obtain ⟨⟨q1, q2⟩, t1, t2, t3⟩ := hS.hc c (List.mem_of_getElem? hi)
  have ncd : c.db ≠ c.cb := by rintro e; rw [← e, t2] at t1; simp at t1
  refine hS.setC ho hi (c' := { c with seat := s }) rfl rfl ⟨upd_same _ _ _, q2.keep (upd_ne _ _ ncd) fun hn => upd_ne _ _ ?_⟩ t1 t2 t3 fun j o hj a1 _ _ => ⟨by rw [upd_ne _ _ (by rintro rfl; exact a1 t1)]; exact hj, rfl⟩
  rintro e
  have := t3 hn
  rw [e, t1] at this; simp at this
end Go.Proofs

set_option linter.unusedVariables false
set_option linter.unusedSimpArgs false
set_option pp.deepTerms false
set_option pp.maxSteps 500
namespace Go.Proofs
open Go.Idl

/-! parts of bytes as one -/
def growBR (n : Nat) (h : Heap) (e : IEnd) (h' : Heap) : Prop := ∃ b cap, h b = none ∧ n ≤ cap ∧ e = .ret (.sl 1 b 0 0 cap) ∧ h' = upd h b (some (.arr 5 1 [] cap))
set_option maxRecDepth 20000 in
theorem growB_c (n : Nat) (h : Heap) (h0 : 0 < n) (hn : n < 100000000000) : ICall Tryz.prog 96 [.list .tight [], .int .i64 n] h (growBR n h) := by
  refine icall_of_iwp (fun d => if d = 22 then 6 else 0) Tryz.func96 rfl (by kernel_rfl) (Nat.le_of_ble_eq_true rfl) ?_
  rw [Tryz.results96]
  have hw : IntKind.i64.wrap (n : Int) = n := wrap_in (by omega)
  have hw0 : IntKind.i64.wrap (0 : Int) = 0 := wrap_in (by omega)
  have h1 : ¬ ((n : Int) < 0) := by omega
  have h2 : (0 : Int) < n := by omega
  simp -implicitDefEqProofs [go_sem, h1, hw, hw0, h0]
  refine ⟨by simp [roomy, byT_5]; omega, ?_⟩
  intro b cap hb hcap
  have hc : 0 < cap := by omega
  simp -implicitDefEqProofs [go_sem, hc]
  exact ⟨_, Sub.refl _, b, cap, hb, hcap, rfl, rfl⟩

def brow (l : List UInt8) : List IV := [.list .plain (l.map byRow)]
@[go_sem] theorem brow_len (l : List UInt8) : (brow l).length = 1 := rfl
@[go_sem high] theorem brow_take (l : List UInt8) : (brow l).take 1 = [.list .plain (l.map byRow)] := rfl
@[go_sem high] theorem brows_uni (l : List (List UInt8)) : uni 1 (l.map brow) = true := by simp [uni, brow]

set_option maxRecDepth 20000 in
set_option maxHeartbeats 4000000 in
theorem concatB_c (l : List (List UInt8)) (out : List UInt8) (hout : l.flatten = out) (h : Heap) (hl : l.length < 1000000) (h0 : 0 < out.length) (hn : out.length < 100000000000) :
    ICall Tryz.prog 59 [.list .plain (l.map brow)] h (retP (.list .plain (out.map byRow)) h) := by
  suffices H : ICall Tryz.prog 59 [.list .plain (l.map brow)] h (fun e h' => ∃ b cap, h b = none ∧ e = .ret (.sl 1 b 0 out.length cap) ∧ h' = upd h b (some (.arr 5 1 (out.map byRow) cap))) by
    refine H.fz ?_
    rintro e h' ⟨b, cap, hb, rfl, rfl⟩
    refine .inr ⟨_, b, 5, 1, out.map byRow, cap, rfl, by simp [upd], ?_, ?_⟩
    · simp only [fz3, fz2, fz1]
      rw [if_pos ⟨trivial, trivial, by simp⟩, List.drop_zero, List.take_of_length_le (by simp)]
    · funext j
      simp only [dropH, upd]
      split
      · rename_i e; rw [e, hb]
      · rfl
  have hfl : ∀ i, (l.take i).flatten.length ≤ out.length := fun i => by
    rw [← hout]
    have := congrArg List.length (congrArg List.flatten (List.take_append_drop i l))
    rw [List.flatten_append, List.length_append] at this; omega
  have hfs : ∀ i (hi : i < l.length), (l.take (i + 1)).flatten = (l.take i).flatten ++ l[i] := fun i hi => by
    rw [List.take_add_one, List.getElem?_eq_getElem hi, List.flatten_append]; simp
  refine icall_of_iwp (fun d => if d = 24 then 5 else if d = 33 then 2 else 0) Tryz.func59 rfl (by kernel_rfl) (Nat.le_of_ble_eq_true rfl) ?_
  rw [Tryz.results59]
  simp -implicitDefEqProofs [go_sem]
  refine iwp_loopF (rng [3,5] 11 22) nom (fun s => ∃ i n : Nat, i ≤ l.length ∧ s.t 11 = .int .i64 i ∧ s.t 3 = .int .i64 n ∧ n = (l.take i).flatten.length ∧ s.h = h) (fun s => l.length - tn (s.t 11)) ?_ ?_
  · exact ⟨0, 0, Nat.zero_le _, by simp -implicitDefEqProofs [go_sem], by simp -implicitDefEqProofs [go_sem], by simp, by simp -implicitDefEqProofs [go_sem]⟩
  rintro J s hJ hf ⟨i, n, hi, h11, h3, hn2, hh⟩
  simp -implicitDefEqProofs [go_sem, h11, h3, hh, hf.t, hf.m]
  refine cK_dec (fun hlt => ?_) (fun hge => ?_)
  · have hg : l[i]? = some l[i] := List.getElem?_eq_getElem hlt
    have hw := wrap_succ (i := i) (by omega)
    have h5 := hfs i hlt
    have h6 := hfl (i + 1)
    rw [h5, List.length_append] at h6
    obtain ⟨m, hm⟩ : ∃ m, m = n + l[i].length := ⟨_, rfl⟩
    have hw2 : IntKind.i64.wrap ((n : Int) + (l[i].length : Int)) = (m : Int) := by rw [wrap_in (by omega)]; omega
    have hneg : ¬ ((m : Int) < 0) := by omega
    simp -implicitDefEqProofs [go_sem, h11, h3, hh, hf.t, hf.m, hf, hlt, hg, hw, hw2, hneg]
    exact hJ _ ⟨i + 1, m, by omega, by simp -implicitDefEqProofs [go_sem, hw], by simp -implicitDefEqProofs [go_sem], by rw [h5, List.length_append]; omega, by simp -implicitDefEqProofs [go_sem, hh]⟩ (by simp [go_sem, h11, hw]; omega)
  · obtain rfl : i = l.length := by omega
    rw [List.take_length, hout] at hn2
    simp -implicitDefEqProofs [go_sem, h11, h3, hh, hf.t, hf.m]
    refine (growB_c n h (by omega) (by omega)).mono ?_
    rintro e h' ⟨b, cap, hb, hcap, rfl, he⟩
    rw [he]
    simp -implicitDefEqProofs [go_sem, h11, h3, hh, hf.t, hf.m]
    clear hJ J
    refine iwp_loopF (rng [6,8] 27 34) nom (fun s => ∃ i n : Nat, i ≤ l.length ∧ s.t 27 = .int .i64 i ∧ s.t 6 = .sl 1 b 0 n cap ∧ n = (l.take i).flatten.length ∧ s.h = upd h b (some (.arr 5 1 ((l.take i).flatten.map byRow) cap))) (fun s => l.length - tn (s.t 27)) ?_ ?_
    · exact ⟨0, 0, Nat.zero_le _, by simp -implicitDefEqProofs [go_sem], by simp -implicitDefEqProofs [go_sem], by simp, by simp -implicitDefEqProofs [go_sem]⟩
    rintro J s2 hJ hf2 ⟨i, k, hi, h27, h6, hk2, hh2⟩
    obtain ⟨rowsI, hrowsI⟩ : ∃ r, r = (l.take i).flatten.map byRow := ⟨_, rfl⟩
    rw [← hrowsI] at hh2
    have hrl : rowsI.length = k := by rw [hrowsI, hk2, List.length_map]
    simp -implicitDefEqProofs [go_sem, h27, h6, hf2.t, hf2.m, hf.t, hf.m]
    refine cK_dec (fun hlt => ?_) (fun hge => ?_)
    · have hg : l[i]? = some l[i] := List.getElem?_eq_getElem hlt
      have hw := wrap_succ (i := i) (by omega)
      have h5 := hfs i hlt
      have h8 := hfl (i + 1)
      rw [h5, List.length_append] at h8
      simp -implicitDefEqProofs [go_sem, h27, h6, hh2, hf2.t, hf2.m, hf.t, hf.m, hlt, hg]
      refine ⟨⟨by omega, by simp [roomy, byT_5]; omega, fun _ _ => rfl⟩, fun hfit => ⟨by simp -implicitDefEqProofs [go_sem, hf2], ?_⟩, fun hno => by omega⟩
      refine hJ _ ⟨i + 1, k + l[i].length, by omega, by simp -implicitDefEqProofs [go_sem, hw], by simp -implicitDefEqProofs [go_sem], by rw [h5, List.length_append]; omega, ?_⟩ (by simp [go_sem, h27, hw]; omega)
      rw [h5, List.map_append, ← hrowsI]
      funext j
      simp -implicitDefEqProofs [go_sem, hh2]
      split <;> rfl
    · obtain rfl : i = l.length := by omega
      rw [List.take_length, hout] at hrowsI hk2
      simp -implicitDefEqProofs [go_sem, h27, h6, hh2, hf2.t, hf2.m, hf.t, hf.m]
      have hkl : k = out.length := by rw [hk2]
      refine ⟨_, Sub.refl _, b, hb, cap, ⟨rfl, hkl, rfl⟩, by rw [hrowsI]⟩

theorem growB0_c (h : Heap) : ICall Tryz.prog 96 [.list .tight [], .int .i64 0] h (retP (.list .plain []) h) := by
  refine icall_of_iwp (fun d => 0) Tryz.func96 rfl (by kernel_rfl) (Nat.le_of_ble_eq_true rfl) ?_
  rw [Tryz.results96]
  have hw0 : IntKind.i64.wrap (0 : Int) = 0 := wrap_in (by omega)
  simp -implicitDefEqProofs [go_sem, hw0]
  exact ⟨_, Sub.refl _, rfl, rfl⟩
set_option maxRecDepth 20000 in
set_option maxHeartbeats 4000000 in
theorem concatB0_c (l : List (List UInt8)) (hout : l.flatten = []) (h : Heap) (hl : l.length < 1000000) :
    ICall Tryz.prog 59 [.list .plain (l.map brow)] h (retP (.list .plain []) h) := by
  have hz : ∀ i (hi : i < l.length), l[i] = [] := fun i hi => by
    have := List.flatten_eq_nil_iff.1 hout l[i] (List.getElem_mem hi)
    exact this
  refine icall_of_iwp (fun d => if d = 24 then 5 else 0) Tryz.func59 rfl (by kernel_rfl) (Nat.le_of_ble_eq_true rfl) ?_
  rw [Tryz.results59]
  simp -implicitDefEqProofs [go_sem]
  refine iwp_loopF (rng [3,5] 11 22) nom (fun s => ∃ i : Nat, i ≤ l.length ∧ s.t 11 = .int .i64 i ∧ s.t 3 = .int .i64 0 ∧ s.h = h) (fun s => l.length - tn (s.t 11)) ?_ ?_
  · exact ⟨0, Nat.zero_le _, by simp -implicitDefEqProofs [go_sem], by simp -implicitDefEqProofs [go_sem], by simp -implicitDefEqProofs [go_sem]⟩
  rintro J s hJ hf ⟨i, hi, h11, h3, hh⟩
  simp -implicitDefEqProofs [go_sem, h11, h3, hh, hf.t, hf.m]
  refine cK_dec (fun hlt => ?_) (fun hge => ?_)
  · have hg : l[i]? = some l[i] := List.getElem?_eq_getElem hlt
    have hw := wrap_succ (i := i) (by omega)
    have h5 := hz i hlt
    rw [h5] at hg
    have hw0 : IntKind.i64.wrap (0 : Int) = 0 := wrap_in (by omega)
    simp -implicitDefEqProofs [go_sem, h11, h3, hh, hf.t, hf.m, hf, hlt, hg, hw, hw0, h5]
    exact hJ _ ⟨i + 1, by omega, by simp -implicitDefEqProofs [go_sem, hw], by simp -implicitDefEqProofs [go_sem], by simp -implicitDefEqProofs [go_sem, hh]⟩ (by simp [go_sem, h11, hw]; omega)
  · simp -implicitDefEqProofs [go_sem, h11, h3, hh, hf.t, hf.m]
    refine (growB0_c h).mono ?_
    rintro e h' ⟨rfl, he⟩
    rw [he]
    simp -implicitDefEqProofs [go_sem, h11, h3, hh, hf.t, hf.m]
    clear hJ J
    refine iwp_loopF (rng [6,8] 27 34) nom (fun s => ∃ i : Nat, i ≤ l.length ∧ s.t 27 = .int .i64 i ∧ s.t 6 = .list .plain [] ∧ s.h = h) (fun s => l.length - tn (s.t 27)) ?_ ?_
    · exact ⟨0, Nat.zero_le _, by simp -implicitDefEqProofs [go_sem], by simp -implicitDefEqProofs [go_sem], by simp -implicitDefEqProofs [go_sem]⟩
    rintro J s2 hJ hf2 ⟨i, hi, h27, h6, hh2⟩
    simp -implicitDefEqProofs [go_sem, h27, h6, hf2.t, hf2.m, hf.t, hf.m]
    refine cK_dec (fun hlt => ?_) (fun hge => ?_)
    · have hg : l[i]? = some l[i] := List.getElem?_eq_getElem hlt
      have hw := wrap_succ (i := i) (by omega)
      have h5 := hz i hlt
      rw [h5] at hg
      simp -implicitDefEqProofs [go_sem, h27, h6, hh2, hf2.t, hf2.m, hf.t, hf.m, hlt, hg, hf2, h5, iapp, elT_74, elZ_5, aK]
      exact hJ _ ⟨i + 1, by omega, by simp -implicitDefEqProofs [go_sem, hw], by simp -implicitDefEqProofs [go_sem], by simp -implicitDefEqProofs [go_sem, hh2]⟩ (by simp [go_sem, h27, hw]; omega)
    · simp -implicitDefEqProofs [go_sem, h27, h6, hh2, hf2.t, hf2.m, hf.t, hf.m]
      exact ⟨_, Sub.refl _, rfl, rfl⟩
theorem concatBs_c (l : List (List UInt8)) (h : Heap) (hl : l.length < 1000000) (hn : l.flatten.length < 100000000000) :
    ICall Tryz.prog 59 [.list .plain (l.map brow)] h (retP (.list .plain (l.flatten.map byRow)) h) := by
  by_cases h0 : l.flatten = []
  · rw [h0]; exact concatB0_c l h0 h hl
  · exact concatB_c l _ rfl h hl (List.length_pos_iff.2 h0) hn
end Go.Proofs
