/- This text is a part of the proofs of the statements of this seat: the ideal states and their rules, or what one of the functions that the statements reach comes to. Conditions: none beyond those that each theorem names. -/
import Derived.Test.YtejjnaibgimiaaaGreatDoorT8
import Derived.Test.YtejjnaibgimiaaaGreatDoorT6
import Derived.Test.YtejjnaibgimiaaaGreatDoorT2
import Derived.Test.YtejjnaibgimiaaaGreatDoorCards
import Derived.Test.YtejjnaibgimiaaaGreatDoorTie
import Derived.JoinedOf
import Derived.ChangeMaps5
import Derived.SevenTiedAt
import Derived.Lay
import Derived.LaidHandle
import Derived.LaidSub
import Derived.Handed
set_option linter.unusedVariables false
set_option linter.unusedSimpArgs false
set_option pp.deepTerms false
set_option pp.maxSteps 500
namespace Go.Proofs
open Go.Idl

/-! a decoder is fed many bytes -/
def feedL : Dec → List UInt8 → Dec × List Fra × Int
  | d, [] => (d, [], 0)
  | d, b :: r => if (feedV d b).2.2 ≠ 0 then ((feedV d b).1, [], (feedV d b).2.2)
    else ((feedL (feedV d b).1 r).1, (feedV d b).2.1.toList ++ (feedL (feedV d b).1 r).2.1, (feedL (feedV d b).1 r).2.2)
theorem feedL_snoc : ∀ (l : List UInt8) (d : Dec) (b : UInt8), (feedL d l).2.2 = 0 → feedL d (l ++ [b]) = if (feedV (feedL d l).1 b).2.2 ≠ 0 then ((feedV (feedL d l).1 b).1, (feedL d l).2.1, (feedV (feedL d l).1 b).2.2)
    else ((feedV (feedL d l).1 b).1, (feedL d l).2.1 ++ (feedV (feedL d l).1 b).2.1.toList, 0)
  | [], d, b, _ => by by_cases hx : (feedV d b).2.2 = 0 <;> simp [feedL, hx]
  | x :: l, d, b, h => by
    rw [feedL] at h
    by_cases hx : (feedV d x).2.2 ≠ 0
    · rw [if_pos hx] at h; exact absurd h hx
    · rw [if_neg hx] at h
      have ih := feedL_snoc l (feedV d x).1 b h
      rw [List.cons_append, feedL, if_neg hx, ih, feedL, if_neg hx]
      split <;> simp [*]
theorem feedL_over : ∀ (l r : List UInt8) (d : Dec), (feedL d l).2.2 ≠ 0 → feedL d (l ++ r) = feedL d l
  | [], r, d, h => by simp [feedL] at h
  | x :: l, r, d, h => by
    rw [feedL] at h
    by_cases hx : (feedV d x).2.2 ≠ 0
    · rw [List.cons_append, feedL, if_pos hx, feedL, if_pos hx]
    · rw [if_neg hx] at h
      rw [List.cons_append, feedL, if_neg hx, feedL, if_neg hx, feedL_over l r _ h]
theorem feedV_len (d : Dec) (b : UInt8) : (feedV d b).1.bytes.length ≤ d.bytes.length + 1 := by
  simp only [feedV]
  split
  · simp
  · split <;> simp
theorem feedL_len : ∀ (l : List UInt8) (d : Dec), (feedL d l).1.bytes.length ≤ d.bytes.length + l.length
  | [], d => by simp [feedL]
  | x :: l, d => by
    rw [feedL]
    have := feedV_len d x
    split
    · simp; omega
    · have ih := feedL_len l (feedV d x).1
      simp only [List.length_cons]; omega
theorem feedL_frs : ∀ (l : List UInt8) (d : Dec), (feedL d l).2.1.length ≤ l.length
  | [], d => by simp [feedL]
  | x :: l, d => by
    rw [feedL]
    split
    · simp
    · have ih := feedL_frs l (feedV d x).1
      have : (feedV d x).2.1.toList.length ≤ 1 := by cases (feedV d x).2.1 <;> simp
      simp only [List.length_append, List.length_cons]; omega
def decR (h : Heap) (db ab : Nat) (d : Dec) (l : List UInt8) (e : IEnd) (h' : Heap) : Prop :=
  ∃ ab' cap', DecIs h' db ab' cap' (feedL d l).1 ∧ decFr h db ab d ab' (feedL d l).1 h' ∧
    (((feedL d l).2.2 = 0 ∧ e = .ret (.tup [.list .plain ((feedL d l).2.1.map frRow), .niliface])) ∨
     ((feedL d l).2.2 ≠ 0 ∧ ∃ v H1 a, e = .ret (.tup [.list .plain ((feedL d l).2.1.map frRow), v]) ∧ faultAt H1 h' v (feedL d l).2.2 a [frameB] ∧ (∀ j o, h j = some o → j ≠ db → (d.bytes ≠ [] → j ≠ ab) → ∃ o', H1 j = some o')))
theorem decFr.trans {h : Heap} {db ab : Nat} {d : Dec} {ab1 cap1 : Nat} {h1 : Heap} {d1 d2 : Dec} {ab2 : Nat} {h2 : Heap} (a : decFr h db ab d ab1 d1 h1) (hd1 : DecIs h1 db ab1 cap1 d1) (b : decFr h1 db ab1 d1 ab2 d2 h2) : decFr h db ab d ab2 d2 h2 := by
  obtain ⟨a1, a2⟩ := a
  obtain ⟨b1, b2⟩ := b
  refine ⟨fun hn2 => ?_, fun j o hj j1 j2 => b2 j o (a2 j o hj j1 j2) j1 fun hn => ?_⟩
  · rcases b1 hn2 with ⟨g1, g2⟩ | g
    · rw [g1]; exact a1 g2
    · cases hx : h ab2 with
      | none => exact .inr rfl
      | some o =>
        left
        by_cases hq : d.bytes ≠ [] ∧ ab2 = ab
        · exact ⟨hq.2, hq.1⟩
        · exfalso
          have h1n : ab2 ≠ db := by
            rintro rfl
            obtain ⟨c, _, hc⟩ := hd1
            rw [hc] at g; cases g
          rw [a2 ab2 o hx h1n fun q1 q2 => hq ⟨q1, q2⟩] at g
          cases g
  · rintro rfl
    rcases a1 hn with ⟨g1, g2⟩ | g
    · exact j2 g2 g1
    · rw [g] at hj; cases hj
theorem decFr.refl {h : Heap} {db ab : Nat} {d : Dec} : decFr h db ab d ab d h := ⟨fun hn => .inl ⟨rfl, hn⟩, fun _ _ hj _ _ => hj⟩
set_option maxRecDepth 20000 in
theorem over_c {h : Heap} {db ab cap : Nat} {d : Dec} (hd : DecIs h db ab cap d) : ICall Tryz.prog 58 [.ptr db 0] h (retP (.bool d.over) h) := by
  refine icall_of_iwp (fun d => 0) Tryz.func58 rfl (by kernel_rfl) (Nat.le_of_ble_eq_true rfl) ?_
  rw [Tryz.results58]
  obtain ⟨c, hg, hdb⟩ := hd
  simp -implicitDefEqProofs [go_sem, hdb]
  exact ⟨_, Sub.refl _, rfl, rfl⟩
set_option maxRecDepth 20000 in
set_option maxHeartbeats 1000000 in
theorem Feed_c {h : Heap} {db ab cap : Nat} {d : Dec} (parts : List (List UInt8)) (hd : DecIs h db ab cap d) (ho : d.over = false) (hp : parts.length < 1000000) (hl : d.bytes.length + parts.flatten.length < 10000000000) :
    ICall Tryz.prog 34 [.ptr db 0, .list .plain (parts.map brow)] h (decR h db ab d parts.flatten) := by
  refine icall_of_iwp (fun d => 0) Tryz.func34 rfl (by kernel_rfl) (Nat.le_of_ble_eq_true rfl) ?_
  rw [Tryz.results34]
  simp -implicitDefEqProofs [go_sem]
  refine (over_c hd).mono ?_
  rintro e h' ⟨rfl, he⟩
  rw [he, ho]
  simp -implicitDefEqProofs [go_sem]
  refine (concatBs_c parts h hp (by omega)).mono ?_
  rintro e h' ⟨rfl, he⟩
  rw [he]
  obtain ⟨L, hL⟩ : ∃ L, parts.flatten = L := ⟨_, rfl⟩
  rw [hL] at hl ⊢
  simp -implicitDefEqProofs [go_sem]
  refine iwp_loopF (rng [6, 8, 9, 10] 19 36) nom (fun s => ∃ (i : Nat) (v : IV) (ab1 cap1 : Nat), i ≤ L.length ∧ s.t 19 = .int .i64 i ∧ (feedL d (L.take i)).2.2 = 0 ∧ DecIs s.h db ab1 cap1 (feedL d (L.take i)).1 ∧ decFr h db ab d ab1 (feedL d (L.take i)).1 s.h ∧ s.t 6 = v ∧ Idl.Own [31] s.x 78 v ((feedL d (L.take i)).2.1.map frRow)) (fun s => L.length - tn (s.t 19)) ?_ ?_
  · exact ⟨0, _, ab, cap, Nat.zero_le _, by simp -implicitDefEqProofs [go_sem], by simp [feedL], by simp -implicitDefEqProofs [go_sem, feedL]; exact hd, by simp -implicitDefEqProofs [go_sem, feedL]; exact decFr.refl, by simp -implicitDefEqProofs [go_sem]; rfl, Idl.Own.tight⟩
  rintro J s hJ hf ⟨i, v, ab1, cap1, hi, h19, hz, hd1, hf1, h6, hown⟩
  simp -implicitDefEqProofs [go_sem, h19, h6, hf.t, hf.m]
  refine cK_dec (fun hlt => ?_) (fun hge => ?_)
  · have hlt' : i < L.length := by omega
    have hw := wrap_succ (i := i) (by omega)
    obtain ⟨x, hxe⟩ : ∃ x, L[i] = x := ⟨_, rfl⟩
    have hx : L[i]? = some x := by rw [← hxe]; exact List.getElem?_eq_getElem hlt'
    have htk : L.take (i + 1) = L.take i ++ [x] := by rw [List.take_add_one, hx]; rfl
    have hfl := feedL_len (L.take i) d
    have htl : (L.take i).length = i := by simp; omega
    simp -implicitDefEqProofs [go_sem, h19, h6, hf.t, hf.m, hx, hxe, byRow, hlt']
    refine (feed_c x hd1 (by omega)).mono ?_
    rintro e h2 ⟨ab2, cap2, hd2, hf2, hcase⟩
    have hsn := feedL_snoc (L.take i) d x hz
    have hfrs := feedL_frs (L.take i) d
    have hfr1 : (feedV (feedL d (L.take i)).1 x).2.1.toList.length ≤ 1 := by cases (feedV (feedL d (L.take i)).1 x).2.1 <;> simp
    have hf12 := hf1.trans hd1 hf2
    rcases hcase with ⟨hz2, rfl⟩ | ⟨hz2, hnone, v2, H1, a, rfl, hfa, hall⟩
    · rw [if_neg (by rw [hz2]; simp)] at hsn
      simp -implicitDefEqProofs [go_sem, h19, h6, hf.t, hf.m]
      refine aK_own (z := 2) (S := [31]) hown (by simp) elT_80 elZ_78 (by simp only [roomy, byT_78, List.length_map]; omega) (frs_uni _) (frs_uni _) ?_
      intro r x' ho' _
      simp -implicitDefEqProofs [go_sem, h19, h6, hf.t, hf.m, hf, hw]
      refine hJ _ ⟨i + 1, r, ab2, cap2, by omega, by simp -implicitDefEqProofs [go_sem, hw], by rw [htk, hsn], by rw [htk, hsn]; simpa -implicitDefEqProofs [go_sem] using hd2, by rw [htk, hsn]; simpa -implicitDefEqProofs [go_sem] using hf12, by simp -implicitDefEqProofs [go_sem], ?_⟩ (by simp [go_sem, h19, hw]; omega)
      show Idl.Own [31] x' _ r _
      rw [htk, hsn, List.map_append]
      exact ho'
    · rw [if_pos hz2] at hsn
      have hne : L = (L.take i ++ [x]) ++ L.drop (i + 1) := by rw [← htk, List.take_append_drop]
      have hov : feedL d L = ((feedV (feedL d (L.take i)).1 x).1, (feedL d (L.take i)).2.1, (feedV (feedL d (L.take i)).1 x).2.2) := by
        have := feedL_over (L.take i ++ [x]) (L.drop (i + 1)) d (by rw [hsn]; exact hz2)
        rw [← hne, hsn] at this; exact this
      have hfa2 := hfa
      obtain ⟨bb, fb, q1, q2, rfl, q4, q5, q6⟩ := hfa2
      simp -implicitDefEqProofs [go_sem, h19, h6, hf.t, hf.m]
      refine aK_own (ys := []) (z := 2) (S := [31]) hown (by simp) elT_80 elZ_78 (by simp only [roomy, byT_78, List.length_map, List.length_nil]; omega) (frs_uni _) rfl ?_
      intro r x' ho' _
      rw [List.append_nil] at ho'
      simp -implicitDefEqProofs [go_sem, h19, h6, hf.t, hf.m, ho'.strip]
      refine ⟨_, Sub.refl _, ab2, cap2, by rw [hov]; exact hd2, by rw [hov]; exact hf12, .inr ⟨by rw [hov]; exact hz2, _, H1, a, by rw [hov], by rw [hov]; exact hfa, fun j o hj j1 j2 => hall j o (hf1.2 j o hj j1 j2)⟩⟩
  · obtain rfl : i = L.length := by omega
    rw [List.take_length] at hz hd1 hf1 hown
    simp -implicitDefEqProofs [go_sem, h19, h6, hf.t, hf.m, hown.strip]
    exact ⟨_, Sub.refl _, ab1, cap1, hd1, hf1, .inl ⟨hz, rfl⟩⟩
end Go.Proofs

set_option linter.unusedVariables false
set_option linter.unusedSimpArgs false
set_option pp.deepTerms false
set_option pp.maxSteps 500
namespace Go.Proofs
open Go.Idl

/-! replies -/
def repO (rs : List Rp) (id : Int) : List ByteArray := ((rs.find? fun r => r.id == id).map (·.l)).getD []
def repL : List Rp → Int → Nat → Nat → List ByteArray → List Rp
  | [], id, ab, cap, l => [⟨id, ab, cap, l⟩]
  | r :: t, id, ab, cap, l => if r.id = id then ⟨id, ab, cap, r.l ++ l⟩ :: t else r :: repL t id ab cap l
def encR (r : Rp) : IV × IV := encK (·.id) (fun r => .sl 1 r.ab 0 r.l.length r.cap) r
theorem repL_put : ∀ (rs : List Rp) (id : Int) (ab cap : Nat) (l : List ByteArray), iput (.int .i64) (.int .i64 id) (.sl 1 ab 0 (repO rs id ++ l).length cap) (rs.map encR) = some ((repL rs id ab cap l).map encR)
  | [], id, ab, cap, l => rfl
  | r :: t, id, ab, cap, l => by
    by_cases h : r.id = id
    · have h1 : repO (r :: t) id = r.l := by simp [repO, h]
      rw [h1, repL, if_pos h, List.map_cons, encR, encK, iput]
      simp [kEq, h, encR, encK]
    · have h1 : repO (r :: t) id = repO t id := by
        have : (r.id == id) = false := by simpa using h
        simp [repO, List.find?_cons, this]
      have h2 : (id == r.id) = false := by simpa using Ne.symm h
      have ih := repL_put t id ab cap l
      rw [h1, repL, if_neg h, List.map_cons, encR, encK, iput]
      simp only [kEq, if_true, h2, ih, Option.map_some, List.map_cons]
      rfl
theorem mem_repL : ∀ (rs : List Rp) (id : Int) (ab cap : Nat) (l : List ByteArray), (rs.map (·.id)).Nodup → ∀ r ∈ repL rs id ab cap l, (r ∈ rs ∧ r.id ≠ id) ∨ r = ⟨id, ab, cap, repO rs id ++ l⟩
  | [], id, ab, cap, l, _, r, hr => by
    simp only [repL, List.mem_singleton] at hr
    exact .inr (by rw [hr]; rfl)
  | q :: t, id, ab, cap, l, hn, r, hr => by
    simp only [List.map_cons, List.nodup_cons] at hn
    by_cases h : q.id = id
    · have h1 : repO (q :: t) id = q.l := by simp [repO, h]
      rw [repL, if_pos h] at hr
      rcases List.mem_cons.1 hr with e | e
      · exact .inr (by rw [e, h1])
      · refine .inl ⟨List.mem_cons_of_mem _ e, fun e2 => hn.1 ?_⟩
        rw [h, ← e2]; exact List.mem_map_of_mem e
    · have h1 : repO (q :: t) id = repO t id := by
        have : (q.id == id) = false := by simpa using h
        simp [repO, List.find?_cons, this]
      rw [repL, if_neg h] at hr
      rcases List.mem_cons.1 hr with e | e
      · exact .inl ⟨by rw [e]; exact List.mem_cons_self, by rw [e]; exact h⟩
      · rw [h1]
        rcases mem_repL t id ab cap l hn.2 r e with ⟨a, b⟩ | a
        · exact .inl ⟨List.mem_cons_of_mem _ a, b⟩
        · exact .inr a
theorem repL_ids : ∀ (rs : List Rp) (id : Int) (ab cap : Nat) (l : List ByteArray), (repL rs id ab cap l).map (·.id) = if id ∈ rs.map (·.id) then rs.map (·.id) else rs.map (·.id) ++ [id]
  | [], id, ab, cap, l => by simp [repL]
  | q :: t, id, ab, cap, l => by
    by_cases h : q.id = id
    · rw [repL, if_pos h]; simp [h]
    · rw [repL, if_neg h, List.map_cons, repL_ids t id ab cap l]
      have h' : ¬ id = q.id := Ne.symm h
      by_cases hm : id ∈ t.map (·.id)
      · rw [if_pos hm, if_pos (by rw [List.map_cons]; exact List.mem_cons_of_mem _ hm)]; rfl
      · rw [if_neg hm, if_neg (by rw [List.map_cons, List.mem_cons]; rintro (e | e); exact h' e; exact hm e)]; rfl
def SV.rep (S : SV) (id : Int) (ab cap : Nat) (l : List ByteArray) : SV := { S with rps := repL S.rps id ab cap l }
theorem SV.ok.rep {S : SV} (ho : S.ok) {id : Int} (h0 : 0 ≤ id) (ab cap : Nat) (l : List ByteArray) (hl : (repO S.rps id ++ l).length ≤ 1000000000000) : (S.rep id ab cap l).ok := by
  refine ⟨ho.nd, ho.c0, ?_, fun r hr => ?_, ho.l0, ho.len, fun r hr => ?_⟩
  · show ((repL S.rps id ab cap l).map (·.id)).Nodup
    rw [repL_ids]
    split
    · exact ho.ndr
    · rename_i hn
      exact List.nodup_append.2 ⟨ho.ndr, by simp, fun a ha b hb e => by simp at hb; subst hb; subst e; exact hn ha⟩
  · rcases mem_repL _ _ _ _ _ ho.ndr r hr with ⟨a, _⟩ | a
    · exact ho.r0 r a
    · rw [a]; exact h0
  · rcases mem_repL _ _ _ _ _ ho.ndr r hr with ⟨a, _⟩ | a
    · exact ho.rl r a
    · rw [a]; exact hl
theorem find_rep {S : SV} (ho : S.ok) (id : Int) : (S.rps.find? fun r => r.id == id) = none ∨ ∃ r ∈ S.rps, r.id = id ∧ (S.rps.find? fun r => r.id == id) = some r := by
  cases h : S.rps.find? fun r => r.id == id with
  | none => exact .inl rfl
  | some r => exact .inr ⟨r, List.mem_of_find?_eq_some h, by simpa using List.find?_some h, rfl⟩
/-- one client's replies grow -/
theorem SrvAt.rep {k tag h sb S} (hS : SrvAt k tag h sb S) (ho : S.ok) {id : Int} (h0 : 0 ≤ id) {ab cap : Nat} {l : List ByteArray} (hl : l ≠ []) (hcap : (repO S.rps id ++ l).length ≤ cap)
    (hab : (∃ r ∈ S.rps, r.id = id ∧ r.ab = ab) ∨ h ab = none) :
    let h' := upd (upd h ab (some (.arr 9 1 ((repO S.rps id ++ l).map strRow) cap))) S.mr (some (.map (S.rep id ab cap l).rpE))
    SrvAt k (upd tag ab (k + 3, 6, id.toNat)) h' sb (S.rep id ab cap l) ∧ Frm3 k tag h (upd tag ab (k + 3, 6, id.toNat)) h' := by
  intro h'
  have nab : ∀ j o, h j = some o → tag j ≠ (k + 3, 6, id.toNat) → j ≠ ab := by
    rintro j o hj ht rfl
    rcases hab with ⟨r, hr, e1, e2⟩ | g
    · have := (hS.hr r hr).2
      rw [e1, e2] at this; exact ht this
    · rw [g] at hj; cases hj
  have keep : ∀ (j : Nat) (o : IObj), h j = some o → tag j ≠ (k + 3, 6, id.toNat) → tag j ≠ (k + 3, 2, 0) → h' j = some o ∧ upd tag ab (k + 3, 6, id.toNat) j = tag j := fun j o hj a1 a2 => by
    have n1 := nab j o hj a1
    have n2 : j ≠ S.mr := by rintro rfl; exact a2 hS.tmr
    exact ⟨by show upd _ _ _ j = _; rw [upd_ne _ _ n2, upd_ne _ _ n1]; exact hj, upd_ne _ _ n1⟩
  have nmr := nab _ _ hS.hmr (by rw [hS.tmr]; simp)
  refine ⟨hS.of (fun t => t = (k + 3, 6, id.toNat) ∨ t = (k + 3, 2, 0)) (fun j o hj ht hT => keep j o hj (fun e => hT (.inl e)) (fun e => hT (.inr e))) rfl rfl (.inl ⟨by simp, rfl⟩) (.inl ⟨by simp, rfl⟩) (.inr ⟨upd_same _ _ _, by rw [upd_ne _ _ nmr]; exact hS.tmr⟩)
    (hS.hR.stay fun j o hj ht => keep j o hj (fun e => by rw [e] at ht; simp at ht) (fun e => by rw [e] at ht; simp at ht)) (fun c hc => .inl ⟨hc, by simp, by simp, by simp⟩) (fun r hr => ?_), fun j o hj t1 t2 t3 => keep j o hj (fun e => t3 (by rw [e])) (fun e => t3 (by rw [e]))⟩
  rcases mem_repL _ _ _ _ _ ho.ndr r hr with ⟨a, b⟩ | a
  · have h1 := ho.r0 r a
    exact .inl ⟨a, by simp; omega⟩
  · rw [a]
    refine .inr ⟨⟨by simp [hl], ?_, hcap⟩, upd_same _ _ _⟩
    show upd _ _ _ ab = _
    rw [upd_ne _ _ nmr.symm, upd_same]
theorem of_c {k tag h sb S} (hS : SrvAt k tag h sb S) (ho : S.ok) (id : Int) : ICall Tryz.prog 30 [.ptr sb 0, .int .i64 id] h (retP (((S.cls.find? fun c => c.id == id).map fun c => IV.ptr c.cb 0).getD .nilptr) h) := by
  refine icall_of_iwp (fun _ => 0) Tryz.func30 rfl (by kernel_rfl) (Nat.le_of_ble_eq_true rfl) ?_
  rw [Tryz.results30]
  have h1 := hS.hs
  have h2 := hS.hmc
  have hq : ifind (.int .i64) (.int .i64 id) S.clE = some ((S.cls.find? fun c => c.id == id).map fun c => IV.ptr c.cb 0) := ifind_k (fun c : Cl => c.id) (fun c : Cl => IV.ptr c.cb 0) id S.cls
  cases hf : S.cls.find? fun c => c.id == id with
  | none =>
    rw [hf] at hq
    simp -implicitDefEqProofs [go_sem, h1, h2, SV.cells, hq]
    exact ⟨_, Sub.refl _, rfl, rfl⟩
  | some c =>
    rw [hf] at hq
    simp -implicitDefEqProofs [go_sem, h1, h2, SV.cells, hq]
    exact ⟨_, Sub.refl _, rfl, rfl⟩
set_option maxRecDepth 20000 in
set_option maxHeartbeats 1000000 in
theorem sreply_c {k tag h sb S} (hS : SrvAt k tag h sb S) (ho : S.ok) {id : Int} (h0 : 0 ≤ id) {l : List ByteArray} (hl : l ≠ []) (hn : (repO S.rps id ++ l).length ≤ 1000000000000) :
    ICall Tryz.prog 35 [.ptr sb 0, .int .i64 id, .list .plain (l.map strRow)] h fun e h' => e = .ret (.tup []) ∧ ∃ tag' ab cap, SrvAt k tag' h' sb (S.rep id ab cap l) ∧ Frm3 k tag h tag' h' := by
  refine icall_of_iwp (fun d => if d = 18 then 2 else 0) Tryz.func35 rfl (by kernel_rfl) (Nat.le_of_ble_eq_true rfl) ?_
  rw [Tryz.results35]
  have h1 := hS.hs
  have h2 := hS.hmr
  have hq : ifind (.int .i64) (.int .i64 id) S.rpE = some ((S.rps.find? fun r => r.id == id).map fun r => IV.sl 1 r.ab 0 r.l.length r.cap) := ifind_k (fun r : Rp => r.id) (fun r : Rp => IV.sl 1 r.ab 0 r.l.length r.cap) id S.rps
  have hput : ∀ ab cap, iput (.int .i64) (.int .i64 id) (.sl 1 ab 0 (repO S.rps id ++ l).length cap) S.rpE = some (S.rep id ab cap l).rpE := fun ab cap => repL_put S.rps id ab cap l
  have hlz : l.length ≤ 1000000000000 := by simp at hn; omega
  rcases find_rep ho id with hf | ⟨r, hr, hid, hf⟩
  · rw [hf] at hq
    have hro : repO S.rps id = [] := by rw [repO, hf]; rfl
    simp -implicitDefEqProofs [go_sem]
    refine iwp_drawn_of mixed [0, 1, 2, 3, 4, 5, 6, 7, 8, 9, 10, 11, 12, 13] (by kernel_rfl) ?_
    simp -implicitDefEqProofs [go_sem, h1, h2, SV.cells, hq]
    refine ⟨by simp only [roomy, byT_9]; omega, fun e => absurd e hl, fun _ b' cap' hb' hc => ?_⟩
    have nmr : S.mr ≠ b' := by rintro e; rw [← e, h2] at hb'; cases hb'
    rw [hro, List.nil_append] at hput
    simp -implicitDefEqProofs [go_sem, nmr, hput]
    have := hS.rep ho h0 hl (ab := b') (cap := cap') (by rw [hro]; simpa using hc) (.inr hb')
    rw [hro, List.nil_append] at this
    exact ⟨_, Sub.refl _, _, ⟨_, _, this.1⟩, this.2⟩
  · rw [hf] at hq
    have hro : repO S.rps id = r.l := by rw [repO, hf]; rfl
    obtain ⟨⟨r1, r2, r3⟩, r4⟩ := hS.hr r hr
    rw [hro, List.length_append] at hn
    have nmr0 : S.mr ≠ r.ab := by rintro e; rw [← e, h2] at r2; cases r2
    rw [hro] at hput
    simp only [List.length_append] at hput
    simp -implicitDefEqProofs [go_sem]
    refine iwp_drawn_of mixed [0, 1, 2, 3, 4, 5, 6, 7, 8, 9, 10, 11, 12, 13] (by kernel_rfl) ?_
    simp -implicitDefEqProofs [go_sem, h1, h2, SV.cells, hq, r2, nmr0, hput]
    refine ⟨?_, fun hfit => ?_, fun hno b' cap' hb' hc => ?_⟩
    · simp only [roomy, byT_9]; omega
    · have := hS.rep ho h0 hl (ab := r.ab) (cap := r.cap) (by rw [hro, List.length_append]; exact hfit) (.inl ⟨r, hr, hid, rfl⟩)
      rw [hro, List.map_append] at this
      exact ⟨_, Sub.refl _, _, ⟨_, _, this.1⟩, this.2⟩
    · have nmr : S.mr ≠ b' := by rintro e; rw [← e, h2] at hb'; cases hb'
      simp -implicitDefEqProofs [go_sem, nmr, hput]
      have := hS.rep ho h0 hl (ab := b') (cap := cap') (by rw [hro, List.length_append]; exact hc) (.inr hb')
      rw [hro, List.map_append] at this
      exact ⟨_, Sub.refl _, _, ⟨_, _, this.1⟩, this.2⟩
end Go.Proofs

set_option linter.unusedVariables false
set_option linter.unusedSimpArgs false
set_option pp.deepTerms false
set_option pp.maxSteps 500
namespace Go.Proofs
open Go.Idl

/-! a client's frames -/
@[go_sem] theorem frRow_len (f : Fra) : (frRow f).length = 2 := rfl
theorem SV.ok.setC {S : SV} (ho : S.ok) {i : Nat} {c : Cl} (hi : S.cls[i]? = some c) (c' : Cl) (e : c'.id = c.id) (R' : RG) : ({ S with R := R', cls := S.cls.set i c' } : SV).ok := by
  have hm : (S.cls.set i c').map (·.id) = S.cls.map (·.id) := by
    apply List.ext_getElem?
    intro j
    rw [List.getElem?_map, List.getElem?_map, List.getElem?_set]
    split
    · rename_i q; subst q
      rw [if_pos (List.getElem?_eq_some_iff.1 hi).1, hi, Option.map_some, Option.map_some, e]
    · rfl
  refine ⟨by show ((S.cls.set i c').map (·.id)).Nodup; rw [hm]; exact ho.nd, fun x hx => ?_, ho.ndr, ho.r0, ho.l0, by show (S.cls.set i c').length ≤ _; rw [List.length_set]; exact ho.len, ho.rl⟩
  rcases List.mem_or_eq_of_mem_set hx with h | h
  · exact ho.c0 x h
  · rw [h, e]; exact ho.c0 c (List.mem_of_getElem? hi)
theorem SV.ok.setR {S : SV} (ho : S.ok) (R' : RG) : ({ S with R := R' } : SV).ok := ⟨ho.nd, ho.c0, ho.ndr, ho.r0, ho.l0, ho.len, ho.rl⟩
set_option maxRecDepth 20000 in
set_option maxHeartbeats 1000000 in
theorem frame_cmd {k tag h sb S i c} (hS : SrvAt k tag h sb S) (ho : S.ok) (hi : S.cls[i]? = some c) (f : Fra) (hk : f.k ≠ 2) (seat' : Int) (l : List ByteArray) (hl : l ≠ []) (P : RG → Prop)
    (hrun : ICall Tryz.prog 7 [.ptr S.rb 0, .int .i64 c.seat, .str f.body] h fun e h' => e = .ret (.tup [.int .i64 seat', .list .plain (l.map strRow)]) ∧ leftR k tag h S.rb P h') :
    ICall Tryz.prog 36 [.ptr sb 0, .ptr c.cb 0, .agg (frRow f)] h fun e h' => e = .ret (.list .plain (l.map strRow)) ∧ ∃ tag' R', SrvAt k tag' h' sb { S with R := R', cls := S.cls.set i { c with seat := seat' } } ∧ P R' ∧ Frm3 k tag h tag' h' := by
  refine icall_of_iwp (fun d => if d = 33 then 5 else 0) Tryz.func36 rfl (by kernel_rfl) (Nat.le_of_ble_eq_true rfl) ?_
  rw [Tryz.results36]
  have h1 := hS.hs
  obtain ⟨⟨h2, hd⟩, t1, t2, t3⟩ := hS.hc c (List.mem_of_getElem? hi)
  have hkk : ((f.k.toNat : Int) == 2) = false := by
    cases hq : ((f.k.toNat : Int) == 2) with
    | false => rfl
    | true => exact absurd ((u8_i _ _).1 (by simpa using hq)) hk
  simp -implicitDefEqProofs [go_sem, frRow, hkk]
  refine iwp_drawn_call mixed [0, 1, 2, 3, 4, 5, 6, 7, 8, 9, 10, 11, 12, 13, 14, 15] (by kernel_rfl) (fun v st d x h => by cases d <;> exact h) ?_
  simp -implicitDefEqProofs [go_sem, h1, h2, SV.cells]
  refine hrun.mono ?_
  rintro e h' ⟨rfl, tag2, R2, hR2, hP, hF2⟩
  have hS2 := hS.reg hR2 hF2
  have h2' := (hF2 _ _ h2 (by rw [t1]; simp) (by rw [t1]; simp)).1
  have hll : l.length ≠ 0 := by simpa using hl
  have hlb : ((l.length : Int) == 0) = false := by simp; exact hl
  simp -implicitDefEqProofs [go_sem, h2', hlb]
  have ho2 := ho.setR R2
  have hq := hS2.seat ho2 (i := i) (c := c) hi seat'
  exact ⟨_, Sub.refl _, tag2, R2, hq.1, hP, hF2.three.trans hq.2⟩
set_option maxRecDepth 20000 in
set_option maxHeartbeats 1000000 in
/-- what bytes of a client come to, if nothing is wrong with them -/
theorem Data_c {k tag h sb S i c} (hS : SrvAt k tag h sb S) (ho : S.ok) (hi : S.cls[i]? = some c) (parts : List (List UInt8)) (hov : c.d.over = false) (hp : parts.length < 1000000) (hl : c.d.bytes.length + parts.flatten.length < 10000000000)
    (hz : (feedL c.d parts.flatten).2.2 = 0) (P : Nat → SV → Prop) (h0 : ∀ ab cap, P 0 { S with cls := S.cls.set i { c with ab := ab, cap := cap, d := (feedL c.d parts.flatten).1 } })
    (hstep : ∀ j (hj : j < (feedL c.d parts.flatten).2.1.length) tag h S', SrvAt k tag h sb S' → P j S' → ICall Tryz.prog 36 [.ptr sb 0, .ptr c.cb 0, .agg (frRow (feedL c.d parts.flatten).2.1[j])] h fun e h' =>
      ∃ l, l ≠ [] ∧ e = .ret (.list .plain (l.map strRow)) ∧ ∃ tag' S'', SrvAt k tag' h' sb S'' ∧ Frm3 k tag h tag' h' ∧ S''.ok ∧ (repO S''.rps c.id ++ l).length ≤ 1000000000000 ∧ ∀ ab cap, P (j + 1) (S''.rep c.id ab cap l)) :
    ICall Tryz.prog 15 [.ptr sb 0, .int .i64 c.id, .list .plain (parts.map brow)] h fun e h' => e = .ret (.int .i64 0) ∧ srvR k tag h sb (P (feedL c.d parts.flatten).2.1.length) h' := by
  refine icall_of_iwp (fun d => 0) Tryz.func15 rfl (by kernel_rfl) (Nat.le_of_ble_eq_true rfl) ?_
  rw [Tryz.results15]
  have hfind : (S.cls.find? fun b => b.id == c.id) = some c := encK_find (f := fun c : Cl => c.id) ho.nd (List.mem_of_getElem? hi)
  obtain ⟨⟨h2, hd⟩, t1, t2, t3⟩ := hS.hc c (List.mem_of_getElem? hi)
  simp -implicitDefEqProofs [go_sem]
  refine (of_c hS ho c.id).mono ?_
  rintro e h' ⟨rfl, he⟩
  rw [he, hfind]
  simp -implicitDefEqProofs [go_sem, h2]
  refine (Feed_c parts hd hov hp hl).mono ?_
  rintro e h2 ⟨ab1, cap1, hd1, hf1, hcase⟩
  rcases hcase with ⟨_, rfl⟩ | ⟨hz2, _⟩
  rotate_left
  · exact absurd hz hz2
  obtain ⟨tag1, hS1, hF1⟩ := hS.fed ho hi hd1 hf1
  obtain ⟨fs, hfs⟩ : ∃ fs, (feedL c.d parts.flatten).2.1 = fs := ⟨_, rfl⟩
  have hP0 := h0 ab1 cap1
  have hstep' : ∀ j (hj : j < fs.length) tag h S', SrvAt k tag h sb S' → P j S' → ICall Tryz.prog 36 [.ptr sb 0, .ptr c.cb 0, .agg (frRow fs[j])] h fun e h' =>
      ∃ l, l ≠ [] ∧ e = .ret (.list .plain (l.map strRow)) ∧ ∃ tag' S'', SrvAt k tag' h' sb S'' ∧ Frm3 k tag h tag' h' ∧ S''.ok ∧ (repO S''.rps c.id ++ l).length ≤ 1000000000000 ∧ ∀ ab cap, P (j + 1) (S''.rep c.id ab cap l) := by subst hfs; exact hstep
  have hid := (ho.c0 c (List.mem_of_getElem? hi)).1
  rw [hfs]
  have hfl : fs.length ≤ parts.flatten.length := by rw [← hfs]; exact feedL_frs _ _
  clear hstep
  simp -implicitDefEqProofs [go_sem]
  refine iwp_loopF (rng [11] 28 39) (fun k => k == 11) (fun s => ∃ (j : Nat) (tag2 : Nat → Nat × Nat × Nat) (S2 : SV), j ≤ fs.length ∧ s.t 28 = .int .i64 j ∧ SrvAt k tag2 s.h sb S2 ∧ P j S2 ∧ Frm3 k tag h tag2 s.h) (fun s => fs.length - tn (s.t 28)) ?_ ?_
  · exact ⟨0, tag1, _, Nat.zero_le _, by simp -implicitDefEqProofs [go_sem], by simp -implicitDefEqProofs [go_sem]; exact hS1, hP0, by simp -implicitDefEqProofs [go_sem]; exact hF1⟩
  rintro J s hJ hf ⟨j, tag2, S2, hj, h28, hS2, hP2, hF2⟩
  simp -implicitDefEqProofs [go_sem, h28, hf.t, hf.m]
  refine cK_dec (fun hlt => ?_) (fun hge => ?_)
  · have hlt' : j < fs.length := by omega
    have hw := wrap_succ (i := j) (by omega)
    have hg : fs[j]? = some fs[j] := List.getElem?_eq_getElem hlt'
    have hstj := hstep' j hlt' tag2 s.h S2 hS2 hP2
    obtain ⟨x, hx⟩ : ∃ x, fs[j] = x := ⟨_, rfl⟩
    rw [hx] at hg hstj
    simp -implicitDefEqProofs [go_sem, h28, hf.t, hf.m, hlt', hg, hx, frRow]
    refine hstj.mono ?_
    rintro e h3 ⟨l, hl0, rfl, tag3, S3, hS3, hF3, ho3, hn3, hP3⟩
    simp -implicitDefEqProofs [go_sem, h28, hf.t, hf.m]
    refine (sreply_c hS3 ho3 hid hl0 hn3).mono ?_
    rintro e h4 ⟨rfl, tag4, ab4, cap4, hS4, hF4⟩
    simp -implicitDefEqProofs [go_sem, h28, hf.t, hf.m, hf, hw]
    exact hJ _ ⟨j + 1, tag4, _, by omega, by simp -implicitDefEqProofs [go_sem, hw], by simpa -implicitDefEqProofs [go_sem] using hS4, hP3 ab4 cap4, by simpa -implicitDefEqProofs [go_sem] using hF2.trans (hF3.trans hF4)⟩ (by simp [go_sem, h28, hw]; omega)
  · obtain rfl : j = fs.length := by omega
    simp -implicitDefEqProofs [go_sem, h28, hf.t, hf.m]
    exact ⟨_, Sub.refl _, tag2, S2, hS2, hP2, hF2⟩
/-- a client's replies are taken -/
theorem SrvAt.take {k tag h sb S} (hS : SrvAt k tag h sb S) (ho : S.ok) {id : Int} (h0 : 0 ≤ id) {h' : Heap} (hm : h' S.mr = some (.map (SV.rpE { S with rps := S.rps.filter fun r => r.id != id })))
    (keep : ∀ j o, h j = some o → j ≠ S.mr → (∀ r ∈ S.rps, r.id = id → j ≠ r.ab) → h' j = some o) :
    SrvAt k tag h' sb { S with rps := S.rps.filter fun r => r.id != id } ∧ Frm3 k tag h tag h' := by
  have kp : ∀ (j : Nat) (o : IObj), h j = some o → tag j ≠ (k + 3, 6, id.toNat) → tag j ≠ (k + 3, 2, 0) → h' j = some o ∧ tag j = tag j := fun j o hj a1 a2 =>
    ⟨keep j o hj (by rintro rfl; exact a2 hS.tmr) (fun r hr e1 e2 => by have := (hS.hr r hr).2; rw [← e2, e1] at this; exact a1 this), rfl⟩
  refine ⟨hS.of (fun t => t = (k + 3, 6, id.toNat) ∨ t = (k + 3, 2, 0)) (fun j o hj ht hT => kp j o hj (fun e => hT (.inl e)) (fun e => hT (.inr e))) rfl rfl (.inl ⟨by simp, rfl⟩) (.inl ⟨by simp, rfl⟩) (.inr ⟨hm, hS.tmr⟩)
    (hS.hR.stay fun j o hj ht => kp j o hj (fun e => by rw [e] at ht; simp at ht) (fun e => by rw [e] at ht; simp at ht)) (fun c hc => .inl ⟨hc, by simp, by simp, by simp⟩) (fun r hr => ?_), fun j o hj t1 t2 t3 => kp j o hj (fun e => t3 (by rw [e])) (fun e => t3 (by rw [e]))⟩
  obtain ⟨r1, r2⟩ := List.mem_filter.1 hr
  have r3 : r.id ≠ id := by simpa using r2
  have := ho.r0 r r1
  exact .inl ⟨r1, by simp; omega⟩
def takeR (k : Nat) (tag : Nat → Nat × Nat × Nat) (h : Heap) (sb : Nat) (S : SV) (id : Int) (e : IEnd) (h' : Heap) : Prop :=
  e = .ret (.list .plain ((repO S.rps id).map strRow)) ∧ SrvAt k tag h' sb { S with rps := S.rps.filter fun r => r.id != id } ∧ Frm3 k tag h tag h'
set_option maxRecDepth 20000 in
theorem Take_c {k tag h sb S} (hS : SrvAt k tag h sb S) (ho : S.ok) {id : Int} (h0 : 0 ≤ id) : ICall Tryz.prog 16 [.ptr sb 0, .int .i64 id] h (takeR k tag h sb S id) := by
  have h1 := hS.hs
  have h2 := hS.hmr
  have hq : ifind (.int .i64) (.int .i64 id) S.rpE = some ((S.rps.find? fun r => r.id == id).map fun r => IV.sl 1 r.ab 0 r.l.length r.cap) := ifind_k (fun r : Rp => r.id) (fun r : Rp => IV.sl 1 r.ab 0 r.l.length r.cap) id S.rps
  have hd : idel (.int .i64) (.int .i64 id) S.rpE = some (SV.rpE { S with rps := S.rps.filter fun r => r.id != id }) := idel_k (fun r : Rp => r.id) (fun r : Rp => IV.sl 1 r.ab 0 r.l.length r.cap) id S.rps ho.ndr
  have hraw : ICall Tryz.prog 16 [.ptr sb 0, .int .i64 id] h fun e h' => e = .ret (((S.rps.find? fun r => r.id == id).map fun r => IV.sl 1 r.ab 0 r.l.length r.cap).getD (.list .plain [])) ∧ h' = upd h S.mr (some (.map (SV.rpE { S with rps := S.rps.filter fun r => r.id != id }))) := by
    refine icall_of_iwp (fun d => 0) Tryz.func16 rfl (by kernel_rfl) (Nat.le_of_ble_eq_true rfl) ?_
    rw [Tryz.results16]
    cases hf : S.rps.find? fun r => r.id == id with
    | none =>
      rw [hf] at hq
      simp -implicitDefEqProofs [go_sem, h1, h2, SV.cells, hq, hd]
      exact Sub.refl _
    | some r =>
      rw [hf] at hq
      simp -implicitDefEqProofs [go_sem, h1, h2, SV.cells, hq, hd]
      exact Sub.refl _
  refine hraw.fz ?_
  rintro e h' ⟨rfl, rfl⟩
  rcases find_rep ho id with hf | ⟨r, hr, hid, hf⟩
  · rw [hf]
    have hro : repO S.rps id = [] := by rw [repO, hf]; rfl
    refine .inl ⟨by rw [hro]; rfl, hS.take ho h0 (upd_same _ _ _) fun j o hj j1 _ => by rw [upd_ne _ _ j1]; exact hj⟩
  · rw [hf]
    have hro : repO S.rps id = r.l := by rw [repO, hf]; rfl
    obtain ⟨⟨r1, r2, r3⟩, r4⟩ := hS.hr r hr
    have nmr0 : S.mr ≠ r.ab := by rintro e; rw [← e, h2] at r2; cases r2
    refine .inr ⟨_, r.ab, 9, 1, r.l.map strRow, r.cap, rfl, by rw [upd_ne _ _ nmr0.symm]; exact r2, ?_, hS.take ho h0 ?_ fun j o hj j1 j2 => ?_⟩
    · simp only [fz3, fz2, fz1, Option.map_some, Option.getD_some]
      rw [if_pos ⟨trivial, trivial, by simp⟩, List.drop_zero, List.take_of_length_le (by simp), hro]
    · simp only [dropH]; rw [if_neg nmr0, upd_same]
    · have := j2 r hr hid
      simp only [dropH]; rw [if_neg this, upd_ne _ _ j1]; exact hj
end Go.Proofs

set_option linter.unusedVariables false
set_option linter.unusedSimpArgs false
set_option pp.deepTerms false
set_option pp.maxSteps 400
namespace Go.Proofs
open Go.Idl Go.RowKit Go.Maps Go.Sort Go.Shelf

/-! the clients' numbers -/
def rhoC : Ren := { f := fun | 10 => 52 | _ => 0, t := fun | 0 => 0 | 3 => 60 | 4 => 4 | 23 => 56 | 26 => 3 | 33 => 72 | _ => 0, g := fun x => x }
theorem lay_rhoC : SlLaysZI.n10 Tryz.prog rhoC where
  mixed := mixed
  f10 := ⟨Tryz.f52.name, by decide, Tryz.func52.trans (congrArg some (by kernel_rfl))⟩
  t0 := Tryz.underlying0
  a0 := Tryz.isAgg0
  z0 := Tryz.sizeOf0
  v0 := Tryz.zeroValue0
  t4 := Tryz.underlying4
  a4 := Tryz.isAgg4
  z4 := Tryz.sizeOf4
  v4 := Tryz.zeroValue4
  t23 := Tryz.underlying56
  a23 := Tryz.isAgg56
  z23 := Tryz.sizeOf56
  v23 := Tryz.zeroValue56
  t26 := Tryz.underlying3
  a26 := Tryz.isAgg3
  z26 := Tryz.sizeOf3
  v26 := Tryz.zeroValue3
  t33 := Tryz.underlying72
  a33 := Tryz.isAgg72
  z33 := Tryz.sizeOf72
  v33 := Tryz.zeroValue72
def keys_rhoCR (m : Nat) (h : Heap) (e : IEnd) (h' : Heap) : Prop := ∃ bx, h bx = none ∧ e = .ret (.fn (.func 52) [] [.ptr bx 0]) ∧ h' = upd h bx (some (.cells [.mapv m]))
theorem keys_rhoC_c (m : Nat) (h : Heap) : ICall Tryz.prog 31 [.mapv m] h (keys_rhoCR m h) := by
  refine icall_of_iwp (fun d => if d = 1 then 1 else 0) Tryz.func31 rfl (by kernel_rfl) (Nat.le_of_ble_eq_true rfl) ?_
  rw [Tryz.results31]
  simp -implicitDefEqProofs [go_sem]
  intro b hb
  exact ⟨_, Sub.refl _, b, hb, rfl, rfl⟩
/-- the keys, sorted -/
theorem it_rhoC {h : Heap} {mb bx : Nat} {es : List (IV × IV)} {ks : List Int} (hm : h mb = some (.map es)) (hbx : h bx = none) (hk : KeysOf es ks) (hin : ∀ x ∈ ks, inR x) (hl : ks.length < 1000000000) :
    ICall Tryz.prog 25 [.fn (.func 52) [] [.ptr bx 0]] (upd h bx (some (.cells [.mapv mb]))) (sortedR (fun ss => ss.Perm ks) (upd h bx (some (.cells [.mapv mb])))) := by
  have hnm : mb ≠ bx := by rintro rfl; rw [hm] at hbx; cases hbx
  have hm' : (upd h bx (some (.cells [.mapv mb]))) mb = some (.map es) := by rw [upd_ne _ _ hnm]; exact hm
  have hit := keys_it (ρ := rhoC) lay_rhoC rfl ⟨_, Tryz.func52, by kernel_rfl, by kernel_rfl⟩ hm' (upd_same _ _ _) hk hin (by omega)
  exact sorted_c hit (by omega) (fun ss hs => by rw [hs.length_eq]; exact Nat.le_refl _) rfl

theorem clE_keys (S : SV) : KeysOf S.clE (S.cls.map (·.id)) := by simp [KeysOf, SV.clE, encK, Function.comp_def]
set_option maxRecDepth 20000 in
theorem clients'_c {k tag h sb S} (hS : SrvAt k tag h sb S) (hin : ∀ c ∈ S.cls, inR c.id) (hl : S.cls.length < 1000000000) : ICall Tryz.prog 11 [.ptr sb 0] h (sortR' (S.cls.map (·.id)) h) := by
  refine icall_of_iwp (fun d => 0) Tryz.func11 rfl (by kernel_rfl) (Nat.le_of_ble_eq_true rfl) ?_
  rw [Tryz.results11]
  have h1 := hS.hs
  simp -implicitDefEqProofs [go_sem, h1, SV.cells]
  refine (keys_rhoC_c S.mc h).mono ?_
  rintro e h' ⟨bx, hbx, rfl, rfl⟩
  simp -implicitDefEqProofs [go_sem]
  refine (it_rhoC hS.hmc hbx (clE_keys S) (by simpa using hin) (by simpa using hl)).mono ?_
  rintro e h' ⟨ss, hss, ⟨rfl, rfl, rfl⟩ | ⟨hne, b, cap, hb, hle, rfl, rfl⟩⟩
  · simp -implicitDefEqProofs [go_sem]
    exact ⟨_, (Sub.refl h).upd hbx _, [], hss, .inl ⟨rfl, rfl, rfl⟩⟩
  · simp -implicitDefEqProofs [go_sem]
    have hbb : b ≠ bx := by rintro rfl; rw [upd_same] at hb; cases hb
    have hb' : h b = none := by rw [upd_ne _ _ hbb] at hb; exact hb
    refine ⟨SH h b cap (sortL ss).toArray, ?_, ss, hss, .inr ⟨hne, b, cap, hb', hle, rfl, rfl⟩⟩
    intro j o hj
    simp only [SH, upd] at hj ⊢
    split at hj
    · rename_i h0; simp [h0]; exact Option.some.inj hj
    · rename_i h0
      have : j ≠ bx := by rintro rfl; rw [hbx] at hj; cases hj
      simp [h0, this, hj]
theorem clients_c {k tag h sb S} (hS : SrvAt k tag h sb S) (hin : ∀ c ∈ S.cls, inR c.id) (hl : S.cls.length < 1000000000) : ICall Tryz.prog 11 [.ptr sb 0] h (retP (.list .plain ((sortL (S.cls.map (·.id))).map intRow)) h) := by
  refine (clients'_c hS hin hl).fz ?_
  rintro e h' ⟨ss, hss, ⟨rfl, rfl, rfl⟩ | ⟨hne, b, cap, hb, hle, rfl, rfl⟩⟩
  · have : S.cls.map (·.id) = [] := List.nil_perm.1 hss
    rw [this]
    exact .inl ⟨by simp [sortL], rfl⟩
  · refine .inr ⟨_, b, 3, 1, rowsD (sortL ss).toArray, cap, rfl, SH_at _ _ _ _, ?_, ?_⟩
    · have hlen : (rowsD (sortL ss).toArray).length = ss.length := by simp [rowsD, sortL_len]
      simp only [fz3, fz2, fz1, hlen]
      rw [if_pos ⟨trivial, trivial, by omega⟩, List.drop_zero, List.take_of_length_le (by omega), ← sortL_congr hss, rowsD]
    · funext j
      simp only [dropH, SH, upd]
      split
      · rename_i e; rw [e, hb]
      · rfl
end Go.Proofs

set_option linter.unusedVariables false
set_option linter.unusedSimpArgs false
set_option pp.deepTerms false
set_option pp.maxSteps 500
namespace Go.Proofs
open Go.Idl Go.Sort

/-! clients go -/
def detOk (S : SV) (ids : List Int) : Prop := ids.Nodup ∧ ∀ x ∈ ids, ∃ c ∈ S.cls, c.id = x
def detV (S : SV) (ids : List Int) : SV := { S with cls := S.cls.filter fun c => !ids.contains c.id }
theorem ofr_c {h : Heap} {sb : Nat} {S : SV} (h1 : h sb = some (.cells S.cells)) (h2 : h S.mc = some (.map S.clE)) (id : Int) : ICall Tryz.prog 30 [.ptr sb 0, .int .i64 id] h (retP (((S.cls.find? fun c => c.id == id).map fun c => IV.ptr c.cb 0).getD .nilptr) h) := by
  refine icall_of_iwp (fun _ => 0) Tryz.func30 rfl (by kernel_rfl) (Nat.le_of_ble_eq_true rfl) ?_
  rw [Tryz.results30]
  have hq : ifind (.int .i64) (.int .i64 id) S.clE = some ((S.cls.find? fun c => c.id == id).map fun c => IV.ptr c.cb 0) := ifind_k (fun c : Cl => c.id) (fun c : Cl => IV.ptr c.cb 0) id S.cls
  cases hf : S.cls.find? fun c => c.id == id with
  | none =>
    rw [hf] at hq
    simp -implicitDefEqProofs [go_sem, h1, h2, SV.cells, hq]
    exact ⟨_, Sub.refl _, rfl, rfl⟩
  | some c =>
    rw [hf] at hq
    simp -implicitDefEqProofs [go_sem, h1, h2, SV.cells, hq]
    exact ⟨_, Sub.refl _, rfl, rfl⟩
theorem det1_c {h : Heap} {sb qb : Nat} {S : SV} (h1 : h sb = some (.cells S.cells)) (h2 : h S.mc = some (.map S.clE)) (hq : h qb = some (.cells [.ptr sb 0])) (id : Int) :
    ICall Tryz.prog 29 [.int .i64 id, .ptr qb 0] h (retP (.bool (S.cls.find? fun c => c.id == id).isNone) h) := by
  refine icall_of_iwp (fun _ => 0) Tryz.func29 rfl (by kernel_rfl) (Nat.le_of_ble_eq_true rfl) ?_
  rw [Tryz.results29]
  simp -implicitDefEqProofs [go_sem, hq]
  refine (ofr_c h1 h2 id).mono ?_
  rintro e h' ⟨rfl, he⟩
  rw [he]
  cases hf : S.cls.find? fun c => c.id == id with
  | none =>
    simp -implicitDefEqProofs [go_sem]
    exact ⟨_, Sub.refl _, rfl, rfl⟩
  | some c =>
    simp -implicitDefEqProofs [go_sem]
    exact ⟨_, Sub.refl _, rfl, rfl⟩
theorem find_id (S : SV) (x : Int) : (S.cls.find? fun c => c.id == x).isNone = false ↔ ∃ c ∈ S.cls, c.id = x := by
  rw [Bool.eq_false_iff, ne_eq, Option.isNone_iff_eq_none, List.find?_eq_none]
  constructor
  · intro h
    apply Classical.byContradiction
    intro hn
    exact h fun c hc hx => hn ⟨c, hc, by simpa using hx⟩
  · rintro ⟨c, hc, rfl⟩ h
    exact h c hc (by simp)
theorem snoc_out (l : List Int) (x y : Int) : (!(l ++ [x]).contains y) = ((y != x) && !l.contains y) := by
  rw [List.contains_eq_mem, List.contains_eq_mem]
  by_cases h8 : y ∈ l <;> by_cases h9 : y = x <;> simp [h8, h9]
def detR (h : Heap) (S : SV) (ids : List Int) (e : IEnd) (h' : Heap) : Prop :=
  (detOk S ids ∧ e = .ret (.int .i64 0) ∧ h' = upd h S.mc (some (.map (detV S ids).clE))) ∨ (¬ detOk S ids ∧ e = .ret (.int .i64 6) ∧ h' = h)
set_option maxRecDepth 20000 in
set_option maxHeartbeats 4000000 in
theorem detach_c {k tag h sb S} (hS : SrvAt k tag h sb S) (ho : S.ok) (ids : List Int) (hl : ids.length < 100000000) :
    ICall Tryz.prog 10 [.ptr sb 0, .list .plain (ids.map intRow)] h (detR h S ids) := by
  refine icall_of_iwp (fun d => if d = 2 then 1 else 0) Tryz.func10 rfl (by kernel_rfl) (Nat.le_of_ble_eq_true rfl) ?_
  rw [Tryz.results10]
  simp -implicitDefEqProofs [go_sem]
  intro qb hqb
  refine (values_c ids _).mono ?_
  rintro e h' ⟨bx, hbx, rfl, rfl⟩
  simp -implicitDefEqProofs [go_sem]
  refine (sorted_c (values_it (upd_same _ _ _) (by omega)) (by omega) (by rintro ss rfl; exact Nat.le_refl _) rfl).mono ?_
  have hqbx : qb ≠ bx := by rintro rfl; simp [upd] at hbx
  have hHq : (upd (upd h qb (some (.cells [.ptr sb 0]))) bx (some (.cells [.list .plain (ids.map intRow)]))) qb = some (.cells [.ptr sb 0]) := by rw [upd_ne _ _ hqbx, upd_same]
  have hsub : Sub h (upd (upd h qb (some (.cells [.ptr sb 0]))) bx (some (.cells [.list .plain (ids.map intRow)]))) := ((Sub.refl h).upd hqb _).upd (by
    rw [upd_ne _ _ (Ne.symm hqbx)] at hbx; exact hbx) _
  generalize hH : (upd (upd h qb (some (.cells [.ptr sb 0]))) bx (some (.cells [.list .plain (ids.map intRow)]))) = H at *
  clear hH
  have h1 := hsub _ _ hS.hs
  have h2 := hsub _ _ hS.hmc
  rintro e h' ⟨ss, hss, hcase⟩
  rw [hss] at hcase
  clear hss ss
  have hcon := containsFunc_int (l := ids) (f := 29) (first := []) (cap := [.ptr qb 0])
    (Inv := fun i h' => h' = H ∧ ∀ j, j < i → ∀ x, ids[j]? = some x → ∃ c ∈ S.cls, c.id = x) (Hit := fun i h' => h' = H ∧ ∃ x, ids[i]? = some x ∧ ¬ ∃ c ∈ S.cls, c.id = x) (by omega)
    (fun i hi h' hI => by
      obtain ⟨rfl, hI⟩ := hI
      refine (det1_c h1 h2 hHq ids[i]).mono ?_
      rintro e h' ⟨rfl, rfl⟩
      cases hx : (S.cls.find? fun c => c.id == ids[i]).isNone with
      | true => exact .inr ⟨rfl, rfl, ids[i], List.getElem?_eq_getElem hi, fun hc => by rw [(find_id S ids[i]).2 hc] at hx; cases hx⟩
      | false =>
        refine .inl ⟨rfl, rfl, fun j hj x hjx => ?_⟩
        by_cases hji : j < i
        · exact hI j hji x hjx
        · obtain rfl : j = i := by omega
          rw [List.getElem?_eq_getElem hi] at hjx
          cases hjx; exact (find_id S ids[j]).1 hx) H ⟨rfl, fun j hj => by omega⟩
  try simp only [List.nil_append] at hcon
  rcases hcase with ⟨rfl, rfl, hq0⟩ | ⟨hne, b, cp, hb, hle, rfl, rfl⟩
  · rw [hq0]
    simp -implicitDefEqProofs [go_sem]
    refine (compact0_c _).mono ?_
    rintro e h2' ⟨rfl, he⟩
    rw [he]
    simp -implicitDefEqProofs [go_sem]
    refine hcon.mono ?_
    rintro e h2' (⟨rfl, hq1, _⟩ | ⟨i, hi, _⟩)
    rotate_left
    · simp at hi
    rw [hq1]
    simp -implicitDefEqProofs [go_sem]
    refine iwp_loopF (rng [7] 24 44) nom (fun s => s.t 24 = .int .i64 0 ∧ s.h = H) (fun s => 0) ?_ ?_
    · exact ⟨by simp -implicitDefEqProofs [go_sem], by simp -implicitDefEqProofs [go_sem]⟩
    rintro J s hJ hf ⟨h24, hh⟩
    simp -implicitDefEqProofs [go_sem, h24, hh, hf.t, hf.m]
    have hd0 : (detV S []).clE = S.clE := by simp only [detV, SV.clE]; rw [List.filter_eq_self.2 (fun c _ => by simp)]
    refine ⟨upd h S.mc (some (.map (detV S []).clE)), fun j o hj => ?_, .inl ⟨⟨List.nodup_nil, by simp⟩, rfl, rfl⟩⟩
    rw [hd0] at hj
    by_cases e : j = S.mc
    · subst e; rw [upd_same] at hj; rw [h2]; exact hj
    · rw [upd_ne _ _ e] at hj; exact hsub _ _ hj
  · simp -implicitDefEqProofs [go_sem]
    have hsz : (sortL ids).toArray.size = ids.length := by simp [sortL_len]
    have hpos : 0 < ids.length := List.length_pos_iff.2 hne
    have hcc := compact_c (sortL ids).toArray b cp H hb (by omega) (by omega) (by omega)
    rw [hsz] at hcc
    refine hcc.mono ?_
    rintro e h' ⟨hq0, m, rfl, hm1, hm2⟩
    rw [hq0]
    rw [hsz, adj_sort] at hm2
    rw [hsz] at hm1
    by_cases hmn : m < ids.length
    · simp -implicitDefEqProofs [go_sem, hmn]
      exact ⟨h, hsub, .inr ⟨fun hok => (hm2.1 hmn) hok.1, rfl, rfl⟩⟩
    have hnd : ids.Nodup := by
      apply Classical.byContradiction
      exact fun hn => hmn (hm2.2 hn)
    simp -implicitDefEqProofs [go_sem, hmn]
    refine hcon.mono ?_
    rintro e h2' (⟨rfl, hq1, hall⟩ | ⟨i, hi, rfl, hq1, x, hx, hxf⟩)
    all_goals rw [hq1]
    · simp -implicitDefEqProofs [go_sem, hmn]
      have hok : detOk S ids := ⟨hnd, fun x hx => by
        obtain ⟨j, hj, rfl⟩ := List.getElem_of_mem hx
        exact hall j hj _ (List.getElem?_eq_getElem hj)⟩
      have hne1 : sb ≠ S.mc := by rintro e; rw [← e, h1] at h2; cases h2
      have hne2 : qb ≠ S.mc := by rintro e; rw [← e, hHq] at h2; cases h2
      refine iwp_loopF (rng [7] 24 44) nom (fun s => ∃ i : Nat, i ≤ ids.length ∧ s.t 24 = .int .i64 i ∧ s.h = upd H S.mc (some (.map (detV S (ids.take i)).clE))) (fun s => ids.length - tn (s.t 24)) ?_ ?_
      · have hd0 : (detV S []).clE = S.clE := by simp only [detV, SV.clE]; rw [List.filter_eq_self.2 (fun c _ => by simp)]
        refine ⟨0, Nat.zero_le _, by simp -implicitDefEqProofs [go_sem], ?_⟩
        rw [List.take_zero, hd0]
        simp -implicitDefEqProofs [go_sem]
        funext j
        by_cases e : j = S.mc
        · subst e; rw [upd_same, h2]
        · rw [upd_ne _ _ e]
      rintro J s hJ hf ⟨i, hi, h24, hh⟩
      simp -implicitDefEqProofs [go_sem, h24, hf.t, hf.m]
      refine cK_dec (fun hlt => ?_) (fun hge => ?_)
      · have hg : ids[i]? = some ids[i] := List.getElem?_eq_getElem hlt
        have hw := wrap_succ (i := i) (by omega)
        have hdel : idel (.int .i64) (.int .i64 ids[i]) (detV S (ids.take i)).clE = some (detV S (ids.take (i + 1))).clE := by
          have := idel_k (fun c : Cl => c.id) (fun c : Cl => IV.ptr c.cb 0) ids[i] (detV S (ids.take i)).cls ((List.filter_sublist.map _).nodup ho.nd)
          rw [SV.clE, this, SV.clE]
          congr 2
          show List.filter _ (List.filter _ S.cls) = List.filter _ S.cls
          rw [List.filter_filter]
          congr 1
          funext c
          have e1 : ids.take (i + 1) = ids.take i ++ [ids[i]] := by rw [List.take_add_one, hg]; rfl
          rw [e1]
          exact (snoc_out _ _ _).symm
        simp -implicitDefEqProofs [go_sem, h24, hf.t, hf.m, hlt, hg, intRow, hh, hne1, hne2, h1, h2, hHq, hdel, SV.cells, hf, hw]
        exact hJ _ ⟨i + 1, by omega, by simp -implicitDefEqProofs [go_sem], by simp -implicitDefEqProofs [go_sem, hh]⟩ (by simp [go_sem, h24]; omega)
      · obtain rfl : i = ids.length := by omega
        rw [List.take_length] at hh
        simp -implicitDefEqProofs [go_sem, h24, hh, hf.t, hf.m]
        refine ⟨upd h S.mc (some (.map (detV S ids).clE)), fun j o hj => ?_, .inl ⟨hok, rfl, rfl⟩⟩
        by_cases e : j = S.mc
        · subst e; rw [upd_same] at hj ⊢; exact hj
        · rw [upd_ne _ _ e] at hj ⊢; exact hsub _ _ hj
    · simp -implicitDefEqProofs [go_sem, hmn]
      exact ⟨h, hsub, .inr ⟨fun hok => hxf (hok.2 x (List.mem_of_getElem? hx)), rfl, rfl⟩⟩
theorem SrvAt.det {k tag h sb S} (hS : SrvAt k tag h sb S) (ids : List Int) : SrvAt k tag (upd h S.mc (some (.map (detV S ids).clE))) sb (detV S ids) ∧ Frm3 k tag h tag (upd h S.mc (some (.map (detV S ids).clE))) := by
  have kp : ∀ (j : Nat) (o : IObj), h j = some o → tag j ≠ (k + 3, 1, 0) → upd h S.mc (some (.map (detV S ids).clE)) j = some o ∧ tag j = tag j := fun j o hj a => ⟨by rw [upd_ne _ _ (by rintro rfl; exact a hS.tmc)]; exact hj, rfl⟩
  exact ⟨hS.of (fun t => t = (k + 3, 1, 0)) (fun j o hj _ hT => kp j o hj hT) rfl rfl (.inl ⟨by simp, rfl⟩) (.inr ⟨upd_same _ _ _, hS.tmc⟩) (.inl ⟨by simp, rfl⟩)
    (hS.hR.stay fun j o hj ht => kp j o hj (fun e => by rw [e] at ht; simp at ht)) (fun c hc => .inl ⟨(List.mem_filter.1 hc).1, by simp, by simp, by simp⟩) (fun r hr => .inl ⟨hr, by simp⟩), fun j o hj t1 t2 t3 => kp j o hj (fun e => t3 (by rw [e]))⟩
theorem SV.ok.det {S : SV} (ho : S.ok) (ids : List Int) : (detV S ids).ok := ⟨(List.filter_sublist.map _).nodup ho.nd, fun c hc => ho.c0 c (List.mem_filter.1 hc).1, ho.ndr, ho.r0, ho.l0, Nat.le_trans (List.length_filter_le _ _) ho.len, ho.rl⟩
end Go.Proofs

set_option linter.unusedVariables false
set_option linter.unusedSimpArgs false
set_option pp.deepTerms false
set_option pp.maxSteps 500
namespace Go.Proofs
open Go.Idl Go.Shelf

/-! every number's digits; the replies' law -/
theorem tab_named : Tryz.prog.globalNamed "internal/strconv.uint64pow10" = some 2 := by kernel_rfl
end Go.Proofs

set_option linter.unusedVariables false
set_option linter.unusedSimpArgs false
set_option pp.deepTerms false
set_option pp.maxSteps 500
namespace Go.Proofs
open Go.Idl

/-! the document's example of servers -/
def newLine : List UInt8 := [110, 101, 119, 45, 115, 101, 115, 115, 105, 111, 110, 32, 109, 97, 105, 110]
theorem cut24 : wcutV ⟨newLine.toArray⟩ = some [[newB, mainB]] := by decide +kernel
theorem feed24 : feedL ⟨[], 0, false⟩ (frB 1 newLine) = (⟨[], 21, false⟩, [⟨1, ⟨newLine.toArray⟩⟩], 0) := by kernel_rfl
theorem newSrvAt_c (k : Nat) (tag : Nat → Nat × Nat × Nat) (h : Heap) (hfr : ∀ j o, h j = some o → (tag j).1 ≠ k ∧ (tag j).1 ≠ k + 1) : ICall Tryz.prog 8 [.nilfn] h fun e h' =>
    ∃ sb tag' S, e = .ret (.ptr sb 0) ∧ SrvAt k tag' h' sb S ∧ St0 S.R ∧ S.last = 0 ∧ S.cls = [] ∧ S.rps = [] ∧ Frm3 k tag h tag' h' := by
  refine (newSrv_c k tag h hfr).mono ?_
  rintro e h1 ⟨sb, mc, mr, rb, tag1, R, rfl, hR1, hst, hF1, n1, n2, n3, hsb, hmc, hmr, hne, t1, t2, t3⟩
  have d1 : sb ≠ mc := by rintro rfl; rw [hsb] at hmc; cases hmc
  have d2 : sb ≠ mr := by rintro rfl; rw [hsb] at hmr; cases hmr
  have off : ∀ j, (tag1 j).1 ≠ k + 2 → upd (upd (upd tag1 sb (k + 3, 0, 0)) mc (k + 3, 1, 0)) mr (k + 3, 2, 0) j = tag1 j := fun j hj => by
    rw [upd_ne _ _ (by rintro rfl; exact hj t3), upd_ne _ _ (by rintro rfl; exact hj t2), upd_ne _ _ (by rintro rfl; exact hj t1)]
  refine ⟨sb, upd (upd (upd tag1 sb (k + 3, 0, 0)) mc (k + 3, 1, 0)) mr (k + 3, 2, 0), ⟨rb, mc, mr, 0, R, [], []⟩, rfl, ⟨hR1.stay fun j o hj ht => ⟨hj, off j (by omega)⟩, hsb, ?_, hmc, ?_, hmr, upd_same _ _ _, fun c hc => absurd hc (by simp), fun r hr => absurd hr (by simp)⟩, hst, rfl, rfl, rfl, fun j o hj a1 a2 a3 => ?_⟩
  · rw [upd_ne _ _ d2, upd_ne _ _ d1, upd_same]
  · rw [upd_ne _ _ hne, upd_same]
  · obtain ⟨q1, q2⟩ := hF1 j o hj a1 a2
    refine ⟨q1, ?_⟩
    rw [upd_ne _ _ (by rintro rfl; rw [n3] at hj; cases hj), upd_ne _ _ (by rintro rfl; rw [n2] at hj; cases hj), upd_ne _ _ (by rintro rfl; rw [n1] at hj; cases hj)]
    exact q2
def P24 (cb : Nat) (j : Nat) (S : SV) : Prop := (j = 0 → St0 S.R ∧ S.rps = [] ∧ S.ok ∧ ∃ c, S.cls = [c] ∧ c.id = 0 ∧ c.cb = cb ∧ c.seat = -1) ∧ (j = 1 → S.ok ∧ repO S.rps 0 = [out0])
set_option maxRecDepth 20000 in
theorem data24 {k tag h sb S cb db} (hS : SrvAt k tag h sb S) (ho : S.ok) (hst : St0 S.R) (hrp : S.rps = []) (hc : S.cls = [⟨0, cb, db, 0, 0, -1, ⟨[], 0, false⟩⟩]) (B : List UInt8) (LN : ByteArray) (hB : B.length < 1000) (hLN : LN.size < 1000)
    (hfd : feedL ⟨[], 0, false⟩ B = (⟨[], 21, false⟩, [⟨1, LN⟩], 0)) (hcut : wcutV LN = some [[newB, mainB]]) :
    ICall Tryz.prog 15 [.ptr sb 0, .int .i64 0, .list .plain ([B].map brow)] h fun e h' => e = .ret (.int .i64 0) ∧ srvR k tag h sb (fun S' => S'.ok ∧ repO S'.rps 0 = [out0]) h' := by
  have hi2 : S.cls[0]? = some ⟨0, cb, db, 0, 0, -1, ⟨[], 0, false⟩⟩ := by rw [hc]; rfl
  have hfl : [B].flatten = B := by simp
  have hfd2 : feedL ⟨[], 0, false⟩ [B].flatten = (⟨[], 21, false⟩, [⟨1, LN⟩], 0) := by rw [hfl, hfd]
  have hL : (feedL (⟨[], 0, false⟩ : Dec) [B].flatten).2.1 = [⟨1, LN⟩] := by rw [hfd2]
  have hdat := Data_c (c := ⟨0, cb, db, 0, 0, -1, ⟨[], 0, false⟩⟩) hS ho hi2 [B] rfl (by simp) (by rw [hfl]; show 0 + B.length < _; omega) (by rw [hfd2]) (P24 cb) (fun ab cap => ⟨fun _ => ⟨hst, hrp, (ho.setC hi2 _ (by rfl) S.R), _, by rw [hc]; rfl, rfl, rfl, rfl⟩, fun h => by cases h⟩) ?_
  · refine hdat.mono ?_
    rintro e h3 ⟨rfl, tag3, S3, hS3, hP3, hF3⟩
    rw [hL] at hP3
    exact ⟨rfl, tag3, S3, hS3, hP3.2 rfl, hF3⟩
  · intro j hj tag h S' hS' hP'
    have hj0 : j = 0 := by
      have : j < (feedL (⟨[], 0, false⟩ : Dec) [B].flatten).2.1.length := hj
      rw [hL] at this; simpa using this
    subst hj0
    obtain ⟨q1, q2, q3, c, q4, q5, q6, q7⟩ := hP'.1 rfl
    have hci : S'.cls[0]? = some c := by rw [q4]; rfl
    have hx : (feedL (⟨[], 0, false⟩ : Dec) [B].flatten).2.1[0] = ⟨1, LN⟩ := List.getElem_of_eq hL hj
    have hrun := crun_c hS'.hR seat22 [[newB, mainB]] text22 st22 LN (by omega) hcut (by simp) q1 text22_sz (fun i hi tag h R hR hP => by
      match i, hi with
      | 0, _ => exact one_new hR hP)
    have hl1 : ((List.range [[newB, mainB]].length).map fun i => replyV (text22 i) 0) = [out0] := by
      show [replyV text0 0] = _
      rw [out0_eq]
    rw [hl1] at hrun
    have hfc := frame_cmd (c := c) hS' q3 hci ⟨1, LN⟩ (show (1 : UInt8) ≠ 2 by decide) 0 [out0] (by simp) (fun R => True) (by
      rw [q7]
      refine hrun.mono ?_
      rintro e h' ⟨rfl, tag2, R', hR', _, hF⟩
      exact ⟨rfl, tag2, R', hR', trivial, hF⟩)
    subst q6
    show ICall Tryz.prog 36 [.ptr sb 0, .ptr c.cb 0, .agg (frRow (feedL (⟨[], 0, false⟩ : Dec) [B].flatten).2.1[0])] h _
    rw [hx]
    refine hfc.mono ?_
    rintro e h' ⟨rfl, tag', R', hS2, _, hF2⟩
    have ho2 := q3.setC hci { c with seat := 0 } rfl R'
    refine ⟨[out0], by simp, rfl, tag', _, hS2, hF2, ho2, ?_, fun ab cap => ⟨fun h => (by cases h), fun _ => ⟨ho2.rep (by show (0 : Int) ≤ 0; omega) ab cap [out0] ?_, ?_⟩⟩⟩
    · show (repO S'.rps 0 ++ [out0]).length ≤ 1000000000000
      rw [q2]; simp [repO]
    · show (repO S'.rps 0 ++ [out0]).length ≤ 1000000000000
      rw [q2]; simp [repO]
    · show repO (repL S'.rps 0 ab cap [out0]) 0 = [out0]
      rw [q2]; simp [repL, repO]
set_option maxRecDepth 20000 in
set_option maxHeartbeats 1000000 in
theorem awake24_c (h : Heap) : ICall Tryz.prog 12 [] h (retP (.bool true) h) := by
  refine icall_of_iwp (fun _ => 0) Tryz.func12 rfl (by kernel_rfl) (Nat.le_of_ble_eq_true rfl) ?_
  rw [Tryz.results12]
  simp -implicitDefEqProofs [go_sem]
  refine (newSrvAt_c 1 (fun _ => (9, 0, 0)) h (fun _ _ _ => by simp)).mono ?_
  rintro e h1 ⟨sb, tag1, S, rfl, hS1, hst, hl0, hc0, hr0, hF1⟩
  have ho : S.ok := ⟨by simp [hc0], by simp [hc0], by simp [hr0], by simp [hr0], by rw [hl0]; omega, by simp [hc0], by simp [hr0]⟩
  simp -implicitDefEqProofs [go_sem]
  refine (attach_c hS1 ho).mono ?_
  intro e h2 hA
  rw [attR, if_neg (by rw [hc0]; simp), hl0] at hA
  obtain ⟨rfl, tag2, cb, db, hS2, hF2⟩ := hA
  obtain ⟨S2, hS2e⟩ : ∃ S2, attV S cb db = S2 := ⟨_, rfl⟩
  rw [hS2e] at hS2
  have c2 : S2.cls = [⟨0, cb, db, 0, 0, -1, ⟨[], 0, false⟩⟩] := by rw [← hS2e]; simp [attV, hc0, hl0]
  have l2 : S2.last = 1 := by rw [← hS2e]; simp [attV, hl0]
  have r2 : S2.rps = [] := by rw [← hS2e]; exact hr0
  have R2 : St0 S2.R := by rw [← hS2e]; exact hst
  have ho2 : S2.ok := ⟨by simp [c2], by simp [c2, l2], by simp [r2], by simp [r2], by rw [l2]; omega, by simp [c2], by simp [r2]⟩
  simp -implicitDefEqProofs [go_sem]
  have hput := put23_c 1 (by decide) ⟨newLine.toArray⟩ newLine rfl (by decide) h2
  have hfd := feed24
  have hB : (frB 1 newLine).length < 1000 := by decide
  generalize frB 1 newLine = B at *
  refine hput.mono ?_
  rintro e h3 ⟨rfl, he⟩
  rw [he]
  clear he h3
  simp -implicitDefEqProofs [go_sem]
  refine (data24 hS2 ho2 R2 r2 c2 B _ hB (by decide) hfd cut24).mono ?_
  rintro e h3 ⟨rfl, tag3, S3, hS3, ⟨ho3, hr3⟩, hF3⟩
  simp -implicitDefEqProofs [go_sem]
  refine (Take_c hS3 ho3 (id := 0) (by omega)).mono ?_
  rintro e h4 ⟨rfl, hS4, hF4⟩
  rw [hr3]
  simp -implicitDefEqProofs [go_sem]
  have hs := same20_c [out0] [out0] h4 (by simp)
  rw [decide_eq_true rfl] at hs
  refine hs.mono ?_
  rintro e h5 ⟨rfl, he⟩
  rw [he]
  simp -implicitDefEqProofs [go_sem]
  have hF := hF1.trans (hF2.trans (hF3.trans hF4))
  exact ⟨h, fun j o hj => (hF j o hj (by simp) (by simp) (by simp)).1, rfl, rfl⟩
end Go.Proofs

set_option linter.unusedVariables false
set_option linter.unusedSimpArgs false
set_option pp.deepTerms false
set_option pp.maxSteps 500
namespace Go.Proofs
open Go.Idl Go.Sort

/-! the law of the clients' cap -/
def ids64 (i : Nat) : List Int := (List.range i).map fun n : Nat => (n : Int)
theorem ids64_succ (i : Nat) : ids64 (i + 1) = ids64 i ++ [(i : Int)] := by simp [ids64, List.range_succ]
theorem ids64_len (i : Nat) : (ids64 i).length = i := by simp [ids64]
theorem attV_ok {S : SV} (ho : S.ok) (hl : S.cls.length < 64) (hb : S.last < 1000000) (cb db : Nat) : (attV S cb db).ok := by
  refine ⟨?_, fun c hc => ?_, ho.ndr, ho.r0, ?_, ?_, ho.rl⟩
  · show ((S.cls ++ [(⟨S.last, cb, db, 0, 0, -1, ⟨[], 0, false⟩⟩ : Cl)]).map fun c : Cl => c.id).Nodup
    rw [List.map_append]
    refine List.nodup_append.2 ⟨ho.nd, by simp, fun a ha b hb e => ?_⟩
    simp at hb
    obtain ⟨c, hc, rfl⟩ := List.mem_map.1 ha
    have := ho.c0 c hc
    omega
  · rcases List.mem_append.1 hc with h | h
    · have := ho.c0 c h
      show 0 ≤ c.id ∧ c.id < S.last + 1
      omega
    · simp only [List.mem_singleton] at h
      subst h
      have := ho.l0
      show 0 ≤ S.last ∧ S.last < S.last + 1
      omega
  · have := ho.l0
    show 0 ≤ S.last + 1 ∧ S.last + 1 < 1000000000000
    omega
  · show (S.cls ++ [_]).length ≤ 64
    simp; omega
set_option maxRecDepth 20000 in
set_option maxHeartbeats 4000000 in
theorem srvCap_c (g : UInt8) (h : Heap) : ICall Tryz.prog 4 [.int .u8 g.toNat] h (retP (.bool true) h) := by
  refine icall_of_iwp (fun _ => 0) Tryz.func4 rfl (by kernel_rfl) (Nat.le_of_ble_eq_true rfl) ?_
  rw [Tryz.results4]
  simp -implicitDefEqProofs [go_sem]
  refine (newSrvAt_c 1 (fun _ => (9, 0, 0)) h (fun _ _ _ => by simp)).mono ?_
  rintro e h1 ⟨sb, tag1, S, rfl, hS1, hst, hl0, hc0, hr0, hF1⟩
  have ho : S.ok := ⟨by simp [hc0], by simp [hc0], by simp [hr0], by simp [hr0], by rw [hl0]; omega, by simp [hc0], by simp [hr0]⟩
  simp -implicitDefEqProofs [go_sem]
  refine iwp_loopF (rng [4, 5, 6] 13 28) nom (fun s => ∃ (i : Nat) (tag : Nat → Nat × Nat × Nat) (S : SV), i ≤ 64 ∧ s.t 4 = .int .i64 i ∧ SrvAt 1 tag s.h sb S ∧ S.ok ∧ S.last = i ∧ S.cls.map (·.id) = ids64 i ∧ Frm3 1 (fun _ => (9, 0, 0)) h tag s.h) (fun s => 64 - tn (s.t 4)) ?_ ?_
  · exact ⟨0, tag1, S, by omega, by simp -implicitDefEqProofs [go_sem], by simpa -implicitDefEqProofs [go_sem] using hS1, ho, hl0, by rw [hc0]; rfl, by simpa -implicitDefEqProofs [go_sem] using hF1⟩
  rintro J s hJ hf ⟨i, tag2, S2, hi, h4, hS2, ho2, hl2, hc2, hF2⟩
  have hlen : S2.cls.length = i := by have := congrArg List.length hc2; rw [ids64_len] at this; simpa using this
  simp -implicitDefEqProofs [go_sem, h4, hf.t, hf.m]
  refine cK_dec (fun hlt => ?_) (fun hge => ?_)
  · have hlt' : i < 64 := by omega
    have hw := wrap_succ (i := i) (by omega)
    simp -implicitDefEqProofs [go_sem, h4, hf.t, hf.m]
    refine (attach_c hS2 ho2).mono ?_
    intro e h3 hA
    rw [attR, if_neg (by omega), hl2] at hA
    obtain ⟨rfl, tag3, cb, db, hS3, hF3⟩ := hA
    simp -implicitDefEqProofs [go_sem, h4, hf.t, hf.m, hf, hw]
    refine hJ _ ⟨i + 1, tag3, _, by omega, by simp -implicitDefEqProofs [go_sem, hw], by simpa -implicitDefEqProofs [go_sem] using hS3, attV_ok ho2 (by omega) (by omega) cb db, by show S2.last + 1 = _; rw [hl2]; omega, ?_, by simpa -implicitDefEqProofs [go_sem] using hF2.trans hF3⟩ (by simp [go_sem, h4, hw]; omega)
    rw [ids64_succ, ← hc2, ← hl2]
    show (S2.cls ++ [(⟨S2.last, cb, db, 0, 0, -1, ⟨[], 0, false⟩⟩ : Cl)]).map (fun c : Cl => c.id) = _
    rw [List.map_append]; rfl
  obtain rfl : i = 64 := by omega
  simp -implicitDefEqProofs [go_sem, h4, hf.t, hf.m]
  refine (attach_c hS2 ho2).mono ?_
  intro e h3 hA
  rw [attR, if_pos (by omega)] at hA
  obtain ⟨rfl, he3⟩ := hA
  rw [he3]
  clear he3 h3
  have hg := g.toNat_lt
  have hgm : (g.toNat : Int).tmod 64 = ((g.toNat % 64 : Nat) : Int) := by rw [Int.tmod_eq_emod_of_nonneg (by omega)]; omega
  have hwi : IntKind.i64.wrap ((g.toNat % 64 : Nat) : Int) = ((g.toNat % 64 : Nat) : Int) := wrap_in (by omega)
  obtain ⟨G, hG⟩ : ∃ G : Nat, g.toNat % 64 = G := ⟨_, rfl⟩
  have hG64 : G < 64 := by omega
  rw [hG] at hgm hwi
  simp -implicitDefEqProofs [go_sem, hgm, hwi, hf.t, hf.m]
  have hdt := detach_c hS2 ho2 [(G : Int)] (by simp)
  refine hdt.mono ?_
  have hmem : ∀ x, x ∈ S2.cls.map (fun c : Cl => c.id) ↔ x ∈ ids64 64 := fun x => by rw [hc2]
  have hok : detOk S2 [(G : Int)] := ⟨by simp, fun x hx => by
    simp only [List.mem_singleton] at hx
    subst hx
    obtain ⟨c, hc, e⟩ := List.mem_map.1 ((hmem (G : Int)).2 (List.mem_map.2 ⟨G, List.mem_range.2 hG64, rfl⟩))
    exact ⟨c, hc, e⟩⟩
  rintro e h3 (⟨_, rfl, rfl⟩ | ⟨hno, _⟩)
  rotate_left
  · exact absurd hok hno
  have hS3 := hS2.det [(G : Int)]
  have ho3 := ho2.det [(G : Int)]
  obtain ⟨H3, hH3⟩ : ∃ H3, upd s.h S2.mc (some (.map (detV S2 [(G : Int)]).clE)) = H3 := ⟨_, rfl⟩
  rw [hH3] at hS3 ⊢
  have hc3 : (detV S2 [(G : Int)]).cls.map (fun c : Cl => c.id) = (ids64 64).filter fun x => x != (G : Int) := by
    show (S2.cls.filter _).map _ = _
    rw [← hc2, List.filter_map]
    congr 1
    apply List.filter_congr
    intro c _
    show (!List.contains [(G : Int)] c.id) = (c.id != (G : Int))
    by_cases h : c.id = (G : Int) <;> simp [h]
  have hl3 : (detV S2 [(G : Int)]).cls.length = 63 := by
    have h1 := congrArg List.length hc3
    rw [List.length_map] at h1
    rw [h1]
    have hnd : (ids64 64).Nodup := by rw [← hc2]; exact ho2.nd
    have h2 : (ids64 64).filter (fun x => x != (G : Int)) = (ids64 64).erase (G : Int) := by rw [hnd.erase_eq_filter]
    rw [h2, List.length_erase_of_mem ((hmem (G : Int)).1 (List.mem_map.2 (by
      obtain ⟨c, hc, e⟩ := hok.2 (G : Int) (by simp)
      exact ⟨c, hc, e⟩))), ids64_len]
  simp -implicitDefEqProofs [go_sem, h4, hf.t, hf.m]
  refine (attach_c hS3.1 ho3).mono ?_
  intro e h5 hA
  have hl64 : (detV S2 [(G : Int)]).last = 64 := hl2
  rw [attR, if_neg (by omega), hl64] at hA
  obtain ⟨rfl, tag5, cb, db, hS5, hF5⟩ := hA
  simp -implicitDefEqProofs [go_sem, h4, hf.t, hf.m]
  have ho5 := attV_ok ho3 (by omega) (by omega) cb db
  refine (clients_c hS5 (fun c hc => by have := ho5.c0 c hc; have h6 : (attV (detV S2 [(G : Int)]) cb db).last = 65 := by show (detV S2 [(G : Int)]).last + 1 = 65; omega
                                        unfold inR; omega) (by have := ho5.len; omega)).mono ?_
  rintro e h6 ⟨rfl, he⟩
  rw [he]
  have hl5 : (sortL ((attV (detV S2 [(G : Int)]) cb db).cls.map (·.id))).length = 64 := by
    rw [sortL_len, List.length_map]
    show (List.length ((detV S2 [(G : Int)]).cls ++ [_])) = 64
    rw [List.length_append, hl3]; rfl
  simp -implicitDefEqProofs [go_sem, h4, hf.t, hf.m, hl5]
  refine (awake24_c _).mono ?_
  rintro e h7 ⟨rfl, he⟩
  rw [he]
  simp -implicitDefEqProofs [go_sem]
  have hF := hF2.trans (hS3.2.trans hF5)
  exact ⟨h, fun j o hj => (hF j o hj (by simp) (by simp) (by simp)).1, rfl, rfl⟩
theorem capH_c (a : Int) (ha : 0 ≤ a ∧ a ≤ 255) (h : Heap) : ICall Tryz.prog 4 [.int .u8 a] h (retP (.bool true) h) := by
  have e : (((UInt8.ofNat a.toNat).toNat : Nat) : Int) = a := by simp; omega
  have := srvCap_c (UInt8.ofNat a.toNat) h
  rw [e] at this; exact this
end Go.Proofs

set_option linter.unusedVariables false
set_option linter.unusedSimpArgs false
namespace Go.Proofs.YtejjnaibgimiaaaGreatDoor
open Go.Idl Go.ChangeShapes Go.WideShapes Go.ChangeAt Go.RowKit Go.Proofs

/-! what the rows of this seat share: the variables laid; nothing goes -/
theorem goes_none : (Tryz.prog.funcs.toList.all fun fn => !Func.goes fn) = true := by kernel_rfl
theorem goesBy_false {P : Program} (h : (P.funcs.toList.all fun fn => !Func.goes fn) = true) (c : OpenClaim) (hs : c.start = .entering) : false = c.goesBy P := by
  have h1 : ∀ g : Nat, (P.funcs[g]?).any Func.goes = false := fun g => by
    cases hg : P.funcs[g]? with
    | none => rfl
    | some fn =>
      have := List.all_eq_true.1 h fn (Array.mem_toList_iff.2 (Array.mem_of_getElem? hg))
      simpa using this
  have h2 : P.funcs.any Func.goes = false := by
    rw [← Array.any_toList, List.any_eq_false]
    intro fn hf
    have := List.all_eq_true.1 h fn hf
    simpa using this
  have h3 : ∀ f, P.goes f = false := fun f => by
    unfold Program.goes
    rw [h2, Bool.and_false, Bool.or_false, List.any_eq_false]
    intro g _
    rw [h1]; simp
  unfold OpenClaim.goesBy Program.goesAt Program.goesFrom
  rw [hs]
  cases P.funcNamed c.func with
  | none => rfl
  | some f => simp [h3]
theorem own : ownKnob Tryz.prog.godebug = none := by kernel_rfl
def laidL : List (String × DataW Unit) := Rows.serverNilRow.laid
def plainL : List (String × DataW Unit) := laidL.filter fun x => x.2.handleName?.isNone
noncomputable def w1 (os : Os) : World :=
  let w0 := World.holding Tryz.prog os ⟨#[], #[], []⟩
  { w0 with heap := w0.heap.modify 0 fun
      | .cells _ t frozen => .cells #[.iface 214 (.agg #[typeHandle Tryz.prog 47])] t frozen
      | o => o }
noncomputable def laidW (os : Os) : World := (w1 os).layVars Tryz.prog plainL
theorem laidMet_on {P : Program} {w0 : World} {laid : List (String × DataW Unit)} (hf : w0.layFits P laid [] = true) (hi : w0.layIfaces P laid (w0.layVars P laid) = true) : laidMet P laid (w0.layVars P laid) := by
  have e1 : (laid.filter fun x => (laid.map (·.1)).contains x.1) = laid := List.filter_eq_self.2 fun x hx => List.contains_iff_mem.2 (List.mem_map.2 ⟨x, hx, rfl⟩)
  have e2 : (laid.filter fun x => !(laid.map (·.1)).contains x.1) = [] := List.filter_eq_nil_iff.2 fun x hx => by rw [List.contains_iff_mem.2 (List.mem_map.2 ⟨x, hx, rfl⟩)]; simp
  exact laidMet_layVars (w0 := w0) (laid.map (·.1)) [] (by rw [e1]) (by rw [e1]; exact hf) (by rw [e1]; exact hi) (by rw [e2]; exact LaidIn.none)
set_option maxRecDepth 100000 in
theorem laidW_met (os : Os) : laidMetH Tryz.prog laidL (laidW os) :=
  laidMetH_of_parts (laidMet_on (w0 := w1 os) (by kernel_rfl) (by kernel_rfl)) (by kernel_rfl)
theorem laidW_os (os : Os) : (laidW os).os = os := (World.layVars_os _ _ _).trans rfl
theorem laidW_in (os : Os) (args : Array Value) : laidMetH Tryz.prog laidL ((laidW os).forCall (fun _ _ => 0) ⟨#[], args, []⟩).memory :=
  (laidW_met os).of_heap (by simp [World.memory, World.forCall, Input.heap])
def tabG : Nat := 2
theorem tab_met {W : World} (h : laidMetH Tryz.prog laidL W) : Lib.TabIs Tryz.prog W "internal/strconv.uint64pow10" .u64 Lib.pow10Tab := by
  have h1 := (laidMetH_iff.1 h).1.filter fun x => x.1 == "internal/strconv.uint64pow10"
  have e : ((laidL.filter fun x => x.2.handleName?.isNone).filter fun x => x.1 == "internal/strconv.uint64pow10") = [("internal/strconv.uint64pow10", Lib.tabData .u64 Lib.pow10Tab)] := by kernel_rfl
  rw [e] at h1
  exact Lib.tabIs_of_head (g := tabG) (t := 417) (e := 268) (n := 20) (by kernel_rfl) (by kernel_rfl) (by kernel_rfl) (by kernel_rfl) (by kernel_rfl) (by kernel_rfl) h1
def hT : Heap := upd (fun _ => none) tabG (some (.froz (Lib.pow10Tab.map (IV.int .u64))))
theorem rep_tab {F : Nat → Nat → Prop} {w : World} : ∀ (l : List Int), RepAll F w (l.map (IV.int .u64)) (l.map (Value.int .u64))
  | [] => rfl
  | z :: l => ⟨_, _, rfl, rfl, rep_tab l⟩
theorem hrelT {W : World} (h : laidMetH Tryz.prog laidL W) : HRel (oldF W) (fun _ => False) hT W := by
  have ht := tab_met h
  have hv := ht
  unfold Lib.TabIs World.var? at hv
  rw [tab_named, Option.bind_some] at hv
  refine ⟨fun b o hb => ?_, fun b o h => h.elim, fun b h => h.elim, fun b o h => h⟩
  by_cases e : b = tabG
  · subst e
    rw [hT, upd_same] at hb
    cases hb
    have hlt : tabG < W.heap.size := by
      cases hq : W.heap[tabG]? with
      | none => rw [show (2 : Nat) = tabG from rfl, hq] at hv; cases hv
      | some o => exact (Array.getElem?_eq_some_iff.1 hq).1
    refine ⟨trivial, Lib.pow10Tab.map (Value.int .u64), fun j v hj => ⟨hlt, ?_, ?_⟩, rep_tab _, by simp [Lib.pow10Tab], fun o => hlt, ?_⟩
    · have := World.var?_cell tab_named ht j
      rw [Nat.zero_add]
      simpa [hj, tabG] using this
    · simp only [List.getElem?_map, Option.map_eq_some_iff] at hj
      obtain ⟨z, _, rfl⟩ := hj; rfl
    · cases hq : W.heap[tabG]? with
      | none => rw [show (2 : Nat) = tabG from rfl, hq] at hv; cases hv
      | some o =>
        rw [show (2 : Nat) = tabG from rfl, hq] at hv
        cases o <;> first | (cases hv; done) | skip
        rename_i cs t fr
        simp only [Option.some.injEq] at hv
        subst hv
        exact ⟨t, fr, rfl⟩
  · rw [hT, upd_ne _ _ e] at hb; cases hb
end Go.Proofs.YtejjnaibgimiaaaGreatDoor
