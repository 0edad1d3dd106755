/- This text is a part of the proofs of the statements of this seat: the ideal states and their rules, or what one of the functions that the statements reach comes to. Conditions: none beyond those that each theorem names. -/
import Derived.Test.YtejjnaibgimiaaaGreatDoorIdl6
import Derived.Recover
set_option linter.unusedVariables false
set_option linter.unusedSimpArgs false
namespace Go.Idl
/-! calls in a drawn region that may turn the heap, or end in a panic: what is pure, and loads of the body's own, may pass them -/
def isCallV (o : Oper) : Bool := match o.op with | .call c => (match c.callee with | .value _ => true | _ => false) | _ => false
def is10 (hint : Nat → Nat) (o : Oper) : Bool := match o.op with | .call c => (match c.callee with | .value _ => o.dst.any fun d => decide (hint d = 10) | _ => false) | _ => false
/-- a box that is made in the heap: what is pure, and loads, may pass it -/
def isBox1 (hint : Nat → Nat) (o : Oper) : Bool := match o.op, o.dst with | .box _ _, some d => decide (hint d = 1) | _, _ => false
def indepC (hint : Nat → Nat) (ops : Array Oper) (p q : Oper) : Bool := (indep hint ops p q || (p.apart ops q && (isCallV q && (decide (kd hint p = 0) || is8 hint p || (isLoad p && is10 hint q))))) || (p.apart ops q && (isBox1 hint q && (decide (kd hint p = 0) || isLoad p)))
theorem rd_sub {st : St} {h' : Heap} (hs : ∀ b o, st.h b = some o → h' b = some o) : ∀ (y : IV) (k : Nat) (r : List IV), st.rd y k = some r → ({ st with h := h' } : St).rd y k = some r := by
  intro y k r h
  cases y with
  | ptr b o =>
    simp only [St.rd] at h ⊢
    cases hb : st.h b with
    | none => rw [hb] at h; cases h
    | some ob => rw [hb] at h; rw [hs b ob hb]; exact h
  | aptr z b i o =>
    simp only [St.rd] at h ⊢
    cases hb : st.h b with
    | none => rw [hb] at h; cases h
    | some ob => rw [hb] at h; rw [hs b ob hb]; exact h
  | _ => exact h
/-- a panic's end does not hang on the temporaries -/
def panQ (Q : IExit → St → Prop) : Prop := ∀ v st d x, Q (.panic v) (St.put st d x) → Q (.panic v) st
def chkOrdC (hint : Nat → Nat) (ops : Array Oper) (bs : List (List Nat)) : List Nat → Bool
  | [] => true
  | i :: r => (r.all fun j => (bs.getD j []).contains i || (match ops[i]?, ops[j]? with | some p, some q => indepC hint ops p q | _, _ => false)) && chkOrdC hint ops bs r
def chkC (hint : Nat → Nat) (ops : Array Oper) (ord : List Nat) : Bool := chkS ops ord && chkOrdC hint ops (befs ops.toList.reverse) ord

theorem chkOrdC_pairwise {hint : Nat → Nat} {ops : Array Oper} {bs : List (List Nat)} : ∀ (l : List Nat), chkOrdC hint ops bs l = true →
    l.Pairwise fun i j => i ∈ bs.getD j [] ∨ ∃ p q, ops[i]? = some p ∧ ops[j]? = some q ∧ indepC hint ops p q = true
  | [], _ => .nil
  | i :: r, h => by
    simp only [chkOrdC, Bool.and_eq_true, List.all_eq_true] at h
    refine .cons (fun j hj => ?_) (chkOrdC_pairwise r h.2)
    have := h.1 j hj
    simp only [Bool.or_eq_true, List.contains_iff_mem] at this
    rcases this with h1 | h1
    · exact .inl h1
    · split at h1
      · rename_i p q hp hq; exact .inr ⟨p, q, hp, hq, h1⟩
      · cases h1

theorem dop_swapC {P : Program} {hint : Nat → Nat} {ops : Array Oper} {p q : Oper} {st : St} {K : St → Prop} {Q : IExit → St → Prop} (hQ : panQ Q) (hap : p.apart ops q = true) (hc : isCallV q = true) (hk : kd hint q = 3) (hp0 : (kd hint p = 0 ∨ is8 hint p = true) ∨ (isLoad p = true ∧ is10 hint q = true))
    (h : dop P hint ops.toList p st (fun s => dop P hint ops.toList q s K Q) Q) : dop P hint ops.toList q st (fun s => dop P hint ops.toList p s K Q) Q := by
  obtain ⟨a1, a2, a3⟩ := Oper.apart_spec hap
  have hp1 : kd hint p ≤ 1 := by rcases hp0 with (h | h) | h; omega; exact kd_is8 h; exact kd_load h.1
  rw [dop_low hp1] at h
  obtain ⟨vp, h1, h2⟩ := h
  have wq : wnt ops.toList (st.put p.dst vp) q = wnt ops.toList st q := wnt_congr fun t ht => put_t_ne _ _ _ _ (fun e => a1 t e ht)
  have eq : ∀ x ∈ q.op.operands, (st.put p.dst vp).ev x = st.ev x := ev_put_apart st p.dst vp a1
  have pst : ∀ st', st'.m = st.m → (∀ t, q.dst ≠ some t → st'.t t = st.t t) → (is10 hint q = true → ∀ y k r, st.rd y k = some r → st'.rd y k = some r) → pstep P hint ops.toList st' p vp := fun st' hm hf hrd => by
    have hw' : wnt ops.toList st' p = wnt ops.toList st p := wnt_congr fun t ht => hf t (fun e => a3 t e ht)
    have hev : ∀ x ∈ p.op.operands, st'.ev x = st.ev x := fun x hx => by
      cases x with
      | tmp t => exact hf t (fun e => a3 t e (mem_looks hx))
      | _ => rfl
    rcases h1 with ⟨k1, k2⟩ | ⟨k1, k2⟩
    · rcases hp0 with (hp0 | hl8) | ⟨hl, h10⟩
      · exact .inl ⟨hw'.trans k1, Yld.congr (hint := hint) (.inl ⟨hp0, fun s g => by unfold live; rw [hm]⟩) hev k2.1, own8_congr hev k2.2⟩
      · exact .inl ⟨hw'.trans k1, Yld.load8 hl8 hm hev k2.1 k2.2, own8_congr hev k2.2⟩
      · exact .inl ⟨hw'.trans k1, Yld.load hl (hrd h10) hev k2.1, own8_congr hev k2.2⟩
    · exact .inr ⟨hw'.trans k1, k2⟩
  have goon : ∀ (h' : Heap) (u : IV), (is10 hint q = true → ∀ b o, st.h b = some o → h' b = some o) → K ((({ st.put p.dst vp with h := h' } : St)).put q.dst u) → dop P hint ops.toList p (({ st with h := h' } : St).put q.dst u) K Q := fun h' u hgr hK => by
    refine (dop_low hp1).2 ⟨vp, pst _ (put_m _ _ _) (fun t ht => put_t_ne _ _ _ _ ht) (fun h10 y k r hr => by have := rd_sub (hgr h10) y k r hr; unfold St.rd at this ⊢; rw [put_m, put_h]; exact this), ?_⟩
    rw [put_comm _ u vp (fun d e e2 => a2 d e2 e)]
    have e1 : ({ st.put p.dst vp with h := h' } : St) = ({ st with h := h' } : St).put p.dst vp := by cases p.dst <;> rfl
    rw [← e1]; exact hK
  unfold dop at h2 ⊢
  rw [wq] at h2
  cases hw : wnt ops.toList st q with
  | none => rw [hw] at h2; exact h2.elim
  | some b =>
    rw [hw] at h2
    cases b with
    | false =>
      simp only at h2 ⊢
      have e0 : ({ st.put p.dst vp with h := st.h } : St) = st.put p.dst vp := by cases p.dst <;> rfl
      exact goon st.h (.tup []) (fun _ _ _ h => h) (by rw [e0]; exact h2)
    | true =>
      simp only [hk] at h2 ⊢
      rw [if_neg (by omega)] at h2 ⊢
      obtain ⟨h29, h2⟩ := h2
      refine ⟨sto9_congr (fun x hx => (eq x hx).symm) h29, ?_⟩
      obtain ⟨dst, op, ty, pos, after, guard⟩ := q
      cases op <;> simp [isCallV] at hc
      rename_i c
      obtain ⟨callee, args, tys⟩ := c
      cases callee <;> simp at hc
      rename_i f
      simp only [iop] at h2 ⊢
      have hf : calleeOf (st.put p.dst vp) f = calleeOf st f := by unfold calleeOf; rw [eq f (by simp [Op.operands, Call.operands])]
      by_cases h13 : dst.any (hint · = 13) = true
      · rw [if_pos h13] at h2 ⊢
        rw [hf] at h2
        cases hcf : calleeOf st f with
        | none => rw [hcf] at h2; exact h2.elim
        | some y =>
          obtain ⟨g, first, cap⟩ := y
          rw [hcf] at h2
          simp only at h2 ⊢
          have ha : (args.toList.map fun x => strip ((st.put p.dst vp).ev x)) = args.toList.map fun x => strip (st.ev x) :=
            List.map_congr_left fun x hx => by rw [eq x (by simp [Op.operands, Call.operands, Array.mem_toList_iff.1 hx])]
          rw [ha, put_h] at h2
          obtain ⟨v, hE, hK⟩ := h2
          have e0 : ({ st.put p.dst vp with h := st.h } : St) = st.put p.dst vp := by cases p.dst <;> rfl
          exact ⟨v, hE, goon st.h v (fun _ _ _ h => h) (by rw [e0]; exact hK)⟩
      rw [if_neg h13] at h2 ⊢
      rw [hf] at h2
      cases hcf : calleeOf st f with
      | none => rw [hcf] at h2; exact h2.elim
      | some y =>
        obtain ⟨g, first, cap⟩ := y
        rw [hcf] at h2
        simp only at h2 ⊢
        have ha : (args.toList.map fun x => sa (dst.any (hint · = 5)) ((st.put p.dst vp).ev x)) = args.toList.map fun x => sa (dst.any (hint · = 5)) (st.ev x) :=
          List.map_congr_left fun x hx => by rw [eq x (by simp [Op.operands, Call.operands, Array.mem_toList_iff.1 hx])]
        rw [ha, put_h] at h2
        refine h2.mono ?_
        intro ie h' hr
        obtain ⟨hgr, hr⟩ := hr
        refine ⟨hgr, ?_⟩
        cases ie with
        | ret v => exact goon h' v (fun h10 => hgr (by simpa [is10] using h10)) hr
        | pan v =>
          refine hQ v _ p.dst vp ?_
          have e1 : ({ st with h := h' } : St).put p.dst vp = ({ st.put p.dst vp with h := h' } : St) := by cases p.dst <;> rfl
          rw [e1]; exact hr

theorem dop_swapB {P : Program} {hint : Nat → Nat} {ops : Array Oper} {p q : Oper} {st : St} {K : St → Prop} {Q : IExit → St → Prop} (hap : p.apart ops q = true) (hb : isBox1 hint q = true) (hp0 : kd hint p = 0 ∨ isLoad p = true)
    (h : dop P hint ops.toList p st (fun s => dop P hint ops.toList q s K Q) Q) : dop P hint ops.toList q st (fun s => dop P hint ops.toList p s K Q) Q := by
  obtain ⟨a1, a2, a3⟩ := Oper.apart_spec hap
  have hp1 : kd hint p ≤ 1 := by rcases hp0 with h | h; omega; exact kd_load h
  rw [dop_low hp1] at h
  obtain ⟨vp, h1, h2⟩ := h
  have wq : wnt ops.toList (st.put p.dst vp) q = wnt ops.toList st q := wnt_congr fun t ht => put_t_ne _ _ _ _ (fun e => a1 t e ht)
  have eq : ∀ x ∈ q.op.operands, (st.put p.dst vp).ev x = st.ev x := ev_put_apart st p.dst vp a1
  have pst : ∀ st', st'.m = st.m → (∀ t, q.dst ≠ some t → st'.t t = st.t t) → (∀ y k r, st.rd y k = some r → st'.rd y k = some r) → pstep P hint ops.toList st' p vp := fun st' hm hf hrd => by
    have hw' : wnt ops.toList st' p = wnt ops.toList st p := wnt_congr fun t ht => hf t (fun e => a3 t e ht)
    have hev : ∀ x ∈ p.op.operands, st'.ev x = st.ev x := fun x hx => by
      cases x with
      | tmp t => exact hf t (fun e => a3 t e (mem_looks hx))
      | _ => rfl
    rcases h1 with ⟨k1, k2⟩ | ⟨k1, k2⟩
    · rcases hp0 with hp0 | hl
      · exact .inl ⟨hw'.trans k1, Yld.congr (hint := hint) (.inl ⟨hp0, fun s g => by unfold live; rw [hm]⟩) hev k2.1, own8_congr hev k2.2⟩
      · exact .inl ⟨hw'.trans k1, Yld.load hl hrd hev k2.1, own8_congr hev k2.2⟩
    · exact .inr ⟨hw'.trans k1, k2⟩
  have goon : ∀ (h' : Heap) (u : IV), (∀ b o, st.h b = some o → h' b = some o) → K ((({ st.put p.dst vp with h := h' } : St)).put q.dst u) → dop P hint ops.toList p (({ st with h := h' } : St).put q.dst u) K Q := fun h' u hgr hK => by
    refine (dop_low hp1).2 ⟨vp, pst _ (put_m _ _ _) (fun t ht => put_t_ne _ _ _ _ ht) (fun y k r hr => by have := rd_sub hgr y k r hr; unfold St.rd at this ⊢; rw [put_m, put_h]; exact this), ?_⟩
    rw [put_comm _ u vp (fun d e e2 => a2 d e2 e)]
    have e1 : ({ st.put p.dst vp with h := h' } : St) = ({ st with h := h' } : St).put p.dst vp := by cases p.dst <;> rfl
    rw [← e1]; exact hK
  unfold dop at h2 ⊢
  rw [wq] at h2
  cases hw : wnt ops.toList st q with
  | none => rw [hw] at h2; exact h2.elim
  | some b =>
    rw [hw] at h2
    cases b with
    | false =>
      simp only at h2 ⊢
      have e0 : ({ st.put p.dst vp with h := st.h } : St) = st.put p.dst vp := by cases p.dst <;> rfl
      exact goon st.h (.tup []) (fun _ _ h => h) (by rw [e0]; exact h2)
    | true =>
      obtain ⟨dst, op, ty, pos, after, guard⟩ := q
      cases op <;> simp [isBox1] at hb
      rename_i e x
      cases dst with
      | none => simp at hb
      | some d =>
        have hd : hint d = 1 := by simpa using hb
        have hk : kd hint ⟨some d, .box e x, ty, pos, after, guard⟩ = 3 := rfl
        simp only [hk] at h2 ⊢
        rw [if_neg (by omega)] at h2 ⊢
        obtain ⟨h29, h2⟩ := h2
        refine ⟨sto9_congr (fun x hx => (eq x hx).symm) h29, ?_⟩
        simp only [iop, hd, if_true] at h2 ⊢
        rw [eq x (by simp [Op.operands]), put_h] at h2
        refine ⟨h2.1, fun b hb => ?_⟩
        exact goon _ _ (fun b' o hb' => by
          show upd st.h b _ b' = some o
          unfold upd
          rw [if_neg (by rintro rfl; rw [hb] at hb'; cases hb')]; exact hb') (h2.2 b hb)

theorem dops_frontC {P : Program} {hint : Nat → Nat} {ops : Array Oper} {K : St → Prop} {Q : IExit → St → Prop} {q : Oper} (hQ : panQ Q) : ∀ (l1 l2 : List Oper) (st : St), (∀ p ∈ l1, indepC hint ops p q = true) →
    dops P hint ops.toList (l1 ++ q :: l2) st K Q → dop P hint ops.toList q st (fun s => dops P hint ops.toList (l1 ++ l2) s K Q) Q
  | [], l2, st, _, h => h
  | p :: l1, l2, st, hi, h => by
    have hpq := hi p List.mem_cons_self
    have ih := fun st => dops_frontC (P := P) (K := K) (Q := Q) (ops := ops) (hint := hint) (q := q) hQ l1 l2 st (fun p hp => hi p (List.mem_cons_of_mem _ hp))
    simp only [indepC, Bool.or_eq_true] at hpq
    rcases hpq with (hpq | hpq) | hpq
    · simp only [indep, Bool.and_eq_true, Bool.or_eq_true, decide_eq_true_eq] at hpq
      have hk1 : kd hint p ≤ 1 := by rcases hpq.2 with h | ⟨(h | h) | h, _⟩; exact h.1; omega; exact kd_load h.1; exact kd_is8 h.1
      have h1 : dop P hint ops.toList p st (fun s => dop P hint ops.toList q s (fun s => dops P hint ops.toList (l1 ++ l2) s K Q) Q) Q := dop_mono_low hk1 (fun s hs => ih s hs) h
      exact dop_swap hpq.1 hpq.2 h1
    · simp only [Bool.and_eq_true, Bool.or_eq_true, decide_eq_true_eq] at hpq
      obtain ⟨hap, hc, hp0⟩ := hpq
      have hk1 : kd hint p ≤ 1 := by rcases hp0 with (h | h) | h; omega; exact kd_is8 h; exact kd_load h.1
      have h1 : dop P hint ops.toList p st (fun s => dop P hint ops.toList q s (fun s => dops P hint ops.toList (l1 ++ l2) s K Q) Q) Q := dop_mono_low hk1 (fun s hs => ih s hs) h
      have hkq : kd hint q = 1 ∨ kd hint q = 3 := by
        obtain ⟨dst, op, ty, pos, after, guard⟩ := q
        cases op <;> simp [isCallV] at hc
        rename_i c
        obtain ⟨callee, args, tys⟩ := c
        cases callee <;> simp at hc
        simp only [kd]; split <;> omega
      rcases hkq with hkq | hkq
      · exact dop_swap hap (.inl ⟨hk1, by omega⟩) h1
      · exact dop_swapC hQ hap hc hkq hp0 h1
    · simp only [Bool.and_eq_true, Bool.or_eq_true, decide_eq_true_eq] at hpq
      obtain ⟨hap, hc, hp0⟩ := hpq
      have hk1 : kd hint p ≤ 1 := by rcases hp0 with h | h; omega; exact kd_load h
      have h1 : dop P hint ops.toList p st (fun s => dop P hint ops.toList q s (fun s => dops P hint ops.toList (l1 ++ l2) s K Q) Q) Q := dop_mono_low hk1 (fun s hs => ih s hs) h
      exact dop_swapB hap hc hp0 h1

theorem drawn_call {c : Ctx} {hint : Nat → Nat} {id : Nat} {ops : Array Oper} {ord : List Nat} (hm : c.P.follows .mixedOrders = true) (hc : chkC hint ops ord = true) {st : St} {a : Act} {w : World} {K : St → Prop} {Q : IExit → St → Prop} {Q' : Exit → Act → World → Prop} (hpq : panQ Q)
    (hok : ∀ o ∈ ops.toList, okOper c.N o = true) (hs : Sim c st a w) (h : dops c.P hint ops.toList (ord.filterMap (ops[·]?)) st K Q)
    (hK : ∀ st a w, Sim c st a w → K st → Q' .normal a w) (hQ : ∀ ie st e a w, Q ie st → ExRel c ie st e a w → Q' e a w) : (Code.region id ops true).wp c.P Q' a w := by
  simp only [chkC, Bool.and_eq_true] at hc
  have hpw := chkOrdC_pairwise _ hc.2
  refine drawn_gen (hint := hint) hm hc.1 hok hs (fun L st => dops c.P hint ops.toList (L.filterMap (ops[·]?)) st K Q) h ?_ (fun st h => h) hK hQ
  intro L1 L2 i o st a w hsub ho hdep hs h
  have hpwL := hpw.sublist hsub
  have hfm : (L1 ++ i :: L2).filterMap (ops[·]?) = L1.filterMap (ops[·]?) ++ o :: L2.filterMap (ops[·]?) := by
    rw [List.filterMap_append, List.filterMap_cons, ho]
  rw [hfm] at h
  have h2 := dops_frontC hpq (L1.filterMap (ops[·]?)) (L2.filterMap (ops[·]?)) st (fun op hop => by
    obtain ⟨p, hp, hpo⟩ := List.mem_filterMap.1 hop
    have hR := (List.pairwise_append.1 hpwL).2.2 p hp i List.mem_cons_self
    rcases hR with hR | ⟨p', q', k1, k2, k3⟩
    · exact absurd hR (hdep p hp)
    · rw [ho] at k2; cases k2; rw [k1] at hpo; cases hpo; exact k3) h
  rw [← List.filterMap_append] at h2
  exact h2

/-- where a panic leaves the body, its own variables count no more -/
def panM (Q : IExit → St → Prop) : Prop := ∀ v (st : St) m, Q (.panic v) { st with m := m } → Q (.panic v) st
theorem alloc_swapC {P : Program} {hint : Nat → Nat} {ops : Array Oper} {al q : Oper} {st : St} {K : St → Prop} {Q : IExit → St → Prop} (hQ : panQ Q) (hM : panM Q) (ha : isAll hint al = true) (hap : al.apart ops q = true) (hc : isCallV q = true) (hk : kd hint q = 3)
    (h : dop P hint ops.toList al st (fun s => dop P hint ops.toList q s K Q) Q) : dop P hint ops.toList q st (fun s => dop P hint ops.toList al s K Q) Q := by
  obtain ⟨a1, a2, a3⟩ := Oper.apart_spec hap
  obtain ⟨d, e, hd, hop, hiff⟩ := dop_all (P := P) (all := ops.toList) (st := st) (K := fun s => dop P hint ops.toList q s K Q) (Q := Q) ha
  obtain ⟨z, hz, hone, h2⟩ := hiff.1 h
  rw [hd] at a1 a2
  obtain ⟨st1, hst1⟩ : ∃ s1 : St, s1 = (({ st with m := upd st.m d (some (ngen st d, z.cells.toList.map cv)) } : St).put (some d) (.loc d (ngen st d) 0)) := ⟨_, rfl⟩
  rw [← hst1] at h2
  have hh1 : st1.h = st.h := by rw [hst1, put_h]
  have eq : ∀ x ∈ q.op.operands, st1.ev x = st.ev x := fun x hx => by
    rw [hst1, ev_put_apart _ (some d) _ a1 x hx]; cases x <;> rfl
  have wq : wnt ops.toList st1 q = wnt ops.toList st q := by
    rw [hst1, wnt_congr (st := { st with m := upd st.m d (some (ngen st d, z.cells.toList.map cv)) }) fun t ht => put_t_ne _ _ _ _ (fun e => a1 t e ht)]
    rfl
  have goon : ∀ (h' : Heap) (u : IV), K (({ st1 with h := h' } : St).put q.dst u) → dop P hint ops.toList al (({ st with h := h' } : St).put q.dst u) K Q := fun h' u hK => by
    obtain ⟨d', e', hd', hop', hiff'⟩ := dop_all (P := P) (all := ops.toList) (st := ({ st with h := h' } : St).put q.dst u) (K := K) (Q := Q) ha
    rw [hd] at hd'; cases hd'
    rw [hop] at hop'; cases hop'
    refine hiff'.2 ⟨z, hz, hone, ?_⟩
    have hng : ngen (({ st with h := h' } : St).put q.dst u) d = ngen st d := by unfold ngen; rw [put_m]
    rw [hng, put_m]
    have e1 : ({ ({ st with h := h' } : St).put q.dst u with m := upd ({ st with h := h' } : St).m d (some (ngen st d, z.cells.toList.map cv)) } : St) = ({ st with h := h', m := upd st.m d (some (ngen st d, z.cells.toList.map cv)) } : St).put q.dst u := by cases q.dst <;> rfl
    rw [e1, put_comm _ u (.loc d (ngen st d) 0) (fun t e => fun e2 => a2 t e2 (by rw [e]))]
    have e2 : ({ st1 with h := h' } : St) = ({ st with h := h', m := upd st.m d (some (ngen st d, z.cells.toList.map cv)) } : St).put (some d) (.loc d (ngen st d) 0) := by rw [hst1]; rfl
    rw [← e2]; exact hK
  unfold dop at h2 ⊢
  rw [wq] at h2
  cases hw : wnt ops.toList st q with
  | none => rw [hw] at h2; exact h2.elim
  | some b =>
    rw [hw] at h2
    cases b with
    | false =>
      simp only at h2 ⊢
      have e0 : ({ st1 with h := st.h } : St) = st1 := by rw [← hh1]
      exact goon st.h (.tup []) (by rw [e0]; exact h2)
    | true =>
      simp only [hk] at h2 ⊢
      rw [if_neg (by omega)] at h2 ⊢
      obtain ⟨h29, h2⟩ := h2
      refine ⟨sto9_congr (fun x hx => (eq x hx).symm) h29, ?_⟩
      obtain ⟨dst, op, ty, pos, after, guard⟩ := q
      cases op <;> simp [isCallV] at hc
      rename_i c
      obtain ⟨callee, args, tys⟩ := c
      cases callee <;> simp at hc
      rename_i f
      simp only [iop] at h2 ⊢
      have hf : calleeOf st1 f = calleeOf st f := by unfold calleeOf; rw [eq f (by simp [Op.operands, Call.operands])]
      by_cases h13 : dst.any (hint · = 13) = true
      · rw [if_pos h13] at h2 ⊢
        rw [hf] at h2
        cases hcf : calleeOf st f with
        | none => rw [hcf] at h2; exact h2.elim
        | some y =>
          obtain ⟨g, first, cap⟩ := y
          rw [hcf] at h2
          simp only at h2 ⊢
          have ha : (args.toList.map fun x => strip (st1.ev x)) = args.toList.map fun x => strip (st.ev x) :=
            List.map_congr_left fun x hx => by rw [eq x (by simp [Op.operands, Call.operands, Array.mem_toList_iff.1 hx])]
          rw [ha, hh1] at h2
          obtain ⟨v, hE, hK⟩ := h2
          have e0 : ({ st1 with h := st.h } : St) = st1 := by rw [← hh1]
          exact ⟨v, hE, goon st.h v (by rw [e0]; exact hK)⟩
      rw [if_neg h13] at h2 ⊢
      rw [hf] at h2
      cases hcf : calleeOf st f with
      | none => rw [hcf] at h2; exact h2.elim
      | some y =>
        obtain ⟨g, first, cap⟩ := y
        rw [hcf] at h2
        simp only at h2 ⊢
        have ha : (args.toList.map fun x => sa (dst.any (hint · = 5)) (st1.ev x)) = args.toList.map fun x => sa (dst.any (hint · = 5)) (st.ev x) :=
          List.map_congr_left fun x hx => by rw [eq x (by simp [Op.operands, Call.operands, Array.mem_toList_iff.1 hx])]
        rw [ha, hh1] at h2
        refine h2.mono ?_
        intro ie h' hr
        obtain ⟨hgr, hr⟩ := hr
        refine ⟨hgr, ?_⟩
        cases ie with
        | ret v => exact goon h' v hr
        | pan v =>
          refine hM v _ (upd st.m d (some (ngen st d, z.cells.toList.map cv))) (hQ v _ (some d) (.loc d (ngen st d) 0) ?_)
          rw [hst1] at hr
          exact hr
def chkAC (hint : Nat → Nat) (ops : Array Oper) (a0 : Nat) (ord : List Nat) : Bool :=
  chkS ops (a0 :: ord) && (chkOrdC hint ops (befs ops.toList.reverse) ord && (match ops[a0]? with
    | some al => isAll hint al && ord.all fun j => ((befs ops.toList.reverse).getD j []).contains a0 || (match ops[j]? with | some q => al.apart ops q && (decide (kd hint q ≤ 1) || (isCallV q && decide (kd hint q = 3))) | none => false)
    | none => false))
theorem drawn_allocC {c : Ctx} {hint : Nat → Nat} {id : Nat} {ops : Array Oper} {a0 : Nat} {ord : List Nat} (hm : c.P.follows .mixedOrders = true) (hc : chkAC hint ops a0 ord = true) {st : St} {a : Act} {w : World} {K : St → Prop} {Q : IExit → St → Prop} {Q' : Exit → Act → World → Prop} (hpq : panQ Q) (hpm : panM Q)
    (hok : ∀ o ∈ ops.toList, okOper c.N o = true) (hs : Sim c st a w) (h : dops c.P hint ops.toList ((a0 :: ord).filterMap (ops[·]?)) st K Q)
    (hK : ∀ st a w, Sim c st a w → K st → Q' .normal a w) (hQ : ∀ ie st e a w, Q ie st → ExRel c ie st e a w → Q' e a w) : (Code.region id ops true).wp c.P Q' a w := by
  simp only [chkAC, Bool.and_eq_true] at hc
  obtain ⟨hcS, hcO, hcA⟩ := hc
  have hpw := chkOrdC_pairwise _ hcO
  refine drawn_gen (hint := hint) hm hcS hok hs (fun L st => dops c.P hint ops.toList (L.filterMap (ops[·]?)) st K Q) h ?_ (fun st h => h) hK hQ
  clear hs h
  intro L1 L2 i o st a w hsub ho hdep hs h9
  have plain : ∀ (L1 : List Nat) st, (L1 ++ i :: L2).Sublist ord → (∀ p ∈ L1, p ∉ (befs ops.toList.reverse).getD i []) → dops c.P hint ops.toList ((L1 ++ i :: L2).filterMap (ops[·]?)) st K Q →
      dop c.P hint ops.toList o st (fun s => dops c.P hint ops.toList ((L1 ++ L2).filterMap (ops[·]?)) s K Q) Q := by
    intro L1 st hsub hdep h
    have hpwL := hpw.sublist hsub
    have hfm : (L1 ++ i :: L2).filterMap (ops[·]?) = L1.filterMap (ops[·]?) ++ o :: L2.filterMap (ops[·]?) := by
      rw [List.filterMap_append, List.filterMap_cons, ho]
    rw [hfm] at h
    have h2 := dops_frontC hpq (L1.filterMap (ops[·]?)) (L2.filterMap (ops[·]?)) st (fun op hop => by
      obtain ⟨p, hp, hpo⟩ := List.mem_filterMap.1 hop
      have hR := (List.pairwise_append.1 hpwL).2.2 p hp i List.mem_cons_self
      rcases hR with hR | ⟨p', q', k1, k2, k3⟩
      · exact absurd hR (hdep p hp)
      · rw [ho] at k2; cases k2; rw [k1] at hpo; cases hpo; exact k3) h
    rw [← List.filterMap_append] at h2
    exact h2
  generalize hLL : L1 ++ i :: L2 = LL at hsub
  cases hsub with
  | cons _ hsub => subst hLL; exact plain L1 st hsub hdep h9
  | cons_cons _ hsub =>
    rename_i LL'
    cases L1 with
    | nil =>
      simp only [List.nil_append, List.cons.injEq] at hLL
      obtain ⟨rfl, rfl⟩ := hLL
      simp only [List.nil_append, List.filterMap_cons, ho] at h9 ⊢
      exact h9
    | cons x L1 =>
      simp only [List.cons_append, List.cons.injEq] at hLL
      obtain ⟨rfl, rfl⟩ := hLL
      cases hal : ops[x]? with
      | none => rw [hal] at hcA; cases hcA
      | some al =>
        rw [hal] at hcA
        simp only [Bool.and_eq_true, List.all_eq_true] at hcA
        obtain ⟨hisA, hall⟩ := hcA
        have hi := hall i (hsub.subset (by simp))
        have hnb := hdep x List.mem_cons_self
        have hnb' : ((befs ops.toList.reverse).getD i []).contains x = false := by
          cases hcx : ((befs ops.toList.reverse).getD i []).contains x with
          | false => rfl
          | true => exact absurd (List.contains_iff_mem.1 hcx) hnb
        rw [hnb', ho] at hi
        simp only [Bool.false_or, Bool.and_eq_true, Bool.or_eq_true, decide_eq_true_eq] at hi
        have hmem : o ∈ ops.toList := by
          have := List.mem_of_getElem? (l := ops.toList) (i := i) (a := o) (by simpa using ho); exact this
        have hoo := hok o hmem
        have h3 : dop c.P hint ops.toList al st (fun s => dops c.P hint ops.toList ((L1 ++ i :: L2).filterMap (ops[·]?)) s K Q) Q := by
          simp only [List.cons_append, List.filterMap_cons, hal] at h9; exact h9
        obtain ⟨d, e, hd, hop, _⟩ := dop_all (P := c.P) (all := ops.toList) (st := st) (K := fun _ => True) (Q := Q) hisA
        have h4 : dop c.P hint ops.toList al st (fun s => dop c.P hint ops.toList o s (fun s => dops c.P hint ops.toList ((L1 ++ L2).filterMap (ops[·]?)) s K Q) Q) Q := by
          obtain ⟨d1, e1, hd1, hop1, hiff1⟩ := dop_all (P := c.P) (all := ops.toList) (st := st) (K := fun s => dops c.P hint ops.toList ((L1 ++ i :: L2).filterMap (ops[·]?)) s K Q) (Q := Q) hisA
          obtain ⟨d2, e2, hd2, hop2, hiff2⟩ := dop_all (P := c.P) (all := ops.toList) (st := st) (K := fun s => dop c.P hint ops.toList o s (fun s => dops c.P hint ops.toList ((L1 ++ L2).filterMap (ops[·]?)) s K Q) Q) (Q := Q) hisA
          rw [hd1] at hd2; cases hd2
          rw [hop1] at hop2; cases hop2
          obtain ⟨z, hz, hone, hk⟩ := hiff1.1 h3
          exact hiff2.2 ⟨z, hz, hone, plain L1 _ hsub (fun p hp => hdep p (List.mem_cons_of_mem _ hp)) hk⟩
        have h5 := (show dop c.P hint ops.toList o st (fun s => dop c.P hint ops.toList al s (fun s => dops c.P hint ops.toList ((L1 ++ L2).filterMap (ops[·]?)) s K Q) Q) Q from by
         rcases hi.2 with hi2 | hi2
         · exact alloc_swap hisA hi.1 hi2 (fun y hy d' hd' off hyl => by
          obtain ⟨g, hg, _⟩ := hs
          have hlt : opLt c.N y = true := by
            simp only [okOper, Bool.and_eq_true, ltOp, Array.all_eq_true_iff_forall_mem] at hoo
            exact hoo.1 y hy
          have := hg.ev hlt
          rw [hyl] at this
          obtain ⟨g0, cs, k1, k2, _⟩ := this
          simp only [ngen, k1] at k2
          omega) h4
         · exact alloc_swapC hpq hpm hisA hi.1 hi2.1 hi2.2 h4)
        simp only [List.cons_append, List.filterMap_cons, hal]; exact h5

/-! a drawn region, every order walked: no operation need pass another -/
inductive Tr where
  | done : Tr
  | none : Tr
  | alt (i : Nat) (next rest : Tr) : Tr
deriving DecidableEq
def rdyA (bs : List (List Nat)) (L : List Nat) (i : Nat) : Bool := (L.takeWhile fun p => p != i).all fun p => !(bs.getD i []).contains p
def mkTr (bs : List (List Nat)) : Nat → List Nat → Tr
  | 0, _ => .done
  | n + 1, L => (L.filter (rdyA bs L)).foldr (fun i r => .alt i (mkTr bs n (L.erase i)) r) .none
def dTr (P : Program) (hint : Nat → Nat) (ops : Array Oper) : Tr → St → (St → Prop) → (IExit → St → Prop) → Prop
  | .done, st, K, _ => K st
  | .none, _, _, _ => True
  | .alt i next rest, st, K, Q => (∃ o, ops[i]? = some o ∧ dop P hint ops.toList o st (fun s => dTr P hint ops next s K Q) Q) ∧ dTr P hint ops rest st K Q
def chkT (ops : Array Oper) (ord : List Nat) (t : Tr) : Bool := chkS ops ord && decide (mkTr (befs ops.toList.reverse) ord.length ord = t)
theorem dTr_head {P : Program} {hint : Nat → Nat} {ops : Array Oper} {f : Nat → Tr} {K : St → Prop} {Q : IExit → St → Prop} {st : St} {i : Nat} : ∀ (l : List Nat), dTr P hint ops (l.foldr (fun i r => .alt i (f i) r) .none) st K Q → i ∈ l →
    ∃ o, ops[i]? = some o ∧ dop P hint ops.toList o st (fun s => dTr P hint ops (f i) s K Q) Q
  | [], _, hi => by cases hi
  | j :: l, h, hi => by
    simp only [List.foldr_cons, dTr] at h
    rcases List.mem_cons.1 hi with e | hi
    · subst e; exact h.1
    · exact dTr_head l h.2 hi
theorem drawn_tree {c : Ctx} {hint : Nat → Nat} {id : Nat} {ops : Array Oper} {ord : List Nat} {t : Tr} (hm : c.P.follows .mixedOrders = true) (hc : chkT ops ord t = true) {st : St} {a : Act} {w : World} {K : St → Prop} {Q : IExit → St → Prop} {Q' : Exit → Act → World → Prop}
    (hok : ∀ o ∈ ops.toList, okOper c.N o = true) (hs : Sim c st a w) (h : dTr c.P hint ops t st K Q)
    (hK : ∀ st a w, Sim c st a w → K st → Q' .normal a w) (hQ : ∀ ie st e a w, Q ie st → ExRel c ie st e a w → Q' e a w) : (Code.region id ops true).wp c.P Q' a w := by
  simp only [chkT, Bool.and_eq_true, decide_eq_true_eq] at hc
  obtain ⟨hc, rfl⟩ := hc
  have hnd : ord.Nodup := by simp only [chkS, Bool.and_eq_true, decide_eq_true_eq] at hc; exact hc.1.1.2
  refine drawn_gen (hint := hint) hm hc hok hs (fun L st => dTr c.P hint ops (mkTr (befs ops.toList.reverse) L.length L) st K Q) h ?_ (fun st h => h) hK hQ
  intro L1 L2 i o st a w hsub ho hdep hs h
  have hndL := hnd.sublist hsub
  have hi1 : i ∉ L1 := fun h1 => (List.nodup_append.1 hndL).2.2 i h1 i List.mem_cons_self rfl
  have hlen : (L1 ++ i :: L2).length = (L1 ++ L2).length + 1 := by simp; omega
  have her : (L1 ++ i :: L2).erase i = L1 ++ L2 := by rw [List.erase_append_right _ hi1]; simp
  have htw : (L1 ++ i :: L2).takeWhile (fun p => p != i) = L1 := by
    rw [List.takeWhile_append_of_pos (fun p hp => by simp; rintro rfl; exact hi1 hp)]
    simp
  rw [hlen, mkTr] at h
  obtain ⟨o', ho', hd⟩ := dTr_head _ h (i := i) (List.mem_filter.2 ⟨by simp, by
    rw [rdyA, htw, List.all_eq_true]
    intro p hp
    have := hdep p hp
    simpa using this⟩)
  rw [ho] at ho'; cases ho'
  rw [her] at hd
  exact hd
/-- a drawn region, listed in an order that the checker takes -/
def dR (P : Program) (hint : Nat → Nat) (ops : Array Oper) (st : St) (K : St → Prop) (Q : IExit → St → Prop) : Prop :=
  P.follows .mixedOrders = true ∧ ((∃ ord, chk hint ops ord = true ∧ dops P hint ops.toList (ord.filterMap (ops[·]?)) st K Q) ∨
    (∃ a0 ord, chkA hint ops a0 ord = true ∧ dops P hint ops.toList ((a0 :: ord).filterMap (ops[·]?)) st K Q) ∨
    (∃ ord, chkC hint ops ord = true ∧ panQ Q ∧ dops P hint ops.toList (ord.filterMap (ops[·]?)) st K Q) ∨
    (∃ a0 ord, chkAC hint ops a0 ord = true ∧ panQ Q ∧ panM Q ∧ dops P hint ops.toList ((a0 :: ord).filterMap (ops[·]?)) st K Q) ∨
    ∃ ord t, chkT ops ord t = true ∧ dTr P hint ops t st K Q)

def seqQ (k : St → Prop) (Q : IExit → St → Prop) : IExit → St → Prop
  | .normal, s => k s
  | e, s => Q e s
def blockQ (id : Nat) (Q : IExit → St → Prop) : IExit → St → Prop
  | .exit i, s => if i = id then Q .normal s else Q (.exit i) s
  | e, s => Q e s

def iwp (P : Program) (hint : Nat → Nat) : Code → (IExit → St → Prop) → St → Prop
  | .skip, Q, st => Q .normal st
  | .region _ ops false, Q, st => iops P hint ops.toList ops.toList st (fun s => Q .normal s) Q
  | .region _ ops true, Q, st => dR P hint ops st (fun s => Q .normal s) Q
  | .seq a b, Q, st => iwp P hint a (seqQ (iwp P hint b Q) Q) st
  | .cond x a b, Q, st =>
    match st.ev x with
    | .bool t => condK t fun t => if t = true then iwp P hint a Q st else iwp P hint b Q st
    | _ => False
  | .block id a, Q, st => iwp P hint a (blockQ id Q) st
  | .loop a, Q, st => ∃ (I : St → Prop) (μ : St → Nat), I st ∧ ∀ s, I s → iwp P hint a (seqQ (fun s' => I s' ∧ μ s' < μ s) Q) s
  | .exit id, Q, st => Q (.exit id) st
  | .scope a, Q, st => iwp P hint a Q st
  | .ret, Q, st => Q .ret st
  | _, _, _ => False

def okCode (N : Nat) : Code → Bool
  | .region _ ops _ => ops.all (okOper N)
  | .seq a b => okCode N a && okCode N b
  | .cond x a b => opLt N x && okCode N a && okCode N b
  | .block _ a => okCode N a
  | .loop a => okCode N a
  | .scope a => okCode N a
  | _ => true

theorem iwp_sound {c : Ctx} {hint : Nat → Nat} : ∀ (cd : Code) (Q : IExit → St → Prop) (st : St) (a : Act) (w : World), okCode c.N cd = true → Sim c st a w → iwp c.P hint cd Q st → cd.wp c.P (RPost c Q) a w := by
  intro cd
  induction cd with
  | skip => intro Q st a w _ hs h; exact wp_skip ⟨.normal, st, h, hs⟩
  | region id ops draw =>
    intro Q st a w hok hs h
    have hok' : ∀ o ∈ ops.toList, okOper c.N o = true := by
      simp only [okCode, Array.all_eq_true_iff_forall_mem] at hok
      exact fun o ho => hok o (Array.mem_toList_iff.1 ho)
    cases draw with
    | true =>
      obtain ⟨hm, ⟨ord, hc, h⟩ | ⟨a0, ord, hc, h⟩ | ⟨ord, hc, hpq, h⟩ | ⟨a0, ord, hc, hpq, hpm, h⟩ | ⟨ord, t, hc, h⟩⟩ := h
      · exact drawn_sound hm hc hok' hs h (fun st a w hs h => ⟨.normal, st, h, hs⟩) (fun ie st e a w hq he => ⟨ie, st, hq, he⟩)
      · exact drawn_alloc hm hc hok' hs h (fun st a w hs h => ⟨.normal, st, h, hs⟩) (fun ie st e a w hq he => ⟨ie, st, hq, he⟩)
      · exact drawn_call hm hc hpq hok' hs h (fun st a w hs h => ⟨.normal, st, h, hs⟩) (fun ie st e a w hq he => ⟨ie, st, hq, he⟩)
      · exact drawn_allocC hm hc hpq hpm hok' hs h (fun st a w hs h => ⟨.normal, st, h, hs⟩) (fun ie st e a w hq he => ⟨ie, st, hq, he⟩)
      · exact drawn_tree hm hc hok' hs h (fun st a w hs h => ⟨.normal, st, h, hs⟩) (fun ie st e a w hq he => ⟨ie, st, hq, he⟩)
    | false =>
    refine wp_region ?_
    have := iops_sound (Q' := RPost c Q) hok' (fun st a w hs h => ⟨.normal, st, h, hs⟩) (fun ie st e a w hq he => ⟨ie, st, hq, he⟩) ops.toList 0 st a w (by simp) hs h
    simpa [List.range_eq_range'] using this
  | seq x y ihx ihy =>
    intro Q st a w hok hs h
    simp only [okCode, Bool.and_eq_true] at hok
    refine wp_seq (wp_mono (ihx _ st a w hok.1 hs h) ?_)
    intro e a' w' ⟨ie, st', hq, he⟩
    cases ie <;> cases e <;> first | exact he.elim | skip
    · exact ihy Q st' a' w' hok.2 he hq
    · exact ⟨_, _, hq, he⟩
    · exact ⟨_, _, hq, he⟩
    · exact ⟨_, _, hq, he⟩
  | cond x p q ihp ihq =>
    intro Q st a w hok hs h
    simp only [okCode, Bool.and_eq_true] at hok
    simp only [iwp] at h
    split at h
    · rename_i t ht
      have hv : a.eval x = .bool t := by
        obtain ⟨g, hg, _⟩ := hs
        have := hg.ev hok.1.1
        rw [ht] at this; exact this
      cases t
      · exact wp_cond hv (ihq Q st a w hok.2 hs (by simpa using h.2 rfl))
      · exact wp_cond hv (ihp Q st a w hok.1.2 hs (by simpa using h.1 rfl))
    · exact h.elim
  | block id x ih =>
    intro Q st a w hok hs h
    refine wp_block (wp_mono (ih _ st a w hok hs h) ?_)
    intro e a' w' ⟨ie, st', hq, he⟩
    cases ie <;> cases e <;> first | exact he.elim | skip
    · exact ⟨_, _, hq, he⟩
    · rename_i i j
      obtain ⟨rfl, he⟩ := he
      simp only [blockQ] at hq
      simp only [Exit.inBlock]
      split
      · rename_i hi; rw [if_pos hi] at hq; exact ⟨.normal, st', hq, he⟩
      · rename_i hi; rw [if_neg hi] at hq; exact ⟨.exit i, st', hq, rfl, he⟩
    · exact ⟨_, _, hq, he⟩
    · exact ⟨_, _, hq, he⟩
  | loop x ih =>
    intro Q st a w hok hs h
    obtain ⟨I, μ, h0, hround⟩ := h
    -- a measure on the real states is not at hand: by induction on the ideal one
    intro b k cs
    have key : ∀ n st a w, μ st = n → I st → Sim c st a w →
        ∃ e a' w', RPost c Q e a' w' ∧ Arrives c.P (lone (b.at a (.code x :: .inLoop x :: k)) cs w) b k cs e a' w' := by
      intro n
      induction n using Nat.strongRecOn with
      | _ n ihn =>
        intro st a w hn hI hs
        obtain ⟨e, a₁, w₁, hq, harr⟩ := ih _ st a w hok hs (hround st hI) b (.inLoop x :: k) cs
        obtain ⟨ie, st', hq, he⟩ := hq
        cases ie <;> cases e <;> first | exact he.elim | skip
        · obtain ⟨hI₁, hlt⟩ := hq
          obtain ⟨e₂, a₂, w₂, hq₂, harr₂⟩ := ihn (μ st') (hn ▸ hlt) st' a₁ w₁ rfl hI₁ he
          exact ⟨e₂, a₂, w₂, hq₂, .of_steps (Steps.trans harr (.one step_inLoop)) harr₂⟩
        · exact ⟨_, a₁, w₁, ⟨_, _, hq, he⟩, .pass (x := .inLoop x) rfl (fun _ _ => .inl (by simp)) harr⟩
        · exact ⟨_, a₁, w₁, ⟨_, _, hq, he⟩, .pass (x := .inLoop x) rfl (fun _ _ => .inl (by simp)) harr⟩
        · exact ⟨_, a₁, w₁, ⟨_, _, hq, he⟩, .pass (x := .inLoop x) rfl (fun _ _ => .inl (by simp)) harr⟩
    obtain ⟨e, a', w', hq, harr⟩ := key _ st a w rfl h0 hs
    exact ⟨e, a', w', hq, .of_steps (.one step_loop) harr⟩
  | exit id => intro Q st a w _ hs h; exact wp_exit ⟨.exit id, st, h, rfl, hs⟩
  | scope x ih =>
    intro Q st a w hok hs h
    refine wp_scope_straight (wp_mono (ih Q st a w hok hs h) ?_)
    intro e a' w' hq
    cases e <;> first | exact hq | (obtain ⟨ie, st', _, he⟩ := hq; cases ie <;> exact he.elim)
  | ret => intro Q st a w _ hs h; exact wp_ret ⟨.ret, st, h, hs⟩
  | _ => intro Q st a w _ _ h; exact h.elim
/-- what a body's results are -/
def ires (P : Program) (st : St) : List ResultVar → Option (List IV)
  | [] => some []
  | .tmp t :: rest => (ires P st rest).map (strip (st.t t) :: ·)
  | .cell t ty :: rest =>
    match pop P st (.load ty (.tmp t)) with
    | some v => (ires P st rest).map (strip v :: ·)
    | none => none

def packI : List IV → IV
  | [x] => x
  | xs => .tup xs

def Sub (h h' : Heap) : Prop := ∀ b o, h b = some o → h' b = some o

theorem Sub.refl (h : Heap) : Sub h h := fun _ _ h => h
theorem Sub.upd {h h' : Heap} {b : Nat} (hs : Sub h h') (hb : h b = none) (o : Option IObj) : Sub h (upd h' b o) := by
  intro b' o' h1
  simp only [Idl.upd]
  split
  · rename_i e; subst e; rw [hb] at h1; cases h1
  · exact hs _ _ h1

/-- behind a body -/
def ipost (P : Program) (rs : List ResultVar) (R : IEnd → Heap → Prop) : IExit → St → Prop
  | .normal, st => vK ((ires P st rs).map packI) fun v => ∃ h', Sub h' st.h ∧ R (.ret v) h'
  | .ret, st => vK ((ires P st rs).map packI) fun v => ∃ h', Sub h' st.h ∧ R (.ret v) h'
  | .panic v, st => ∃ h', Sub h' st.h ∧ R (.pan v) h'
  | .exit _, _ => False

def resLt (N : Nat) : ResultVar → Bool
  | .tmp t => decide (t < N)
  | .cell t _ => decide (t < N)

def resOf (tmps : Array Value) : ResultVar → Sem Value
  | .tmp t => pure (tmps.getD t undef)
  | .cell x t => do loadVar t (← asAddr (tmps.getD x undef))

theorem ires_run {P N B ds g st a w} (h : Core P N B ds g st a w) : ∀ (rs : List ResultVar) (vs : List IV), rs.all (resLt N) = true → ires P st rs = some vs →
    ∃ us : List Value, (rs.mapM (resOf a.tmps)).run P w = .ok us w ∧ RepAll g.F w vs us
  | [], vs, _, hi => by simp [ires] at hi; subst hi; exact ⟨[], by simp, rfl⟩
  | .tmp t :: rest, vs, hlt, hi => by
    simp only [List.all_cons, Bool.and_eq_true, resLt, decide_eq_true_eq] at hlt
    simp only [ires, Option.map_eq_some_iff] at hi
    obtain ⟨vs', h1, rfl⟩ := hi
    obtain ⟨us, h2, h3⟩ := ires_run h rest vs' hlt.2 h1
    have h0 : (resOf a.tmps (.tmp t)).run P w = .ok (a.tmps.getD t undef) w := rfl
    exact ⟨a.tmps.getD t undef :: us, by simp only [List.mapM_cons, Sem.run_bind, h0, Result.andThen_ok, h2]; rfl, _, _, rfl, (h.tm t hlt.1).strip, h3⟩
  | .cell t ty :: rest, vs, hlt, hi => by
    simp only [List.all_cons, Bool.and_eq_true, resLt, decide_eq_true_eq] at hlt
    simp only [ires] at hi
    split at hi
    · rename_i v hv
      simp only [Option.map_eq_some_iff] at hi
      obtain ⟨vs', h1, rfl⟩ := hi
      obtain ⟨us, h2, h3⟩ := ires_run h rest vs' hlt.2 h1
      obtain ⟨u, h4, h5⟩ := pop_sound h ⟨none, .load ty (.tmp t), 0, "", #[], none⟩ (by simp [ltOp, Op.operands, opLt]; exact hlt.1) hv
      refine ⟨u :: us, ?_, _, _, rfl, h5.strip, h3⟩
      have h6 : ∃ ad, a.tmps.getD t undef = .pointer (some ad) := by
        have h9 := h.tm t hlt.1
        simp only [pop] at hv
        have hrd : ∀ k cs, st.rd (st.t t) k = some cs → ∃ ad, a.tmps.getD t undef = .pointer (some ad) := fun k cs hr => by
          obtain ⟨ad, vals, h10, _⟩ := h.rd h9 hr; exact ⟨ad, h10⟩
        split at hv
        · obtain ⟨cs, hcs, _⟩ := Option.map_eq_some_iff.1 hv
          exact hrd _ _ hcs
        · split at hv
          · rename_i hc; exact hrd _ _ hc
          · cases hv
        · cases hv
      obtain ⟨ad, h6⟩ := h6
      have h7 : (loadVar ty ad).run P w = .ok u w := by
        have h8 : (execOp a.eval ⟨none, .load ty (.tmp t), 0, "", #[], none⟩).run P w = ((loadVar ty ad).run P w).andThen fun x w' => .ok (.value x) w' := by
          have : execOp a.eval ⟨none, .load ty (.tmp t), 0, "", #[], none⟩ = (do pure (Next.value (← Instr.loadAt ty (a.tmps.getD t undef)))) := rfl
          rw [this, h6]
          simp [Sem.run_bind, Instr.loadAt, Instr.sureAddr]
        rw [h8] at h4
        cases hL : (loadVar ty ad).run P w with
        | ok u' w' => rw [hL] at h4; simp only [Result.andThen, Result.ok.injEq, Next.value.injEq] at h4; obtain ⟨rfl, rfl⟩ := h4; rfl
        | halt e w' => rw [hL] at h4; simp [Result.andThen] at h4
      have h0 : (resOf a.tmps (.cell t ty)).run P w = .ok u w := by
        have : resOf a.tmps (.cell t ty) = (do loadVar ty (← asAddr (a.tmps.getD t undef))) := rfl
        rw [this, h6]
        simp [Sem.run_bind, asAddr, h7]
      simp only [List.mapM_cons, Sem.run_bind, h0, Result.andThen_ok, h2]; rfl
    · cases hi

theorem results_run {P N B ds g st a w} (h : Core P N B ds g st a w) (fn : Func) (vs : List IV) (hlt : fn.results.toList.all (resLt N) = true) (hi : ires P st fn.results.toList = some vs) :
    ∃ v, (results fn a.tmps).run P w = .ok v w ∧ Rep g.F w (packI vs) v := by
  obtain ⟨us, h1, h2⟩ := ires_run h fn.results.toList vs hlt hi
  have hl := h2.length
  refine ⟨if h : us.toArray.size = 1 then us.toArray[0] else .tuple us.toArray, ?_, ?_⟩
  · have : results fn a.tmps = (do let vs ← fn.results.mapM (resOf a.tmps); pure (if h : vs.size = 1 then vs[0] else .tuple vs)) := by
      unfold results
      congr 1
    rw [this, Array.mapM_eq_mapM_toList]
    simp [Sem.run_bind, h1]
  · cases vs with
    | nil => cases h2; exact ⟨#[], rfl, rfl⟩
    | cons x xs =>
      cases xs with
      | nil =>
        obtain ⟨v, vs', rfl, h3, h4⟩ := h2
        cases h4
        exact h3
      | cons y ys =>
        have : ¬ us.toArray.size = 1 := by simp at hl ⊢; omega
        rw [dif_neg this]
        exact ⟨us.toArray, rfl, by simpa using h2⟩
def st0 (args : List IV) (h : Heap) : St := { t := fun i => args.getD i .dead, m := fun _ => none, x := fun _ => none, h := h }

theorem core0 {P : Program} {N : Nat} {F X h w} (hh : HRel F X h w) {args : List IV} {vs : Array Value} (hr : RepAll F w args vs.toList) (hn : args.length ≤ N) :
    Core P N w.heap.size [] { F := F, X := X, lb := fun _ => 0, rv := fun _ => undef } (st0 args h) { tmps := vs ++ Array.replicate (N - vs.size) undef, defers := [] } w := by
  have hl := hr.length
  simp only [Array.length_toList] at hl
  refine ⟨by simp; omega, rfl, ?_, hh.hp, hh.xf, hh.xb, hh.fb, fun _ _ _ h => (nomatch h), fun _ _ _ h => absurd rfl h, fun _ _ _ _ h => (nomatch h), fun _ _ _ h => absurd rfl h⟩
  intro t ht
  simp only [st0, List.getD_eq_getElem?_getD]
  cases hx : args[t]? with
  | none => exact Rep.lrep (x := .dead) trivial
  | some x =>
    obtain ⟨v, h1, h2⟩ := hr.get t x hx
    have hlt := (List.getElem?_eq_some_iff.1 hx).1
    have : (vs ++ Array.replicate (N - vs.size) undef).getD t undef = v := by
      have h3 : vs[t]? = some v := by simpa using h1
      rw [Array.getD_eq_getD_getElem?, Array.getElem?_append_left (by omega), h3]; rfl
    rw [this]
    exact h2.lrep

theorem icall_of_iwp {P : Program} {f : FuncId} {fn : Func} {code : Code} {args : List IV} {h : Heap} {R : IEnd → Heap → Prop} (hint : Nat → Nat) (hf : P.funcs[f]? = some fn) (hb : fn.body = some code)
    (hok : ((fn.name == "runtime.NumGoroutine") == false && okCode fn.ntmps code && fn.results.toList.all (resLt fn.ntmps)) = true) (hn : args.length ≤ fn.ntmps)
    (hi : iwp P hint code (ipost P fn.results.toList R) (st0 args h)) : ICall P f args h R := by
  simp only [Bool.and_eq_true, beq_iff_eq] at hok
  obtain ⟨⟨hname, hok⟩, hres⟩ := hok
  refine ⟨⟨fn, hf, hname, by rw [hb]; rfl⟩, fun F X w vs hh hr => ?_⟩
  refine calls_of_wp hf hb ?_
  have hcore := core0 (P := P) (N := fn.ntmps) hh hr hn
  have hs : Sim ⟨P, fn.ntmps, F, X, w, []⟩ (st0 args h) { tmps := vs ++ Array.replicate (fn.ntmps - vs.size) undef, defers := [] } w := ⟨_, hcore, Keep.refl F X w⟩
  refine wp_mono (iwp_sound (c := ⟨P, fn.ntmps, F, X, w, []⟩) code _ _ _ w hok hs hi) ?_
  intro e a' w' ⟨ie, st', hq, he⟩
  have fin : Sim ⟨P, fn.ntmps, F, X, w, []⟩ st' a' w' → (vK ((ires P st' fn.results.toList).map packI) fun v => ∃ h', Sub h' st'.h ∧ R (.ret v) h') →
      a'.defers = [] ∧ ∃ v, (results fn a'.tmps).run P w' = .ok v w' ∧ ∃ F' X' h' ie, R ie h' ∧ EndRep F' w' ie (.returned v) ∧ HRel F' X' h' w' ∧ Keep F X w F' X' w' := by
    intro ⟨g, hg, hk⟩ hq
    unfold vK at hq
    split at hq
    · rename_i x hx
      obtain ⟨vs', h1, rfl⟩ := Option.map_eq_some_iff.1 hx
      obtain ⟨v, h2, h3⟩ := results_run hg fn vs' hres h1
      obtain ⟨h', hsub, hR⟩ := hq
      exact ⟨hg.defers, v, h2, g.F, g.X, h', .ret (packI vs'), hR, h3, ⟨fun b o hb => hg.hp b o (hsub b o hb), hg.xf, hg.xb, hg.fb⟩, hk⟩
    · exact hq.elim
  cases ie <;> cases e <;> first | exact he.elim | skip
  · exact fin he hq
  · exact hq.elim
  · exact fin he hq
  · obtain ⟨g, v, hg, hk, rfl, hv⟩ := he
    obtain ⟨h', hsub, hR⟩ := hq
    exact ⟨hg.defers, g.F, g.X, h', .pan _, hR, ⟨v, rfl, hv⟩, ⟨fun b o hb => hg.hp b o (hsub b o hb), hg.xf, hg.xb, hg.fb⟩, hk⟩
/-! deferred calls, and what recovers in them -/
def ModeRep (F : Nat → Nat → Prop) (w : World) : Option IV → FrameMode → Prop
  | none, u => u = .returning
  | some x, u => ∃ v, u = .panicking [{ v, recovered := false }] ∧ Rep F w x v

/-- what a deferred call comes to, that recovers whatever was thrown -/
def ICallD (P : Program) (f : FuncId) (cap : List IV) (pan : Option IV) (h : Heap) (R : Heap → Prop) : Prop :=
  Enters P f ∧ ∀ (F : Nat → Nat → Prop) (X : Nat → Prop) (w : World) (vs : Array Value) (u : FrameMode), HRel F X h w → RepAll F w cap vs.toList → ModeRep F w pan u →
    CallsD P f vs u w fun e u' w' => (∃ v, e = .returned v) ∧ settle u' = .returning ∧ ∃ F' X' h', R h' ∧ HRel F' X' h' w' ∧ Keep F X w F' X' w'

theorem ICallD.mono {P f cap pan h} {R R' : Heap → Prop} (hc : ICallD P f cap pan h R) (hr : ∀ h', R h' → R' h') : ICallD P f cap pan h R' :=
  ⟨hc.1, fun F X w vs u h1 h2 h3 => (hc.2 F X w vs u h1 h2 h3).mono fun _ _ _ ⟨k1, k2, F', X', h', k3, k4⟩ => ⟨k1, k2, F', X', h', hr _ k3, k4⟩⟩

def endD (R : Heap → Prop) : IExit → St → Prop
  | .normal, s => ∃ h', Sub h' s.h ∧ R h'
  | .ret, s => ∃ h', Sub h' s.h ∧ R h'
  | _, _ => False

theorem icalld_of_iwp {P : Program} {f : FuncId} {fn : Func} {id : Nat} {t : Tmp} {ty : TypeId} {pos : String} {after : Array Edge} {B : Code} {cap : List IV} {pan : Option IV} {h : Heap} {R : Heap → Prop} (hint : Nat → Nat) (hf : P.funcs[f]? = some fn)
    (hb : fn.body = some (.seq (.region id #[⟨some t, .call ⟨.builtin .recover, #[], #[]⟩, ty, pos, after, none⟩] false) B))
    (hok : ((fn.name == "runtime.NumGoroutine") == false && okCode fn.ntmps B && decide (fn.results = #[]) && decide (t < fn.ntmps)) = true) (hn : cap.length ≤ fn.ntmps)
    (hi : iwp P hint B (endD R) ((st0 cap h).put (some t) (pan.getD .niliface))) : ICallD P f cap pan h R := by
  simp only [Bool.and_eq_true, beq_iff_eq, decide_eq_true_eq] at hok
  obtain ⟨⟨⟨hname, hok⟩, hres⟩, ht⟩ := hok
  refine ⟨⟨fn, hf, hname, by rw [hb]; rfl⟩, fun F X w vs u hh hr hm => callsD_of_wpS hf hb ?_⟩
  intro c₀ cs hu
  have hcore := core0 (P := P) (N := fn.ntmps) hh hr hn
  refine wpS_seq (wpS_region ?_)
  have key : ∀ (v : Value) (cs' : List Frame) (u' : FrameMode), Rep F w (pan.getD .niliface) v → cs' = { c₀ with mode := u' } :: cs → settle u' = .returning →
      B.wpS P (bodyPostS P fn c₀ cs fun e u' w' => (∃ v, e = .returned v) ∧ settle u' = .returning ∧ ∃ F' X' h', R h' ∧ HRel F' X' h' w' ∧ Keep F X w F' X' w')
        (({ tmps := vs ++ Array.replicate (fn.ntmps - vs.size) undef, defers := [] } : Act).put (some t) v) cs' w := by
    intro v cs' u' hv hcs hset
    have hs : Sim ⟨P, fn.ntmps, F, X, w, []⟩ ((st0 cap h).put (some t) (pan.getD .niliface)) (({ tmps := vs ++ Array.replicate (fn.ntmps - vs.size) undef, defers := [] } : Act).put (some t) v) w :=
      ⟨_, hcore.put (some t) (Rep.lrep hv), Keep.refl F X w⟩
    refine wpS_of_wp (wp_mono (iwp_sound (c := ⟨P, fn.ntmps, F, X, w, []⟩) B _ _ _ w hok hs hi) ?_)
    intro e a' w' ⟨ie, st', hq, he⟩
    have fin : Sim ⟨P, fn.ntmps, F, X, w, []⟩ st' a' w' → (∃ h', Sub h' st'.h ∧ R h') → a'.defers = [] ∧ ∃ u', cs' = { c₀ with mode := u' } :: cs ∧ ∃ v, (results fn a'.tmps).run P w' = .ok v w' ∧
        ((∃ v', Ending.returned v = .returned v') ∧ settle u' = .returning ∧ ∃ F' X' h', R h' ∧ HRel F' X' h' w' ∧ Keep F X w F' X' w') := by
      intro ⟨g, hg, hk⟩ ⟨h', hsub, hR⟩
      obtain ⟨v, h2, _⟩ := results_run hg fn [] (by rw [hres]; rfl) (by rw [hres]; rfl)
      exact ⟨hg.defers, u', hcs, v, h2, ⟨v, rfl⟩, hset, g.F, g.X, h', hR, ⟨fun b o hb => hg.hp b o (hsub b o hb), hg.xf, hg.xb, hg.fb⟩, hk⟩
    cases ie <;> cases e <;> first | exact he.elim | exact hq.elim | exact fin he hq
  have hrun : ∀ a : Act, (execOp a.eval ⟨some t, .call ⟨.builtin .recover, #[], #[]⟩, ty, pos, after, none⟩).run P w = .ok .recover w := fun a => by
    simp [execOp, Sem.run_bind, resolve, invoke, builtin]
  have e1 : List.range (#[(⟨some t, .call ⟨.builtin .recover, #[], #[]⟩, ty, pos, after, none⟩ : Oper)]).size = [0] := rfl
  rw [e1]
  simp only [wpOpsS, List.getElem?_toArray, List.getElem?_cons_zero, Region.wanted, if_true, hrun]
  cases pan with
  | none =>
    have hmode : c₀.mode = .returning := hu.trans hm
    have hrec : recoverD (c₀ :: cs) = none := by simp [recoverD, hmode]
    rw [hrec]
    refine key .nilIface _ .returning rfl ?_ rfl
    rw [← hmode]
  | some x =>
    obtain ⟨v, hu2, hv⟩ := hm
    have hmode : c₀.mode = .panicking [{ v, recovered := false }] := hu.trans hu2
    have hrec : recoverD (c₀ :: cs) = some (v, { c₀ with mode := .panicking [{ v, recovered := true }] } :: cs) := by simp [recoverD, hmode]
    rw [hrec]
    exact key v _ (.panicking [{ v, recovered := true }]) hv rfl rfl

/-- behind the body of a function with one deferred call -/
def dpost (P : Program) (rs : List ResultVar) (fd : FuncId) (cap : List IV) (R : IEnd → Heap → Prop) : IExit → St → Prop
  | .normal, s => ICallD P fd cap none s.h fun h1 => vK ((ires P { s with h := h1 } rs).map packI) fun v => ∃ h', Sub h' h1 ∧ R (.ret v) h'
  | .ret, s => ICallD P fd cap none s.h fun h1 => vK ((ires P { s with h := h1 } rs).map packI) fun v => ∃ h', Sub h' h1 ∧ R (.ret v) h'
  | .panic x, s => ICallD P fd cap (some x) s.h fun h1 => vK ((ires P { s with h := h1 } rs).map packI) fun v => ∃ h', Sub h' h1 ∧ R (.ret v) h'
  | .exit _, _ => False

def isPtrV : IV → Bool | .ptr _ _ => true | _ => false
theorem RepAll.ptrs {F F' : Nat → Nat → Prop} {w w' : World} : ∀ {cs : List IV} {vs : List Value}, cs.all isPtrV = true → RepAll F w cs vs → RepAll F' w' cs vs
  | [], _, _, h => h
  | c :: cs, vs, hp, h => by
    obtain ⟨v, vs', rfl, h1, h2⟩ := h
    simp only [List.all_cons, Bool.and_eq_true] at hp
    refine ⟨v, vs', rfl, ?_, RepAll.ptrs hp.2 h2⟩
    cases c <;> simp only [isPtrV, Bool.false_eq_true, false_and] at hp
    exact h1

theorem icall_defer {P : Program} {f fd : FuncId} {fn : Func} {A B : Code} {id : Nat} {tm : Tmp} {caps : Array Operand} {ty1 ty2 : TypeId} {pos1 pos2 : String} {after1 after2 : Array Edge} {args : List IV} {h : Heap} {R : IEnd → Heap → Prop} (hint : Nat → Nat) (hf : P.funcs[f]? = some fn)
    (hb : fn.body = some (.seq A (.seq (.region id #[⟨some tm, .makeFunc (.func fd) #[] caps, ty1, pos1, after1, none⟩, ⟨none, .defer ⟨.value (.tmp tm), #[], #[]⟩, ty2, pos2, after2, none⟩] false) B)))
    (hok : ((fn.name == "runtime.NumGoroutine") == false && okCode fn.ntmps A && okCode fn.ntmps B && fn.results.toList.all (resLt fn.ntmps) && decide (tm < fn.ntmps) && caps.all (opLt fn.ntmps)) = true) (hn : args.length ≤ fn.ntmps)
    (hi : iwp P hint A (fun e s => e = .normal ∧ (caps.toList.map fun x => strip (s.ev x)).all isPtrV = true ∧ iwp P hint B (dpost P fn.results.toList fd (caps.toList.map fun x => strip (s.ev x)) R) (s.put (some tm) (.fn (.func fd) [] (caps.toList.map fun x => strip (s.ev x))))) (st0 args h)) : ICall P f args h R := by
  simp only [Bool.and_eq_true, beq_iff_eq, decide_eq_true_eq, Array.all_eq_true_iff_forall_mem] at hok
  obtain ⟨⟨⟨⟨⟨hname, hokA⟩, hokB⟩, hres⟩, htm⟩, hcaps⟩ := hok
  refine ⟨⟨fn, hf, hname, by rw [hb]; rfl⟩, fun F X w vs hh hr => ?_⟩
  refine calls_of_wp_defers hf hb ?_
  have hcore := core0 (P := P) (N := fn.ntmps) hh hr hn
  have hs : Sim ⟨P, fn.ntmps, F, X, w, []⟩ (st0 args h) { tmps := vs ++ Array.replicate (fn.ntmps - vs.size) undef, defers := [] } w := ⟨_, hcore, Keep.refl F X w⟩
  refine wp_seq (wp_mono (iwp_sound (c := ⟨P, fn.ntmps, F, X, w, []⟩) A _ _ _ w hokA hs hi) ?_)
  intro e a1 w1 ⟨ie, st1, hq0, he⟩
  obtain ⟨hie, hptr, hB⟩ := hq0
  subst hie
  cases e <;> first | exact he.elim | skip
  obtain ⟨g, hg, hk⟩ := he
  -- the closure is made, and its call put off
  have hca : RepAll g.F w1 (caps.toList.map fun x => strip (st1.ev x)) (caps.map a1.eval).toList := by
    simpa using RepAll_map (F := g.F) (w := w1) (fun x => strip (st1.ev x)) a1.eval caps.toList fun x hx => (hg.ev (hcaps x (Array.mem_toList_iff.1 hx))).strip
  have hfv : LRep g st1 w1 (.fn (.func fd) [] (caps.toList.map fun x => strip (st1.ev x))) (.func (.func fd) #[] (caps.map a1.eval)) := Rep.lrep (x := .fn (.func fd) [] _) ⟨#[], caps.map a1.eval, rfl, rfl, hca⟩
  have hg2 := hg.put (some tm) hfv
  obtain ⟨d, hd⟩ : ∃ d : Deferred, d = { target := .fn (.func fd) (caps.map a1.eval), args := #[] } := ⟨_, rfl⟩
  have hg3 : Core P fn.ntmps w.heap.size [d] g (st1.put (some tm) (.fn (.func fd) [] (caps.toList.map fun x => strip (st1.ev x)))) { a1.put (some tm) (.func (.func fd) #[] (caps.map a1.eval)) with defers := [d] } w1 :=
    ⟨hg2.size, rfl, hg2.tm, hg2.hp, hg2.xf, hg2.xb, hg2.fb, hg2.lc, hg2.ld, hg2.rws, hg2.rds⟩
  refine wp_seq ?_
  have hsz : tm < a1.tmps.size := by rw [hg.size]; exact htm
  have hm : ((a1.put (some tm) (.func (.func fd) #[] (caps.map a1.eval))).eval (.tmp tm)) = .func (.func fd) #[] (caps.map a1.eval) := by
    have := hg2.tm tm htm
    simp [Act.eval, Act.put, Array.getD, hsz]
  have hde : (a1.put (some tm) (.func (.func fd) #[] (caps.map a1.eval))).defers = [] := hg2.defers
  refine wp_region ?_
  have e1 : List.range (#[(⟨some tm, .makeFunc (.func fd) #[] caps, ty1, pos1, after1, none⟩ : Oper), ⟨none, .defer ⟨.value (.tmp tm), #[], #[]⟩, ty2, pos2, after2, none⟩]).size = [0, 1] := rfl
  rw [e1]
  simp only [wpOps, List.getElem?_toArray, List.getElem?_cons_zero, List.getElem?_cons_succ, Region.wanted, if_true, Oper.wp]
  have r1 : (execOp a1.eval ⟨some tm, .makeFunc (.func fd) #[] caps, ty1, pos1, after1, none⟩).run P w1 = .ok (.value (.func (.func fd) #[] (caps.map a1.eval))) w1 := by
    simp [execOp, Sem.run_bind, Instr.makeFunc]
  rw [r1, Oper.upon_value]
  have r2 : (execOp (a1.put (some tm) (.func (.func fd) #[] (caps.map a1.eval))).eval ⟨none, .defer ⟨.value (.tmp tm), #[], #[]⟩, ty2, pos2, after2, none⟩).run P w1 = .ok (.defer d) w1 := by
    simp only [execOp, Sem.run_bind, resolve, hm, Deferred.ofValue]
    simp [hd]
  simp only [r2, Oper.upon_defer, hde]
  have hs2 : Sim ⟨P, fn.ntmps, F, X, w, [d]⟩ (st1.put (some tm) (.fn (.func fd) [] (caps.toList.map fun x => strip (st1.ev x)))) { a1.put (some tm) (.func (.func fd) #[] (caps.map a1.eval)) with defers := [d] } w1 := ⟨g, hg3, hk⟩
  refine .inl (.inl ?_)
  refine wp_mono (iwp_sound (c := ⟨P, fn.ntmps, F, X, w, [d]⟩) B _ _ _ w1 hokB hs2 hB) ?_
  intro e a' w' ⟨ie, st', hq, he⟩
  -- at the end the deferred call is made
  have fin : ∀ (pan : Option IV) (u : FrameMode), u ≠ .run →
      (∃ g', Core P fn.ntmps w.heap.size [d] g' st' a' w' ∧ Keep F X w g'.F g'.X w' ∧ ModeRep g'.F w' pan u) →
      ICallD P fd (caps.toList.map fun x => strip (st1.ev x)) pan st'.h (fun h1 => vK ((ires P { st' with h := h1 } fn.results.toList).map packI) fun v => ∃ h', Sub h' h1 ∧ R (.ret v) h') →
      Leaves P fn a'.tmps (fun e w' => ∃ F' X' h' ie, R ie h' ∧ EndRep F' w' ie e ∧ HRel F' X' h' w' ∧ Keep F X w F' X' w') a'.defers u w' := by
    intro pan u hu ⟨g', hg', hk', hmr⟩ hD
    have hcr : RepAll g'.F w' (caps.toList.map fun x => strip (st1.ev x)) (caps.map a1.eval).toList := RepAll.ptrs hptr hca
    rw [hg'.defers]
    refine ⟨hu, .func fd, caps.map a1.eval, fd, caps.map a1.eval, by rw [hd], ?_, ?_⟩
    · have := enters_run hD.1 (caps.map a1.eval) w'
      rw [hd]
      simp only [invoke]
      simpa using this
    · refine (hD.2 g'.F g'.X w' (caps.map a1.eval) u hg'.hrel hcr hmr).mono ?_
      rintro e2 u' w2 ⟨⟨v2, rfl⟩, hset, F2, X2, h2, hR2, hh2, hk2⟩
      simp only [hset]
      obtain ⟨hcore2, hkeep2⟩ := Sim.called (c := ⟨P, fn.ntmps, F, X, w, [d]⟩) hg' hk' hh2 hk2
      unfold vK at hR2
      split at hR2
      · rename_i x hx
        obtain ⟨vs', k1, rfl⟩ := Option.map_eq_some_iff.1 hx
        obtain ⟨v, k2, k3⟩ := results_run hcore2 fn vs' hres k1
        obtain ⟨h', hsub, hRR⟩ := hR2
        exact ⟨v, k2, F2, X2, h', .ret (packI vs'), hRR, k3, ⟨fun b o hb => hh2.hp b o (hsub b o hb), hh2.xf, hh2.xb, hh2.fb⟩, hkeep2⟩
      · exact hR2.elim
  cases ie <;> cases e <;> first | exact he.elim | exact hq.elim | skip
  · obtain ⟨g', hg', hk'⟩ := he
    exact fin none .returning (by simp) ⟨g', hg', hk', rfl⟩ hq
  · obtain ⟨g', hg', hk'⟩ := he
    exact fin none .returning (by simp) ⟨g', hg', hk', rfl⟩ hq
  · obtain ⟨g', v, hg', hk', rfl, hv⟩ := he
    exact fin (some _) (.panicking [{ v, recovered := false }]) (by simp) ⟨g', hg', hk', v, rfl, hv⟩ hq
end Go.Idl
