/- This text is a part of the proofs of the statements of this seat: the ideal states and their rules, or what one of the functions that the statements reach comes to. Conditions: none beyond those that each theorem names. -/
import Derived.Test.YtejjnaibgimiaaaGreatDoorIdl5
set_option linter.unusedVariables false
set_option linter.unusedSimpArgs false
namespace Go.Idl
theorem Sim.same {c : Ctx} {st a w} (h : Sim c st a w) {d : Nat} (hd : d < c.N) {x : IV} (hx : ∀ g, Core c.P c.N c.w0.heap.size c.ds g st a w → LRep g st w x (a.tmps.getD d undef)) : Sim c (st.put (some d) x) a w := by
  have h1 := h.put (some d) hx
  obtain ⟨g, hg, _⟩ := h
  have hsz := hg.size
  have : a.put (some d) (a.tmps.getD d undef) = a := by
    have : a.tmps.setIfInBounds d (a.tmps.getD d undef) = a.tmps := by
      apply Array.ext
      · simp
      · intro i h1 h2
        rw [Array.getElem_setIfInBounds]
        split
        · rename_i e; subst e; simp [Array.getD, h2]
        · rfl
    cases a; simp only [Act.put]; simp_all
  rwa [this] at h1

theorem yielded_of {c : Ctx} {st a w} (h : Sim c st a w) {ops : Array Oper} {j dj : Nat} {b : Bool} (hj : (ops[j]?).bind (·.dst) = some dj) (hd : dj < c.N) (hb : st.t dj = .bool b) : yielded ops a.tmps j = some b := by
  obtain ⟨g, hg, _⟩ := h
  have h1 := hg.tm dj hd
  rw [hb] at h1
  have h2 : a.tmps.getD dj undef = .bool b := h1
  have hsz := hg.size
  have h3 : a.tmps[dj]? = some (.bool b) := by
    have hlt : dj < a.tmps.size := by omega
    rw [Array.getElem?_eq_getElem hlt]
    simpa [Array.getD, hlt] using h2
  unfold yielded
  rw [hj]
  simp [h3]

theorem und_rep {g : Gh} {st : St} {w : World} : LRep g st w (.tup []) undef := ⟨#[], rfl, rfl⟩
theorem yielded_und {c : Ctx} {st a w} (h : Sim c st a w) {ops : Array Oper} {j dj : Nat} (hj : (ops[j]?).bind (·.dst) = some dj) (hd : dj < c.N) (hb : st.t dj = .tup []) : yielded ops a.tmps j = none := by
  obtain ⟨g, hg, _⟩ := h
  have h1 := hg.tm dj hd
  rw [hb] at h1
  obtain ⟨vs, h2, h4⟩ := h1
  have hsz := hg.size
  have hlt : dj < a.tmps.size := by omega
  have h3 : a.tmps[dj]? = some (.tuple vs) := by
    rw [Array.getElem?_eq_getElem hlt]
    simpa [Array.getD, hlt] using h2
  unfold yielded
  rw [hj]
  simp [h3]

theorem iops_sound {c : Ctx} {hint : Nat → Nat} {ops : Array Oper} {K : St → Prop} {Q : IExit → St → Prop} {Q' : Exit → Act → World → Prop} (hok : ∀ o ∈ ops.toList, okOper c.N o = true)
    (hK : ∀ st a w, Sim c st a w → K st → Q' .normal a w) (hQ : ∀ ie st e a w, Q ie st → ExRel c ie st e a w → Q' e a w) :
    ∀ (rest : List Oper) (k : Nat) (st : St) (a : Act) (w : World), ops.toList.drop k = rest → Sim c st a w → iops c.P hint ops.toList rest st K Q → wpOps c.P ops Q' (List.range' k rest.length) a w := by
  intro rest
  induction rest with
  | nil => intro k st a w _ hs h; exact hK st a w hs h
  | cons o rest ih =>
    intro k st a w hd hs h
    have hko : ops[k]? = some o := by
      have : (ops.toList.drop k)[0]? = some o := by rw [hd]; rfl
      simpa using this
    have hdr : ops.toList.drop (k + 1) = rest := by
      have : (ops.toList.drop k).drop 1 = rest := by rw [hd]; rfl
      simpa [Nat.add_comm] using this
    have hoo : okOper c.N o = true := hok o (by
      have := List.mem_of_getElem? (l := ops.toList) (i := k) (a := o) (by simpa using hko); exact this)
    simp only [List.length_cons, List.range'_succ, wpOps, hko]
    have run : ∀ st a w, Sim c st a w → iop c.P hint o st (fun s => iops c.P hint ops.toList rest s K Q) Q → o.wp c.P a w (wpOps c.P ops Q' (List.range' (k + 1) rest.length)) Q' :=
      fun st a w hs h => iop_sound hs hoo h (fun st a w hs h => ih (k + 1) st a w hdr hs h) hQ
    simp only [iops] at h
    split at h
    · rename_i hg
      have hw : Region.wanted o (yielded ops a.tmps) = true := by simp [Region.wanted, hg]
      rw [if_pos hw]
      exact .inl (run st a w hs h)
    · rename_i j want hg
      split at h
      · rename_i dj hdj
        have hdj' : (ops[j]?).bind (·.dst) = some dj := by simpa using hdj
        have hdN : dj < c.N := by
          obtain ⟨oj, h1, h2⟩ := Option.bind_eq_some_iff.1 hdj
          have := hok oj (List.mem_of_getElem? h1)
          simp only [okOper, h2, Bool.and_eq_true, decide_eq_true_eq] at this
          exact this.2
        split at h
        · rename_i b hb
          have hy := yielded_of hs hdj' hdN hb
          have hs2 : Sim c (st.put (some dj) (.bool b)) a w := hs.same hdN (fun g hg => by
            have := hg.tm dj hdN
            rw [hb] at this
            have h2 : a.tmps.getD dj undef = .bool b := this
            rw [h2]; exact rfl)
          have h1 : (fun t => if t = want then iop c.P hint o (st.put (some dj) (.bool t)) (fun s => iops c.P hint ops.toList rest s K Q) Q
            else iops c.P hint ops.toList rest ((st.put (some dj) (.bool t)).put o.dst (.tup [])) K Q) b := by
            cases b
            · exact h.2 rfl
            · exact h.1 rfl
          simp only at h1
          by_cases hbw : b = want
          · rw [if_pos hbw] at h1
            have hw : Region.wanted o (yielded ops a.tmps) = true := by simp [Region.wanted, hg, hy, hbw]
            rw [if_pos hw]
            exact .inl (run _ a w hs2 h1)
          · rw [if_neg hbw] at h1
            have hw : ¬ Region.wanted o (yielded ops a.tmps) = true := by simp [Region.wanted, hg, hy, hbw]
            rw [if_neg hw]
            exact ih (k + 1) _ _ w hdr (hs2.put o.dst (x := .tup []) (v := undef) (fun _ _ => und_rep)) h1
        · rename_i hb
          have hy := yielded_und hs hdj' hdN hb
          have hw : ¬ Region.wanted o (yielded ops a.tmps) = true := by simp [Region.wanted, hg, hy]
          rw [if_neg hw]
          exact ih (k + 1) _ _ w hdr (hs.put o.dst (x := .tup []) (v := undef) (fun _ _ => und_rep)) h
        · exact h.elim
      · exact h.elim
    
/-! regions whose order is drawn -/

/-- a list literal of parts, as a value -/
def bsl (P : Program) (st : St) (t : TypeId) (len : Nat) (parts : Array (Nat × Operand)) : Option IV :=
  match (elT P t).bind (elZ P) with
  | some z =>
    if len = parts.size ∧ len * z ≤ 16777216 ∧ idxOk 0 parts.toList = true ∧
      (parts.toList.all fun p => okV (strip (st.ev p.2))) = true ∧ uni z (parts.toList.map fun p => icells (strip (st.ev p.2))) = true
    then some (.list .tight (parts.toList.map fun p => icells (strip (st.ev p.2)))) else none
  | none => none

/-- 0: it computes; 1: it reads memory, or calls what reads alone; 2: it turns memory; 3: none of these -/
def kd (hint : Nat → Nat) (o : Oper) : Nat :=
  match o.op with
  | .move _ => if o.dst.all (fun d => decide (hint d ≠ 3)) && !o.dst.any (fun d => decide (100 ≤ hint d)) then 0 else 3
  | .assign _ => if o.dst.all (fun d => decide (hint d ≠ 3)) && !o.dst.any (fun d => decide (100 ≤ hint d)) then 0 else 3
  | .binOp _ _ _ y _ => match y with | .const (.slice none 0 0) => 3 | _ => 0
  | .pick _ _ _ => 0
  | .unOp _ _ _ => 0
  | .build _ _ => 0
  | .buildSlice _ _ _ => if o.dst.any (fun d => decide (hint d = 17)) then 3 else 0
  | .makeInterface _ _ => 0
  | .makeFunc _ _ _ => 0
  | .slice _ _ _ _ _ => 0
  | .indexAddr _ _ _ => 0
  | .index _ _ _ => 0
  | .extract _ _ => 0
  | .field _ _ _ => 0
  | .convert _ _ _ => 0
  | .load _ _ => 1
  | .lookup _ _ _ _ => 1
  | .fieldAddr _ _ _ => 0
  | .nilCheck _ => 0
  | .store _ _ _ => 2
  | .mapUpdate _ _ _ _ => 2
  | .call c =>
    match c.callee with
    | .value _ => if o.dst.any (fun d => decide (hint d = 5) || decide (hint d = 10) || decide (hint d = 13)) then 3 else 1
    | .builtin .len => if o.dst.any (fun d => decide (hint d = 11)) then 3 else 0
    | .builtin .cap => 0
    | .builtin .copy => 2
    | .builtin .append => if o.dst.any (fun d => decide (hint d = 6) || decide (hint d = 7) || decide (hint d = 14) || decide (hint d = 16)) then 3 else 2
    | _ => 3
  | _ => 3

/-- what an operation that turns nothing yields -/
def Yld (P : Program) (st : St) (o : Oper) (v : IV) : Prop :=
  match o.op with
  | .buildSlice t len parts => bsl P st t len parts = some v
  | .call c =>
    match c.callee with
    | .value f =>
      match calleeOf st f with
      | some (f, first, cap) => ICall P f (first ++ (c.args.toList.map fun x => strip (st.ev x)) ++ cap) st.h fun ie h' => ie = .ret v ∧ h' = st.h
      | none => False
    | _ => pop P st o.op = some v
  | _ => pop P st o.op = some v

def gdst (all : List Oper) (o : Oper) : Option Nat := match o.guard with | some (j, _) => (all[j]?).bind (·.dst) | none => none

/-- is it carried out? -/
def wnt (all : List Oper) (st : St) (o : Oper) : Option Bool :=
  match o.guard with
  | none => some true
  | some (_, want) =>
    match gdst all o with
    | some dj => match st.t dj with | .bool b => some (b == want) | .tup [] => some false | _ => none
    | none => none

/-- of the body's own, or of a list that stands -/
def ownA : IV → Bool | .loc _ _ _ => true | .eptr _ _ _ => true | _ => false
/-- of the heap -/
def heapA : IV → Bool | .ptr _ _ => true | .aptr _ _ _ _ => true | _ => false
/-- a load that the hint 8 marks reads what is the body's own -/
def own8 (hint : Nat → Nat) (o : Oper) (st : St) : Prop :=
  match o.op with
  | .load _ x => (o.dst.any fun d => decide (hint d = 8)) = true → ownA (st.ev x) = true
  | _ => True
/-- a store whose address the hint 9 marks turns the heap -/
def sto9 (hint : Nat → Nat) (o : Oper) (st : St) : Prop :=
  match o.op with
  | .store _ (.tmp a) _ => hint a = 9 ∨ hint a = 1 → heapA (st.t a) = true
  | _ => True
def is8 (hint : Nat → Nat) (o : Oper) : Bool := match o.op with | .load _ _ => o.dst.any fun d => decide (hint d = 8) | _ => false
def is9 (hint : Nat → Nat) (o : Oper) : Bool := match o.op with | .store _ (.tmp a) _ => decide (hint a = 9 ∨ hint a = 1) | _ => false

def dop (P : Program) (hint : Nat → Nat) (all : List Oper) (o : Oper) (st : St) (K : St → Prop) (Q : IExit → St → Prop) : Prop :=
  match wnt all st o with
  | some true => if kd hint o ≤ 1 then ∃ v, (Yld P st o v ∧ own8 hint o st) ∧ K (st.put o.dst v) else sto9 hint o st ∧ iop P hint o st K Q
  | some false => K (st.put o.dst (.tup []))
  | none => False

def dops (P : Program) (hint : Nat → Nat) (all : List Oper) : List Oper → St → (St → Prop) → (IExit → St → Prop) → Prop
  | [], st, K, _ => K st
  | o :: rest, st, K, Q => dop P hint all o st (fun s => dops P hint all rest s K Q) Q

theorem put_comm (st : St) {x y : Option Tmp} (v u : IV) (h : ∀ d, x = some d → y ≠ some d) : (st.put x v).put y u = (st.put y u).put x v := by
  cases x with
  | none => cases y <;> rfl
  | some d =>
    cases y with
    | none => rfl
    | some e =>
      have hne : d ≠ e := fun he => h d rfl (he ▸ rfl)
      simp only [St.put, St.mk.injEq, and_self, and_true]
      funext j
      simp only [upd]
      by_cases h1 : j = e
      · subst h1; simp; intro e; exact absurd e.symm hne
      · simp [h1]

theorem put_t_ne (st : St) (x : Option Tmp) (v : IV) (t : Nat) (h : x ≠ some t) : (st.put x v).t t = st.t t := by
  cases x with
  | none => rfl
  | some d => simp only [St.put, upd]; rw [if_neg (fun e => h (by rw [e]))]

theorem ev_put (st : St) (x : Option Tmp) (v : IV) (y : Operand) (h : ∀ d, x = some d → y ≠ .tmp d) : (st.put x v).ev y = st.ev y := by
  cases y with
  | tmp t => exact put_t_ne st x v t (fun e => h t e rfl)
  | _ => rfl

/-- two states that agree on an operation's operands, and in memory -/
theorem pop_congr {P : Program} {st st' : St} {o : Op} (he : ∀ x ∈ o.operands, st'.ev x = st.ev x) (hm : st'.m = st.m) (hh : st'.h = st.h) : pop P st' o = pop P st o := by
  have hrd : ∀ x k, st'.rd x k = st.rd x k := fun x k => by unfold St.rd; rw [hm, hh]
  have hlive : ∀ s g, live st' s g = live st s g := fun s g => by unfold live; rw [hm]
  have hadd : ∀ x n, addA st' x n = addA st x n := fun x n => by unfold addA; simp only [hlive]
  cases o <;> simp only [pop]
  case move x => rw [he x (by simp [Op.operands])]
  case assign x => rw [he x (by simp [Op.operands])]
  case pick c a b => rw [he c (by simp [Op.operands]), he a (by simp [Op.operands]), he b (by simp [Op.operands])]
  case build t parts =>
    have h1 : ∀ p ∈ parts.toList, st'.ev p.2 = st.ev p.2 := fun p hp => he p.2 (by simp [Op.operands]; exact ⟨p.1, Array.mem_toList_iff.1 hp⟩)
    have h2 : (parts.toList.all fun p => okV (strip (st'.ev p.2))) = parts.toList.all fun p => okV (strip (st.ev p.2)) := by
      rw [Bool.eq_iff_iff]; simp only [List.all_eq_true]
      exact ⟨fun h p hp => by rw [← h1 p hp]; exact h p hp, fun h p hp => by rw [h1 p hp]; exact h p hp⟩
    have h3 : (parts.toList.map fun p => (p.1, strip (st'.ev p.2))) = parts.toList.map fun p => (p.1, strip (st.ev p.2)) := List.map_congr_left fun p hp => by rw [h1 p hp]
    rw [h2, h3]
  case load t x => rw [he x (by simp [Op.operands])]; simp only [hrd]
  case binOp op t x y t2 => rw [he x (by simp [Op.operands]), he y (by simp [Op.operands])]
  case unOp op t x => rw [he x (by simp [Op.operands])]
  case makeInterface t x => rw [he x (by simp [Op.operands])]
  case makeFunc f a c =>
    have h1 : (a.toList.map fun x => strip (st'.ev x)) = a.toList.map fun x => strip (st.ev x) := List.map_congr_left fun x hx => by rw [he x (by simp [Op.operands]; left; simpa using hx)]
    have h2 : (c.toList.map fun x => strip (st'.ev x)) = c.toList.map fun x => strip (st.ev x) := List.map_congr_left fun x hx => by rw [he x (by simp [Op.operands]; right; simpa using hx)]
    rw [h1, h2]
  case slice t x lo hi mx =>
    cases mx with
    | some m => rfl
    | none =>
      have h1 : (lo.map fun x => strip (st'.ev x)) = lo.map fun x => strip (st.ev x) := by cases lo <;> simp; rw [he _ (by simp [Op.operands])]
      have h2 : (hi.map fun x => strip (st'.ev x)) = hi.map fun x => strip (st.ev x) := by cases hi <;> simp; rw [he _ (by simp [Op.operands])]
      simp only [h1, h2]; rw [he x (by simp [Op.operands])]
  case fieldAddr t x f => rw [he x (by simp [Op.operands])]; congr 1; funext n; exact hadd _ n
  case indexAddr t x i => rw [he x (by simp [Op.operands]), he i (by simp [Op.operands])]
  case index t x i => rw [he x (by simp [Op.operands]), he i (by simp [Op.operands])]
  case extract x i => rw [he x (by simp [Op.operands])]
  case field t x f => rw [he x (by simp [Op.operands])]
  case nilCheck x => rw [he x (by simp [Op.operands])]; simp only [hlive]
  case convert s d x => rw [he x (by simp [Op.operands])]
  case typeAssert x _ _ _ => rw [he x (by simp [Op.operands])]
  case lookup t x ix ok =>
    have hme : mapEs st' (st.ev x) = mapEs st (st.ev x) := by unfold mapEs; rw [hh]
    rw [he x (by simp [Op.operands]), he ix (by simp [Op.operands]), hme]
  case call c =>
    have ha : ∀ x ∈ c.args, st'.ev x = st.ev x := fun x hx => he x (by simp [Op.operands, Call.operands, hx])
    cases c.callee with
    | builtin b =>
      cases b <;> simp only
      case cap =>
        cases h1 : c.argTypes[0]? with
        | none => rfl
        | some t =>
          cases h2 : c.args[0]? with
          | none => rfl
          | some x => simp only; rw [ha x (Array.mem_of_getElem? h2)]
      case len =>
        cases h1 : c.argTypes[0]? with
        | none => rfl
        | some t =>
          cases h2 : c.args[0]? with
          | none => rfl
          | some x => simp only; rw [ha x (Array.mem_of_getElem? h2)]
      case max => rw [List.map_congr_left fun x hx => ha x (Array.mem_toList_iff.1 hx)]
      case min => rw [List.map_congr_left fun x hx => ha x (Array.mem_toList_iff.1 hx)]
    | _ => rfl

/-- of kind 0: memory plays no part -/
theorem pop_kind0 {P : Program} {hint : Nat → Nat} {o : Oper} (hk : kd hint o = 0) {st st' : St} (he : ∀ x ∈ o.op.operands, st'.ev x = st.ev x) (hlv : ∀ s g, live st' s g = live st s g) : pop P st' o.op = pop P st o.op := by
  have e1 : pop P st' o.op = pop P { st' with m := st.m, h := st.h } o.op := by
    have hlv' : ∀ s g, live st' s g = live { st' with m := st.m, h := st.h } s g := fun s g => by rw [hlv]; rfl
    have hadd : ∀ x n, addA st' x n = addA { st' with m := st.m, h := st.h } x n := fun x n => by unfold addA; simp only [hlv']
    obtain ⟨dst, op, ty, pos, after, guard⟩ := o
    cases op <;> simp [kd] at hk <;> first | rfl | skip
    case slice t x lo hi mx => cases mx <;> rfl
    case fieldAddr t x f => simp only [pop]; congr 1; funext n; exact hadd _ n
    case nilCheck x => simp only [pop, hlv']; rfl
  rw [e1]
  exact pop_congr he rfl rfl

theorem bsl_congr {P : Program} {st st' : St} {t : TypeId} {len : Nat} {parts : Array (Nat × Operand)} (he : ∀ x ∈ (Op.buildSlice t len parts).operands, st'.ev x = st.ev x) : bsl P st' t len parts = bsl P st t len parts := by
  have h1 : ∀ p ∈ parts.toList, st'.ev p.2 = st.ev p.2 := fun p hp => he p.2 (by simp [Op.operands]; exact ⟨p.1, Array.mem_toList_iff.1 hp⟩)
  have h2 : (parts.toList.all fun p => okV (strip (st'.ev p.2))) = parts.toList.all fun p => okV (strip (st.ev p.2)) := by
    rw [Bool.eq_iff_iff]; simp only [List.all_eq_true]
    exact ⟨fun h p hp => by rw [← h1 p hp]; exact h p hp, fun h p hp => by rw [h1 p hp]; exact h p hp⟩
  have h3 : (parts.toList.map fun p => icells (strip (st'.ev p.2))) = parts.toList.map fun p => icells (strip (st.ev p.2)) := List.map_congr_left fun p hp => by rw [h1 p hp]
  unfold bsl
  rw [h2, h3]

/-- an operation's yield hangs on its operands, and (kind 1) on memory -/
theorem Yld.congr {P : Program} {hint : Nat → Nat} {o : Oper} {st st' : St} {v : IV} (hk : (kd hint o = 0 ∧ ∀ s g, live st' s g = live st s g) ∨ (st'.m = st.m ∧ st'.h = st.h)) (he : ∀ x ∈ o.op.operands, st'.ev x = st.ev x) (h : Yld P st o v) : Yld P st' o v := by
  have hpop : pop P st' o.op = pop P st o.op := by
    rcases hk with ⟨hk, hlv⟩ | ⟨h1, h2⟩
    · exact pop_kind0 hk he hlv
    · exact pop_congr he h1 h2
  obtain ⟨dst, op, ty, pos, after, guard⟩ := o
  simp only at he hpop
  unfold Yld at *
  cases op <;> simp only at h ⊢ <;> try (rw [hpop]; exact h)
  case buildSlice t len parts => rw [bsl_congr he]; exact h
  case call c =>
    obtain ⟨callee, args, tys⟩ := c
    cases callee with
    | value f =>
      simp only at h ⊢
      rcases hk with ⟨hk, _⟩ | ⟨h1, h2⟩
      · simp only [kd] at hk; split at hk <;> omega
      · have hf : st'.ev f = st.ev f := he f (by simp [Op.operands, Call.operands])
        have hc : calleeOf st' f = calleeOf st f := by unfold calleeOf; rw [hf]
        have ha : (args.toList.map fun x => strip (st'.ev x)) = args.toList.map fun x => strip (st.ev x) := List.map_congr_left fun x hx => by rw [he x (by simp [Op.operands, Call.operands, Array.mem_toList_iff.1 hx])]
        rw [hc, ha, h2]; exact h
    | _ => simp only at h ⊢; rw [hpop]; exact h

theorem mem_looks {ops : Array Oper} {o : Oper} {t : Nat} (h : .tmp t ∈ o.op.operands) : t ∈ o.looksAt ops := by
  unfold Oper.looksAt
  apply List.mem_append_left
  rw [List.mem_filterMap]
  exact ⟨.tmp t, Array.mem_toList_iff.2 h, rfl⟩

theorem ev_put_apart {ops : Array Oper} {o : Oper} (st : St) (d : Option Tmp) (v : IV) (h : ∀ t, d = some t → t ∉ o.looksAt ops) : ∀ x ∈ o.op.operands, (st.put d v).ev x = st.ev x := by
  intro x hx
  exact ev_put st d v x (fun t ht e => h t ht (mem_looks (e ▸ hx)))

theorem wnt_congr {ops : Array Oper} {o : Oper} {st st' : St} (h : ∀ t, t ∈ o.looksAt ops → st'.t t = st.t t) : wnt ops.toList st' o = wnt ops.toList st o := by
  unfold wnt gdst
  cases hg : o.guard with
  | none => rfl
  | some p =>
    obtain ⟨j, want⟩ := p
    simp only
    cases hd : (ops.toList[j]?).bind (·.dst) with
    | none => rfl
    | some dj =>
      simp only
      rw [h dj (by
        unfold Oper.looksAt
        apply List.mem_append_right
        rw [hg]
        simp only [Option.mem_toList]
        simpa using hd)]

def isApp (hint : Nat → Nat) (o : Oper) : Bool := match o.op with | .call c => (match c.callee with | .builtin .append => !(o.dst.any fun d => decide (hint d = 12)) | _ => false) | _ => false
def isLoad (o : Oper) : Bool := match o.op with | .load _ _ => true | _ => false

theorem rd_arr {st : St} {b : Nat} {e e' : TypeId} {z z' tot tot' : Nat} {rows ys : List (List IV)} (hb : st.h b = some (.arr e z' rows tot)) (hz : z = z') : ∀ (y : IV) (k : Nat) (r : List IV), st.rd y k = some r → ({ st with h := upd st.h b (some (.arr e' z (rows ++ ys) tot')) } : St).rd y k = some r := by
  subst hz
  intro y k r h
  cases y with
  | aptr z1 b1 i o =>
    simp only [St.rd] at h ⊢
    by_cases hbb : b1 = b
    · subst hbb
      simp only [hb] at h
      simp only [upd_same]
      cases hr1 : rows[i]? with
      | none => rw [hr1] at h; cases h
      | some r1 =>
        have hlt := (List.getElem?_eq_some_iff.1 hr1).1
        rw [List.getElem?_append_left hlt]; exact h
    · rw [upd_ne _ _ hbb]; exact h
  | ptr b1 o =>
    simp only [St.rd] at h ⊢
    by_cases hbb : b1 = b
    · subst hbb; simp only [hb] at h; cases h
    · rw [upd_ne _ _ hbb]; exact h
  | _ => exact h
theorem rd_new {st : St} {b : Nat} {o : IObj} (hb : st.h b = none) : ∀ (y : IV) (k : Nat) (r : List IV), st.rd y k = some r → ({ st with h := upd st.h b (some o) } : St).rd y k = some r := by
  intro y k r h
  cases y <;> simp only [St.rd] at h ⊢ <;> try exact h
  · rename_i z1 b1 i o
    by_cases hbb : b1 = b
    · subst hbb; rw [hb] at h; cases h
    · rw [upd_ne _ _ hbb]; exact h
  · rename_i b1 o
    by_cases hbb : b1 = b
    · subst hbb; rw [hb] at h; cases h
    · rw [upd_ne _ _ hbb]; exact h

/-- what turns memory, beside a temporary that it does not know -/
theorem iop_put {P : Program} {hint : Nat → Nat} {o : Oper} {st : St} {K : St → Prop} {Q : IExit → St → Prop} {d : Option Tmp} {v : IV} (hk : kd hint o = 2) (hl : ∀ x ∈ o.op.operands, (st.put d v).ev x = st.ev x) (hd : ∀ t, d = some t → o.dst ≠ some t)
    {K' : St → Prop} (hK' : ∀ st', (∀ t, o.dst ≠ some t → st'.t t = st.t t) → (∀ s g, live st' s g = live st s g) → (isApp hint o = true → ∀ x k r, st.rd x k = some r → st'.rd x k = some r) → ((∃ t a y, o.op = .store t a y ∧ heapA (st.ev a) = true) → st'.m = st.m) → K (st'.put d v) → K' st') (h : iop P hint o (st.put d v) K Q) : iop P hint o st K' Q := by
  have hm : (st.put d v).m = st.m := put_m st d v
  have hx : (st.put d v).x = st.x := put_x st d v
  have hh : (st.put d v).h = st.h := put_h st d v
  have key : ∀ (m : Nat → Option (Nat × List IV)) (x : Nat → Option (Nat × Nat × TypeId)) (hp : Heap) (u : IV), (∀ s g, (match m s with | some (g', _) => g == g' | none => false) = live st s g) → (isApp hint o = true → ∀ y k r, st.rd y k = some r → ({ st with m := m, x := x, h := hp } : St).rd y k = some r) → ((∃ t a y, o.op = .store t a y ∧ heapA (st.ev a) = true) → m = st.m) → K ((({ st.put d v with m := m, x := x, h := hp } : St)).put o.dst u) →
      K' (({ st with m := m, x := x, h := hp } : St).put o.dst u) := by
    intro m x hp u hlv hrd hmm hK
    refine hK' _ (fun t ht => put_t_ne _ _ _ _ ht) (fun s g => by have := hlv s g; unfold live at this ⊢; rw [put_m]; exact this) (fun ha y k r hr => by have := hrd ha y k r hr; unfold St.rd at this ⊢; rw [put_m, put_h]; exact this) (fun h9 => by rw [put_m]; exact hmm h9) ?_
    have e1 : ({ st.put d v with m := m, x := x, h := hp } : St) = ({ st with m := m, x := x, h := hp } : St).put d v := by cases d <;> rfl
    rw [e1, put_comm _ v u hd] at hK
    exact hK
  have hlive : ∀ s g, live (st.put d v) s g = live st s g := fun s g => by unfold live; rw [hm]
  have hokL : ∀ x, okL (st.put d v) x = okL st x := fun x => by cases x <;> simp [okL, hlive]
  obtain ⟨dst, op, ty, pos, after, guard⟩ := o
  cases op <;> simp [kd] at hk <;> try (split at hk <;> simp at hk; done)
  case store t x y =>
    have ex := hl x (by simp [Op.operands])
    have ey := hl y (by simp [Op.operands])
    simp only [iop, ex, ey, hm, hh, hokL] at h ⊢
    split at h
    · rename_i z s g off hz hxe
      split at h
      · rename_i g' cs hms
        obtain ⟨h1, h2, h3, h4, h5⟩ := h
        exact ⟨h1, h2, h3, h4, key _ _ _ _ (fun s' g'' => by by_cases hs9 : s' = s <;> simp [upd, live, hs9, hms] <;> rfl) (fun ha => by simp [isApp] at ha) (fun ⟨t9, a9, y9, e9, h9⟩ => by cases e9; rw [hxe] at h9; simp [heapA] at h9) (by have := hx; have := hh; simpa [hx, hh] using h5)⟩
      · exact h.elim
    · rename_i z b off hz hxe
      split at h
      · rename_i cs hhb
        obtain ⟨h1, h2, h3, h4⟩ := h
        exact ⟨h1, h2, h3, key _ _ _ _ (fun _ _ => rfl) (fun ha => by simp [isApp] at ha) (fun _ => rfl) (by simpa [hx, hm] using h4)⟩
      · exact h.elim
    · rename_i z z' b i off hz hxe
      split at h
      · rename_i e zz rows tot hhb
        split at h
        · rename_i r hr
          obtain ⟨h1, h2, h3, h4, h5⟩ := h
          exact ⟨h1, h2, h3, h4, key _ _ _ _ (fun _ _ => rfl) (fun ha => by simp [isApp] at ha) (fun _ => rfl) (by simpa [hx, hm] using h5)⟩
        · exact h.elim
      · exact h.elim
    · exact h.elim
  case mapUpdate t m k v' =>
    have e1 := hl m (by simp [Op.operands])
    have e2 := hl k (by simp [Op.operands])
    have e3 := hl v' (by simp [Op.operands])
    simp only [iop, e1, e2, e3, hh] at h ⊢
    split at h
    · split at h
      · obtain ⟨h1, h2⟩ := h
        refine ⟨h1, ?_⟩
        split at h2
        · exact key _ _ _ _ (fun _ _ => rfl) (fun ha => by simp [isApp] at ha) (fun ⟨t9, a9, y9, e9, _⟩ => by cases e9) (by simpa [hx, hm] using h2)
        · exact h2.elim
      · exact h.elim
    · exact h.elim
  case call c =>
    obtain ⟨callee, args, tys⟩ := c
    cases callee with
    | value f => simp only [] at hk; split at hk <;> omega
    | invoke r m => simp at hk
    | builtin b =>
      cases b <;> simp only [reduceCtorEq] at hk <;> try omega
      case len => split at hk <;> omega
      case copy =>
        simp only [iop] at h ⊢
        split at h
        · rename_i x y t t2 hax hat
          have hargs : args = #[x, y] := by cases args; simp at hax; subst hax; rfl
          subst hargs
          have ex := hl x (by simp [Op.operands, Call.operands])
          have ey := hl y (by simp [Op.operands, Call.operands])
          rw [ex, ey] at h
          have ec : ∀ z u, csrc (st.put d v) z u = csrc st z u := fun z u => by unfold csrc; rw [hh]
          unfold icop at h ⊢
          simp only [ec] at h
          rw [hh] at h
          split at h
          · rename_i z b off n cap hxe
            try simp only [hxe]
            split at h
            · rename_i e z' rows tot e' src hb he hc
              try simp only [hb, he, hc]
              obtain ⟨h1, h2⟩ := h
              exact ⟨h1, key _ _ _ _ (fun _ _ => rfl) (fun ha => by simp [isApp] at ha) (fun _ => rfl) (by simpa [hx, hm] using h2)⟩
            · exact h.elim
          · exact h.elim
        · exact h.elim
      simp only [iop] at h ⊢
      split at h
      · rename_i x y t t' d0 hax hat
        have h6 : hint d0 ≠ 6 := fun h6 => by simp [h6] at hk
        have h7 : hint d0 ≠ 7 := fun h7 => by simp [h7] at hk
        have h14 : hint d0 ≠ 14 := fun h14 => by simp [h14] at hk
        have h16 : hint d0 ≠ 16 := fun h16 => by simp [h16] at hk
        rw [if_neg h16, if_neg h14] at h ⊢
        by_cases h12 : hint d0 = 12
        · rw [if_pos h12] at h ⊢
          have hargs : args = #[x, y] := by cases args; simp at hax; subst hax; rfl
          subst hargs
          have ex := hl x (by simp [Op.operands, Call.operands])
          have ey := hl y (by simp [Op.operands, Call.operands])
          rw [ex, ey] at h
          have ec : ∀ z u, csrc (st.put d v) z u = csrc st z u := fun z u => by unfold csrc; rw [hh]
          obtain ⟨h0, h⟩ := h
          refine ⟨h0, ?_⟩
          unfold iapi at h ⊢
          simp only [ec] at h
          rw [hh] at h
          split at h
          · rename_i z b off n cap hxe
            try simp only [hxe]
            split at h
            · rename_i e z' rows tot e' src hb he hc
              try simp only [hb, he, hc]
              obtain ⟨h1, h2⟩ := h
              exact ⟨h1, key _ _ _ _ (fun _ _ => rfl) (fun ha => by simp [isApp, h12] at ha) (fun _ => rfl) (by simpa [hx, hm] using h2)⟩
            · exact h.elim
          · exact h.elim
        rw [if_neg h12] at h ⊢
        rw [if_neg h7, if_neg h6] at h ⊢
        have hargs : args = #[x, y] := by cases args; simp at hax; subst hax; rfl
        subst hargs
        have ex := hl x (by simp [Op.operands, Call.operands])
        have ey := hl y (by simp [Op.operands, Call.operands])
        have htys : tys = #[t, t'] := by cases tys; simp at hat; subst hat; rfl
        subst htys
        obtain ⟨h0, h⟩ := h
        refine ⟨h0, ?_⟩
        by_cases hh2 : hint d0 = 2
        · rw [if_pos hh2] at h ⊢
          rw [ex, ey] at h
          unfold iappB at h ⊢
          split at h
          · rename_i z b off n cap tk ys hxe hye
            try simp only [hxe, hye]
            rw [hh] at h
            split at h
            · rename_i e z' rows tot e' hb he
              have hb' := hb
              try simp only [hb, he]
              obtain ⟨h1, h2, h3⟩ := h
              exact ⟨h1, fun k => key _ _ _ _ (fun _ _ => rfl) (fun _ => rd_arr hb' h1.2.2.1) (fun _ => rfl) (by simpa [hx, hm] using h2 k), fun k b' cap' k1 k2 => key _ _ _ _ (fun _ _ => rfl) (fun _ => rd_new k1) (fun _ => rfl) (by simpa [hx, hm] using h3 k b' cap' k1 k2)⟩
            · exact h.elim
          · rename_i rows tk ys hxe hye
            try simp only [hxe, hye]
            split at h
            · rename_i z e hz he
              try simp only [hz, he]
              obtain ⟨h1, h2, h3⟩ := h
              refine ⟨h1, fun k => ?_, fun k b' cap' k1 k2 => key _ _ _ _ (fun _ _ => rfl) (fun _ => rd_new k1) (fun _ => rfl) (by rw [hh] at h3; simpa [hx, hm] using h3 k b' cap' k1 k2)⟩
              exact key st.m st.x st.h _ (fun _ _ => rfl) (fun _ _ _ _ h => h) (fun _ => rfl) (by have := h2 k; rw [show ({ st.put d v with m := st.m, x := st.x, h := st.h } : St) = st.put d v from by cases d <;> rfl]; exact this)
            · exact h.elim
          · exact h.elim
        · rw [if_neg hh2] at h ⊢
          have ei : iapp P (st.put d v) d0 t (st.ev x) (st.ev y) = iapp P st d0 t (st.ev x) (st.ev y) := by unfold iapp xgen; rw [hx]
          rw [ex, ey, ei] at h
          split at h
          · rename_i r xs' hi
            try simp only [hi]
            exact key _ _ _ _ (fun _ _ => rfl) (fun _ _ _ _ h => h) (fun _ => rfl) (by simpa [hm, hh] using h)
          · exact h.elim
      · exact h.elim

/-- an operation that turns nothing, or is passed over -/
def pstep (P : Program) (hint : Nat → Nat) (all : List Oper) (st : St) (o : Oper) (v : IV) : Prop :=
  (wnt all st o = some true ∧ Yld P st o v ∧ own8 hint o st) ∨ (wnt all st o = some false ∧ v = .tup [])

theorem dop_low {P : Program} {hint : Nat → Nat} {all : List Oper} {o : Oper} {st : St} {K : St → Prop} {Q : IExit → St → Prop} (hk : kd hint o ≤ 1) : dop P hint all o st K Q ↔ ∃ v, pstep P hint all st o v ∧ K (st.put o.dst v) := by
  unfold dop pstep
  cases h : wnt all st o with
  | none => simp
  | some b => cases b <;> simp [hk]

theorem kd_load {hint : Nat → Nat} {o : Oper} (h : isLoad o = true) : kd hint o ≤ 1 := by
  obtain ⟨dst, op, ty, pos, after, guard⟩ := o
  cases op <;> simp [isLoad] at h
  simp [kd]
theorem Yld.load {P : Program} {o : Oper} {st st' : St} {v : IV} (hl : isLoad o = true) (hr : ∀ x k r, st.rd x k = some r → st'.rd x k = some r) (he : ∀ x ∈ o.op.operands, st'.ev x = st.ev x) (h : Yld P st o v) : Yld P st' o v := by
  obtain ⟨dst, op, ty, pos, after, guard⟩ := o
  cases op <;> simp [isLoad] at hl
  rename_i t x
  have hx : st'.ev x = st.ev x := he x (by simp [Op.operands])
  simp only [Yld, pop] at h ⊢
  rw [hx]
  split at h
  · rename_i z hz ha
    obtain ⟨cs, h1, h2⟩ := Option.map_eq_some_iff.1 h
    rw [hr _ _ _ h1]; exact congrArg some h2
  · split at h
    · rename_i c hc; rw [hr _ _ _ hc]; exact h
    · cases h
  · cases h

theorem kd_is8 {hint : Nat → Nat} {o : Oper} (h : is8 hint o = true) : kd hint o ≤ 1 := by
  obtain ⟨dst, op, ty, pos, after, guard⟩ := o
  cases op <;> simp [is8] at h
  simp [kd]
theorem own8_congr {hint : Nat → Nat} {o : Oper} {st st' : St} (he : ∀ x ∈ o.op.operands, st'.ev x = st.ev x) (h : own8 hint o st) : own8 hint o st' := by
  obtain ⟨dst, op, ty, pos, after, guard⟩ := o
  cases op <;> simp only [own8] at h ⊢
  rename_i t x
  rw [he x (by simp [Op.operands])]; exact h
theorem sto9_congr {hint : Nat → Nat} {o : Oper} {st st' : St} (he : ∀ x ∈ o.op.operands, st'.ev x = st.ev x) (h : sto9 hint o st) : sto9 hint o st' := by
  obtain ⟨dst, op, ty, pos, after, guard⟩ := o
  cases op <;> simp only [sto9] at h ⊢
  rename_i t a y
  cases a <;> simp only at h ⊢
  rename_i a
  have := he (.tmp a) (by simp [Op.operands])
  simp only [St.ev] at this
  rw [this]; exact h
theorem sto9_heap {hint : Nat → Nat} {o : Oper} {st : St} (h : is9 hint o = true) (hs : sto9 hint o st) : ∃ t a y, o.op = .store t a y ∧ heapA (st.ev a) = true := by
  obtain ⟨dst, op, ty, pos, after, guard⟩ := o
  cases op <;> simp [is9] at h
  rename_i t a y
  cases a <;> simp at h
  rename_i a
  exact ⟨t, _, y, rfl, hs h⟩
theorem Yld.load8 {P : Program} {hint : Nat → Nat} {o : Oper} {st st' : St} {v : IV} (hl : is8 hint o = true) (hm : st'.m = st.m) (he : ∀ x ∈ o.op.operands, st'.ev x = st.ev x) (h : Yld P st o v) (h8 : own8 hint o st) : Yld P st' o v := by
  obtain ⟨dst, op, ty, pos, after, guard⟩ := o
  cases op <;> simp [is8] at hl
  rename_i t x
  have hx : st'.ev x = st.ev x := he x (by simp [Op.operands])
  have ho : ownA (st.ev x) = true := h8 (by simpa using hl)
  have hrd : ∀ k, st'.rd (st.ev x) k = st.rd (st.ev x) k := fun k => by
    cases hv : st.ev x <;> rw [hv] at ho <;> simp [ownA] at ho
    · simp only [St.rd]
    · simp only [St.rd, hm]
  simp only [Yld, pop] at h ⊢
  rw [hx]
  simp only [hrd]
  exact h

theorem dop_swap {P : Program} {hint : Nat → Nat} {ops : Array Oper} {p q : Oper} {st : St} {K : St → Prop} {Q : IExit → St → Prop} (hap : p.apart ops q = true) (hk : (kd hint p ≤ 1 ∧ kd hint q ≤ 1) ∨ (((kd hint p = 0 ∨ (isLoad p = true ∧ isApp hint q = true)) ∨ (is8 hint p = true ∧ is9 hint q = true)) ∧ kd hint q = 2))
    (h : dop P hint ops.toList p st (fun s => dop P hint ops.toList q s K Q) Q) : dop P hint ops.toList q st (fun s => dop P hint ops.toList p s K Q) Q := by
  obtain ⟨a1, a2, a3⟩ := Oper.apart_spec hap
  have hp1 : kd hint p ≤ 1 := by rcases hk with h | ⟨(h | h) | h, _⟩; exact h.1; omega; exact kd_load h.1; exact kd_is8 h.1
  rw [dop_low hp1] at h
  obtain ⟨vp, h1, h2⟩ := h
  have wq : wnt ops.toList (st.put p.dst vp) q = wnt ops.toList st q := wnt_congr fun t ht => put_t_ne _ _ _ _ (fun e => a1 t e ht)
  have eq : ∀ x ∈ q.op.operands, (st.put p.dst vp).ev x = st.ev x := ev_put_apart st p.dst vp a1
  have wp : ∀ u, wnt ops.toList (st.put q.dst u) p = wnt ops.toList st p := fun u => wnt_congr fun t ht => put_t_ne _ _ _ _ (fun e => a3 t e ht)
  have ep : ∀ u, ∀ x ∈ p.op.operands, (st.put q.dst u).ev x = st.ev x := fun u => ev_put_apart st q.dst u a3
  have pp : ∀ u, pstep P hint ops.toList (st.put q.dst u) p vp := fun u => by
    rcases h1 with ⟨k1, k2⟩ | ⟨k1, k2⟩
    · exact .inl ⟨(wp u).trans k1, Yld.congr (hint := hint) (.inr ⟨put_m _ _ _, put_h _ _ _⟩) (ep u) k2.1, own8_congr (ep u) k2.2⟩
    · exact .inr ⟨(wp u).trans k1, k2⟩
  rcases hk with ⟨_, hq⟩ | ⟨hp0, hq⟩
  · rw [dop_low hq] at h2 ⊢
    obtain ⟨vq, h3, h4⟩ := h2
    refine ⟨vq, ?_, ?_⟩
    · rcases h3 with ⟨k1, k2⟩ | ⟨k1, k2⟩
      · exact .inl ⟨wq ▸ k1, Yld.congr (hint := hint) (.inr ⟨(put_m _ _ _).symm, (put_h _ _ _).symm⟩) (fun x hx => (eq x hx).symm) k2.1, own8_congr (fun x hx => (eq x hx).symm) k2.2⟩
      · exact .inr ⟨wq ▸ k1, k2⟩
    · rw [dop_low hp1]
      exact ⟨vp, pp vq, by rw [put_comm st vq vp (fun d e e2 => a2 d e2 e)]; exact h4⟩
  · unfold dop at h2 ⊢
    rw [wq] at h2
    cases hw : wnt ops.toList st q with
    | none => rw [hw] at h2; exact h2.elim
    | some b =>
      rw [hw] at h2
      cases b with
      | false =>
        simp only at h2 ⊢
        have := (dop_low (P := P) (all := ops.toList) (K := K) (Q := Q) (st := st.put q.dst (.tup [])) hp1).2 ⟨vp, pp (.tup []), by rw [put_comm st (.tup []) vp (fun d e e2 => a2 d e2 e)]; exact h2⟩
        exact this
      | true =>
        simp only [hq] at h2 ⊢
        rw [if_neg (by omega)] at h2 ⊢
        obtain ⟨h29, h2⟩ := h2
        refine ⟨sto9_congr (fun x hx => (eq x hx).symm) h29, iop_put hq eq (fun t e => a2 t e) (fun st' hf hlv hrd hmm hK => ?_) h2⟩
        have := (dop_low (P := P) (all := ops.toList) (K := K) (Q := Q) (st := st') hp1).2 ⟨vp, ?_, hK⟩
        · exact this
        · have hw' : wnt ops.toList st' p = wnt ops.toList st p := wnt_congr fun t ht => hf t (fun e => a3 t e ht)
          rcases h1 with ⟨k1, k2⟩ | ⟨k1, k2⟩
          · have hev : ∀ x ∈ p.op.operands, st'.ev x = st.ev x := fun x hx => by
              cases x with
              | tmp t => exact hf t (fun e => a3 t e (mem_looks hx))
              | _ => rfl
            rcases hp0 with (hp0 | ⟨hl, ha⟩) | ⟨hl8, ha9⟩
            · exact .inl ⟨hw'.trans k1, Yld.congr (hint := hint) (.inl ⟨hp0, hlv⟩) hev k2.1, own8_congr hev k2.2⟩
            · exact .inl ⟨hw'.trans k1, Yld.load hl (hrd ha) hev k2.1, own8_congr hev k2.2⟩
            · exact .inl ⟨hw'.trans k1, Yld.load8 hl8 (hmm (sto9_heap ha9 (sto9_congr (fun x hx => (eq x hx).symm) h29))) hev k2.1 k2.2, own8_congr hev k2.2⟩
          · exact .inr ⟨hw'.trans k1, k2⟩

theorem dop_mono_low {P : Program} {hint : Nat → Nat} {all : List Oper} {o : Oper} {st : St} {K K' : St → Prop} {Q : IExit → St → Prop} (hk : kd hint o ≤ 1) (h : ∀ s, K s → K' s) (hd : dop P hint all o st K Q) : dop P hint all o st K' Q := by
  rw [dop_low hk] at hd ⊢
  obtain ⟨v, h1, h2⟩ := hd
  exact ⟨v, h1, h _ h2⟩

def indep (hint : Nat → Nat) (ops : Array Oper) (p q : Oper) : Bool := p.apart ops q && ((decide (kd hint p ≤ 1) && decide (kd hint q ≤ 1)) || ((decide (kd hint p = 0) || (isLoad p && isApp hint q) || (is8 hint p && is9 hint q)) && decide (kd hint q = 2)))

theorem dops_front {P : Program} {hint : Nat → Nat} {ops : Array Oper} {K : St → Prop} {Q : IExit → St → Prop} {q : Oper} : ∀ (l1 l2 : List Oper) (st : St), (∀ p ∈ l1, indep hint ops p q = true) →
    dops P hint ops.toList (l1 ++ q :: l2) st K Q → dop P hint ops.toList q st (fun s => dops P hint ops.toList (l1 ++ l2) s K Q) Q
  | [], l2, st, _, h => h
  | p :: l1, l2, st, hi, h => by
    have hpq := hi p List.mem_cons_self
    simp only [indep, Bool.and_eq_true, Bool.or_eq_true, decide_eq_true_eq] at hpq
    have hk1 : kd hint p ≤ 1 := by rcases hpq.2 with h | ⟨(h | h) | h, _⟩; exact h.1; omega; exact kd_load h.1; exact kd_is8 h.1
    have ih := fun st => dops_front (P := P) (K := K) (Q := Q) (ops := ops) (hint := hint) (q := q) l1 l2 st (fun p hp => hi p (List.mem_cons_of_mem _ hp))
    have h1 : dop P hint ops.toList p st (fun s => dop P hint ops.toList q s (fun s => dops P hint ops.toList (l1 ++ l2) s K Q) Q) Q := dop_mono_low hk1 (fun s hs => ih s hs) h
    exact dop_swap hpq.1 hpq.2 h1

theorem yld_iop {P : Program} {hint : Nat → Nat} {o : Oper} {st : St} {v : IV} {K : St → Prop} {Q : IExit → St → Prop} (hk : kd hint o ≤ 1) (hy : Yld P st o v) (h : K (st.put o.dst v)) : iop P hint o st K Q := by
  obtain ⟨dst, op, ty, pos, after, guard⟩ := o
  cases op
  case move x =>
    simp only [Yld, pop, Option.some.injEq] at hy; subst hy
    simp only [kd] at hk
    simp only [iop, imv]
    split at hk
    · rename_i h1
      simp only [Bool.and_eq_true, Bool.not_eq_true'] at h1
      rw [if_neg (by rw [h1.2]; decide), if_pos h1.1]; exact h
    · omega
  case assign x =>
    simp only [Yld, pop, Option.some.injEq] at hy; subst hy
    simp only [kd] at hk
    simp only [iop, imv]
    split at hk
    · rename_i h1
      simp only [Bool.and_eq_true, Bool.not_eq_true'] at h1
      rw [if_neg (by rw [h1.2]; decide), if_pos h1.1]; exact h
    · omega
  case binOp op t x y t2 =>
    simp only [Yld] at hy
    simp only [iop]
    have hn : nilSl P op t y (st.ev x) = none := by
      unfold nilSl
      split
      · simp [kd] at hk
      · simp [kd] at hk
      · simp [kd] at hk
      · simp [kd] at hk
      · rfl
    rw [hn]
    simp only [hy, vK]; exact h
  case buildSlice t len parts =>
    simp only [Yld, bsl] at hy
    simp only [iop]
    have h17 : dst.any (fun d => decide (hint d = 17)) = false := by
      cases hq : dst.any (fun d => decide (hint d = 17)) with
      | false => rfl
      | true => simp [kd, hq] at hk
    rw [if_neg (by rw [h17]; decide)]
    split at hy
    · rename_i z hz
      split at hy
      · rename_i hc
        cases hy
        rw [hz]
        exact ⟨hc.1, hc.2.1, hc.2.2.1, hc.2.2.2.1, hc.2.2.2.2, h⟩
      · cases hy
    · cases hy
  case call c =>
    obtain ⟨callee, args, tys⟩ := c
    cases callee with
    | value f =>
      simp only [Yld] at hy
      simp only [iop]
      have h510 : (dst.any fun d => decide (hint d = 5) || decide (hint d = 10) || decide (hint d = 13)) = false := by
        cases h5 : (dst.any fun d => decide (hint d = 5) || decide (hint d = 10) || decide (hint d = 13)) with
        | false => rfl
        | true => simp only [kd, h5] at hk; simp at hk
      have h13 : (dst.any fun x => decide (hint x = 13)) = false := by
        cases dst with
        | none => rfl
        | some d => simp only [Option.any_some, Bool.or_eq_false_iff] at h510 ⊢; exact h510.2
      rw [if_neg (by rw [h13]; decide)]
      have h5 : (dst.any fun x => decide (hint x = 5)) = false := by
        cases dst with
        | none => rfl
        | some d => simp only [Option.any_some, Bool.or_eq_false_iff] at h510 ⊢; exact h510.1.1
      have h10 : (dst.any fun x => decide (hint x = 10)) = false := by
        cases dst with
        | none => rfl
        | some d => simp only [Option.any_some, Bool.or_eq_false_iff] at h510 ⊢; exact h510.1.2
      split at hy
      · rename_i fid first cap hc
        rw [hc]
        simp only [h5, h10, sa, growR_false]
        refine hy.mono ?_
        rintro e h' ⟨rfl, rfl⟩
        exact h
      · exact hy.elim
    | invoke r m => simp [kd] at hk
    | builtin b =>
      cases b <;> simp only [kd, Nat.reduceLeDiff] at hk
      case append => split at hk <;> omega
      case len =>
        have h11 : dst.any (hint · = 11) = false := by
          cases hq : dst.any (hint · = 11) with
          | false => rfl
          | true => simp [hq] at hk
        simp only [Yld] at hy
        simp only [iop, hy, vK, h11]
        first | exact h | simpa using h
      all_goals
        simp only [Yld] at hy
        simp only [iop, hy, vK]
        exact h
  case convert s t x =>
    simp only [Yld] at hy
    simp only [iop, icvt]
    split
    · rename_i e v hs ht hx; simp [pop, hs, ht, hx] at hy
    · rename_i e z b off n cap hs ht hx; simp [pop, hs, ht, hx] at hy
    · rename_i e e' z b off n cap hs ht hx; simp [pop, hs, ht, hx] at hy
    · simp only [hy, vK]; exact h
  all_goals first
    | (simp [kd] at hk; done)
    | (simp only [Yld] at hy; simp only [iop, hy, vK]; exact h)

theorem dop_sound {c : Ctx} {hint : Nat → Nat} {ops : Array Oper} {i : Nat} {o : Oper} {st : St} {a : Act} {w : World} {K : St → Prop} {Q : IExit → St → Prop} {Nx : Act → World → Prop} {Q' : Exit → Act → World → Prop}
    (hi : ops[i]? = some o) (hok : ∀ o ∈ ops.toList, okOper c.N o = true) (hs : Sim c st a w) (h : dop c.P hint ops.toList o st K Q) (hK : ∀ st a w, Sim c st a w → K st → Nx a w) (hQ : ∀ ie st e a w, Q ie st → ExRel c ie st e a w → Q' e a w) :
    wpOp c.P ops Q' i Nx a w := by
  have hoo : okOper c.N o = true := hok o (by
    have := List.mem_of_getElem? (l := ops.toList) (i := i) (a := o) (by simpa using hi); exact this)
  -- is it carried out?
  have hw : ∀ b, wnt ops.toList st o = some b → Region.wanted o (yielded ops a.tmps) = b := by
    intro b hb
    unfold wnt gdst at hb
    cases hg : o.guard with
    | none => rw [hg] at hb; simp at hb; subst hb; simp [Region.wanted, hg]
    | some p =>
      obtain ⟨j, want⟩ := p
      rw [hg] at hb
      simp only at hb
      split at hb
      · rename_i dj hdj
        split at hb
        · rename_i x hx
          cases hb
          have hdj' : (ops[j]?).bind (·.dst) = some dj := by simpa using hdj
          have hdN : dj < c.N := by
            obtain ⟨oj, h1, h2⟩ := Option.bind_eq_some_iff.1 hdj
            have := hok oj (List.mem_of_getElem? h1)
            simp only [okOper, h2, Bool.and_eq_true, decide_eq_true_eq] at this
            exact this.2
          have hy := yielded_of hs hdj' hdN hx
          simp [Region.wanted, hg, hy]
        · rename_i hx
          cases hb
          have hdj' : (ops[j]?).bind (·.dst) = some dj := by simpa using hdj
          have hdN : dj < c.N := by
            obtain ⟨oj, h1, h2⟩ := Option.bind_eq_some_iff.1 hdj
            have := hok oj (List.mem_of_getElem? h1)
            simp only [okOper, h2, Bool.and_eq_true, decide_eq_true_eq] at this
            exact this.2
          have hy := yielded_und hs hdj' hdN hx
          simp [Region.wanted, hg, hy]
        · cases hb
      · cases hb
  unfold wpOp
  simp only [hi]
  unfold dop at h
  split at h
  · rename_i hwt
    rw [if_pos (hw true hwt)]
    left
    split at h
    · rename_i hk
      obtain ⟨v, h1, h2⟩ := h
      exact iop_sound hs hoo (yld_iop (hint := hint) (Q := Q) hk h1.1 h2) hK hQ
    · exact iop_sound hs hoo h.2 hK hQ
  · rename_i hwt
    rw [if_neg (by rw [hw false hwt]; simp)]
    exact hK _ _ _ (hs.put o.dst (x := .tup []) (v := undef) (fun _ _ => und_rep)) h
  · exact h.elim

/-- what comes before an operation, whatever the order -/
def befs : List Oper → List (List Nat)
  | [] => []
  | o :: os => befs os ++ [o.after.toList.flatMap fun e => if Region.binds .any e then e.on :: (befs os).getD e.on [] else []]

def chkOrd (hint : Nat → Nat) (ops : Array Oper) (bs : List (List Nat)) : List Nat → Bool
  | [] => true
  | i :: r => (r.all fun j => (bs.getD j []).contains i || (match ops[i]?, ops[j]? with | some p, some q => indep hint ops p q | _, _ => false)) && chkOrd hint ops bs r

def depsOf (ops : Array Oper) (i : Nat) : List Nat := match ops[i]? with | some o => (o.after.toList.filter (Region.binds .any)).map (·.on) | none => []

def chkDeps (ops : Array Oper) : List Nat → List Nat → Bool
  | _, [] => true
  | seen, i :: r => (depsOf ops i).all (seen.contains ·) && chkDeps ops (i :: seen) r

def chk (hint : Nat → Nat) (ops : Array Oper) (ord : List Nat) : Bool :=
  (ord.length == ops.size) && ord.all (fun i => decide (i < ops.size)) && decide ord.Nodup && (List.range ops.size).all (ord.contains ·) && chkDeps ops [] ord && chkOrd hint ops (befs ops.toList.reverse) ord

theorem befs_spec : ∀ (os : List Oper) (i p : Nat), p ∈ (befs os).getD i [] → ∃ o, os.reverse[i]? = some o ∧ ∃ e ∈ o.after.toList, Region.binds .any e = true ∧ (p = e.on ∨ (e.on < i ∧ p ∈ (befs os).getD e.on [])) := by
  intro os
  induction os with
  | nil => intro i p h; simp [befs] at h
  | cons o os ih =>
    intro i p h
    have hlen : ∀ l : List Oper, (befs l).length = l.length := fun l => by induction l with | nil => rfl | cons x xs ih => simp [befs, ih]
    simp only [befs, List.getD_eq_getElem?_getD, List.reverse_cons] at h ⊢
    by_cases hi : i < os.length
    · rw [List.getElem?_append_left (by rw [hlen]; exact hi)] at h
      obtain ⟨o1, h1, e, h2, h3, h4⟩ := ih i p (by simpa [List.getD_eq_getElem?_getD] using h)
      refine ⟨o1, by rw [List.getElem?_append_left (by simpa using hi)]; exact h1, e, h2, h3, ?_⟩
      rcases h4 with h4 | ⟨h4, h5⟩
      · exact .inl h4
      · refine .inr ⟨h4, ?_⟩
        rw [List.getElem?_append_left (by rw [hlen]; omega)]
        simpa [List.getD_eq_getElem?_getD] using h5
    · by_cases hi2 : i = os.length
      · subst hi2
        rw [List.getElem?_append_right (by rw [hlen]; exact Nat.le_refl _)] at h
        simp only [hlen, Nat.sub_self, List.getElem?_cons_zero, Option.getD_some, List.mem_flatMap] at h
        obtain ⟨e, h1, h2⟩ := h
        split at h2
        · rename_i hb
          refine ⟨o, by rw [List.getElem?_append_right (by simp)]; simp, e, h1, hb, ?_⟩
          rcases List.mem_cons.1 h2 with h3 | h3
          · exact .inl h3
          · by_cases h4 : e.on < os.length
            · exact .inr ⟨h4, by rw [List.getElem?_append_left (by rw [hlen]; exact h4)]; exact h3⟩
            · rw [List.getElem?_eq_none (by rw [hlen]; omega)] at h3; simp at h3
        · simp at h2
      · rw [List.getElem?_append_right (by rw [hlen]; omega), List.getElem?_eq_none (by simp [hlen]; omega)] at h
        simp at h

theorem chkDeps_spec {ops : Array Oper} : ∀ (l seen : List Nat), chkDeps ops seen l = true → ∀ (A : List Nat) (h : Nat) (B : List Nat), l = A ++ h :: B → ∀ d ∈ depsOf ops h, d ∈ seen ∨ d ∈ A
  | [], _, _, A, h, B, e => by cases A <;> simp at e
  | i :: r, seen, hc, A, h, B, e => by
    simp only [chkDeps, Bool.and_eq_true, List.all_eq_true, List.contains_iff_mem] at hc
    intro d hd
    cases A with
    | nil => simp at e; obtain ⟨rfl, rfl⟩ := e; exact .inl (hc.1 d hd)
    | cons x A =>
      simp at e
      obtain ⟨rfl, rfl⟩ := e
      rcases chkDeps_spec _ _ hc.2 A h B rfl d hd with h1 | h1
      · rcases List.mem_cons.1 h1 with h2 | h2
        · exact .inr (by simp [h2])
        · exact .inl h2
      · exact .inr (List.mem_cons_of_mem _ h1)

theorem chkOrd_pairwise {hint : Nat → Nat} {ops : Array Oper} {bs : List (List Nat)} : ∀ (l : List Nat), chkOrd hint ops bs l = true →
    l.Pairwise fun i j => i ∈ bs.getD j [] ∨ ∃ p q, ops[i]? = some p ∧ ops[j]? = some q ∧ indep hint ops p q = true
  | [], _ => .nil
  | i :: r, h => by
    simp only [chkOrd, Bool.and_eq_true, List.all_eq_true] at h
    refine .cons (fun j hj => ?_) (chkOrd_pairwise r h.2)
    have := h.1 j hj
    simp only [Bool.or_eq_true, List.contains_iff_mem] at this
    rcases this with h1 | h1
    · exact .inl h1
    · split at h1
      · rename_i p q hp hq; exact .inr ⟨p, q, hp, hq, h1⟩
      · cases h1

/-- what is listed is listed with all before it -/
theorem listed_befs {ops : Array Oper} {listed : Array Bool} (hcl : ∀ j o, ops[j]? = some o → listed.getD j true = true → ∀ e ∈ o.after, Region.binds .any e = true → listed.getD e.on false = true) (hsz : listed.size = ops.size) :
    ∀ (n i : Nat), i < n → (∀ o, ops[i]? = some o → ∀ e ∈ o.after, Region.binds .any e = true → listed.getD e.on false = true) → ∀ p, p ∈ (befs ops.toList.reverse).getD i [] → listed.getD p true = true := by
  have tt : ∀ j, listed.getD j false = true → listed.getD j true = true := by
    intro j h
    rw [Array.getD_eq_getD_getElem?] at h ⊢
    cases hj : listed[j]? with
    | none => rfl
    | some b => rw [hj] at h; simpa using h
  intro n
  induction n with
  | zero => intro i h; omega
  | succ n ih =>
    intro i hi hdeps p hp
    obtain ⟨o, h1, e, h2, h3, h4⟩ := befs_spec _ i p hp
    have ho : ops[i]? = some o := by simpa using h1
    have hon := hdeps o ho e (Array.mem_toList_iff.1 h2) h3
    rcases h4 with rfl | ⟨h4, h5⟩
    · exact tt _ hon
    · exact ih e.on (by omega) (fun o' ho' e' he' hb' => hcl e.on o' ho' (tt _ hon) e' he' hb') p h5

/-- what begins with x and lies in A, x, B, lies from x on -/
theorem sub_past {x : Nat} {L B : List Nat} : ∀ (A : List Nat), x ∉ A → (x :: L).Sublist (A ++ x :: B) → (x :: L).Sublist (x :: B)
  | [], _, h => h
  | y :: A, hxA, h => by
    have hne : y ≠ x := fun e => hxA (by simp [e])
    rw [List.cons_append] at h
    cases h with
    | cons _ h => exact sub_past A (fun h' => hxA (List.mem_cons_of_mem _ h')) h
    | cons_cons _ h => exact absurd rfl hne

def chkS (ops : Array Oper) (ord : List Nat) : Bool :=
  (ord.length == ops.size) && ord.all (fun i => decide (i < ops.size)) && decide ord.Nodup && (List.range ops.size).all (ord.contains ·) && chkDeps ops [] ord

theorem drawn_gen {c : Ctx} {hint : Nat → Nat} {id : Nat} {ops : Array Oper} {ord : List Nat} (hm : c.P.follows .mixedOrders = true) (hc : chkS ops ord = true) {st : St} {a : Act} {w : World} {K : St → Prop} {Q : IExit → St → Prop} {Q' : Exit → Act → World → Prop}
    (hok : ∀ o ∈ ops.toList, okOper c.N o = true) (hs : Sim c st a w) (D : List Nat → St → Prop) (h : D ord st)
    (hfront : ∀ (L1 L2 : List Nat) (i : Nat) (o : Oper) st a w, (L1 ++ i :: L2).Sublist ord → ops[i]? = some o → (∀ p ∈ L1, p ∉ (befs ops.toList.reverse).getD i []) → Sim c st a w → D (L1 ++ i :: L2) st → dop c.P hint ops.toList o st (fun s => D (L1 ++ L2) s) Q)
    (hnil : ∀ st, D [] st → K st)
    (hK : ∀ st a w, Sim c st a w → K st → Q' .normal a w) (hQ : ∀ ie st e a w, Q ie st → ExRel c ie st e a w → Q' e a w) : (Code.region id ops true).wp c.P Q' a w := by
  simp only [chkS, Bool.and_eq_true, beq_iff_eq, List.all_eq_true, decide_eq_true_eq, List.contains_iff_mem] at hc
  obtain ⟨⟨⟨⟨hlen, hlt⟩, hnd⟩, hall⟩, hdep⟩ := hc
  refine wp_region_any hm ?_
  have hs' : Sim c st a w.drew := by obtain ⟨g, hg, hk⟩ := hs; exact ⟨g, hg.drew, hk.drew⟩
  have key : ∀ (fuel : Nat) (listed : Array Bool) (L : List Nat) (st : St) (a : Act) (w : World), L.Sublist ord → L.length ≤ fuel → listed.size = ops.size → (∀ j, j < ops.size → (j ∈ L ↔ listed.getD j true = false)) →
      (∀ j o, ops[j]? = some o → listed.getD j true = true → ∀ e ∈ o.after, Region.binds .any e = true → listed.getD e.on false = true) →
      Sim c st a w → D L st → wpAny c.P .any ops Q' fuel listed a w := by
    intro fuel
    induction fuel with
    | zero =>
      intro listed L st a w _ hf _ hL _ hs h
      have hL0 : L = [] := List.eq_nil_of_length_eq_zero (by omega)
      subst hL0
      refine ⟨?_, hK st a w hs (hnil st h)⟩
      cases hr : Region.ready .any ops listed with
      | nil => rfl
      | cons i r =>
        have hmem : i ∈ Region.ready .any ops listed := by rw [hr]; exact List.mem_cons_self
        obtain ⟨h1, o, h2, _⟩ := mem_ready.1 hmem
        have hi : i < ops.size := (Array.getElem?_eq_some_iff.1 h2).1
        exact absurd ((hL i hi).2 h1) (by simp)
    | succ fuel ih =>
      intro listed L st a w hsub hf hsz hL hcl hs h
      constructor
      · intro hr
        cases L with
        | nil => exact hK st a w hs (hnil st h)
        | cons x L =>
          exfalso
          have hx : x ∈ ord := hsub.subset List.mem_cons_self
          obtain ⟨A, B, hAB⟩ := List.append_of_mem hx
          have hxn := hlt x hx
          obtain ⟨o, ho⟩ : ∃ o, ops[x]? = some o := ⟨ops[x], by simp [hxn]⟩
          have hmem : x ∈ Region.ready .any ops listed := by
            rw [mem_ready]
            refine ⟨(hL x hxn).1 List.mem_cons_self, o, ho, fun e he hb => ?_⟩
            have hd : e.on ∈ depsOf ops x := by
              simp only [depsOf, ho]
              exact List.mem_map.2 ⟨e, List.mem_filter.2 ⟨Array.mem_toList_iff.2 he, hb⟩, rfl⟩
            have hA : e.on ∈ A := (chkDeps_spec ord [] hdep A x B hAB e.on hd).resolve_left (by simp)
            have hon : e.on < ops.size := hlt _ (by rw [hAB]; simp [hA])
            have hnL : e.on ∉ x :: L := by
              intro hin
              rcases List.mem_cons.1 hin with h1 | h1
              · -- x itself stands in A: no
                rw [hAB] at hnd
                have := (List.nodup_append.1 hnd).2.2 e.on hA x List.mem_cons_self
                exact this h1
              · -- behind x in L, ahead of it in ord
                rw [hAB] at hsub hnd
                have hxA : x ∉ A := fun hxA => (List.nodup_append.1 hnd).2.2 x hxA x List.mem_cons_self rfl
                have h2 : (x :: L).Sublist (x :: B) := sub_past A hxA hsub
                have h3 : e.on ∈ B := by
                  have h4 := h2.subset (List.mem_cons_of_mem _ h1)
                  rcases List.mem_cons.1 h4 with h5 | h5
                  · exact absurd h5 ((List.nodup_append.1 hnd).2.2 e.on hA x List.mem_cons_self)
                  · exact h5
                exact (List.nodup_append.1 hnd).2.2 e.on hA e.on (List.mem_cons_of_mem _ h3) rfl
            have h1 : listed.getD e.on true = true := by
              cases hg : listed.getD e.on true with
              | true => rfl
              | false => exact absurd ((hL _ hon).2 hg) hnL
            rw [Array.getD_eq_getD_getElem?] at h1 ⊢
            rw [Array.getElem?_eq_getElem (by omega)] at h1 ⊢
            simpa using h1
          rw [hr] at hmem
          cases hmem
      · intro i hi
        obtain ⟨h1, o, ho, hdeps⟩ := mem_ready.1 hi
        have hin : i < ops.size := (Array.getElem?_eq_some_iff.1 ho).1
        have hiL : i ∈ L := (hL i hin).2 h1
        obtain ⟨L1, L2, hL12⟩ := List.append_of_mem hiL
        have hndL : L.Nodup := hnd.sublist hsub
        have hdep1 : ∀ p ∈ L1, p ∉ (befs ops.toList.reverse).getD i [] := by
          intro p hp hR
          have h2 := listed_befs hcl hsz (i + 1) i (by omega) (fun o' ho' e he hb => by rw [ho] at ho'; cases ho'; exact hdeps e he hb) p hR
          have hpn : p < ops.size := hlt p (hsub.subset (by rw [hL12]; simp [hp]))
          have h3 := (hL p hpn).1 (by rw [hL12]; simp [hp])
          rw [h3] at h2; cases h2
        have h2 := hfront L1 L2 i o st a w (hL12 ▸ hsub) ho hdep1 hs (hL12 ▸ h)
        refine dop_sound ho hok hs h2 (fun st a w hs h => ?_) hQ
        have hsub' : (L1 ++ L2).Sublist L := by rw [hL12]; exact List.Sublist.append_left (List.sublist_cons_self i L2) L1
        refine ih (listed.setIfInBounds i true) (L1 ++ L2) st a w (hsub'.trans hsub) (by rw [hL12] at hf; simp at hf ⊢; omega) (by simpa using hsz) ?_ ?_ hs h
        · intro j hj
          by_cases hji : j = i
          · subst hji
            have : j ∉ L1 ++ L2 := by
              rw [hL12] at hndL
              have h5 := List.nodup_append.1 hndL
              intro h6
              rcases List.mem_append.1 h6 with h7 | h7
              · exact h5.2.2 j h7 j List.mem_cons_self rfl
              · exact (List.nodup_cons.1 h5.2.1).1 h7
            simp [this, Array.getD_eq_getD_getElem?, Array.getElem?_setIfInBounds, hsz, hj]
          · rw [getD_set_ne true (fun e => hji e.symm), ← hL j hj, hL12]
            simp [hji]
        · intro j o' ho' hl' e he hb
          by_cases hji : j = i
          · subst hji
            rw [ho] at ho'; cases ho'
            exact getD_set_true (hdeps e he hb)
          · rw [getD_set_ne true (fun e => hji e.symm)] at hl'
            exact getD_set_true (hcl j o' ho' hl' e he hb)
  refine key ops.size _ ord st a w.drew (List.Sublist.refl _) (by omega) (by simp) ?_ ?_ hs' h
  · intro j hj
    simp [Array.getD_eq_getD_getElem?, Array.getElem?_replicate, hj]
    exact hall j (List.mem_range.2 hj)
  · intro j o ho hl
    have hj : j < ops.size := (Array.getElem?_eq_some_iff.1 ho).1
    simp [Array.getD_eq_getD_getElem?, Array.getElem?_replicate, hj] at hl


theorem drawn_sound {c : Ctx} {hint : Nat → Nat} {id : Nat} {ops : Array Oper} {ord : List Nat} (hm : c.P.follows .mixedOrders = true) (hc : chk hint ops ord = true) {st : St} {a : Act} {w : World} {K : St → Prop} {Q : IExit → St → Prop} {Q' : Exit → Act → World → Prop}
    (hok : ∀ o ∈ ops.toList, okOper c.N o = true) (hs : Sim c st a w) (h : dops c.P hint ops.toList (ord.filterMap (ops[·]?)) st K Q)
    (hK : ∀ st a w, Sim c st a w → K st → Q' .normal a w) (hQ : ∀ ie st e a w, Q ie st → ExRel c ie st e a w → Q' e a w) : (Code.region id ops true).wp c.P Q' a w := by
  have hc0 : chkS ops ord = true := by simp only [chk, Bool.and_eq_true] at hc; simp only [chkS, Bool.and_eq_true]; exact hc.1
  simp only [chk, Bool.and_eq_true] at hc
  have hpw := chkOrd_pairwise _ hc.2
  refine drawn_gen (hint := hint) hm hc0 hok hs (fun L st => dops c.P hint ops.toList (L.filterMap (ops[·]?)) st K Q) h ?_ (fun st h => h) hK hQ
  intro L1 L2 i o st a w hsub ho hdep hs h
  have hpwL := hpw.sublist hsub
  have hfm : (L1 ++ i :: L2).filterMap (ops[·]?) = L1.filterMap (ops[·]?) ++ o :: L2.filterMap (ops[·]?) := by
    rw [List.filterMap_append, List.filterMap_cons, ho]
  rw [hfm] at h
  have h2 := dops_front (L1.filterMap (ops[·]?)) (L2.filterMap (ops[·]?)) st (fun op hop => by
    obtain ⟨p, hp, hpo⟩ := List.mem_filterMap.1 hop
    have hR := (List.pairwise_append.1 hpwL).2.2 p hp i List.mem_cons_self
    rcases hR with hR | ⟨p', q', k1, k2, k3⟩
    · exact absurd hR (hdep p hp)
    · rw [ho] at k2; cases k2; rw [k1] at hpo; cases hpo; exact k3) h
  rw [← List.filterMap_append] at h2
  exact h2

/-! a variable of the body's own that is made in the region: it is listed first -/
def isAll (hint : Nat → Nat) (o : Oper) : Bool := match o.op, o.dst, o.guard with | .alloc _, some d, none => decide (hint d ≠ 1) | _, _, _ => false

theorem Yld.back {P : Program} {hint : Nat → Nat} {o : Oper} {st st' : St} {d g : Nat} {zs : List IV} {v : IV} (hk : kd hint o ≤ 1) (he : ∀ x ∈ o.op.operands, st'.ev x = st.ev x) (hm : st'.m = upd st.m d (some (g, zs))) (hh : st'.h = st.h)
    (hG : ∀ x ∈ o.op.operands, ∀ off, st.ev x ≠ .loc d g off) (h : Yld P st' o v) : Yld P st o v := by
  have hlv : ∀ x ∈ o.op.operands, ∀ s gg off, st.ev x = .loc s gg off → live st' s gg = true → live st s gg = true := by
    intro x hx s gg off hxe hl
    unfold live at hl ⊢
    rw [hm] at hl
    by_cases hs : s = d
    · subst hs
      simp only [upd_same, beq_iff_eq] at hl
      subst hl
      exact absurd hxe (hG x hx off)
    · rwa [upd_ne _ _ hs] at hl
  have hrd : ∀ x ∈ o.op.operands, ∀ k r, st'.rd (st.ev x) k = some r → st.rd (st.ev x) k = some r := by
    intro x hx k r hr
    cases hxe : st.ev x <;> rw [hxe] at hr <;> simp only [St.rd, hh] at hr ⊢ <;> try exact hr
    rename_i s gg off
    rw [hm] at hr
    by_cases hs : s = d
    · subst hs
      simp only [upd_same] at hr
      split at hr
      · rename_i hc; exact absurd (hc.1 ▸ hxe) (hG x hx off)
      · cases hr
    · rwa [upd_ne _ _ hs] at hr
  by_cases hsp : (match o.op with | .load _ _ => true | .fieldAddr _ _ _ => true | .nilCheck _ => true | _ => false) = true
  · obtain ⟨dst, op, ty, pos, after, guard⟩ := o
    cases op <;> simp at hsp
    case load t x =>
      have hx : x ∈ (Op.load t x).operands := by simp [Op.operands]
      simp only [Yld, pop] at h ⊢
      rw [he x hx] at h
      split at h
      · rename_i z hz ha
        obtain ⟨cs, h1, h2⟩ := Option.map_eq_some_iff.1 h
        rw [hrd x hx _ _ h1]; exact congrArg some h2
      · split at h
        · rename_i c hc; rw [hrd x hx _ _ hc]; exact h
        · cases h
      · cases h
    case fieldAddr t x f =>
      have hx : x ∈ (Op.fieldAddr t x f).operands := by simp [Op.operands]
      simp only [Yld, pop] at h ⊢
      rw [he x hx] at h
      obtain ⟨n, h1, h2⟩ := Option.bind_eq_some_iff.1 h
      rw [h1, Option.bind_some]
      cases hxe : st.ev x <;> rw [hxe] at h2 <;> simp only [addA] at h2 ⊢ <;> try exact h2
      rename_i s gg off
      split at h2
      · rename_i hl
        rw [if_pos (hlv x hx s gg off hxe hl)]; exact h2
      · cases h2
    case nilCheck x =>
      have hx : x ∈ (Op.nilCheck x).operands := by simp [Op.operands]
      simp only [Yld, pop] at h ⊢
      rw [he x hx] at h
      cases hxe : st.ev x with
      | loc s gg off =>
        rw [hxe] at h
        simp only at h ⊢
        split at h
        · rename_i hl
          rw [if_pos (hlv x hx s gg off hxe hl)]; exact h
        · cases h
      | fn f a c => rw [hxe] at h; cases f <;> exact h
      | _ => rw [hxe] at h; exact h
  · -- the rest does not look at local variables
    have e0 : Yld P { st' with m := st.m } o v := by
      obtain ⟨dst, op, ty, pos, after, guard⟩ := o
      cases op <;> simp at hsp <;> simp only [Yld] at h ⊢ <;> try exact h
      case slice t x lo hi mx => cases mx <;> exact h
    refine Yld.congr (hint := hint) (st := { st' with m := st.m }) (.inr ⟨rfl, hh.symm⟩) (fun x hx => ?_) e0
    rw [← he x hx]; cases x <;> rfl

theorem dop_all {P : Program} {hint : Nat → Nat} {all : List Oper} {al : Oper} {st : St} {K : St → Prop} {Q : IExit → St → Prop} (ha : isAll hint al = true) :
    ∃ d e, al.dst = some d ∧ al.op = .alloc e ∧ (dop P hint all al st K Q ↔ ∃ z, zeT P e = some z ∧ (z.cells.toList.all fun u => u.oneCell') = true ∧ K (({ st with m := upd st.m d (some (ngen st d, z.cells.toList.map cv)) } : St).put (some d) (.loc d (ngen st d) 0))) := by
  obtain ⟨dst, op, ty, pos, after, guard⟩ := al
  cases op <;> simp [isAll] at ha
  rename_i e
  cases dst with
  | none => simp at ha
  | some d =>
    cases guard with
    | some _ => simp at ha
    | none =>
      simp at ha
      refine ⟨d, e, rfl, rfl, ?_⟩
      simp only [dop, wnt, kd, iop, ha, if_false]
      cases hz : zeT P e with
      | none => simp
      | some z =>
        simp only [Option.some.injEq, exists_eq_left', ha, if_false]
        rw [if_neg (by omega)]
        exact ⟨fun h => h.2, fun h => ⟨trivial, h⟩⟩

theorem alloc_swap {P : Program} {hint : Nat → Nat} {ops : Array Oper} {al q : Oper} {st : St} {K : St → Prop} {Q : IExit → St → Prop} (ha : isAll hint al = true) (hap : al.apart ops q = true) (hq : kd hint q ≤ 1)
    (hG : ∀ x ∈ q.op.operands, ∀ d, al.dst = some d → ∀ off, st.ev x ≠ .loc d (ngen st d) off)
    (h : dop P hint ops.toList al st (fun s => dop P hint ops.toList q s K Q) Q) : dop P hint ops.toList q st (fun s => dop P hint ops.toList al s K Q) Q := by
  obtain ⟨a1, a2, a3⟩ := Oper.apart_spec hap
  obtain ⟨d, e, hd, hop, hiff⟩ := dop_all (P := P) (all := ops.toList) (st := st) (K := fun s => dop P hint ops.toList q s K Q) (Q := Q) ha
  obtain ⟨z, hz, hone, h⟩ := hiff.1 h
  rw [dop_low hq] at h ⊢
  obtain ⟨v, h1, h2⟩ := h
  rw [hd] at a1 a2
  refine ⟨v, ?_, ?_⟩
  · have wq : wnt ops.toList (({ st with m := upd st.m d (some (ngen st d, z.cells.toList.map cv)) } : St).put (some d) (.loc d (ngen st d) 0)) q = wnt ops.toList st q := by
      rw [wnt_congr (st := { st with m := upd st.m d (some (ngen st d, z.cells.toList.map cv)) }) fun t ht => put_t_ne _ _ _ _ (fun e => a1 t e ht)]
      rfl
    rcases h1 with ⟨k1, k2⟩ | ⟨k1, k2⟩
    · refine .inl ⟨wq ▸ k1, Yld.back (st := st) (st' := ({ st with m := upd st.m d (some (ngen st d, z.cells.toList.map cv)) } : St).put (some d) (.loc d (ngen st d) 0)) (d := d) (g := ngen st d) (zs := z.cells.toList.map cv) hq (fun x hx => ?_) rfl rfl (fun x hx off => hG x hx d hd off) k2.1, own8_congr (fun x hx => ?_) k2.2⟩
      · rw [ev_put_apart _ (some d) _ a1 x hx]; cases x <;> rfl
      · rw [ev_put_apart _ (some d) _ a1 x hx]; cases x <;> rfl
    · exact .inr ⟨wq ▸ k1, k2⟩
  · obtain ⟨d', e', hd', hop', hiff'⟩ := dop_all (P := P) (all := ops.toList) (st := st.put q.dst v) (K := K) (Q := Q) ha
    rw [hd] at hd'; cases hd'
    rw [hop] at hop'; cases hop'
    refine hiff'.2 ⟨z, hz, hone, ?_⟩
    have hng : ngen (st.put q.dst v) d = ngen st d := by unfold ngen; rw [put_m]
    rw [hng, put_m]
    have e1 : ({ st.put q.dst v with m := upd st.m d (some (ngen st d, z.cells.toList.map cv)) } : St) = ({ st with m := upd st.m d (some (ngen st d, z.cells.toList.map cv)) } : St).put q.dst v := by cases q.dst <;> rfl
    rw [e1, put_comm _ v (.loc d (ngen st d) 0) (fun t e => fun e2 => a2 t e2 (by rw [e]))]
    exact h2

def chkA (hint : Nat → Nat) (ops : Array Oper) (a0 : Nat) (ord : List Nat) : Bool :=
  chkS ops (a0 :: ord) && (chkOrd hint ops (befs ops.toList.reverse) ord && (match ops[a0]? with
    | some al => isAll hint al && ord.all fun j => ((befs ops.toList.reverse).getD j []).contains a0 || (match ops[j]? with | some q => al.apart ops q && decide (kd hint q ≤ 1) | none => false)
    | none => false))

theorem drawn_alloc {c : Ctx} {hint : Nat → Nat} {id : Nat} {ops : Array Oper} {a0 : Nat} {ord : List Nat} (hm : c.P.follows .mixedOrders = true) (hc : chkA hint ops a0 ord = true) {st : St} {a : Act} {w : World} {K : St → Prop} {Q : IExit → St → Prop} {Q' : Exit → Act → World → Prop}
    (hok : ∀ o ∈ ops.toList, okOper c.N o = true) (hs : Sim c st a w) (h : dops c.P hint ops.toList ((a0 :: ord).filterMap (ops[·]?)) st K Q)
    (hK : ∀ st a w, Sim c st a w → K st → Q' .normal a w) (hQ : ∀ ie st e a w, Q ie st → ExRel c ie st e a w → Q' e a w) : (Code.region id ops true).wp c.P Q' a w := by
  simp only [chkA, Bool.and_eq_true] at hc
  obtain ⟨hcS, hcO, hcA⟩ := hc
  have hpw := chkOrd_pairwise _ hcO
  refine drawn_gen (hint := hint) hm hcS hok hs (fun L st => dops c.P hint ops.toList (L.filterMap (ops[·]?)) st K Q) h ?_ (fun st h => h) hK hQ
  clear hs h
  intro L1 L2 i o st a w hsub ho hdep hs h9
  have plain : ∀ (L1 : List Nat) st, (L1 ++ i :: L2).Sublist ord → (∀ p ∈ L1, p ∉ (befs ops.toList.reverse).getD i []) → dops c.P hint ops.toList ((L1 ++ i :: L2).filterMap (ops[·]?)) st K Q →
      dop c.P hint ops.toList o st (fun s => dops c.P hint ops.toList ((L1 ++ L2).filterMap (ops[·]?)) s K Q) Q := by
    intro L1 st hsub hdep h
    have hpwL := hpw.sublist hsub
    have hfm : (L1 ++ i :: L2).filterMap (ops[·]?) = L1.filterMap (ops[·]?) ++ o :: L2.filterMap (ops[·]?) := by
      rw [List.filterMap_append, List.filterMap_cons, ho]
    rw [hfm] at h
    have h2 := dops_front (L1.filterMap (ops[·]?)) (L2.filterMap (ops[·]?)) st (fun op hop => by
      obtain ⟨p, hp, hpo⟩ := List.mem_filterMap.1 hop
      have hR := (List.pairwise_append.1 hpwL).2.2 p hp i List.mem_cons_self
      rcases hR with hR | ⟨p', q', k1, k2, k3⟩
      · exact absurd hR (hdep p hp)
      · rw [ho] at k2; cases k2; rw [k1] at hpo; cases hpo; exact k3) h
    rw [← List.filterMap_append] at h2
    exact h2
  generalize hLL : L1 ++ i :: L2 = LL at hsub
  cases hsub with
  | cons _ hsub => subst hLL; exact plain L1 st hsub hdep h9
  | cons_cons _ hsub =>
    rename_i LL'
    cases L1 with
    | nil =>
      simp only [List.nil_append, List.cons.injEq] at hLL
      obtain ⟨rfl, rfl⟩ := hLL
      simp only [List.nil_append, List.filterMap_cons, ho] at h9 ⊢
      exact h9
    | cons x L1 =>
      simp only [List.cons_append, List.cons.injEq] at hLL
      obtain ⟨rfl, rfl⟩ := hLL
      cases hal : ops[x]? with
      | none => rw [hal] at hcA; cases hcA
      | some al =>
        rw [hal] at hcA
        simp only [Bool.and_eq_true, List.all_eq_true] at hcA
        obtain ⟨hisA, hall⟩ := hcA
        have hi := hall i (hsub.subset (by simp))
        have hnb := hdep x List.mem_cons_self
        have hnb' : ((befs ops.toList.reverse).getD i []).contains x = false := by
          cases hcx : ((befs ops.toList.reverse).getD i []).contains x with
          | false => rfl
          | true => exact absurd (List.contains_iff_mem.1 hcx) hnb
        rw [hnb', ho] at hi
        simp only [Bool.false_or, Bool.and_eq_true, decide_eq_true_eq] at hi
        have hmem : o ∈ ops.toList := by
          have := List.mem_of_getElem? (l := ops.toList) (i := i) (a := o) (by simpa using ho); exact this
        have hoo := hok o hmem
        have h3 : dop c.P hint ops.toList al st (fun s => dops c.P hint ops.toList ((L1 ++ i :: L2).filterMap (ops[·]?)) s K Q) Q := by
          simp only [List.cons_append, List.filterMap_cons, hal] at h9; exact h9
        obtain ⟨d, e, hd, hop, _⟩ := dop_all (P := c.P) (all := ops.toList) (st := st) (K := fun _ => True) (Q := Q) hisA
        have h4 : dop c.P hint ops.toList al st (fun s => dop c.P hint ops.toList o s (fun s => dops c.P hint ops.toList ((L1 ++ L2).filterMap (ops[·]?)) s K Q) Q) Q := by
          obtain ⟨d1, e1, hd1, hop1, hiff1⟩ := dop_all (P := c.P) (all := ops.toList) (st := st) (K := fun s => dops c.P hint ops.toList ((L1 ++ i :: L2).filterMap (ops[·]?)) s K Q) (Q := Q) hisA
          obtain ⟨d2, e2, hd2, hop2, hiff2⟩ := dop_all (P := c.P) (all := ops.toList) (st := st) (K := fun s => dop c.P hint ops.toList o s (fun s => dops c.P hint ops.toList ((L1 ++ L2).filterMap (ops[·]?)) s K Q) Q) (Q := Q) hisA
          rw [hd1] at hd2; cases hd2
          rw [hop1] at hop2; cases hop2
          obtain ⟨z, hz, hone, hk⟩ := hiff1.1 h3
          exact hiff2.2 ⟨z, hz, hone, plain L1 _ hsub (fun p hp => hdep p (List.mem_cons_of_mem _ hp)) hk⟩
        have h5 := alloc_swap hisA hi.1 hi.2 (fun y hy d' hd' off hyl => by
          obtain ⟨g, hg, _⟩ := hs
          have hlt : opLt c.N y = true := by
            simp only [okOper, Bool.and_eq_true, ltOp, Array.all_eq_true_iff_forall_mem] at hoo
            exact hoo.1 y hy
          have := hg.ev hlt
          rw [hyl] at this
          obtain ⟨g0, cs, k1, k2, _⟩ := this
          simp only [ngen, k1] at k2
          omega) h4
        simp only [List.cons_append, List.filterMap_cons, hal]; exact h5
end Go.Idl
