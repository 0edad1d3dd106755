/- This text is a part of the proofs of the statements of this seat: the ideal states and their rules, or what one of the functions that the statements reach comes to. Conditions: none beyond those that each theorem names. -/
import Derived.Test.YtejjnaibgimiaaaGreatDoorIdl1
set_option linter.unusedVariables false
set_option linter.unusedSimpArgs false
namespace Go.Idl
structure GLe (g : Gh) (st : St) (w : World) (g' : Gh) (st' : St) (w' : World) : Prop where
  F : FLe g.F w g'.F w'
  m : ∀ s gg cs, st.m s = some (gg, cs) → ∃ g1 cs1, st'.m s = some (g1, cs1) ∧ (gg < g1 ∨ gg = g1 ∧ g'.lb s = g.lb s)
  x : ∀ s gg n e, st.x s = some (gg, n, e) → ∃ g1 n1 e1, st'.x s = some (g1, n1, e1) ∧ (gg < g1 ∨ gg = g1 ∧ (n1 = n ∧ g'.rv s = g.rv s ∨ n < n1))

theorem LRep.mono {g st w g' st' w'} (h : GLe g st w g' st' w') {x : IV} {v : Value} (hx : LRep g st w x v) : LRep g' st' w' x v := by
  cases x with
  | loc s gg o =>
    obtain ⟨g0, cs, h1, h2, h3⟩ := hx
    obtain ⟨g1, cs1, h4, h5⟩ := h.m s g0 cs h1
    refine ⟨g1, cs1, h4, by omega, fun e => ?_⟩
    rcases h5 with h5 | ⟨h5, h6⟩
    · omega
    · rw [h6]; exact h3 (by omega)
  | list t rows =>
    cases t with
    | row s gg =>
      obtain ⟨hr, g0, n0, e, h1, h2, h3⟩ := hx
      obtain ⟨g1, n1, e1, h4, h5⟩ := h.x s g0 n0 e h1
      refine ⟨Rep.mono h.F _ _ hr, g1, n1, e1, h4, by omega, fun e => ?_⟩
      rcases h5 with h5 | ⟨h5, h6⟩
      · omega
      · obtain ⟨h7, h8⟩ := h3 (by omega)
        rcases h6 with ⟨h6, h9⟩ | h6
        · rw [h9]; exact ⟨by omega, fun e => h8 (by omega)⟩
        · exact ⟨by omega, fun e => by omega⟩
    | plain => exact Rep.mono h.F _ _ hx
    | tight => exact Rep.mono h.F _ _ hx
  | _ => exact Rep.mono h.F _ _ hx

theorem LRepAll.mono {g st w g' st' w'} (h : GLe g st w g' st' w') : ∀ {xs : List IV} {vs : List Value}, LRepAll g st w xs vs → LRepAll g' st' w' xs vs
  | [], _, hv => hv
  | c :: cs, vs, hv => by
    obtain ⟨v, vs', h1, h2, h3⟩ := hv
    exact ⟨v, vs', h1, h2.mono h, h3.mono h⟩

def St.put (st : St) (d : Option Tmp) (x : IV) : St :=
  match d with
  | some d => { st with t := upd st.t d x }
  | none => st

theorem put_m (st : St) (d x) : (st.put d x).m = st.m := by cases d <;> rfl
theorem put_x (st : St) (d x) : (st.put d x).x = st.x := by cases d <;> rfl
theorem put_h (st : St) (d x) : (st.put d x).h = st.h := by cases d <;> rfl

theorem LRep.put {g st w x v} (d : Option Tmp) (y : IV) (h : LRep g st w x v) : LRep g (st.put d y) w x v :=
  h.mono ⟨⟨fun _ _ h => h, fun _ _ _ => rfl⟩, fun s gg cs h => ⟨gg, cs, by rw [put_m]; exact h, .inr ⟨rfl, rfl⟩⟩, fun s gg n e h => ⟨gg, n, e, by rw [put_x]; exact h, .inr ⟨rfl, .inl ⟨rfl, rfl⟩⟩⟩⟩

theorem GLe.put {g st w g' st' w'} (h : GLe g st w g' st' w') (d : Option Tmp) (x : IV) : GLe g st w g' (st'.put d x) w' :=
  ⟨h.F, fun s gg cs hs => by rw [put_m]; exact h.m s gg cs hs, fun s gg n e hs => by rw [put_x]; exact h.x s gg n e hs⟩

theorem GLe.refl (g st w) : GLe g st w g st w := ⟨⟨fun _ _ h => h, fun _ _ _ => rfl⟩, fun s gg cs h => ⟨gg, cs, h, .inr ⟨rfl, rfl⟩⟩, fun s gg n e h => ⟨gg, n, e, h, .inr ⟨rfl, .inl ⟨rfl, rfl⟩⟩⟩⟩

theorem getD_set (ts : Array Value) (d t : Nat) (v : Value) : (ts.setIfInBounds d v).getD t undef = if t = d ∧ d < ts.size then v else ts.getD t undef := by
  simp only [Array.getD_eq_getD_getElem?, Array.getElem?_setIfInBounds]
  by_cases h : t = d
  · subst h
    by_cases h2 : t < ts.size
    · simp [h2]
    · simp [h2]
  · have : ¬ d = t := fun e => h e.symm
    simp [h, this]

/-- temporaries behind a step -/
theorem tm_put {N : Nat} {g : Gh} {st : St} {w : World} {a : Act} (hsz : a.tmps.size = N) (htm : ∀ t, t < N → LRep g st w (st.t t) (a.tmps.getD t undef)) (d : Option Tmp) {x : IV} {v : Value}
    (hv : LRep g st w x v) : ∀ t, t < N → LRep g (st.put d x) w ((st.put d x).t t) ((a.put d v).tmps.getD t undef) := by
  intro t ht
  apply LRep.put
  cases d with
  | none => exact htm t ht
  | some d =>
    simp only [St.put, Act.put, getD_set, upd]
    by_cases h : t = d
    · subst h
      rw [if_pos rfl, if_pos ⟨rfl, by omega⟩]; exact hv
    · rw [if_neg h, if_neg (fun e => h e.1)]; exact htm t ht

theorem put_size (a : Act) (d : Option Tmp) (v : Value) : (a.put d v).tmps.size = a.tmps.size := by cases d <;> simp [Act.put]
theorem put_defers (a : Act) (d : Option Tmp) (v : Value) : (a.put d v).defers = a.defers := by cases d <;> rfl

/-- a step of one operation: what must be shown -/
theorem Core.step {P N B ds g st a w} (h : Core P N B ds g st a w) {g' : Gh} {st' : St} {w' : World} (d : Option Tmp) {x : IV} {v : Value}
    (ht : st'.t = st.t) (hle : GLe g st w g' st' w') (hv : LRep g' st' w' x v)
    (hp : ∀ b o, st'.h b = some o → XOk g'.X b o ∧ ObjRep g'.F w' b o)
    (xf : ∀ b o, g'.X b → ¬ g'.F b o) (xb : ∀ b, g'.X b → b < w'.heap.size) (fb : ∀ b o, g'.F b o → b < w'.heap.size)
    (lc : ∀ s gg cs, st'.m s = some (gg, cs) → B ≤ g'.lb s ∧ ¬ g'.X (g'.lb s) ∧ (∀ o, ¬ g'.F (g'.lb s) o) ∧
      ∃ (vals : List Value) (e : TypeId), w'.heap[g'.lb s]? = some (.cells vals.toArray e (0, 0)) ∧ LRepAll g' st' w' cs vals ∧ ∀ v ∈ vals, v.oneCell' = true)
    (ld : ∀ s s', s ≠ s' → st'.m s ≠ none → st'.m s' ≠ none → g'.lb s ≠ g'.lb s')
    (rws : ∀ s gg n e, st'.x s = some (gg, n, e) → ∃ z xs, szT P e = some z ∧ 0 < z ∧ w'.ownsRow B e z (g'.rv s) n xs ∧
      ∀ blk, (g'.rv s).ownBlock = some blk → ¬ g'.X blk ∧ (∀ o, g'.F blk o → o < n * z) ∧ ∀ s', st'.m s' ≠ none → g'.lb s' ≠ blk)
    (rds : ∀ s s', s ≠ s' → st'.x s ≠ none → st'.x s' ≠ none → ∀ blk, (g'.rv s).ownBlock = some blk → (g'.rv s').ownBlock ≠ some blk) :
    Core P N B ds g' (st'.put d x) (a.put d v) w' where
  size := by rw [put_size]; exact h.size
  defers := by rw [put_defers]; exact h.defers
  tm := tm_put h.size (fun t htN => by rw [ht]; exact (h.tm t htN).mono hle) d hv
  hp := by rw [put_h]; exact hp
  xf := xf
  xb := xb
  fb := fb
  lc s gg cs hs := by
    rw [put_m] at hs
    obtain ⟨h1, h2, h3, vals, e, h4, h5, h6⟩ := lc s gg cs hs
    exact ⟨h1, h2, h3, vals, e, h4, h5.mono ((GLe.refl g' st' w').put d x), h6⟩
  ld := by rw [put_m]; exact ld
  rws := by rw [put_x, put_m]; exact rws
  rds := by rw [put_x]; exact rds

theorem Core.put {P N B ds g st a w} (h : Core P N B ds g st a w) (d : Option Tmp) {x : IV} {v : Value} (hv : LRep g st w x v) : Core P N B ds g (st.put d x) (a.put d v) w :=
  h.step d rfl (GLe.refl g st w) hv h.hp h.xf h.xb h.fb h.lc h.ld h.rws h.rds

theorem Sim.put {c : Ctx} {st a w} (h : Sim c st a w) (d : Option Tmp) {x : IV} {v : Value} (hv : ∀ g, Core c.P c.N c.w0.heap.size c.ds g st a w → LRep g st w x v) : Sim c (st.put d x) (a.put d v) w := by
  obtain ⟨g, h1, h2⟩ := h
  exact ⟨g, h1.put d (hv g h1), h2⟩

/-! worlds that grow by a block -/
theorem FLe.alloc {F : Nat → Nat → Prop} {w : World} (hf : ∀ b o, F b o → b < w.heap.size) (o : Obj) (F' : Nat → Nat → Prop) (hF : ∀ b o, F b o → F' b o) : FLe F w F' (w.alloc o) :=
  ⟨hF, fun b i hb => World.cell?_alloc_lt w o _ (hf b i hb)⟩

theorem heap_alloc_lt (w : World) (o : Obj) {b : Nat} (h : b < w.heap.size) : (w.alloc o).heap[b]? = w.heap[b]? := by
  exact heap_alloc_old w o h
theorem heap_alloc_last (w : World) (o : Obj) : (w.alloc o).heap[w.heap.size]? = some o := heap_alloc_new w o

theorem RepEnts.mono {F F' : Nat → Nat → Prop} {w w' : World} (hF : FLe F w F' w') : ∀ (es : List (IV × IV)) (ents : List MapEntry), RepEnts F w es ents → RepEnts F' w' es ents
  | [], _, h => h
  | p :: r, ents, h => by obtain ⟨e, es', rfl, h1, h2, h3⟩ := h; exact ⟨e, es', rfl, h1.mono hF, h2.mono hF, RepEnts.mono hF r es' h3⟩

theorem ObjRep.mono {F F' : Nat → Nat → Prop} {w w' : World} {b : Nat} {o : IObj} (hF : FLe F w F' w') (hb : w'.heap[b]? = w.heap[b]?) (h : ObjRep F w b o) : ObjRep F' w' b o := by
  cases o with
  | cells cs => obtain ⟨pre, post, e, h1, h2, h3⟩ := h; exact ⟨pre, post, e, by rw [hb]; exact h1, RepAll.mono hF _ _ h2, h3⟩
  | arr e z rows tot => obtain ⟨pre, post, h1, h2, h3⟩ := h; exact ⟨pre, post, by rw [hb]; exact h1, RepAll.mono hF _ _ h2, h3⟩
  | map es => obtain ⟨ents, clock, h1, h2, h3⟩ := h; exact ⟨ents, clock, by rw [hb]; exact h1, RepEnts.mono hF _ _ h2, h3⟩
  | froz cs => obtain ⟨vals, h1, h2, h3, h4, e, fr, h5⟩ := h; exact ⟨vals, h1.mono hF, RepAll.mono hF _ _ h2, h3, fun o => hF.1 b o (h4 o), e, fr, hb.trans h5⟩
  | sit s pos => exact hb.trans h
  | pmap es ents clock => obtain ⟨h1, h2, h3⟩ := h; exact ⟨hb.trans h1, RepEnts.mono hF _ _ h2, h3⟩
  | mit m ents clock left cur =>
    obtain ⟨seen, h1, h2, h3⟩ := h
    exact ⟨seen, hb.trans h1, RepEnts.mono hF _ _ h2, fun k v hc => by obtain ⟨e, q1, q2, q3, q4⟩ := h3 k v hc; exact ⟨e, q1, q2, q3.mono hF, q4.mono hF⟩⟩
theorem ObjRep.mono' {F F' : Nat → Nat → Prop} {X : Nat → Prop} {w w' : World} {b : Nat} {o : IObj} (hF : FLe F w F' w') (hx : XOk X b o) (hb : X b → w'.heap[b]? = w.heap[b]?) (hbz : (∀ o, F b o) → w'.heap[b]? = w.heap[b]?) (h : ObjRep F w b o) : ObjRep F' w' b o := by
  cases o with
  | froz cs => exact ObjRep.mono hF (hbz (by obtain ⟨vals, h1, h2, h3, h4, _⟩ := h; exact h4)) h
  | _ => exact ObjRep.mono hF (hb hx) h
theorem ObjRep.lt {F : Nat → Nat → Prop} {X : Nat → Prop} {w : World} {b : Nat} {o : IObj} (hX : ∀ b, X b → b < w.heap.size) (hf : ∀ b o, F b o → b < w.heap.size) (hx : XOk X b o) (h : ObjRep F w b o) : b < w.heap.size := by
  cases o with
  | froz cs =>
    obtain ⟨vals, h1, h2, h3, _⟩ := h
    cases vals with
    | nil => exact absurd rfl h3
    | cons v vs => exact hf b _ (h1 0 v rfl).1
  | _ => exact hX b hx
theorem Core.blt {P N B ds g st a w} (h : Core P N B ds g st a w) {b : Nat} {o : IObj} (hb : st.h b = some o) : b < w.heap.size := ObjRep.lt h.xb h.fb (h.hp b o hb).1 (h.hp b o hb).2

theorem ownsRow_same {w w' : World} {B : Nat} {e : TypeId} {z : Nat} {v : Value} {n : Nat} {xs : List Value} (h : w.ownsRow B e z v n xs) (hb : ∀ blk, v.ownBlock = some blk → w'.heap[blk]? = w.heap[blk]?) : w'.ownsRow B e z v n xs := by
  refine ⟨h.1, ?_⟩
  rcases h.2 with h2 | ⟨g, cap, cur, hv, h3, h4, h5⟩
  · exact .inl h2
  · exact .inr ⟨g, cap, cur, hv, h3, by rw [hb g (by rw [hv]; rfl)]; exact h4, h5⟩

theorem ownsRow_lt {w : World} {B : Nat} {e : TypeId} {z : Nat} {v : Value} {n : Nat} {xs : List Value} (h : w.ownsRow B e z v n xs) {blk : Nat} (hb : v.ownBlock = some blk) : B ≤ blk ∧ blk < w.heap.size :=
  World.ownsRow.lt h blk hb

theorem Core.lb_lt {P N B ds g st a w} (h : Core P N B ds g st a w) {s gg cs} (hs : st.m s = some (gg, cs)) : g.lb s < w.heap.size := by
  obtain ⟨_, _, _, vals, e, hb, _⟩ := h.lc s gg cs hs
  exact (Array.getElem?_eq_some_iff.1 hb).1

/-- a new block, of whatever make: what was there stands -/
theorem Core.lc_keep {P N B ds g st a w} (h : Core P N B ds g st a w) {g' : Gh} {st' : St} {w' : World} (hle : GLe g st w g' st' w') {s gg cs} (hs : st.m s = some (gg, cs))
    (hlb : g'.lb s = g.lb s) (hX : ¬ g'.X (g.lb s)) (hF : ∀ o, ¬ g'.F (g.lb s) o) (hb : w'.heap[g.lb s]? = w.heap[g.lb s]?) :
    B ≤ g'.lb s ∧ ¬ g'.X (g'.lb s) ∧ (∀ o, ¬ g'.F (g'.lb s) o) ∧
      ∃ (vals : List Value) (e : TypeId), w'.heap[g'.lb s]? = some (.cells vals.toArray e (0, 0)) ∧ LRepAll g' st' w' cs vals ∧ ∀ v ∈ vals, v.oneCell' = true := by
  obtain ⟨h1, h2, h3, vals, e, h4, h5, h6⟩ := h.lc s gg cs hs
  rw [hlb]
  exact ⟨h1, hX, hF, vals, e, by rw [hb]; exact h4, h5.mono hle, h6⟩
def ngen (st : St) (d : Nat) : Nat := match st.m d with | some (g, _) => g + 1 | none => 0

def okL (st : St) : IV → Bool
  | .loc s g _ => live st s g
  | .dead => false
  | .tup _ => false
  | _ => true

theorem okL_one {P N B ds g st a w} (_ : Core P N B ds g st a w) {x : IV} {v : Value} (h : LRep g st w x v) (ho : okL st x = true) : LRepAll g st w (icells x) v.cells.toList ∧ ∀ u ∈ v.cells.toList, u.oneCell' = true := by
  cases x with
  | loc s gg o =>
    simp only [okL] at ho
    have h0 := h
    obtain ⟨g0, cs, h1, h2, h3⟩ := h
    simp only [live, h1, beq_iff_eq] at ho
    have h4 := h3 ho
    subst h4
    exact ⟨⟨_, _, rfl, h0, rfl⟩, by intro u hu; simp [Value.cells] at hu; subst hu; rfl⟩
  | list t rows =>
    cases t with
    | row s gg =>
      have h0 := h
      obtain ⟨A, cap, vals, h1, _⟩ := h.1
      subst h1
      exact ⟨⟨_, _, rfl, h0, rfl⟩, by intro u hu; simp [Value.cells] at hu; subst hu; rfl⟩
    | plain => obtain ⟨h1, h2⟩ := okV_one h rfl; exact ⟨h1.lrep, h2⟩
    | tight => obtain ⟨h1, h2⟩ := okV_one h rfl; exact ⟨h1.lrep, h2⟩
  | dead => cases ho
  | tup cs => cases ho
  | _ => obtain ⟨h1, h2⟩ := okV_one h rfl; exact ⟨h1.lrep, h2⟩

theorem Keep.alloc {F0 X0 w0 F X w} (h : Keep F0 X0 w0 F X w) (hf : ∀ b o, F b o → b < w.heap.size) (o : Obj) : Keep F0 X0 w0 F X (w.alloc o) where
  sz := by have := h.sz; simp; omega
  os := h.os
  tape := h.tape
  out := h.out
  fm := h.fm
  fc b i hb := (World.cell?_alloc_lt w o _ (hf b i (h.fm b i hb))).trans (h.fc b i hb)
  ub b hb hx := (heap_alloc_lt w o (Nat.lt_of_lt_of_le hb h.sz)).trans (h.ub b hb hx)
  xn := h.xn
  fn := h.fn

theorem Sim.newLoc {c : Ctx} {st a w} (h : Sim c st a w) (d : Nat) (cs : List IV) (vals : List Value) (e : TypeId)
    (hl : ∀ g, Core c.P c.N c.w0.heap.size c.ds g st a w → LRepAll g st w cs vals) (hone : ∀ v ∈ vals, v.oneCell' = true) :
    Sim c (({ st with m := upd st.m d (some (ngen st d, cs)) } : St).put (some d) (.loc d (ngen st d) 0)) (a.put (some d) (.pointer (some ⟨w.heap.size, 0, none⟩))) (w.alloc (.cells vals.toArray e)) := by
  obtain ⟨g, h, hk⟩ := h
  have hl := hl g h
  have hB := hk.sz
  refine ⟨{ g with lb := upd g.lb d w.heap.size }, ?_, hk.alloc h.fb _⟩
  have hle : GLe g st w { g with lb := upd g.lb d w.heap.size } { st with m := upd st.m d (some (ngen st d, cs)) } (w.alloc (.cells vals.toArray e)) := by
    refine ⟨FLe.alloc h.fb _ _ (fun _ _ h => h), fun s gg cs1 hs => ?_, fun s gg n e hs => ⟨gg, n, e, hs, .inr ⟨rfl, .inl ⟨rfl, rfl⟩⟩⟩⟩
    by_cases hsd : s = d
    · subst hsd
      exact ⟨ngen st s, cs, by simp [upd], .inl (by simp [ngen, hs])⟩
    · exact ⟨gg, cs1, by simp [upd, hsd, hs], .inr ⟨rfl, by simp [upd, hsd]⟩⟩
  refine h.step (some d) rfl hle ⟨ngen st d, cs, by simp [upd], Nat.le_refl _, fun _ => by simp [upd]⟩ ?_ h.xf ?_ ?_ ?_ ?_ ?_ ?_
  · intro b o hb
    obtain ⟨h1, h2⟩ := h.hp b o hb
    exact ⟨h1, h2.mono hle.F (heap_alloc_lt w _ (h.blt hb))⟩
  · intro b hb; have := h.xb b hb; simp; omega
  · intro b o hb; have := h.fb b o hb; simp; omega
  · intro s gg cs1 hs
    by_cases hsd : s = d
    · subst hsd
      simp only [upd, if_true, Option.some.injEq, Prod.mk.injEq] at hs
      obtain ⟨_, rfl⟩ := hs
      simp only [upd, if_true]
      refine ⟨hB, fun hx => ?_, fun o hf => ?_, vals, e, heap_alloc_last w _, hl.mono hle, hone⟩
      · have := h.xb _ hx; omega
      · have := h.fb _ _ hf; omega
    · simp only [upd, if_neg hsd] at hs
      obtain ⟨_, hx, hf, _⟩ := h.lc s gg cs1 hs
      exact h.lc_keep hle hs (by simp [upd, hsd]) hx hf (heap_alloc_lt w _ (h.lb_lt hs))
  · intro s s' hne hs hs'
    simp only [upd] at hs hs' ⊢
    by_cases h1 : s = d
    · by_cases h2 : s' = d
      · exact absurd (h1.trans h2.symm) hne
      · simp only [h1, h2, if_true, if_false] at hs' ⊢
        obtain ⟨p, hp⟩ := Option.ne_none_iff_exists'.1 hs'
        have := h.lb_lt (s := s') (gg := p.1) (cs := p.2) hp
        omega
    · by_cases h2 : s' = d
      · simp only [h1, h2, if_true, if_false] at hs ⊢
        obtain ⟨p, hp⟩ := Option.ne_none_iff_exists'.1 hs
        have := h.lb_lt (s := s) (gg := p.1) (cs := p.2) hp
        omega
      · simp only [h1, h2, if_false] at hs hs' ⊢
        exact h.ld s s' hne hs hs'
  · intro s gg n e1 hs
    obtain ⟨z, xs, h1, h2, h3, h4⟩ := h.rws s gg n e1 hs
    refine ⟨z, xs, h1, h2, ownsRow_same h3 (fun blk hb => heap_alloc_lt w _ (ownsRow_lt h3 hb).2), fun blk hb => ?_⟩
    obtain ⟨h5, h6, h7⟩ := h4 blk hb
    refine ⟨h5, h6, fun s' hs' => ?_⟩
    simp only [upd] at hs' ⊢
    by_cases hd : s' = d
    · simp only [hd, if_true]; have := (ownsRow_lt h3 hb).2; omega
    · simp only [hd, if_false] at hs' ⊢; exact h7 s' hs'
  · exact h.rds

/-- a new variable that everybody may know -/
theorem Sim.newObj {c : Ctx} {st a w} (h : Sim c st a w) (d : Option Tmp) (cs : List IV) (vals : List Value) (e : TypeId)
    (hl : ∀ g, Core c.P c.N c.w0.heap.size c.ds g st a w → RepAll g.F w cs vals) (hone : ∀ v ∈ vals, v.oneCell' = true) :
    ∃ b, st.h b = none ∧ Sim c (({ st with h := upd st.h b (some (.cells cs)) } : St).put d (.ptr b 0)) (a.put d (.pointer (some ⟨w.heap.size, 0, none⟩))) (w.alloc (.cells vals.toArray e)) := by
  obtain ⟨g, h, hk⟩ := h
  have hl := hl g h
  have hfresh : st.h w.heap.size = none := by
    cases hh : st.h w.heap.size with
    | none => rfl
    | some o => have := h.blt hh; omega
  refine ⟨w.heap.size, hfresh, { g with X := fun b => g.X b ∨ b = w.heap.size }, ?_, ?_⟩
  · have hle : GLe g st w { g with X := fun b => g.X b ∨ b = w.heap.size } { st with h := upd st.h w.heap.size (some (.cells cs)) } (w.alloc (.cells vals.toArray e)) :=
      ⟨FLe.alloc h.fb _ _ (fun _ _ h => h), fun s gg cs1 hs => ⟨gg, cs1, hs, .inr ⟨rfl, rfl⟩⟩, fun s gg n e hs => ⟨gg, n, e, hs, .inr ⟨rfl, .inl ⟨rfl, rfl⟩⟩⟩⟩
    refine h.step d rfl hle rfl ?_ ?_ ?_ ?_ ?_ h.ld ?_ h.rds
    · intro b o hb
      simp only [upd] at hb
      by_cases h1 : b = w.heap.size
      · subst h1
        simp only [if_true, Option.some.injEq] at hb
        subst hb
        exact ⟨.inr rfl, vals, [], e, by simpa using heap_alloc_last w _, RepAll.mono hle.F _ _ hl, by simpa using hone⟩
      · simp only [h1, if_false] at hb
        obtain ⟨h2, h3⟩ := h.hp b o hb
        exact ⟨h2.mono .inl, h3.mono hle.F (heap_alloc_lt w _ (h.blt hb))⟩
    · intro b o hb hf
      rcases hb with hb | hb
      · exact h.xf b o hb hf
      · subst hb; have := h.fb _ _ hf; omega
    · intro b hb
      rcases hb with hb | hb
      · have := h.xb b hb; simp; omega
      · subst hb; simp
    · intro b o hb; have := h.fb b o hb; simp; omega
    · intro s gg cs1 hs
      obtain ⟨_, hx, hf, _⟩ := h.lc s gg cs1 hs
      have hlt := h.lb_lt hs
      exact h.lc_keep hle hs rfl (fun hx' => hx'.elim hx (fun e => by omega)) hf (heap_alloc_lt w _ hlt)
    · intro s gg n e1 hs
      obtain ⟨z, xs, h1, h2, h3, h4⟩ := h.rws s gg n e1 hs
      refine ⟨z, xs, h1, h2, ownsRow_same h3 (fun blk hb => heap_alloc_lt w _ (ownsRow_lt h3 hb).2), fun blk hb => ?_⟩
      obtain ⟨h5, h6, h7⟩ := h4 blk hb
      exact ⟨fun hx => hx.elim h5 (fun e => by have := (ownsRow_lt h3 hb).2; omega), h6, h7⟩
  · have h1 := hk.alloc h.fb (.cells vals.toArray e)
    exact ⟨h1.sz, h1.os, h1.tape, h1.out, h1.fm, h1.fc, h1.ub, fun b hb => hb.elim (h1.xn b) (fun e => .inr (by have := hk.sz; omega)), h1.fn⟩

/-- a new row of cells that is never written again -/
theorem Sim.newRow {c : Ctx} {st a w} (h : Sim c st a w) (d : Option Tmp) (rows : List (List IV)) (vals : List Value) (e : TypeId) (hm : rows.length ≤ maxLen)
    (hl : ∀ g, Core c.P c.N c.w0.heap.size c.ds g st a w → RepAll g.F w rows.flatten vals) (hone : ∀ v ∈ vals, v.oneCell' = true) :
    Sim c (st.put d (.list .tight rows)) (a.put d (.slice (some ⟨w.heap.size, 0, none⟩) rows.length rows.length)) (w.alloc (.cells vals.toArray e)) := by
  obtain ⟨g, h, hk⟩ := h
  have hl := hl g h
  refine ⟨{ g with F := fun b o => g.F b o ∨ (b = w.heap.size ∧ o < vals.length) }, ?_, ?_⟩
  · have hle : GLe g st w { g with F := fun b o => g.F b o ∨ (b = w.heap.size ∧ o < vals.length) } st (w.alloc (.cells vals.toArray e)) :=
      ⟨FLe.alloc h.fb _ _ (fun _ _ h => .inl h), fun s gg cs1 hs => ⟨gg, cs1, hs, .inr ⟨rfl, rfl⟩⟩, fun s gg n e hs => ⟨gg, n, e, hs, .inr ⟨rfl, .inl ⟨rfl, rfl⟩⟩⟩⟩
    refine h.step d rfl hle ?_ ?_ ?_ ?_ ?_ ?_ h.ld ?_ h.rds
    · refine ⟨some ⟨w.heap.size, 0, none⟩, rows.length, vals, rfl, Nat.le_refl _, hm, (fun _ _ h => nomatch h), fun _ => rfl, fun _ => rfl, ?_, RepRows.unflat (RepAll.mono hle.F _ _ hl)⟩
      intro j v hj
      have hjl := (List.getElem?_eq_some_iff.1 hj).1
      refine ⟨.inr ⟨rfl, by simpa using hjl⟩, ?_, hone v (List.mem_of_getElem? hj)⟩
      rw [cell_at (heap_alloc_last w _)]
      simpa using hj
    · intro b o hb
      obtain ⟨h1, h2⟩ := h.hp b o hb
      exact ⟨h1, h2.mono hle.F (heap_alloc_lt w _ (h.blt hb))⟩
    · intro b o hb hf
      rcases hf with hf | ⟨hf, _⟩
      · exact h.xf b o hb hf
      · subst hf; have := h.xb _ hb; omega
    · intro b hb; have := h.xb b hb; simp; omega
    · intro b o hb
      rcases hb with hb | ⟨hb, _⟩
      · have := h.fb b o hb; simp; omega
      · subst hb; simp
    · intro s gg cs1 hs
      obtain ⟨_, hx, hf, _⟩ := h.lc s gg cs1 hs
      have hlt := h.lb_lt hs
      exact h.lc_keep hle hs rfl hx (fun o hf' => hf'.elim (hf o) (fun e => by omega)) (heap_alloc_lt w _ hlt)
    · intro s gg n e1 hs
      obtain ⟨z, xs, h1, h2, h3, h4⟩ := h.rws s gg n e1 hs
      refine ⟨z, xs, h1, h2, ownsRow_same h3 (fun blk hb => heap_alloc_lt w _ (ownsRow_lt h3 hb).2), fun blk hb => ?_⟩
      obtain ⟨h5, h6, h7⟩ := h4 blk hb
      exact ⟨h5, fun o hf => hf.elim (h6 o) (fun e => by have := (ownsRow_lt h3 hb).2; omega), h7⟩
  · have h1 := hk.alloc h.fb (.cells vals.toArray e)
    exact ⟨h1.sz, h1.os, h1.tape, h1.out, fun b o hb => .inl (h1.fm b o hb), h1.fc, h1.ub, h1.xn, fun b o hb => hb.elim (h1.fn b o) (fun e => .inr (.inl (by have := hk.sz; omega)))⟩
end Go.Idl
