/- This text is a part of the proofs of the statements of this seat: the ideal states and their rules, or what one of the functions that the statements reach comes to. Conditions: none beyond those that each theorem names. -/
import Derived.Test.YtejjnaibgimiaaaGreatDoorIdl7
set_option linter.unusedVariables false
set_option linter.unusedSimpArgs false
namespace Go.Idl
/-! behind a call, an array that nobody writes any more becomes a list -/
def fz1 (b z : Nat) (rows : List (List IV)) : IV → IV
  | .sl z' b' off n cap => if z' = z ∧ b' = b ∧ off + n ≤ rows.length then .list .plain ((rows.drop off).take n) else .sl z' b' off n cap
  | x => x
def fz2 (b z : Nat) (rows : List (List IV)) : IV → IV
  | .agg cs => .agg (cs.map (fz1 b z rows))
  | x => fz1 b z rows x
def fz3 (b z : Nat) (rows : List (List IV)) : IV → IV
  | .tup vs => .tup (vs.map (fz2 b z rows))
  | x => fz2 b z rows x
def dropH (b : Nat) (h : Heap) : Heap := fun j => if j = b then none else h j

theorem fz1_rep {F w} {b z : Nat} {rows : List (List IV)} {pre post : List Value} {e : TypeId} (hheap : w.heap[b]? = some (.cells (pre ++ post).toArray e (0, 0))) (hl : RepAll F w rows.flatten pre) (hu : uni z rows = true)
    (hone : ∀ v ∈ pre, v.oneCell' = true) {x : IV} {v : Value} (h : Rep F w x v) : Rep (fun j o => F j o ∨ (j = b ∧ o < pre.length)) w (fz1 b z rows x) v := by
  have hle : FLe F w (fun j o => F j o ∨ (j = b ∧ o < pre.length)) w := ⟨fun _ _ h => .inl h, fun _ _ _ => rfl⟩
  have hm := Rep.mono hle _ _ h
  cases x with
  | sl z' b' off n cap =>
    simp only [fz1]
    split
    · rename_i hc
      obtain ⟨rfl, rfl, hn⟩ := hc
      obtain ⟨rfl, hncap, hcm⟩ := h
      have hlen : ((rows.drop off).take n).length = n := by simp; omega
      have hsub : RepRows F w ((rows.take (off + n)).drop off) ((pre.drop (off * z')).take ((off + n - off) * z')) := RepRows.sub hu (RepRows.unflat hl) off (off + n) (by omega) hn
      refine ⟨some ⟨b', off * z', none⟩, cap, (pre.drop (off * z')).take (n * z'), by rw [hlen], by rw [hlen]; exact hncap, hcm, (fun _ _ h => nomatch h), (fun h => nomatch h), fun _ => rfl, ?_, ?_⟩
      · intro j u hj
        rw [List.getElem?_take] at hj
        split at hj
        · rw [List.getElem?_drop] at hj
          have hlt := (List.getElem?_eq_some_iff.1 hj).1
          refine ⟨.inr ⟨rfl, hlt⟩, ?_, hone u (List.mem_of_getElem? hj)⟩
          rw [cell_at hheap]
          simp only [List.getElem?_toArray]
          rw [List.getElem?_append_left hlt]; exact hj
        · cases hj
      · rw [show off + n - off = n by omega] at hsub
        have := RepRows.mono hle _ _ hsub
        rw [List.drop_take, show off + n - off = n by omega] at this
        exact this
    · exact hm
  | _ => exact hm

theorem RepAll.map_of {F F' : Nat → Nat → Prop} {w : World} {f : IV → IV} (hf : ∀ x v, Rep F w x v → Rep F' w (f x) v) : ∀ {cs : List IV} {vs : List Value}, RepAll F w cs vs → RepAll F' w (cs.map f) vs
  | [], _, h => h
  | c :: cs, vs, h => by obtain ⟨v, vs', rfl, h1, h2⟩ := h; exact ⟨v, vs', rfl, hf _ _ h1, RepAll.map_of hf h2⟩

theorem fz2_rep {F w} {b z : Nat} {rows : List (List IV)} {pre post : List Value} {e : TypeId} (hheap : w.heap[b]? = some (.cells (pre ++ post).toArray e (0, 0))) (hl : RepAll F w rows.flatten pre) (hu : uni z rows = true)
    (hone : ∀ v ∈ pre, v.oneCell' = true) {x : IV} {v : Value} (h : Rep F w x v) : Rep (fun j o => F j o ∨ (j = b ∧ o < pre.length)) w (fz2 b z rows x) v := by
  cases x with
  | agg cs =>
    obtain ⟨vs, rfl, h1, h2⟩ := h
    exact ⟨vs, rfl, h1, RepAll.map_of (fun x v hx => fz1_rep hheap hl hu hone hx) h2⟩
  | _ => exact fz1_rep hheap hl hu hone h
theorem fz3_rep {F w} {b z : Nat} {rows : List (List IV)} {pre post : List Value} {e : TypeId} (hheap : w.heap[b]? = some (.cells (pre ++ post).toArray e (0, 0))) (hl : RepAll F w rows.flatten pre) (hu : uni z rows = true)
    (hone : ∀ v ∈ pre, v.oneCell' = true) {x : IV} {v : Value} (h : Rep F w x v) : Rep (fun j o => F j o ∨ (j = b ∧ o < pre.length)) w (fz3 b z rows x) v := by
  cases x with
  | tup cs =>
    obtain ⟨vs, rfl, h2⟩ := h
    exact ⟨vs, rfl, RepAll.map_of (fun x v hx => fz2_rep hheap hl hu hone hx) h2⟩
  | _ => exact fz2_rep hheap hl hu hone h

/-- a heap's array is frozen: the rest stands -/
theorem HRel.freeze {F : Nat → Nat → Prop} {X : Nat → Prop} {h : Heap} {w : World} (hh : HRel F X h w) {b z tot : Nat} {e : TypeId} {rows : List (List IV)} (hb : h b = some (.arr e z rows tot)) :
    ∃ pre post, w.heap[b]? = some (.cells (pre ++ post).toArray e (0, 0)) ∧ RepAll F w rows.flatten pre ∧ uni z rows = true ∧ (∀ v ∈ pre, v.oneCell' = true) ∧
      HRel (fun j o => F j o ∨ (j = b ∧ o < pre.length)) (fun j => X j ∧ j ≠ b) (dropH b h) w := by
  obtain ⟨hX, pre, post, hheap, hl, hu, htot, hz0, hone⟩ := hh.hp b _ hb
  have hle : FLe F w (fun j o => F j o ∨ (j = b ∧ o < pre.length)) w := ⟨fun _ _ h => .inl h, fun _ _ _ => rfl⟩
  refine ⟨pre, post, hheap, hl, hu, hone, ?_, ?_, ?_, ?_⟩
  · intro b' o hb'
    simp only [dropH] at hb'
    split at hb'
    · cases hb'
    · rename_i hne
      obtain ⟨h1, h2⟩ := hh.hp b' o hb'
      exact ⟨h1.mono fun h => ⟨h, hne⟩, h2.mono hle rfl⟩
  · intro b' o hb' hf
    rcases hf with hf | ⟨hf, _⟩
    · exact hh.xf b' o hb'.1 hf
    · exact hb'.2 hf
  · intro b' hb'; exact hh.xb b' hb'.1
  · intro b' o hb'
    rcases hb' with hb' | ⟨hb', _⟩
    · exact hh.fb b' o hb'
    · subst hb'; exact hh.xb _ hX

theorem ICall.fz {P : Program} {f : FuncId} {args : List IV} {h : Heap} {R R2 : IEnd → Heap → Prop} (hc : ICall P f args h R)
    (hr : ∀ e h', R e h' → R2 e h' ∨ ∃ v b e1 z rows tot, e = .ret v ∧ h' b = some (.arr e1 z rows tot) ∧ R2 (.ret (fz3 b z rows v)) (dropH b h')) : ICall P f args h R2 := by
  refine ⟨hc.1, fun F X w vs h1 h2 => (hc.2 F X w vs h1 h2).mono ?_⟩
  rintro e w' ⟨F', X', h', ie, k1, k2, k3, k4⟩
  rcases hr ie h' k1 with hR | ⟨v, b, e1, z, rows, tot, rfl, hb, hR⟩
  · exact ⟨F', X', h', ie, hR, k2, k3, k4⟩
  · obtain ⟨pre, post, g1, g2, g3, g4, g5⟩ := k3.freeze hb
    have hX := (k3.hp b _ hb).1
    refine ⟨_, _, _, _, hR, ?_, g5, ?_⟩
    · cases e with
      | returned u => exact fz3_rep g1 g2 g3 g4 k2
      | _ => exact k2.elim
    · exact ⟨k4.sz, k4.os, k4.tape, k4.out, fun b' o hb' => .inl (k4.fm b' o hb'), k4.fc, k4.ub, fun b' hb' => k4.xn b' hb'.1, fun b' o hb' => hb'.elim (k4.fn b' o) (fun e => by
        rcases k4.xn b hX with h1 | h1
        · exact .inr (.inr (e.1 ▸ h1))
        · exact .inr (.inl (e.1 ▸ h1)))⟩
/-- what of the heap nobody asks for is forgotten -/
theorem ICall.sub {P : Program} {f : FuncId} {args : List IV} {h : Heap} {R R2 : IEnd → Heap → Prop} (hc : ICall P f args h R) (hr : ∀ e h', R e h' → ∃ h2, Sub h2 h' ∧ R2 e h2) : ICall P f args h R2 := by
  refine ⟨hc.1, fun F X w vs h1 h2 => (hc.2 F X w vs h1 h2).mono ?_⟩
  rintro e w' ⟨F', X', h', ie, k1, k2, k3, k4⟩
  obtain ⟨h2, hs, hR⟩ := hr ie h' k1
  exact ⟨F', X', h2, ie, hR, k2, ⟨fun b o hb => k3.hp b o (hs b o hb), k3.xf, k3.xb, k3.fb⟩, k4⟩
/-! bodies whose results keep 'no room behind the end' -/
def iresT (st : St) : List ResultVar → Option (List IV)
  | [] => some []
  | .tmp t :: rest => (iresT st rest).map (sa true (st.t t) :: ·)
  | .cell _ _ :: _ => none
def ipostT (rs : List ResultVar) (R : IEnd → Heap → Prop) : IExit → St → Prop
  | .normal, st => vK ((iresT st rs).map packI) fun v => ∃ h', Sub h' st.h ∧ R (.ret v) h'
  | .ret, st => vK ((iresT st rs).map packI) fun v => ∃ h', Sub h' st.h ∧ R (.ret v) h'
  | .panic v, st => ∃ h', Sub h' st.h ∧ R (.pan v) h'
  | .exit _, _ => False
theorem iresT_run {P N B ds g st a w} (h : Core P N B ds g st a w) : ∀ (rs : List ResultVar) (vs : List IV), rs.all (resLt N) = true → iresT st rs = some vs →
    ∃ us : List Value, (rs.mapM (resOf a.tmps)).run P w = .ok us w ∧ RepAll g.F w vs us
  | [], vs, _, hi => by simp [iresT] at hi; subst hi; exact ⟨[], by simp, rfl⟩
  | .tmp t :: rest, vs, hlt, hi => by
    simp only [List.all_cons, Bool.and_eq_true, resLt, decide_eq_true_eq] at hlt
    simp only [iresT, Option.map_eq_some_iff] at hi
    obtain ⟨vs', h1, rfl⟩ := hi
    obtain ⟨us, h2, h3⟩ := iresT_run h rest vs' hlt.2 h1
    have h0 : (resOf a.tmps (.tmp t)).run P w = .ok (a.tmps.getD t undef) w := rfl
    exact ⟨a.tmps.getD t undef :: us, by simp only [List.mapM_cons, Sem.run_bind, h0, Result.andThen_ok, h2]; rfl, _, _, rfl, LRep.sa (h.tm t hlt.1) true, h3⟩
  | .cell t ty :: rest, vs, hlt, hi => by simp [iresT] at hi
theorem resultsT_run {P N B ds g st a w} (h : Core P N B ds g st a w) (fn : Func) (vs : List IV) (hlt : fn.results.toList.all (resLt N) = true) (hi : iresT st fn.results.toList = some vs) :
    ∃ v, (results fn a.tmps).run P w = .ok v w ∧ Rep g.F w (packI vs) v := by
  obtain ⟨us, h1, h2⟩ := iresT_run h fn.results.toList vs hlt hi
  have hl := h2.length
  refine ⟨if h : us.toArray.size = 1 then us.toArray[0] else .tuple us.toArray, ?_, ?_⟩
  · have : results fn a.tmps = (do let vs ← fn.results.mapM (resOf a.tmps); pure (if h : vs.size = 1 then vs[0] else .tuple vs)) := by
      unfold results
      congr 1
    rw [this, Array.mapM_eq_mapM_toList]
    simp [Sem.run_bind, h1]
  · cases vs with
    | nil => cases h2; exact ⟨#[], rfl, rfl⟩
    | cons x xs =>
      cases xs with
      | nil =>
        obtain ⟨v, vs', rfl, h3, h4⟩ := h2
        cases h4
        exact h3
      | cons y ys =>
        have : ¬ us.toArray.size = 1 := by simp at hl ⊢; omega
        rw [dif_neg this]
        exact ⟨us.toArray, rfl, by simpa using h2⟩
theorem icall_of_iwpT {P : Program} {f : FuncId} {fn : Func} {code : Code} {args : List IV} {h : Heap} {R : IEnd → Heap → Prop} (hint : Nat → Nat) (hf : P.funcs[f]? = some fn) (hb : fn.body = some code)
    (hok : ((fn.name == "runtime.NumGoroutine") == false && okCode fn.ntmps code && fn.results.toList.all (resLt fn.ntmps)) = true) (hn : args.length ≤ fn.ntmps)
    (hi : iwp P hint code (ipostT fn.results.toList R) (st0 args h)) : ICall P f args h R := by
  simp only [Bool.and_eq_true, beq_iff_eq] at hok
  obtain ⟨⟨hname, hok⟩, hres⟩ := hok
  refine ⟨⟨fn, hf, hname, by rw [hb]; rfl⟩, fun F X w vs hh hr => ?_⟩
  refine calls_of_wp hf hb ?_
  have hcore := core0 (P := P) (N := fn.ntmps) hh hr hn
  have hs : Sim ⟨P, fn.ntmps, F, X, w, []⟩ (st0 args h) { tmps := vs ++ Array.replicate (fn.ntmps - vs.size) undef, defers := [] } w := ⟨_, hcore, Keep.refl F X w⟩
  refine wp_mono (iwp_sound (c := ⟨P, fn.ntmps, F, X, w, []⟩) code _ _ _ w hok hs hi) ?_
  intro e a' w' ⟨ie, st', hq, he⟩
  have fin : Sim ⟨P, fn.ntmps, F, X, w, []⟩ st' a' w' → (vK ((iresT st' fn.results.toList).map packI) fun v => ∃ h', Sub h' st'.h ∧ R (.ret v) h') →
      a'.defers = [] ∧ ∃ v, (results fn a'.tmps).run P w' = .ok v w' ∧ ∃ F' X' h' ie, R ie h' ∧ EndRep F' w' ie (.returned v) ∧ HRel F' X' h' w' ∧ Keep F X w F' X' w' := by
    intro ⟨g, hg, hk⟩ hq
    unfold vK at hq
    split at hq
    · rename_i x hx
      obtain ⟨vs', h1, rfl⟩ := Option.map_eq_some_iff.1 hx
      obtain ⟨v, h2, h3⟩ := resultsT_run hg fn vs' hres h1
      obtain ⟨h', hsub, hR⟩ := hq
      exact ⟨hg.defers, v, h2, g.F, g.X, h', .ret (packI vs'), hR, h3, ⟨fun b o hb => hg.hp b o (hsub b o hb), hg.xf, hg.xb, hg.fb⟩, hk⟩
    · exact hq.elim
  cases ie <;> cases e <;> first | exact he.elim | skip
  · exact fin he hq
  · exact hq.elim
  · exact fin he hq
  · obtain ⟨g, v, hg, hk, rfl, hv⟩ := he
    obtain ⟨h', hsub, hR⟩ := hq
    exact ⟨hg.defers, g.F, g.X, h', .pan _, hR, ⟨v, rfl, hv⟩, ⟨fun b o hb => hg.hp b o (hsub b o hb), hg.xf, hg.xb, hg.fb⟩, hk⟩
section
variable {st : St} {R : IEnd → Heap → Prop} {rs : List ResultVar}
@[go_sem ↓] theorem ipostT_normal : ipostT rs R .normal st = vK ((iresT st rs).map packI) fun v => ∃ h', Sub h' st.h ∧ R (.ret v) h' := rfl
@[go_sem ↓] theorem ipostT_ret : ipostT rs R .ret st = vK ((iresT st rs).map packI) fun v => ∃ h', Sub h' st.h ∧ R (.ret v) h' := rfl
@[go_sem ↓] theorem ipostT_panic (v : IV) : ipostT rs R (.panic v) st = ∃ h', Sub h' st.h ∧ R (.pan v) h' := rfl
@[go_sem ↓] theorem ipostT_exit (i : Nat) : ipostT rs R (.exit i) st = False := rfl
@[go_sem] theorem iresT_nil : iresT st [] = some [] := rfl
@[go_sem] theorem iresT_tmp (t : Nat) : iresT st (.tmp t :: rs) = (iresT st rs).map (sa true (st.t t) :: ·) := rfl
end
end Go.Idl
