/- This text is a part of the proofs of the statements of this seat: the ideal states and their rules, or what one of the functions that the statements reach comes to. Conditions: none beyond those that each theorem names. -/
import Derived.Test.YtejjnaibgimiaaaGreatDoorIdl4
import Derived.Laws.MakeOwn
import Derived.Lib.AppendZerosOnto
import Derived.Laws.IdiomStrings
import Derived.Maps.RangeRun
import Derived.Lib.UnsafeStr
import Derived.Laws.RangeString
set_option linter.unusedVariables false
set_option linter.unusedSimpArgs false
namespace Go.Idl
theorem splice_set {z : Nat} : ∀ (rows : List (List IV)) (i : Nat) (r : List IV) (o : Nat) (vs : List IV), uni z rows = true → rows[i]? = some r → o + vs.length ≤ z → splice rows.flatten (i * z + o) vs = (rows.set i (splice r o vs)).flatten
  | [], i, r, o, vs, _, hi, _ => by simp at hi
  | x :: xs, 0, r, o, vs, hu, hi, ho => by
    simp only [uni, List.all_cons, Bool.and_eq_true, beq_iff_eq] at hu
    simp at hi; subst hi
    simp only [List.set_cons_zero, List.flatten_cons, splice, Nat.zero_mul, Nat.zero_add]
    rw [List.take_append_of_le_length (by omega), List.drop_append_of_le_length (by omega)]
    simp
  | x :: xs, i + 1, r, o, vs, hu, hi, ho => by
    simp only [uni, List.all_cons, Bool.and_eq_true, beq_iff_eq] at hu
    simp at hi
    have ih := splice_set xs i r o vs hu.2 hi ho
    simp only [List.set_cons_succ, List.flatten_cons, ← ih]
    have e1 : (i + 1) * z + o = x.length + (i * z + o) := by rw [hu.1, Nat.add_mul]; omega
    simp only [splice, e1]
    rw [List.take_length_add_append, Nat.add_assoc, List.drop_length_add_append]
    simp

theorem uni_set {z : Nat} {rows : List (List IV)} (hu : uni z rows = true) (i : Nat) {r : List IV} (hr : r.length = z) : uni z (rows.set i r) = true := by
  simp only [uni, List.all_eq_true, beq_iff_eq] at *
  intro x hx
  rcases List.mem_or_eq_of_mem_set hx with h | h
  · exact hu x h
  · subst h; exact hr

theorem splice_len (cs : List IV) (o : Nat) (vs : List IV) (h : o + vs.length ≤ cs.length) : (splice cs o vs).length = cs.length := by simp [splice]; omega

/-- a heap's array turns; the rest stands -/
theorem Sim.setArr {c : Ctx} {st a w} {g : Gh} (h : Core c.P c.N c.w0.heap.size c.ds g st a w) (hk : Keep c.F0 c.X0 c.w0 g.F g.X w) {b : Nat} {e : TypeId} {z tot : Nat} {rows : List (List IV)} (hs : st.h b = some (.arr e z rows tot)) (rows' : List (List IV)) (pre post : List Value)
    (hl : RepAll g.F w rows'.flatten pre) (hu : uni z rows' = true) (hlen : (pre ++ post).length = tot * z) (hone : ∀ v ∈ pre, v.oneCell' = true) (d : Option Tmp) (x : IV) (v : Value) (hx : ∀ F w, Rep F w x v) :
    Sim c (({ st with h := upd st.h b (some (.arr e z rows' tot)) } : St).put d x) (a.put d v) (w.setRow b (pre ++ post).toArray) := by
  obtain ⟨hX, pre0, post0, hb, _, _, _, hz0, _⟩ := h.hp b _ hs
  have hF : ∀ o, ¬ g.F b o := fun o hf => h.xf b o hX hf
  refine ⟨g, ?_, hk.setRow hF (.inr hX) _⟩
  have hle : GLe g st w g { st with h := upd st.h b (some (.arr e z rows' tot)) } (w.setRow b (pre ++ post).toArray) :=
    ⟨FLe.setRow hF _, fun s gg cs1 hs => ⟨gg, cs1, hs, .inr ⟨rfl, rfl⟩⟩, fun s gg n e hs => ⟨gg, n, e, hs, .inr ⟨rfl, .inl ⟨rfl, rfl⟩⟩⟩⟩
  refine h.step d rfl hle (hx _ _).lrep ?_ h.xf (by simpa using h.xb) (by simpa using h.fb) ?_ h.ld ?_ h.rds
  · intro b' o1 hb'
    simp only [upd] at hb'
    by_cases hd : b' = b
    · subst hd
      simp only [if_true, Option.some.injEq] at hb'
      subst hb'
      exact ⟨hX, pre, post, setRow_heap w _ _ _ _ _ hb, RepAll.mono hle.F _ _ hl, hu, hlen, hz0, hone⟩
    · simp only [hd, if_false] at hb'
      obtain ⟨h2, h3⟩ := h.hp b' o1 hb'
      exact ⟨h2, h3.mono hle.F (setRow_other w _ _ _ hd)⟩
  · intro s' gg' cs' hs'
    obtain ⟨_, hx, hf, _⟩ := h.lc s' gg' cs' hs'
    exact h.lc_keep hle hs' rfl hx hf (setRow_other w _ _ _ (fun e => hx (e ▸ hX)))
  · intro s' gg' n e1 hs'
    obtain ⟨z, xs, h3, h4, h5, h6⟩ := h.rws s' gg' n e1 hs'
    exact ⟨z, xs, h3, h4, ownsRow_same h5 (fun blk hb => setRow_other w _ _ _ (fun e => (h6 blk hb).1 (e ▸ hX))), h6⟩

theorem FLe.drew (F : Nat → Nat → Prop) (w : World) : FLe F w F w.drew := ⟨fun _ _ h => h, fun _ _ _ => rfl⟩
theorem Core.drew {P N B ds g st a w} (h : Core P N B ds g st a w) : Core P N B ds g st a w.drew := by
  have hF := FLe.drew g.F w
  have hle : GLe g st w g st w.drew := ⟨hF, fun s gg cs1 hs => ⟨gg, cs1, hs, .inr ⟨rfl, rfl⟩⟩, fun s gg n e hs => ⟨gg, n, e, hs, .inr ⟨rfl, .inl ⟨rfl, rfl⟩⟩⟩⟩
  refine ⟨h.size, h.defers, fun t ht => (h.tm t ht).mono hle, fun b o hb => ⟨(h.hp b o hb).1, (h.hp b o hb).2.mono hF rfl⟩, h.xf, h.xb, h.fb, fun s gg cs hs => ?_, h.ld, h.rws, h.rds⟩
  obtain ⟨_, hx, hf, _⟩ := h.lc s gg cs hs
  exact h.lc_keep hle hs rfl hx hf rfl
theorem Keep.drew {F0 X0 w0 F X w} (hk : Keep F0 X0 w0 F X w) : Keep F0 X0 w0 F X w.drew := ⟨hk.sz, hk.os, hk.tape, hk.out, hk.fm, hk.fc, hk.ub, hk.xn, hk.fn⟩

theorem Sim.storeArr {c : Ctx} {st a w} (h : Sim c st a w) {b i o : Nat} {e : TypeId} {z tot : Nat} {rows : List (List IV)} {r vs : List IV} {zs : List Value} (hs : st.h b = some (.arr e z rows tot)) (hi : rows[i]? = some r) (hlen : o + vs.length ≤ z)
    (hz : ∀ g, Core c.P c.N c.w0.heap.size c.ds g st a w → RepAll g.F w vs zs) (hone : ∀ v ∈ zs, v.oneCell' = true) (d : Option Tmp) :
    ∃ w', (storeCells ⟨b, i * z + o, none⟩ zs).run c.P w = .ok () w' ∧
      Sim c (({ st with h := upd st.h b (some (.arr e z (rows.set i (splice r o vs)) tot)) } : St).put d .dead) (a.put d undef) w' := by
  have h0 := h
  obtain ⟨g, h, hk⟩ := h
  have hz1 := hz g h
  obtain ⟨hX, pre, post, hb, hl, hu, htot, hz0, h1⟩ := h.hp b _ hs
  have hF : ∀ o, ¬ g.F b o := fun o hf => h.xf b o hX hf
  have hll := hl.length
  have hzl := hz1.length
  have hfl := uni_flat_all hu
  have hilt := (List.getElem?_eq_some_iff.1 hi).1
  have him : i * z + z ≤ rows.length * z := by
    have : (i + 1) * z ≤ rows.length * z := Nat.mul_le_mul_right _ hilt
    rw [Nat.add_mul] at this; omega
  have hrl : r.length = z := by simp only [List.all_eq_true, beq_iff_eq] at hu; exact hu r (List.mem_of_getElem? hi)
  have hrun := run_storeCells_at c.P b (i * z + o) e zs 0 (pre ++ post).toArray w hb (by simp; omega) hone
  refine ⟨_, hrun, ?_⟩
  simp only [Nat.add_zero]
  have hnew : (pre ++ post).take (i * z + o) ++ zs ++ (pre ++ post).drop (i * z + o + zs.length) = (pre.take (i * z + o) ++ zs ++ pre.drop (i * z + o + zs.length)) ++ post := by
    rw [List.take_append_of_le_length (by omega), List.drop_append_of_le_length (by omega)]; simp
  rw [hnew]
  refine Sim.setArr h hk hs (rows.set i (splice r o vs)) _ _ ?_ (uni_set hu i (by rw [splice_len _ _ _ (by omega)]; exact hrl)) (by rw [← htot]; simp; omega) ?_ d .dead undef fun _ _ => trivial
  · rw [← splice_set rows i r o vs hu hi hlen]
    exact hl.splice hz1
  · intro v hv
    simp only [List.mem_append] at hv
    rcases hv with (hv | hv) | hv
    · exact h1 v (List.mem_of_mem_take hv)
    · exact hone v hv
    · exact h1 v (List.mem_of_mem_drop hv)

/-- a new array that may be written -/
theorem Sim.newArr {c : Ctx} {st a w} {g : Gh} (h : Core c.P c.N c.w0.heap.size c.ds g st a w) (hk : Keep c.F0 c.X0 c.w0 g.F g.X w) (d : Option Tmp) (e : TypeId) (z : Nat) (hz : 0 < z) (rows : List (List IV)) (hu : uni z rows = true) (cap : Nat) (hcap : rows.length ≤ cap) (hmax : cap ≤ maxLen) (pre post : List Value)
    (hl : RepAll g.F w rows.flatten pre) (hone : ∀ v ∈ pre, v.oneCell' = true) (hlen : (pre ++ post).length = cap * z) :
    ∃ b, st.h b = none ∧ Sim c (({ st with h := upd st.h b (some (.arr e z rows cap)) } : St).put d (.sl z b 0 rows.length cap)) (a.put d (.slice (some ⟨w.heap.size, 0, none⟩) rows.length cap)) (w.alloc (.cells (pre ++ post).toArray e)) := by
  have hfresh : st.h w.heap.size = none := by
    cases hh : st.h w.heap.size with
    | none => rfl
    | some o => have := h.blt hh; omega
  refine ⟨w.heap.size, hfresh, { g with X := fun b => g.X b ∨ b = w.heap.size }, ?_, ?_⟩
  · have hle : GLe g st w { g with X := fun b => g.X b ∨ b = w.heap.size } { st with h := upd st.h w.heap.size (some (.arr e z rows cap)) } (w.alloc (.cells (pre ++ post).toArray e)) :=
      ⟨FLe.alloc h.fb _ _ (fun _ _ h => h), fun s gg cs1 hs => ⟨gg, cs1, hs, .inr ⟨rfl, rfl⟩⟩, fun s gg n e hs => ⟨gg, n, e, hs, .inr ⟨rfl, .inl ⟨rfl, rfl⟩⟩⟩⟩
    refine h.step d rfl hle ⟨by simp, hcap, hmax⟩ ?_ ?_ ?_ ?_ ?_ h.ld ?_ h.rds
    · intro b o hb
      simp only [upd] at hb
      by_cases h1 : b = w.heap.size
      · subst h1
        simp only [if_true, Option.some.injEq] at hb
        subst hb
        exact ⟨.inr rfl, pre, post, heap_alloc_last w _, RepAll.mono hle.F _ _ hl, hu, hlen, hz, hone⟩
      · simp only [h1, if_false] at hb
        obtain ⟨h2, h3⟩ := h.hp b o hb
        exact ⟨h2.mono .inl, h3.mono hle.F (heap_alloc_lt w _ (h.blt hb))⟩
    · intro b o hb hf
      rcases hb with hb | hb
      · exact h.xf b o hb hf
      · subst hb; have := h.fb _ _ hf; omega
    · intro b hb
      rcases hb with hb | hb
      · have := h.xb b hb; simp; omega
      · subst hb; simp
    · intro b o hb; have := h.fb b o hb; simp; omega
    · intro s gg cs1 hs
      obtain ⟨_, hx, hf, _⟩ := h.lc s gg cs1 hs
      have hlt := h.lb_lt hs
      exact h.lc_keep hle hs rfl (fun hx' => hx'.elim hx (fun e => by omega)) hf (heap_alloc_lt w _ hlt)
    · intro s gg n e1 hs
      obtain ⟨z, xs, h1, h2, h3, h4⟩ := h.rws s gg n e1 hs
      refine ⟨z, xs, h1, h2, ownsRow_same h3 (fun blk hb => heap_alloc_lt w _ (ownsRow_lt h3 hb).2), fun blk hb => ?_⟩
      obtain ⟨h5, h6, h7⟩ := h4 blk hb
      exact ⟨fun hx => hx.elim h5 (fun e => by have := (ownsRow_lt h3 hb).2; omega), h6, h7⟩
  · have h1 := hk.alloc h.fb (.cells (pre ++ post).toArray e)
    exact ⟨h1.sz, h1.os, h1.tape, h1.out, h1.fm, h1.fc, h1.ub, fun b hb => hb.elim (h1.xn b) (fun e => .inr (by have := hk.sz; omega)), h1.fn⟩

/-- append onto an array of the heap's -/
theorem Sim.appendArr {c : Ctx} {st a w} (h : Sim c st a w) (d : Option Tmp) (t ty e : TypeId) {z b n cap : Nat} {rows ys : List (List IV)} {tk : Tok} {vx vy : Value} (he : elT c.P t = some e) (hzz : elZ c.P e = some z)
    (hx : vx = .slice (some ⟨b, 0, none⟩) n cap) (hb : st.h b = some (.arr e z rows cap)) (hn : n = rows.length) (hcm : cap ≤ maxLen) (hcap : n ≤ cap)
    (hy : ∀ g, Core c.P c.N c.w0.heap.size c.ds g st a w → Rep g.F w (strip (.list tk ys)) vy) (hroom : roomy c.P e (rows.length + ys.length)) (hu2 : uni z ys = true) :
    ∃ vr w', (Builtin.append_ #[t, t] ty #[vx, vy]).run c.P w = .ok vr w' ∧
      ((n + ys.length ≤ cap ∧ Sim c (({ st with h := upd st.h b (some (.arr e z (rows ++ ys) cap)) } : St).put d (.sl z b 0 (n + ys.length) cap)) (a.put d vr) w') ∨
       (cap < n + ys.length ∧ ∃ b' cap', st.h b' = none ∧ n + ys.length ≤ cap' ∧ Sim c (({ st with h := upd st.h b' (some (.arr e z (rows ++ ys) cap')) } : St).put d (.sl z b' 0 (n + ys.length) cap')) (a.put d vr) w')) := by
  have hs0 := h
  obtain ⟨g, h, hk⟩ := h
  obtain ⟨hz, hz0, zv, hzv, hzs⟩ := elZ_eq hzz
  obtain ⟨inf, hinf, hsz⟩ := szT_eq hz
  have ht := elT_eq he
  have hzero : inf.zero = some zv := by simpa [zeT, hinf] using hzv
  have hbyt : byT c.P e = inf.bytes := by simp [byT, hinf]
  obtain ⟨hr1, hr2⟩ := hroom
  rw [hbyt] at hr1
  obtain ⟨hX, pre, post, hheap, hl, hu, htot, _, hone⟩ := h.hp b _ hb
  have hll := hl.length
  rw [uni_flat_all hu] at hll
  subst hx
  obtain ⟨A2, c2, vals2, rfl, hc2, hm2, hA2⟩ := (hy g h).listOf
  have hmax : rows.length + ys.length ≤ maxLen := by simp only [maxLen]; omega
  by_cases hys0 : ys = []
  · subst hys0
    refine ⟨_, w, append_nothing ht hinf _ A2 n cap c2 hcap, .inl ⟨by simpa using hcap, g, ?_, hk⟩⟩
    have e1 : ({ st with h := upd st.h b (some (.arr e z (rows ++ []) cap)) } : St) = st := by
      have : upd st.h b (some (.arr e z (rows ++ []) cap)) = st.h := by
        funext j; simp only [upd, List.append_nil]; split
        · rename_i e1; subst e1; exact hb.symm
        · rfl
      rw [this]
    rw [e1]
    exact h.put d ⟨by simp, by simpa using hcap, hcm⟩
  have hyl0 : 0 < ys.length := by cases ys with | nil => exact absurd rfl hys0 | cons => simp
  cases A2 with
  | none => simp only at hA2; omega
  | some a2 =>
    obtain ⟨b2, o2, sp2⟩ := a2
    simp only at hA2
    obtain ⟨hsp2, hf2, hrep2⟩ := hA2
    obtain rfl : sp2 = none := hsp2 (by omega)
    have hnl : vals2.length = ys.length * inf.size := by rw [hrep2.flat.length, uni_flat_all hu2, hsz]
    have hnews : ∀ j u, vals2[j]? = some u → w.cell? ((⟨b2, o2, none⟩ : Addr).add j) = some u := fun j u hj => by rw [addr_add]; exact (hf2 j u hj).2.1
    have hone2 : ∀ u ∈ vals2, u.oneCell' = true := fun u hu => by obtain ⟨j, hj⟩ := List.mem_iff_getElem?.1 hu; exact (hf2 j u hj).2.2
    have hnz : n * z = pre.length := by rw [hll, hn]
    by_cases hfit : n + ys.length ≤ cap
    · have hsum : n * z + ys.length * z ≤ cap * z := by rw [← Nat.add_mul]; exact Nat.mul_le_mul_right _ hfit
      have hrun := run_append_room (P := c.P) w t ty e inf ht hinf b n cap (pre ++ post).toArray hheap ⟨b2, o2, none⟩ ys.length c2 vals2 hnl hnews hone2 hfit (by rw [hnl, hsz]; simp only [List.size_toArray]; omega)
      rw [hsz] at hrun hnl
      simp only [List.toList_toArray] at hrun
      rw [show (pre ++ post).take (n * z) = pre from by rw [hnz]; exact List.take_left, show (pre ++ post).drop (n * z + vals2.length) = post.drop vals2.length from by rw [hnz]; exact List.drop_length_add_append _] at hrun
      refine ⟨_, _, hrun, .inl ⟨hfit, ?_⟩⟩
      refine Sim.setArr h hk hb (rows ++ ys) (pre ++ vals2) (post.drop vals2.length) (by simpa using hl.append hrep2.flat) (by rw [uni_append]; simp [hu2]; exact hu) ?_ ?_ d _ _ fun _ _ => ⟨by simp, hfit, hcm⟩
      · simp at htot ⊢; omega
      · intro u hu'
        simp only [List.mem_append] at hu'
        rcases hu' with h1 | h1
        · exact hone u h1
        · exact hone2 u h1
    · have holds : ∀ j u, pre[j]? = some u → w.cell? ((⟨b, 0, none⟩ : Addr).add j) = some u := fun j u hj => by
        rw [addr_add, cell_at hheap, Nat.zero_add]
        have := (List.getElem?_eq_some_iff.1 hj).1
        simp only [List.getElem?_toArray]
        rw [List.getElem?_append_left this]; exact hj
      have hrun := run_append_grow (P := c.P) w t ty e inf zv ht hinf hzero ⟨b, 0, none⟩ n cap pre (by rw [hsz, hnz]) holds ⟨b2, o2, none⟩ ys.length c2 vals2 hnl hnews (by omega) (by omega) (growslice_fits (by omega) (by rw [hn]; exact hr1))
      have hge := grownCap_ge w (n + ys.length) cap e
      have hgm : grownCap w (n + ys.length) cap e ≤ maxLen := grownCap_le_maxLen w (n + ys.length) cap e (by omega)
      have hF := FLe.drew g.F w
      have hzc : ∀ u ∈ (Builtin.zeroCells zv.cells (grownCap w (n + ys.length) cap e - (n + ys.length))).toList, u.oneCell' = true := zeroCells_one (elZ_one hzz hzv) _
      have hlen : (pre ++ vals2 ++ (Builtin.zeroCells zv.cells (grownCap w (n + ys.length) cap e - (n + ys.length))).toList).length = grownCap w (n + ys.length) cap e * z := by
        simp only [List.length_append, Array.length_toList, size_zeroCells, hzs, hnl, hsz, hll, ← hn, ← Nat.add_mul]
        congr 1; omega
      obtain ⟨b', hb', hsim⟩ := Sim.newArr h.drew hk.drew d e z hz0 (rows ++ ys) (by rw [uni_append]; simp [hu2]; exact hu) (grownCap w (n + ys.length) cap e) (by simp; omega) hgm (pre ++ vals2) (Builtin.zeroCells zv.cells (grownCap w (n + ys.length) cap e - (n + ys.length))).toList
        (by simpa using (RepAll.mono hF _ _ hl).append (RepAll.mono hF _ _ hrep2.flat))
        (fun u hu' => (List.mem_append.1 hu').elim (hone u) (hone2 u)) hlen
      refine ⟨_, _, hrun, .inr ⟨by omega, b', grownCap w (n + ys.length) cap e, hb', hge, ?_⟩⟩
      have e2 : (rows ++ ys).length = n + ys.length := by simp [hn]
      rw [e2] at hsim
      have e3 : (pre ++ vals2 ++ (Builtin.zeroCells zv.cells (grownCap w (n + ys.length) cap e - (n + ys.length))).toList).toArray = pre.toArray ++ vals2.toArray ++ Builtin.zeroCells zv.cells (grownCap w (n + ys.length) cap e - (n + ys.length)) := by
        apply Array.ext'; simp
      rw [e3] at hsim
      exact hsim

/-- append onto nothing, or onto a tight list, making an array of the heap -/
theorem Sim.appendNew {c : Ctx} {st a w} (h : Sim c st a w) (d : Option Tmp) (t ty e : TypeId) {z : Nat} {rows ys : List (List IV)} {tk : Tok} {vx vy : Value} (he : elT c.P t = some e) (hzz : elZ c.P e = some z)
    (hx : ∀ g, Core c.P c.N c.w0.heap.size c.ds g st a w → LRep g st w (.list .tight rows) vx)
    (hy : ∀ g, Core c.P c.N c.w0.heap.size c.ds g st a w → Rep g.F w (strip (.list tk ys)) vy) (hroom : roomy c.P e (rows.length + ys.length)) (hu1 : uni z rows = true) (hu2 : uni z ys = true) :
    ∃ vr w', (Builtin.append_ #[t, t] ty #[vx, vy]).run c.P w = .ok vr w' ∧
      ((ys = [] ∧ Sim c (st.put d (.list .tight rows)) (a.put d vr) w') ∨
       (ys ≠ [] ∧ ∃ b' cap', st.h b' = none ∧ rows.length + ys.length ≤ cap' ∧ Sim c (({ st with h := upd st.h b' (some (.arr e z (rows ++ ys) cap')) } : St).put d (.sl z b' 0 (rows.length + ys.length) cap')) (a.put d vr) w')) := by
  obtain ⟨g, h, hk⟩ := h
  obtain ⟨hz, hz0, zv, hzv, hzs⟩ := elZ_eq hzz
  obtain ⟨inf, hinf, hsz⟩ := szT_eq hz
  have ht := elT_eq he
  have hzero : inf.zero = some zv := by simpa [zeT, hinf] using hzv
  have hbyt : byT c.P e = inf.bytes := by simp [byT, hinf]
  obtain ⟨hr1, hr2⟩ := hroom
  rw [hbyt] at hr1
  obtain ⟨A, cap, vals, rfl, hcap, hcm, htt, hA⟩ := (hx g h).listOf
  have hcapeq := htt rfl
  obtain ⟨A2, c2, vals2, rfl, hc2, hm2, hA2⟩ := (hy g h).listOf
  have hmax : rows.length + ys.length ≤ maxLen := by simp only [maxLen]; omega
  by_cases hys : ys = []
  · subst hys
    exact ⟨_, w, append_nothing ht hinf A A2 _ cap c2 hcap, .inl ⟨rfl, g, h.put d (hx g h), hk⟩⟩
  · have hyl : 0 < ys.length := by cases ys with | nil => exact absurd rfl hys | cons => simp
    cases A2 with
    | none => simp only at hA2; omega
    | some a2 =>
      obtain ⟨b2, o2, sp2⟩ := a2
      simp only at hA2
      obtain ⟨hsp2, hf2, hrep2⟩ := hA2
      obtain rfl : sp2 = none := hsp2 (by omega)
      have hnl : vals2.length = ys.length * inf.size := by rw [hrep2.flat.length, uni_flat_all hu2, hsz]
      have hnews : ∀ j u, vals2[j]? = some u → w.cell? ((⟨b2, o2, none⟩ : Addr).add j) = some u := fun j u hj => by rw [addr_add]; exact (hf2 j u hj).2.1
      have hone2 : ∀ u ∈ vals2, u.oneCell' = true := fun u hu => by obtain ⟨j, hj⟩ := List.mem_iff_getElem?.1 hu; exact (hf2 j u hj).2.2
      have hF := FLe.drew g.F w
      -- what both ways come to
      have fin : ∀ (olds : List Value), RepAll g.F w rows.flatten olds → (∀ u ∈ olds, u.oneCell' = true) → olds.length = rows.length * z → ∀ old,
          ∃ b' cap', st.h b' = none ∧ rows.length + ys.length ≤ cap' ∧ Sim c (({ st with h := upd st.h b' (some (.arr e z (rows ++ ys) cap')) } : St).put d (.sl z b' 0 (rows.length + ys.length) cap'))
            (a.put d (.slice (some ⟨w.heap.size, 0, none⟩) (rows.length + ys.length) (grownCap w (rows.length + ys.length) old e)))
            (w.drew.alloc (.cells (olds.toArray ++ vals2.toArray ++ Builtin.zeroCells zv.cells (grownCap w (rows.length + ys.length) old e - (rows.length + ys.length))) e)) := by
        intro olds ho1 ho2 ho3 old
        have hge := grownCap_ge w (rows.length + ys.length) old e
        have hgm : grownCap w (rows.length + ys.length) old e ≤ maxLen := grownCap_le_maxLen w (rows.length + ys.length) old e hmax
        have hlen : (olds ++ vals2 ++ (Builtin.zeroCells zv.cells (grownCap w (rows.length + ys.length) old e - (rows.length + ys.length))).toList).length = grownCap w (rows.length + ys.length) old e * z := by
          simp only [List.length_append, Array.length_toList, size_zeroCells, hzs, hnl, hsz, ho3, ← Nat.add_mul]
          congr 1; omega
        obtain ⟨b', hb', hsim⟩ := Sim.newArr h.drew hk.drew d e z hz0 (rows ++ ys) (by rw [uni_append, hu1, hu2]; rfl) (grownCap w (rows.length + ys.length) old e) (by simp; omega) hgm (olds ++ vals2) (Builtin.zeroCells zv.cells (grownCap w (rows.length + ys.length) old e - (rows.length + ys.length))).toList
          (by simpa using (RepAll.mono hF _ _ ho1).append (RepAll.mono hF _ _ hrep2.flat))
          (fun u hu' => (List.mem_append.1 hu').elim (ho2 u) (hone2 u)) hlen
        refine ⟨b', grownCap w (rows.length + ys.length) old e, hb', hge, ?_⟩
        have e2 : (rows ++ ys).length = rows.length + ys.length := by simp
        rw [e2] at hsim
        have e3 : (olds ++ vals2 ++ (Builtin.zeroCells zv.cells (grownCap w (rows.length + ys.length) old e - (rows.length + ys.length))).toList).toArray = olds.toArray ++ vals2.toArray ++ Builtin.zeroCells zv.cells (grownCap w (rows.length + ys.length) old e - (rows.length + ys.length)) := by
          apply Array.ext'; simp
        rw [e3] at hsim
        exact hsim
      cases A with
      | none =>
        simp only at hA
        have hr0 : rows = [] := List.eq_nil_of_length_eq_zero (by omega)
        subst hr0
        subst hA
        have hrun := run_append_nil (P := c.P) w t ty e inf zv ht hinf hzero ⟨b2, o2, none⟩ ys.length c2 vals2 hnl hnews hyl (by omega) (by simp only [List.length_nil, Nat.zero_add] at hr1; omega)
        have := fin [] rfl (by simp) (by simp) 0
        simp only [List.length_nil, Nat.zero_add, List.nil_append, Array.empty_append] at this ⊢
        exact ⟨_, _, hrun, .inr ⟨hys, this⟩⟩
      | some a1 =>
        obtain ⟨b1, o1, sp1⟩ := a1
        simp only at hA
        obtain ⟨hsp1, hf1, hrep1⟩ := hA
        obtain rfl : sp1 = none := hsp1 (by simp)
        have hol : vals.length = rows.length * inf.size := by rw [hrep1.flat.length, uni_flat_all hu1, hsz]
        have holds : ∀ j u, vals[j]? = some u → w.cell? ((⟨b1, o1, none⟩ : Addr).add j) = some u := fun j u hj => by rw [addr_add]; exact (hf1 j u hj).2.1
        have hone1 : ∀ u ∈ vals, u.oneCell' = true := fun u hu => by obtain ⟨j, hj⟩ := List.mem_iff_getElem?.1 hu; exact (hf1 j u hj).2.2
        have hrun := run_append_grow (P := c.P) w t ty e inf zv ht hinf hzero ⟨b1, o1, none⟩ rows.length cap vals hol holds ⟨b2, o2, none⟩ ys.length c2 vals2 hnl hnews (by omega) (by omega) (growslice_fits (by omega) hr1)
        exact ⟨_, _, hrun, .inr ⟨hys, fin vals hrep1.flat hone1 (by rw [hol, hsz]) cap⟩⟩

/-- an array that nobody writes any more -/
theorem Sim.freeze {c : Ctx} {st a w} (h : Sim c st a w) (d : Option Tmp) {z b off n cap : Nat} {e : TypeId} {rows : List (List IV)} {tot : Nat} {v : Value} (hb : st.h b = some (.arr e z rows tot)) (hn : off + n ≤ rows.length)
    (hv : v = .slice (some ⟨b, off * z, none⟩) n cap ∧ n ≤ cap ∧ cap ≤ maxLen) :
    Sim c (({ st with h := fun j => if j = b then none else st.h j } : St).put d (.list .plain ((rows.drop off).take n))) (a.put d v) w := by
  obtain ⟨g, h, hk⟩ := h
  obtain ⟨hX, pre, post, hheap, hl, hu, htot, hz0, hone⟩ := h.hp b _ hb
  obtain ⟨rfl, hncap, hcm⟩ := hv
  have hF : ∀ o, ¬ g.F b o := fun o hf => h.xf b o hX hf
  refine ⟨{ g with X := fun j => g.X j ∧ j ≠ b, F := fun j o => g.F j o ∨ (j = b ∧ o < pre.length) }, ?_, ?_⟩
  · have hle : GLe g st w { g with X := fun j => g.X j ∧ j ≠ b, F := fun j o => g.F j o ∨ (j = b ∧ o < pre.length) } { st with h := fun j => if j = b then none else st.h j } w :=
      ⟨⟨fun _ _ h => .inl h, fun _ _ _ => rfl⟩, fun s gg cs1 hs => ⟨gg, cs1, hs, .inr ⟨rfl, rfl⟩⟩, fun s gg n e hs => ⟨gg, n, e, hs, .inr ⟨rfl, .inl ⟨rfl, rfl⟩⟩⟩⟩
    refine h.step d rfl hle ?_ ?_ ?_ ?_ ?_ ?_ h.ld ?_ h.rds
    · have hlen : ((rows.drop off).take n).length = n := by simp; omega
      have hsub : RepRows g.F w ((rows.take (off + n)).drop off) ((pre.drop (off * z)).take ((off + n - off) * z)) := RepRows.sub hu (RepRows.unflat hl) off (off + n) (by omega) hn
      refine ⟨some ⟨b, off * z, none⟩, cap, (pre.drop (off * z)).take (n * z), by rw [hlen], by rw [hlen]; exact hncap, hcm, (fun _ _ h => nomatch h), (fun h => nomatch h), fun _ => rfl, ?_, ?_⟩
      · intro j u hj
        rw [List.getElem?_take] at hj
        split at hj
        · rw [List.getElem?_drop] at hj
          have hlt := (List.getElem?_eq_some_iff.1 hj).1
          refine ⟨.inr ⟨rfl, hlt⟩, ?_, hone u (List.mem_of_getElem? hj)⟩
          rw [cell_at hheap]
          simp only [List.getElem?_toArray]
          rw [List.getElem?_append_left hlt]; exact hj
        · cases hj
      · rw [show off + n - off = n by omega] at hsub
        have := RepRows.mono hle.F _ _ hsub
        rw [List.drop_take, show off + n - off = n by omega] at this
        exact this
    · intro b' o' hb'
      simp only at hb'
      split at hb'
      · cases hb'
      · rename_i hne
        obtain ⟨h1, h2⟩ := h.hp b' o' hb'
        exact ⟨h1.mono fun h => ⟨h, hne⟩, h2.mono hle.F rfl⟩
    · intro b' o' hb' hf
      rcases hf with hf | ⟨hf, _⟩
      · exact h.xf b' o' hb'.1 hf
      · exact hb'.2 hf
    · intro b' hb'; exact h.xb b' hb'.1
    · intro b' o' hb'
      rcases hb' with hb' | ⟨hb', _⟩
      · exact h.fb b' o' hb'
      · subst hb'; exact h.xb _ hX
    · intro s' gg' cs' hs'
      obtain ⟨_, hx, hf, _⟩ := h.lc s' gg' cs' hs'
      exact h.lc_keep hle hs' rfl (fun hx' => hx hx'.1) (fun o hf' => hf'.elim (hf o) (fun e => hx (e.1 ▸ hX))) rfl
    · intro s' gg' n e1 hs'
      obtain ⟨z, xs, h3, h4, h5, h6⟩ := h.rws s' gg' n e1 hs'
      refine ⟨z, xs, h3, h4, h5, fun blk hb => ?_⟩
      obtain ⟨h7, h8, h9⟩ := h6 blk hb
      exact ⟨fun hx => h7 hx.1, fun o hf => hf.elim (h8 o) (fun e => absurd hX (e.1 ▸ h7)), h9⟩
  · exact ⟨hk.sz, hk.os, hk.tape, hk.out, fun b' o hb' => .inl (hk.fm b' o hb'), hk.fc, hk.ub, fun b' hb' => hk.xn b' hb'.1, fun b' o hb' => hb'.elim (hk.fn b' o) (fun e => by
      rcases hk.xn b hX with h1 | h1
      · exact .inr (.inr (e.1 ▸ h1))
      · exact .inr (.inl (e.1 ▸ h1)))⟩
/-! maps -/
theorem cell_block_other (w : World) (b : Nat) (o : Obj) (a : Addr) (h : a.block ≠ b) : ({ w with heap := w.heap.setIfInBounds b o } : World).cell? a = w.cell? a := by
  simp [World.cell?, Array.getElem?_setIfInBounds, Ne.symm h]
theorem heap_block_other (w : World) (b k : Nat) (o : Obj) (h : k ≠ b) : ({ w with heap := w.heap.setIfInBounds b o } : World).heap[k]? = w.heap[k]? := by
  simp [Array.getElem?_setIfInBounds, Ne.symm h]
theorem FLe.setBlock {F : Nat → Nat → Prop} {w : World} {b : Nat} (hf : ∀ o, ¬ F b o) (o : Obj) : FLe F w F { w with heap := w.heap.setIfInBounds b o } :=
  ⟨fun _ _ h => h, fun b' i h => cell_block_other w b o _ (fun e => hf i (by simpa using e ▸ h))⟩
theorem Keep.setBlock {F0 X0 w0 F X w} (h : Keep F0 X0 w0 F X w) {b : Nat} (hf : ∀ o, ¬ F b o) (hb : w0.heap.size ≤ b ∨ X b) (o : Obj) : Keep F0 X0 w0 F X { w with heap := w.heap.setIfInBounds b o } where
  sz := by simpa using h.sz
  os := h.os
  tape := h.tape
  out := h.out
  fm := h.fm
  fc b' i hb' := ((FLe.setBlock hf o).cell b' i (h.fm _ _ hb')).trans (h.fc b' i hb')
  ub b' hb' hx := (heap_block_other w b b' o (fun e => by
    subst e
    rcases hb with hb | hb
    · omega
    · exact (h.xn _ hb).elim hx (fun h2 => by omega))).trans (h.ub b' hb' hx)
  xn := h.xn
  fn := h.fn

/-- a map's block turns -/
theorem Sim.setMap {c : Ctx} {st a w} (h : Sim c st a w) {b : Nat} {es es' : List (IV × IV)} (hs : st.h b = some (.map es)) (ents' : List MapEntry) (clock' : Nat)
    (hl : ∀ g, Core c.P c.N c.w0.heap.size c.ds g st a w → RepEnts g.F w es' ents') (hst : MapKept.Stamped ents'.toArray clock') (d : Option Tmp) (x : IV) (v : Value) (hx : ∀ F w', Rep F w' x v) :
    Sim c (({ st with h := upd st.h b (some (.map es')) } : St).put d x) (a.put d v) { w with heap := w.heap.setIfInBounds b (.map ents'.toArray clock') } := by
  obtain ⟨g, h, hk⟩ := h
  have hl := hl g h
  obtain ⟨hX, ents, clock, hb, _⟩ := h.hp b _ hs
  have hlt : b < w.heap.size := (Array.getElem?_eq_some_iff.1 hb).1
  have hF : ∀ o, ¬ g.F b o := fun o hf => h.xf b o hX hf
  refine ⟨g, ?_, hk.setBlock hF (.inr hX) _⟩
  have hle : GLe g st w g { st with h := upd st.h b (some (.map es')) } { w with heap := w.heap.setIfInBounds b (.map ents'.toArray clock') } :=
    ⟨FLe.setBlock hF _, fun s gg cs1 hs => ⟨gg, cs1, hs, .inr ⟨rfl, rfl⟩⟩, fun s gg n e hs => ⟨gg, n, e, hs, .inr ⟨rfl, .inl ⟨rfl, rfl⟩⟩⟩⟩
  refine h.step d rfl hle (hx _ _).lrep ?_ h.xf (by simpa using h.xb) (by simpa using h.fb) ?_ h.ld ?_ h.rds
  · intro b' o1 hb'
    simp only [upd] at hb'
    by_cases hd : b' = b
    · subst hd
      simp only [if_true, Option.some.injEq] at hb'
      subst hb'
      exact ⟨hX, ents', clock', by simp [hlt], RepEnts.mono hle.F _ _ hl, hst⟩
    · simp only [hd, if_false] at hb'
      obtain ⟨h2, h3⟩ := h.hp b' o1 hb'
      exact ⟨h2, h3.mono hle.F (heap_block_other w _ _ _ hd)⟩
  · intro s' gg' cs' hs'
    obtain ⟨_, hx, hf, _⟩ := h.lc s' gg' cs' hs'
    exact h.lc_keep hle hs' rfl hx hf (heap_block_other w _ _ _ (fun e => hx (e ▸ hX)))
  · intro s' gg' n e1 hs'
    obtain ⟨z, xs, h3, h4, h5, h6⟩ := h.rws s' gg' n e1 hs'
    exact ⟨z, xs, h3, h4, ownsRow_same h5 (fun blk hb => heap_block_other w _ _ _ (fun e => (h6 blk hb).1 (e ▸ hX))), h6⟩

/-- a new block of the heap, whatever it holds -/
theorem Sim.newBlk {c : Ctx} {st a w} (h : Sim c st a w) (d : Option Tmp) (io : IObj) (o : Obj) (x : IV) (v : Value) (hx : ∀ F w', Rep F w' x v)
    (hl : ∀ g, Core c.P c.N c.w0.heap.size c.ds g st a w → ObjRep g.F (w.alloc o) w.heap.size io) :
    Sim c (({ st with h := upd st.h w.heap.size (some io) } : St).put d x) (a.put d v) (w.alloc o) := by
  obtain ⟨g, h, hk⟩ := h
  have hl := hl g h
  refine ⟨{ g with X := fun b => g.X b ∨ b = w.heap.size }, ?_, ?_⟩
  · have hle : GLe g st w { g with X := fun b => g.X b ∨ b = w.heap.size } { st with h := upd st.h w.heap.size (some io) } (w.alloc o) :=
      ⟨FLe.alloc h.fb _ _ (fun _ _ h => h), fun s gg cs1 hs => ⟨gg, cs1, hs, .inr ⟨rfl, rfl⟩⟩, fun s gg n e hs => ⟨gg, n, e, hs, .inr ⟨rfl, .inl ⟨rfl, rfl⟩⟩⟩⟩
    refine h.step d rfl hle (hx _ _).lrep ?_ ?_ ?_ ?_ ?_ h.ld ?_ h.rds
    · intro b o' hb
      simp only [upd] at hb
      by_cases h1 : b = w.heap.size
      · subst h1
        simp only [if_true, Option.some.injEq] at hb
        subst hb
        exact ⟨XOk.of (.inr rfl), hl⟩
      · simp only [h1, if_false] at hb
        obtain ⟨h2, h3⟩ := h.hp b o' hb
        exact ⟨h2.mono .inl, h3.mono hle.F (heap_alloc_lt w _ (h.blt hb))⟩
    · intro b o hb hf
      rcases hb with hb | hb
      · exact h.xf b o hb hf
      · subst hb; have := h.fb _ _ hf; omega
    · intro b hb
      rcases hb with hb | hb
      · have := h.xb b hb; simp; omega
      · subst hb; simp
    · intro b o hb; have := h.fb b o hb; simp; omega
    · intro s gg cs1 hs
      obtain ⟨_, hx, hf, _⟩ := h.lc s gg cs1 hs
      have hlt := h.lb_lt hs
      exact h.lc_keep hle hs rfl (fun hx' => hx'.elim hx (fun e => by omega)) hf (heap_alloc_lt w _ hlt)
    · intro s gg n e1 hs
      obtain ⟨z, xs, h1, h2, h3, h4⟩ := h.rws s gg n e1 hs
      refine ⟨z, xs, h1, h2, ownsRow_same h3 (fun blk hb => heap_alloc_lt w _ (ownsRow_lt h3 hb).2), fun blk hb => ?_⟩
      obtain ⟨h5, h6, h7⟩ := h4 blk hb
      exact ⟨fun hx => hx.elim h5 (fun e => by have := (ownsRow_lt h3 hb).2; omega), h6, h7⟩
  · have h1 := hk.alloc h.fb o
    exact ⟨h1.sz, h1.os, h1.tape, h1.out, h1.fm, h1.fc, h1.ub, fun b hb => hb.elim (h1.xn b) (fun e => .inr (by have := hk.sz; omega)), h1.fn⟩

theorem Sim.fresh {c : Ctx} {st a w} (h : Sim c st a w) : st.h w.heap.size = none := by
  obtain ⟨g, h, _⟩ := h
  cases hh : st.h w.heap.size with
  | none => rfl
  | some o => have := h.blt hh; omega

def iput (d : TypeDesc) (k v : IV) : List (IV × IV) → Option (List (IV × IV))
  | [] => some [(k, v)]
  | p :: r =>
    match kEq d k p.1 with
    | some true => some ((k, v) :: r)
    | some false => (iput d k v r).map (p :: ·)
    | none => none

theorem keep_run {P : Program} {w : World} {d : TypeDesc} {F : Nat → Nat → Prop} {k k' : IV} {kv kv' : Value} (hk : Rep F w k kv) (hk' : Rep F w k' kv') (h : kEq d k k' = some true) : (Instr.keyThatStays kv' kv).run P w = .ok kv w := by
  unfold kEq at h
  split at h
  · cases hk; cases hk'
    split at h
    · rename_i e; subst e; simp at h; subst h; simp [Instr.keyThatStays, Instr.sameBits]
    · cases h
  · cases hk; cases hk'; rw [Option.some.injEq, MapKept.bytes_beq] at h; subst h; simp [Instr.keyThatStays, Instr.sameBits, MapKept.bytes_beq]
  · cases hk; cases hk'; simp at h; subst h; simp [Instr.keyThatStays, Instr.sameBits]
  · cases h

theorem kEq_ne {F : Nat → Nat → Prop} {w : World} {d : TypeDesc} {k k' : IV} {kv kv' : Value} (hk : Rep F w k kv) (hk' : Rep F w k' kv') (h : kEq d k k' = some false) : kv' ≠ kv := by
  unfold kEq at h
  split at h
  · cases hk; cases hk'
    split at h
    · simp at h; intro e; cases e; exact h rfl
    · cases h
  · cases hk; cases hk'; intro e; injection e with e; subst e; rename_i a; have h2 : (a == a) = true := by rw [MapKept.bytes_beq]
    rw [h2] at h; cases h
  · cases hk; cases hk'; simp at h; intro e; cases e; exact h rfl
  · cases h
theorem kEq_same {F : Nat → Nat → Prop} {w : World} {d : TypeDesc} {k k' : IV} {kv kv' : Value} (hk : Rep F w k kv) (hk' : Rep F w k' kv') (h : kEq d k k' = some true) : kv = kv' := by
  unfold kEq at h
  split at h
  · cases hk; cases hk'
    split at h
    · rename_i e; subst e; simp at h; subst h; rfl
    · cases h
  · cases hk; cases hk'; rw [Option.some.injEq, MapKept.bytes_beq] at h; subst h; rfl
  · cases hk; cases hk'; simp at h; subst h; rfl
  · cases h

theorem iput_find {F : Nat → Nat → Prop} {w : World} {d : TypeDesc} {k v : IV} {kv vv : Value} (hk : Rep F w k kv) (hv : Rep F w v vv) : ∀ (es : List (IV × IV)) (ents : List MapEntry) (i : Nat) (es' : List (IV × IV)), RepEnts F w es ents → iput d k v es = some es' →
    (Instr.findNow d kv ents i = some none ∧ (∀ born, RepEnts F w es' (ents ++ [{ key := kv, val := vv, born := born }])) ∧ ∀ e ∈ ents, e.key ≠ kv) ∨
    (∃ j e k', ents[j]? = some e ∧ Instr.findNow d kv ents i = some (some (i + j, e.val)) ∧ Rep F w k' e.key ∧ kEq d k k' = some true ∧ RepEnts F w es' (ents.modify j fun e => { e with key := kv, val := vv }))
  | [], ents, i, es', he, h => by cases he; cases h; exact .inl ⟨rfl, fun born => ⟨_, _, rfl, hk, hv, rfl⟩, by simp⟩
  | p :: r, ents, i, es', he, h => by
    obtain ⟨e, es0, rfl, h1, h2, h3⟩ := he
    simp only [iput] at h
    split at h
    · rename_i hq
      cases h
      refine .inr ⟨0, e, p.1, rfl, ?_, h1, hq, ?_⟩
      · simp [Instr.findNow, kEq_run hk h1 hq]
      · simp only [List.modify_zero_cons]; exact ⟨_, _, rfl, hk, hv, h3⟩
    · rename_i hq
      obtain ⟨es1, h4, rfl⟩ := Option.map_eq_some_iff.1 h
      rcases iput_find hk hv r es0 (i + 1) es1 h3 h4 with ⟨h5, h6, h6'⟩ | ⟨j, e', k', h5, h6, h7, h8, h9⟩
      · refine .inl ⟨by simp [Instr.findNow, kEq_run hk h1 hq, h5], fun born => ⟨_, _, rfl, h1, h2, h6 born⟩, fun x hx => ?_⟩
        rcases List.mem_cons.1 hx with rfl | hx
        · exact kEq_ne hk h1 hq
        · exact h6' x hx
      · refine .inr ⟨j + 1, e', k', by simpa using h5, ?_, h7, h8, ?_⟩
        · simp only [Instr.findNow, kEq_run hk h1 hq, h6, Option.some.injEq, Prod.mk.injEq, and_true]; omega
        · simp only [List.modify_succ_cons]; exact ⟨_, _, rfl, h1, h2, h9⟩
    · cases h

theorem Sim.mapPut {c : Ctx} {st a w} (h : Sim c st a w) {b : Nat} {es es' : List (IV × IV)} {t kt et : TypeId} {kd : TypeDesc} {k v : IV} {kv vv : Value} (hs : st.h b = some (.map es)) (ht : c.P.underlying t = some (.map kt et)) (hkt : c.P.underlying kt = some kd) (hsc : scal kd = true)
    (hk : ∀ g, Core c.P c.N c.w0.heap.size c.ds g st a w → Rep g.F w k kv) (hv : ∀ g, Core c.P c.N c.w0.heap.size c.ds g st a w → Rep g.F w v vv) (hp : iput kd k v es = some es') (d : Option Tmp) :
    ∃ w', (Instr.mapUpdate t (.map (some b)) kv vv).run c.P w = .ok () w' ∧ Sim c (({ st with h := upd st.h b (some (.map es')) } : St).put d .dead) (a.put d undef) w' := by
  have h0 := h
  obtain ⟨g, hc, _⟩ := h
  obtain ⟨hX, ents, clock, hb, he, hst⟩ := hc.hp b _ hs
  have hck : ∀ e, (Instr.checkKey e 10000 kt kv).run c.P w = .ok () w := fun e => scal_check hkt hsc
  rcases iput_find (hk g hc) (hv g hc) es ents 0 es' he hp with ⟨h1, h2, h2'⟩ | ⟨j, e, k', h1, h2, h3, h4, h5⟩
  · refine ⟨_, ?_, h0.setMap hs (ents ++ [{ key := kv, val := vv, born := clock }]) (clock + 1) (fun g' hc' => ?_) (by have := MapKept.stamped_push hst (key := kv) (val := vv) (fun x hx => h2' x (by simpa using hx)); simpa using this) d .dead undef fun _ _ => trivial⟩
    · simp [Instr.mapUpdate, Sem.run_bind, run_underlying ht, MapKept.run_getObj_map hb, hck, Instr.findKey, run_underlying hkt, h1, MapKept.run_setObj_map _ hb]
    · obtain ⟨_, ents1, clock1, hb1, he1, _⟩ := hc'.hp b _ hs
      rw [hb] at hb1; cases hb1
      rcases iput_find (hk g' hc') (hv g' hc') es ents 0 es' he1 hp with ⟨_, k2, _⟩ | ⟨j, e, k', _, k2, _⟩
      · exact k2 _
      · rw [h1] at k2; cases k2
  · have hjl := (List.getElem?_eq_some_iff.1 h1).1
    refine ⟨_, ?_, h0.setMap hs (ents.modify j fun e => { e with key := kv, val := vv }) clock (fun g' hc' => ?_) (by have := MapKept.stamped_modify hst j (fun e => { e with key := kv, val := vv }) (fun _ _ => rfl) (fun e' _ he' => by rw [List.getElem?_toArray, h1] at he'; cases he'; exact kEq_same (hk g hc) h3 h4); simpa using this) d .dead undef fun _ _ => trivial⟩
    · simp only [Nat.zero_add] at h2
      simp [Instr.mapUpdate, Sem.run_bind, run_underlying ht, MapKept.run_getObj_map hb, hck, Instr.findKey, run_underlying hkt, h2, h1, keep_run (hk g hc) h3 h4, MapKept.run_setObj_map _ hb]
    · obtain ⟨_, ents1, clock1, hb1, he1, _⟩ := hc'.hp b _ hs
      rw [hb] at hb1; cases hb1
      rcases iput_find (hk g' hc') (hv g' hc') es ents 0 es' he1 hp with ⟨k1, _, _⟩ | ⟨j', e', k'', _, k2, _, _, k5⟩
      · rw [h2] at k1; cases k1
      · rw [h2] at k2; simp at k2; obtain ⟨rfl, _⟩ := k2; exact k5

/-- a key's entry goes -/
def idel (d : TypeDesc) (k : IV) : List (IV × IV) → Option (List (IV × IV))
  | [] => some []
  | p :: r =>
    match kEq d k p.1 with
    | some true => some r
    | some false => (idel d k r).map (p :: ·)
    | none => none
theorem idel_find {F : Nat → Nat → Prop} {w : World} {d : TypeDesc} {k : IV} {kv : Value} (hk : Rep F w k kv) : ∀ (es : List (IV × IV)) (ents : List MapEntry) (i : Nat) (es' : List (IV × IV)), RepEnts F w es ents → idel d k es = some es' →
    (Instr.findNow d kv ents i = some none ∧ RepEnts F w es' ents) ∨ (∃ j e, Instr.findNow d kv ents i = some (some (i + j, e)) ∧ RepEnts F w es' (ents.eraseIdx j))
  | [], ents, i, es', he, h => by cases he; cases h; exact .inl ⟨rfl, rfl⟩
  | p :: r, ents, i, es', he, h => by
    obtain ⟨e, es0, rfl, h1, h2, h3⟩ := he
    simp only [idel] at h
    split at h
    · rename_i hq
      cases h
      exact .inr ⟨0, e.val, by simp [Instr.findNow, kEq_run hk h1 hq], by simpa using h3⟩
    · rename_i hq
      obtain ⟨es1, h4, rfl⟩ := Option.map_eq_some_iff.1 h
      rcases idel_find hk r es0 (i + 1) es1 h3 h4 with ⟨h5, h6⟩ | ⟨j, e', h6, h9⟩
      · exact .inl ⟨by simp [Instr.findNow, kEq_run hk h1 hq, h5], ⟨_, _, rfl, h1, h2, h6⟩⟩
      · refine .inr ⟨j + 1, e', ?_, ?_⟩
        · simp only [Instr.findNow, kEq_run hk h1 hq, h6, Option.some.injEq, Prod.mk.injEq, and_true]; omega
        · simp only [List.eraseIdx_cons_succ]; exact ⟨_, _, rfl, h1, h2, h9⟩
    · cases h
theorem Sim.mapDel {c : Ctx} {st a w} (h : Sim c st a w) {b : Nat} {es es' : List (IV × IV)} {t t2 kt et ty : TypeId} {kd : TypeDesc} {k : IV} {kv : Value} (hs : st.h b = some (.map es)) (ht : c.P.underlying t = some (.map kt et)) (hkt : c.P.underlying kt = some kd) (hsc : scal kd = true)
    (hk : ∀ g, Core c.P c.N c.w0.heap.size c.ds g st a w → Rep g.F w k kv) (hp : idel kd k es = some es') (d : Option Tmp) :
    ∃ w', (Builtin.delete_ #[t, t2] ty #[.map (some b), kv]).run c.P w = .ok (.tuple #[]) w' ∧ Sim c (({ st with h := upd st.h b (some (.map es')) } : St).put d (.tup [])) (a.put d (.tuple #[])) w' := by
  have h0 := h
  obtain ⟨g, hc, _⟩ := h
  obtain ⟨hX, ents, clock, hb, he, hst⟩ := hc.hp b _ hs
  have hck : ∀ e, (Instr.checkKey e 10000 kt kv).run c.P w = .ok () w := fun e => scal_check hkt hsc
  have key : ∀ ents', MapKept.Stamped ents'.toArray clock → (∀ g', Core c.P c.N c.w0.heap.size c.ds g' st a w → RepEnts g'.F w es' ents') → Sim c (({ st with h := upd st.h b (some (.map es')) } : St).put d (.tup [])) (a.put d (.tuple #[])) { w with heap := w.heap.setIfInBounds b (.map ents'.toArray clock) } :=
    fun ents' h1 h2 => h0.setMap hs ents' clock h2 h1 d (.tup []) (.tuple #[]) fun _ _ => ⟨#[], rfl, rfl⟩
  have re : ∀ g', Core c.P c.N c.w0.heap.size c.ds g' st a w → RepEnts g'.F w es ents := fun g' hc' => by
    obtain ⟨_, ents1, clock1, hb1, he1, _⟩ := hc'.hp b _ hs
    rw [hb] at hb1; cases hb1; exact he1
  rcases idel_find (hk g hc) es ents 0 es' he hp with ⟨h1, h2⟩ | ⟨j, e, h1, h2⟩
  · refine ⟨_, ?_, key ents hst (fun g' hc' => ?_)⟩
    · simp [Builtin.delete_, Sem.run_bind, run_underlying ht, MapKept.run_getObj_map hb, hck, Instr.findKey, run_underlying hkt, h1, MapKept.run_setObj_map _ hb]
    · rcases idel_find (hk g' hc') es ents 0 es' (re g' hc') hp with ⟨_, k2⟩ | ⟨j, e, k2, _⟩
      · exact k2
      · rw [h1] at k2; cases k2
  · refine ⟨_, ?_, key (ents.eraseIdx j) (by have := MapKept.stamped_erase hst j; simpa using this) (fun g' hc' => ?_)⟩
    · simp only [Nat.zero_add] at h1
      simp [Builtin.delete_, Sem.run_bind, run_underlying ht, MapKept.run_getObj_map hb, hck, Instr.findKey, run_underlying hkt, h1, MapKept.run_setObj_map _ hb]
    · rcases idel_find (hk g' hc') es ents 0 es' (re g' hc') hp with ⟨k2, _⟩ | ⟨j', e', k2, k5⟩
      · rw [h1] at k2; cases k2
      · rw [h1] at k2; simp at k2; obtain ⟨rfl, _⟩ := k2; exact k5

/-- a call's argument; with the hint 5 it is still known that a list has no room behind its end -/
def sa (k : Bool) (x : IV) : IV := match k, x with | true, .list .tight rows => .list .tight rows | _, x => strip x

theorem LRep.sa {g : Gh} {st : St} {w : World} {x : IV} {v : Value} (h : LRep g st w x v) (k : Bool) : Rep g.F w (Idl.sa k x) v := by
  unfold Idl.sa
  split
  · exact h
  · exact h.strip

theorem Sim.appendZeros {c : Ctx} {st a w} (h : Sim c st a w) (d : Option Tmp) (t t' ty e : TypeId) {z : Nat} {ki : IntKind} (he : elT c.P t = some e) (hz : (some e).bind (elZ c.P) = some z) (hti : c.P.underlying t' = some (.int ki)) (A : Option Addr) (k : IntKind) (m : Int) (hm : 0 < m) (hroom : roomy c.P e m.toNat) :
    ∃ vr w' b' cap', (Builtin.append_ #[t, t'] ty #[.slice A 0 0, .int k m]).run c.P w = .ok vr w' ∧ st.h b' = none ∧ m.toNat ≤ cap' ∧
      Sim c (({ st with h := upd st.h b' (some (.arr e z [] cap')) } : St).put d (.sl z b' 0 m.toNat cap')) (a.put d vr) w' := by
  obtain ⟨n, rfl⟩ := Int.eq_ofNat_of_zero_le (Int.le_of_lt hm)
  simp only [Int.toNat_natCast] at hroom ⊢
  have ht := elT_eq he
  simp only [Option.bind_some] at hz
  obtain ⟨hszT, hz0, zv0, hzv, hzs⟩ := elZ_eq hz
  obtain ⟨i, hi, hisz⟩ := szT_eq hszT
  have hzi : i.zero = some zv0 := by simpa [zeT, hi] using hzv
  have hby : byT c.P e = i.bytes := by simp [byT, hi]
  have hone := elZ_one hz hzv
  obtain ⟨hr1, hr2⟩ := hroom
  rw [hby] at hr1
  have hn0 : 0 < n := by omega
  have hw : IntKind.i64.wrap (n : Int) = n := by rw [IntKind.wrap_i64]; omega
  have hneg : ¬ ((n : Int) < 0) := by omega
  have hbig : ¬ (281474976710656 < (n : Int) * (i.bytes : Int)) := by
    rw [← Int.natCast_mul]; omega
  have hfit := growslice_fits (need := n) (old := 0) (by omega) hr1
  have h48' : ¬ (281474976710656 < Builtin.nextslicecap n 0 * i.bytes) := by omega
  have h63' : ¬ (9223372036854775807 < (n : Int)) := by omega
  have hge := grownCap_ge w n 0 e
  have hcm : grownCap w n 0 e ≤ maxLen := grownCap_le_maxLen w n 0 e (by simp only [maxLen]; omega)
  have hnz : ¬ (n * i.size = 0) := Nat.mul_ne_zero (by omega) (by omega)
  have hnn : ¬ n = 0 := by omega
  have hrun : (Builtin.append_ #[t, t'] ty #[.slice A 0 0, .int k n]).run c.P w = .ok (.slice (some ⟨w.heap.size, 0, none⟩) n (grownCap w n 0 e))
      (w.drew.alloc (.cells (Builtin.zeroCells zv0.cells n ++ Builtin.zeroCells zv0.cells (grownCap w n 0 e - n)) e)) := by
    cases A <;> simp [Builtin.append_, run_underlying ht, run_underlying hti, sizeOf, typeInfo, zeroValue, hi, hzi, asInt, asIntOf, hw, hneg, hbig, hnn, h63', h48', Question.forced, Builtin.firstCells, loadCells, loadCellsFrom, Go.newRow, grownCap, hnz]
  refine ⟨_, _, w.heap.size, grownCap w n 0 e, hrun, h.fresh, hge, ?_⟩
  have hd : Sim c st a w.drew := by obtain ⟨g, hg, hk⟩ := h; exact ⟨g, hg.drew, hk.drew⟩
  have := hd.newBlk d (.arr e z [] (grownCap w n 0 e)) (.cells (Builtin.zeroCells zv0.cells n ++ Builtin.zeroCells zv0.cells (grownCap w n 0 e - n)) e) (.sl z w.heap.size 0 n (grownCap w n 0 e)) (.slice (some ⟨w.heap.size, 0, none⟩) n (grownCap w n 0 e)) (fun _ _ => ⟨by simp, hge, hcm⟩)
    (fun g _ => ⟨[], (Builtin.zeroCells zv0.cells n ++ Builtin.zeroCells zv0.cells (grownCap w n 0 e - n)).toList, by rw [List.nil_append, Array.toArray_toList]; exact heap_alloc_last w.drew _, rfl, rfl, ?_, hz0, ?_⟩)
  · exact this
  · simp only [List.nil_append, Array.length_toList, Array.size_append, size_zeroCells, hzs, ← Nat.add_mul]
    congr 1; omega
  · intro v hv
    cases hv
/-- a new row that nobody writes any more, with room behind its end -/
theorem Sim.newRowP {c : Ctx} {st a w} (h : Sim c st a w) (d : Option Tmp) (rows : List (List IV)) (vals post : List Value) (cap : Nat) (e : TypeId) (hcap : rows.length ≤ cap) (hm : cap ≤ maxLen)
    (hl : ∀ g, Core c.P c.N c.w0.heap.size c.ds g st a w → RepAll g.F w rows.flatten vals) (hone : ∀ v ∈ vals, v.oneCell' = true) :
    Sim c (st.put d (.list .plain rows)) (a.put d (.slice (some ⟨w.heap.size, 0, none⟩) rows.length cap)) (w.alloc (.cells (vals ++ post).toArray e)) := by
  obtain ⟨g, h, hk⟩ := h
  have hl := hl g h
  refine ⟨{ g with F := fun b o => g.F b o ∨ (b = w.heap.size ∧ o < vals.length) }, ?_, ?_⟩
  · have hle : GLe g st w { g with F := fun b o => g.F b o ∨ (b = w.heap.size ∧ o < vals.length) } st (w.alloc (.cells (vals ++ post).toArray e)) :=
      ⟨FLe.alloc h.fb _ _ (fun _ _ h => .inl h), fun s gg cs1 hs => ⟨gg, cs1, hs, .inr ⟨rfl, rfl⟩⟩, fun s gg n e hs => ⟨gg, n, e, hs, .inr ⟨rfl, .inl ⟨rfl, rfl⟩⟩⟩⟩
    refine h.step d rfl hle ?_ ?_ ?_ ?_ ?_ ?_ h.ld ?_ h.rds
    · refine ⟨some ⟨w.heap.size, 0, none⟩, cap, vals, rfl, hcap, hm, (fun _ _ h => nomatch h), (fun h => nomatch h), fun _ => rfl, ?_, RepRows.unflat (RepAll.mono hle.F _ _ hl)⟩
      intro j v hj
      have hjl := (List.getElem?_eq_some_iff.1 hj).1
      refine ⟨.inr ⟨rfl, by simpa using hjl⟩, ?_, hone v (List.mem_of_getElem? hj)⟩
      rw [cell_at (heap_alloc_last w _)]
      simp only [Nat.zero_add, List.getElem?_toArray]
      rw [List.getElem?_append_left hjl]; exact hj
    · intro b o hb
      obtain ⟨h1, h2⟩ := h.hp b o hb
      exact ⟨h1, h2.mono hle.F (heap_alloc_lt w _ (h.blt hb))⟩
    · intro b o hb hf
      rcases hf with hf | ⟨hf, _⟩
      · exact h.xf b o hb hf
      · subst hf; have := h.xb _ hb; omega
    · intro b hb; have := h.xb b hb; simp; omega
    · intro b o hb
      rcases hb with hb | ⟨hb, _⟩
      · have := h.fb b o hb; simp; omega
      · subst hb; simp
    · intro s gg cs1 hs
      obtain ⟨_, hx, hf, _⟩ := h.lc s gg cs1 hs
      have hlt := h.lb_lt hs
      exact h.lc_keep hle hs rfl hx (fun o hf' => hf'.elim (hf o) (fun e => by omega)) (heap_alloc_lt w _ hlt)
    · intro s gg n e1 hs
      obtain ⟨z, xs, h1, h2, h3, h4⟩ := h.rws s gg n e1 hs
      refine ⟨z, xs, h1, h2, ownsRow_same h3 (fun blk hb => heap_alloc_lt w _ (ownsRow_lt h3 hb).2), fun blk hb => ?_⟩
      obtain ⟨h5, h6, h7⟩ := h4 blk hb
      exact ⟨h5, fun o hf => hf.elim (h6 o) (fun e => by have := (ownsRow_lt h3 hb).2; omega), h7⟩
  · have h1 := hk.alloc h.fb (.cells (vals ++ post).toArray e)
    exact ⟨h1.sz, h1.os, h1.tape, h1.out, fun b o hb => .inl (h1.fm b o hb), h1.fc, h1.ub, h1.xn, fun b o hb => hb.elim (h1.fn b o) (fun e => .inr (.inl (by have := hk.sz; omega)))⟩

/-- a copy of an array of the heap: a new row that nobody writes -/
theorem Sim.copyArr {c : Ctx} {st a w} (h : Sim c st a w) (d : Option Tmp) (t ty e : TypeId) {z b off n cap tot : Nat} {rows : List (List IV)} {vx vy : Value} (he : elT c.P t = some e) (hzz : elZ c.P e = some z) (hb : st.h b = some (.arr e z rows tot)) (hn : off + n ≤ rows.length)
    (hx : ∀ g, Core c.P c.N c.w0.heap.size c.ds g st a w → LRep g st w (.list .tight []) vx)
    (hy : vy = .slice (some ⟨b, off * z, none⟩) n cap ∧ n ≤ cap ∧ cap ≤ maxLen) (hroom : roomy c.P e n) :
    ∃ vr w', (Builtin.append_ #[t, t] ty #[vx, vy]).run c.P w = .ok vr w' ∧
      ((n = 0 ∧ Sim c (st.put d (.list .tight [])) (a.put d vr) w') ∨ (0 < n ∧ Sim c (st.put d (.list .plain ((rows.drop off).take n))) (a.put d vr) w')) := by
  obtain ⟨g, h, hk⟩ := h
  obtain ⟨hz, hz0, zv, hzv, hzs⟩ := elZ_eq hzz
  obtain ⟨inf, hinf, hsz⟩ := szT_eq hz
  have ht := elT_eq he
  have hzero : inf.zero = some zv := by simpa [zeT, hinf] using hzv
  have hbyt : byT c.P e = inf.bytes := by simp [byT, hinf]
  obtain ⟨hr1, hr2⟩ := hroom
  rw [hbyt] at hr1
  obtain ⟨A, cap0, vals, rfl, hcap, hcm, htt, hA⟩ := (hx g h).listOf
  have hcapeq := htt rfl
  simp only [List.length_nil] at hcapeq
  subst hcapeq
  obtain ⟨rfl, hncap, hcm2⟩ := hy
  obtain ⟨hX, pre, post, hheap, hl, hu, htot, _, hone⟩ := h.hp b _ hb
  by_cases hn0 : n = 0
  · subst hn0
    exact ⟨_, w, append_nothing ht hinf A _ 0 0 cap (Nat.le_refl _), .inl ⟨rfl, g, h.put d (hx g h), hk⟩⟩
  have hsub : RepRows g.F w ((rows.take (off + n)).drop off) ((pre.drop (off * z)).take ((off + n - off) * z)) := RepRows.sub hu (RepRows.unflat hl) off (off + n) (by omega) hn
  rw [List.drop_take, show off + n - off = n by omega] at hsub
  obtain ⟨vals2, hv2⟩ : ∃ v, v = (pre.drop (off * z)).take (n * z) := ⟨_, rfl⟩
  rw [← hv2] at hsub
  have hull : uni z ((rows.drop off).take n) = true := uni_take (uni_drop hu off) n
  have hrl : ((rows.drop off).take n).length = n := by simp; omega
  have hnl : vals2.length = n * inf.size := by rw [hsub.flat.length, uni_flat_all hull, hrl, hsz]
  have hnews : ∀ j u, vals2[j]? = some u → w.cell? ((⟨b, off * z, none⟩ : Addr).add j) = some u := fun j u hj => by
    rw [addr_add, cell_at hheap]
    rw [hv2, List.getElem?_take] at hj
    split at hj
    · rw [List.getElem?_drop] at hj
      have hlt := (List.getElem?_eq_some_iff.1 hj).1
      simp only [List.getElem?_toArray]
      rw [List.getElem?_append_left hlt]; exact hj
    · cases hj
  have hone2 : ∀ u ∈ vals2, u.oneCell' = true := fun u hu => by rw [hv2] at hu; exact hone u (List.mem_of_mem_drop (List.mem_of_mem_take hu))
  have hF := FLe.drew g.F w
  have hmax : n ≤ maxLen := by omega
  have fin : ∀ old, Sim c (st.put d (.list .plain ((rows.drop off).take n))) (a.put d (.slice (some ⟨w.heap.size, 0, none⟩) n (grownCap w n old e)))
      (w.drew.alloc (.cells (vals2.toArray ++ Builtin.zeroCells zv.cells (grownCap w n old e - n)) e)) := by
    intro old
    have hge := grownCap_ge w n old e
    have hgm : grownCap w n old e ≤ maxLen := grownCap_le_maxLen w n old e hmax
    have hfr : ∀ g', Core c.P c.N c.w0.heap.size c.ds g' st a w.drew → RepAll g'.F w.drew ((rows.drop off).take n).flatten vals2 := fun g' hg' => by
      obtain ⟨_, pre', post', hh', hl', hu', ht', _, _⟩ := hg'.hp b _ hb
      have e0 : w.drew.heap[b]? = w.heap[b]? := rfl
      rw [e0, hheap] at hh'
      have hpre : pre' = pre := by
        have h1 := hl'.length
        have h2 := hl.length
        have h3 : (pre' ++ post').toArray = (pre ++ post).toArray := (Obj.cells.inj (Option.some.inj hh')).1.symm
        have h4 : pre' ++ post' = pre ++ post := by simpa using congrArg Array.toList h3
        exact (List.append_inj h4 (by omega)).1
      have hsub' : RepRows g'.F w.drew ((rows.take (off + n)).drop off) ((pre'.drop (off * z)).take ((off + n - off) * z)) := RepRows.sub hu' (RepRows.unflat hl') off (off + n) (by omega) hn
      rw [List.drop_take, show off + n - off = n by omega, hpre, ← hv2] at hsub'
      exact hsub'.flat
    have hsim := Sim.newRowP (h := (⟨g, h.drew, hk.drew⟩ : Sim c st a w.drew)) d ((rows.drop off).take n) vals2 (Builtin.zeroCells zv.cells (grownCap w n old e - n)).toList (grownCap w n old e) e (by omega) hgm hfr hone2
    rw [hrl] at hsim
    have e3 : (vals2 ++ (Builtin.zeroCells zv.cells (grownCap w n old e - n)).toList).toArray = vals2.toArray ++ Builtin.zeroCells zv.cells (grownCap w n old e - n) := by
      apply Array.ext'; simp
    rw [e3] at hsim
    exact hsim
  cases A with
  | none =>
    have hrun := run_append_nil (P := c.P) w t ty e inf zv ht hinf hzero ⟨b, off * z, none⟩ n cap vals2 hnl hnews (by omega) (by omega) (by omega)
    exact ⟨_, _, hrun, .inr ⟨by omega, fin 0⟩⟩
  | some a1 =>
    have hrun := run_append_grow (P := c.P) w t ty e inf zv ht hinf hzero a1 0 0 [] (by simp) (by simp) ⟨b, off * z, none⟩ n cap vals2 hnl hnews (by omega) (by omega) (growslice_fits (by omega) (by simpa using hr1))
    simp only [Nat.zero_add, Array.empty_append] at hrun
    exact ⟨_, _, hrun, .inr ⟨by omega, fin 0⟩⟩

/-- the end of an array is cleared: what it holds is told no more -/
theorem Sim.clearArr {c : Ctx} {st a w} (h : Sim c st a w) (d : Option Tmp) (t ty e : TypeId) {z b off n cap tot : Nat} {rows : List (List IV)} {vx : Value} (he : elT c.P t = some e) (hzz : elZ c.P e = some z) (hb : st.h b = some (.arr e z rows tot)) (hoff : off ≤ rows.length) (hn : rows.length ≤ off + n) (htn : off + n ≤ tot)
    (hx : vx = .slice (some ⟨b, off * z, none⟩) n cap ∧ n ≤ cap ∧ cap ≤ maxLen) :
    ∃ w', (Builtin.clear_ #[t] ty #[vx]).run c.P w = .ok (.tuple #[]) w' ∧ Sim c (({ st with h := upd st.h b (some (.arr e z (rows.take off) tot)) } : St).put d (.tup [])) (a.put d (.tuple #[])) w' := by
  obtain ⟨g, h, hk⟩ := h
  obtain ⟨hz, hz0, zv, hzv, hzs⟩ := elZ_eq hzz
  obtain ⟨inf, hinf, hsz⟩ := szT_eq hz
  have ht := elT_eq he
  have hzero : inf.zero = some zv := by simpa [zeT, hinf] using hzv
  obtain ⟨rfl, hncap, hcm⟩ := hx
  obtain ⟨hX, pre, post, hheap, hl, hu, htot, _, hone⟩ := h.hp b _ hb
  have hll := hl.length
  rw [uni_flat_all hu] at hll
  have htk : RepAll g.F w (rows.take off).flatten (pre.take (off * z)) := by
    have := (RepRows.sub hu (RepRows.unflat hl) 0 off (Nat.zero_le _) hoff).flat
    simpa using this
  have hoz : off * z ≤ rows.length * z := Nat.mul_le_mul_right _ hoff
  by_cases hn0 : n = 0
  · subst hn0
    have hro : rows.length = off := by omega
    have htr : rows.take off = rows := List.take_of_length_le (by omega)
    refine ⟨w, by simp [Builtin.clear_, Sem.run_bind, run_underlying ht], ?_⟩
    rw [htr]
    have e1 : upd st.h b (some (.arr e z rows tot)) = st.h := by
      funext j; simp only [upd]; split
      · rename_i ej; subst ej; exact hb.symm
      · rfl
    rw [show ({ st with h := upd st.h b (some (.arr e z rows tot)) } : St) = st from by rw [e1]]
    exact ⟨g, h.put d (Rep.lrep (x := .tup []) ⟨#[], rfl, rfl⟩), hk⟩
  · have hzlen : (Builtin.zeroCells zv.cells n).toList.length = n * z := by simp only [Array.length_toList, size_zeroCells, hzs]
    have hsum : off * z + n * z ≤ tot * z := by rw [← Nat.add_mul]; exact Nat.mul_le_mul_right _ htn
    have hrun := run_storeCells_at c.P b (off * z) e (Builtin.zeroCells zv.cells n).toList 0 (pre ++ post).toArray w hheap (by simp only [List.size_toArray, hzlen]; omega) (zeroCells_one (elZ_one hzz hzv) n)
    have hnew : (pre ++ post).take (off * z) ++ (Builtin.zeroCells zv.cells n).toList ++ (pre ++ post).drop (off * z + (Builtin.zeroCells zv.cells n).toList.length) = pre.take (off * z) ++ ((Builtin.zeroCells zv.cells n).toList ++ (pre ++ post).drop (off * z + (Builtin.zeroCells zv.cells n).toList.length)) := by
      rw [List.take_append_of_le_length (by omega)]; simp
    simp only [Nat.add_zero, List.toList_toArray] at hrun
    rw [hnew] at hrun
    have hrun2 : (Builtin.clear_ #[t] ty #[.slice (some ⟨b, off * z, none⟩) n cap]).run c.P w = .ok (.tuple #[]) (w.setRow b (pre.take (off * z) ++ ((Builtin.zeroCells zv.cells n).toList ++ (pre ++ post).drop (off * z + (Builtin.zeroCells zv.cells n).toList.length))).toArray) := by
      clear hnew
      obtain ⟨W, hW⟩ : ∃ W, W = w.setRow b (pre.take (off * z) ++ ((Builtin.zeroCells zv.cells n).toList ++ (pre ++ post).drop (off * z + (Builtin.zeroCells zv.cells n).toList.length))).toArray := ⟨_, rfl⟩
      rw [← hW] at hrun ⊢
      clear hW
      obtain ⟨m, rfl⟩ : ∃ m, n = m + 1 := ⟨n - 1, by omega⟩
      simp [Builtin.clear_, Sem.run_bind, run_underlying ht, zeroValue, typeInfo, hinf, hzero, hrun]
    refine ⟨_, hrun2, ?_⟩
    refine Sim.setArr h hk hb (rows.take off) _ _ htk (uni_take hu off) ?_ (fun v hv => hone v (List.mem_of_mem_take hv)) d (.tup []) (.tuple #[]) fun _ _ => ⟨#[], rfl, rfl⟩
    simp only [List.length_append, List.length_take, List.length_drop, hzlen] at htot ⊢
    omega

theorem made_eq (v : Value) (M : Nat) : (madeCells #[v] M).toList = List.replicate M v := by
  apply List.ext_getElem
  · simp [madeCells]
  · intro j h1 h2
    simp [madeCells, Nat.mod_one]
theorem replicate_rep {F : Nat → Nat → Prop} {w : World} {row : List IV} {v : Value} (h : RepAll F w row [v]) : ∀ N, RepAll F w (List.replicate N row).flatten (List.replicate N v)
  | 0 => rfl
  | N + 1 => by
    have := h.append (replicate_rep h N)
    simpa [List.replicate_succ] using this
theorem uni_replicate {row : List IV} {z : Nat} (h : row.length = z) (N : Nat) : uni z (List.replicate N row) = true := by
  simp only [uni, List.all_eq_true]
  intro r hr
  rw [(List.mem_replicate.1 hr).2]; simpa using h

/-- an array made by make -/
theorem Sim.made {c : Ctx} {st a w} (h : Sim c st a w) (d : Option Tmp) (t e : TypeId) {z : Value} (he : elT c.P t = some e) (hz : elZ c.P e = some 1) (hzz : zeT c.P e = some z) (k1 k2 : IntKind) (N M : Nat) (hNM : N ≤ M) (hM : M ≤ 1000000000) (hby : byT c.P e ≤ 1000) :
    ∃ v w', (Instr.makeSlice t (.int k1 (N : Int)) (.int k2 (M : Int))).run c.P w = .ok v w' ∧
      ∃ b, st.h b = none ∧ Sim c (({ st with h := upd st.h b (some (.arr e 1 (List.replicate N (z.cells.toList.map cv)) M)) } : St).put d (.sl 1 b 0 N M)) (a.put d v) w' := by
  obtain ⟨hszT, hz0, zv0, hzv, hzs⟩ := elZ_eq hz
  rw [hzz] at hzv; cases hzv
  obtain ⟨i, hi, hisz⟩ := szT_eq hszT
  have hzi : i.zero = some z := by simpa [zeT, hi] using hzz
  have hbyi : byT c.P e = i.bytes := by simp [byT, hi]
  obtain ⟨v, hv⟩ : ∃ v, z.cells = #[v] := by
    have hl : z.cells.toList.length = 1 := by simpa using hzs
    match hl' : z.cells.toList, hl with
    | [v], _ => exact ⟨v, by apply Array.ext'; rw [hl']⟩
  have hb1 : i.bytes * M ≤ 1000 * 1000000000 := Nat.mul_le_mul (by omega) hM
  have hb2 : (i.bytes : Int) * (M : Int) ≤ 281474976710656 := by
    have : i.bytes * M ≤ 281474976710656 := Nat.le_trans hb1 (by omega)
    have h2 : ((i.bytes * M : Nat) : Int) = (i.bytes : Int) * (M : Int) := Int.natCast_mul _ _
    omega
  have hrun := run_make (P := c.P) w t e i z (elT_eq he) hi hzi k1 k2 N M (by omega) (by omega) hb2 (by omega)
  simp only [Int.toNat_natCast] at hrun
  have hone : v.oneCell' = true := elZ_one hz hzz v (by rw [hv]; simp)
  refine ⟨_, _, hrun, w.heap.size, h.fresh, ?_⟩
  refine h.newBlk d (.arr e 1 (List.replicate N (z.cells.toList.map cv)) M) (.cells (madeCells z.cells (M * i.size)) e) (.sl 1 w.heap.size 0 N M) (.slice (some ⟨w.heap.size, 0, none⟩) N M) (fun _ _ => ⟨by simp, hNM, by simp only [maxLen]; omega⟩) (fun g hg => ?_)
  have hcells : (madeCells z.cells (M * i.size)) = (List.replicate N v ++ List.replicate (M - N) v).toArray := by
    apply Array.ext'
    rw [hv, hisz, Nat.mul_one, made_eq, List.replicate_append_replicate, Nat.add_sub_cancel' hNM]
  refine ⟨List.replicate N v, List.replicate (M - N) v, ?_, ?_, ?_, ?_, by omega, ?_⟩
  · rw [hcells]; exact heap_alloc_last w _
  · rw [hv]; exact replicate_rep (row := [cv v]) (v := v) (show RepAll g.F _ [cv v] [v] from ⟨v, [], rfl, cv_rep _ _ v, rfl⟩) N
  · rw [hv]; exact uni_replicate rfl N
  · simp only [List.length_append, List.length_replicate]; omega
  · intro u hu; rw [(List.mem_replicate.1 hu).2]; exact hone
/-! copy, and appends over, or behind, an array of the heap -/
/-- the rows that are copied -/
def csrc (st : St) (z : Nat) (y : IV) : Option (List (List IV)) :=
  match y with
  | .list _ ys => if uni z ys = true then some ys else none
  | .sl z2 b2 off2 n2 _ =>
    match st.h b2 with
    | some (.arr _ z3 rows2 _) => if z2 = z ∧ z3 = z ∧ off2 + n2 ≤ rows2.length then some ((rows2.drop off2).take n2) else none
    | _ => none
  | _ => none

theorem csrc_rep {P N B ds g st a w} (h : Core P N B ds g st a w) {z : Nat} {y : IV} {vy : Value} {src : List (List IV)} (hc : csrc st z y = some src) (hy : LRep g st w y vy) :
    ∃ A k2 sv, vy = .slice A src.length k2 ∧ uni z src = true ∧ RepAll g.F w src.flatten sv ∧ (∀ u ∈ sv, u.oneCell' = true) ∧ (match A with | none => sv = [] | some a => ∀ j u, sv[j]? = some u → w.cell? (a.add j) = some u) := by
  unfold csrc at hc
  split at hc
  · rename_i tk ys
    split at hc
    · rename_i hu
      cases hc
      obtain ⟨A, cap, vals, rfl, hcap, hcm, htt, hA⟩ := hy.listOf
      cases A with
      | none =>
        simp only at hA
        have h0 : src = [] := List.eq_nil_of_length_eq_zero (by omega)
        subst h0
        exact ⟨none, cap, [], rfl, rfl, rfl, (fun u hu => nomatch hu), rfl⟩
      | some a1 =>
        obtain ⟨b1, o1, sp1⟩ := a1
        simp only at hA
        obtain ⟨hsp, hf, hrep⟩ := hA
        refine ⟨some ⟨b1, o1, sp1⟩, cap, vals, rfl, hu, hrep.flat, fun u hu' => ?_, fun j u hj => ?_⟩
        · obtain ⟨j, hj⟩ := List.mem_iff_getElem?.1 hu'; exact (hf j u hj).2.2
        · have hne : cap ≠ 0 := fun e => by
            have h0 : src = [] := List.eq_nil_of_length_eq_zero (by omega)
            subst h0
            have : vals = [] := hrep
            subst this; simp at hj
          have hs : sp1 = none := hsp (.inr hne)
          subst hs
          rw [addr_add]; exact (hf j u hj).2.1
    · cases hc
  · rename_i z2 b2 off2 n2 cap2
    split at hc
    · rename_i e z3 rows2 tot2 hb
      split at hc
      · rename_i hcc
        obtain ⟨rfl, rfl, hle⟩ := hcc
        cases hc
        obtain ⟨hX, pre, post, hheap, hl, hu, htot, _, hone⟩ := h.hp b2 _ hb
        obtain ⟨rfl, _, _⟩ : vy = .slice (some ⟨b2, off2 * z3, none⟩) n2 cap2 ∧ n2 ≤ cap2 ∧ cap2 ≤ maxLen := hy
        have hsub : RepRows g.F w ((rows2.take (off2 + n2)).drop off2) ((pre.drop (off2 * z3)).take ((off2 + n2 - off2) * z3)) := RepRows.sub hu (RepRows.unflat hl) off2 (off2 + n2) (by omega) hle
        rw [List.drop_take, show off2 + n2 - off2 = n2 by omega] at hsub
        have hrl : ((rows2.drop off2).take n2).length = n2 := by simp; omega
        refine ⟨some ⟨b2, off2 * z3, none⟩, cap2, _, by rw [hrl], uni_take (uni_drop hu off2) n2, hsub.flat, fun u hu' => hone u (List.mem_of_mem_drop (List.mem_of_mem_take hu')), fun j u hj => ?_⟩
        rw [addr_add, cell_at hheap]
        rw [List.getElem?_take] at hj
        split at hj
        · rw [List.getElem?_drop] at hj
          have hlt := (List.getElem?_eq_some_iff.1 hj).1
          simp only [List.getElem?_toArray]
          rw [List.getElem?_append_left hlt]; exact hj
        · cases hj
      · cases hc
    · cases hc
  · cases hc

/-- no more than so many elements -/
def trimS (n : Nat) : IV → IV
  | .sl z b off n2 cap => .sl z b off (min n n2) cap
  | y => y
theorem csrc_rep2 {P N B ds g st a w} (h : Core P N B ds g st a w) {z n : Nat} {y : IV} {vy : Value} {src : List (List IV)} (hc : csrc st z (trimS n y) = some src) (hy : LRep g st w y vy) :
    ∃ A m k2 sv, vy = .slice A m k2 ∧ min n m = min n src.length ∧ uni z src = true ∧ RepAll g.F w src.flatten sv ∧ (∀ u ∈ sv, u.oneCell' = true) ∧ (match A with | none => sv = [] | some a => ∀ j u, sv[j]? = some u → w.cell? (a.add j) = some u) := by
  cases y with
  | sl z2 b2 off2 n2 cap2 =>
    obtain ⟨rfl, h1, h2⟩ : vy = .slice (some ⟨b2, off2 * z2, none⟩) n2 cap2 ∧ n2 ≤ cap2 ∧ cap2 ≤ maxLen := hy
    obtain ⟨A, k2, sv, e, q1, q2, q3, q4⟩ := csrc_rep h (vy := .slice (some ⟨b2, off2 * z2, none⟩) (min n n2) cap2) hc (show _ ∧ _ ∧ _ from ⟨rfl, by omega, h2⟩)
    obtain ⟨rfl, e2, rfl⟩ : some ⟨b2, off2 * z2, none⟩ = A ∧ min n n2 = src.length ∧ cap2 = k2 := by simpa using e
    exact ⟨_, n2, _, sv, rfl, by omega, q1, q2, q3, q4⟩
  | _ => obtain ⟨A, k2, sv, e, q⟩ := csrc_rep h hc hy
         exact ⟨A, _, k2, sv, e, rfl, q⟩

/-- rows over rows -/
theorem over_rep {F w} {z : Nat} {rows src : List (List IV)} {pre sv : List Value} (hu : uni z rows = true) (hl : RepAll F w rows.flatten pre) (off k : Nat) (hs : RepAll F w src.flatten sv) (ho : off ≤ rows.length) :
    RepAll F w (rows.take off ++ src ++ rows.drop (off + k)).flatten (pre.take (off * z) ++ sv ++ pre.drop ((off + k) * z)) := by
  have hll := hl.length
  rw [uni_flat_all hu] at hll
  have h1 : RepAll F w (rows.take off).flatten (pre.take (off * z)) := by
    have := (RepRows.sub hu (RepRows.unflat hl) 0 off (Nat.zero_le _) ho).flat
    simpa using this
  have h2 : RepAll F w (rows.drop (off + k)).flatten (pre.drop ((off + k) * z)) := by
    by_cases hk : off + k ≤ rows.length
    · have := (RepRows.sub hu (RepRows.unflat hl) (off + k) rows.length hk (Nat.le_refl _)).flat
      rw [List.take_length] at this
      rw [List.take_of_length_le (by rw [List.length_drop, hll, Nat.sub_mul]; exact Nat.le_refl _)] at this
      exact this
    · have : rows.length * z ≤ (off + k) * z := Nat.mul_le_mul_right _ (by omega)
      rw [List.drop_of_length_le (by omega), List.drop_of_length_le (by omega)]
      exact rfl
  rw [List.flatten_append, List.flatten_append]
  exact (h1.append hs).append h2
theorem over_list (pre post sv : List Value) (a m : Nat) (ha : a ≤ pre.length) : (pre ++ post).take a ++ sv ++ (pre ++ post).drop m = (pre.take a ++ sv ++ pre.drop m) ++ post.drop (m - pre.length) := by
  rw [List.take_append_of_le_length ha, List.drop_append]; simp

theorem run_copyZ {P : Program} (w : World) (dT sT ty elem : TypeId) (i : TypeInfo) (g o dLen dCap : Nat) (A : Option Addr) (sLen sCap : Nat) (cur : Array Value) (t : TypeId) (cs : List Value) (kk : Nat) (hkk : kk = min sLen dLen)
    (hu : P.underlying dT = some (.slice elem)) (hi : P.info? elem = some i)
    (hg : w.heap[g]? = some (.cells cur t (0, 0))) (hn : cs.length = kk * i.size)
    (hsrc : match A with | none => cs = [] | some a => ∀ j v, cs[j]? = some v → w.cell? (a.add j) = some v) (hfit : o + cs.length ≤ cur.size) (h1 : ∀ v ∈ cs, v.oneCell' = true) :
    (Builtin.copy_ #[dT, sT] ty #[.slice (some ⟨g, o, none⟩) dLen dCap, .slice A sLen sCap]).run P w =
        .ok (goInt kk) (w.setRow g (cur.toList.take o ++ cs ++ cur.toList.drop (o + cs.length)).toArray) := by
  have hst := run_storeCells_at P g o t cs 0 cur w hg (by simpa using hfit) h1
  have hmin : Nat.min sLen dLen = kk := hkk.symm
  have hfc : (Builtin.firstCells i.size kk (.slice A sLen sCap)).run P w = .ok cs.toArray w := by
    cases A with
    | none => simp only at hsrc; subst hsrc; exact run_firstCells_none w i.size _ _ _
    | some a => exact run_firstCells_some w i.size _ a _ _ cs hn hsrc
  simp [Builtin.copy_, run_underlying hu, Builtin.lenOf, sizeOf, typeInfo, hi, hmin, hfc, hst]

theorem Sim.copyTo {c : Ctx} {st a w} (h : Sim c st a w) (d : Option Tmp) (t t' ty e : TypeId) {z b off n cap tot : Nat} {rows src : List (List IV)} {y : IV} {vy : Value} (he : elT c.P t = some e) (hzz : elZ c.P e = some z) (hb : st.h b = some (.arr e z rows tot))
    (ho : off ≤ rows.length) (hfit : off + min n src.length ≤ tot) (hc : csrc st z (trimS n y) = some src) (hy : ∀ g, Core c.P c.N c.w0.heap.size c.ds g st a w → LRep g st w y vy) :
    ∃ w', (Builtin.copy_ #[t, t'] ty #[.slice (some ⟨b, off * z, none⟩) n cap, vy]).run c.P w = .ok (.int .i64 (min n src.length : Nat)) w' ∧
      Sim c (({ st with h := upd st.h b (some (.arr e z (rows.take off ++ src.take n ++ rows.drop (off + min n src.length)) tot)) } : St).put d (.int .i64 (min n src.length : Nat))) (a.put d (.int .i64 (min n src.length : Nat))) w' := by
  obtain ⟨g, h, hk⟩ := h
  obtain ⟨hz, hz0, zv, hzv, hzs⟩ := elZ_eq hzz
  obtain ⟨inf, hinf, hsz⟩ := szT_eq hz
  have ht := elT_eq he
  obtain ⟨hX, pre, post, hheap, hl, hu, htot, _, hone⟩ := h.hp b _ hb
  have hll := hl.length
  rw [uni_flat_all hu] at hll
  obtain ⟨A, m, k2, sv, rfl, hmm, hsu, hsr, hso, hsA⟩ := csrc_rep2 h hc (hy g h)
  obtain ⟨k, hkk⟩ : ∃ k, k = min n src.length := ⟨_, rfl⟩
  rw [← hkk] at hfit ⊢
  have hsl : sv.length = src.length * z := by rw [hsr.length, uni_flat_all hsu]
  have hkz : k * z ≤ src.length * z := Nat.mul_le_mul_right _ (by omega)
  have hoz : off * z ≤ pre.length := by rw [hll]; exact Nat.mul_le_mul_right _ ho
  have htz : off * z + k * z ≤ tot * z := by rw [← Nat.add_mul]; exact Nat.mul_le_mul_right _ hfit
  have hcl : (sv.take (k * z)).length = k * z := by rw [List.length_take]; omega
  have hkk2 : k = min m n := by omega
  have hrun := run_copyZ (P := c.P) w t t' ty e inf b (off * z) n cap A m k2 (pre ++ post).toArray e (sv.take (k * z)) k hkk2 ht hinf hheap (by rw [hcl, hsz])
    (by
      cases A with
      | none => simp only at hsA ⊢; rw [hsA]; simp
      | some a1 =>
        simp only at hsA ⊢
        intro j v hj
        rw [List.getElem?_take] at hj
        split at hj
        · exact hsA j v hj
        · cases hj) (by simp only [List.size_toArray]; omega) (fun v hv => hso v (List.mem_of_mem_take hv))
  simp only [List.toList_toArray] at hrun
  rw [hcl, ← Nat.add_mul, over_list _ _ _ _ _ hoz] at hrun
  have hst : src.take n = src.take k := by
    by_cases hn : n ≤ src.length
    · rw [show k = n by omega]
    · rw [List.take_of_length_le (by omega), List.take_of_length_le (by omega)]
  have hsr2 : RepAll g.F w (src.take n).flatten (sv.take (k * z)) := by
    rw [hst]
    have := (RepRows.sub hsu (RepRows.unflat hsr) 0 k (Nat.zero_le _) (by omega)).flat
    simpa using this
  refine ⟨_, hrun, ?_⟩
  refine Sim.setArr h hk hb _ _ _ (over_rep hu hl off k hsr2 ho) ?_ ?_ ?_ d _ _ fun _ _ => rfl
  · rw [uni_append, uni_append, uni_take hu, uni_take hsu, uni_drop hu]; rfl
  · have hkoz : (off + k) * z = off * z + k * z := Nat.add_mul _ _ _
    simp only [List.length_append, List.length_take, List.length_drop] at htot hcl ⊢
    omega
  · intro v hv
    simp only [List.mem_append] at hv
    rcases hv with (h1 | h1) | h1
    · exact hone v (List.mem_of_mem_take h1)
    · exact hso v (List.mem_of_mem_take h1)
    · exact hone v (List.mem_of_mem_drop h1)

/-- an append within the room, over what is there -/
theorem Sim.appendOver {c : Ctx} {st a w} (h : Sim c st a w) (d : Option Tmp) (t ty e : TypeId) {z b n cap tot : Nat} {rows src : List (List IV)} {y : IV} {vy : Value} (he : elT c.P t = some e) (hzz : elZ c.P e = some z) (hb : st.h b = some (.arr e z rows tot))
    (ho : n ≤ rows.length) (hfit : n + src.length ≤ tot) (hct : tot = cap) (hcm : cap ≤ maxLen) (hc : csrc st z y = some src) (hy : ∀ g, Core c.P c.N c.w0.heap.size c.ds g st a w → LRep g st w y vy) :
    ∃ w', (Builtin.append_ #[t, t] ty #[.slice (some ⟨b, 0, none⟩) n cap, vy]).run c.P w = .ok (.slice (some ⟨b, 0, none⟩) (n + src.length) cap) w' ∧
      Sim c (({ st with h := upd st.h b (some (.arr e z (rows.take n ++ src ++ rows.drop (n + src.length)) tot)) } : St).put d (.sl z b 0 (n + src.length) cap)) (a.put d (.slice (some ⟨b, 0, none⟩) (n + src.length) cap)) w' := by
  subst hct
  obtain ⟨g, h, hk⟩ := h
  obtain ⟨hz, hz0, zv, hzv, hzs⟩ := elZ_eq hzz
  obtain ⟨inf, hinf, hsz⟩ := szT_eq hz
  have ht := elT_eq he
  obtain ⟨hX, pre, post, hheap, hl, hu, htot, _, hone⟩ := h.hp b _ hb
  have hll := hl.length
  rw [uni_flat_all hu] at hll
  obtain ⟨A, k2, sv, rfl, hsu, hsr, hso, hsA⟩ := csrc_rep h hc (hy g h)
  have hsl : sv.length = src.length * z := by rw [hsr.length, uni_flat_all hsu]
  have hoz : n * z ≤ pre.length := by rw [hll]; exact Nat.mul_le_mul_right _ ho
  have htz : n * z + src.length * z ≤ tot * z := by rw [← Nat.add_mul]; exact Nat.mul_le_mul_right _ hfit
  have hrun : (Builtin.append_ #[t, t] ty #[.slice (some ⟨b, 0, none⟩) n tot, .slice A src.length k2]).run c.P w =
      .ok (.slice (some ⟨b, 0, none⟩) (n + src.length) tot) (w.setRow b ((pre.take (n * z) ++ sv ++ pre.drop ((n + src.length) * z)) ++ post.drop ((n + src.length) * z - pre.length)).toArray) := by
    have hov := over_list pre post sv (n * z) ((n + src.length) * z) hoz
    cases A with
    | none =>
      simp only at hsA
      subst hsA
      have h0 : src = [] := by
        apply List.eq_nil_of_length_eq_zero
        simp only [List.length_nil] at hsl
        rcases Nat.mul_eq_zero.1 hsl.symm with h | h
        · exact h
        · omega
      subst h0
      rw [← hov]
      have e0 : (pre ++ post).take (n * z) ++ [] ++ (pre ++ post).drop ((n + ([] : List (List IV)).length) * z) = pre ++ post := by
        rw [List.append_nil, List.length_nil, Nat.add_zero, List.take_append_drop]
      rw [e0, setRow_self w b (pre ++ post).toArray e (0, 0) hheap]
      exact append_nothing ht hinf (some ⟨b, 0, none⟩) none n tot k2 (by omega)
    | some a1 =>
      simp only at hsA
      have hrun := run_append_room (P := c.P) w t ty e inf ht hinf b n tot (pre ++ post).toArray hheap a1 src.length k2 sv (by rw [hsz]; exact hsl) hsA hso hfit (by rw [hsz]; simp only [List.size_toArray]; omega)
      rw [hsz] at hrun
      simp only [List.toList_toArray] at hrun
      rw [hsl, ← Nat.add_mul, hov] at hrun
      exact hrun
  refine ⟨_, hrun, ?_⟩
  refine Sim.setArr h hk hb _ _ _ (over_rep hu hl n src.length hsr ho) ?_ ?_ ?_ d _ _ fun _ _ => ⟨by simp, hfit, hcm⟩
  · rw [uni_append, uni_append, uni_take hu, hsu, uni_drop hu]; rfl
  · have hkoz : (n + src.length) * z = n * z + src.length * z := Nat.add_mul _ _ _
    simp only [List.length_append, List.length_take, List.length_drop] at htot ⊢
    omega
  · intro v hv
    simp only [List.mem_append] at hv
    rcases hv with (h1 | h1) | h1
    · exact hone v (List.mem_of_mem_take h1)
    · exact hso v h1
    · exact hone v (List.mem_of_mem_drop h1)

/-- zeros behind an array that has no room for them: a new array; what stands ahead is told -/
theorem Sim.zerosOnto {c : Ctx} {st a w} (h : Sim c st a w) (d : Option Tmp) (t t' ty e : TypeId) {z b n cap tot : Nat} {rows : List (List IV)} {ki : IntKind} (he : elT c.P t = some e) (hzz : elZ c.P e = some z) (hti : c.P.underlying t' = some (.int ki)) (hb : st.h b = some (.arr e z rows tot))
    (ho : n ≤ rows.length) (kq : IntKind) (k : Nat) (hk0 : 0 < k) (hfit : cap < n + k) (hroom : roomy c.P e (n + k)) :
    ∃ vr w' b' cap', (Builtin.append_ #[t, t'] ty #[.slice (some ⟨b, 0, none⟩) n cap, .int kq k]).run c.P w = .ok vr w' ∧ st.h b' = none ∧ n + k ≤ cap' ∧
      Sim c (({ st with h := upd st.h b' (some (.arr e z (rows.take n) cap')) } : St).put d (.sl z b' 0 (n + k) cap')) (a.put d vr) w' := by
  obtain ⟨hz, hz0, zv, hzv, hzs⟩ := elZ_eq hzz
  obtain ⟨inf, hinf, hsz⟩ := szT_eq hz
  have ht := elT_eq he
  have hzero : inf.zero = some zv := by simpa [zeT, hinf] using hzv
  have hbyt : byT c.P e = inf.bytes := by simp [byT, hinf]
  obtain ⟨hr1, hr2⟩ := hroom
  rw [hbyt] at hr1
  obtain ⟨pre, post, hheap, hl, hu, hone⟩ : ∃ pre post : List Value, w.heap[b]? = some (.cells (pre ++ post).toArray e) ∧ pre.length = rows.length * z ∧ uni z rows = true ∧ (∀ v ∈ pre, v.oneCell' = true) := by
    obtain ⟨g, h, hk⟩ := h
    obtain ⟨hX, pre, post, hheap, hl, hu, htot, _, hone⟩ := h.hp b _ hb
    have hll := hl.length
    rw [uni_flat_all hu] at hll
    exact ⟨pre, post, hheap, hll, hu, hone⟩
  have hnz : n * z ≤ pre.length := by rw [hl]; exact Nat.mul_le_mul_right _ ho
  have hol : (pre.take (n * z)).length = n * z := by rw [List.length_take]; omega
  have hold : (Builtin.firstCells inf.size n (.slice (some ⟨b, 0, none⟩) n cap)).run c.P w.drew = .ok (pre.take (n * z)).toArray w.drew := by
    rw [hsz]
    refine run_firstCells_some w.drew z n _ n cap _ hol fun j v hj => ?_
    rw [addr_add, Nat.zero_add]
    have e0 : w.drew.cell? ⟨b, j, none⟩ = w.cell? ⟨b, j, none⟩ := rfl
    rw [e0, cell_at hheap]
    rw [List.getElem?_take] at hj
    split at hj
    · have hlt := (List.getElem?_eq_some_iff.1 hj).1
      simp only [List.getElem?_toArray]
      rw [List.getElem?_append_left hlt]; exact hj
    · cases hj
  have hrun := Lib.run_append_grow_zeros w t t' ty e inf zv kq ki ht hti hinf hzero (some ⟨b, 0, none⟩) n cap _ hold k hk0 (by omega) hfit (by omega) (by
      have : k * inf.bytes ≤ (n + k) * inf.bytes := Nat.mul_le_mul_right _ (by omega)
      omega) (growslice_fits hfit hr1)
  have hge := grownCap_ge w (n + k) cap e
  have hcm : grownCap w (n + k) cap e ≤ maxLen := grownCap_le_maxLen w (n + k) cap e (by simp only [maxLen]; omega)
  refine ⟨_, _, w.heap.size, grownCap w (n + k) cap e, hrun, h.fresh, hge, ?_⟩
  have hd : Sim c st a w.drew := by obtain ⟨g, hg, hk⟩ := h; exact ⟨g, hg.drew, hk.drew⟩
  refine hd.newBlk d (.arr e z (rows.take n) (grownCap w (n + k) cap e)) _ (.sl z w.heap.size 0 (n + k) (grownCap w (n + k) cap e)) (.slice (some ⟨w.heap.size, 0, none⟩) (n + k) (grownCap w (n + k) cap e)) (fun _ _ => ⟨by simp, hge, hcm⟩)
    (fun g hg => ⟨pre.take (n * z), (Builtin.zeroCells zv.cells k ++ Builtin.zeroCells zv.cells (grownCap w (n + k) cap e - (n + k))).toList, ?_, ?_, uni_take hu n, ?_, hz0, fun v hv => hone v (List.mem_of_mem_take hv)⟩)
  · have e3 : (pre.take (n * z) ++ (Builtin.zeroCells zv.cells k ++ Builtin.zeroCells zv.cells (grownCap w (n + k) cap e - (n + k))).toList).toArray = (pre.take (n * z)).toArray ++ Builtin.zeroCells zv.cells k ++ Builtin.zeroCells zv.cells (grownCap w (n + k) cap e - (n + k)) := by
      apply Array.ext'; simp
    rw [e3]; exact heap_alloc_last w.drew _
  · obtain ⟨hX, pre', post', hh', hl', hu', ht', _, _⟩ := hg.hp b _ hb
    have e0 : w.drew.heap[b]? = w.heap[b]? := rfl
    rw [e0, hheap] at hh'
    have hpl := hl'.length
    rw [uni_flat_all hu'] at hpl
    have hpre : pre' = pre := by
      have h3 : (pre' ++ post').toArray = (pre ++ post).toArray := (Obj.cells.inj (Option.some.inj hh')).1.symm
      have h4 : pre' ++ post' = pre ++ post := by simpa using congrArg Array.toList h3
      exact (List.append_inj h4 (by omega)).1
    rw [hpre] at hl'
    have h5 := (RepRows.sub hu (RepRows.unflat hl') 0 n (Nat.zero_le _) ho).flat
    simp only [List.drop_zero, Nat.zero_mul, Nat.sub_zero] at h5
    exact RepAll.mono (FLe.alloc hg.fb _ _ (fun _ _ h => h)) _ _ h5
  · simp only [List.length_append, hol, Array.length_toList, Array.size_append, size_zeroCells, hzs, ← Nat.add_mul]
    congr 1; omega

/-- an append behind the first elements of an array: within the room over what is there, or in a new array -/
theorem Sim.appendPre {c : Ctx} {st a w} (h : Sim c st a w) (d : Option Tmp) (t ty e : TypeId) {z b n cap tot : Nat} {rows src : List (List IV)} {y : IV} {vy : Value} (he : elT c.P t = some e) (hzz : elZ c.P e = some z) (hb : st.h b = some (.arr e z rows tot))
    (ho : n ≤ rows.length) (hct : tot = cap) (hnc : n ≤ cap) (hcm : cap ≤ maxLen) (hroom : roomy c.P e (n + src.length)) (hc : csrc st z y = some src) (hy : ∀ g, Core c.P c.N c.w0.heap.size c.ds g st a w → LRep g st w y vy) :
    ∃ vr w', (Builtin.append_ #[t, t] ty #[.slice (some ⟨b, 0, none⟩) n cap, vy]).run c.P w = .ok vr w' ∧
      ((n + src.length ≤ cap ∧ Sim c (({ st with h := upd st.h b (some (.arr e z (rows.take n ++ src ++ rows.drop (n + src.length)) tot)) } : St).put d (.sl z b 0 (n + src.length) cap)) (a.put d vr) w') ∨
       (cap < n + src.length ∧ ∃ b' cap', st.h b' = none ∧ n + src.length ≤ cap' ∧ Sim c (({ st with h := upd st.h b' (some (.arr e z (rows.take n ++ src) cap')) } : St).put d (.sl z b' 0 (n + src.length) cap')) (a.put d vr) w')) := by
  by_cases hfit : n + src.length ≤ cap
  · obtain ⟨w', h1, h2⟩ := h.appendOver d t ty e (cap := cap) he hzz hb ho (by omega) hct hcm hc hy
    exact ⟨_, w', h1, .inl ⟨hfit, h2⟩⟩
  subst hct
  obtain ⟨g, h, hk⟩ := h
  obtain ⟨hz, hz0, zv, hzv, hzs⟩ := elZ_eq hzz
  obtain ⟨inf, hinf, hsz⟩ := szT_eq hz
  have ht := elT_eq he
  have hzero : inf.zero = some zv := by simpa [zeT, hinf] using hzv
  have hbyt : byT c.P e = inf.bytes := by simp [byT, hinf]
  obtain ⟨hr1, hr2⟩ := hroom
  rw [hbyt] at hr1
  obtain ⟨hX, pre, post, hheap, hl, hu, htot, _, hone⟩ := h.hp b _ hb
  have hll := hl.length
  rw [uni_flat_all hu] at hll
  obtain ⟨A, k2, sv, rfl, hsu, hsr, hso, hsA⟩ := csrc_rep h hc (hy g h)
  have hsl : sv.length = src.length * z := by rw [hsr.length, uni_flat_all hsu]
  have hnz : n * z ≤ pre.length := by rw [hll]; exact Nat.mul_le_mul_right _ ho
  have hol : (pre.take (n * z)).length = n * inf.size := by rw [hsz, List.length_take]; omega
  cases A with
  | none =>
    simp only at hsA
    subst hsA
    have h0 : src.length = 0 := by
      simp only [List.length_nil] at hsl
      rcases Nat.mul_eq_zero.1 hsl.symm with h | h
      · exact h
      · omega
    omega
  | some a1 =>
    simp only at hsA
    have holds : ∀ j u, (pre.take (n * z))[j]? = some u → w.cell? ((⟨b, 0, none⟩ : Addr).add j) = some u := fun j u hj => by
      rw [addr_add, cell_at hheap, Nat.zero_add]
      rw [List.getElem?_take] at hj
      split at hj
      · have := (List.getElem?_eq_some_iff.1 hj).1
        simp only [List.getElem?_toArray]
        rw [List.getElem?_append_left this]; exact hj
      · cases hj
    have hrun := run_append_grow (P := c.P) w t ty e inf zv ht hinf hzero ⟨b, 0, none⟩ n tot (pre.take (n * z)) hol holds a1 src.length k2 sv (by rw [hsz]; exact hsl) hsA (by omega) (by omega) (growslice_fits (by omega) hr1)
    have hge := grownCap_ge w (n + src.length) tot e
    have hgm : grownCap w (n + src.length) tot e ≤ maxLen := grownCap_le_maxLen w (n + src.length) tot e (by simp only [maxLen]; omega)
    have hF := FLe.drew g.F w
    have hrl : (rows.take n ++ src).length = n + src.length := by simp; omega
    have hlen : (pre.take (n * z) ++ sv ++ (Builtin.zeroCells zv.cells (grownCap w (n + src.length) tot e - (n + src.length))).toList).length = grownCap w (n + src.length) tot e * z := by
      simp only [List.length_append, Array.length_toList, size_zeroCells, hzs, hol, hsl, hsz, ← Nat.add_mul]
      congr 1; omega
    have hpr : RepAll g.F w (rows.take n).flatten (pre.take (n * z)) := by
      have := (RepRows.sub hu (RepRows.unflat hl) 0 n (Nat.zero_le _) ho).flat
      simpa using this
    obtain ⟨b', hb', hsim⟩ := Sim.newArr h.drew hk.drew d e z hz0 (rows.take n ++ src) (by rw [uni_append, uni_take hu, hsu]; rfl) (grownCap w (n + src.length) tot e) (by rw [hrl]; exact hge) hgm (pre.take (n * z) ++ sv) (Builtin.zeroCells zv.cells (grownCap w (n + src.length) tot e - (n + src.length))).toList
      (by rw [List.flatten_append]; exact (RepAll.mono hF _ _ hpr).append (RepAll.mono hF _ _ hsr))
      (fun u hu' => (List.mem_append.1 hu').elim (fun h1 => hone u (List.mem_of_mem_take h1)) (hso u)) hlen
    rw [hrl] at hsim
    refine ⟨_, _, hrun, .inr ⟨by omega, b', grownCap w (n + src.length) tot e, hb', hge, ?_⟩⟩
    have e3 : (pre.take (n * z) ++ sv ++ (Builtin.zeroCells zv.cells (grownCap w (n + src.length) tot e - (n + src.length))).toList).toArray = (pre.take (n * z)).toArray ++ sv.toArray ++ Builtin.zeroCells zv.cells (grownCap w (n + src.length) tot e - (n + src.length)) := by
      apply Array.ext'; simp
    rw [e3] at hsim
    exact hsim
/-! iterators; strings and bytes -/
/-- a block turns -/
theorem Sim.setBlk {c : Ctx} {st a w} (h : Sim c st a w) {b : Nat} {io io' : IObj} (hs : st.h b = some io) (hnf : ∀ X : Nat → Prop, XOk X b io → X b) (o' : Obj) (d : Option Tmp) (x : IV) (v : Value)
    (hl : ∀ g, Core c.P c.N c.w0.heap.size c.ds g st a w → ObjRep g.F { w with heap := w.heap.setIfInBounds b o' } b io')
    (hx : ∀ g, Core c.P c.N c.w0.heap.size c.ds g st a w → Rep g.F { w with heap := w.heap.setIfInBounds b o' } x v) :
    Sim c (({ st with h := upd st.h b (some io') } : St).put d x) (a.put d v) { w with heap := w.heap.setIfInBounds b o' } := by
  obtain ⟨g, h, hk⟩ := h
  have hl := hl g h
  have hx := hx g h
  have hX := hnf _ (h.hp b _ hs).1
  have hF : ∀ o, ¬ g.F b o := fun o hf => h.xf b o hX hf
  refine ⟨g, ?_, hk.setBlock hF (.inr hX) _⟩
  have hle : GLe g st w g { st with h := upd st.h b (some io') } { w with heap := w.heap.setIfInBounds b o' } :=
    ⟨FLe.setBlock hF _, fun s gg cs1 hs => ⟨gg, cs1, hs, .inr ⟨rfl, rfl⟩⟩, fun s gg n e hs => ⟨gg, n, e, hs, .inr ⟨rfl, .inl ⟨rfl, rfl⟩⟩⟩⟩
  refine h.step d rfl hle hx.lrep ?_ h.xf (by simpa using h.xb) (by simpa using h.fb) ?_ h.ld ?_ h.rds
  · intro b' o1 hb'
    simp only [upd] at hb'
    by_cases hd : b' = b
    · subst hd
      simp only [if_true, Option.some.injEq] at hb'
      subst hb'
      exact ⟨XOk.of hX, hl⟩
    · simp only [hd, if_false] at hb'
      obtain ⟨h2, h3⟩ := h.hp b' o1 hb'
      exact ⟨h2, h3.mono hle.F (heap_block_other w _ _ _ hd)⟩
  · intro s' gg' cs' hs'
    obtain ⟨_, hx, hf, _⟩ := h.lc s' gg' cs' hs'
    exact h.lc_keep hle hs' rfl hx hf (heap_block_other w _ _ _ (fun e => hx (e ▸ hX)))
  · intro s' gg' n e1 hs'
    obtain ⟨z, xs, h3, h4, h5, h6⟩ := h.rws s' gg' n e1 hs'
    exact ⟨z, xs, h3, h4, ownsRow_same h5 (fun blk hb => heap_block_other w _ _ _ (fun e => (h6 blk hb).1 (e ▸ hX))), h6⟩

/-- a block goes out of sight, and turns -/
theorem Sim.dropBlk {c : Ctx} {st a w} (h : Sim c st a w) {b : Nat} {io : IObj} (hs : st.h b = some io) (hnf : ∀ X : Nat → Prop, XOk X b io → X b) (o' : Obj) (d : Option Tmp) (x : IV) (v : Value)
    (hx : ∀ F w', Rep F w' x v) :
    Sim c (({ st with h := fun j => if j = b then none else st.h j } : St).put d x) (a.put d v) { w with heap := w.heap.setIfInBounds b o' } := by
  obtain ⟨g, h, hk⟩ := h
  have hX := hnf _ (h.hp b _ hs).1
  have hF : ∀ o, ¬ g.F b o := fun o hf => h.xf b o hX hf
  have hk2 := hk.setBlock hF (.inr hX) o'
  refine ⟨g, ?_, hk2⟩
  have hle : GLe g st w g { st with h := fun j => if j = b then none else st.h j } { w with heap := w.heap.setIfInBounds b o' } :=
    ⟨FLe.setBlock hF _, fun s gg cs1 hs => ⟨gg, cs1, hs, .inr ⟨rfl, rfl⟩⟩, fun s gg n e hs => ⟨gg, n, e, hs, .inr ⟨rfl, .inl ⟨rfl, rfl⟩⟩⟩⟩
  refine h.step d rfl hle (hx _ _).lrep ?_ h.xf (by simpa using h.xb) (by simpa using h.fb) ?_ h.ld ?_ h.rds
  · intro b' o1 hb'
    simp only at hb'
    by_cases hd : b' = b
    · rw [if_pos hd] at hb'; cases hb'
    · rw [if_neg hd] at hb'
      obtain ⟨h2, h3⟩ := h.hp b' o1 hb'
      exact ⟨h2, h3.mono hle.F (heap_block_other w _ _ _ hd)⟩
  · intro s' gg' cs' hs'
    obtain ⟨_, hx, hf, _⟩ := h.lc s' gg' cs' hs'
    exact h.lc_keep hle hs' rfl hx hf (heap_block_other w _ _ _ (fun e => hx (e ▸ hX)))
  · intro s' gg' n e1 hs'
    obtain ⟨z, xs, h3, h4, h5, h6⟩ := h.rws s' gg' n e1 hs'
    exact ⟨z, xs, h3, h4, ownsRow_same h5 (fun blk hb => heap_block_other w _ _ _ (fun e => (h6 blk hb).1 (e ▸ hX))), h6⟩

theorem Sim.drew {c : Ctx} {st a w} (h : Sim c st a w) : Sim c st a w.drew := by obtain ⟨g, h, hk⟩ := h; exact ⟨g, h.drew, hk.drew⟩

/-- a map stands till its range ends -/
theorem Sim.pin {c : Ctx} {st a w} (h : Sim c st a w) {m : Nat} {es : List (IV × IV)} (hm : st.h m = some (.map es)) :
    ∃ ents clock, w.heap[m]? = some (.map ents.toArray clock) ∧ ents.length = es.length ∧ Sim c { st with h := upd st.h m (some (.pmap es ents clock)) } a w := by
  obtain ⟨g, h, hk⟩ := h
  obtain ⟨hX, ents, clock, hb, hre, hst⟩ := h.hp m _ hm
  have hX : g.X m := hX
  refine ⟨ents, clock, hb, (repEnts_len hre).symm, g, ?_, hk⟩
  have hle : GLe g st w g { st with h := upd st.h m (some (.pmap es ents clock)) } w :=
    ⟨⟨fun _ _ h => h, fun _ _ _ => rfl⟩, fun s gg cs1 hs => ⟨gg, cs1, hs, .inr ⟨rfl, rfl⟩⟩, fun s gg n e hs => ⟨gg, n, e, hs, .inr ⟨rfl, .inl ⟨rfl, rfl⟩⟩⟩⟩
  refine ⟨h.size, h.defers, fun t ht => (h.tm t ht).mono hle, ?_, h.xf, h.xb, h.fb, ?_, h.ld, h.rws, h.rds⟩
  · intro b' o1 hb'
    simp only [upd] at hb'
    by_cases hd : b' = m
    · subst hd
      simp only [if_true, Option.some.injEq] at hb'
      subst hb'
      exact ⟨XOk.of hX, hb, hre, hst⟩
    · simp only [hd, if_false] at hb'
      exact h.hp b' o1 hb'
  · intro s' gg' cs' hs'
    obtain ⟨_, hx, hf, _⟩ := h.lc s' gg' cs' hs'
    exact h.lc_keep hle hs' rfl hx hf rfl

theorem RepEnts.get {F : Nat → Nat → Prop} {w : World} : ∀ {es : List (IV × IV)} {ents : List MapEntry}, RepEnts F w es ents → ∀ (i : Nat) (e : MapEntry), ents[i]? = some e → ∃ k v, es[i]? = some (k, v) ∧ Rep F w k e.key ∧ Rep F w v e.val
  | [], _, h, i, e, he => by cases h; simp at he
  | p :: r, _, h, i, e, he => by
    obtain ⟨e0, es', rfl, h1, h2, h3⟩ := h
    cases i with
    | zero => simp at he; subst he; exact ⟨p.1, p.2, rfl, h1, h2⟩
    | succ i => simp at he ⊢; exact RepEnts.get h3 i e he
theorem RepEnts.erase {F : Nat → Nat → Prop} {w : World} : ∀ {es : List (IV × IV)} {ents : List MapEntry}, RepEnts F w es ents → ∀ i, RepEnts F w (es.eraseIdx i) (ents.eraseIdx i)
  | [], _, h, i => by cases h; simp [RepEnts]
  | p :: r, _, h, i => by
    obtain ⟨e0, es', rfl, h1, h2, h3⟩ := h
    cases i with
    | zero => exact h3
    | succ i => exact ⟨_, _, rfl, h1, h2, RepEnts.erase h3 i⟩
theorem filter_erase {α : Type} (f : α → Nat) : ∀ (l : List α) (i : Nat) (e : α), (l.map f).Nodup → l[i]? = some e → l.filter (fun x => !(f x == f e)) = l.eraseIdx i
  | [], i, e, _, h => by simp at h
  | x :: l, 0, e, hn, h => by
    cases h
    simp only [List.map_cons, List.nodup_cons] at hn
    have : l.filter (fun y => !(f y == f x)) = l := by
      rw [List.filter_eq_self]
      intro y hy
      have : f y ≠ f x := fun e => hn.1 (by rw [← e]; exact List.mem_map_of_mem hy)
      simp [this]
    simp [this]
  | x :: l, i + 1, e, hn, h => by
    simp only [List.getElem?_cons_succ] at h
    simp only [List.map_cons, List.nodup_cons] at hn
    have hne : f x ≠ f e := fun e2 => hn.1 (by rw [e2]; exact List.mem_map_of_mem (List.mem_of_getElem? h))
    have ih := filter_erase f l i e hn.2 h
    rw [List.filter_cons, if_pos (by simp [hne]), ih, List.eraseIdx_cons_succ]

theorem run_next_str {P : Program} (w : World) (s : ByteArray) (b pos : Nat) (ty : TypeId) (hb : w.heap[b]? = some (.stringIter s pos)) (h : pos < s.size) :
    (Instr.next (.pointer (some ⟨b, 0, none⟩)) true ty).run P w = .ok (.tuple #[.bool true, .int .i64 pos, .int .i32 (Utf8.decode s pos).1]) { w with heap := w.heap.setIfInBounds b (.stringIter s (pos + (Utf8.decode s pos).2)) } := by
  simp [Instr.next, getObj, setObj, Sem.run_bind, Sem.run, hb, Result.andThen, h, goInt]
theorem run_next_strEnd {P : Program} (w : World) (s : ByteArray) (b pos : Nat) (ty : TypeId) (hb : w.heap[b]? = some (.stringIter s pos)) (h : s.size ≤ pos) :
    (Instr.next (.pointer (some ⟨b, 0, none⟩)) true ty).run P w = .ok (.tuple #[.bool false]) w := by
  have h' : ¬ pos < s.size := by omega
  simp [Instr.next, getObj, Sem.run_bind, Sem.run, hb, Result.andThen, h']

/-- the range goes on: one of those that are left -/
theorem Sim.nextMap {c : Ctx} {st a w} (h : Sim c st a w) {b m : Nat} {ents : List MapEntry} {clock : Nat} {es left : List (IV × IV)} {cur : Option (IV × IV)} (hb : st.h b = some (.mit m ents clock left cur)) (hm : st.h m = some (.pmap es ents clock)) (ty : TypeId) (d : Option Tmp) :
    (left = [] ∧ (Instr.next (.pointer (some ⟨b, 0, none⟩)) false ty).run c.P w = .ok (.tuple #[.bool false]) w) ∨
    ∃ i k v u w', left[i]? = some (k, v) ∧ (Instr.next (.pointer (some ⟨b, 0, none⟩)) false ty).run c.P w = .ok u w' ∧
      Sim c (({ st with h := upd st.h b (some (.mit m ents clock (left.eraseIdx i) (some (k, v)))) } : St).put d (.tup [.bool true, k, v])) (a.put d u) w' := by
  have hs := h
  obtain ⟨g, hg, hk⟩ := h
  obtain ⟨hX, seen, hbo, hre, _⟩ := hg.hp b _ hb
  obtain ⟨_, hmo, _, hst⟩ := hg.hp m _ hm
  obtain ⟨hborn, hnd, _⟩ := hst
  have hlo : (leftOf ents.toArray seen).toList = ents.filter fun e => !seen.contains e.born := by simp [leftOf]
  rcases run_next_at (P := c.P) w ty b m clock clock seen ents.toArray clock hbo hmo hborn (Nat.le_refl _) with ⟨h0, h1⟩ | ⟨e, he, w1, hw1, h1⟩
  · refine .inl ⟨?_, h1⟩
    have : (ents.filter fun e => !seen.contains e.born) = [] := by
      rw [← hlo]
      apply List.eq_nil_of_length_eq_zero
      simpa using h0
    rw [this] at hre
    cases left with
    | nil => rfl
    | cons p l => obtain ⟨_, _, h2, _⟩ := hre; cases h2
  · rw [hlo] at he
    obtain ⟨i, hi⟩ := List.getElem?_of_mem he
    obtain ⟨k, v, hkv, rk, rv⟩ := hre.get i e hi
    have hmem : e ∈ ents := (List.mem_filter.1 he).1
    have hfil : (ents.filter fun x => !(seen.push e.born).contains x.born) = (ents.filter fun x => !seen.contains x.born).eraseIdx i := by
      have hn2 : ((ents.filter fun x => !seen.contains x.born).map (·.born)).Nodup := by
        have : (ents.map (·.born)).Nodup := by simpa using hnd
        exact this.sublist (List.filter_sublist.map _)
      rw [← filter_erase (·.born) _ i e hn2 hi, List.filter_filter]
      congr 1
      funext x
      simp only [Array.contains_push]
      cases seen.contains x.born <;> simp [Bool.or_comm] <;> rw [Bool.eq_iff_iff] <;> simp [eq_comm]
    have hs1 : Sim c st a w1 := by rcases hw1 with rfl | rfl; exact hs; exact hs.drew
    have hheap1 : w1.heap = w.heap := by rcases hw1 with rfl | rfl <;> rfl
    refine .inr ⟨i, k, v, _, _, hkv, h1, ?_⟩
    refine Sim.setBlk hs1 hb (fun X hx => hx) (.mapIter (some m) clock (seen.push e.born) clock) d (.tup [.bool true, k, v]) _ ?_ ?_
    · intro g' hg'
      obtain ⟨hX', seen', hbo', hre', _⟩ := hg'.hp b _ hb
      rw [hheap1, hbo] at hbo'
      cases hbo'
      have hF' : ∀ o, ¬ g'.F b o := fun o hf => hg'.xf b o hX' hf
      obtain ⟨k', v', hkv', rk', rv'⟩ := hre'.get i e hi
      rw [hkv] at hkv'; cases hkv'
      have hle := FLe.setBlock (w := w1) hF' (.mapIter (some m) clock (seen.push e.born) clock)
      refine ⟨seen.push e.born, ?_, ?_, ?_⟩
      · simp only [Array.getElem?_setIfInBounds, if_true]
        rw [if_pos (by rw [hheap1]; exact (Array.getElem?_eq_some_iff.1 hbo).1)]
      · rw [hfil]
        exact RepEnts.mono hle _ _ (hre'.erase i)
      · intro k2 v2 hc
        cases hc
        exact ⟨e, hmem, by simp, rk'.mono hle, rv'.mono hle⟩
    · intro g' hg'
      obtain ⟨hX', seen', hbo', hre', _⟩ := hg'.hp b _ hb
      rw [hheap1, hbo] at hbo'
      cases hbo'
      have hF' : ∀ o, ¬ g'.F b o := fun o hf => hg'.xf b o hX' hf
      obtain ⟨k', v', hkv', rk', rv'⟩ := hre'.get i e hi
      rw [hkv] at hkv'; cases hkv'
      have hle := FLe.setBlock (w := w1) hF' (.mapIter (some m) clock (seen.push e.born) clock)
      exact ⟨_, rfl, _, _, rfl, rfl, _, _, rfl, rk'.mono hle, _, _, rfl, rv'.mono hle, rfl⟩

theorem Sim.entMap {c : Ctx} {st a w} (h : Sim c st a w) {b m : Nat} {ents : List MapEntry} {clock : Nat} {es left : List (IV × IV)} {k v : IV} (hb : st.h b = some (.mit m ents clock left (some (k, v)))) (hm : st.h m = some (.pmap es ents clock)) (d : Option Tmp) :
    ∃ u, (Instr.entry (.pointer (some ⟨b, 0, none⟩))).run c.P w = .ok u w ∧ Sim c (st.put d (.tup [k, v])) (a.put d u) w := by
  obtain ⟨g, hg, hk⟩ := h
  obtain ⟨hX, seen, hbo, hre, hcur⟩ := hg.hp b _ hb
  obtain ⟨_, hmo, _, hst⟩ := hg.hp m _ hm
  obtain ⟨hborn, hnd, _⟩ := hst
  obtain ⟨e, he, hback, rk, rv⟩ := hcur k v rfl
  obtain ⟨ys, hp⟩ := Array.back?_eq_some_iff.1 hback
  rw [hp] at hbo
  exact ⟨_, run_entry_at (P := c.P) w b m clock ys ents.toArray clock e hbo hmo (by simpa using he) hnd, g, hg.put d (Rep.lrep (x := .tup [k, v]) ⟨_, rfl, _, _, rfl, rk, _, _, rfl, rv, rfl⟩), hk⟩

/-- a new row that bears the run-time's mark -/
theorem Sim.newRowF {c : Ctx} {st a w} (h : Sim c st a w) (d : Option Tmp) (rows : List (List IV)) (vals post : List Value) (cap : Nat) (e : TypeId) (fz : Nat × Nat) (hcap : rows.length ≤ cap) (hm : cap ≤ maxLen)
    (hl : ∀ g, Core c.P c.N c.w0.heap.size c.ds g st a w → RepAll g.F w rows.flatten vals) (hone : ∀ v ∈ vals, v.oneCell' = true) :
    Sim c (st.put d (.list .plain rows)) (a.put d (.slice (some ⟨w.heap.size, 0, none⟩) rows.length cap)) (w.alloc (.cells (vals ++ post).toArray e fz)) := by
  obtain ⟨g, h, hk⟩ := h
  have hl := hl g h
  refine ⟨{ g with F := fun b o => g.F b o ∨ (b = w.heap.size ∧ o < vals.length) }, ?_, ?_⟩
  · have hle : GLe g st w { g with F := fun b o => g.F b o ∨ (b = w.heap.size ∧ o < vals.length) } st (w.alloc (.cells (vals ++ post).toArray e fz)) :=
      ⟨FLe.alloc h.fb _ _ (fun _ _ h => .inl h), fun s gg cs1 hs => ⟨gg, cs1, hs, .inr ⟨rfl, rfl⟩⟩, fun s gg n e hs => ⟨gg, n, e, hs, .inr ⟨rfl, .inl ⟨rfl, rfl⟩⟩⟩⟩
    refine h.step d rfl hle ?_ ?_ ?_ ?_ ?_ ?_ h.ld ?_ h.rds
    · refine ⟨some ⟨w.heap.size, 0, none⟩, cap, vals, rfl, hcap, hm, (fun _ _ h => nomatch h), (fun h => nomatch h), fun _ => rfl, ?_, RepRows.unflat (RepAll.mono hle.F _ _ hl)⟩
      intro j v hj
      have hjl := (List.getElem?_eq_some_iff.1 hj).1
      refine ⟨.inr ⟨rfl, by simpa using hjl⟩, ?_, hone v (List.mem_of_getElem? hj)⟩
      rw [cell_at (heap_alloc_last w _)]
      simp only [Nat.zero_add, List.getElem?_toArray]
      rw [List.getElem?_append_left hjl]; exact hj
    · intro b o hb
      obtain ⟨h1, h2⟩ := h.hp b o hb
      exact ⟨h1, h2.mono hle.F (heap_alloc_lt w _ (h.blt hb))⟩
    · intro b o hb hf
      rcases hf with hf | ⟨hf, _⟩
      · exact h.xf b o hb hf
      · subst hf; have := h.xb _ hb; omega
    · intro b hb; have := h.xb b hb; simp; omega
    · intro b o hb
      rcases hb with hb | ⟨hb, _⟩
      · have := h.fb b o hb; simp; omega
      · subst hb; simp
    · intro s gg cs1 hs
      obtain ⟨_, hx, hf, _⟩ := h.lc s gg cs1 hs
      have hlt := h.lb_lt hs
      exact h.lc_keep hle hs rfl hx (fun o hf' => hf'.elim (hf o) (fun e => by omega)) (heap_alloc_lt w _ hlt)
    · intro s gg n e1 hs
      obtain ⟨z, xs, h1, h2, h3, h4⟩ := h.rws s gg n e1 hs
      refine ⟨z, xs, h1, h2, ownsRow_same h3 (fun blk hb => heap_alloc_lt w _ (ownsRow_lt h3 hb).2), fun blk hb => ?_⟩
      obtain ⟨h5, h6, h7⟩ := h4 blk hb
      exact ⟨h5, fun o hf => hf.elim (h6 o) (fun e => by have := (ownsRow_lt h3 hb).2; omega), h7⟩
  · have h1 := hk.alloc h.fb (.cells (vals ++ post).toArray e fz)
    exact ⟨h1.sz, h1.os, h1.tape, h1.out, fun b o hb => .inl (h1.fm b o hb), h1.fc, h1.ub, h1.xn, fun b o hb => hb.elim (h1.fn b o) (fun e => .inr (.inl (by have := hk.sz; omega)))⟩

theorem Sim.strBytes {c : Ctx} {st a w} (h : Sim c st a w) (d : Option Tmp) {s t e : TypeId} (v : ByteArray) (hs : c.P.underlying s = some .string) (ht : c.P.underlying t = some (.slice e)) (he : c.P.underlying e = some (.int .u8)) (hb : v.size ≤ 1000000000) :
    ∃ u w', (convert s t (.string v)).run c.P w = .ok u w' ∧ Sim c (st.put d (.list .plain (strRows v))) (a.put d u) w' := by
  refine ⟨_, _, run_bytes_of_string (P := c.P) w s t e v hs ht he, ?_⟩
  have hge := grownCap_ge w v.size 0 e
  have hgm : grownCap w v.size 0 e ≤ maxLen := grownCap_le_maxLen w v.size 0 e (by simp only [maxLen]; omega)
  have hbr : bytesRow v (grownCap w v.size 0 e) = (strVals v ++ List.replicate (grownCap w v.size 0 e - v.size) (Value.int .u8 0)).toArray := by
    apply Array.ext'; simp [bytesRow, strVals]
  have := Sim.newRowF h.drew d (strRows v) (strVals v) (List.replicate (grownCap w v.size 0 e - v.size) (.int .u8 0)) (grownCap w v.size 0 e) e ((bytesRow v (grownCap w v.size 0 e)).size, (bytesRow v (grownCap w v.size 0 e)).size + 1) (by rw [strRows_len]; exact hge) hgm (fun g _ => strRows_rep v) (strVals_one v)
  rw [strRows_len, ← hbr] at this
  exact this

theorem run_append_strRoom {P : Program} (w : World) (t u ty e : TypeId) (i : TypeInfo) (ht : P.underlying t = some (.slice e)) (hu : P.underlying u = some .string) (hi : P.info? e = some i) (h1 : i.size = 1)
    (g sLen sCap : Nat) (cur : Array Value) (hg : w.heap[g]? = some (.cells cur e (0, 0))) (s : ByteArray) (hroom : sLen + s.size ≤ sCap) (hfit : sLen + s.size ≤ cur.size) :
    (Builtin.append_ #[t, u] ty #[.slice (some ⟨g, 0, none⟩) sLen sCap, .string s]).run P w =
      .ok (.slice (some ⟨g, 0, none⟩) (sLen + s.size) sCap) (w.setRow g (cur.toList.take sLen ++ strVals s ++ cur.toList.drop (sLen + s.size)).toArray) := by
  have hf := run_firstCells_str (P := P) w s s.size rfl
  have hst := run_storeCells_at P g sLen e (strVals s) 0 cur w hg (by rw [strVals_len]; simpa using hfit) (strVals_one s)
  simp only [Nat.add_zero, strVals_len] at hst
  simp [Builtin.append_, run_underlying ht, run_underlying hu, sizeOf, typeInfo, hi, h1, Builtin.lenOf, hroom, hf, Addr.add_lit, hst]
theorem run_append_strGrow {P : Program} (w : World) (t u ty e : TypeId) (i : TypeInfo) (z : Value) (ht : P.underlying t = some (.slice e)) (hu : P.underlying u = some .string) (hi : P.info? e = some i) (hz : i.zero = some z) (h1 : i.size = 1)
    (b : Option Addr) (sLen sCap : Nat) (olds : List Value) (hlo : olds.length = sLen) (hb : match b with | none => olds = [] | some b => ∀ j v, olds[j]? = some v → w.cell? (b.add j) = some v) (s : ByteArray)
    (hg : sCap < sLen + s.size) (h63 : ((sLen + s.size : Nat) : Int) ≤ 9223372036854775807) (hfit : Builtin.nextslicecap (sLen + s.size) sCap * i.bytes ≤ 281474976710656) :
    (Builtin.append_ #[t, u] ty #[.slice b sLen sCap, .string s]).run P w =
      .ok (.slice (some ⟨w.heap.size, 0, none⟩) (sLen + s.size) (grownCap w (sLen + s.size) sCap e))
        (w.drew.alloc (.cells (olds ++ strVals s ++ (Builtin.zeroCells z.cells (grownCap w (sLen + s.size) sCap e - (sLen + s.size))).toList).toArray e)) := by
  have hn : ¬ (sLen + s.size ≤ sCap) := by omega
  have h63' : ¬ (9223372036854775807 < ((sLen : Int) + (s.size : Int))) := by omega
  have h48' : ¬ (281474976710656 < Builtin.nextslicecap (sLen + s.size) sCap * i.bytes) := by omega
  have hf := run_firstCells_str (P := P) w.drew s s.size rfl
  have hfo : (Builtin.firstCells 1 sLen (.slice b sLen sCap)).run P w.drew = .ok olds.toArray w.drew := by
    cases b with
    | none => simp only at hb; subst hb; exact run_firstCells_none (P := P) (w := w.drew) 1 sLen sLen sCap
    | some b => exact run_firstCells_some (P := P) w.drew 1 sLen b sLen sCap olds (by omega) (by simpa using hb)
  simp [Builtin.append_, run_underlying ht, run_underlying hu, sizeOf, typeInfo, zeroValue, hi, hz, h1, Builtin.lenOf, hn, h63', h48', Question.forced, hf, hfo, newRow, grownCap]
  congr 2
  apply Array.ext'
  simp [List.append_assoc]

theorem Sim.appendArrS {c : Ctx} {st a w} (h : Sim c st a w) (d : Option Tmp) (t t' ty e : TypeId) {b n cap : Nat} {rows : List (List IV)} (s : ByteArray) {vx : Value} (he : elT c.P t = some e) (hzz : elZ c.P e = some 1) (hu : c.P.underlying t' = some .string)
    (hx : vx = .slice (some ⟨b, 0, none⟩) n cap) (hb : st.h b = some (.arr e 1 rows cap)) (hn : n = rows.length) (hcm : cap ≤ maxLen) (hcap : n ≤ cap) (hroom : roomy c.P e (rows.length + s.size)) :
    ∃ vr w', (Builtin.append_ #[t, t'] ty #[vx, .string s]).run c.P w = .ok vr w' ∧
      ((n + s.size ≤ cap ∧ Sim c (({ st with h := upd st.h b (some (.arr e 1 (rows ++ strRows s) cap)) } : St).put d (.sl 1 b 0 (n + s.size) cap)) (a.put d vr) w') ∨
       (cap < n + s.size ∧ ∃ b' cap', st.h b' = none ∧ n + s.size ≤ cap' ∧ Sim c (({ st with h := upd st.h b' (some (.arr e 1 (rows ++ strRows s) cap')) } : St).put d (.sl 1 b' 0 (n + s.size) cap')) (a.put d vr) w')) := by
  obtain ⟨g, h, hk⟩ := h
  obtain ⟨hz, hz0, zv, hzv, hzs⟩ := elZ_eq hzz
  obtain ⟨inf, hinf, hsz⟩ := szT_eq hz
  have ht := elT_eq he
  have hzero : inf.zero = some zv := by simpa [zeT, hinf] using hzv
  have hbyt : byT c.P e = inf.bytes := by simp [byT, hinf]
  obtain ⟨hr1, hr2⟩ := hroom
  rw [hbyt] at hr1
  obtain ⟨hX, pre, post, hheap, hl, huni, htot, _, hone⟩ := h.hp b _ hb
  have hll := hl.length
  rw [uni_flat_all huni, Nat.mul_one] at hll
  subst hx
  have hsl := strVals_len s
  by_cases hfit : n + s.size ≤ cap
  · have hrun := run_append_strRoom (P := c.P) w t t' ty e inf ht hu hinf hsz b n cap (pre ++ post).toArray hheap s hfit (by simp only [List.size_toArray]; omega)
    simp only [List.toList_toArray] at hrun
    rw [show (pre ++ post).take n = pre from by rw [hn, ← hll]; exact List.take_left, show (pre ++ post).drop (n + s.size) = post.drop s.size from by rw [hn, ← hll]; exact List.drop_length_add_append _] at hrun
    refine ⟨_, _, hrun, .inl ⟨hfit, ?_⟩⟩
    refine Sim.setArr h hk hb (rows ++ strRows s) (pre ++ strVals s) (post.drop s.size) (by simpa using hl.append (strRows_rep s)) (by rw [uni_append, uni_strRows, Bool.and_true]; exact huni) ?_ ?_ d _ _ fun _ _ => ⟨by simp, hfit, hcm⟩
    · simp at htot ⊢; omega
    · intro u hu'
      exact (List.mem_append.1 hu').elim (hone u) (strVals_one s u)
  · have holds : ∀ j u, pre[j]? = some u → w.cell? ((⟨b, 0, none⟩ : Addr).add j) = some u := fun j u hj => by
      rw [addr_add, cell_at hheap, Nat.zero_add]
      have := (List.getElem?_eq_some_iff.1 hj).1
      simp only [List.getElem?_toArray]
      rw [List.getElem?_append_left this]; exact hj
    have hrun := run_append_strGrow (P := c.P) w t t' ty e inf zv ht hu hinf hzero hsz (some ⟨b, 0, none⟩) n cap pre (by omega) holds s (by omega) (by omega) (growslice_fits (by omega) (by rw [hn]; exact hr1))
    have hge := grownCap_ge w (n + s.size) cap e
    have hgm : grownCap w (n + s.size) cap e ≤ maxLen := grownCap_le_maxLen w (n + s.size) cap e (by simp only [maxLen]; omega)
    have hF := FLe.drew g.F w
    obtain ⟨b', hb', hsim⟩ := Sim.newArr h.drew hk.drew d e 1 (by omega) (rows ++ strRows s) (by rw [uni_append, uni_strRows, Bool.and_true]; exact huni) (grownCap w (n + s.size) cap e) (by simp [strRows_len]; omega) hgm (pre ++ strVals s) (Builtin.zeroCells zv.cells (grownCap w (n + s.size) cap e - (n + s.size))).toList
      (by simpa using (RepAll.mono hF _ _ hl).append (strRows_rep s))
      (fun u hu' => (List.mem_append.1 hu').elim (hone u) (strVals_one s u)) (by simp only [List.length_append, Array.length_toList, size_zeroCells, hzs, hsl]; omega)
    have e2 : (rows ++ strRows s).length = n + s.size := by simp [hn, strRows_len]
    rw [e2] at hsim
    exact ⟨_, _, hrun, .inr ⟨by omega, b', grownCap w (n + s.size) cap e, hb', hge, hsim⟩⟩

theorem Sim.appendNewS {c : Ctx} {st a w} (h : Sim c st a w) (d : Option Tmp) (t t' ty e : TypeId) {rows : List (List IV)} (s : ByteArray) {vx : Value} (he : elT c.P t = some e) (hzz : elZ c.P e = some 1) (hu : c.P.underlying t' = some .string)
    (hx : ∀ g, Core c.P c.N c.w0.heap.size c.ds g st a w → LRep g st w (.list .tight rows) vx) (hroom : roomy c.P e (rows.length + s.size)) (hu1 : uni 1 rows = true) :
    ∃ vr w', (Builtin.append_ #[t, t'] ty #[vx, .string s]).run c.P w = .ok vr w' ∧
      ((s.size = 0 ∧ Sim c (st.put d (.list .tight rows)) (a.put d vr) w') ∨
       (0 < s.size ∧ ∃ b' cap', st.h b' = none ∧ rows.length + s.size ≤ cap' ∧ Sim c (({ st with h := upd st.h b' (some (.arr e 1 (rows ++ strRows s) cap')) } : St).put d (.sl 1 b' 0 (rows.length + s.size) cap')) (a.put d vr) w')) := by
  obtain ⟨g, h, hk⟩ := h
  obtain ⟨hz, hz0, zv, hzv, hzs⟩ := elZ_eq hzz
  obtain ⟨inf, hinf, hsz⟩ := szT_eq hz
  have ht := elT_eq he
  have hzero : inf.zero = some zv := by simpa [zeT, hinf] using hzv
  have hbyt : byT c.P e = inf.bytes := by simp [byT, hinf]
  obtain ⟨hr1, hr2⟩ := hroom
  rw [hbyt] at hr1
  have hx0 := hx g h
  obtain ⟨A, cap, vals, rfl, hcap, hcm, htt, hA⟩ := (hx g h).listOf
  have hcapeq := htt rfl
  have hsl := strVals_len s
  by_cases h0 : s.size = 0
  · refine ⟨_, w, ?_, .inl ⟨h0, g, h.put d hx0, hk⟩⟩
    have hf := run_firstCells_str (P := c.P) w s s.size rfl
    have hsv : strVals s = [] := List.eq_nil_of_length_eq_zero (by omega)
    rw [h0, hsv] at hf
    cases A <;> simp [Builtin.append_, run_underlying ht, run_underlying hu, sizeOf, typeInfo, hinf, hsz, Builtin.lenOf, h0, hcapeq, hf, storeCells, Sem.run_bind]
  · have hgo : ∀ (b : Option Addr) (olds : List Value), A = b → olds.length = rows.length → (match b with | none => olds = [] | some b => ∀ j v, olds[j]? = some v → w.cell? (b.add j) = some v) → RepAll g.F w rows.flatten olds → (∀ u ∈ olds, u.oneCell' = true) →
        ∃ vr w', (Builtin.append_ #[t, t'] ty #[.slice A rows.length cap, .string s]).run c.P w = .ok vr w' ∧ ∃ b' cap', st.h b' = none ∧ rows.length + s.size ≤ cap' ∧ Sim c (({ st with h := upd st.h b' (some (.arr e 1 (rows ++ strRows s) cap')) } : St).put d (.sl 1 b' 0 (rows.length + s.size) cap')) (a.put d vr) w' := by
      intro b olds hbA hlo hb hro hone
      subst hbA
      have hrun := run_append_strGrow (P := c.P) w t t' ty e inf zv ht hu hinf hzero hsz A rows.length cap olds hlo hb s (by omega) (by omega) (growslice_fits (by omega) hr1)
      have hge := grownCap_ge w (rows.length + s.size) cap e
      have hgm : grownCap w (rows.length + s.size) cap e ≤ maxLen := grownCap_le_maxLen w (rows.length + s.size) cap e (by simp only [maxLen]; omega)
      have hF := FLe.drew g.F w
      obtain ⟨b', hb', hsim⟩ := Sim.newArr h.drew hk.drew d e 1 (by omega) (rows ++ strRows s) (by rw [uni_append, uni_strRows, Bool.and_true]; exact hu1) (grownCap w (rows.length + s.size) cap e) (by simp [strRows_len]; omega) hgm (olds ++ strVals s) (Builtin.zeroCells zv.cells (grownCap w (rows.length + s.size) cap e - (rows.length + s.size))).toList
        (by simpa using (RepAll.mono hF _ _ hro).append (strRows_rep s))
        (fun u hu' => (List.mem_append.1 hu').elim (hone u) (strVals_one s u)) (by simp only [List.length_append, Array.length_toList, size_zeroCells, hzs, hsl]; omega)
      have e2 : (rows ++ strRows s).length = rows.length + s.size := by simp [strRows_len]
      rw [e2] at hsim
      exact ⟨_, _, hrun, b', _, hb', hge, hsim⟩
    cases A with
    | none =>
      simp only at hA
      have hr0 : rows = [] := List.eq_nil_of_length_eq_zero (by omega)
      obtain ⟨vr, w', q1, q2⟩ := hgo none [] rfl (by rw [hr0]; rfl) rfl (by rw [hr0]; rfl) (fun u hu => nomatch hu)
      exact ⟨vr, w', q1, .inr ⟨by omega, q2⟩⟩
    | some a1 =>
      obtain ⟨b1, o1, sp1⟩ := a1
      simp only at hA
      obtain ⟨hsp1, hf1, hrep1⟩ := hA
      obtain rfl : sp1 = none := hsp1 (by simp)
      obtain ⟨vr, w', q1, q2⟩ := hgo (some ⟨b1, o1, none⟩) vals rfl (by rw [hrep1.flat.length, uni_flat_all hu1, Nat.mul_one]) (fun j u hj => by rw [addr_add]; exact (hf1 j u hj).2.1) hrep1.flat (fun u hu => by obtain ⟨j, hj⟩ := List.mem_iff_getElem?.1 hu; exact (hf1 j u hj).2.2)
      exact ⟨vr, w', q1, .inr ⟨by omega, q2⟩⟩

/-- the bytes of an array, as a string: the array is nobody's any more -/
theorem Sim.bytesStr {c : Ctx} {st a w} (h : Sim c st a w) (d : Option Tmp) (t it ty e : TypeId) {b tot n : Nat} {rows : List (List IV)} (s : ByteArray) (ht : c.P.underlying t = some (.pointer e)) (hzz : elZ c.P e = some 1)
    (hb : st.h b = some (.arr e 1 rows tot)) (h0 : 0 < n) (hn : n ≤ rows.length) (hn63 : n ≤ 9223372036854775807) (hr : rows.take n = strRows s) :
    ∃ u w', (Builtin.unsafeString_ #[t, it] ty #[.pointer (some ⟨b, 0, none⟩), .int .i64 n]).run c.P w = .ok u w' ∧ Sim c (({ st with h := fun j => if j = b then none else st.h j } : St).put d (.str s)) (a.put d u) w' := by
  have hs := h
  obtain ⟨g, hg, hk⟩ := h
  obtain ⟨hz, hz0, zv, hzv, hzs⟩ := elZ_eq hzz
  obtain ⟨inf, hinf, hsz⟩ := szT_eq hz
  obtain ⟨hX, pre, post, hheap, hl, huni, htot, _, hone⟩ := hg.hp b _ hb
  have hll := hl.length
  rw [uni_flat_all huni, Nat.mul_one] at hll
  have hsn : s.size = n := by rw [← strRows_len, ← hr, List.length_take]; omega
  have hpre : RepAll g.F w (strRows s).flatten (pre.take n) := by
    have := (RepRows.sub huni (RepRows.unflat hl) 0 n (Nat.zero_le _) hn).flat
    simpa [hr] using this
  have hpv : ∀ (l : List UInt8) (vs : List Value), RepAll g.F w (l.map fun c => [IV.int .u8 c.toNat]).flatten vs → vs = l.map fun c => Value.int .u8 c.toNat := by
    intro l
    induction l with
    | nil => intro vs h; exact h
    | cons c l ih => intro vs h; obtain ⟨v, vs', rfl, h1, h2⟩ := h; cases h1; rw [ih vs' h2]; rfl
  have hpv := hpv s.data.toList _ hpre
  have hsl : s.data.toList.length = n := by simpa using hsn
  have hrun := Lib.run_unsafeString_row (P := c.P) (w := w) t it ty e ht (by simp [Program.cellsOf, hinf, hsz]) b (pre ++ post).length (by simp [World.shape?, hheap]) s.data.toList (by intro e; rw [e] at hsl; simp at hsl; omega) (by simp; omega) (by omega)
    (fun j x hj => by
      rw [addr_add, cell_at hheap, Nat.zero_add]
      have hj1 := (List.getElem?_eq_some_iff.1 hj).1
      simp only [List.getElem?_toArray]
      rw [List.getElem?_append_left (by omega)]
      have : (pre.take n)[j]? = some (.int .u8 x.toNat) := by rw [hpv, List.getElem?_map, hj]; rfl
      rw [List.getElem?_take] at this
      split at this
      · exact this
      · cases this)
  rw [hsl] at hrun
  have hse : (⟨s.data.toList.toArray⟩ : ByteArray) = s := by cases s; simp
  rw [hse] at hrun
  refine ⟨_, _, hrun, ?_⟩
  have hfz : w.freeze ⟨b, 0, none⟩ n = { w with heap := w.heap.setIfInBounds b (.cells (pre ++ post).toArray e (0, n)) } := by
    unfold World.freeze
    rw [if_neg (by omega)]
    congr 1
    apply Array.ext'
    apply List.ext_getElem?
    intro j
    have hlt := (Array.getElem?_eq_some_iff.1 hheap).1
    simp only [Array.getElem?_toList, Array.getElem?_modify, Array.getElem?_setIfInBounds]
    by_cases e : b = j
    · subst e
      rw [hheap]
      simp [hlt]
    · simp [e]
  rw [hfz]
  exact Sim.dropBlk hs hb (fun X hx => hx) _ d (.str s) (.string s) (fun _ _ => rfl)

/-- the array that a struct's cell names becomes a list -/
theorem Sim.frzCell {c : Ctx} {st a w} (h : Sim c st a w) (d : Option Tmp) {k o z b off n cap tot : Nat} {cs : List IV} {e : TypeId} {rows : List (List IV)} {v : Value} (ho : st.h o = some (.cells cs)) (hc : cs[k]? = some (.sl z b off n cap)) (hb : st.h b = some (.arr e z rows tot)) (hn : off + n ≤ rows.length)
    (hv : v = .pointer (some ⟨o, 0, none⟩)) :
    Sim c (({ st with h := upd (fun j => if j = b then none else st.h j) o (some (.cells (cs.set k (.list .plain ((rows.drop off).take n))))) } : St).put d (.ptr o 0)) (a.put d v) w := by
  have hbo : o ≠ b := by rintro rfl; rw [ho] at hb; cases hb
  have hrep : ∃ u, ∀ g, Core c.P c.N c.w0.heap.size c.ds g st a w → ∃ pre, (∃ post e, w.heap[o]? = some (.cells (pre ++ post).toArray e (0, 0)) ∧ RepAll g.F w cs pre ∧ ∀ v ∈ pre ++ post, v.oneCell' = true) ∧ pre[k]? = some u := by
    obtain ⟨g, hg, _⟩ := h
    obtain ⟨_, pre, post, e0, h1, h2, h3⟩ := hg.hp o _ ho
    obtain ⟨u, hu, _⟩ := h2.get k _ hc
    refine ⟨u, fun g' hg' => ?_⟩
    obtain ⟨_, pre', post', e', k1, k2, k3⟩ := hg'.hp o _ ho
    have hl1 := h2.length
    have hl2 := k2.length
    have : pre' = pre := by
      rw [h1] at k1
      simp only [Option.some.injEq, Obj.cells.injEq] at k1
      have := congrArg Array.toList k1.1
      simp only [List.toList_toArray] at this
      exact (List.append_inj_left this (by omega)).symm
    subst this
    exact ⟨pre', ⟨post', e', k1, k2, k3⟩, hu⟩
  have hfz := fun u hu => h.freeze (z := z) (off := off) (n := n) (cap := cap) (v := u) none hb hn hu
  obtain ⟨u, hrep⟩ := hrep
  have hu : u = .slice (some ⟨b, off * z, none⟩) n cap ∧ n ≤ cap ∧ cap ≤ maxLen := by
    obtain ⟨g, hg, _⟩ := h
    obtain ⟨pre, ⟨post, e0, h1, h2, h3⟩, h4⟩ := hrep g hg
    obtain ⟨u', hu', hr⟩ := h2.get k _ hc
    rw [h4] at hu'; cases hu'
    exact hr
  obtain ⟨g, hg, hk⟩ := h
  obtain ⟨hXo, pre0, post0, e0, q1, q2, q3⟩ := hg.hp o _ ho
  obtain ⟨hX, pre, post, hheap, hl, huni, htot, hz0, hone⟩ := hg.hp b _ hb
  have hF : ∀ o, ¬ g.F b o := fun o hf => hg.xf b o hX hf
  obtain ⟨u2, hu2, hr2⟩ := q2.get k _ hc
  have hle : FLe g.F w (fun j o => g.F j o ∨ (j = b ∧ o < pre.length)) w := ⟨fun _ _ h => .inl h, fun _ _ _ => rfl⟩
  have hcell : Rep (fun j o => g.F j o ∨ (j = b ∧ o < pre.length)) w (.list .plain ((rows.drop off).take n)) u2 := by
    obtain ⟨rfl, hncap, hcm⟩ := hr2
    have hlen : ((rows.drop off).take n).length = n := by simp; omega
    have hsub : RepRows g.F w ((rows.take (off + n)).drop off) ((pre.drop (off * z)).take ((off + n - off) * z)) := RepRows.sub huni (RepRows.unflat hl) off (off + n) (by omega) hn
    refine ⟨some ⟨b, off * z, none⟩, cap, (pre.drop (off * z)).take (n * z), by rw [hlen], by rw [hlen]; exact hncap, hcm, (fun _ _ h => nomatch h), (fun h => nomatch h), fun _ => rfl, ?_, ?_⟩
    · intro j u hj
      rw [List.getElem?_take] at hj
      split at hj
      · rw [List.getElem?_drop] at hj
        have hlt := (List.getElem?_eq_some_iff.1 hj).1
        refine ⟨.inr ⟨rfl, hlt⟩, ?_, hone u (List.mem_of_getElem? hj)⟩
        rw [cell_at hheap]
        simp only [List.getElem?_toArray]
        rw [List.getElem?_append_left hlt]; exact hj
      · cases hj
    · rw [show off + n - off = n by omega] at hsub
      have := RepRows.mono hle _ _ hsub
      rw [List.drop_take, show off + n - off = n by omega] at this
      exact this
  have hset : ∀ (cs : List IV) (vs : List Value) (k : Nat) (x : IV) (u : Value), RepAll (fun j o => g.F j o ∨ (j = b ∧ o < pre.length)) w cs vs → vs[k]? = some u → Rep (fun j o => g.F j o ∨ (j = b ∧ o < pre.length)) w x u → RepAll (fun j o => g.F j o ∨ (j = b ∧ o < pre.length)) w (cs.set k x) vs := by
    intro cs
    induction cs with
    | nil => intro vs k x u h _ _; exact h
    | cons y ys ih =>
      intro vs k x u h hk hx
      obtain ⟨v, vs', rfl, h1, h2⟩ := h
      cases k with
      | zero => simp at hk; subst hk; exact ⟨_, _, rfl, hx, h2⟩
      | succ k => simp at hk; exact ⟨_, _, rfl, h1, ih vs' k x u h2 hk hx⟩
  obtain ⟨gs, hcore, hkeep⟩ := hfz _ hu
  have hsz : ∀ (x : Nat), (upd (fun j => if j = b then none else st.h j) o (some (.cells (cs.set k (.list .plain ((rows.drop off).take n)))))) x = if x = o then some (.cells (cs.set k (.list .plain ((rows.drop off).take n)))) else if x = b then none else st.h x := fun x => rfl
  refine ⟨{ g with X := fun j => g.X j ∧ j ≠ b, F := fun j o => g.F j o ∨ (j = b ∧ o < pre.length) }, ?_, ?_⟩
  · have hle2 : GLe g st w { g with X := fun j => g.X j ∧ j ≠ b, F := fun j o => g.F j o ∨ (j = b ∧ o < pre.length) } { st with h := upd (fun j => if j = b then none else st.h j) o (some (.cells (cs.set k (.list .plain ((rows.drop off).take n))))) } w :=
      ⟨hle, fun s gg cs1 hs => ⟨gg, cs1, hs, .inr ⟨rfl, rfl⟩⟩, fun s gg n e hs => ⟨gg, n, e, hs, .inr ⟨rfl, .inl ⟨rfl, rfl⟩⟩⟩⟩
    refine hg.step d rfl hle2 (Rep.lrep (x := .ptr o 0) hv) ?_ ?_ ?_ ?_ ?_ hg.ld ?_ hg.rds
    · intro b' o' hb'
      have hb2 : (if b' = o then some (IObj.cells (cs.set k (.list .plain ((rows.drop off).take n)))) else if b' = b then none else st.h b') = some o' := (hsz b').symm.trans hb'
      by_cases e1 : b' = o
      · rw [if_pos e1] at hb2
        cases hb2
        rw [e1]
        exact ⟨XOk.of ⟨hXo, hbo⟩, pre0, post0, e0, q1, hset _ _ _ _ _ (RepAll.mono hle _ _ q2) hu2 hcell, q3⟩
      · rw [if_neg e1] at hb2
        by_cases e2 : b' = b
        · rw [if_pos e2] at hb2; cases hb2
        · rw [if_neg e2] at hb2
          obtain ⟨h1, h2⟩ := hg.hp b' o' hb2
          exact ⟨h1.mono fun h => ⟨h, e2⟩, h2.mono hle rfl⟩
    · intro b' o' hb' hf
      rcases hf with hf | ⟨hf, _⟩
      · exact hg.xf b' o' hb'.1 hf
      · exact hb'.2 hf
    · intro b' hb'; exact hg.xb b' hb'.1
    · intro b' o' hb'
      rcases hb' with hb' | ⟨hb', _⟩
      · exact hg.fb b' o' hb'
      · subst hb'; exact hg.xb _ hX
    · intro s gg cs1 hs
      obtain ⟨_, hx, hf, _⟩ := hg.lc s gg cs1 hs
      exact hg.lc_keep hle2 hs rfl (fun hx' => hx hx'.1) (fun o hf' => hf'.elim (hf o) (fun e => hx (e.1 ▸ hX))) rfl
    · intro s gg n1 e1 hs
      obtain ⟨z1, xs, h1, h2, h3, h4⟩ := hg.rws s gg n1 e1 hs
      refine ⟨z1, xs, h1, h2, h3, fun blk hb1 => ?_⟩
      obtain ⟨h5, h6, h7⟩ := h4 blk hb1
      exact ⟨fun hx => h5 hx.1, fun o hf => hf.elim (h6 o) (fun e => absurd (e.1 ▸ hX) h5), h7⟩
  · exact ⟨hk.sz, hk.os, hk.tape, hk.out, fun b' o hb' => .inl (hk.fm b' o hb'), hk.fc, hk.ub, fun b' hb' => hk.xn b' hb'.1, fun b' o hb' => hb'.elim (hk.fn b' o) (fun e => by
      rcases hk.xn b hX with h1 | h1
      · exact .inr (.inr (e.1 ▸ h1))
      · exact .inr (.inl (e.1 ▸ h1)))⟩

/-- an array that nobody writes any more, and that bears the run-time's mark -/
theorem Sim.frzMark {c : Ctx} {st a w} (h : Sim c st a w) (d : Option Tmp) {z b off n cap tot : Nat} {e : TypeId} {rows : List (List IV)} {v : Value} (hb : st.h b = some (.arr e z rows tot)) (hn : off + n ≤ rows.length)
    (hv : v = .slice (some ⟨b, off * z, none⟩) n cap ∧ n ≤ cap ∧ cap ≤ maxLen) :
    ∃ cs fz, w.heap[b]? = some (.cells cs e (0, 0)) ∧ fz = cs.size ∧ Sim c (({ st with h := fun j => if j = b then none else st.h j } : St).put d (.list .plain ((rows.drop off).take n))) (a.put d v) { w with heap := w.heap.setIfInBounds b (.cells cs e (fz, fz + 1)) } := by
  obtain ⟨g, h, hk⟩ := h
  obtain ⟨hX, pre, post, hheap, hl, hu, htot, hz0, hone⟩ := h.hp b _ hb
  obtain ⟨rfl, hncap, hcm⟩ := hv
  have hF : ∀ o, ¬ g.F b o := fun o hf => h.xf b o hX hf
  refine ⟨(pre ++ post).toArray, _, hheap, rfl, ?_⟩
  obtain ⟨W, hW⟩ : ∃ W, ({ w with heap := w.heap.setIfInBounds b (.cells (pre ++ post).toArray e ((pre ++ post).toArray.size, (pre ++ post).toArray.size + 1)) } : World) = W := ⟨_, rfl⟩
  have hlt : b < w.heap.size := (Array.getElem?_eq_some_iff.1 hheap).1
  have hsame : ∀ j, j ≠ b → W.heap[j]? = w.heap[j]? := fun j hj => by rw [← hW]; exact heap_block_other w b j _ hj
  have hWb : W.heap[b]? = some (.cells (pre ++ post).toArray e ((pre ++ post).toArray.size, (pre ++ post).toArray.size + 1)) := by rw [← hW]; simp [hlt]
  have hcell : ∀ j o, W.cell? ⟨j, o, none⟩ = w.cell? ⟨j, o, none⟩ := fun j o => by
    by_cases e1 : j = b
    · subst e1; rw [cell_at hWb, cell_at hheap]
    · simp [World.cell?, hsame j e1]
  have hsz : W.heap.size = w.heap.size := by rw [← hW]; simp
  rw [hW]
  refine ⟨{ g with X := fun j => g.X j ∧ j ≠ b, F := fun j o => g.F j o ∨ (j = b ∧ o < pre.length) }, ?_, ?_⟩
  · have hle : GLe g st w { g with X := fun j => g.X j ∧ j ≠ b, F := fun j o => g.F j o ∨ (j = b ∧ o < pre.length) } { st with h := fun j => if j = b then none else st.h j } W :=
      ⟨⟨fun _ _ h => .inl h, fun j o _ => hcell j o⟩, fun s gg cs1 hs => ⟨gg, cs1, hs, .inr ⟨rfl, rfl⟩⟩, fun s gg n e hs => ⟨gg, n, e, hs, .inr ⟨rfl, .inl ⟨rfl, rfl⟩⟩⟩⟩
    refine h.step d rfl hle ?_ ?_ ?_ ?_ ?_ ?_ h.ld ?_ h.rds
    · have hlen : ((rows.drop off).take n).length = n := by simp; omega
      have hsub : RepRows g.F w ((rows.take (off + n)).drop off) ((pre.drop (off * z)).take ((off + n - off) * z)) := RepRows.sub hu (RepRows.unflat hl) off (off + n) (by omega) hn
      refine ⟨some ⟨b, off * z, none⟩, cap, (pre.drop (off * z)).take (n * z), by rw [hlen], by rw [hlen]; exact hncap, hcm, (fun _ _ h => nomatch h), (fun h => nomatch h), fun _ => rfl, ?_, ?_⟩
      · intro j u hj
        rw [List.getElem?_take] at hj
        split at hj
        · rw [List.getElem?_drop] at hj
          have hlt := (List.getElem?_eq_some_iff.1 hj).1
          refine ⟨.inr ⟨rfl, hlt⟩, ?_, hone u (List.mem_of_getElem? hj)⟩
          rw [cell_at hWb]
          simp only [List.getElem?_toArray]
          rw [List.getElem?_append_left hlt]; exact hj
        · cases hj
      · rw [show off + n - off = n by omega] at hsub
        have := RepRows.mono hle.F _ _ hsub
        rw [List.drop_take, show off + n - off = n by omega] at this
        exact this
    · intro b' o' hb'
      simp only at hb'
      split at hb'
      · cases hb'
      · rename_i hne
        obtain ⟨h1, h2⟩ := h.hp b' o' hb'
        exact ⟨h1.mono fun h => ⟨h, hne⟩, h2.mono hle.F (hsame b' hne)⟩
    · intro b' o' hb' hf
      rcases hf with hf | ⟨hf, _⟩
      · exact h.xf b' o' hb'.1 hf
      · exact hb'.2 hf
    · intro b' hb'; rw [hsz]; exact h.xb b' hb'.1
    · intro b' o' hb'
      rw [hsz]
      rcases hb' with hb' | ⟨hb', _⟩
      · exact h.fb b' o' hb'
      · subst hb'; exact hlt
    · intro s gg cs1 hs
      obtain ⟨_, hx, hf, _⟩ := h.lc s gg cs1 hs
      exact h.lc_keep hle hs rfl (fun hx' => hx hx'.1) (fun o hf' => hf'.elim (hf o) (fun e => hx (e.1 ▸ hX))) (hsame _ (fun e => hx (e ▸ hX)))
    · intro s gg n1 e1 hs
      obtain ⟨z1, xs, h1, h2, h3, h4⟩ := h.rws s gg n1 e1 hs
      refine ⟨z1, xs, h1, h2, ownsRow_same h3 (fun blk hb1 => hsame _ (fun e => (h4 blk hb1).1 (e ▸ hX))), fun blk hb1 => ?_⟩
      obtain ⟨h5, h6, h7⟩ := h4 blk hb1
      exact ⟨fun hx => h5 hx.1, fun o hf => hf.elim (h6 o) (fun e => absurd (e.1 ▸ hX) h5), h7⟩
  · have hW1 : W.os = w.os ∧ W.tape = w.tape ∧ W.output = w.output := by rw [← hW]; exact ⟨rfl, rfl, rfl⟩
    exact ⟨by rw [hsz]; exact hk.sz, hW1.1.trans hk.os, hW1.2.1.trans hk.tape, hW1.2.2.trans hk.out, fun b' o hb' => .inl (hk.fm b' o hb'), fun b' o hb' => (hcell b' o).trans (hk.fc b' o hb'),
      fun b' hb' hx => (hsame b' (fun e => by
        subst e
        exact (hk.xn _ hX).elim hx (fun h2 => by omega))).trans (hk.ub b' hb' hx), fun b' hb' => hk.xn b' hb'.1, fun b' o hb' => hb'.elim (hk.fn b' o) (fun e => by
      rcases hk.xn b hX with h1 | h1
      · exact .inr (.inr (e.1 ▸ h1))
      · exact .inr (.inl (e.1 ▸ h1)))⟩
theorem run_conv_same {P : Program} (w : World) {t e e2 : TypeId} {b off n cap : Nat} {cs : Array Value} (ht : P.underlying t = some (.slice e)) (he : P.underlying e = some (.int .u8)) (hb : w.heap[b]? = some (.cells cs e2 (0, 0))) :
    (convert t t (.slice (some ⟨b, off, none⟩) n cap)).run P w = .ok (.slice (some ⟨b, off, none⟩) n cap) { w with heap := w.heap.setIfInBounds b (.cells cs e2 (cs.size, cs.size + 1)) } := by
  have hsh : w.shape? b = some (e2, cs.size) := by simp [World.shape?, hb]
  have hlt := (Array.getElem?_eq_some_iff.1 hb).1
  have hfz : w.freeze ⟨b, cs.size, none⟩ 1 = { w with heap := w.heap.setIfInBounds b (.cells cs e2 (cs.size, cs.size + 1)) } := by
    unfold World.freeze
    rw [if_neg (by omega)]
    congr 1
    apply Array.ext'
    apply List.ext_getElem?
    intro j
    simp only [Array.getElem?_toList, Array.getElem?_modify, Array.getElem?_setIfInBounds]
    by_cases e : b = j
    · subst e
      rw [hb]
      simp [hlt]
    · simp [e]
  simp [convert, run_underlying ht, run_underlying he, markStringish, hsh, hfz]
end Go.Idl
