/- This text is a part of the proofs of the statements of this seat: the ideal states and their rules, or what one of the functions that the statements reach comes to. Conditions: none beyond those that each theorem names. -/
import Derived.Test.YtejjnaibgimiaaaGreatDoorIdl3
import Derived.Maps.AppendAt
set_option linter.unusedVariables false
set_option linter.unusedSimpArgs false
namespace Go.Idl
def xgen (st : St) (d : Nat) : Nat := match st.x d with | some (g, _) => g + 1 | none => 0

/-- what an element type must be for append: its size in cells -/
def elZ (P : Program) (e : TypeId) : Option Nat :=
  match szT P e, zeT P e with
  | some (z + 1), some v => if v.cells.size = z + 1 ∧ (v.cells.toList.all fun u => u.oneCell') = true then some (z + 1) else none
  | _, _ => none

def roomy (P : Program) (e : TypeId) (n : Nat) : Prop := n * byT P e ≤ 140737488355328 ∧ n ≤ 140737488355328
instance (P : Program) (e : TypeId) (n : Nat) : Decidable (roomy P e n) := by unfold roomy; exact inferInstance

def iapp (P : Program) (st : St) (d : Nat) (t : TypeId) (x y : IV) : Option (IV × (Nat → Option (Nat × Nat × TypeId))) :=
  match x, y with
  | .list tk rows, .list _ ys =>
    match elT P t with
    | none => none
    | some e =>
      match elZ P e with
      | none => none
      | some z =>
        if ys = [] then some (.list tk rows, st.x)
        else
          if roomy P e (rows.length + ys.length) ∧ uni z rows = true ∧ uni z ys = true then
            match tk with
            | .tight => some (.list (.row d (xgen st d)) (rows ++ ys), upd st.x d (some (xgen st d, rows.length + ys.length, e)))
            | .row s g =>
              match st.x s with
              | some (g0, n0, e0) => if g = g0 ∧ n0 = rows.length ∧ e0 = e then some (.list (.row s g) (rows ++ ys), upd st.x s (some (g, rows.length + ys.length, e))) else none
              | none => none
            | .plain => none
          else none
  | _, _ => none

theorem append_nothing {P : Program} {w : World} {t ty e : TypeId} (ht : P.underlying t = some (.slice e)) {i : TypeInfo} (hi : P.info? e = some i) (A A2 : Option Addr) (n cap c2 : Nat) (h : n ≤ cap) :
    (Builtin.append_ #[t, t] ty #[.slice A n cap, .slice A2 0 c2]).run P w = .ok (.slice A n cap) w := by
  cases A <;> cases A2 <;> simp [Builtin.append_, run_underlying ht, sizeOf, typeInfo, hi, Builtin.lenOf, h, Builtin.firstCells, loadCells, loadCellsFrom, storeCells, Sem.run_bind]

theorem uni_flat_all {z : Nat} {rows : List (List IV)} (h : uni z rows = true) : rows.flatten.length = rows.length * z := by
  have := uni_flat h rows.length (Nat.le_refl _)
  simpa using this

/-- behind an append that took room -/
theorem Sim.appended {c : Ctx} {st a w} {g : Gh} (h : Core c.P c.N c.w0.heap.size c.ds g st a w) (hk : Keep c.F0 c.X0 c.w0 g.F g.X w) (s gg : Nat) (e : TypeId) (z : Nat) (hz : szT c.P e = some z) (hz0 : 0 < z)
    (rows : List (List IV)) (hgen : ∀ g0 n0 e0, st.x s = some (g0, n0, e0) → g0 < gg ∨ (g0 = gg ∧ n0 < rows.length)) (d : Option Tmp) (hu : uni z rows = true) (v' : Value) (w' : World) (vals : List Value)
    (hrep : RepAll g.F w rows.flatten vals) (hone : ∀ v ∈ vals, v.oneCell' = true) (hown : w'.ownsRow c.w0.heap.size e z v' rows.length vals) (hne : rows ≠ []) (row : Option Nat) (hgrow : w.grownBy w' row)
    (hrow : ∀ blk, row = some blk → c.w0.heap.size ≤ blk ∧ ¬ g.X blk ∧ (∀ o, g.F blk o → w'.cell? ⟨blk, o, none⟩ = w.cell? ⟨blk, o, none⟩) ∧ (∀ o, g.F blk o → o < rows.length * z) ∧ (∀ s', st.m s' ≠ none → g.lb s' ≠ blk) ∧ (∀ s', s' ≠ s → st.x s' ≠ none → (g.rv s').ownBlock ≠ some blk))
    (hblk : v'.ownBlock = row ∨ v'.ownBlock = some w.heap.size) :
    Sim c (({ st with x := upd st.x s (some (gg, rows.length, e)) } : St).put d (.list (.row s gg) rows)) (a.put d v') w' := by
  obtain ⟨hlen, hcase⟩ := hown
  have hB := hk.sz
  have hown : w'.ownsRow c.w0.heap.size e z v' rows.length vals := ⟨hlen, hcase⟩
  rcases hcase with ⟨_, h0⟩ | ⟨blk, cap, cur, rfl, hBb, hheap, hnc, hcm, hcs, htake⟩
  · exact absurd (List.eq_nil_of_length_eq_zero h0) hne
  have hkeep : ∀ k, k < w.heap.size → some k ≠ row → w'.heap[k]? = w.heap[k]? := hgrow.block
  have hsz := hgrow.size
  have hcell : ∀ b o, g.F b o → w'.cell? ⟨b, o, none⟩ = w.cell? ⟨b, o, none⟩ := by
    intro b o hb
    by_cases hr : some b = row
    · exact (hrow b hr.symm).2.2.1 o hb
    · exact World.cell?_of_block (a := ⟨b, o, none⟩) (hkeep b (h.fb b o hb) hr)
  have hblt : blk < w'.heap.size := (Array.getElem?_eq_some_iff.1 hheap).1
  have hbk : some blk = row ∨ blk = w.heap.size := by
    rcases hblk with h1 | h1
    · exact .inl h1
    · exact .inr (by simpa [Value.ownBlock] using h1)
  -- what is not in the row's own block
  have hX : ¬ g.X blk := fun hx => hbk.elim (fun e => (hrow blk e.symm).2.1 hx) (fun e => by have := h.xb _ hx; omega)
  have hF : ∀ o, g.F blk o → o < rows.length * z := fun o hf => hbk.elim (fun e => (hrow blk e.symm).2.2.2.1 o hf) (fun e => by have := h.fb _ _ hf; omega)
  have hlb : ∀ s', st.m s' ≠ none → g.lb s' ≠ blk := fun s' hs' => hbk.elim (fun e => (hrow blk e.symm).2.2.2.2.1 s' hs') (fun e => by
    obtain ⟨p, hp⟩ := Option.ne_none_iff_exists'.1 hs'
    have := h.lb_lt (s := s') (gg := p.1) (cs := p.2) hp
    omega)
  have hrv : ∀ s', s' ≠ s → st.x s' ≠ none → (g.rv s').ownBlock ≠ some blk := fun s' hs hs' => hbk.elim (fun e => (hrow blk e.symm).2.2.2.2.2 s' hs hs') (fun e h9 => by
    obtain ⟨p, hp⟩ := Option.ne_none_iff_exists'.1 hs'
    obtain ⟨z1, xs1, _, _, h5, _⟩ := h.rws s' p.1 p.2.1 p.2.2 hp
    have := (ownsRow_lt h5 h9).2
    omega)
  have hnotrow : ∀ b, b < w.heap.size → (∀ r, row = some r → b ≠ r) → w'.heap[b]? = w.heap[b]? := fun b hb hr => hkeep b hb (fun e => hr b e.symm rfl)
  refine ⟨{ g with F := fun b o => g.F b o ∨ (b = blk ∧ o < rows.length * z), rv := upd g.rv s (.slice (some ⟨blk, 0, none⟩) rows.length cap) }, ?_, ?_⟩
  · have hle : GLe g st w { g with F := fun b o => g.F b o ∨ (b = blk ∧ o < rows.length * z), rv := upd g.rv s (.slice (some ⟨blk, 0, none⟩) rows.length cap) } { st with x := upd st.x s (some (gg, rows.length, e)) } w' := by
      refine ⟨⟨fun _ _ h => .inl h, hcell⟩, fun s gg cs1 hs => ⟨gg, cs1, hs, .inr ⟨rfl, rfl⟩⟩, fun s' g1 n1 e1 hs => ?_⟩
      by_cases hd : s' = s
      · subst hd
        rcases hgen g1 n1 e1 hs with h1 | ⟨h1, h2⟩
        · exact ⟨gg, rows.length, e, by simp [upd], .inl h1⟩
        · exact ⟨gg, rows.length, e, by simp [upd], .inr ⟨h1, .inr h2⟩⟩
      · exact ⟨g1, n1, e1, by simp [upd, hd, hs], .inr ⟨rfl, .inl ⟨rfl, by simp [upd, hd]⟩⟩⟩
    have hrep' := RepAll.mono hle.F _ _ hrep
    refine h.step d rfl hle ?_ ?_ ?_ ?_ ?_ ?_ h.ld ?_ ?_
    · refine ⟨⟨some ⟨blk, 0, none⟩, cap, vals, rfl, hnc, hcm, (fun _ _ h => nomatch h), (fun h => nomatch h), fun _ => rfl, ?_, RepRows.unflat hrep'⟩, gg, rows.length, e, by simp [upd], Nat.le_refl _, fun _ => ⟨Nat.le_refl _, fun _ => by simp [upd]⟩⟩
      intro j v hj
      have hjl := (List.getElem?_eq_some_iff.1 hj).1
      refine ⟨.inr ⟨rfl, by simp only [Nat.zero_add]; omega⟩, ?_, hone v (List.mem_of_getElem? hj)⟩
      rw [cell_at hheap, Nat.zero_add]
      rw [← htake, List.getElem?_take] at hj
      split at hj
      · simpa using hj
      · cases hj
    · intro b o hb
      obtain ⟨h1, h2⟩ := h.hp b o hb
      exact ⟨h1, ObjRep.mono' hle.F h1 (fun h1 => hnotrow b (h.xb b h1) (fun r hr e => (hrow r hr).2.1 (e ▸ h1))) (fun hz => hnotrow b (h.fb b 0 (hz 0)) (fun r hr e => absurd ((hrow r hr).2.2.2.1 _ (e ▸ hz _)) (Nat.lt_irrefl _))) h2⟩
    · intro b o hb hf
      rcases hf with hf | ⟨hf, _⟩
      · exact h.xf b o hb hf
      · subst hf; exact hX hb
    · intro b hb; have := h.xb b hb; omega
    · intro b o hb
      rcases hb with hb | ⟨hb, _⟩
      · have := h.fb b o hb; omega
      · subst hb; exact hblt
    · intro s' g1 cs1 hs
      have hs0 : st.m s' = some (g1, cs1) := hs
      obtain ⟨_, hx, hf, _⟩ := h.lc s' g1 cs1 hs
      have hlt := h.lb_lt hs
      exact h.lc_keep hle hs rfl hx (fun o hf' => hf'.elim (hf o) (fun e => hlb s' (by simp [hs0]) e.1)) (hnotrow _ hlt (fun r hr e => (hrow r hr).2.2.2.2.1 s' (by simp [hs0]) e))
    · intro s' g1 n1 e1 hs
      simp only [upd] at hs
      by_cases hd : s' = s
      · subst hd
        simp only [if_true, Option.some.injEq, Prod.mk.injEq] at hs
        obtain ⟨rfl, rfl, rfl⟩ := hs
        refine ⟨z, vals, hz, hz0, by simpa [upd] using hown, fun b hb => ?_⟩
        simp [upd, Value.ownBlock] at hb
        subst hb
        exact ⟨hX, fun o hf => hf.elim (hF o) (fun e => e.2), hlb⟩
      · simp only [hd, if_false] at hs
        obtain ⟨z1, xs1, h1, h2, h3, h4⟩ := h.rws s' g1 n1 e1 hs
        refine ⟨z1, xs1, h1, h2, ?_, fun b hb => ?_⟩
        · simp only [upd, hd, if_false]
          exact ownsRow_same h3 (fun b hb => hnotrow b (ownsRow_lt h3 hb).2 (fun r hr e => (hrow r hr).2.2.2.2.2 s' hd (by simp [hs]) (e ▸ hb)))
        · simp only [upd, hd, if_false] at hb
          obtain ⟨h5, h6, h7⟩ := h4 b hb
          refine ⟨h5, fun o hf => hf.elim (h6 o) (fun e => absurd hb (e.1 ▸ hrv s' hd (by simp [hs]))), h7⟩
    · intro s1 s2 hne h1 h2 b hb
      simp only [upd] at h1 h2 hb ⊢
      by_cases hd1 : s1 = s
      · by_cases hd2 : s2 = s
        · exact absurd (hd1.trans hd2.symm) hne
        · simp only [hd1, hd2, if_true, if_false] at h2 hb ⊢
          simp [Value.ownBlock] at hb
          subst hb
          exact hrv s2 hd2 h2
      · by_cases hd2 : s2 = s
        · simp only [hd1, hd2, if_true, if_false] at h1 hb ⊢
          intro h9
          simp [Value.ownBlock] at h9
          subst h9
          exact hrv s1 hd1 h1 hb
        · simp only [hd1, hd2, if_false] at h1 h2 hb ⊢
          exact h.rds s1 s2 hne h1 h2 b hb
  · refine ⟨by omega, hgrow.os.trans hk.os, hgrow.tape.trans hk.tape, hgrow.output.trans hk.out, fun b o hb => .inl (hk.fm b o hb), fun b o hb => (hcell b o (hk.fm b o hb)).trans (hk.fc b o hb), ?_, hk.xn, ?_⟩
    · intro b hb hx
      rw [hnotrow b (by omega) (fun r hr e => by have := (hrow r hr).1; omega)]
      exact hk.ub b hb hx
    · intro b o hb
      rcases hb with hb | ⟨hb, _⟩
      · exact hk.fn b o hb
      · subst hb; exact .inr (.inl hBb)
theorem elZ_eq {P : Program} {e : TypeId} {z : Nat} (h : elZ P e = some z) : szT P e = some z ∧ 0 < z ∧ ∃ zv, zeT P e = some zv ∧ zv.cells.size = z := by
  unfold elZ at h
  split at h
  · rename_i z1 v h1 h2
    split at h
    · rename_i h3; cases h; exact ⟨h1, by omega, v, h2, h3.1⟩
    · cases h
  · cases h
theorem elZ_one {P : Program} {e : TypeId} {z : Nat} {zv : Value} (h : elZ P e = some z) (hz : zeT P e = some zv) : ∀ u ∈ zv.cells.toList, u.oneCell' = true := by
  unfold elZ at h
  split at h
  · rename_i z1 v h1 h2
    rw [h2] at hz; cases hz
    split at h
    · rename_i h3; simpa only [List.all_eq_true] using h3.2
    · cases h
  · cases h
theorem zeroCells_one {zs : Array Value} (h : ∀ u ∈ zs.toList, u.oneCell' = true) (n : Nat) : ∀ u ∈ (Builtin.zeroCells zs n).toList, u.oneCell' = true := by
  intro u hu
  simp only [Builtin.zeroCells, Array.toList_map, List.mem_map] at hu
  obtain ⟨i, hi, rfl⟩ := hu
  have hpos : 0 < zs.size := by
    rcases Nat.eq_zero_or_pos zs.size with h0 | h0
    · rw [h0] at hi; simp at hi
    · exact h0
  have hlt : i % zs.size < zs.size := Nat.mod_lt _ hpos
  rw [getElem!_pos zs _ hlt]
  exact h _ (by simp)

/-- the append makes a new row -/
theorem Sim.appendGrow {c : Ctx} {st a w} {g : Gh} (h : Core c.P c.N c.w0.heap.size c.ds g st a w) (hk : Keep c.F0 c.X0 c.w0 g.F g.X w) (s gg : Nat) (t ty e : TypeId) (z : Nat) (ht : c.P.underlying t = some (.slice e)) (hzz : elZ c.P e = some z)
    (rows ys : List (List IV)) (hgen : ∀ g0 n0 e0, st.x s = some (g0, n0, e0) → g0 < gg ∨ (g0 = gg ∧ n0 < (rows ++ ys).length)) (d : Option Tmp) (hu1 : uni z rows = true) (hu2 : uni z ys = true) (hys : ys ≠ [])
    (hroom : roomy c.P e (rows.length + ys.length)) (b1 o1 cap b2 o2 c2 : Nat) (vals vals2 : List Value) (hcap : cap < rows.length + ys.length)
    (hf1 : FCells g.F w b1 o1 vals) (hrep1 : RepRows g.F w rows vals) (hf2 : FCells g.F w b2 o2 vals2) (hrep2 : RepRows g.F w ys vals2) :
    ∃ vr w', (Builtin.append_ #[t, t] ty #[.slice (some ⟨b1, o1, none⟩) rows.length cap, .slice (some ⟨b2, o2, none⟩) ys.length c2]).run c.P w = .ok vr w' ∧
      Sim c (({ st with x := upd st.x s (some (gg, rows.length + ys.length, e)) } : St).put d (.list (.row s gg) (rows ++ ys))) (a.put d vr) w' := by
  obtain ⟨hz, hz0, zv, hzv, hzs⟩ := elZ_eq hzz
  obtain ⟨inf, hinf, hsz⟩ := szT_eq hz
  have hzero : inf.zero = some zv := by simpa [zeT, hinf] using hzv
  have hbyt : byT c.P e = inf.bytes := by simp [byT, hinf]
  obtain ⟨hr1, hr2⟩ := hroom
  rw [hbyt] at hr1
  have hu : uni z (rows ++ ys) = true := by rw [uni_append, hu1, hu2]; rfl
  have hne : rows ++ ys ≠ [] := by cases ys with | nil => exact absurd rfl hys | cons => simp
  have hmax : rows.length + ys.length ≤ maxLen := by simp only [maxLen]; omega
  have hlenapp : (rows ++ ys).length = rows.length + ys.length := by simp
  have hnl : vals2.length = ys.length * inf.size := by rw [hrep2.flat.length, uni_flat_all hu2, hsz]
  have hnews : ∀ j u, vals2[j]? = some u → w.cell? ((⟨b2, o2, none⟩ : Addr).add j) = some u := fun j u hj => by rw [addr_add]; exact (hf2 j u hj).2.1
  have hone2 : ∀ u ∈ vals2, u.oneCell' = true := fun u hu => by obtain ⟨j, hj⟩ := List.mem_iff_getElem?.1 hu; exact (hf2 j u hj).2.2
  have hol : vals.length = rows.length * inf.size := by rw [hrep1.flat.length, uni_flat_all hu1, hsz]
  have holds : ∀ j u, vals[j]? = some u → w.cell? ((⟨b1, o1, none⟩ : Addr).add j) = some u := fun j u hj => by rw [addr_add]; exact (hf1 j u hj).2.1
  have hone1 : ∀ u ∈ vals, u.oneCell' = true := fun u hu => by obtain ⟨j, hj⟩ := List.mem_iff_getElem?.1 hu; exact (hf1 j u hj).2.2
  have hrun := run_append_grow (P := c.P) w t ty e inf zv ht hinf hzero ⟨b1, o1, none⟩ rows.length cap vals hol holds ⟨b2, o2, none⟩ ys.length c2 vals2 hnl hnews hcap (by omega) (growslice_fits hcap hr1)
  refine ⟨_, _, hrun, ?_⟩
  have hge := grownCap_ge w (rows.length + ys.length) cap e
  have hgm : grownCap w (rows.length + ys.length) cap e ≤ maxLen := grownCap_le_maxLen w (rows.length + ys.length) cap e hmax
  have hvl : (vals ++ vals2).length = (rows ++ ys).length * z := by simp [hol, hnl, hsz, Nat.add_mul]
  have := Sim.appended h hk s gg e z hz hz0 (rows ++ ys) hgen d hu (.slice (some ⟨w.heap.size, 0, none⟩) (rows.length + ys.length) (grownCap w (rows.length + ys.length) cap e))
    (w.drew.alloc (.cells (vals.toArray ++ vals2.toArray ++ Builtin.zeroCells zv.cells (grownCap w (rows.length + ys.length) cap e - (rows.length + ys.length))) e)) (vals ++ vals2)
    (by simpa using hrep1.flat.append hrep2.flat) (fun u hu => (List.mem_append.1 hu).elim (hone1 u) (hone2 u))
    ⟨hvl, .inr ⟨w.heap.size, grownCap w (rows.length + ys.length) cap e, _, by rw [hlenapp], hk.sz, heap_alloc_new w.drew _, by rw [hlenapp]; exact hge, hgm, by
        simp only [Array.size_append, List.size_toArray, size_zeroCells, hzs, hol, hnl, hsz, ← Nat.add_mul]; congr 1; omega, by
        simp only [Array.toList_append, List.append_assoc]; rw [← List.append_assoc, ← hvl]; exact List.take_left⟩⟩ hne none ⟨rfl, rfl, rfl, by simp, fun k hk _ => heap_alloc_old w.drew _ hk⟩ (fun _ h => nomatch h) (.inr rfl)
  rwa [hlenapp] at this

/-- onto nothing -/
theorem Sim.appendNil {c : Ctx} {st a w} {g : Gh} (h : Core c.P c.N c.w0.heap.size c.ds g st a w) (hk : Keep c.F0 c.X0 c.w0 g.F g.X w) (s gg : Nat) (t ty e : TypeId) (z : Nat) (ht : c.P.underlying t = some (.slice e)) (hzz : elZ c.P e = some z)
    (ys : List (List IV)) (hgen : ∀ g0 n0 e0, st.x s = some (g0, n0, e0) → g0 < gg ∨ (g0 = gg ∧ n0 < ys.length)) (d : Option Tmp) (hu2 : uni z ys = true) (hys : ys ≠ [])
    (hroom : roomy c.P e ys.length) (b2 o2 c2 : Nat) (vals2 : List Value) (hf2 : FCells g.F w b2 o2 vals2) (hrep2 : RepRows g.F w ys vals2) :
    ∃ vr w', (Builtin.append_ #[t, t] ty #[.slice none 0 0, .slice (some ⟨b2, o2, none⟩) ys.length c2]).run c.P w = .ok vr w' ∧
      Sim c (({ st with x := upd st.x s (some (gg, ys.length, e)) } : St).put d (.list (.row s gg) ys)) (a.put d vr) w' := by
  obtain ⟨hz, hz0, zv, hzv, hzs⟩ := elZ_eq hzz
  obtain ⟨inf, hinf, hsz⟩ := szT_eq hz
  have hzero : inf.zero = some zv := by simpa [zeT, hinf] using hzv
  have hbyt : byT c.P e = inf.bytes := by simp [byT, hinf]
  obtain ⟨hr1, hr2⟩ := hroom
  rw [hbyt] at hr1
  have hmax : ys.length ≤ maxLen := by simp only [maxLen]; omega
  have hnl : vals2.length = ys.length * inf.size := by rw [hrep2.flat.length, uni_flat_all hu2, hsz]
  have hnews : ∀ j u, vals2[j]? = some u → w.cell? ((⟨b2, o2, none⟩ : Addr).add j) = some u := fun j u hj => by rw [addr_add]; exact (hf2 j u hj).2.1
  have hone2 : ∀ u ∈ vals2, u.oneCell' = true := fun u hu => by obtain ⟨j, hj⟩ := List.mem_iff_getElem?.1 hu; exact (hf2 j u hj).2.2
  obtain ⟨v', w', hrun, hown, hgrow, _, hblk⟩ := Go.run_append_own_at (P := c.P) w c.w0.heap.size t ty e inf zv z inf.bytes ht hinf hzero hsz rfl hzs hz0 (.slice none 0 0) 0 [] (World.ownsRow_nil w _ e z)
    ⟨b2, o2, none⟩ ys.length c2 vals2 (by rw [hnl, hsz]) hnews hone2 (by simpa using hmax) (by simpa using hr1) hk.sz
  exact ⟨v', w', hrun, Sim.appended h hk s gg e z hz hz0 ys hgen d hu2 v' w' vals2 hrep2.flat hone2 (by simpa using hown) hys none hgrow (fun _ h => nomatch h) (by simpa [Value.ownBlock] using hblk)⟩

theorem LRep.listOf {g st w} {tk : Tok} {rows : List (List IV)} {v : Value} (h : LRep g st w (.list tk rows) v) : ∃ A cap vals, v = .slice A rows.length cap ∧ rows.length ≤ cap ∧ cap ≤ maxLen ∧ (tk = .tight → rows.length = cap) ∧
    (match A with | none => cap = 0 | some a => (tk = .tight ∨ cap ≠ 0 → a.spot = none) ∧ FCells g.F w a.block a.off vals ∧ RepRows g.F w rows vals) := by
  cases tk with
  | tight => obtain ⟨A, cap, vals, h1, h2, h3, h4, h5, h6⟩ := h; exact ⟨A, cap, vals, h1, h2, h3, h5, h6⟩
  | plain => obtain ⟨A, cap, vals, h1, h2, h3, h4, h5, h6⟩ := h.strip; exact ⟨A, cap, vals, h1, h2, h3, (fun h => nomatch h), h6⟩
  | row s g =>
    obtain ⟨A, cap, vals, h1, h2, h3, h4, h5, h6⟩ := h.strip
    refine ⟨A, cap, vals, h1, h2, h3, (fun h => nomatch h), ?_⟩
    cases A with
    | none => exact h6
    | some a => exact ⟨fun h => h6.1 (.inr (h.elim (fun e => nomatch e) id)), h6.2⟩

theorem Rep.listOf {F w} {tk : Tok} {rows : List (List IV)} {v : Value} (h : Rep F w (strip (.list tk rows)) v) : ∃ A cap vals, v = .slice A rows.length cap ∧ rows.length ≤ cap ∧ cap ≤ maxLen ∧
    (match A with | none => cap = 0 | some a => (cap ≠ 0 → a.spot = none) ∧ FCells F w a.block a.off vals ∧ RepRows F w rows vals) := by
  cases tk with
  | tight =>
    obtain ⟨A, cap, vals, h1, h2, h3, h4, h5, h6⟩ := h
    refine ⟨A, cap, vals, h1, h2, h3, ?_⟩
    cases A with
    | none => exact h6
    | some a => exact ⟨fun h => h6.1 (.inr h), h6.2⟩
  | plain =>
    obtain ⟨A, cap, vals, h1, h2, h3, h4, h5, h6⟩ := h
    refine ⟨A, cap, vals, h1, h2, h3, ?_⟩
    cases A with
    | none => exact h6
    | some a => exact ⟨fun h => h6.1 (.inr h), h6.2⟩
  | row s g =>
    obtain ⟨A, cap, vals, h1, h2, h3, h4, h5, h6⟩ := h
    refine ⟨A, cap, vals, h1, h2, h3, ?_⟩
    cases A with
    | none => exact h6
    | some a => exact ⟨fun h => h6.1 (.inr h), h6.2⟩

theorem Sim.append {c : Ctx} {st a w} (h : Sim c st a w) (d0 : Nat) (d : Option Tmp) (t ty : TypeId) {x y r : IV} {xs' : Nat → Option (Nat × Nat × TypeId)} {vx vy : Value}
    (hx : ∀ g, Core c.P c.N c.w0.heap.size c.ds g st a w → LRep g st w x vx) (hy : ∀ g, Core c.P c.N c.w0.heap.size c.ds g st a w → Rep g.F w (strip y) vy) (hi : iapp c.P st d0 t x y = some (r, xs')) :
    ∃ vr w', (Builtin.append_ #[t, t] ty #[vx, vy]).run c.P w = .ok vr w' ∧ Sim c (({ st with x := xs' } : St).put d r) (a.put d vr) w' := by
  obtain ⟨g, h, hk⟩ := h
  replace hx := hx g h
  replace hy := hy g h
  cases x <;> try (simp [iapp] at hi; done)
  rename_i tk rows
  cases y <;> try (simp [iapp] at hi; done)
  rename_i tk2 ys
  simp only [iapp] at hi
  split at hi
  · cases hi
  · rename_i e he
    have ht := elT_eq he
    obtain ⟨A, cap, vals, rfl, hcap, hcm, htt, hA⟩ := hx.listOf
    obtain ⟨A2, c2, vals2, rfl, hc2, hm2, hA2⟩ := hy.listOf
    split at hi
    · cases hi
    · rename_i z hzz
      obtain ⟨hz, hz0, zv, hzv, hzs⟩ := elZ_eq hzz
      obtain ⟨inf, hinf, hsz⟩ := szT_eq hz
      have hzero : inf.zero = some zv := by simpa [zeT, hinf] using hzv
      have hbyt : byT c.P e = inf.bytes := by simp [byT, hinf]
      split at hi
      · rename_i hys
        subst hys
        cases hi
        exact ⟨_, w, append_nothing ht hinf A A2 _ cap c2 hcap, g, h.put d hx, hk⟩
      · rename_i hys
        split at hi
        · rename_i hc
          obtain ⟨hroom, hu1, hu2⟩ := hc
          have hyl : 0 < ys.length := by cases ys with | nil => exact absurd rfl hys | cons => simp
          have hlenapp : (rows ++ ys).length = rows.length + ys.length := by simp
          cases A2 with
          | none => simp only at hA2; omega
          | some a2 =>
            obtain ⟨b2, o2, sp2⟩ := a2
            simp only at hA2
            obtain ⟨hsp2, hf2, hrep2⟩ := hA2
            obtain rfl : sp2 = none := hsp2 (by omega)
            cases tk with
            | plain => cases hi
            | tight =>
              simp only [Option.some.injEq, Prod.mk.injEq] at hi
              obtain ⟨rfl, rfl⟩ := hi
              have hcapeq := htt rfl
              have hgen : ∀ (n : Nat) g0 n0 e0, st.x d0 = some (g0, n0, e0) → g0 < xgen st d0 ∨ (g0 = xgen st d0 ∧ n0 < n) := fun n g0 n0 e0 h9 => .inl (by simp [xgen, h9])
              cases A with
              | none =>
                simp only at hA
                have hr0 : rows = [] := List.eq_nil_of_length_eq_zero (by omega)
                subst hr0
                subst hA
                simpa using Sim.appendNil h hk d0 (xgen st d0) t ty e z ht hzz ys (hgen _) d hu2 hys (by simpa using hroom) b2 o2 c2 vals2 hf2 hrep2
              | some a1 =>
                obtain ⟨b1, o1, sp1⟩ := a1
                simp only at hA
                obtain ⟨hsp1, hf1, hrep1⟩ := hA
                obtain rfl : sp1 = none := hsp1 (by simp)
                exact Sim.appendGrow h hk d0 (xgen st d0) t ty e z ht hzz rows ys (hgen _) d hu1 hu2 hys hroom b1 o1 cap b2 o2 c2 vals vals2 (by omega) hf1 hrep1 hf2 hrep2
            | row s gg =>
              simp only at hi
              split at hi
              · rename_i g0 n0 e0 hsx
                split at hi
                · rename_i hcc
                  obtain ⟨rfl, rfl, rfl⟩ := hcc
                  simp only [Option.some.injEq, Prod.mk.injEq] at hi
                  obtain ⟨rfl, rfl⟩ := hi
                  obtain ⟨_, g1, n1, e1, hsx1, _, hrv⟩ := hx
                  rw [hsx] at hsx1; cases hsx1
                  have hv := (hrv rfl).2 rfl
                  obtain ⟨z1, xs, hz1, hz10, hown, hsep⟩ := h.rws s gg rows.length e0 hsx
                  rw [hz] at hz1; cases hz1
                  have hgen : ∀ g0 n0 e1, st.x s = some (g0, n0, e1) → g0 < gg ∨ (g0 = gg ∧ n0 < (rows ++ ys).length) := fun g0 n0 e1 h9 => .inr (by rw [hsx] at h9; cases h9; exact ⟨rfl, by rw [hlenapp]; omega⟩)
                  rw [← hv] at hown hsep
                  rcases hown.2 with ⟨h9, h8⟩ | ⟨blk, cap9, cur, h9, hBb, hheap, hnc, hcm9, hcs, htake⟩
                  · simp only [Value.slice.injEq] at h9
                    obtain ⟨rfl, _, rfl⟩ := h9
                    have hr0 : rows = [] := List.eq_nil_of_length_eq_zero h8
                    subst hr0
                    simpa using Sim.appendNil h hk s gg t ty e0 z ht hzz ys (by simpa using hgen) d hu2 hys (by simpa using hroom) b2 o2 c2 vals2 hf2 hrep2
                  · cases h9
                    simp only at hA
                    obtain ⟨_, hf1, hrep1⟩ := hA
                    by_cases hfit : rows.length + ys.length ≤ cap
                    · -- in place
                      have hnl : vals2.length = ys.length * inf.size := by rw [hrep2.flat.length, uni_flat_all hu2, hsz]
                      have hnews : ∀ j u, vals2[j]? = some u → w.cell? ((⟨b2, o2, none⟩ : Addr).add j) = some u := fun j u hj => by rw [addr_add]; exact (hf2 j u hj).2.1
                      have hone2 : ∀ u ∈ vals2, u.oneCell' = true := fun u hu => by obtain ⟨j, hj⟩ := List.mem_iff_getElem?.1 hu; exact (hf2 j u hj).2.2
                      have hone1 : ∀ u ∈ vals, u.oneCell' = true := fun u hu => by obtain ⟨j, hj⟩ := List.mem_iff_getElem?.1 hu; exact (hf1 j u hj).2.2
                      have hol : vals.length = rows.length * z := by rw [hrep1.flat.length, uni_flat_all hu1]
                      have hsum : rows.length * z + ys.length * z ≤ cap * z := by rw [← Nat.add_mul]; exact Nat.mul_le_mul_right _ hfit
                      have hrun := run_append_room (P := c.P) w t ty e0 inf ht hinf blk rows.length cap cur hheap ⟨b2, o2, none⟩ ys.length c2 vals2 hnl hnews hone2 hfit (by rw [hnl, hsz]; omega)
                      rw [hsz] at hrun hnl
                      have hpre : cur.toList.take (rows.length * z) = vals := by
                        apply List.ext_getElem?
                        intro j
                        rw [List.getElem?_take]
                        split
                        · rename_i hj
                          have hj' : j < vals.length := by omega
                          have h7 := (hf1 j vals[j] (by simp [hj'])).2.1
                          rw [cell_at hheap] at h7
                          simp only [Nat.zero_add] at h7
                          simp [h7, hj']
                        · rename_i hj
                          rw [List.getElem?_eq_none (by omega)]
                      rw [hpre] at hrun
                      refine ⟨_, _, hrun, ?_⟩
                      have hvl : (vals ++ vals2).length = (rows ++ ys).length * z := by simp [hol, hnl, Nat.add_mul]
                      have := Sim.appended h hk s gg e0 z hz hz0 (rows ++ ys) hgen d (by rw [uni_append, hu1, hu2]; rfl) (.slice (some ⟨blk, 0, none⟩) (rows.length + ys.length) cap)
                        (w.setRow blk (vals ++ vals2 ++ cur.toList.drop (rows.length * z + vals2.length)).toArray) (vals ++ vals2)
                        (by simpa using hrep1.flat.append hrep2.flat) (fun u hu => (List.mem_append.1 hu).elim (hone1 u) (hone2 u))
                        ⟨hvl, .inr ⟨blk, cap, _, by rw [hlenapp], hBb, setRow_heap w blk cur _ e0 _ hheap, by rw [hlenapp]; exact hfit, hcm, by
                          simp only [List.size_toArray, List.length_append, List.length_drop, Array.length_toList]; omega, by rw [← hvl]; exact List.take_left⟩⟩
                        (by cases ys with | nil => exact absurd rfl hys | cons => simp) (some blk) ⟨rfl, rfl, rfl, by simp, fun k _ hk => setRow_other w blk k _ (fun e => hk (by simp [e]))⟩ ?_ (.inl rfl)
                      · rwa [hlenapp] at this
                      · intro b9 hb9
                        cases hb9
                        obtain ⟨h5, h6, h7⟩ := hsep blk rfl
                        refine ⟨hBb, h5, fun o hf => ?_, fun o hf => by have := h6 o hf; rw [hlenapp, Nat.add_mul]; omega, h7, fun s' hs' hx' => h.rds s s' (fun e => hs' e.symm) (by simp [hsx]) hx' blk (by rw [← hv]; rfl)⟩
                        have ho := h6 o hf
                        rw [cell_setRow_same w blk o cur _ e0 _ hheap, cell_at hheap]
                        have hov : o < vals.length := by omega
                        have e9 : cur[o]? = vals[o]? := by rw [← hpre, List.getElem?_take, if_pos ho]; simp
                        rw [e9]
                        simp only [List.getElem?_toArray]
                        rw [List.append_assoc, List.getElem?_append_left hov]
                    · exact Sim.appendGrow h hk s gg t ty e0 z ht hzz rows ys hgen d hu1 hu2 hys hroom blk 0 cap b2 o2 c2 vals vals2 (by omega) hf1 hrep1 hf2 hrep2
                · cases hi
              · cases hi
        · cases hi
end Go.Idl
