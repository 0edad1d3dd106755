/- This text is a part of the proofs of the statements of this seat: the ideal states and their rules, or what one of the functions that the statements reach comes to. Conditions: none beyond those that each theorem names. -/
import Derived.Test.YtejjnaibgimiaaaGreatDoorIdl2
set_option linter.unusedVariables false
set_option linter.unusedSimpArgs false
namespace Go.Idl
theorem FLe.setRow {F : Nat → Nat → Prop} {w : World} {b : Nat} (hf : ∀ o, ¬ F b o) (cs : Array Value) : FLe F w F (w.setRow b cs) :=
  ⟨fun _ _ h => h, fun b' o h => cell_setRow_other w b cs _ (fun e => hf o (by simpa using e ▸ h))⟩

theorem Keep.setRow {F0 X0 w0 F X w} (h : Keep F0 X0 w0 F X w) {b : Nat} (hf : ∀ o, ¬ F b o) (hb : w0.heap.size ≤ b ∨ X b) (cs : Array Value) : Keep F0 X0 w0 F X (w.setRow b cs) where
  sz := by simpa using h.sz
  os := h.os
  tape := h.tape
  out := h.out
  fm := h.fm
  fc b' o hb' := ((FLe.setRow hf cs).cell b' o (h.fm _ _ hb')).trans (h.fc b' o hb')
  ub b' hb' hx := (setRow_other w b b' cs (fun e => by
    subst e
    rcases hb with hb | hb
    · omega
    · exact (h.xn _ hb).elim hx (fun h2 => by omega))).trans (h.ub b' hb' hx)
  xn := h.xn
  fn := h.fn

theorem LRepAll.append {g st w} : ∀ {xs ys : List IV} {vs us : List Value}, LRepAll g st w xs vs → LRepAll g st w ys us → LRepAll g st w (xs ++ ys) (vs ++ us)
  | [], _, vs, us, h, k => by cases h; exact k
  | c :: cs, ys, vs, us, h, k => by obtain ⟨v, vs', rfl, h1, h2⟩ := h; exact ⟨v, vs' ++ us, rfl, h1, h2.append k⟩

theorem LRepAll.splice {g st w} {cs vs : List IV} {us zs : List Value} {off : Nat} (h : LRepAll g st w cs us) (k : LRepAll g st w vs zs) : LRepAll g st w (splice cs off vs) (us.take off ++ zs ++ us.drop (off + zs.length)) := by
  unfold Idl.splice
  rw [k.length]
  exact (h.take off |>.append k).append (h.drop _)

theorem Sim.storeLoc {c : Ctx} {st a w} (h : Sim c st a w) {s gg o : Nat} {cs vs : List IV} {zs : List Value} (hs : st.m s = some (gg, cs)) (hlen : o + vs.length ≤ cs.length)
    (hz : ∀ g, Core c.P c.N c.w0.heap.size c.ds g st a w → LRepAll g st w vs zs) (hone : ∀ v ∈ zs, v.oneCell' = true) (d : Option Tmp) {adv : Value} (hv : ∀ g, Core c.P c.N c.w0.heap.size c.ds g st a w → LRep g st w (.loc s gg o) adv) :
    ∃ blk w', adv = .pointer (some ⟨blk, o, none⟩) ∧ (storeCells ⟨blk, o, none⟩ zs).run c.P w = .ok () w' ∧
      Sim c (({ st with m := upd st.m s (some (gg, splice cs o vs)) } : St).put d .dead) (a.put d undef) w' := by
  obtain ⟨g, h, hk⟩ := h
  have hz := hz g h
  obtain ⟨g0, cs0, hs0, _, hadv⟩ := hv g h
  rw [hs] at hs0; cases hs0
  have hadv := hadv rfl
  obtain ⟨hB, hX, hF, vals, e, hb, hl, h1⟩ := h.lc s gg cs hs
  have hll := hl.length
  have hzl := hz.length
  have hrun := run_storeCells_at c.P (g.lb s) o e zs 0 vals.toArray w hb (by simp; omega) hone
  refine ⟨g.lb s, _, hadv, hrun, g, ?_, hk.setRow hF (.inl hB) _⟩
  simp only [Nat.add_zero]
  generalize hnew : (vals.take o ++ zs ++ vals.drop (o + zs.length)) = new
  have hle : GLe g st w g { st with m := upd st.m s (some (gg, splice cs o vs)) } (w.setRow (g.lb s) new.toArray) := by
    refine ⟨FLe.setRow hF _, fun s' gg' cs' hs' => ?_, fun s gg n e hs => ⟨gg, n, e, hs, .inr ⟨rfl, .inl ⟨rfl, rfl⟩⟩⟩⟩
    by_cases hd : s' = s
    · subst hd; rw [hs] at hs'; cases hs'
      exact ⟨gg, splice cs o vs, by simp [upd], .inr ⟨rfl, rfl⟩⟩
    · exact ⟨gg', cs', by simp [upd, hd, hs'], .inr ⟨rfl, rfl⟩⟩
  refine h.step d rfl hle trivial ?_ h.xf (by simpa using h.xb) (by simpa using h.fb) ?_ ?_ ?_ h.rds
  · intro b o' hb'
    obtain ⟨h2, h3⟩ := h.hp b o' hb'
    exact ⟨h2, ObjRep.mono' hle.F h2 (fun h2 => setRow_other w _ _ _ (fun e => hX (e ▸ h2))) (fun hz => setRow_other w _ _ _ (fun e => hF 0 (e ▸ hz 0))) h3⟩
  · intro s' gg' cs' hs'
    simp only [upd] at hs'
    by_cases hd : s' = s
    · subst hd
      simp only [if_true, Option.some.injEq, Prod.mk.injEq] at hs'
      obtain ⟨rfl, rfl⟩ := hs'
      refine ⟨hB, hX, hF, new, e, setRow_heap w _ _ _ _ _ hb, ?_, ?_⟩
      · have h9 := hl.splice (off := o) hz
        rw [hnew] at h9; exact h9.mono hle
      · rw [← hnew]
        intro v hv
        simp only [List.mem_append] at hv
        rcases hv with (hv | hv) | hv
        · exact h1 v (List.mem_of_mem_take hv)
        · exact hone v hv
        · exact h1 v (List.mem_of_mem_drop hv)
    · simp only [hd, if_false] at hs'
      obtain ⟨_, hx, hf, _⟩ := h.lc s' gg' cs' hs'
      exact h.lc_keep hle hs' rfl hx hf (setRow_other w _ _ _ (h.ld s' s hd (by simp [hs']) (by simp [hs])))
  · intro s1 s2 hne hs1 hs2
    refine h.ld s1 s2 hne (fun e => hs1 ?_) (fun e => hs2 ?_)
    · simp only [upd]; split
      · rename_i h9; subst h9; rw [hs] at e; cases e
      · exact e
    · simp only [upd]; split
      · rename_i h9; subst h9; rw [hs] at e; cases e
      · exact e
  · intro s' gg' n e1 hs'
    obtain ⟨z, xs, h3, h4, h5, h6⟩ := h.rws s' gg' n e1 hs'
    refine ⟨z, xs, h3, h4, ownsRow_same h5 (fun blk hb => setRow_other w _ _ _ (fun e => (h6 blk hb).2.2 s (by simp [hs]) e.symm)), fun blk hb => ?_⟩
    obtain ⟨h7, h8, h9⟩ := h6 blk hb
    refine ⟨h7, h8, fun s2 hs2 => h9 s2 (fun e => hs2 ?_)⟩
    simp only [upd]; split
    · rename_i h9; subst h9; rw [hs] at e; cases e
    · exact e

theorem Sim.storePtr {c : Ctx} {st a w} (h : Sim c st a w) {b o : Nat} {cs vs : List IV} {zs : List Value} (hs : st.h b = some (.cells cs)) (hlen : o + vs.length ≤ cs.length)
    (hz : ∀ g, Core c.P c.N c.w0.heap.size c.ds g st a w → RepAll g.F w vs zs) (hone : ∀ v ∈ zs, v.oneCell' = true) (d : Option Tmp) :
    ∃ w', (storeCells ⟨b, o, none⟩ zs).run c.P w = .ok () w' ∧
      Sim c (({ st with h := upd st.h b (some (.cells (splice cs o vs))) } : St).put d .dead) (a.put d undef) w' := by
  obtain ⟨g, h, hk⟩ := h
  have hz := hz g h
  obtain ⟨hX, pre, post, e, hb, hl, h1⟩ := h.hp b _ hs
  have hF : ∀ o, ¬ g.F b o := fun o hf => h.xf b o hX hf
  have hll := hl.length
  have hzl := hz.length
  have hrun := run_storeCells_at c.P b o e zs 0 (pre ++ post).toArray w hb (by simp; omega) hone
  refine ⟨_, hrun, g, ?_, hk.setRow hF (.inr hX) _⟩
  simp only [Nat.add_zero]
  have hnew : (pre ++ post).take o ++ zs ++ (pre ++ post).drop (o + zs.length) = (pre.take o ++ zs ++ pre.drop (o + zs.length)) ++ post := by
    rw [List.take_append_of_le_length (by omega), List.drop_append_of_le_length (by omega)]; simp
  have hle : GLe g st w g { st with h := upd st.h b (some (.cells (splice cs o vs))) } (w.setRow b ((pre ++ post).take o ++ zs ++ (pre ++ post).drop (o + zs.length)).toArray) :=
    ⟨FLe.setRow hF _, fun s gg cs1 hs => ⟨gg, cs1, hs, .inr ⟨rfl, rfl⟩⟩, fun s gg n e hs => ⟨gg, n, e, hs, .inr ⟨rfl, .inl ⟨rfl, rfl⟩⟩⟩⟩
  refine h.step d rfl hle trivial ?_ h.xf (by simpa using h.xb) (by simpa using h.fb) ?_ h.ld ?_ h.rds
  · intro b' o' hb'
    simp only [upd] at hb'
    by_cases hd : b' = b
    · subst hd
      simp only [if_true, Option.some.injEq] at hb'
      subst hb'
      refine ⟨hX, pre.take o ++ zs ++ pre.drop (o + zs.length), post, e, ?_, ?_, ?_⟩
      · rw [← hnew]; exact setRow_heap w _ _ _ _ _ hb
      · exact RepAll.mono hle.F _ _ (hl.splice hz)
      · intro v hv
        simp only [List.mem_append] at hv
        rcases hv with ((hv | hv) | hv) | hv
        · exact h1 v (List.mem_append_left _ (List.mem_of_mem_take hv))
        · exact hone v hv
        · exact h1 v (List.mem_append_left _ (List.mem_of_mem_drop hv))
        · exact h1 v (List.mem_append_right _ hv)
    · simp only [hd, if_false] at hb'
      obtain ⟨h2, h3⟩ := h.hp b' o' hb'
      exact ⟨h2, h3.mono hle.F (setRow_other w _ _ _ hd)⟩
  · intro s' gg' cs' hs'
    obtain ⟨_, hx, hf, _⟩ := h.lc s' gg' cs' hs'
    exact h.lc_keep hle hs' rfl hx hf (setRow_other w _ _ _ (fun e => hx (e ▸ hX)))
  · intro s' gg' n e1 hs'
    obtain ⟨z, xs, h3, h4, h5, h6⟩ := h.rws s' gg' n e1 hs'
    exact ⟨z, xs, h3, h4, ownsRow_same h5 (fun blk hb => setRow_other w _ _ _ (fun e => (h6 blk hb).1 (e ▸ hX))), h6⟩
end Go.Idl
