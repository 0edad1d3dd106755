/- This text is a part of the proofs of the statements of this seat: the ideal states and their rules, or what one of the functions that the statements reach comes to. Conditions: none beyond those that each theorem names. -/
import Derived.Test.YtiloboepepdcgaaM1
import Derived.WideShapes
set_option linter.unusedVariables false
set_option linter.unusedSimpArgs false
namespace Go.Proofs
open Go.Idl Go.RowKit Go.Maps Go.Sort Go.Shelf

/-- the keys of a map of numbers -/
def KeysOf (es : List (IV × IV)) (ks : List Int) : Prop := es.map (·.1) = ks.map fun k => .int .i64 k
def inR (k : Int) : Prop := -9223372036854775808 ≤ k ∧ k ≤ 9223372036854775807
/-- how the values of a map read, where nobody looks -/
def blindR : Value → Option (DataW Unit × List MemPlace) := fun _ => some (.lit (.bool true), [])

theorem rd_blind {x : MapEntry} {a : Int} (hk : x.key = .int .i64 a) (ha : inR a) : Go.WideElems.rd Try.prog 3 blindR x = some (.int .i64 a, .lit (.bool true)) := by
  have hw : (Lit.int .i64 a).wf = true := by
    simp only [inR] at ha
    simp only [Lit.wf, decide_eq_true_eq, Bool.and_eq_true]
    first | exact ⟨ha.1, ha.2⟩ | (simp [IntKind.min, IntKind.max, IntKind.bits, IntKind.signed]; omega)
  simp [Go.WideElems.rd, keyOf, mapKey, hk, Try.underlying3, hw, blindR]

theorem keys_rows {F : Nat → Nat → Prop} {w : World} : ∀ {es : List (IV × IV)} {ks : List Int} {ents : List MapEntry}, KeysOf es ks → (∀ k ∈ ks, inR k) → RepEnts F w es ents →
    (∀ x ∈ ents, ∃ y, Go.WideElems.rd Try.prog 3 blindR x = some y) ∧ (ents.map (Go.WideElems.rg Try.prog 3 blindR)).map (fun p => intOf p.1) = ks ∧ ents.length = ks.length
  | [], ks, ents, hk, _, he => by
    cases he
    cases ks with
    | nil => simp
    | cons k ks => cases hk
  | p :: r, ks, ents, hk, hr, he => by
    obtain ⟨e, es', rfl, h1, h2, h3⟩ := he
    cases ks with
    | nil => cases hk
    | cons k ks =>
      simp only [KeysOf, List.map_cons, List.cons.injEq] at hk
      obtain ⟨g1, g2⟩ := hk
      rw [g1] at h1
      obtain ⟨k1, k2, k3⟩ := keys_rows (es := r) (ks := ks) g2 (fun k hk => hr k (List.mem_cons_of_mem _ hk)) h3
      have hrd := rd_blind (x := e) (a := k) h1 (hr k (List.mem_cons_self))
      refine ⟨fun x hx => ?_, ?_, by simp [k3]⟩
      · rcases List.mem_cons.1 hx with rfl | hx
        · exact ⟨_, hrd⟩
        · exact k1 x hx
      · simp only [List.map_cons, k2, List.cons.injEq, and_true]
        rw [Go.WideElems.rg_of hrd]; rfl

theorem keys_it {ρ : Ren} (L : SlLaysZI.n10 Try.prog ρ) (hρ : ρ.t 26 = 3) (hen : Idl.Enters Try.prog (ρ.f 10)) {h : Heap} {b bx : Nat} {es : List (IV × IV)} {ks : List Int} (hm : h b = some (.map es)) (hbx : h bx = some (.cells [.mapv b])) (hk : KeysOf es ks) (hr : ∀ k ∈ ks, inR k) (hl : ks.length ≤ 1000000000) :
    ItOk (.fn (.func (ρ.f 10)) [] [.ptr bx 0]) h (fun ss => ss.Perm ks) ks.length := by
  refine ⟨_, _, rfl, hen, fun F X w lb hh hrep => ?_⟩
  obtain ⟨v, vs', hv, hv1, hv2⟩ := hrep
  cases hv1
  cases hv2
  have hlb : lb = #[.pointer (some ⟨bx, 0, none⟩)] := by apply Array.ext'; exact hv
  subst hlb
  obtain ⟨hX, ents, clock, hb, hre, hst⟩ := hh.hp b _ hm
  obtain ⟨hXb, pre, post, e, hbb, hrp, _⟩ := hh.hp bx _ hbx
  obtain ⟨u, us, rfl, hu, hus⟩ := hrp
  cases hu
  cases hus
  have hcell : w.cell? ⟨bx, 0, none⟩ = some (.map (some b)) := by rw [cell_at hbb]; rfl
  obtain ⟨k1, k2, k3⟩ := keys_rows hk hr hre
  have hown : w.ownsMap Try.prog (ρ.t 26) blindR b ents.length (.map ((ents.map (Go.WideElems.rg Try.prog (ρ.t 26) blindR)).foldr DataW.insert [])) := by
    refine ⟨ents.toArray, clock, hb, ⟨?_, hst, ?_⟩, by simp, by simp⟩
    · simp only [List.size_toArray, maxLen]; omega
    · rw [hρ]; simpa using k1
  have hg := AnyZI.keys_gives L Fence.wide 8 trivial rfl (by omega) bx b ents.length _ w (hh.xb bx hXb) hcell hown
  rw [hρ] at hg
  have hperm : (intKeys (DataW.map ((ents.map (Go.WideElems.rg Try.prog 3 blindR)).foldr DataW.insert []))).Perm ks := by
    rw [← k2]
    exact (Go.WideShapes.sorted_perm _).map _
  have hsize : Maps.size (DataW.map ((ents.map (Go.WideElems.rg Try.prog 3 blindR)).foldr DataW.insert [])) = ks.length := by
    rw [← hperm.length_eq]; simp [Maps.size, intKeys]
  rw [hsize] at hg
  have hS : (fun ss : List Int => ss.Perm (intKeys (DataW.map ((ents.map (Go.WideElems.rg Try.prog 3 blindR)).foldr DataW.insert [])))) = fun ss => ss.Perm ks := by
    funext ss
    exact propext ⟨fun h => h.trans hperm, fun h => h.trans hperm.symm⟩
  rw [hS] at hg
  exact SeqGives.b hg
end Go.Proofs
