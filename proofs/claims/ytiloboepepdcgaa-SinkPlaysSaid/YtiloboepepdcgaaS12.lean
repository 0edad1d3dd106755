/- This text is a part of the proofs of the statements of this seat: the ideal states and their rules, or what one of the functions that the statements reach comes to. Conditions: none beyond those that each theorem names. -/
import Derived.Test.YtiloboepepdcgaaS11
set_option linter.unusedVariables false
set_option linter.unusedSimpArgs false
set_option pp.deepTerms false
set_option pp.maxSteps 400
namespace Go.Proofs
open Go.Idl
open Go.Sort (swp ltInt PermIn SortedIn insertionSort heapSort partition partitionEqual partialInsertionSort choosePivot reverseRange)

def pdqR (d : Array Int) (a b bk cap : Nat) (h : Heap) (e : IEnd) (h' : Heap) : Prop := ∃ d' : Array Int, PermIn a b d d' ∧ SortedIn ltInt a b d' ∧ retP (.tup []) (SH h bk cap d') e h'
/-- what is left to be sorted, when the rest stands -/
structure Left (a b : Nat) (d : Array Int) (a1 b1 : Nat) (d1 : Array Int) : Prop where
  la : a ≤ a1
  lb : b1 ≤ b
  ab : a1 ≤ b1
  sz : d1.size = d.size
  bl : Go.Sort.Below ltInt a1 b1 d1
  go : ∀ d', PermIn a1 b1 d1 d' → SortedIn ltInt a1 b1 d' → PermIn a b d d' ∧ SortedIn ltInt a b d'
theorem Left.perm {a b : Nat} {d : Array Int} {a1 b1 : Nat} {d1 d2 : Array Int} (h : Left a b d a1 b1 d1) (hb : b ≤ d.size) (hp : PermIn a1 b1 d1 d2) : Left a b d a1 b1 d2 :=
  ⟨h.la, h.lb, h.ab, by rw [hp.1, h.sz], Go.Sort.Below.perm h.bl (by rw [h.sz]; have := h.lb; omega) hp, fun d' h1 h2 => h.go d' (Go.Sort.permIn_trans _ _ _ _ _ hp h1) h2⟩
theorem Left.eq {a b : Nat} {d : Array Int} {a1 b1 pv mid : Nat} {d1 d2 : Array Int} (h : Left a b d a1 b1 d1) (hb : b ≤ d.size) (h0 : 0 < a1) (hp1 : a1 ≤ pv) (hp2 : pv < b1) (hnl : ltInt d1[a1 - 1]! d1[pv]! = false) (hx : partitionEqual ltInt d1 a1 b1 pv = (mid, d2)) :
    a1 < mid ∧ Left a b d mid b1 d2 := by
  obtain ⟨h1, h2, h3, h4, h5⟩ := Go.Sort.round_eq Go.Sort.swo_ltInt (Go.Sort.partitionEqual_holds ltInt) h0 hp1 hp2 (by rw [h.sz]; have := h.lb; omega) h.bl hnl hx
  exact ⟨h1, ⟨by have := h.la; omega, h.lb, h2, by rw [h3, h.sz], h4, fun d' k1 k2 => let ⟨m1, m2⟩ := h5 d' k1 k2; h.go d' m1 m2⟩⟩

theorem ifER {P : Program} {hint : Nat → Nat} {a b : Code} {Q : IExit → St → Prop} {st : St} {t : Bool} (M MM : Nat → Bool) (E : St → Prop)
    (h : ∀ Q2 : IExit → St → Prop, (∀ s', Fr M MM st s' → E s' → Q2 .normal s') → (∀ s', Q .ret s' → Q2 .ret s') → condK t (ifC P hint a b Q2 st)) (hrest : ∀ s', Fr M MM st s' → E s' → Q .normal s') : condK t (ifC P hint a b Q st) := h Q hrest fun _ h => h

theorem Left.part {a b : Nat} {d : Array Int} {a1 b1 pv mid : Nat} {ap : Bool} {d1 d2 : Array Int} (h : Left a b d a1 b1 d1) (hb : b ≤ d.size) (hp1 : a1 ≤ pv) (hp2 : pv < b1) (hx : partition ltInt d1 a1 b1 pv = (mid, ap, d2)) :
    a1 ≤ mid ∧ mid < b1 ∧ d2.size = d.size ∧ Go.Sort.Below ltInt a1 mid d2 ∧ Go.Sort.Below ltInt (mid + 1) b1 d2 ∧
    (∀ L, PermIn a1 mid d2 L → SortedIn ltInt a1 mid L → Left a b d (mid + 1) b1 L) ∧ (∀ L, PermIn (mid + 1) b1 d2 L → SortedIn ltInt (mid + 1) b1 L → Left a b d a1 mid L) := by
  have hlb := h.lb
  have hla := h.la
  obtain ⟨h1, h2, h3, h4, h5, h6, h7⟩ := Go.Sort.round_part Go.Sort.swo_ltInt (Go.Sort.partition_holds ltInt) hp1 hp2 (by rw [h.sz]; omega) h.bl hx
  refine ⟨h1, h2, by rw [h3, h.sz], h4, h5, fun L k1 k2 => ?_, fun L k1 k2 => ?_⟩
  · obtain ⟨m1, m2⟩ := h6 L k1 k2
    exact ⟨by omega, hlb, by omega, by rw [k1.1, h3, h.sz], m1, fun d' n1 n2 => let ⟨p1, p2⟩ := m2 d' n1 n2; h.go d' p1 p2⟩
  · obtain ⟨m1, m2⟩ := h7 L k1 k2
    exact ⟨hla, by omega, h1, by rw [k1.1, h3, h.sz], m1, fun d' n1 n2 => let ⟨p1, p2⟩ := m2 d' n1 n2; h.go d' p1 p2⟩

theorem seq1E {P : Program} {hint : Nat → Nat} {A C : Code} {Q : IExit → St → Prop} {st : St} (M MM : Nat → Bool) (E : St → Prop)
    (h : ∀ Q2 : IExit → St → Prop, (∀ s', Fr M MM st s' → E s' → Q2 .normal s') → (∀ s', Q .ret s' → Q2 .ret s') → iwp P hint A Q2 st) (hrest : ∀ s', Fr M MM st s' → E s' → iwp P hint C Q s') :
    iwp P hint (.seq A C) Q st := h (seqQ (iwp P hint C Q) Q) hrest (fun _ h => h)
theorem seq1F {P : Program} {hint : Nat → Nat} {A C : Code} {Q : IExit → St → Prop} {st : St} (M MM : Nat → Bool) (E : St → Prop)
    (h : ∀ Q2 : IExit → St → Prop, (∀ s', Fr M MM st s' → E s' → Q2 .normal s') → (∀ id s', Q (.exit id) s' → Q2 (.exit id) s') → iwp P hint A Q2 st) (hrest : ∀ s', Fr M MM st s' → E s' → iwp P hint C Q s') :
    iwp P hint (.seq A C) Q st := h (seqQ (iwp P hint C Q) Q) hrest (fun _ _ h => h)
/-- a region, its test, and the rest: what holds behind the test is said once -/
theorem seq2E {P : Program} {hint : Nat → Nat} {A B C : Code} {Q : IExit → St → Prop} {st : St} (M MM : Nat → Bool) (E : St → Prop)
    (h : ∀ Q2 : IExit → St → Prop, (∀ s', Fr M MM st s' → E s' → Q2 .normal s') → (∀ s', Q .ret s' → Q2 .ret s') → iwp P hint A (seqQ (iwp P hint B Q2) Q2) st) (hrest : ∀ s', Fr M MM st s' → E s' → iwp P hint C Q s') :
    iwp P hint (.seq A (.seq B C)) Q st := by
  have := h (seqQ (iwp P hint C Q) Q) hrest (fun _ h => h)
  have e : seqQ (iwp P hint B (seqQ (iwp P hint C Q) Q)) (seqQ (iwp P hint C Q) Q) = seqQ (iwp P hint (.seq B C) Q) Q := by
    funext e s
    cases e <;> rfl
  rw [e] at this
  exact this

set_option maxRecDepth 20000 in
set_option maxHeartbeats 8000000 in
theorem pdq_c : ∀ (m a b lim : Nat) (d : Array Int) (bk cap : Nat) (h : Heap), b - a ≤ m → a ≤ b → b ≤ d.size → d.size < 10000000000 → lim < 1000 → Go.Sort.Below ltInt a b d →
    ICall Try.prog 89 [.sl 1 bk 0 d.size cap, .int .i64 a, .int .i64 b, .int .i64 lim] (SH h bk cap d) (pdqR d a b bk cap h) := by
  intro m
  induction m using Nat.strongRecOn with
  | _ m ih =>
  intro a b lim d bk cap h hm hab hb hs hlim hbl
  obtain ⟨n, hn⟩ : ∃ n, n = d.size := ⟨_, rfl⟩
  rw [← hn] at hb hs ⊢
  refine icall_of_iwp (fun _ => 0) Try.func89 rfl (by kernel_rfl) (Nat.le_of_ble_eq_true rfl) ?_
  rw [Try.results89]
  simp -implicitDefEqProofs [go_sem]
  refine iwp_loopF (rng [1,2,3,8,9,10,11,12,13,14,15,16,17,18] 19 134) nom (fun s => ∃ (a1 b1 l1 : Nat) (d1 : Array Int) (wb wp : Bool), l1 < 1000 ∧ Left a b d a1 b1 d1 ∧ s.t 1 = .int .i64 a1 ∧ s.t 2 = .int .i64 b1 ∧ s.t 3 = .int .i64 l1 ∧ s.t 8 = .bool wb ∧ s.t 9 = .bool wp ∧ s.h = SH h bk cap d1) (fun s => tn (s.t 2) - tn (s.t 1)) ?_ ?_
  · exact ⟨a, b, lim, d, true, true, hlim, ⟨Nat.le_refl _, Nat.le_refl _, hab, rfl, hbl, fun d' h1 h2 => ⟨h1, h2⟩⟩, by simp -implicitDefEqProofs [go_sem], by simp -implicitDefEqProofs [go_sem], by simp -implicitDefEqProofs [go_sem], by simp -implicitDefEqProofs [go_sem], by simp -implicitDefEqProofs [go_sem], by simp -implicitDefEqProofs [go_sem]⟩
  rintro J s1 hJ hf1 ⟨a1, b1, l1, d1, wb, wp, hl1, HL, h1, h2, h3, h8, h9, hh⟩
  have hla := HL.la
  have hlb := HL.lb
  have hlab := HL.ab
  have hsz1 : d1.size = n := by rw [HL.sz, hn]
  have hw1 : IntKind.i64.wrap ((b1 : Int) - (a1 : Int)) = ((b1 - a1 : Nat) : Int) := by rw [wrap_in (by omega)]; omega
  simp -implicitDefEqProofs [go_sem, h1, h2, h3, h8, h9, hh, hf1.t, hf1.m, hw1]
  refine cK_dec (fun h12 => ?_) (fun h12 => ?_)
  · have hc := insSort_c d1 a1 b1 bk cap h (by omega) (by omega) (by omega)
    rw [hsz1] at hc
    simp -implicitDefEqProofs [go_sem, h1, h2, hh, hf1.t, hf1.m]
    refine ICall.mono hc ?_
    rintro e h' ⟨rfl, he⟩
    rw [he]
    simp -implicitDefEqProofs [go_sem]
    obtain ⟨k1, k2⟩ := Go.Sort.insertionSort_holds Go.Sort.swo_ltInt d1 a1 b1 hlab (by omega)
    obtain ⟨m1, m2⟩ := HL.go _ k1 k2
    exact ⟨_, Sub.refl _, _, m1, m2, rfl, rfl⟩
  simp -implicitDefEqProofs [go_sem, h1, h2, h3, hh, hf1.t, hf1.m]
  refine cK_beq (fun hz => ?_) (fun hz => ?_)
  · have hc := heapSort_c d1 a1 b1 bk cap h (by omega) (by omega) (by omega)
    rw [hsz1] at hc
    simp -implicitDefEqProofs [go_sem, h1, h2, hh, hf1.t, hf1.m]
    refine ICall.mono hc ?_
    rintro e h' ⟨rfl, he⟩
    rw [he]
    simp -implicitDefEqProofs [go_sem]
    obtain ⟨k1, k2⟩ := Go.Sort.heapSort_holds Go.Sort.swo_ltInt d1 a1 b1 hlab (by omega)
    obtain ⟨m1, m2⟩ := HL.go _ k1 k2
    exact ⟨_, Sub.refl _, _, m1, m2, rfl, rfl⟩
  have hlz : 1 ≤ l1 := by omega
  have hwl : IntKind.i64.wrap ((l1 : Int) - 1) = ((l1 - 1 : Nat) : Int) := by rw [wrap_in (by omega)]; omega
  simp -implicitDefEqProofs [go_sem, h1, h2, h3, h8, hh, hf1.t, hf1.m]
  refine ifE (rng [3] 36 42) nom (fun s => ∃ (l2 : Nat) (d2 : Array Int), l2 < 1000 ∧ PermIn a1 b1 d1 d2 ∧ s.t 3 = .int .i64 l2 ∧ s.h = SH h bk cap d2) ?_ ?_
  · intro Q2 hE
    refine cK_any (fun k1 => ?_) (fun k1 => ?_)
    · have hc := breakPatterns_c d1 a1 b1 bk cap h (by omega) (by omega) (by omega)
      rw [hsz1] at hc
      simp -implicitDefEqProofs [go_sem, h1, h2, h3, hh, hf1.t, hf1.m]
      refine ICall.mono hc ?_
      rintro e h' ⟨d2, hP, rfl, he⟩
      rw [he]
      simp -implicitDefEqProofs [go_sem, h1, h2, h3, hh, hf1.t, hf1.m, hwl]
      exact hE _ (by simp -implicitDefEqProofs [go_sem]) ⟨l1 - 1, d2, by omega, hP, by simp -implicitDefEqProofs [go_sem, hwl], by simp -implicitDefEqProofs [go_sem]⟩
    · simp -implicitDefEqProofs [go_sem]
      exact hE _ (by simp -implicitDefEqProofs [go_sem]) ⟨l1, d1, hl1, Go.Sort.permIn_refl d1 a1 b1, by simp -implicitDefEqProofs [go_sem, h3], by simp -implicitDefEqProofs [go_sem, hh]⟩
  rintro s2 hf2 ⟨l2, d2, hl2, hP2, h32, hh2⟩
  have HL2 := HL.perm (by omega) hP2
  have hsz2 : d2.size = n := by rw [HL2.sz, hn]
  have hfa := Fr.trans2 hf1 hf2 (by simp -implicitDefEqProofs [go_sem]) (rng_sub (by decide)) nom_sub
  simp -implicitDefEqProofs [go_sem, h1, h2, hh2, hf2.t, hf2.m, hf1.t, hf1.m]
  have hcp := choosePivot_c d2 a1 b1 bk cap h (by omega) (by omega) (by omega)
  rw [hsz2] at hcp
  refine ICall.mono hcp ?_
  rintro e h' ⟨rfl, he⟩
  rw [he]
  obtain ⟨cp, hcpd⟩ : ∃ x, x = choosePivot ltInt d2 a1 b1 := ⟨_, rfl⟩
  rw [← hcpd]
  obtain ⟨hp1, hp2⟩ := Go.Sort.choosePivot_holds ltInt d2 a1 b1 (by omega)
  rw [← hcpd] at hp1 hp2
  simp -implicitDefEqProofs [go_sem, h1, h2, hh2, hf2.t, hf2.m, hf1.t, hf1.m]
  refine ifE (rng [11,12] 51 61) nom (fun s => ∃ (pv : Nat) (hv : Int) (d3 : Array Int), a1 ≤ pv ∧ pv < b1 ∧ PermIn a1 b1 d1 d3 ∧ s.t 11 = .int .i64 pv ∧ s.t 12 = .int .i64 hv ∧ s.h = SH h bk cap d3) ?_ ?_
  · intro Q2 hE
    refine cK_beq (fun k1 => ?_) (fun k1 => ?_)
    · have hc := reverseRange_c d2 a1 b1 bk cap h (by omega) (by omega) (by omega)
      rw [hsz2] at hc
      obtain ⟨p, hp⟩ : ∃ x, x = b1 - 1 := ⟨_, rfl⟩
      obtain ⟨o, ho⟩ : ∃ x, x = cp.1 - a1 := ⟨_, rfl⟩
      obtain ⟨pv, hpv⟩ : ∃ x, x = p - o := ⟨_, rfl⟩
      have w1 : IntKind.i64.wrap ((b1 : Int) - 1) = (p : Int) := by rw [wrap_in (by omega)]; omega
      have w2 : IntKind.i64.wrap ((cp.1 : Int) - (a1 : Int)) = (o : Int) := by rw [wrap_in (by omega)]; omega
      have w3 : IntKind.i64.wrap ((p : Int) - (o : Int)) = (pv : Int) := by rw [wrap_in (by omega)]; omega
      simp -implicitDefEqProofs [go_sem, h1, h2, hh2, hf2.t, hf2.m, hf1.t, hf1.m]
      refine ICall.mono hc ?_
      rintro e h' ⟨rfl, he⟩
      rw [he]
      simp -implicitDefEqProofs [go_sem, h1, h2, hh2, hf2.t, hf2.m, hf1.t, hf1.m, w1, w2, w3]
      exact hE _ (by simp -implicitDefEqProofs [go_sem]) ⟨pv, 1, reverseRange d2 a1 b1, by omega, by omega, Go.Sort.permIn_trans _ _ _ _ _ hP2 (Go.Sort.reverseRange_holds d2 a1 b1 hlab (by omega)), by simp -implicitDefEqProofs [go_sem], by simp -implicitDefEqProofs [go_sem], by simp -implicitDefEqProofs [go_sem]⟩
    · simp -implicitDefEqProofs [go_sem]
      exact hE _ (by simp -implicitDefEqProofs [go_sem]) ⟨cp.1, hintN cp.2, d2, hp1, hp2, hP2, by simp -implicitDefEqProofs [go_sem], by simp -implicitDefEqProofs [go_sem], by simp -implicitDefEqProofs [go_sem]⟩
  rintro s3 hf3 ⟨pv, hv, d3, hpv1, hpv2, hP3, h11, h12', hh3⟩
  show iwp _ _ (Code.seq _ _) _ _
  have HL3 := HL.perm (by omega) hP3
  have hsz3 : d3.size = n := by rw [HL3.sz, hn]
  refine seq1E (rng [] 61 73) nom (fun s => ∃ d4 : Array Int, PermIn a1 b1 d1 d4 ∧ s.h = SH h bk cap d4) ?_ ?_
  · intro Q2 hE hR
    have hpi := partialIns_c d3 a1 b1 bk cap h (by omega) (by omega) (by omega)
    rw [hsz3] at hpi
    have hph := Go.Sort.partialInsertionSort_holds Go.Sort.swo_ltInt d3 a1 b1 (by omega) (by omega) HL3.bl
    by_cases hv1 : hv = 1
    · cases wb
      · simp -implicitDefEqProofs [go_sem, h8, h9, h11, h12', hv1, hh3, hf3.t, hf3.m, hf2.t, hf2.m, hf1.t, hf1.m]
        exact hE _ (by simp -implicitDefEqProofs [go_sem]) ⟨d3, hP3, by simp -implicitDefEqProofs [go_sem, hh3]⟩
      · cases wp
        · simp -implicitDefEqProofs [go_sem, h8, h9, h11, h12', hv1, hh3, hf3.t, hf3.m, hf2.t, hf2.m, hf1.t, hf1.m]
          exact hE _ (by simp -implicitDefEqProofs [go_sem]) ⟨d3, hP3, by simp -implicitDefEqProofs [go_sem, hh3]⟩
        · simp -implicitDefEqProofs [go_sem, h1, h2, h8, h9, h11, h12', hv1, hh3, hf3.t, hf3.m, hf2.t, hf2.m, hf1.t, hf1.m]
          refine ICall.mono hpi ?_
          rintro e h' ⟨rfl, he⟩
          rw [he]
          simp -implicitDefEqProofs [go_sem]
          refine cK_any (fun k1 => ?_) (fun k1 => ?_) <;> simp -implicitDefEqProofs [go_sem]
          · refine hR _ ?_
            obtain ⟨m1, m2⟩ := HL3.go _ hph.1 (hph.2 k1)
            simp -implicitDefEqProofs [go_sem]
            exact ⟨_, Sub.refl _, _, m1, m2, rfl, rfl⟩
          · exact hE _ (by simp -implicitDefEqProofs [go_sem]) ⟨_, Go.Sort.permIn_trans _ _ _ _ _ hP3 hph.1, by simp -implicitDefEqProofs [go_sem]⟩
    · have hv2 : (hv == 1) = false := by simpa using hv1
      cases wb
      · simp -implicitDefEqProofs [go_sem, h8, h9, h11, h12', hv2, hh3, hf3.t, hf3.m, hf2.t, hf2.m, hf1.t, hf1.m]
        exact hE _ (by simp -implicitDefEqProofs [go_sem]) ⟨d3, hP3, by simp -implicitDefEqProofs [go_sem, hh3]⟩
      · cases wp
        · simp -implicitDefEqProofs [go_sem, h8, h9, h11, h12', hv2, hh3, hf3.t, hf3.m, hf2.t, hf2.m, hf1.t, hf1.m]
          exact hE _ (by simp -implicitDefEqProofs [go_sem]) ⟨d3, hP3, by simp -implicitDefEqProofs [go_sem, hh3]⟩
        · simp -implicitDefEqProofs [go_sem, h8, h9, h11, h12', hv2, hh3, hf3.t, hf3.m, hf2.t, hf2.m, hf1.t, hf1.m]
          exact hE _ (by simp -implicitDefEqProofs [go_sem]) ⟨d3, hP3, by simp -implicitDefEqProofs [go_sem, hh3]⟩
  rintro s4 hf4 ⟨d4, hP4, hh4⟩
  have HL4 := HL.perm (by omega) hP4
  have hsz4 : d4.size = n := by rw [HL4.sz, hn]
  have hfb := Fr.trans2 hfa hf3 (by simp -implicitDefEqProofs [go_sem]) (rng_sub (by decide)) nom_sub
  have hfc := Fr.trans2 hfb hf4 (by simp -implicitDefEqProofs [go_sem]) (rng_sub (by decide)) nom_sub
  have e1 : s4.t 1 = .int .i64 a1 := by rw [hf4.t 1 rfl, hf3.t 1 rfl]; simp -implicitDefEqProofs [go_sem, hf2.t, h1]
  have e2 : s4.t 2 = .int .i64 b1 := by rw [hf4.t 2 rfl, hf3.t 2 rfl]; simp -implicitDefEqProofs [go_sem, hf2.t, h2]
  have e3 : s4.t 3 = .int .i64 l2 := by rw [hf4.t 3 rfl, hf3.t 3 rfl]; simp -implicitDefEqProofs [go_sem, h32]
  have e11 : s4.t 11 = .int .i64 pv := by rw [hf4.t 11 rfl]; exact h11
  have e0 : s4.t 0 = .sl 1 bk 0 n cap := by rw [hf4.t 0 rfl, hf3.t 0 rfl]; simp -implicitDefEqProofs [go_sem, hf2.t, hf1.t]
  have e8 : s4.t 8 = .bool wb := by rw [hf4.t 8 rfl, hf3.t 8 rfl]; simp -implicitDefEqProofs [go_sem, hf2.t, h8]
  have e9 : s4.t 9 = .bool wp := by rw [hf4.t 9 rfl, hf3.t 9 rfl]; simp -implicitDefEqProofs [go_sem, hf2.t, h9]
  show iwp _ _ (Code.seq _ _) _ _
  refine seq1F (rng [1,13] 73 94) nom (fun s => s.t 1 = .int .i64 a1 ∧ s.h = SH h bk cap d4) ?_ ?_
  · intro Q2 hE hX
    simp -implicitDefEqProofs [go_sem]
    refine iwp_drawn_of mixed [0,1,2,3,4,5,6,7,8,9,10,11,12,13,14] (by kernel_rfl) ?_
    simp -implicitDefEqProofs [go_sem, e0, e1, e2, e11, hh4]
    refine cK_dec (fun ha0 => ?_) (fun ha0 => ?_)
    · obtain ⟨k, hk⟩ : ∃ k, a1 = k + 1 := ⟨a1 - 1, by omega⟩
      have hw1' : IntKind.i64.wrap ((a1 : Int) - 1) = (k : Int) := by rw [wrap_in (by omega)]; omega
      have hg1 := rowsD_get (d := d4) (i := k) (by omega)
      have hg0 := rowsD_get (d := d4) (i := pv) (by omega)
      have hl1' : k < n := by omega
      have hl0 : pv < n := by omega
      simp -implicitDefEqProofs [go_sem, e0, e1, e2, e11, hh4, ha0, hw1', hg1, hg0, hl1', hl0, SH_at]
      refine ⟨_, less_c _ _ _, ?_⟩
      simp -implicitDefEqProofs [go_sem, e0, e1, e2, e11, hh4, ha0, hw1', hg1, hg0, hl1', hl0, SH_at]
      have hpe := partitionEqual_c d4 a1 b1 pv bk cap h hpv1 hpv2 (by omega) (by omega)
      rw [hsz4] at hpe
      refine cK_any (fun k1 => ?_) (fun k1 => ?_)
      · simp -implicitDefEqProofs [go_sem, e0, e1, e2, e11, hh4]
        refine ICall.mono hpe ?_
        rintro e h' ⟨rfl, he⟩
        rw [he]
        obtain ⟨pe, hpeq⟩ : ∃ x, x = partitionEqual ltInt d4 a1 b1 pv := ⟨_, rfl⟩
        rw [← hpeq]
        simp -implicitDefEqProofs [go_sem]
        refine hX _ _ ?_
        obtain ⟨hm1, hm2⟩ := HL4.eq (by omega) (by omega) hpv1 hpv2 (by rw [hk]; simpa [hk] using k1) (show partitionEqual ltInt d4 a1 b1 pv = (pe.1, pe.2) from by rw [← hpeq])
        have hm3 := hm2.ab
        simp -implicitDefEqProofs [go_sem, hfc]
        exact hJ _ ⟨pe.1, b1, l2, pe.2, wb, wp, hl2, hm2, by simp -implicitDefEqProofs [go_sem], by simp -implicitDefEqProofs [go_sem, e2], by simp -implicitDefEqProofs [go_sem, e3], by simp -implicitDefEqProofs [go_sem, e8], by simp -implicitDefEqProofs [go_sem, e9], by simp -implicitDefEqProofs [go_sem]⟩ (by simp [go_sem, e2, h1, h2]; omega)
      · simp -implicitDefEqProofs [go_sem]
        exact hE _ (by simp -implicitDefEqProofs [go_sem]) ⟨by simp -implicitDefEqProofs [go_sem, e1], by simp -implicitDefEqProofs [go_sem, hh4]⟩
    · simp -implicitDefEqProofs [go_sem, e0, e1, e2, e11, hh4, ha0]
      exact hE _ (by simp -implicitDefEqProofs [go_sem]) ⟨by simp -implicitDefEqProofs [go_sem, e1], by simp -implicitDefEqProofs [go_sem, hh4]⟩
  rintro s5 hf5 ⟨i1, hh5⟩
  have i2 : s5.t 2 = .int .i64 b1 := by rw [hf5.t 2 rfl]; exact e2
  have i3 : s5.t 3 = .int .i64 l2 := by rw [hf5.t 3 rfl]; exact e3
  have i11 : s5.t 11 = .int .i64 pv := by rw [hf5.t 11 rfl]; exact e11
  have i0 : s5.t 0 = .sl 1 bk 0 n cap := by rw [hf5.t 0 rfl]; exact e0
  have i10 : s5.t 10 = .int .i64 ((b1 - a1 : Nat) : Int) := by
    rw [hf5.t 10 rfl, hf4.t 10 rfl, hf3.t 10 rfl]; simp -implicitDefEqProofs [go_sem, hf2.t]
  have hfd := Fr.trans2 hfc hf5 (by simp -implicitDefEqProofs [go_sem]) (rng_sub (by decide)) nom_sub
  have hpc := partition_c d4 a1 b1 pv bk cap h hpv1 hpv2 (by omega) (by omega)
  rw [hsz4] at hpc
  obtain ⟨pp, hpp⟩ : ∃ x, x = partition ltInt d4 a1 b1 pv := ⟨_, rfl⟩
  rw [← hpp] at hpc
  obtain ⟨mid, ap, d5⟩ := pp
  obtain ⟨g1, g2, g3, g4, g5, g6, g7⟩ := HL4.part (by omega) hpv1 hpv2 hpp.symm
  have hsz5 : d5.size = n := by rw [g3, hn]
  have w1 : IntKind.i64.wrap ((mid : Int) - (a1 : Int)) = ((mid - a1 : Nat) : Int) := by rw [wrap_in (by omega)]; omega
  have w2 : IntKind.i64.wrap ((b1 : Int) - (mid : Int)) = ((b1 - mid : Nat) : Int) := by rw [wrap_in (by omega)]; omega
  have w3 : IntKind.i64.wrap ((mid : Int) + 1) = ((mid + 1 : Nat) : Int) := wrap_succ (by omega)
  simp -implicitDefEqProofs [go_sem, i0, i1, i2, i3, i10, i11, hh5]
  refine ICall.mono hpc ?_
  rintro e h' ⟨rfl, he⟩
  rw [he]
  simp -implicitDefEqProofs [go_sem, i0, i1, i2, i3, i10, i11, hh5, w1, w2]
  have hszd : d5.size = d.size := by rw [g3]
  refine cK_dec (fun k1 => ?_) (fun k1 => ?_)
  · have hc := ih (mid - a1) (by omega) a1 mid l2 d5 bk cap h (Nat.le_refl _) g1 (by omega) (by omega) hl2 g4
    rw [hsz5] at hc
    simp -implicitDefEqProofs [go_sem, i0, i1, i2, i3]
    refine ICall.mono hc ?_
    rintro e h' ⟨d6, p1, p2, rfl, he⟩
    rw [he]
    have HL6 := g6 d6 p1 p2
    have := HL6.ab
    simp -implicitDefEqProofs [go_sem, i0, i1, i2, i3, hfd, w3]
    exact hJ _ ⟨mid + 1, b1, l2, d6, _, ap, hl2, HL6, by simp -implicitDefEqProofs [go_sem, w3], by simp -implicitDefEqProofs [go_sem, i2], by simp -implicitDefEqProofs [go_sem, i3], by simp -implicitDefEqProofs [go_sem]; rfl, by simp -implicitDefEqProofs [go_sem], by simp -implicitDefEqProofs [go_sem]⟩ (by simp [go_sem, i2, h1, h2, w3]; omega)
  · have hc := ih (b1 - (mid + 1)) (by omega) (mid + 1) b1 l2 d5 bk cap h (Nat.le_refl _) (by omega) (by omega) (by omega) hl2 g5
    rw [hsz5] at hc
    simp -implicitDefEqProofs [go_sem, i0, i1, i2, i3, w3]
    refine ICall.mono hc ?_
    rintro e h' ⟨d6, p1, p2, rfl, he⟩
    rw [he]
    have HL6 := g7 d6 p1 p2
    have := HL6.ab
    simp -implicitDefEqProofs [go_sem, i0, i1, i2, i3, hfd, w3]
    exact hJ _ ⟨a1, mid, l2, d6, _, ap, hl2, HL6, by simp -implicitDefEqProofs [go_sem, i1], by simp -implicitDefEqProofs [go_sem], by simp -implicitDefEqProofs [go_sem, i3], by simp -implicitDefEqProofs [go_sem]; rfl, by simp -implicitDefEqProofs [go_sem], by simp -implicitDefEqProofs [go_sem]⟩ (by simp [go_sem, i1, h1, h2, w3]; omega)
end Go.Proofs
