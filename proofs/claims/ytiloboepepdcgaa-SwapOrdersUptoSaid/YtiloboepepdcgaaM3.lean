/- This text is a part of the proofs of the statements of this seat: the ideal states and their rules, or what one of the functions that the statements reach comes to. Conditions: none beyond those that each theorem names. -/
import Derived.Test.YtiloboepepdcgaaM1
import Derived.RangeFuncBox
import Derived.RangeFuncLeaves
import Derived.OwnWalkIn
import Derived.TacticsInMore
import Derived.LoopNIn
import Derived.LoopIn
set_option linter.unusedVariables false
set_option linter.unusedSimpArgs false
namespace Go.Proofs
open Go.Idl Go.RowKit Go.Maps Go.Sort Go.Shelf
attribute [local go_sem] Oper.semAt_some

/-- what has come when k rounds are over -/
def uptoF (f : Nat → Int) (k : Nat) : List Int := (List.range k).map f
theorem uptoF_succ (f : Nat → Int) (k : Nat) : uptoF f (k + 1) = uptoF f k ++ [f k] := by simp [uptoF, List.range_succ]
theorem uptoF_length (f : Nat → Int) (k : Nat) : (uptoF f k).length = k := by simp [uptoF]
theorem uptoF_all (zs : List Int) : uptoF (fun j => zs[j]?.getD 0) zs.length = zs := by
  apply List.ext_getElem
  · simp [uptoF]
  · intro i h1 h2
    simp [uptoF, h2]

set_option maxRecDepth 100000 in
set_option maxHeartbeats 2000000 in
/-- the closure of slices.Values -/
theorem values1_in (F : Fence) (n : Nat) (h7 : F.fn 81) (hro : F.round = none) (hn : 1 ≤ n) (l Bs b off cap len : Nat) (f : Nat → Int) (hreach : len * 8 ≤ 140737488351232) (J : List Int → World → Prop) (n₀ : Nat) (hb : b < n₀)
    (hY : ∀ pre x W, J pre W → pre.length < len → YieldAt F (n - 1) Try.prog l #[.int .i64 x] W fun e W' => e = .returned (.bool true) ∧ J (pre ++ [x]) W' ∧ Below n₀ W W')
    (W : World) (hBs : W.cell? ⟨Bs, 0, none⟩ = some (.slice (some ⟨b, off, none⟩) len cap)) (hc : ∀ j, j < len → W.cell? ⟨b, off + j, none⟩ = some (.int .i64 (f j))) (h0 : J [] W) :
    CallsIn F n Try.prog 81 #[.func (.yield l) #[] #[], .pointer (some ⟨Bs, 0, none⟩)] W fun e W' => (∃ v, e = .returned v) ∧ J (uptoF f len) W' := by
  refine callsIn_of_wp Try.func81 rfl h7 ?_ hro
  simp only [Try.ntmps81, List.size_toArray, List.length_cons, List.length_nil, Nat.reduceAdd, Nat.reduceSub, Array.replicate_succ, Array.replicate_zero, List.push_toArray, List.append_toArray, List.nil_append, List.cons_append]
  gi_wp2
  gi_loopw [7] (fun i wr => ∃ k : Nat, k ≤ len ∧ i = .int .i64 k ∧ J (uptoF f k) wr ∧ Below n₀ W wr)
    (fun i _ => len - (Go.RowKit.intOf i).toNat)
  case atStart => exact ⟨0, Nat.zero_le _, rfl, h0, Below.refl _ _⟩
  case round =>
    obtain ⟨k, hk, rfl, hJs, hnx⟩ := hrel
    have hcx : k < len → wr.cell? ⟨b, off + k, none⟩ = some (.int .i64 (f k)) := fun h => (hnx.cell (p := ⟨b, off + k, none⟩) hb).trans (hc k h)
    by_cases hlt : k < len
    · obtain ⟨fn, tmps, assign, body, hy, hR⟩ := hY _ (f k) wr hJs (by rw [uptoF_length]; exact hlt)
      have hcx' := hcx hlt
      gi_wp2
      refine hR.mono ?_
      rintro e W3 ⟨rfl, hJ3, hk3⟩
      gi_wp2
      go_roundw
      case rel => exact ⟨k + 1, by omega, by simp, by rw [uptoF_succ]; exact hJ3, hnx.trans hk3⟩
      case measure => simp [Go.RowKit.intOf]; omega
    · obtain rfl : k = len := by omega
      gi_wp2
      go_end0
      exact ⟨⟨_, rfl⟩, hJs⟩

set_option maxRecDepth 100000 in
set_option maxHeartbeats 1000000 in
/-- .. at nothing -/
theorem values1_nil_in (F : Fence) (n : Nat) (h7 : F.fn 81) (hro : F.round = none) (l Bs : Nat) (A : Option Addr) (cap : Nat) (J : List Int → World → Prop) (W : World) (hBs : W.cell? ⟨Bs, 0, none⟩ = some (.slice A 0 cap)) (h0 : J [] W) :
    CallsIn F n Try.prog 81 #[.func (.yield l) #[] #[], .pointer (some ⟨Bs, 0, none⟩)] W fun e W' => (∃ v, e = .returned v) ∧ J [] W' := by
  refine callsIn_of_wp Try.func81 rfl h7 ?_ hro
  simp only [Try.ntmps81, List.size_toArray, List.length_cons, List.length_nil, Nat.reduceAdd, Nat.reduceSub, Array.replicate_succ, Array.replicate_zero, List.push_toArray, List.append_toArray, List.nil_append, List.cons_append]
  gi_wp2
  gi_loopw [7] (fun i wr => i = .int .i64 0 ∧ J [] wr) (fun _ _ => 0)
  case atStart => exact ⟨rfl, h0⟩
  case round =>
    obtain ⟨rfl, hJs⟩ := hrel
    gi_wp2
    go_end0
    exact ⟨⟨_, rfl⟩, hJs⟩

theorem intRows_vals {F : Nat → Nat → Prop} {w : World} : ∀ {l : List Int} {vals : List Value}, RepRows F w (l.map intRow) vals → vals = l.map fun x => Value.int .i64 x
  | [], _, h => h
  | x :: xs, vals, h => by
    obtain ⟨v1, v2, rfl, ⟨y, ys, rfl, hy, hys⟩, h2⟩ := h
    cases hy; cases hys
    rw [intRows_vals h2]; rfl
/-- slices.Values of a list -/
theorem values_it {h : Heap} {bx : Nat} {tk : Tok} {l : List Int} (hbx : h bx = some (.cells [.list tk (l.map intRow)])) (hl : l.length ≤ 1000000000) :
    ItOk (.fn (.func 81) [] [.ptr bx 0]) h (fun ss => ss = l) l.length := by
  refine ⟨_, _, rfl, ⟨_, Try.func81, by kernel_rfl, by kernel_rfl⟩, fun F X w lb hh hrep => ?_⟩
  obtain ⟨v, vs', hv, hv1, hv2⟩ := hrep
  cases hv1
  cases hv2
  have hlb : lb = #[.pointer (some ⟨bx, 0, none⟩)] := by apply Array.ext'; exact hv
  subst hlb
  obtain ⟨hXb, pre, post, e, hbb, hrp, _⟩ := hh.hp bx _ hbx
  obtain ⟨u, us, rfl, hu, hus⟩ := hrp
  cases hus
  obtain ⟨A, cap, vals, rfl, hcap, hcm, _, _, hA⟩ := hu
  have hlen : (l.map intRow).length = l.length := by simp
  have hcell : w.cell? ⟨bx, 0, none⟩ = some (.slice A (l.map intRow).length cap) := by rw [cell_at hbb]; rfl
  rw [hlen] at hcell
  have hbxl := hh.xb bx hXb
  intro lp J W hW hJ hY h0
  have hcW : W.cell? ⟨bx, 0, none⟩ = some (.slice A l.length cap) := (hW.cell (p := ⟨bx, 0, none⟩) hbxl).trans hcell
  by_cases hl0 : l.length = 0
  · have hle : l = [] := List.eq_nil_of_length_eq_zero hl0
    subst hle
    exact (values1_nil_in Fence.wide 8 trivial rfl lp bx A cap J W hcW h0).mono fun e W' hp => ⟨hp.1, [], rfl, hp.2⟩
  · cases A with
    | none => simp only at hA; omega
    | some a =>
      obtain ⟨b, o, sp⟩ := a
      simp only at hA
      obtain ⟨hsp, hF, hrows⟩ := hA
      obtain rfl : sp = none := hsp (.inr (by omega))
      have hvals : ∀ j, j < l.length → vals[j]? = some (.int .i64 (l[j]?.getD 0)) := by
        have := intRows_vals hrows
        intro j hj
        rw [this]
        simp [hj]
      have hblt : b < w.heap.size := hh.fb b (o + 0) ((hF 0 _ (hvals 0 (by omega))).1)
      refine (values1_in Fence.wide 8 trivial rfl (by omega) lp bx b o cap l.length (fun j => l[j]?.getD 0) (by omega) J w.heap.size hblt (fun pre x W1 h1 h2 => (hY pre x W1 h1 h2).mono fun e W' hp => ⟨hp.1, hp.2.1, hp.2.2.2⟩) W hcW (fun j hj => ?_) h0).mono fun e W' hp => ⟨hp.1, l, rfl, ?_⟩
      · exact (hW.cell (p := ⟨b, o + j, none⟩) hblt).trans (hF j _ (hvals j hj)).2.1
      · have := hp.2; rwa [uptoF_all] at this
end Go.Proofs
