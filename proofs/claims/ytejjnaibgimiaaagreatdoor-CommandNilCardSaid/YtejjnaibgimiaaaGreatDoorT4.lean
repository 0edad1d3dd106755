/- This text is a part of the proofs of the statements of this seat: the ideal states and their rules, or what one of the functions that the statements reach comes to. Conditions: none beyond those that each theorem names. -/
import Derived.Test.YtejjnaibgimiaaaGreatDoorT3
import Derived.LaidEql
import Derived.Stop.Asserts
import Derived.RowKitTokens
import Derived.Shelf.Pu.ToErrorRange
import Derived.Laws.RangeAny
set_option linter.unusedVariables false
set_option linter.unusedSimpArgs false
set_option pp.deepTerms false
set_option pp.maxSteps 400
namespace Go.Proofs
open Go.Idl

/-! numbers as digits -/
def digB (n : Int) : ByteArray := if n < 0 ∨ 2147483647 < n then ⟨#[]⟩ else itoaB n
theorem digits_c (n : Int) (h : Heap) (hi : 0 ≤ n → n ≤ 2147483647 → ICall Tryz.prog 102 [.int .i64 n] h (retP (.str (itoaB n)) h)) : ICall Tryz.prog 64 [.int .i64 n] h (retP (.str (digB n)) h) := by
  refine icall_of_iwp (fun _ => 0) Tryz.func64 rfl (by kernel_rfl) (Nat.le_of_ble_eq_true rfl) ?_
  rw [Tryz.results64]
  simp -implicitDefEqProofs [go_sem]
  refine cK_dec (fun h1 => ?_) (fun h1 => ?_)
  · simp -implicitDefEqProofs [go_sem, h1]
    exact ⟨h, Sub.refl _, by rw [digB, if_pos (.inl h1)], rfl⟩
  simp -implicitDefEqProofs [go_sem, h1]
  refine cK_dec (fun h2 => ?_) (fun h2 => ?_)
  · simp -implicitDefEqProofs [go_sem, h1, h2]
    exact ⟨h, Sub.refl _, by rw [digB, if_pos (.inr h2)], rfl⟩
  simp -implicitDefEqProofs [go_sem, h1, h2]
  refine (hi (by omega) (by omega)).mono ?_
  rintro e h' ⟨rfl, rfl⟩
  simp -implicitDefEqProofs [go_sem]
  exact ⟨h', Sub.refl _, by rw [digB, if_neg (by omega)], rfl⟩
def digL (l : List Int) : ByteArray := joinB (l.map digB) ⟨#[44]⟩
theorem joinTail_len (sep : List UInt8) : ∀ (l : List (List UInt8)) (N : Nat), (∀ x ∈ l, x.length ≤ N) → (Lib.joinTail sep l).length ≤ l.length * (sep.length + N)
  | [], N, _ => by simp [Lib.joinTail]
  | x :: l, N, h => by
    have h1 := joinTail_len sep l N fun y hy => h y (List.mem_cons_of_mem _ hy)
    have h2 := h x List.mem_cons_self
    simp only [Lib.joinTail, List.map_cons, List.flatten_cons, List.length_append, List.length_cons] at h1 ⊢
    have : (l.length + 1) * (sep.length + N) = l.length * (sep.length + N) + (sep.length + N) := by rw [Nat.add_mul]; omega
    omega
theorem join_len (l : List (List UInt8)) (sep : List UInt8) (N : Nat) (h : ∀ x ∈ l, x.length ≤ N) : (Lib.join l sep).length ≤ l.length * (sep.length + N) := by
  cases l with
  | nil => simp [Lib.join, List.intercalate]
  | cons x l =>
    rw [Lib.join_cons]
    have h1 := joinTail_len sep l N fun y hy => h y (List.mem_cons_of_mem _ hy)
    have h2 := h x List.mem_cons_self
    simp only [List.length_append, List.length_cons]
    have : (l.length + 1) * (sep.length + N) = l.length * (sep.length + N) + (sep.length + N) := by rw [Nat.add_mul]; omega
    omega
theorem nDigits_le (n : Nat) (k : Nat) (h : n < 10 ^ (k + 1)) : (Lib.decDigits n).length ≤ k + 1 := by
  induction k generalizing n with
  | zero => rw [Lib.decDigits, dif_pos (by simpa using h)]; simp
  | succ k ih =>
    rw [Lib.decDigits]
    split
    · simp
    · have := ih (n / 10) (by rw [Nat.div_lt_iff_lt_mul (by omega)]; rw [Nat.pow_succ] at h; omega)
      simp; omega
theorem digB_len (n : Int) : (digB n).data.toList.length ≤ 10 := by
  unfold digB
  split
  · simp
  · unfold itoaB Lib.itoa
    rw [if_neg (by omega)]
    have := nDigits_le n.toNat 9 (by omega)
    simpa using this
set_option maxRecDepth 20000 in
theorem Digits_c (l : List Int) (h : Heap) (hl : l.length ≤ 1000000) (hi : ∀ n ∈ l, 0 ≤ n → n ≤ 2147483647 → ICall Tryz.prog 102 [.int .i64 n] h (retP (.str (itoaB n)) h)) : ICall Tryz.prog 43 [.list .plain (l.map intRow)] h (retP (.str (digL l)) h) := by
  refine icall_of_iwp (fun _ => 0) Tryz.func43 rfl (by kernel_rfl) (Nat.le_of_ble_eq_true rfl) ?_
  rw [Tryz.results43]
  simp -implicitDefEqProofs [go_sem]
  refine iwp_loopF (rng [3,5] 8 17) nom (fun s => ∃ i v, i ≤ l.length ∧ s.t 8 = .int .i64 i ∧ s.t 3 = v ∧ Idl.Own [16] s.x 9 v (((l.take i).map digB).map strRow) ∧ s.h = h) (fun s => l.length - tn (s.t 8)) ?_ ?_
  · exact ⟨0, .list .tight [], Nat.zero_le _, by simp -implicitDefEqProofs [go_sem], by simp -implicitDefEqProofs [go_sem], Idl.Own.tight, by simp -implicitDefEqProofs [go_sem]⟩
  rintro J s hJ hf ⟨i, v, hle, h8, h3, ho, hh⟩
  simp -implicitDefEqProofs [go_sem, h8, h3, hh, hf.t, hf.m]
  refine cK_dec (fun hlt => ?_) (fun hge => ?_)
  · have hlt' : i < l.length := by omega
    have hg : l[i]? = some l[i] := List.getElem?_eq_getElem hlt'
    have hw := wrap_succ (i := i) (by omega)
    simp -implicitDefEqProofs [go_sem, h8, h3, hh, hf.t, hf.m, hlt', hg, intRow]
    refine (digits_c l[i] h (hi _ (List.getElem_mem _))).mono ?_
    rintro e h' ⟨rfl, he⟩
    rw [he]
    simp -implicitDefEqProofs [go_sem, h8, h3, hh, hf.t, hf.m]
    refine aK_own (z := 1) (S := [16]) ho (by simp) elT_23 elZ_9 (by simp [roomy, byT_9]; omega) (strs_uni _) (by simp [uni]) ?_
    intro r x' ho' _
    simp -implicitDefEqProofs [go_sem, h8, h3, hh, hf.t, hf.m, hf, hw]
    refine hJ _ ⟨i + 1, r, by omega, by simp -implicitDefEqProofs [go_sem, hw], by simp -implicitDefEqProofs [go_sem], ?_, by simp -implicitDefEqProofs [go_sem]⟩ (by simp [go_sem, h8, hw]; omega)
    have e1 : l.take (i + 1) = l.take i ++ [l[i]] := by rw [List.take_add_one, hg]; rfl
    show Idl.Own [16] x' _ r _
    rw [e1, List.map_append, List.map_append]
    exact ho'
  · obtain rfl : i = l.length := by omega
    rw [List.take_length] at ho
    simp -implicitDefEqProofs [go_sem, h8, h3, hh, hf.t, hf.m, ho.strip]
    have hjl := join_len ((l.map digB).map (·.data.toList)) [44] 10 (fun x hx => by
      obtain ⟨y, hy, rfl⟩ := List.mem_map.1 hx
      obtain ⟨n, _, rfl⟩ := List.mem_map.1 hy
      exact digB_len n)
    simp only [List.length_map, List.length_cons, List.length_nil] at hjl
    have hjc := sjoin_c (l.map digB) ⟨#[44]⟩ .plain h (by simp; omega) (by show (Lib.join ((l.map digB).map (·.data.toList)) [44]).length ≤ _; omega)
    rw [List.map_map] at hjc
    refine hjc.mono ?_
    rintro e h' ⟨rfl, he⟩
    rw [he]
    simp -implicitDefEqProofs [go_sem]
    exact ⟨h, Sub.refl _, rfl, rfl⟩
end Go.Proofs

set_option linter.unusedVariables false
set_option linter.unusedSimpArgs false
set_option maxHeartbeats 4000000
namespace Go.Proofs
open Go.RowKit Go.Extern.Stop Go.Stop Go.Extern

/-! the number that a fault in words tells: errors.As down the chain -/
theorem asValueOfP (t : Addr) (w : World) : (ReflectliteValue.unpack (.iface 103 (.pointer (some t)))).run Tryz.prog w
    = .ok (.agg #[.pointer (some ⟨7, 103, none⟩), .pointer (some ⟨w.heap.size, 0, none⟩), .int .u64 150]) (w.alloc (.cells #[.pointer (some t)] 103)) := by kernel_rfl
theorem asTypeP (a : Addr) (w : World) : (ReflectliteValue.methodAny (ReflectliteValue.valueError "reflectlite.Value.Type" 0) (fun t _ _ _ => ReflectliteType.toType t) #[.agg #[.pointer (some ⟨7, 103, none⟩), .pointer (some a), .int .u64 150]]).run Tryz.prog w
    = .ok (.iface 214 (.agg #[.pointer (some ⟨7, 103, none⟩)])) w := by kernel_rfl
theorem asMKind (h : Value) (w : World) : (Go.method 614 214 (.agg #[h]) "Kind").run Tryz.prog w = .ok (385, h) w := by kernel_rfl
theorem asKindP (w : World) : ((ReflectliteType.abiMethod fun t => (fun a : Nat => Value.int IntKind.u8 (a : Int)) <$> Rtype.kind t) #[.pointer (some ⟨7, 103, none⟩)]).run Tryz.prog w = .ok (.int .u8 22) w := by kernel_rfl
theorem asKindE (w : World) : ((ReflectliteType.abiMethod fun t => (fun a : Nat => Value.int IntKind.u8 (a : Int)) <$> Rtype.kind t) #[.pointer (some ⟨7, 29, none⟩)]).run Tryz.prog w = .ok (.int .u8 2) w := by kernel_rfl
theorem asRlm (z : Sem Value) (f : TypeId → Addr → Nat → Nat → Sem Value) (v : Value) :
    ReflectliteValue.method z f #[v] = (do match ← ReflectliteValue.parts v with | none => z | some (t, a, fl) => f t a fl (fl % 32)) := rfl
theorem asPartsP (a : Addr) (w : World) : (ReflectliteValue.parts (.agg #[.pointer (some ⟨7, 103, none⟩), .pointer (some a), .int .u64 150])).run Tryz.prog w = .ok (some (103, a, 150)) w := by kernel_rfl
theorem asIsNilP (a p : Addr) (W : World) (ha : W.cell? a = some (.pointer (some p))) :
    (ReflectliteValue.method (ReflectliteValue.valueError "reflectlite.Value.IsNil" 0) ReflectliteValue.isNil #[.agg #[.pointer (some ⟨7, 103, none⟩), .pointer (some a), .int .u64 150]]).run Tryz.prog W = .ok (.bool false) W := by
  rw [asRlm]
  simp only [Sem.run_bind, asPartsP, Result.andThen]
  simp [ReflectliteValue.isNil, loadVar, isAgg, underlying, Tryz.underlying103, ha, Result.andThen]
theorem asMElem (h : Value) (w : World) : (Go.method 614 214 (.agg #[h]) "Elem").run Tryz.prog w = .ok (402, .agg #[h]) w := by kernel_rfl
theorem asMImpl (h : Value) (w : World) : (Go.method 614 214 (.agg #[h]) "Implements").run Tryz.prog w = .ok (403, .agg #[h]) w := by kernel_rfl
theorem asMAssign (h : Value) (w : World) : (Go.method 614 214 (.agg #[h]) "AssignableTo").run Tryz.prog w = .ok (400, .agg #[h]) w := by kernel_rfl
theorem asElemT (w : World) : (ReflectliteType.method ReflectliteType.elem #[.agg #[.pointer (some ⟨7, 103, none⟩)]]).run Tryz.prog w = .ok (.iface 214 (.agg #[.pointer (some ⟨7, 29, none⟩)])) w := by kernel_rfl
theorem asImplE (w : World) : (ReflectliteType.relation "Implements" ReflectliteType.implements_ #[.agg #[.pointer (some ⟨7, 29, none⟩)], .iface 214 (.agg #[.pointer (some ⟨7, 47, none⟩)])]).run Tryz.prog w = .ok (.bool true) w := by kernel_rfl
theorem asTypeOfI (v : Value) (w : World) : (ReflectliteType.typeOf #[.iface 140 v]).run Tryz.prog w = .ok (.iface 214 (.agg #[.pointer (some ⟨7, 140, none⟩)])) w := by kernel_rfl
theorem asTypeOfF (v : Value) (w : World) : (ReflectliteType.typeOf #[.iface 144 v]).run Tryz.prog w = .ok (.iface 214 (.agg #[.pointer (some ⟨7, 144, none⟩)])) w := by kernel_rfl
theorem asTypeOfE (v : Value) (w : World) : (ReflectliteType.typeOf #[.iface 29 v]).run Tryz.prog w = .ok (.iface 214 (.agg #[.pointer (some ⟨7, 29, none⟩)])) w := by kernel_rfl
theorem asAssI (w : World) : (ReflectliteType.relation "AssignableTo" ReflectliteType.assignableTo #[.agg #[.pointer (some ⟨7, 140, none⟩)], .iface 214 (.agg #[.pointer (some ⟨7, 29, none⟩)])]).run Tryz.prog w = .ok (.bool false) w := by kernel_rfl
theorem asAssF (w : World) : (ReflectliteType.relation "AssignableTo" ReflectliteType.assignableTo #[.agg #[.pointer (some ⟨7, 144, none⟩)], .iface 214 (.agg #[.pointer (some ⟨7, 29, none⟩)])]).run Tryz.prog w = .ok (.bool false) w := by kernel_rfl
theorem asAssE (w : World) : (ReflectliteType.relation "AssignableTo" ReflectliteType.assignableTo #[.agg #[.pointer (some ⟨7, 29, none⟩)], .iface 214 (.agg #[.pointer (some ⟨7, 29, none⟩)])]).run Tryz.prog w = .ok (.bool true) w := by kernel_rfl
theorem asValueOfE (e : Int) (w : World) : (ReflectliteValue.unpack (.iface 29 (.int .i64 e))).run Tryz.prog w
    = .ok (.agg #[.pointer (some ⟨7, 29, none⟩), .pointer (some ⟨w.heap.size, 0, none⟩), .int .u64 130]) (w.alloc (.cells #[.int .i64 e] 29)) := by kernel_rfl
theorem asElemOfP (w : World) : (Rtype.elem? 103).run Tryz.prog w = .ok (some 29) w := by kernel_rfl
theorem asMkE (p : Addr) (w : World) : (ReflectliteValue.mk 29 p ReflectliteValue.flagAddr).run Tryz.prog w = .ok (.agg #[.pointer (some ⟨7, 29, none⟩), .pointer (some p), .int .u64 386]) w := by kernel_rfl
theorem asElemV (a p : Addr) (W : World) (ha : W.cell? a = some (.pointer (some p))) :
    (ReflectliteValue.method (ReflectliteValue.valueError "reflectlite.Value.Elem" 0) ReflectliteValue.elem #[.agg #[.pointer (some ⟨7, 103, none⟩), .pointer (some a), .int .u64 150]]).run Tryz.prog W
      = .ok (.agg #[.pointer (some ⟨7, 29, none⟩), .pointer (some p), .int .u64 386]) W := by
  rw [asRlm]
  simp only [Sem.run_bind, asPartsP, Result.andThen]
  simp [ReflectliteValue.elem, loadVar, isAgg, underlying, Tryz.underlying103, ha, Result.andThen, asElemOfP, asMkE]
theorem asRls (v x : Value) : ReflectliteValue.set #[v, x] = (do
    let (some (dst, a, fl), some (src, b, _)) := (← ReflectliteValue.parts v, ← ReflectliteValue.parts x)
      | unsupported (.noEntry "extern/(internal/reflectlite.Value).Set.zeroValue")
    if fl / ReflectliteValue.flagAddr % 2 == 0 then unsupported (.noEntry "extern/(internal/reflectlite.Value).Set.unaddressable")
    let val ← loadVar src b
    if ← Rtype.directlyAssignable dst src then storeVar dst a val
    else if ← Rtype.implements dst src then
      if (← Rtype.kind src) == 20 then
        match val with
        | .nilIface => unsupported (.noEntry "extern/reflectlite: a nil value of one interface type handed on as a value of another")
        | _ => storeVar dst a val
      else storeVar dst a (.iface src val)
    else panicString ("reflectlite.Set: value of type " ++ (← Rtype.spelt src) ++ " is not assignable to type " ++ (← Rtype.spelt dst))
    pure (.tuple #[])) := rfl
theorem asPartsEa (a : Addr) (w : World) : (ReflectliteValue.parts (.agg #[.pointer (some ⟨7, 29, none⟩), .pointer (some a), .int .u64 386])).run Tryz.prog w = .ok (some (29, a, 386)) w := by kernel_rfl
theorem asPartsE (a : Addr) (w : World) : (ReflectliteValue.parts (.agg #[.pointer (some ⟨7, 29, none⟩), .pointer (some a), .int .u64 130])).run Tryz.prog w = .ok (some (29, a, 130)) w := by kernel_rfl
theorem asDirectE (w : World) : (Rtype.directlyAssignable 29 29).run Tryz.prog w = .ok true w := by kernel_rfl
theorem asSetE (ta b : Addr) (e : Int) (old : Value) (W : World) (hb : W.cell? b = some (.int .i64 e)) (ht : W.cell? ta = some old) (hf : W.frozen? ta = false) :
    (ReflectliteValue.set #[.agg #[.pointer (some ⟨7, 29, none⟩), .pointer (some ta), .int .u64 386], .agg #[.pointer (some ⟨7, 29, none⟩), .pointer (some b), .int .u64 130]]).run Tryz.prog W
      = .ok (.tuple #[]) (W.setCell ta (.int .i64 e)) := by
  rw [asRls]
  simp only [Sem.run_bind, asPartsEa, asPartsE, Result.andThen]
  simp [ReflectliteValue.flagAddr, loadVar, isAgg, underlying, Tryz.underlying29, hb, Result.andThen, asDirectE, storeVar, Value.cells, storeCells, Addr.add]
  rw [run_store Tryz.prog W ta _ _ (by rfl)]
  simp [ht, hf]
theorem asNoAsI (v : Value) (xT : TypeId) (w : World) : (Instr.typeAssert (.iface 140 v) xT 219 true).run Tryz.prog w = .ok (.tuple #[.nilIface, .bool false]) w := run_typeAssert_lacksB Tryz.underlying219 (by kernel_rfl) (by kernel_rfl) v xT w
theorem asNoAsF (v : Value) (xT : TypeId) (w : World) : (Instr.typeAssert (.iface 144 v) xT 219 true).run Tryz.prog w = .ok (.tuple #[.nilIface, .bool false]) w := run_typeAssert_lacksB Tryz.underlying219 (by kernel_rfl) (by kernel_rfl) v xT w
theorem asUnI (v : Value) (xT : TypeId) (w : World) : (Instr.typeAssert (.iface 140 v) xT 222 true).run Tryz.prog w = .ok (.tuple #[.iface 140 v, .bool true]) w := run_typeAssert_hasB Tryz.underlying222 (by kernel_rfl) v xT w
theorem asUnF (v : Value) (xT : TypeId) (w : World) : (Instr.typeAssert (.iface 144 v) xT 222 true).run Tryz.prog w = .ok (.tuple #[.iface 144 v, .bool true]) w := run_typeAssert_hasB Tryz.underlying222 (by kernel_rfl) v xT w
end Go.Proofs

set_option linter.unusedVariables false
set_option linter.unusedSimpArgs false
namespace Go.Proofs
open Go.RowKit Go.Extern.Stop Go.Stop Go.Extern

theorem asMUnI (v : Value) (w : World) : (Go.method 614 140 v "Unwrap").run Tryz.prog w = .ok (393, v) w := by kernel_rfl
theorem asMUnF (v : Value) (w : World) : (Go.method 614 144 v "Unwrap").run Tryz.prog w = .ok (395, v) w := by kernel_rfl
theorem cell_lt {w : World} {a : Addr} {v : Value} (h : w.cell? a = some v) : a.block < w.heap.size := by
  rcases Nat.lt_or_ge a.block w.heap.size with h1 | h1
  · exact h1
  · simp [World.cell?, Array.getElem?_eq_none h1] at h
def asW3 (w : World) (t : Addr) : World := (((w.alloc (.cells #[.pointer (some t)] 103)).alloc (.cells #[.pointer (some ⟨7, 103, none⟩), .pointer (some ⟨w.heap.size, 0, none⟩), .int .u64 150] 152)).alloc (.cells #[.pointer (some ⟨7, 103, none⟩), .pointer (some ⟨w.heap.size, 0, none⟩), .int .u64 150] 152))
theorem asW3_cell {w : World} {t a : Addr} {v : Value} (h : w.cell? a = some v) : (asW3 w t).cell? a = some v := by
  have hl := cell_lt h
  unfold asW3
  rw [World.cell?_alloc_lt _ _ a (by simp; omega), World.cell?_alloc_lt _ _ a (by simp; omega), World.cell?_alloc_lt _ _ a hl]; exact h
set_option maxHeartbeats 8000000 in
set_option maxRecDepth 100000 in
theorem as_chain (b fb : Nat) (e : Int) (t : Addr) (old : Value) (w : World) (hg : w.cell? ⟨0, 0, none⟩ = some (.iface 214 (.agg #[.pointer (some ⟨7, 47, none⟩)])))
    (hb : w.cell? ⟨b, 1, none⟩ = some (.iface 144 (.pointer (some ⟨fb, 0, none⟩)))) (hfb : w.cell? ⟨fb, 0, none⟩ = some (.int .i64 e)) (ht0 : w.cell? t = some old) (hf0 : w.frozen? t = false) :
    Calls Tryz.prog 44 #[.iface 140 (.pointer (some ⟨b, 0, none⟩)), .iface 103 (.pointer (some t))] w fun ev w' => ev = .returned (.bool true) ∧ w' = ((asW3 w t).alloc (.cells #[.int .i64 e] 29)).setCell t (.int .i64 e) := by
  have h6 := @run_callFunc_extern Tryz.prog 66 _ (fun args => ReflectliteValue.unpack (args.getD 0 (.tuple #[]))) Tryz.func66 (by kernel_rfl) (by kernel_rfl) (by kernel_rfl) (by kernel_rfl)
  have h7 := @run_callFunc_extern Tryz.prog 67 _ (ReflectliteValue.methodAny (ReflectliteValue.valueError "reflectlite.Value.Type" 0) (fun t _ _ _ => ReflectliteType.toType t)) Tryz.func67 (by kernel_rfl) (by kernel_rfl) (by kernel_rfl) (by kernel_rfl)
  have h8 := @run_callFunc_extern Tryz.prog 68 _ (ReflectliteValue.method (ReflectliteValue.valueError "reflectlite.Value.IsNil" 0) ReflectliteValue.isNil) Tryz.func68 (by kernel_rfl) (by kernel_rfl) (by kernel_rfl) (by kernel_rfl)
  have h27 := @run_callFunc_extern Tryz.prog 385 _ (ReflectliteType.abiMethod fun t => do pure (.int .u8 (← Rtype.kind t))) Tryz.func385 (by kernel_rfl) (by kernel_rfl) (by kernel_rfl) (by kernel_rfl)
  have h37 := @run_callFunc_extern Tryz.prog 402 _ (ReflectliteType.method ReflectliteType.elem) Tryz.func402 (by kernel_rfl) (by kernel_rfl) (by kernel_rfl) (by kernel_rfl)
  have h38 := @run_callFunc_extern Tryz.prog 403 _ (ReflectliteType.relation "Implements" ReflectliteType.implements_) Tryz.func403 (by kernel_rfl) (by kernel_rfl) (by kernel_rfl) (by kernel_rfl)
  have h10 := @run_callFunc_extern Tryz.prog 106 _ ReflectliteType.typeOf Tryz.func106 (by kernel_rfl) (by kernel_rfl) (by kernel_rfl) (by kernel_rfl)
  have h35 := @run_callFunc_extern Tryz.prog 400 _ (ReflectliteType.relation "AssignableTo" ReflectliteType.assignableTo) Tryz.func400 (by kernel_rfl) (by kernel_rfl) (by kernel_rfl) (by kernel_rfl)
  have h11 := @run_callFunc_extern Tryz.prog 107 _ (ReflectliteValue.method (ReflectliteValue.valueError "reflectlite.Value.Elem" 0) ReflectliteValue.elem) Tryz.func107 (by kernel_rfl) (by kernel_rfl) (by kernel_rfl) (by kernel_rfl)
  have h12 := @run_callFunc_extern Tryz.prog 108 _ ReflectliteValue.set Tryz.func108 (by kernel_rfl) (by kernel_rfl) (by kernel_rfl) (by kernel_rfl)
  have tI := asTypeOfI
  have tF := asTypeOfF
  have tE := asTypeOfE
  have mA := asMAssign
  have aI := asAssI
  have aF := asAssF
  have aE := asAssE
  have vE := asValueOfE
  have f6 := asValueOfP
  have f7 := asTypeP
  have mK := asMKind
  have mE := asMElem
  have mI := asMImpl
  have kP := asKindP
  have kE := asKindE
  have eT := asElemT
  have iE := asImplE
  have nI := asNoAsI
  have nF := asNoAsF
  have uI := asUnI
  have uF := asUnF
  have muI := asMUnI
  have muF := asMUnF
  have n8 := asIsNilP ⟨w.heap.size, 0, none⟩ t ((w.alloc (.cells #[.pointer (some t)] 103)).alloc (.cells #[.pointer (some ⟨7, 103, none⟩), .pointer (some ⟨w.heap.size, 0, none⟩), .int .u64 150] 152)) (by simp)
  have hlt := cell_lt hg
  have htl := cell_lt ht0
  have hbl := cell_lt hb
  have hfl := cell_lt hfb
  simp only at hlt htl hbl hfl
  have hg2 : ((w.alloc (.cells #[.pointer (some t)] 103)).alloc (.cells #[.pointer (some ⟨7, 103, none⟩), .pointer (some ⟨w.heap.size, 0, none⟩), .int .u64 150] 152)).cell? ⟨0, 0, none⟩ = some (.iface 214 (.agg #[.pointer (some ⟨7, 47, none⟩)])) := by
    rw [World.cell?_alloc_lt _ _ ⟨0, 0, none⟩ (by simp), World.cell?_alloc_lt _ _ ⟨0, 0, none⟩ hlt]; exact hg
  have hb3 := asW3_cell (t := t) hb
  have hfb3 := asW3_cell (t := t) hfb
  have el := asElemV ⟨w.heap.size, 0, none⟩ t (asW3 w t) (by unfold asW3; rw [World.cell?_alloc_lt _ _ ⟨w.heap.size, 0, none⟩ (by simp; omega)]; simp)
  have st := asSetE t ⟨w.heap.size + 1 + 1 + 1, 0, none⟩ e old ((asW3 w t).alloc (.cells #[.int .i64 e] 29))
    (by rw [World.cell?_alloc_at _ _ _ _ (by simp [asW3])]; rfl)
    (by unfold asW3; rw [World.cell?_alloc_lt _ _ t (by simp; omega), World.cell?_alloc_lt _ _ t (by simp; omega), World.cell?_alloc_lt _ _ t (by simp; omega), World.cell?_alloc_lt _ _ t htl]; exact ht0)
    (by unfold asW3; rw [World.frozen?_alloc_old _ _ t (by simp; omega), World.frozen?_alloc_old _ _ t (by simp; omega), World.frozen?_alloc_old _ _ t (by simp; omega), World.frozen?_alloc_old _ _ t (Nat.ne_of_lt htl)]; exact hf0)
  unfold asW3 at el st hb3 hfb3 ⊢
  go_enter Tryz.func44, Tryz.ntmps44
  go_wp2
  refine wp_loop_rounds 3 ?_
  rw [rounds_succ]
  go_wp2
  rw [rounds_succ]
  go_wp2
  rw [rounds_succ]
  go_wp2
  go_ret
  exact ⟨rfl, rfl⟩
end Go.Proofs

set_option linter.unusedVariables false
set_option linter.unusedSimpArgs false
set_option pp.deepTerms false
set_option pp.maxSteps 500
namespace Go.Proofs
open Go.Idl Go.RowKit

/-! the number of a fault -/
def errV : IV := .iface 214 (.agg [.ptr 7 47])
def errH (h : Heap) : Prop := h 0 = some (.froz [errV])
theorem rep_ptr {F w b o v} (h : Rep F w (.ptr b o) v) : v = .pointer (some ⟨b, o, none⟩) := h
theorem rep_iface {F w t y v} (h : Rep F w (.iface t y) v) : ∃ u, v = .iface t u ∧ Rep F w y u := h
theorem cells_cell {F w b pre post e cs} (hw : w.heap[b]? = some (.cells (pre ++ post).toArray e (0, 0))) (hr : RepAll F w cs pre) (k : Nat) (c : IV) (hk : cs[k]? = some c) : ∃ v, pre[k]? = some v ∧ Rep F w c v ∧ w.cell? ⟨b, k, none⟩ = some v := by
  have key : ∀ (cs : List IV) (pre : List Value) (k : Nat), RepAll F w cs pre → cs[k]? = some c → ∃ v, pre[k]? = some v ∧ Rep F w c v := by
    intro cs
    induction cs with
    | nil => intro pre k _ h; simp at h
    | cons x r ih =>
      intro pre k hr h
      obtain ⟨v, vs, rfl, h1, h2⟩ := hr
      cases k with
      | zero => simp at h; subst h; exact ⟨v, rfl, h1⟩
      | succ k => simp only [List.getElem?_cons_succ] at h ⊢; exact ih vs k h2 h
  obtain ⟨v, h1, h2⟩ := key cs pre k hr hk
  refine ⟨v, h1, h2, ?_⟩
  have hl := (List.getElem?_eq_some_iff.1 h1).1
  rw [cell_at hw, List.getElem?_toArray, List.getElem?_append_left hl]; exact h1
theorem as_c {h : Heap} {b fb tb : Nat} {c0 : IV} {e a old : Int} (he : errH h) (hb : h b = some (.cells [c0, .iface 144 (.ptr fb 0)])) (hfb : h fb = some (.cells [.int .i64 e, .int .i64 a])) (ht : h tb = some (.cells [.int .i64 old])) :
    ICall Tryz.prog 44 [.iface 140 (.ptr b 0), .iface 103 (.ptr tb 0)] h (fun r h' => r = .ret (.bool true) ∧ h' = upd h tb (some (.cells [.int .i64 e]))) := by
  refine ⟨⟨_, Tryz.func44, by kernel_rfl, by kernel_rfl⟩, fun F X w vs hh hr => ?_⟩
  obtain ⟨v1, vs1, hv, h1, v2, vs2, rfl, h2, hr3⟩ := hr
  cases hr3
  obtain ⟨u1, rfl, h1'⟩ := rep_iface h1
  obtain ⟨u2, rfl, h2'⟩ := rep_iface h2
  obtain rfl := rep_ptr h1'
  obtain rfl := rep_ptr h2'
  have hvs : vs = #[.iface 140 (.pointer (some ⟨b, 0, none⟩)), .iface 103 (.pointer (some ⟨tb, 0, none⟩))] := by apply Array.ext'; exact hv
  subst hvs
  obtain ⟨xb, pb, qb, eb, hwb, hrb, _⟩ := hh.hp _ _ hb
  obtain ⟨xf, pf, qf, ef, hwf, hrf, _⟩ := hh.hp _ _ hfb
  obtain ⟨xt, pt, qt, et, hwt, hrt, hot⟩ := hh.hp _ _ ht
  obtain ⟨_, vals, hg1, hg2, hg3, hg4, eg, frg, hg5⟩ := hh.hp _ _ he
  -- the cells
  obtain ⟨vb, kb1, kb2, kb3⟩ := cells_cell hwb hrb 1 _ rfl
  obtain ⟨u3, rfl, h3'⟩ := rep_iface kb2
  obtain rfl := rep_ptr h3'
  obtain ⟨vf, kf1, kf2, kf3⟩ := cells_cell hwf hrf 0 _ rfl
  cases kf2
  obtain ⟨vt, kt1, kt2, kt3⟩ := cells_cell hwt hrt 0 _ rfl
  cases kt2
  have hfr : w.frozen? ⟨tb, 0, none⟩ = false := by simp [World.frozen?, hwt]
  have hgc : w.cell? ⟨0, 0, none⟩ = some (.iface 214 (.agg #[.pointer (some ⟨7, 47, none⟩)])) := by
    obtain ⟨v, vs, rfl, q1, q2⟩ := hg2
    cases q2
    obtain ⟨u, rfl, q3⟩ := rep_iface q1
    obtain ⟨vs, rfl, _, v2, vs2, hv2, q4, q5⟩ := q3
    cases q5
    obtain rfl := rep_ptr q4
    have hvs : vs = #[.pointer (some ⟨7, 47, none⟩)] := by apply Array.ext'; exact hv2
    subst hvs
    simp [World.cell?, hg5]
  refine (as_chain b fb e ⟨tb, 0, none⟩ _ w hgc kb3 kf3 kt3 hfr).mono ?_
  rintro ev w' ⟨rfl, hw'⟩
  obtain ⟨w4, hw4⟩ : ∃ w4, (asW3 w ⟨tb, 0, none⟩).alloc (.cells #[.int .i64 e] 29) = w4 := ⟨_, rfl⟩
  rw [hw4] at hw'
  have hB : Below w.heap.size w w4 := by
    rw [← hw4]; unfold asW3
    refine Below.alloc (Below.alloc (Below.alloc (Below.alloc (Below.refl _ _) (by simp) _) (by simp) _) (by simp; omega) _) (by simp; omega) _
  have htl : tb < w.heap.size := hh.blt ht
  have hX : X tb := xt
  have hoff : ∀ j, j < w.heap.size → j ≠ tb → w'.heap[j]? = w.heap[j]? := fun j hj hne => by
    rw [hw', Below.heap_setCell _ _ _ _ hne, hB.block j hj]
  have hsz : w.heap.size ≤ w'.heap.size := by rw [hw']; simp only [World.setCell, Array.size_modify]; exact hB.size
  have htb : w'.heap[tb]? = some (.cells ((pt ++ qt).toArray.setIfInBounds 0 (.int .i64 e)) et (0, 0)) := by
    rw [hw']; exact heap_setCell_same _ _ _ _ _ _ ((hB.block tb htl).trans hwt)
  have hkc : ∀ j o, F j o → w'.cell? ⟨j, o, none⟩ = w.cell? ⟨j, o, none⟩ := fun j o hf => by
    have hne : j ≠ tb := by rintro rfl; exact hh.xf _ _ hX hf
    simp only [World.cell?]
    rw [hoff j (hh.fb _ _ hf) hne]
  have hF : FLe F w F w' := ⟨fun _ _ h => h, hkc⟩
  obtain ⟨v0, r0, rfl, q1, q2⟩ := hrt
  cases q2
  refine ⟨F, X, upd h tb (some (.cells [.int .i64 e])), .ret (.bool true), ⟨rfl, rfl⟩, rfl, ⟨fun j o hj => ?_, hh.xf, fun j hj => Nat.lt_of_lt_of_le (hh.xb j hj) hsz, fun j o hj => Nat.lt_of_lt_of_le (hh.fb j o hj) hsz⟩,
    hsz, by rw [hw']; exact hB.os, by rw [hw']; exact hB.tape, by rw [hw']; exact hB.output, fun _ _ h => h, hkc, fun j hj hx => hoff j hj (by rintro rfl; exact hx hX), fun _ h => .inl h, fun _ _ h => .inl h⟩
  by_cases hne : j = tb
  · subst hne
    rw [upd_same] at hj
    cases hj
    refine ⟨hX, [.int .i64 e], qt, et, ?_, ⟨_, _, rfl, rfl, rfl⟩, ?_⟩
    · rw [htb]; simp
    · intro v hv
      simp only [List.singleton_append, List.mem_cons] at hv
      rcases hv with rfl | hv
      · rfl
      · exact hot v (by simp [hv])
  · rw [upd_ne _ _ hne] at hj
    obtain ⟨z1, z2⟩ := hh.hp j o hj
    exact ⟨z1, z2.mono hF (hoff j (hh.blt hj) hne)⟩
set_option maxRecDepth 20000 in
/-- fault.Code of a fault in words -/
theorem code_c {h : Heap} {b fb : Nat} {c0 : IV} {e a : Int} (he : errH h) (hb : h b = some (.cells [c0, .iface 144 (.ptr fb 0)])) (hfb : h fb = some (.cells [.int .i64 e, .int .i64 a])) :
    ICall Tryz.prog 22 [.iface 140 (.ptr b 0)] h (retP (.int .i64 e) h) := by
  refine icall_of_iwp (fun d => if d = 3 then 1 else 0) Tryz.func22 rfl (by kernel_rfl) (Nat.le_of_ble_eq_true rfl) ?_
  rw [Tryz.results22]
  simp -implicitDefEqProofs [go_sem]
  intro tb htb
  have n1 : b ≠ tb := by rintro rfl; rw [hb] at htb; cases htb
  have n2 : fb ≠ tb := by rintro rfl; rw [hfb] at htb; cases htb
  have n3 : 0 ≠ tb := by rintro rfl; rw [he] at htb; cases htb
  refine (as_c (e := e) (a := a) (fb := fb) (old := 0) (c0 := c0) (by unfold errH; rw [upd_ne _ _ n3]; exact he) (by rw [upd_ne _ _ n1]; exact hb) (by rw [upd_ne _ _ n2]; exact hfb) (upd_same _ _ _)).mono ?_
  rintro r h' ⟨rfl, rfl⟩
  simp -implicitDefEqProofs [go_sem]
  refine ⟨h, fun j o hj => ?_, rfl, rfl⟩
  have : j ≠ tb := by rintro rfl; rw [hj] at htb; cases htb
  rw [upd_ne _ _ this, upd_ne _ _ this]; exact hj
end Go.Proofs

set_option linter.unusedVariables false
set_option linter.unusedSimpArgs false
set_option pp.deepTerms false
set_option pp.maxSteps 500
namespace Go.Proofs
open Go.Idl Go.Shelf Go.RowKit

/-! an error of a number that is too great -/
set_option maxRecDepth 100000
def rhoP : Go.Shelf.Ren where
  f := fun | 17 => 270 | 21 => 306 | 22 => 307 | 23 => 308 | 24 => 309 | 25 => 337 | 26 => 338 | 27 => 102 | 28 => 163 | 29 => 220 | 30 => 265 | 31 => 266 | 32 => 267 | 33 => 268 | 34 => 300 | 35 => 149 | 36 => 301 | 37 => 302 | 38 => 303 | 39 => 335 | 40 => 336 | _ => 0
  t := fun | 0 => 0 | 2 => 2 | 3 => 3 | 4 => 4 | 5 => 5 | 9 => 9 | 20 => 20 | 22 => 268 | 24 => 47 | 34 => 419 | 36 => 175 | 37 => 74 | 39 => 420 | 44 => 448 | 47 => 287 | 48 => 476 | 50 => 478 | 52 => 379 | 55 => 381 | 59 => 417 | 60 => 266 | 61 => 418 | 65 => 474 | 66 => 475 | 67 => 108 | _ => 0
  g := fun | 0 => 3 | 1 => 4 | 2 => 2 | 3 => 5 | 4 => 6 | _ => 0
theorem layToErr : LaysPu.n17 Tryz.prog rhoP where
  mixed := mixed
  f17 := Tryz.func270.trans (congrArg some (by kernel_rfl))
  f21 := Tryz.func306.trans (congrArg some (by kernel_rfl))
  f22 := Tryz.func307.trans (congrArg some (by kernel_rfl))
  f23 := Tryz.func308.trans (congrArg some (by kernel_rfl))
  f24 := Tryz.func309.trans (congrArg some (by kernel_rfl))
  f25 := Tryz.func337.trans (congrArg some (by kernel_rfl))
  f26 := Tryz.func338.trans (congrArg some (by kernel_rfl))
  f27 := Tryz.func102.trans (congrArg some (by kernel_rfl))
  f28 := Tryz.func163.trans (congrArg some (by kernel_rfl))
  f29 := Tryz.func220.trans (congrArg some (by kernel_rfl))
  f30 := Tryz.func265.trans (congrArg some (by kernel_rfl))
  f31 := Tryz.func266.trans (congrArg some (by kernel_rfl))
  f32 := Tryz.func267.trans (congrArg some (by kernel_rfl))
  f33 := Tryz.func268.trans (congrArg some (by kernel_rfl))
  f34 := Tryz.func300.trans (congrArg some (by kernel_rfl))
  f35 := Tryz.func149.trans (congrArg some (by kernel_rfl))
  f36 := Tryz.func301.trans (congrArg some (by kernel_rfl))
  f37 := Tryz.func302.trans (congrArg some (by kernel_rfl))
  f38 := Tryz.func303.trans (congrArg some (by kernel_rfl))
  f39 := Tryz.func335.trans (congrArg some (by kernel_rfl))
  f40 := Tryz.func336.trans (congrArg some (by kernel_rfl))
  t0 := Tryz.underlying0
  a0 := Tryz.isAgg0
  z0 := Tryz.sizeOf0
  v0 := Tryz.zeroValue0
  i0 := by kernel_rfl
  t2 := Tryz.underlying2
  a2 := Tryz.isAgg2
  z2 := Tryz.sizeOf2
  v2 := Tryz.zeroValue2
  i2 := by kernel_rfl
  t3 := Tryz.underlying3
  a3 := Tryz.isAgg3
  z3 := Tryz.sizeOf3
  v3 := Tryz.zeroValue3
  i3 := by kernel_rfl
  t4 := Tryz.underlying4
  a4 := Tryz.isAgg4
  z4 := Tryz.sizeOf4
  v4 := Tryz.zeroValue4
  i4 := by kernel_rfl
  t5 := Tryz.underlying5
  a5 := Tryz.isAgg5
  z5 := Tryz.sizeOf5
  v5 := Tryz.zeroValue5
  i5 := by kernel_rfl
  t9 := Tryz.underlying9
  a9 := Tryz.isAgg9
  z9 := Tryz.sizeOf9
  v9 := Tryz.zeroValue9
  i9 := by kernel_rfl
  t20 := Tryz.underlying20
  a20 := Tryz.isAgg20
  z20 := Tryz.sizeOf20
  v20 := Tryz.zeroValue20
  i20 := by kernel_rfl
  t22 := Tryz.underlying268
  a22 := Tryz.isAgg268
  z22 := Tryz.sizeOf268
  v22 := Tryz.zeroValue268
  i22 := by kernel_rfl
  t24 := Tryz.underlying47
  a24 := Tryz.isAgg47
  z24 := Tryz.sizeOf47
  v24 := Tryz.zeroValue47
  i24 := by kernel_rfl
  t34 := Tryz.underlying419
  a34 := Tryz.isAgg419
  z34 := Tryz.sizeOf419
  v34 := Tryz.zeroValue419
  i34 := by kernel_rfl
  c34 := by kernel_rfl
  t36 := Tryz.underlying175
  a36 := Tryz.isAgg175
  z36 := Tryz.sizeOf175
  v36 := Tryz.zeroValue175
  i36 := by kernel_rfl
  t37 := Tryz.underlying74
  a37 := Tryz.isAgg74
  z37 := Tryz.sizeOf74
  v37 := Tryz.zeroValue74
  i37 := by kernel_rfl
  t39 := Tryz.underlying420
  a39 := Tryz.isAgg420
  z39 := Tryz.sizeOf420
  v39 := Tryz.zeroValue420
  i39 := by kernel_rfl
  t44 := Tryz.underlying448
  a44 := Tryz.isAgg448
  z44 := Tryz.sizeOf448
  v44 := Tryz.zeroValue448
  i44 := by kernel_rfl
  t47 := Tryz.underlying287
  a47 := Tryz.isAgg287
  z47 := Tryz.sizeOf287
  v47 := Tryz.zeroValue287
  i47 := by kernel_rfl
  t48 := Tryz.underlying476
  a48 := Tryz.isAgg476
  z48 := Tryz.sizeOf476
  v48 := Tryz.zeroValue476
  i48 := by kernel_rfl
  t50 := Tryz.underlying478
  a50 := Tryz.isAgg478
  z50 := Tryz.sizeOf478
  v50 := Tryz.zeroValue478
  i50 := by kernel_rfl
  t52 := Tryz.underlying379
  a52 := Tryz.isAgg379
  z52 := Tryz.sizeOf379
  v52 := Tryz.zeroValue379
  i52 := by kernel_rfl
  t55 := Tryz.underlying381
  a55 := Tryz.isAgg381
  z55 := Tryz.sizeOf381
  v55 := Tryz.zeroValue381
  i55 := by kernel_rfl
  t59 := Tryz.underlying417
  a59 := Tryz.isAgg417
  z59 := Tryz.sizeOf417
  v59 := Tryz.zeroValue417
  i59 := by kernel_rfl
  t60 := Tryz.underlying266
  a60 := Tryz.isAgg266
  z60 := Tryz.sizeOf266
  v60 := Tryz.zeroValue266
  i60 := by kernel_rfl
  t61 := Tryz.underlying418
  a61 := Tryz.isAgg418
  z61 := Tryz.sizeOf418
  t65 := Tryz.underlying474
  a65 := Tryz.isAgg474
  z65 := Tryz.sizeOf474
  v65 := Tryz.zeroValue474
  i65 := by kernel_rfl
  t66 := Tryz.underlying475
  a66 := Tryz.isAgg475
  z66 := Tryz.sizeOf475
  v66 := Tryz.zeroValue475
  i66 := by kernel_rfl
  t67 := Tryz.underlying108
  a67 := Tryz.isAgg108
  z67 := Tryz.sizeOf108
  v67 := Tryz.zeroValue108
  i67 := by kernel_rfl
  g0 := by kernel_rfl
  m0 := by kernel_rfl
  g1 := by kernel_rfl
  m1 := by kernel_rfl
  g2 := by kernel_rfl
  m2 := by kernel_rfl
  g3 := by kernel_rfl
  m3 := by kernel_rfl
  g4 := by kernel_rfl
  m4 := by kernel_rfl

def rngH (h : Heap) : Prop := ∃ v, h 4 = some (.froz [v]) ∧ (v = .niliface ∨ ∃ t x, v = .iface t x)
theorem icall_growE {f : FuncId} {args : List IV} {h : Heap} {S : IV → Prop} (hen : Idl.Enters Tryz.prog f)
    (hc : ∀ (F : Nat → Nat → Prop) (X : Nat → Prop) (w : World) (vs : Array Value), HRel F X h w → RepAll F w args vs.toList → Calls Tryz.prog f vs w fun e w' => (∃ v u, e = .returned u ∧ S v ∧ Rep F w' v u) ∧ RowKit.Below w.heap.size w w') : ICall Tryz.prog f args h fun e h' => ∃ v, e = .ret v ∧ S v ∧ h' = h := by
  refine ⟨hen, fun F X w vs hh hr => (hc F X w vs hh hr).mono ?_⟩
  rintro e w' ⟨⟨v, u, rfl, hs, hu⟩, hb⟩
  have hkeepF : FLe F w F w' := ⟨fun _ _ h => h, fun b o hf => hb.cell (p := ⟨b, o, none⟩) (hh.fb b o hf)⟩
  have hobj : ∀ b o, h b = some o → XOk X b o ∧ ObjRep F w' b o := fun b o ho => by
    obtain ⟨h1, h2⟩ := hh.hp b o ho
    exact ⟨h1, h2.mono hkeepF (hb.block b (hh.blt ho))⟩
  exact ⟨F, X, h, .ret v, ⟨v, rfl, hs, rfl⟩, hu, ⟨hobj, hh.xf, fun b hx => Nat.lt_of_lt_of_le (hh.xb b hx) hb.size, fun b o hf => Nat.lt_of_lt_of_le (hh.fb b o hf) hb.size⟩,
    hb.size, hb.os, hb.tape, hb.output, fun _ _ h => h, hkeepF.cell, fun b hb1 _ => hb.block b hb1, fun _ h => .inl h, fun _ _ h => .inl h⟩
theorem toErr_c (fn s : ByteArray) (base bits : Int) (h : Heap) (hs : s.size ≤ 281474976710656) (hE : rngH h) :
    ICall Tryz.prog 270 [.str fn, .str s, .int .i64 base, .int .i64 bits, .iface 419 (.int .i64 1)] h fun e h' => ∃ v, e = .ret v ∧ (∃ N, v = .iface 420 (.ptr N 0)) ∧ h' = h := by
  refine icall_growE ⟨_, Tryz.func270, by kernel_rfl, by kernel_rfl⟩ fun F X w vs hh hr => ?_
  obtain ⟨v1, vs1, hv, h1, v2, vs2, rfl, h2, v3, vs3, rfl, h3, v4, vs4, rfl, h4, v5, vs5, rfl, h5, hr6⟩ := hr
  cases h1; cases h2; cases h3; cases h4; cases hr6
  obtain ⟨u, rfl, h5⟩ := h5
  cases h5
  have hvs : vs = #[.string fn, .string s, .int .i64 base, .int .i64 bits, .iface 419 (.int .i64 1)] := by apply Array.ext'; exact hv
  subst hvs
  obtain ⟨ev, hE1, hE2⟩ := hE
  obtain ⟨_, vals, hg1, hg2, hg3, hg4, eg, frg, hg5⟩ := hh.hp _ _ hE1
  obtain ⟨u, us, rfl, q1, q2⟩ := hg2
  cases q2
  have hcell : w.cell? ⟨4, 0, none⟩ = some u := by simp [World.cell?, hg5]
  have hu : u = .nilIface ∨ ∃ te pe, u = .iface te pe := by
    rcases hE2 with rfl | ⟨t, x, rfl⟩
    · exact .inl q1
    · obtain ⟨z, rfl, _⟩ := q1; exact .inr ⟨_, _, rfl⟩
  refine (AnyPu.strconv_toError_range layToErr fn s base bits u w hs hcell hu).mono ?_
  rintro e w' ⟨N, rfl, _, _, hB⟩
  exact ⟨⟨.iface 420 (.ptr N 0), _, rfl, ⟨N, rfl⟩, ⟨_, rfl, rfl⟩⟩, hB⟩

theorem wrapU64 {n : Int} (h : 0 ≤ n ∧ n < 18446744073709551616) : IntKind.u64.wrap n = n := by simp [IntKind.wrap, IntKind.signed, IntKind.bits]; omega
theorem wrapU8 {n : Int} (h : 0 ≤ n ∧ n < 256) : IntKind.u8.wrap n = n := by simp [IntKind.wrap, IntKind.signed, IntKind.bits]; omega
/-! the digits ahead -/
def isDig (b : UInt8) : Bool := decide (48 ≤ b.toNat) && decide (b.toNat ≤ 57)
def aheadN (l : List UInt8) : Nat := (l.takeWhile isDig).length
theorem aheadN_at : ∀ (l : List UInt8) (i : Nat), i ≤ l.length → (∀ j x, j < i → l[j]? = some x → isDig x = true) → (∀ x, l[i]? = some x → isDig x = false) → aheadN l = i
  | [], i, hi, _, _ => by simp at hi; subst hi; rfl
  | y :: l, 0, _, _, h => by
    have := h y rfl
    simp [aheadN, List.takeWhile_cons, this]
  | y :: l, i + 1, hi, h1, h2 => by
    have hy := h1 0 y (by omega) rfl
    have ih := aheadN_at l i (by simpa using hi) (fun j x hj hx => h1 (j + 1) x (by omega) hx) (fun x hx => h2 x hx)
    unfold aheadN at ih ⊢
    rw [List.takeWhile_cons, if_pos hy, List.length_cons, ih]
theorem aheadN_le (l : List UInt8) : aheadN l ≤ l.length := (List.takeWhile_prefix isDig).length_le
theorem aheadN_dig : ∀ (l : List UInt8) (j : Nat) (x : UInt8), j < aheadN l → l[j]? = some x → isDig x = true
  | [], j, x, h, _ => by simp [aheadN] at h
  | y :: l, j, x, h, hx => by
    unfold aheadN at h
    rw [List.takeWhile_cons] at h
    split at h
    · rename_i hy
      cases j with
      | zero => cases hx; exact hy
      | succ j => exact aheadN_dig l j x (by simpa [aheadN] using h) hx
    · simp at h
theorem upd_twice {α : Type} (f : Nat → α) (b : Nat) (x y : α) : upd (upd f b x) b y = upd f b y := by funext j; simp only [upd]; split <;> rfl
def itPos (h : Heap) (b : Nat) : Nat := match h b with | some (.sit _ p) => p | _ => 0
set_option maxHeartbeats 1000000 in
theorem ahead_c (s : ByteArray) (L : List UInt8) (hL : s.data.toList = L) (hs : L.length < 1000000000000) (h : Heap) : ICall Tryz.prog 167 [.str s] h (retP (.int .i64 (aheadN L)) h) := by
  refine icall_of_iwp (fun _ => 0) Tryz.func167 rfl (by kernel_rfl) (Nat.le_of_ble_eq_true rfl) ?_
  rw [Tryz.results167]
  have hsz : s.size = L.length := by rw [← hL]; simp
  simp -implicitDefEqProofs [go_sem]
  intro it hit
  refine iwp_loopF (rng [3, 4] 7 16) nom (fun st => ∃ i, i ≤ L.length ∧ (∀ j x, j < i → L[j]? = some x → isDig x = true) ∧ st.h = upd h it (some (.sit s i)) ∧ st.t 6 = .ptr it 0) (fun st => L.length - itPos st.h it) ?_ ?_
  · exact ⟨0, Nat.zero_le _, fun j x hj => by omega, by simp -implicitDefEqProofs [go_sem], by simp -implicitDefEqProofs [go_sem]⟩
  rintro J st hJ hf ⟨i, hi, hd, hh, h6⟩
  have hits : upd h it (some (.sit s i)) it = some (.sit s i) := upd_same _ _ _
  have hsub : Sub h (upd h it (some (.sit s i))) := (Sub.refl h).upd hit _
  simp -implicitDefEqProofs [go_sem, h6, hh, hf.t, hf.m, hsz]
  refine ⟨fun hlt => ?_, fun hge => ?_⟩
  · have hlt9 : i < s.size := by omega
    obtain ⟨x, hxe⟩ : ∃ x, s[i] = x := ⟨_, rfl⟩
    have hx : L[i]? = some x := by
      rw [List.getElem?_eq_getElem hlt]; congr 1; subst hL; exact hxe
    have hxl := x.toNat_lt
    cases hdx : isDig x with
    | true =>
      have hdd : 48 ≤ x.toNat ∧ x.toNat ≤ 57 := by simpa [isDig] using hdx
      have hdec : Utf8.decode s i = (x.toNat, 1) := by
        have := decode_ascii s i hlt9 (by rw [hxe]; omega)
        rw [hxe] at this; exact this
      have c1 : ¬ ((x.toNat : Int) < 48) := by omega
      have c2 : ¬ (57 < (x.toNat : Int)) := by omega
      simp -implicitDefEqProofs [go_sem, h6, hh, hf.t, hf.m, hf, hdec, c1, c2]
      refine hJ _ ⟨i + 1, by omega, fun j y hj hy => ?_, by simp -implicitDefEqProofs [go_sem, hh, upd_twice], by simp -implicitDefEqProofs [go_sem, h6]⟩ (by simp -implicitDefEqProofs [go_sem, hh, itPos]; omega)
      by_cases e : j = i
      · subst e; rw [hx] at hy; cases hy; exact hdx
      · exact hd j y (by omega) hy
    | false =>
      have hdd : x.toNat < 48 ∨ 57 < x.toNat := by
        have : ¬ (48 ≤ x.toNat ∧ x.toNat ≤ 57) := by simpa [isDig] using hdx
        omega
      have hres : aheadN L = i := aheadN_at L i hi hd (fun y hy => by rw [hx] at hy; cases hy; exact hdx)
      by_cases hasc : x.toNat < 128
      · have hdec : Utf8.decode s i = (x.toNat, 1) := by
          have := decode_ascii s i hlt9 (by rw [hxe]; omega)
          rw [hxe] at this; exact this
        rcases hdd with hd1 | hd1
        · have c1 : (x.toNat : Int) < 48 := by omega
          simp -implicitDefEqProofs [go_sem, h6, hh, hf.t, hf.m, hf, hdec, c1]
          exact ⟨h, by rw [upd_twice]; exact (Sub.refl h).upd hit _, by rw [hres], rfl⟩
        · have c1 : ¬ ((x.toNat : Int) < 48) := by omega
          have c2 : 57 < (x.toNat : Int) := by omega
          simp -implicitDefEqProofs [go_sem, h6, hh, hf.t, hf.m, hf, hdec, c1, c2]
          exact ⟨h, by rw [upd_twice]; exact (Sub.refl h).upd hit _, by rw [hres], rfl⟩
      · obtain ⟨k1, k2⟩ := decode_high s i hlt9 (by rw [hxe]; omega)
        obtain ⟨R, W, hRW⟩ : ∃ R W, Utf8.decode s i = (R, W) := ⟨_, _, rfl⟩
        rw [hRW] at k1 k2
        have c1 : ¬ ((R : Int) < 48) := by simp only at k1; omega
        have c2 : 57 < (R : Int) := by simp only at k1; omega
        simp -implicitDefEqProofs [go_sem, h6, hh, hf.t, hf.m, hf, hRW, c1, c2]
        exact ⟨h, by rw [upd_twice]; exact (Sub.refl h).upd hit _, by rw [hres], rfl⟩
  · obtain rfl : i = L.length := by omega
    have hres : aheadN L = L.length := aheadN_at L _ hi hd (fun y hy => by rw [List.getElem?_eq_none (by omega)] at hy; cases hy)
    exact ⟨h, hsub, by rw [hres], rfl⟩
/-! a number of digits -/
def puR (m : Nat) : List UInt8 → Nat → Option Nat
  | [], n => some n
  | b :: r, n => if m < n * 10 + (b.toNat - 48) then none else puR m r (n * 10 + (b.toNat - 48))
def puV (o : Option Nat) : IV := match o with
  | some n => .tup [.int .u64 n, .niliface]
  | none => .tup [.int .u64 2147483647, .iface 419 (.int .i64 1)]
set_option maxHeartbeats 1000000 in
theorem iparse_c (s : ByteArray) (L : List UInt8) (hL : s.data.toList = L) (h0 : 0 < L.length) (hs : L.length < 1000000000) (hd : ∀ x ∈ L, isDig x = true) (h : Heap) :
    ICall Tryz.prog 269 [.str s, .int .i64 10, .int .i64 31] h (retP (puV (puR 2147483647 L 0)) h) := by
  refine icall_of_iwp (fun _ => 0) Tryz.func269 rfl (by kernel_rfl) (Nat.le_of_ble_eq_true rfl) ?_
  rw [Tryz.results269]
  have hsz : s.size = L.length := by rw [← hL]; simp
  have hne : (s.toList == ([] : List UInt8)) = false := by
    cases hq : s.toList == ([] : List UInt8) with
    | false => rfl
    | true =>
      have h1 : s.toList = [] := by simpa using hq
      rw [ByteArray.toList_eq, hL] at h1
      rw [h1] at h0; simp at h0
  have hrows : strRows s = L.map fun c => [.int .u8 c.toNat] := by rw [← hL]; rfl
  have hs9 : s.size ≤ 1000000000 := by omega
  have k1 : IntKind.u64.wrap 2147483648 = 2147483648 := by decide
  have k2 : IntKind.u64.wrap 2147483647 = 2147483647 := by decide
  have k3 : IntKind.u64.wrap 31 = 31 := by decide
  simp -implicitDefEqProofs [go_sem, hne, hs9, k1, k2, k3]
  rw [hrows]
  simp -implicitDefEqProofs [go_sem, hne, hs9, k1, k2, k3]
  refine iwp_loopF (rng [13, 15, 16, 17] 101 163) nom (fun st => ∃ i n : Nat, i ≤ L.length ∧ st.t 101 = .int .i64 i ∧ st.t 13 = .int .u64 n ∧ n ≤ 2147483647 ∧ puR 2147483647 (L.drop i) n = puR 2147483647 L 0 ∧ st.h = h) (fun st => L.length - tn (st.t 101)) ?_ ?_
  · exact ⟨0, 0, Nat.zero_le _, by simp -implicitDefEqProofs [go_sem], by simp -implicitDefEqProofs [go_sem], by omega, rfl, by simp -implicitDefEqProofs [go_sem]⟩
  rintro J st hJ hf ⟨i, n, hi, h101, h13, hn, hpu, hh⟩
  simp -implicitDefEqProofs [go_sem, h101, h13, hh, hf.t, hf.m]
  refine cK_dec (fun hlt => ?_) (fun hge => ?_)
  · have hlt' : i < L.length := by omega
    have hw := wrap_succ (i := i) (by omega)
    obtain ⟨x, hxe⟩ : ∃ x, L[i] = x := ⟨_, rfl⟩
    have hx : L[i]? = some x := by rw [← hxe]; exact List.getElem?_eq_getElem hlt'
    have hdr : L.drop i = x :: L.drop (i + 1) := by rw [← hxe]; exact List.drop_eq_getElem_cons hlt'
    have hdx : 48 ≤ x.toNat ∧ x.toNat ≤ 57 := by
      have := hd x (List.mem_of_getElem? hx)
      simpa [isDig] using this
    rw [hdr, puR] at hpu
    have c95 : ((x.toNat : Int) == 95) = false := by simp; omega
    have c48 : (48 : Int) ≤ (x.toNat : Int) := by omega
    have c57 : (x.toNat : Int) ≤ 57 := by omega
    obtain ⟨d, hdd⟩ : ∃ d : Nat, x.toNat - 48 = d := ⟨_, rfl⟩
    have hd10 : d < 10 := by omega
    have w1 : IntKind.u8.wrap ((x.toNat : Int) - 48) = (d : Int) := by
      rw [show ((x.toNat : Int) - 48) = (d : Int) from by omega]; exact wrapU8 (by omega)
    have w2 : IntKind.u8.wrap (10 : Int) = 10 := by decide
    have w3 : IntKind.u64.wrap ((n : Int) * 10) = ((n * 10 : Nat) : Int) := by
      rw [show ((n : Int) * 10) = ((n * 10 : Nat) : Int) from by omega]; exact wrapU64 (by omega)
    have w4 : IntKind.u64.wrap (d : Int) = (d : Int) := wrapU64 (by omega)
    have w5 : IntKind.u64.wrap (((n * 10 : Nat) : Int) + (d : Int)) = ((n * 10 + d : Nat) : Int) := by
      rw [show (((n * 10 : Nat) : Int) + (d : Int)) = ((n * 10 + d : Nat) : Int) from by omega]; exact wrapU64 (by omega)
    have w6 : IntKind.u64.wrap (10 : Int) = 10 := by decide
    have c10 : ¬ ((10 : Int) ≤ (d : Int)) := by omega
    have ccut : ¬ ((1844674407370955162 : Int) ≤ (n : Int)) := by omega
    have clt : ¬ (((n * 10 + d : Nat) : Int) < ((n * 10 : Nat) : Int)) := by omega
    rw [hdd] at hpu
    obtain ⟨m, hm⟩ : ∃ m : Nat, n * 10 = m := ⟨_, rfl⟩
    obtain ⟨m2, hm2⟩ : ∃ m2 : Nat, m + d = m2 := ⟨_, rfl⟩
    rw [hm] at hpu w3 w5 clt
    rw [hm2] at hpu w5 clt
    simp -implicitDefEqProofs [go_sem, h101, h13, hh, hf.t, hf.m, hlt', hx, hxe, c95, c48, c57, w1, w2, w3, w4, w5, w6, c10, ccut, clt]
    refine cK_dec (fun hgt => ?_) (fun hle => ?_)
    · have hgt' : 2147483647 < m2 := by omega
      rw [if_pos hgt'] at hpu
      simp -implicitDefEqProofs [go_sem, h101, h13, hh, hf.t, hf.m]
      exact ⟨_, Sub.refl _, by rw [← hpu]; rfl, rfl⟩
    · have hle' : ¬ 2147483647 < m2 := by omega
      rw [if_neg hle'] at hpu
      simp -implicitDefEqProofs [go_sem, h101, h13, hh, hf.t, hf.m, hf, hw]
      exact hJ _ ⟨i + 1, m2, by omega, by simp -implicitDefEqProofs [go_sem, hw], by simp -implicitDefEqProofs [go_sem], by omega, hpu, by simp -implicitDefEqProofs [go_sem, hh]⟩ (by simp [go_sem, h101, hw]; omega)
  · obtain rfl : i = L.length := by omega
    rw [List.drop_length, puR] at hpu
    simp -implicitDefEqProofs [go_sem, h101, h13, hh, hf.t, hf.m]
    exact ⟨_, Sub.refl _, by rw [← hpu]; rfl, rfl⟩
set_option maxHeartbeats 1000000 in
theorem parseUint_c (s : ByteArray) (L : List UInt8) (hL : s.data.toList = L) (h0 : 0 < L.length) (hs : L.length < 1000000000) (hd : ∀ x ∈ L, isDig x = true) (h : Heap) (hE : rngH h) :
    ICall Tryz.prog 223 [.str s, .int .i64 10, .int .i64 31] h fun e h' => h' = h ∧ ((∃ n, puR 2147483647 L 0 = some n ∧ e = .ret (.tup [.int .u64 n, .niliface])) ∨ (puR 2147483647 L 0 = none ∧ ∃ x N, e = .ret (.tup [.int .u64 x, .iface 420 (.ptr N 0)]))) := by
  refine icall_of_iwp (fun _ => 0) Tryz.func223 rfl (by kernel_rfl) (Nat.le_of_ble_eq_true rfl) ?_
  rw [Tryz.results223]
  have hsz : s.size = L.length := by rw [← hL]; simp
  simp -implicitDefEqProofs [go_sem]
  refine (iparse_c s L hL h0 hs hd h).mono ?_
  rintro e h' ⟨rfl, he⟩
  rw [he]
  cases hp : puR 2147483647 L 0 with
  | some n =>
    simp -implicitDefEqProofs [go_sem, puV]
    exact Sub.refl _
  | none =>
    simp -implicitDefEqProofs [go_sem, puV]
    refine (toErr_c _ s 10 31 h (by omega) hE).mono ?_
    rintro e h' ⟨v, rfl, ⟨N, rfl⟩, he⟩
    rw [he]
    simp -implicitDefEqProofs [go_sem]
    exact Sub.refl _
/-! numbers are read -/
def readL (L : List UInt8) : Int × Int :=
  if aheadN L < L.length then (0, 2) else if aheadN L = 0 ∨ (1 < aheadN L ∧ L.headD 0 = 48) then (0, 2) else match puR 2147483647 L 0 with
    | some n => (n, 0)
    | none => (0, 3)
def readV (s : ByteArray) : Int × Int := readL s.data.toList
def numV (s : ByteArray) (g : UInt8) : Int × Int := if s.data.toList = [] ∨ s.data.toList.headD 0 ≠ g then (0, 2) else readL (s.data.toList.drop 1)
theorem rngH.sub {h h' : Heap} (hR : rngH h) (hs : Sub h h') : rngH h' := by
  obtain ⟨v, h1, h2⟩ := hR
  exact ⟨v, hs _ _ h1, h2⟩
theorem puR_le (m : Nat) : ∀ (l : List UInt8) (n k : Nat), n ≤ m → puR m l n = some k → k ≤ m
  | [], n, k, hn, h => by simp only [puR, Option.some.injEq] at h; omega
  | b :: r, n, k, hn, h => by
    rw [puR] at h
    split at h
    · cases h
    · exact puR_le m r _ k (by omega) h
set_option maxHeartbeats 1000000 in
theorem head_c (s : ByteArray) (L : List UInt8) (hL : s.data.toList = L) (hs : L.length < 1000000000) (ha : aheadN L = L.length) (h : Heap) (hE : rngH h) :
    ICall Tryz.prog 168 [.str s] h fun e h' => h' = h ∧ ∃ y, e = .ret (.tup [.int .i64 (readL L).1, .int .i64 y, .int .i64 (readL L).2]) := by
  refine icall_of_iwp (fun _ => 0) Tryz.func168 rfl (by kernel_rfl) (Nat.le_of_ble_eq_true rfl) ?_
  rw [Tryz.results168]
  have hsz : s.size = L.length := by rw [← hL]; simp
  simp -implicitDefEqProofs [go_sem]
  refine (ahead_c s L hL (by omega) h).mono ?_
  rintro e h' ⟨rfl, he⟩
  rw [he, ha]
  have hnl : ¬ aheadN L < L.length := by omega
  by_cases h0 : L = []
  · subst h0
    simp -implicitDefEqProofs [go_sem]
    exact ⟨_, Sub.refl _, rfl, rfl, rfl⟩
  have hpos : 0 < L.length := List.length_pos_iff.2 h0
  have hd : ∀ x ∈ L, isDig x = true := fun x hx => by
    obtain ⟨j, hj, rfl⟩ := List.getElem_of_mem hx
    exact aheadN_dig L j _ (by omega) (List.getElem?_eq_getElem hj)
  obtain ⟨x, r, hxr⟩ : ∃ x r, L = x :: r := by cases L with | nil => exact absurd rfl h0 | cons x r => exact ⟨x, r, rfl⟩
  have hs0 : 0 < s.size := by omega
  have hsx : s[0] = x := by
    have : s.data.toList[0]? = some x := by rw [hL, hxr]; rfl
    have h2 : s.data.toList[0]? = some s[0] := List.getElem?_eq_getElem (by simpa using hs0)
    rw [h2] at this; exact Option.some.inj this
  have hhd : L.headD 0 = x := by rw [hxr]; rfl
  have hex : (s.extract 0 L.length).data.toList = L := by rw [← hsz, ← hL]; simp
  have hexz : ((L.length : Int) == 0) = false := by simp; omega
  have hp1 := parseUint_c (s.extract 0 L.length) L hex hpos hs hd h hE
  have hz1 : (L.length : Int) ≤ (s.size : Int) := by omega
  have fin : ICall Tryz.prog 223 [.str (s.extract 0 L.length), .int .i64 10, .int .i64 31] h fun e h' => h' = h ∧ ((∃ n, puR 2147483647 L 0 = some n ∧ e = .ret (.tup [.int .u64 n, .niliface])) ∨ (puR 2147483647 L 0 = none ∧ ∃ x N, e = .ret (.tup [.int .u64 x, .iface 420 (.ptr N 0)]))) := hp1
  simp -implicitDefEqProofs [go_sem, hexz]
  by_cases h1 : 1 < L.length
  · have h1i : (1 : Int) < (L.length : Int) := by omega
    cases hx48 : ((x.toNat : Int) == 48) with
    | true =>
      have hx : x = 48 := (u8_i _ _).1 (by simpa using hx48)
      have hrl : readL L = (0, 2) := by rw [readL, if_neg hnl, if_pos (.inr ⟨by omega, by rw [hhd, hx]⟩)]
      simp -implicitDefEqProofs [go_sem, hexz, h1i, hs0, hsx, hx48]
      exact ⟨_, Sub.refl _, rfl, by rw [hrl], by rw [hrl]⟩
    | false =>
      have hx : x ≠ 48 := fun e => by rw [e] at hx48; exact absurd hx48 (by decide)
      have hrl : readL L = (match puR 2147483647 L 0 with | some n => ((n : Int), 0) | none => (0, 3)) := by
        rw [readL, if_neg hnl, if_neg]
        rintro (e | ⟨_, e⟩)
        · omega
        · rw [hhd] at e; exact hx e
      simp -implicitDefEqProofs [go_sem, hexz, h1i, hs0, hsx, hx48, hz1]
      refine hp1.mono ?_
      rintro e h' ⟨he, hcase⟩
      rw [he]
      rcases hcase with ⟨n, hn, rfl⟩ | ⟨hn, x', N, rfl⟩
      · have hnl2 := puR_le 2147483647 L 0 n (by omega) hn
        have hwn := wrap_in (n := (n : Int)) (by omega)
        rw [hn] at hrl
        simp -implicitDefEqProofs [go_sem, hwn]
        exact ⟨_, Sub.refl _, rfl, by rw [hrl], by rw [hrl]⟩
      · rw [hn] at hrl
        simp -implicitDefEqProofs [go_sem]
        exact ⟨_, Sub.refl _, rfl, by rw [hrl], by rw [hrl]⟩
  · have h1i : ¬ ((1 : Int) < (L.length : Int)) := by omega
    have hrl : readL L = (match puR 2147483647 L 0 with | some n => ((n : Int), 0) | none => (0, 3)) := by
      rw [readL, if_neg hnl, if_neg]
      rintro (e | ⟨e, _⟩) <;> omega
    simp -implicitDefEqProofs [go_sem, hexz, h1i, hs0, hsx, hz1]
    refine hp1.mono ?_
    rintro e h' ⟨he, hcase⟩
    rw [he]
    rcases hcase with ⟨n, hn, rfl⟩ | ⟨hn, x', N, rfl⟩
    · have hnl2 := puR_le 2147483647 L 0 n (by omega) hn
      have hwn := wrap_in (n := (n : Int)) (by omega)
      rw [hn] at hrl
      simp -implicitDefEqProofs [go_sem, hwn]
      exact ⟨_, Sub.refl _, rfl, by rw [hrl], by rw [hrl]⟩
    · rw [hn] at hrl
      simp -implicitDefEqProofs [go_sem]
      exact ⟨_, Sub.refl _, rfl, by rw [hrl], by rw [hrl]⟩
theorem read_c (s : ByteArray) (hs : s.size < 100000000) (h : Heap) (hE : rngH h) : ICall Tryz.prog 113 [.str s] h (retP (.tup [.int .i64 (readV s).1, .int .i64 (readV s).2]) h) := by
  refine icall_of_iwp (fun _ => 0) Tryz.func113 rfl (by kernel_rfl) (Nat.le_of_ble_eq_true rfl) ?_
  rw [Tryz.results113]
  obtain ⟨L, hL⟩ : ∃ L, s.data.toList = L := ⟨_, rfl⟩
  have hsz : s.size = L.length := by rw [← hL]; simp
  have hrv : readV s = readL L := by rw [readV, hL]
  have hle := aheadN_le L
  rw [hrv]
  simp -implicitDefEqProofs [go_sem]
  refine (ahead_c s L hL (by omega) h).mono ?_
  rintro e h' ⟨rfl, he⟩
  rw [he]
  simp -implicitDefEqProofs [go_sem, hsz]
  by_cases hlt : aheadN L < L.length
  · simp -implicitDefEqProofs [go_sem, hlt]
    exact ⟨_, Sub.refl _, by rw [readL, if_pos hlt], rfl⟩
  · simp -implicitDefEqProofs [go_sem, hlt]
    refine (head_c s L hL (by omega) (by omega) h hE).mono ?_
    rintro e h' ⟨he, y, rfl⟩
    rw [he]
    simp -implicitDefEqProofs [go_sem]
    exact ⟨_, Sub.refl _, rfl, rfl⟩
theorem wnum_c (s : ByteArray) (g : UInt8) (hs : s.size < 100000000) (h : Heap) (hE : rngH h) : ICall Tryz.prog 112 [.str s, .int .u8 g.toNat] h (retP (.tup [.int .i64 (numV s g).1, .int .i64 (numV s g).2]) h) := by
  refine icall_of_iwp (fun _ => 0) Tryz.func112 rfl (by kernel_rfl) (Nat.le_of_ble_eq_true rfl) ?_
  rw [Tryz.results112]
  obtain ⟨L, hL⟩ : ∃ L, s.data.toList = L := ⟨_, rfl⟩
  have hsz : s.size = L.length := by rw [← hL]; simp
  have hnv : numV s g = if L = [] ∨ L.headD 0 ≠ g then (0, 2) else readL (L.drop 1) := by rw [numV, hL]
  rw [hnv]
  cases L with
  | nil =>
    have hz : s.size = 0 := by rw [hsz]; rfl
    simp -implicitDefEqProofs [go_sem, hz]
    exact ⟨_, Sub.refl _, rfl, rfl⟩
  | cons x r =>
    have hs0 : 0 < s.size := by rw [hsz]; simp
    have hsx : s[0] = x := by
      have h2 : s.data.toList[0]? = some s[0] := List.getElem?_eq_getElem (by simpa using hs0)
      rw [hL] at h2; exact (Option.some.inj h2).symm
    have hzb : ((s.size : Int) == 0) = false := by
      have : (s.size : Int) ≠ 0 := by omega
      simpa using this
    have hz1 : (1 : Int) ≤ (s.size : Int) := by omega
    cases hxg : ((x.toNat : Int) != (g.toNat : Int)) with
    | true =>
      have hne : x ≠ g := fun e => by rw [e] at hxg; simp at hxg
      simp -implicitDefEqProofs [go_sem, hzb, hs0, hsx, hxg]
      exact ⟨_, Sub.refl _, by rw [if_neg hne], rfl⟩
    | false =>
      have he : x = g := (u8_i _ _).1 (by simpa using hxg)
      have hex : readV (s.extract 1 s.size) = readL r := by
        unfold readV
        congr 1
        have : (s.extract 1 s.size).data.toList = s.data.toList.drop 1 := by simp; exact List.take_of_length_le (by simp)
        rw [this, hL]; rfl
      have hr := read_c (s.extract 1 s.size) (by simp; omega) h hE
      rw [hex] at hr
      simp -implicitDefEqProofs [go_sem, hzb, hs0, hsx, hxg, hz1]
      refine hr.mono ?_
      rintro e h' ⟨rfl, hh⟩
      rw [hh]
      simp -implicitDefEqProofs [go_sem]
      exact ⟨_, Sub.refl _, by rw [if_pos he], rfl⟩
end Go.Proofs
