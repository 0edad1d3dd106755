/- This text is a part of the proofs of the statements of this seat: the ideal states and their rules, or what one of the functions that the statements reach comes to. Conditions: none beyond those that each theorem names. -/
import Derived.Test.YtejjnaibgimiaaaGreatDoorF15
import Derived.Test.YtejjnaibgimiaaaGreatDoorT0
import Derived.Shelf.Strconv.Itoa3
import Derived.Shelf.Strings.OnBuilder
import Derived.Shelf.Small.Strs
set_option linter.unusedVariables false
set_option linter.unusedSimpArgs false
set_option pp.deepTerms false
set_option pp.maxSteps 400
namespace Go.Proofs
open Go.Idl Go.Shelf

/-! the shelf's contracts, laid here -/
set_option maxRecDepth 100000
def rhoN : Go.Shelf.Ren where
  f := fun | 129 => 149 | 137 => 73 | 156 => 65 | 165 => 103 | 166 => 104 | 169 => 105 | 171 => 102 | 217 => 110 | 240 => 164 | 241 => 165 | 243 => 163 | 246 => 220 | 266 => 166 | 276 => 221 | 277 => 222 | 283 => 265 | 284 => 266 | 285 => 267 | 286 => 268 | 317 => 300 | 318 => 301 | 319 => 302 | 320 => 303 | 337 => 335 | 338 => 336 | _ => 0
  t := fun | 0 => 0 | 2 => 2 | 3 => 3 | 4 => 4 | 5 => 5 | 9 => 9 | 20 => 20 | 31 => 23 | 37 => 74 | 46 => 175 | 51 => 266 | 53 => 268 | 70 => 208 | 72 => 210 | 75 => 47 | 76 => 211 | 80 => 108 | 127 => 287 | 164 => 149 | 171 => 379 | 173 => 381 | 212 => 417 | 213 => 418 | 232 => 474 | 233 => 475 | _ => 0
  g := fun | 17 => 2 | 18 => 5 | 19 => 6 | _ => 0
theorem layItoa : LaysM.n171 Tryz.prog rhoN where
  mixed := mixed
  f129 := Tryz.func149.trans (congrArg some (by kernel_rfl))
  f171 := Tryz.func102.trans (congrArg some (by kernel_rfl))
  f243 := Tryz.func163.trans (congrArg some (by kernel_rfl))
  f246 := Tryz.func220.trans (congrArg some (by kernel_rfl))
  f283 := Tryz.func265.trans (congrArg some (by kernel_rfl))
  f284 := Tryz.func266.trans (congrArg some (by kernel_rfl))
  f285 := Tryz.func267.trans (congrArg some (by kernel_rfl))
  f286 := Tryz.func268.trans (congrArg some (by kernel_rfl))
  f317 := Tryz.func300.trans (congrArg some (by kernel_rfl))
  f318 := Tryz.func301.trans (congrArg some (by kernel_rfl))
  f319 := Tryz.func302.trans (congrArg some (by kernel_rfl))
  f320 := Tryz.func303.trans (congrArg some (by kernel_rfl))
  f337 := Tryz.func335.trans (congrArg some (by kernel_rfl))
  f338 := Tryz.func336.trans (congrArg some (by kernel_rfl))
  t0 := Tryz.underlying0
  a0 := Tryz.isAgg0
  z0 := Tryz.sizeOf0
  v0 := Tryz.zeroValue0
  t2 := Tryz.underlying2
  a2 := Tryz.isAgg2
  z2 := Tryz.sizeOf2
  v2 := Tryz.zeroValue2
  t3 := Tryz.underlying3
  a3 := Tryz.isAgg3
  z3 := Tryz.sizeOf3
  v3 := Tryz.zeroValue3
  t4 := Tryz.underlying4
  a4 := Tryz.isAgg4
  z4 := Tryz.sizeOf4
  v4 := Tryz.zeroValue4
  t5 := Tryz.underlying5
  a5 := Tryz.isAgg5
  z5 := Tryz.sizeOf5
  v5 := Tryz.zeroValue5
  t9 := Tryz.underlying9
  a9 := Tryz.isAgg9
  z9 := Tryz.sizeOf9
  v9 := Tryz.zeroValue9
  t20 := Tryz.underlying20
  a20 := Tryz.isAgg20
  z20 := Tryz.sizeOf20
  v20 := Tryz.zeroValue20
  t37 := Tryz.underlying74
  a37 := Tryz.isAgg74
  z37 := Tryz.sizeOf74
  v37 := Tryz.zeroValue74
  t46 := Tryz.underlying175
  a46 := Tryz.isAgg175
  z46 := Tryz.sizeOf175
  v46 := Tryz.zeroValue175
  t51 := Tryz.underlying266
  a51 := Tryz.isAgg266
  z51 := Tryz.sizeOf266
  v51 := Tryz.zeroValue266
  t53 := Tryz.underlying268
  a53 := Tryz.isAgg268
  z53 := Tryz.sizeOf268
  v53 := Tryz.zeroValue268
  t171 := Tryz.underlying379
  a171 := Tryz.isAgg379
  z171 := Tryz.sizeOf379
  v171 := Tryz.zeroValue379
  t173 := Tryz.underlying381
  a173 := Tryz.isAgg381
  z173 := Tryz.sizeOf381
  v173 := Tryz.zeroValue381
  t212 := Tryz.underlying417
  a212 := Tryz.isAgg417
  z212 := Tryz.sizeOf417
  v212 := Tryz.zeroValue417
  t213 := Tryz.underlying418
  a213 := Tryz.isAgg418
  z213 := Tryz.sizeOf418
  t232 := Tryz.underlying474
  a232 := Tryz.isAgg474
  z232 := Tryz.sizeOf474
  v232 := Tryz.zeroValue474
  t233 := Tryz.underlying475
  a233 := Tryz.isAgg475
  z233 := Tryz.sizeOf475
  v233 := Tryz.zeroValue475
  g17 := by kernel_rfl
  g18 := by kernel_rfl
  g19 := by kernel_rfl
  i0 := by kernel_rfl
  i2 := by kernel_rfl
  i3 := by kernel_rfl
  i4 := by kernel_rfl
  i5 := by kernel_rfl
  i9 := by kernel_rfl
  i20 := by kernel_rfl
  i37 := by kernel_rfl
  i46 := by kernel_rfl
  i51 := by kernel_rfl
  i53 := by kernel_rfl
  i171 := by kernel_rfl
  i173 := by kernel_rfl
  i212 := by kernel_rfl
  i232 := by kernel_rfl
  i233 := by kernel_rfl
  m17 := by kernel_rfl
  m18 := by kernel_rfl
  m19 := by kernel_rfl
theorem layJoin : Lays.n156 Tryz.prog rhoN where
  mixed := mixed
  f156 := Tryz.func65.trans (congrArg some (by kernel_rfl))
  f165 := Tryz.func103.trans (congrArg some (by kernel_rfl))
  f166 := Tryz.func104.trans (congrArg some (by kernel_rfl))
  f169 := Tryz.func105.trans (congrArg some (by kernel_rfl))
  f240 := Tryz.func164.trans (congrArg some (by kernel_rfl))
  f241 := Tryz.func165.trans (congrArg some (by kernel_rfl))
  f276 := Tryz.func221.trans (congrArg some (by kernel_rfl))
  f277 := Tryz.func222.trans (congrArg some (by kernel_rfl))
  t0 := Tryz.underlying0
  a0 := Tryz.isAgg0
  z0 := Tryz.sizeOf0
  v0 := Tryz.zeroValue0
  t3 := Tryz.underlying3
  a3 := Tryz.isAgg3
  z3 := Tryz.sizeOf3
  v3 := Tryz.zeroValue3
  t4 := Tryz.underlying4
  a4 := Tryz.isAgg4
  z4 := Tryz.sizeOf4
  v4 := Tryz.zeroValue4
  t9 := Tryz.underlying9
  a9 := Tryz.isAgg9
  z9 := Tryz.sizeOf9
  v9 := Tryz.zeroValue9
  t20 := Tryz.underlying20
  a20 := Tryz.isAgg20
  z20 := Tryz.sizeOf20
  v20 := Tryz.zeroValue20
  t31 := Tryz.underlying23
  a31 := Tryz.isAgg23
  z31 := Tryz.sizeOf23
  v31 := Tryz.zeroValue23
  t37 := Tryz.underlying74
  a37 := Tryz.isAgg74
  z37 := Tryz.sizeOf74
  v37 := Tryz.zeroValue74
  t70 := Tryz.underlying208
  a70 := Tryz.isAgg208
  z70 := Tryz.sizeOf208
  v70 := Tryz.zeroValue208
  t72 := Tryz.underlying210
  a72 := Tryz.isAgg210
  z72 := Tryz.sizeOf210
  v72 := Tryz.zeroValue210
  t75 := Tryz.underlying47
  a75 := Tryz.isAgg47
  z75 := Tryz.sizeOf47
  v75 := Tryz.zeroValue47
  t76 := Tryz.underlying211
  a76 := Tryz.isAgg211
  z76 := Tryz.sizeOf211
  v76 := Tryz.zeroValue211
  t127 := Tryz.underlying287
  a127 := Tryz.isAgg287
  z127 := Tryz.sizeOf287
  v127 := Tryz.zeroValue287
  t164 := Tryz.underlying149
  a164 := Tryz.isAgg149
  z164 := Tryz.sizeOf149
  v164 := Tryz.zeroValue149
theorem extJoin : Builder.Extra Tryz.prog rhoN where
  sizeBuilder := by kernel_rfl
  liesBuilder := by kernel_rfl
  t5 := Tryz.underlying5
  a5 := Tryz.isAgg5
  z5 := Tryz.sizeOf5
  v5 := Tryz.zeroValue5
  infoByte := by kernel_rfl
  cellsByte := by kernel_rfl
  sizeByte := by kernel_rfl
  neB5 := by decide
theorem layIB : Lays.n137 Tryz.prog rhoN where
  mixed := mixed
  f137 := Tryz.func73.trans (congrArg some (by kernel_rfl))
  f217 := Tryz.func110.trans (congrArg some (by kernel_rfl))
  f266 := Tryz.func166.trans (congrArg some (by kernel_rfl))
  t3 := Tryz.underlying3
  a3 := Tryz.isAgg3
  z3 := Tryz.sizeOf3
  v3 := Tryz.zeroValue3
  t5 := Tryz.underlying5
  a5 := Tryz.isAgg5
  z5 := Tryz.sizeOf5
  v5 := Tryz.zeroValue5
  t9 := Tryz.underlying9
  a9 := Tryz.isAgg9
  z9 := Tryz.sizeOf9
  v9 := Tryz.zeroValue9

/-- a contract of the library whose memory only grows -/
theorem icall_grow {f : FuncId} {args : List IV} {h : Heap} {v : IV} (hen : Idl.Enters Tryz.prog f)
    (hc : ∀ (F : Nat → Nat → Prop) (X : Nat → Prop) (w : World) (vs : Array Value), HRel F X h w → RepAll F w args vs.toList → Calls Tryz.prog f vs w fun e w' => (∃ u, e = .returned u ∧ Rep F w' v u) ∧ RowKit.Below w.heap.size w w') : ICall Tryz.prog f args h (retP v h) := by
  refine ⟨hen, fun F X w vs hh hr => (hc F X w vs hh hr).mono ?_⟩
  rintro e w' ⟨⟨u, rfl, hu⟩, hb⟩
  have hkeepF : FLe F w F w' := ⟨fun _ _ h => h, fun b o hf => hb.cell (p := ⟨b, o, none⟩) (hh.fb b o hf)⟩
  have hobj : ∀ b o, h b = some o → XOk X b o ∧ ObjRep F w' b o := fun b o ho => by
    obtain ⟨h1, h2⟩ := hh.hp b o ho
    exact ⟨h1, h2.mono hkeepF (hb.block b (hh.blt ho))⟩
  exact ⟨F, X, h, .ret v, ⟨rfl, rfl⟩, hu, ⟨hobj, hh.xf, fun b hx => Nat.lt_of_lt_of_le (hh.xb b hx) hb.size, fun b o hf => Nat.lt_of_lt_of_le (hh.fb b o hf) hb.size⟩,
    hb.size, hb.os, hb.tape, hb.output, fun _ _ h => h, hkeepF.cell, fun b hb1 _ => hb.block b hb1, fun _ h => .inl h, fun _ _ h => .inl h⟩

def itoaB (n : Int) : ByteArray := ⟨(Lib.itoa n).toArray⟩
theorem itoaS_c (i : Nat) (hi : i < 100) (h : Heap) : ICall Tryz.prog 102 [.int .i64 i] h (retP (.str (itoaB i)) h) := by
  refine icall_grow ⟨_, Tryz.func102, by kernel_rfl, by kernel_rfl⟩ fun F X w vs hh hr => ?_
  obtain ⟨v, vs', hv, rfl, hr3⟩ := hr
  cases hr3
  have hvs : vs = #[.int .i64 i] := by apply Array.ext'; exact hv
  subst hvs
  refine (Any.strconv_Itoa_small { layItoa with } i hi w).mono ?_
  rintro e w' ⟨rfl, rfl⟩
  have : Lib.itoa (i : Int) = Lib.decDigits i := by unfold Lib.itoa; rw [if_neg (by omega)]; rfl
  exact ⟨⟨_, rfl, by rw [itoaB, this]; rfl⟩, RowKit.Below.refl _ _⟩

def strRow (s : ByteArray) : List IV := [.str s]
@[go_sem] theorem strRow_len (s : ByteArray) : (strRow s).length = 1 := rfl
@[go_sem high] theorem strRow_take (s : ByteArray) : (strRow s).take 1 = [.str s] := rfl
@[go_sem high] theorem strs_uni (l : List ByteArray) : uni 1 (l.map strRow) = true := by simp [uni, strRow]
def joinB (l : List ByteArray) (sep : ByteArray) : ByteArray := ⟨(Lib.join (l.map (·.data.toList)) sep.data.toList).toArray⟩
theorem strRows_vals {F : Nat → Nat → Prop} {w : World} : ∀ {l : List ByteArray} {vals : List Value}, RepRows F w (l.map strRow) vals → vals = l.map fun x => Value.string x
  | [], _, h => by cases h; rfl
  | x :: xs, _, h => by
    obtain ⟨v1, v2, rfl, ⟨y, ys, rfl, rfl, h0⟩, h2⟩ := h
    cases h0
    rw [strRows_vals h2]; rfl
theorem sjoin_c (l : List ByteArray) (sep : ByteArray) (tk : Tok) (h : Heap) (hl : l.length ≤ 140737488355328) (hs : (Lib.join (l.map (·.data.toList)) sep.data.toList).length ≤ 140737488355328) :
    ICall Tryz.prog 65 [.list tk (l.map strRow), .str sep] h (retP (.str (joinB l sep)) h) := by
  refine icall_grow ⟨_, Tryz.func65, by kernel_rfl, by kernel_rfl⟩ fun F X w vs hh hr => ?_
  obtain ⟨v, vs', hv, ⟨A, cap, vals, rfl, hcap, hcm, _, _, hA⟩, hr3⟩ := hr
  obtain ⟨v2, vs2, rfl, rfl, hr4⟩ := hr3
  cases hr4
  have hvs : vs = #[.slice A (l.map strRow).length cap, .string sep] := by apply Array.ext'; exact hv
  subst hvs
  rw [List.length_map] at hcap ⊢
  cases A with
  | none =>
    simp only at hA
    have h0 : l = [] := List.eq_nil_of_length_eq_zero (by omega)
    subst h0
    refine (Any.strings_Join_none layJoin extJoin none cap sep w).mono ?_
    rintro e w' ⟨rfl, rfl⟩
    exact ⟨⟨_, rfl, rfl⟩, RowKit.Below.refl _ _⟩
  | some a =>
    obtain ⟨bk, o, sp⟩ := a
    obtain ⟨hsp, hf, hrep⟩ := hA
    by_cases h0 : l = []
    · subst h0
      refine (Any.strings_Join_none layJoin extJoin (some ⟨bk, o, sp⟩) cap sep w).mono ?_
      rintro e w' ⟨rfl, rfl⟩
      exact ⟨⟨_, rfl, rfl⟩, RowKit.Below.refl _ _⟩
    · have hpos : 0 < l.length := by cases l with | nil => exact absurd rfl h0 | cons => simp
      obtain rfl : sp = none := hsp (.inr (by omega))
      have hvals := strRows_vals hrep
      have hc : ∀ (j : Nat) x, l[j]? = some x → w.cell? ⟨bk, o + j, none⟩ = some (.string x) := fun j x hj => (hf j (.string x) (by rw [hvals, List.getElem?_map, hj]; rfl)).2.1
      have hbk : bk < w.heap.size := by
        have := (hf 0 (.string l[0]) (by rw [hvals, List.getElem?_map, List.getElem?_eq_getElem hpos]; rfl)).1
        exact hh.fb _ _ this
      refine (Any.strings_Join layJoin extJoin bk o cap l sep w hc hbk hl hcap hs).mono ?_
      rintro e w' ⟨rfl, hb⟩
      exact ⟨⟨_, rfl, rfl⟩, hb⟩
theorem indexByte_c (s : ByteArray) (c : Int) (h : Heap) : ICall Tryz.prog 73 [.str s, .int .u8 c] h (retP (.int .i64 (Lib.indexByte s.data.toList c.toNat.toUInt8)) h) := by
  refine icall_grow ⟨_, Tryz.func73, by kernel_rfl, by kernel_rfl⟩ fun F X w vs hh hr => ?_
  obtain ⟨v, vs', hv, rfl, v2, vs2, rfl, rfl, hr4⟩ := hr
  cases hr4
  have hvs : vs = #[.string s, .int .u8 c] := by apply Array.ext'; exact hv
  subst hvs
  refine (Any.strings_IndexByte layIB s c w).mono ?_
  rintro e w' ⟨rfl, rfl⟩
  exact ⟨⟨_, rfl, rfl⟩, RowKit.Below.refl _ _⟩
end Go.Proofs

set_option linter.unusedVariables false
set_option linter.unusedSimpArgs false
set_option pp.deepTerms false
set_option pp.maxSteps 400
namespace Go.Proofs
open Go.Idl

/-! slices that grow in the heap -/
def slAt (h0 h : Heap) (ty : TypeId) (c : IV) (rows : List (List IV)) : Prop :=
  (rows = [] ∧ c = .list .tight []) ∨ (rows ≠ [] ∧ ∃ b cap, c = .sl 1 b 0 rows.length cap ∧ h b = some (.arr ty 1 rows cap) ∧ rows.length ≤ cap ∧ h0 b = none)
theorem slAt.keep {h0 h h' : Heap} {ty : TypeId} {c : IV} {rows : List (List IV)} (hs : slAt h0 h ty c rows) (hk : ∀ b rows' cap', h b = some (.arr ty 1 rows' cap') → h' b = h b) : slAt h0 h' ty c rows := by
  rcases hs with h1 | ⟨hne, b, cap, h1, h2, h3, h4⟩
  · exact .inl h1
  · exact .inr ⟨hne, b, cap, h1, (hk b _ _ h2).trans h2, h3, h4⟩
theorem slAt.cell {h0 h : Heap} {ty : TypeId} {c : IV} {rows : List (List IV)} (hs : slAt h0 h ty c rows) {cb : Nat} {cs cs' : List IV} (hc : h cb = some (.cells cs)) : slAt h0 (upd h cb (some (.cells cs'))) ty c rows :=
  hs.keep fun b _ _ hb => upd_ne _ _ (by rintro rfl; rw [hc] at hb; cases hb)
theorem slAt.new {h0 h : Heap} {ty : TypeId} {c : IV} {rows : List (List IV)} (hs : slAt h0 h ty c rows) {b' : Nat} (hc : h b' = none) (o : Option IObj) : slAt h0 (upd h b' o) ty c rows :=
  hs.keep fun b _ _ hb => upd_ne _ _ (by rintro rfl; rw [hc] at hb; cases hb)
theorem slAt.arr {h0 h : Heap} {ty ty2 : TypeId} {c : IV} {rows : List (List IV)} (hs : slAt h0 h ty c rows) {b2 z : Nat} {rows2 : List (List IV)} {cap2 : Nat} (hc : h b2 = some (.arr ty2 z rows2 cap2)) (hne : ty2 ≠ ty) (o : Option IObj) : slAt h0 (upd h b2 o) ty c rows :=
  hs.keep fun b _ _ hb => upd_ne _ _ (by rintro rfl; rw [hc] at hb; cases hb; exact hne rfl)
theorem slAt.drop {h0 h : Heap} {ty ty2 : TypeId} {c : IV} {rows : List (List IV)} (hs : slAt h0 h ty c rows) {b2 z : Nat} {rows2 : List (List IV)} {cap2 : Nat} (hc : h b2 = some (.arr ty2 z rows2 cap2)) (hne : ty2 ≠ ty) : slAt h0 (fun j => if j = b2 then none else h j) ty c rows :=
  hs.keep fun b _ _ hb => if_neg (by rintro rfl; rw [hc] at hb; cases hb; exact hne rfl)
theorem Sub.drop {h0 h : Heap} {b : Nat} (hs : Sub h0 h) (hb : h0 b = none) : Sub h0 (fun j => if j = b then none else h j) := fun j o hj => by
  show (if j = b then none else h j) = _
  rw [if_neg (by rintro rfl; rw [hb] at hj; cases hj)]; exact hs j o hj
theorem slAt.str {h0 h : Heap} {ty : TypeId} {c : IV} {rows : List (List IV)} (hs : slAt h0 h ty c rows) : stripT c = c := by rcases hs with ⟨_, rfl⟩ | ⟨_, b, cap, rfl, _⟩ <;> rfl
theorem slAt.ok {h0 h : Heap} {ty : TypeId} {c : IV} {rows : List (List IV)} (hs : slAt h0 h ty c rows) : okV c = true := by rcases hs with ⟨_, rfl⟩ | ⟨_, b, cap, rfl, _⟩ <;> rfl
theorem slAt.ic {h0 h : Heap} {ty : TypeId} {c : IV} {rows : List (List IV)} (hs : slAt h0 h ty c rows) : icells c = [c] := by rcases hs with ⟨_, rfl⟩ | ⟨_, b, cap, rfl, _⟩ <;> rfl
/-- what an append to an array of one type leaves alone -/
def offT' (ty : TypeId) (h h' : Heap) : Prop := ∀ b o, h b = some o → (∀ z rows cap, o ≠ .arr ty z rows cap) → h' b = some o
theorem slAt.off {h0 h h' : Heap} {ty ty2 : TypeId} {c : IV} {rows : List (List IV)} (hs : slAt h0 h ty c rows) (hf : offT' ty2 h h') (hne : ty2 ≠ ty) : slAt h0 h' ty c rows :=
  hs.keep fun b rows' cap' hb => (hf b _ hb (fun z r cp e => hne (by cases e; rfl))).trans hb.symm
theorem abK_slAt {P : Program} {st : St} {d : Nat} {t ty : TypeId} {h0 : Heap} {c : IV} {rows : List (List IV)} {r : List IV} {tk : Tok} {K : St → Prop} (hs : slAt h0 st.h ty c rows) (hsub : Sub h0 st.h) (he : elT P t = some ty) (hz : elZ P ty = some 1)
    (hr : roomy P ty (rows.length + 1)) (hu : uni 1 rows = true) (hr1 : r.length = 1)
    (hK : ∀ H' c', slAt h0 H' ty c' (rows ++ [r]) → Sub h0 H' → offT' ty st.h H' → K ((st.putH H').put (some d) c')) : abK P st d t c (.list tk [r]) K := by
  have hu2 : uni 1 [r] = true := by simp [uni, hr1]
  have hnew : ∀ b' cap', st.h b' = none → rows.length + 1 ≤ cap' → K ((st.setH b' (.arr ty 1 (rows ++ [r]) cap')).put (some d) (.sl 1 b' 0 (rows.length + 1) cap')) := by
    intro b' cap' hb' hcap
    have h0b' : h0 b' = none := by
      cases hx : h0 b' with
      | none => rfl
      | some o => rw [hsub _ _ hx] at hb'; cases hb'
    refine hK (upd st.h b' (some (.arr ty 1 (rows ++ [r]) cap'))) _ (.inr ⟨by simp, b', cap', by simp, upd_same _ _ _, by simpa using hcap, h0b'⟩) (hsub.upd h0b' _) fun b o hb _ => ?_
    rw [upd_ne _ _ (by rintro rfl; rw [hb'] at hb; cases hb)]; exact hb
  rcases hs with ⟨rfl, rfl⟩ | ⟨hne, b, cap, rfl, hb, hle, h0b⟩
  · rw [abK_list, he, Option.bind_some, hz, dK_some, eoK_some]
    exact ⟨⟨hr, rfl, hu2⟩, (fun e => by cases e), fun _ b' cap' hb' hcap => hnew b' cap' hb' hcap⟩
  · rw [abK_sl, hb, arK_some, he, eoK_some]
    refine ⟨⟨rfl, rfl, rfl, hz, rfl, rfl, hr, hu2⟩, fun hfit => ?_, fun _ b' cap' hb' hcap => hnew b' cap' hb' hcap⟩
    refine hK (upd st.h b (some (.arr ty 1 (rows ++ [r]) cap))) _ (.inr ⟨by simp, b, cap, by simp, upd_same _ _ _, by simpa using hfit, h0b⟩) (hsub.upd h0b _) fun b2 o hb2 ho => ?_
    rw [upd_ne _ _ (by rintro rfl; rw [hb] at hb2; cases hb2; exact ho _ _ _ rfl)]; exact hb2
/-- a struct's slice becomes a list -/
theorem ffK_slAt {st : St} {k cb : Nat} {d : Option Tmp} {ty : TypeId} {h0 : Heap} {c : IV} {cs : List IV} {rows : List (List IV)} {K : St → Prop} (hs : slAt h0 st.h ty c rows) (hsub : Sub h0 st.h) (h0c : h0 cb = none) (hcb : st.h cb = some (.cells cs)) (hc : cs[k]? = some c)
    (hK : ∀ H' tk, H' cb = some (.cells (cs.set k (.list tk rows))) → Sub h0 H' → (∀ b o, st.h b = some o → b ≠ cb → (∀ z rows cap, o ≠ .arr ty z rows cap) → H' b = some o) → K ((st.putH H').put d (.ptr cb 0))) : ffK k st (.ptr cb 0) d K := by
  rw [ffK_ptr, hcb, oK_some, hc]
  rcases hs with ⟨rfl, rfl⟩ | ⟨hne, b, cap, rfl, hb, hle, h0b⟩
  · rw [fcK_list]
    refine hK st.h .tight ?_ hsub fun b o hb _ _ => hb
    rw [hcb]
    congr 2
    apply List.ext_getElem?
    intro j
    rw [List.getElem?_set]
    split
    · rename_i e; subst e; rw [hc, if_pos (List.getElem?_eq_some_iff.1 hc).1]
    · rfl
  · rw [fcK_sl]
    have hne2 : cb ≠ b := by rintro rfl; rw [hcb] at hb; cases hb
    rw [hb, arK_some]
    refine ⟨⟨rfl, by simp⟩, ?_⟩
    rw [lK_eq]
    have e1 : (rows.drop 0).take rows.length = rows := by simp
    rw [e1]
    refine hK (upd (fun j => if j = b then none else st.h j) cb (some (.cells (cs.set k (.list .plain rows))))) .plain (upd_same _ _ _) ((Sub.drop hsub h0b).upd h0c _) fun b2 o hb2 h2c ho => ?_
    rw [upd_ne _ _ h2c, if_neg (by rintro rfl; rw [hb] at hb2; cases hb2; exact ho _ _ _ rfl)]; exact hb2

/-! a line is cut -/
structure CS where
  cmds : List (List ByteArray)
  words : List ByteArray
  word : List UInt8
  begun : Bool
def cmdRow (w : List ByteArray) : List IV := [.list .plain (w.map strRow)]
def byRow (c : UInt8) : List IV := [.int .u8 c.toNat]
@[go_sem high] theorem cmds_uni (l : List (List ByteArray)) : uni 1 (l.map cmdRow) = true := by simp [uni, cmdRow]
@[go_sem high] theorem bys_uni (l : List UInt8) : uni 1 (l.map byRow) = true := by simp [uni, byRow]
@[go_sem high] theorem bytesOf_by : ∀ l : List UInt8, bytesOf (l.map byRow) = some l
  | [] => rfl
  | c :: l => by simp [bytesOf, byRow, bytesOf_by l]
def cutAt (h0 h : Heap) (cb : Nat) (s : CS) : Prop := h0 cb = none ∧ Sub h0 h ∧ ∃ c0 c1 c2, h cb = some (.cells [c0, c1, c2, .bool s.begun]) ∧ slAt h0 h 23 c0 (s.cmds.map cmdRow) ∧ slAt h0 h 9 c1 (s.words.map strRow) ∧ slAt h0 h 5 c2 (s.word.map byRow)
def CS.put (s : CS) (b : UInt8) : CS := { s with word := s.word ++ [b], begun := true }
def CS.endw (s : CS) : CS := { s with words := if s.begun then s.words ++ [⟨s.word.toArray⟩] else s.words, word := [], begun := false }
def CS.cmd (s : CS) : CS := { s.endw with cmds := if s.endw.words = [] then s.endw.cmds else s.endw.cmds ++ [s.endw.words], words := [] }
def cutR (h0 : Heap) (cb : Nat) (s : CS) (e : IEnd) (h' : Heap) : Prop := e = .ret (.tup []) ∧ cutAt h0 h' cb s
structure CS.ok (s : CS) (N : Nat) : Prop where
  c : s.cmds.length ≤ N
  w : s.words.length ≤ N
  b : s.word.length ≤ N
set_option maxRecDepth 20000 in
theorem qput_c {h0 h : Heap} {cb : Nat} {s : CS} (b : UInt8) (hc : cutAt h0 h cb s) (hs : s.ok 100000) : ICall Tryz.prog 40 [.ptr cb 0, .int .u8 b.toNat] h (cutR h0 cb (s.put b)) := by
  refine icall_of_iwp (fun d => if d = 12 then 2 else 0) Tryz.func40 rfl (by kernel_rfl) (Nat.le_of_ble_eq_true rfl) ?_
  rw [Tryz.results40]
  obtain ⟨h0c, hsub, c0, c1, c2, hcb, s0, s1, s2⟩ := hc
  have hsb := hs.b
  simp -implicitDefEqProofs [go_sem, hcb]
  refine abK_slAt s2 hsub elT_74 elZ_5 (by simp [roomy, byT_5]; omega) (bys_uni _) rfl fun H c' g2 gsub goff => ?_
  have hcb' : H cb = some (.cells [c0, c1, c2, .bool s.begun]) := goff cb _ hcb (by simp)
  have g0 := s0.off goff (by decide)
  have g1 := s1.off goff (by decide)
  simp -implicitDefEqProofs [go_sem, hcb', g2.str, g2.ic]
  refine ⟨g2.ok, _, Sub.refl _, rfl, h0c, (gsub.upd h0c _).upd h0c _, c0, c1, c', by simp [upd, CS.put], (g0.cell hcb').cell (upd_same _ _ _), (g1.cell hcb').cell (upd_same _ _ _), ?_⟩
  have e1 : (s.put b).word.map byRow = s.word.map byRow ++ [[.int .u8 b.toNat]] := by simp [CS.put, byRow]
  rw [e1]
  exact (g2.cell hcb').cell (upd_same _ _ _)
set_option maxRecDepth 20000 in
theorem endw_c {h0 h : Heap} {cb : Nat} {s : CS} (hc : cutAt h0 h cb s) (hs : s.ok 100000) : ICall Tryz.prog 63 [.ptr cb 0] h (cutR h0 cb s.endw) := by
  refine icall_of_iwp (fun d => if d = 2 then 102 else if d = 17 then 2 else 0) Tryz.func63 rfl (by kernel_rfl) (Nat.le_of_ble_eq_true rfl) ?_
  rw [Tryz.results63]
  obtain ⟨h0c, hsub, c0, c1, c2, hcb, s0, s1, s2⟩ := hc
  have hsw := hs.w
  simp -implicitDefEqProofs [go_sem]
  refine ffK_slAt s2 hsub h0c hcb rfl fun H tk hcb' gsub goff => ?_
  have g0 : slAt h0 H 23 c0 (s.cmds.map cmdRow) := s0.keep fun b rows' cap' hb => (goff b _ hb (by rintro rfl; rw [hcb] at hb; cases hb) (by intro z r cp e; cases e)).trans hb.symm
  have g1 : slAt h0 H 9 c1 (s.words.map strRow) := s1.keep fun b rows' cap' hb => (goff b _ hb (by rintro rfl; rw [hcb] at hb; cases hb) (by intro z r cp e; cases e)).trans hb.symm
  simp only [List.set_cons_succ, List.set_cons_zero] at hcb'
  have nil2 : ∀ H : Heap, slAt h0 H 5 (.list .tight []) [] := fun H => .inl ⟨rfl, rfl⟩
  cases hb : s.begun with
  | false =>
    rw [hb] at hcb'
    simp -implicitDefEqProofs [go_sem, hcb']
    refine ⟨_, Sub.refl _, rfl, h0c, (gsub.upd h0c _).upd h0c _, c0, c1, .list .tight [], by simp [upd, CS.endw], (g0.cell hcb').cell (upd_same _ _ _), ?_, nil2 _⟩
    have e1 : s.endw.words = s.words := by simp [CS.endw, hb]
    rw [e1]
    exact (g1.cell hcb').cell (upd_same _ _ _)
  | true =>
    rw [hb] at hcb'
    simp -implicitDefEqProofs [go_sem, hcb']
    refine iwp_drawn_of mixed [0, 1, 2, 3, 4, 5, 6, 7, 8, 9, 10, 11, 12, 13, 14] (by kernel_rfl) ?_
    simp -implicitDefEqProofs [go_sem, hcb']
    refine abK_slAt g1 gsub elT_23 elZ_9 (by simp [roomy, byT_9]; omega) (strs_uni _) rfl fun H2 c' q1 qsub qoff => ?_
    have hcb2 := qoff cb _ hcb' (by simp)
    have q0 := g0.off qoff (by decide)
    simp -implicitDefEqProofs [go_sem, hcb2, q1.str, q1.ic]
    refine ⟨q1.ok, _, Sub.refl _, rfl, h0c, ((qsub.upd h0c _).upd h0c _).upd h0c _, c0, c', .list .tight [], by simp [upd, CS.endw], ((q0.cell hcb2).cell (upd_same _ _ _)).cell (upd_same _ _ _), ?_, nil2 _⟩
    have e1 : s.endw.words.map strRow = s.words.map strRow ++ [[.str ⟨s.word.toArray⟩]] := by simp [CS.endw, hb, strRow]
    rw [e1]
    exact ((q1.cell hcb2).cell (upd_same _ _ _)).cell (upd_same _ _ _)
set_option maxRecDepth 20000 in
theorem cmd_c {h0 h : Heap} {cb : Nat} {s : CS} (hc : cutAt h0 h cb s) (hs : s.ok 90000) : ICall Tryz.prog 42 [.ptr cb 0] h (cutR h0 cb s.cmd) := by
  refine icall_of_iwp (fun d => if d = 4 then 101 else if d = 20 then 2 else 0) Tryz.func42 rfl (by kernel_rfl) (Nat.le_of_ble_eq_true rfl) ?_
  rw [Tryz.results42]
  have hsw := hs.w
  have hsc := hs.c
  simp -implicitDefEqProofs [go_sem]
  refine (endw_c hc ⟨by omega, by omega, by have := hs.b; omega⟩).mono ?_
  rintro e h1 ⟨rfl, h0c, hsub, c0, c1, c2, hcb, s0, s1, s2⟩
  simp -implicitDefEqProofs [go_sem]
  refine ffK_slAt s1 hsub h0c hcb rfl fun H tk hcb' gsub goff => ?_
  have g0 : slAt h0 H 23 c0 (s.endw.cmds.map cmdRow) := s0.keep fun b rows' cap' hb => (goff b _ hb (by rintro rfl; rw [hcb] at hb; cases hb) (by intro z r cp e; cases e)).trans hb.symm
  have g2 : slAt h0 H 5 c2 (s.endw.word.map byRow) := s2.keep fun b rows' cap' hb => (goff b _ hb (by rintro rfl; rw [hcb] at hb; cases hb) (by intro z r cp e; cases e)).trans hb.symm
  simp only [List.set_cons_succ, List.set_cons_zero] at hcb'
  have nil1 : ∀ H : Heap, slAt h0 H 9 (.list .tight []) [] := fun H => .inl ⟨rfl, rfl⟩
  have hcl : s.endw.cmds.length ≤ 90000 := hs.c
  simp -implicitDefEqProofs [go_sem, hcb']
  refine cK_dec (fun hlt => ?_) (fun hge => ?_)
  · have hne : s.endw.words ≠ [] := by intro e; rw [e] at hlt; simp at hlt
    simp -implicitDefEqProofs [go_sem, hcb']
    refine iwp_drawn_of mixed [0, 1, 2, 3, 4, 5, 6, 7, 8, 9, 10, 11, 12, 13] (by kernel_rfl) ?_
    simp -implicitDefEqProofs [go_sem, hcb']
    refine abK_slAt g0 gsub elT_45 elZ_23 (by simp [roomy, byT_23]; omega) (cmds_uni _) rfl fun H2 c' q0 qsub qoff => ?_
    have hcb2 := qoff cb _ hcb' (by simp)
    have q2 := g2.off qoff (by decide)
    simp -implicitDefEqProofs [go_sem, hcb2, q0.str, q0.ic]
    refine ⟨q0.ok, _, Sub.refl _, rfl, h0c, (qsub.upd h0c _).upd h0c _, c', .list .tight [], c2, by simp [upd, CS.cmd], ?_, nil1 _, (q2.cell hcb2).cell (upd_same _ _ _)⟩
    have e1 : s.cmd.cmds.map cmdRow = s.endw.cmds.map cmdRow ++ [[.list .plain (s.endw.words.map strRow)]] := by simp [CS.cmd, hne, cmdRow]
    rw [e1]
    exact (q0.cell hcb2).cell (upd_same _ _ _)
  · have hne : s.endw.words = [] := by cases hw : s.endw.words with | nil => rfl | cons a l => rw [hw] at hge; simp at hge
    simp -implicitDefEqProofs [go_sem, hcb']
    refine ⟨_, Sub.refl _, rfl, h0c, gsub.upd h0c _, c0, .list .tight [], c2, by simp [upd, CS.cmd], ?_, nil1 _, g2.cell hcb'⟩
    have e1 : s.cmd.cmds = s.endw.cmds := by simp [CS.cmd, hne]
    rw [e1]
    exact g0.cell hcb'
def CS.plain (s : CS) (b : UInt8) : CS := if b = 59 then s.cmd else if b = 9 ∨ b = 32 then s.endw else s.put b
set_option maxRecDepth 20000 in
theorem plain_c {h0 h : Heap} {cb : Nat} {s : CS} (b : UInt8) (hc : cutAt h0 h cb s) (hs : s.ok 90000) : ICall Tryz.prog 41 [.ptr cb 0, .int .u8 b.toNat] h (cutR h0 cb (s.plain b)) := by
  refine icall_of_iwp (fun d => 0) Tryz.func41 rfl (by kernel_rfl) (Nat.le_of_ble_eq_true rfl) ?_
  rw [Tryz.results41]
  have hs1 : s.ok 100000 := ⟨by have := hs.c; omega, by have := hs.w; omega, by have := hs.b; omega⟩
  have hnb : ∀ k : UInt8, (b.toNat : Int) = k.toNat ↔ b = k := fun k => ⟨fun h => UInt8.toNat_inj.1 (by omega), fun h => by rw [h]⟩
  simp -implicitDefEqProofs [go_sem]
  refine cK_beq (fun h1 => ?_) (fun h1 => ?_)
  · have e : b = 59 := (hnb 59).1 h1
    simp -implicitDefEqProofs [go_sem]
    refine (cmd_c hc hs).mono ?_
    rintro e2 h2 ⟨rfl, h3⟩
    simp -implicitDefEqProofs [go_sem]
    exact ⟨_, Sub.refl _, rfl, by rw [CS.plain, if_pos e]; exact h3⟩
  have n1 : b ≠ 59 := fun e => h1 ((hnb 59).2 e)
  simp -implicitDefEqProofs [go_sem]
  refine cK_beq (fun h2 => ?_) (fun h2 => ?_)
  · have e : b = 9 := (hnb 9).1 h2
    simp -implicitDefEqProofs [go_sem]
    refine (endw_c hc hs1).mono ?_
    rintro e2 h3 ⟨rfl, h4⟩
    simp -implicitDefEqProofs [go_sem]
    exact ⟨_, Sub.refl _, rfl, by rw [CS.plain, if_neg n1, if_pos (.inl e)]; exact h4⟩
  have n2 : b ≠ 9 := fun e => h2 ((hnb 9).2 e)
  simp -implicitDefEqProofs [go_sem]
  refine cK_beq (fun h3 => ?_) (fun h3 => ?_)
  · have e : b = 32 := (hnb 32).1 h3
    simp -implicitDefEqProofs [go_sem]
    refine (endw_c hc hs1).mono ?_
    rintro e2 h4 ⟨rfl, h5⟩
    simp -implicitDefEqProofs [go_sem]
    exact ⟨_, Sub.refl _, rfl, by rw [CS.plain, if_neg n1, if_pos (.inr e)]; exact h5⟩
  have n3 : b ≠ 32 := fun e => h3 ((hnb 32).2 e)
  simp -implicitDefEqProofs [go_sem]
  refine (qput_c b hc hs1).mono ?_
  rintro e2 h4 ⟨rfl, h5⟩
  simp -implicitDefEqProofs [go_sem]
  exact ⟨_, Sub.refl _, rfl, by rw [CS.plain, if_neg n1, if_neg (by rintro (e | e); exact n2 e; exact n3 e)]; exact h5⟩
end Go.Proofs

set_option linter.unusedVariables false
set_option linter.unusedSimpArgs false
set_option pp.deepTerms false
set_option pp.maxSteps 400
namespace Go.Proofs
open Go.Idl

/-! errors -/
set_option maxRecDepth 20000 in
theorem newF_c (e a : Int) (h : Heap) (he : e ≠ 0) : ICall Tryz.prog 39 [.int .i64 e, .int .i64 a] h (fun x h' => ∃ fb, h fb = none ∧ x = .ret (.iface 144 (.ptr fb 0)) ∧ h' = upd h fb (some (.cells [.int .i64 e, .int .i64 a]))) := by
  refine icall_of_iwp (fun d => if d = 10 then 1 else 0) Tryz.func39 rfl (by kernel_rfl) (Nat.le_of_ble_eq_true rfl) ?_
  rw [Tryz.results39]
  simp -implicitDefEqProofs [go_sem]
  refine cK_beq (fun h1 => absurd h1 he) (fun h1 => ?_)
  simp -implicitDefEqProofs [go_sem]
  intro b hb
  exact ⟨_, Sub.refl _, b, hb, rfl, rfl⟩
set_option maxRecDepth 20000 in
theorem cloneS_c (l : List ByteArray) (h : Heap) (hl : l.length ≤ 1000000) : ICall Tryz.prog 62 [.list .plain (l.map strRow)] h (retP (.list .plain (l.map strRow)) h) := by
  refine icall_of_iwp (fun d => 0) Tryz.func62 rfl (by kernel_rfl) (Nat.le_of_ble_eq_true rfl) ?_
  rw [Tryz.results62]
  simp -implicitDefEqProofs [go_sem]
  refine ⟨?_, fun h1 => by subst h1; exact ⟨h, Sub.refl _, rfl, rfl⟩⟩
  refine aK_own (z := 1) (S := [7]) Idl.Own.tight (by simp) elT_23 elZ_9 (by simp [roomy, byT_9]; omega) rfl (strs_uni _) ?_
  intro r' x' ho _
  simp -implicitDefEqProofs [go_sem, ho.strip]
  exact ⟨h, Sub.refl _, rfl, rfl⟩
/-- an error in words -/
def faultAt (h h' : Heap) (v : IV) (e a : Int) (ws : List ByteArray) : Prop :=
  ∃ b fb, h b = none ∧ h fb = none ∧ v = .iface 140 (.ptr b 0) ∧ h' b = some (.cells [.list .plain (ws.map strRow), .iface 144 (.ptr fb 0)]) ∧ h' fb = some (.cells [.int .i64 e, .int .i64 a]) ∧ Sub h h'
set_option maxRecDepth 20000 in
theorem inF_c (fb : Nat) (ws : List ByteArray) (h : Heap) (hw : ws ≠ []) (hl : ws.length ≤ 1000000) : ICall Tryz.prog 38 [.iface 144 (.ptr fb 0), .list .plain (ws.map strRow)] h
    (fun x h' => ∃ b, h b = none ∧ x = .ret (.iface 140 (.ptr b 0)) ∧ h' = upd h b (some (.cells [.list .plain (ws.map strRow), .iface 144 (.ptr fb 0)]))) := by
  refine icall_of_iwp (fun d => if d = 17 then 1 else 0) Tryz.func38 rfl (by kernel_rfl) (Nat.le_of_ble_eq_true rfl) ?_
  rw [Tryz.results38]
  have hz : ws.length ≠ 0 := by simpa using hw
  simp -implicitDefEqProofs [go_sem]
  refine cK_beq (fun h1 => absurd h1 (by omega)) (fun h1 => ?_)
  simp -implicitDefEqProofs [go_sem]
  refine (cloneS_c ws h hl).mono ?_
  rintro e h' ⟨rfl, he⟩
  rw [he]
  simp -implicitDefEqProofs [go_sem]
  intro b hb
  exact ⟨_, Sub.refl _, b, hb, rfl, rfl⟩
/-- a fault in a word -/
theorem fault_two {h h1 h2 : Heap} {fb b : Nat} {e a : Int} {ws : List ByteArray} (hfb : h fb = none) (h1e : h1 = upd h fb (some (.cells [.int .i64 e, .int .i64 a]))) (hb : h1 b = none) (h2e : h2 = upd h1 b (some (.cells [.list .plain (ws.map strRow), .iface 144 (.ptr fb 0)]))) :
    faultAt h h2 (.iface 140 (.ptr b 0)) e a ws := by
  subst h1e; subst h2e
  have hne : b ≠ fb := by rintro rfl; rw [upd_same] at hb; cases hb
  rw [upd_ne _ _ hne] at hb
  exact ⟨b, fb, hb, hfb, rfl, upd_same _ _ _, by rw [upd_ne _ _ (Ne.symm hne), upd_same], ((Sub.refl h).upd hfb _).upd hb _⟩
theorem faultAt.base {h0 h h' : Heap} {v : IV} {e a : Int} {ws : List ByteArray} (hf : faultAt h h' v e a ws) (hs : Sub h0 h) : faultAt h0 h' v e a ws := by
  obtain ⟨b, fb, h1, h2, h3, h4, h5, h6⟩ := hf
  have hn : ∀ j, h j = none → h0 j = none := fun j hj => by
    cases hx : h0 j with
    | none => rfl
    | some o => rw [hs _ _ hx] at hj; cases hj
  exact ⟨b, fb, hn _ h1, hn _ h2, h3, h4, h5, fun j o hj => h6 _ _ (hs _ _ hj)⟩
end Go.Proofs

set_option linter.unusedVariables false
set_option linter.unusedSimpArgs false
set_option pp.deepTerms false
set_option pp.maxSteps 400
namespace Go.Proofs
open Go.Idl

@[go_sem] theorem pop_indexL {P : Program} {st : St} (t : TypeId) (x i : Operand) : pop P st (.index t x i) = match P.underlying t, st.ev x, st.ev i with
    | some .string, .str s, .int _ n => if h : 0 ≤ n ∧ n.toNat < s.size then some (.int .u8 (s[n.toNat]'h.2).toNat) else none
    | _, _, _ => none := rfl
/-! a line is cut into commands of words -/
def cutRun (l : ByteArray) : Nat → Nat → Int → CS → Int × CS
  | 0, _, q, s => (q, s)
  | n + 1, i, q, s =>
    if h : i < l.size then
      if l[i] = 92 then
        if h2 : i + 1 < l.size then cutRun l n (i + 2) q (s.put l[i + 1])
        else cutRun l n (i + 2) (if q < 0 then i else q) s
      else if l[i] = 34 ∧ 0 ≤ q then cutRun l n (i + 1) (-1) s
      else if l[i] = 34 then cutRun l n (i + 1) i { s with begun := true }
      else if 0 ≤ q then cutRun l n (i + 1) q (s.put l[i])
      else cutRun l n (i + 1) q (s.plain l[i])
    else (q, s)
def cs0 : CS := ⟨[], [], [], false⟩
def cutZ (l : ByteArray) : Int × CS := cutRun l (l.size + 1) 0 (-1) cs0
def wcutV (l : ByteArray) : Option (List (List ByteArray)) := if 4096 < l.size then none else if 0 ≤ (cutZ l).1 then none else some (cutZ l).2.cmd.cmds
def cutE (l : ByteArray) : Int := if 4096 < l.size then 3 else 2
theorem CS.ok.put {s : CS} {N : Nat} (h : s.ok N) (b : UInt8) : (s.put b).ok (N + 1) := ⟨by have := h.c; show s.cmds.length ≤ _; omega, by have := h.w; show s.words.length ≤ _; omega, by have := h.b; simp [CS.put]; omega⟩
theorem CS.ok.endw {s : CS} {N : Nat} (h : s.ok N) : s.endw.ok (N + 1) := ⟨by have := h.c; show s.cmds.length ≤ _; omega, by have := h.w; simp only [CS.endw]; split <;> simp <;> omega, by simp [CS.endw]⟩
theorem CS.ok.cmd {s : CS} {N : Nat} (h : s.ok N) : s.cmd.ok (N + 1) := ⟨by have := h.c; simp only [CS.cmd]; split <;> simp [CS.endw] <;> omega, by simp [CS.cmd], by simp [CS.cmd, CS.endw]⟩
theorem CS.ok.plain {s : CS} {N : Nat} (h : s.ok N) (b : UInt8) : (s.plain b).ok (N + 1) := by
  unfold CS.plain
  split
  · exact h.cmd
  · split
    · exact h.endw
    · exact h.put b
theorem CS.ok.le {s : CS} {N M : Nat} (h : s.ok N) (hle : N ≤ M) : s.ok M := ⟨by have := h.c; omega, by have := h.w; omega, by have := h.b; omega⟩
def cutR0 (l : ByteArray) (h : Heap) (e : IEnd) (h' : Heap) : Prop :=
  (∃ cs, wcutV l = some cs ∧ Sub h h' ∧ ∃ c0, slAt h h' 23 c0 (cs.map cmdRow) ∧ e = .ret (.tup [strip c0, .niliface])) ∨
  (wcutV l = none ∧ ∃ v a, e = .ret (.tup [.list .plain [], v]) ∧ faultAt h h' v (cutE l) a [⟨#[108, 105, 110, 101]⟩])
set_option maxRecDepth 20000 in
set_option maxHeartbeats 1000000 in
theorem cut0_c (l : ByteArray) (h : Heap) (hl : l.size < 4611686018427387904) : ICall Tryz.prog 20 [.str l] h (cutR0 l h) := by
  refine icall_of_iwp (fun d => if d = 15 then 1 else 0) Tryz.func20 rfl (by kernel_rfl) (Nat.le_of_ble_eq_true rfl) ?_
  rw [Tryz.results20]
  simp -implicitDefEqProofs [go_sem]
  refine cK_dec (fun hlong => ?_) (fun hshort => ?_)
  · simp -implicitDefEqProofs [go_sem]
    refine (newF_c 3 0 h (by omega)).mono ?_
    rintro e h1 ⟨fb, hfb, rfl, he1⟩
    simp -implicitDefEqProofs [go_sem]
    refine (inF_c fb [⟨#[108, 105, 110, 101]⟩] h1 (by simp) (by simp)).mono ?_
    rintro e h2 ⟨b, hb, rfl, he2⟩
    simp -implicitDefEqProofs [go_sem]
    have h4 : 4096 < l.size := by omega
    exact ⟨h2, Sub.refl _, .inr ⟨by rw [wcutV, if_pos h4], _, 0, rfl, by rw [cutE, if_pos h4]; exact fault_two hfb he1 hb he2⟩⟩
  have h4 : ¬ 4096 < l.size := by omega
  simp -implicitDefEqProofs [go_sem]
  intro cb hcb
  refine iwp_loopF (rng [5,6,7] 16 65) nom (fun s => ∃ (n i : Nat) (q : Int) (S : CS), s.t 5 = .int .i64 q ∧ s.t 6 = .int .i64 i ∧ i ≤ l.size + 1 ∧ l.size < i + n ∧ S.ok i ∧ cutAt h s.h cb S ∧ cutRun l n i q S = cutZ l ∧ -1 ≤ q ∧ q ≤ i) (fun s => l.size + 1 - tn (s.t 6)) ?_ ?_
  · refine ⟨l.size + 1, 0, -1, cs0, by simp -implicitDefEqProofs [go_sem], by simp -implicitDefEqProofs [go_sem], by omega, by omega, ⟨by simp [cs0], by simp [cs0], by simp [cs0]⟩, ?_, rfl, by omega, by omega⟩
    simp -implicitDefEqProofs [go_sem]
    exact ⟨hcb, (Sub.refl h).upd hcb _, .list .tight [], .list .tight [], .list .tight [], upd_same _ _ _, .inl ⟨rfl, rfl⟩, .inl ⟨rfl, rfl⟩, .inl ⟨rfl, rfl⟩⟩
  rintro J s hJ hf ⟨n, i, q, S, h5, h6, hi, hn, hok, hcut, hrun, hq1, hq2⟩
  simp -implicitDefEqProofs [go_sem, h5, h6, hf.t, hf.m]
  refine cK_dec (fun hlt => ?_) (fun hge => ?_)
  · have hlt' : i < l.size := by omega
    obtain ⟨n, rfl⟩ : ∃ m, n = m + 1 := ⟨n - 1, by omega⟩
    have hw := wrap_succ (i := i) (by omega)
    have hw2 : IntKind.i64.wrap ((i : Int) + 1 + 1) = (i : Int) + 2 := by rw [wrap_in (by omega)]; omega
    have hok9 : S.ok 90000 := hok.le (by omega)
    have hnb : ∀ k : UInt8, ((l[i].toNat : Int) = k.toNat) ↔ l[i] = k := fun k => ⟨fun h => UInt8.toNat_inj.1 (by omega), fun h => by rw [h]⟩
    rw [cutRun, dif_pos hlt'] at hrun
    simp -implicitDefEqProofs [go_sem, h5, h6, hf.t, hf.m, hlt']
    refine cK_beq (fun h92 => ?_) (fun h92 => ?_)
    · rw [if_pos ((hnb 92).1 h92)] at hrun
      simp -implicitDefEqProofs [go_sem, h5, h6, hf.t, hf.m, hw]
      refine cK_beq (fun hlast => ?_) (fun hlast => ?_)
      · have hl2 : ¬ i + 1 < l.size := by omega
        rw [dif_neg hl2] at hrun
        simp -implicitDefEqProofs [go_sem, h5, h6, hf.t, hf.m, hw]
        have hwi : IntKind.i64.wrap (i : Int) = (i : Int) := wrap_in (by omega)
        refine cK_dec (fun hq0 => ?_) (fun hq0 => ?_)
        · rw [if_pos hq0] at hrun
          simp -implicitDefEqProofs [go_sem, h5, h6, hf.t, hf.m, hf, hw, hwi, hw2]
          exact hJ _ ⟨n, i + 2, i, S, by simp -implicitDefEqProofs [go_sem, hwi], by simp -implicitDefEqProofs [go_sem, hw2], by omega, by omega, hok.le (by omega), by simpa -implicitDefEqProofs [go_sem] using hcut, hrun, by omega, by omega⟩ (by simp [go_sem, h6, hw, hw2]; omega)
        · rw [if_neg hq0] at hrun
          simp -implicitDefEqProofs [go_sem, h5, h6, hf.t, hf.m, hf, hw, hwi, hw2]
          exact hJ _ ⟨n, i + 2, q, S, by simp -implicitDefEqProofs [go_sem, h5], by simp -implicitDefEqProofs [go_sem, hw2], by omega, by omega, hok.le (by omega), by simpa -implicitDefEqProofs [go_sem] using hcut, hrun, by omega, by omega⟩ (by simp [go_sem, h6, hw, hw2]; omega)
      · have hl2 : i + 1 < l.size := by omega
        rw [dif_pos hl2] at hrun
        simp -implicitDefEqProofs [go_sem, h5, h6, hf.t, hf.m, hw, hl2, (show (0 : Int) ≤ (i : Int) + 1 by omega)]
        refine (qput_c l[i + 1] hcut (hok9.le (by omega))).mono ?_
        rintro e h2 ⟨rfl, hcut2⟩
        simp -implicitDefEqProofs [go_sem, h5, h6, hf.t, hf.m, hf, hw, hw2]
        exact hJ _ ⟨n, i + 2, q, S.put l[i + 1], by simp -implicitDefEqProofs [go_sem, h5], by simp -implicitDefEqProofs [go_sem, hw2], by omega, by omega, (hok.put _).le (by omega), by simpa -implicitDefEqProofs [go_sem] using hcut2, hrun, by omega, by omega⟩ (by simp [go_sem, h6, hw, hw2]; omega)
    · rw [if_neg (fun e => h92 ((hnb 92).2 e))] at hrun
      simp -implicitDefEqProofs [go_sem, h5, h6, hf.t, hf.m, hw]
      refine cK_beq (fun h34 => ?_) (fun h34 => ?_)
      · have e34 := (hnb 34).1 h34
        simp -implicitDefEqProofs [go_sem, h5, h6, hf.t, hf.m, hw]
        refine cK_dec (fun hq0 => ?_) (fun hq0 => ?_)
        · rw [if_pos ⟨e34, hq0⟩] at hrun
          simp -implicitDefEqProofs [go_sem, h5, h6, hf.t, hf.m, hf, hw]
          exact hJ _ ⟨n, i + 1, -1, S, by simp -implicitDefEqProofs [go_sem], by simp -implicitDefEqProofs [go_sem, hw], by omega, by omega, hok.le (by omega), by simpa -implicitDefEqProofs [go_sem] using hcut, hrun, by omega, by omega⟩ (by simp [go_sem, h6, hw]; omega)
        · rw [if_neg (fun c => hq0 c.2), if_pos e34] at hrun
          obtain ⟨h0c, hsub, c0, c1, c2, hcbc, s0, s1, s2⟩ := hcut
          simp -implicitDefEqProofs [go_sem, h5, h6, hf.t, hf.m, hf, hw, h34, hcbc]
          refine hJ _ ⟨n, i + 1, i, { S with begun := true }, by simp -implicitDefEqProofs [go_sem], by simp -implicitDefEqProofs [go_sem, hw], by omega, by omega, (show ({ S with begun := true } : CS).ok i from ⟨hok.c, hok.w, hok.b⟩).le (by omega), ?_, hrun, by omega, by omega⟩ (by simp [go_sem, h6, hw]; omega)
          simp -implicitDefEqProofs [go_sem]
          exact ⟨h0c, hsub.upd h0c _, c0, c1, c2, upd_same _ _ _, s0.cell hcbc, s1.cell hcbc, s2.cell hcbc⟩
      · have e34 : ¬ l[i] = 34 := fun e => h34 ((hnb 34).2 e)
        rw [if_neg (fun c => e34 c.1), if_neg e34] at hrun
        have h34b : ((l[i].toNat : Int) == 34) = false := by simpa using h34
        simp -implicitDefEqProofs [go_sem, h5, h6, hf.t, hf.m, hw, h34b]
        refine cK_dec (fun hq0 => ?_) (fun hq0 => ?_)
        · rw [if_pos hq0] at hrun
          simp -implicitDefEqProofs [go_sem, h5, h6, hf.t, hf.m, hw]
          refine (qput_c l[i] hcut (hok9.le (by omega))).mono ?_
          rintro e h2 ⟨rfl, hcut2⟩
          simp -implicitDefEqProofs [go_sem, h5, h6, hf.t, hf.m, hf, hw, hw2]
          exact hJ _ ⟨n, i + 1, q, S.put l[i], by simp -implicitDefEqProofs [go_sem, h5], by simp -implicitDefEqProofs [go_sem, hw], by omega, by omega, hok.put _, by simpa -implicitDefEqProofs [go_sem] using hcut2, hrun, by omega, by omega⟩ (by simp [go_sem, h6, hw]; omega)
        · rw [if_neg hq0] at hrun
          simp -implicitDefEqProofs [go_sem, h5, h6, hf.t, hf.m, hw]
          refine (plain_c l[i] hcut hok9).mono ?_
          rintro e h2 ⟨rfl, hcut2⟩
          simp -implicitDefEqProofs [go_sem, h5, h6, hf.t, hf.m, hf, hw, hw2]
          exact hJ _ ⟨n, i + 1, q, S.plain l[i], by simp -implicitDefEqProofs [go_sem, h5], by simp -implicitDefEqProofs [go_sem, hw], by omega, by omega, hok.plain _, by simpa -implicitDefEqProofs [go_sem] using hcut2, hrun, by omega, by omega⟩ (by simp [go_sem, h6, hw]; omega)
  · have hge' : l.size ≤ i := by omega
    have hz : (q, S) = cutZ l := by
      rw [← hrun]
      cases n with
      | zero => rfl
      | succ n => rw [cutRun, dif_neg (by omega)]
    simp -implicitDefEqProofs [go_sem, h5, h6, hf.t, hf.m]
    refine cK_dec (fun hq0 => ?_) (fun hq0 => ?_)
    · have hnone : wcutV l = none := by rw [wcutV, if_neg h4, ← hz, if_pos hq0]
      simp -implicitDefEqProofs [go_sem, h5, h6, hf.t, hf.m]
      refine (newF_c 2 q s.h (by omega)).mono ?_
      rintro e h1 ⟨fb, hfb, rfl, he1⟩
      simp -implicitDefEqProofs [go_sem, h5, h6, hf.t, hf.m]
      refine (inF_c fb [⟨#[108, 105, 110, 101]⟩] h1 (by simp) (by simp)).mono ?_
      rintro e h2 ⟨b, hb, rfl, he2⟩
      simp -implicitDefEqProofs [go_sem, h5, h6, hf.t, hf.m]
      exact ⟨h2, Sub.refl _, .inr ⟨hnone, _, q, rfl, by rw [cutE, if_neg h4]; exact (fault_two hfb he1 hb he2).base hcut.2.1⟩⟩
    · have hsome : wcutV l = some S.cmd.cmds := by rw [wcutV, if_neg h4, ← hz, if_neg hq0]
      simp -implicitDefEqProofs [go_sem, h5, h6, hf.t, hf.m]
      refine (cmd_c hcut (hok.le (by omega))).mono ?_
      rintro e h2 ⟨rfl, h0c, hsub, c0, c1, c2, hcbc, s0, s1, s2⟩
      simp -implicitDefEqProofs [go_sem, h5, h6, hf.t, hf.m, hcbc]
      exact ⟨h2, Sub.refl _, .inl ⟨_, hsome, hsub, c0, s0, rfl⟩⟩
def cutRR (l : ByteArray) (h : Heap) (e : IEnd) (h' : Heap) : Prop :=
  (∃ cs, wcutV l = some cs ∧ e = .ret (.tup [.list .plain (cs.map cmdRow), .niliface]) ∧ h' = h) ∨
  (wcutV l = none ∧ ∃ v a, e = .ret (.tup [.list .plain [], v]) ∧ faultAt h h' v (cutE l) a [⟨#[108, 105, 110, 101]⟩])
theorem wcut_c (l : ByteArray) (h : Heap) (hl : l.size < 4611686018427387904) : ICall Tryz.prog 20 [.str l] h (cutRR l h) := by
  have h1 : ICall Tryz.prog 20 [.str l] h (fun e h' => cutRR l h e h' ∨ ∃ cs b cap, wcutV l = some cs ∧ h b = none ∧ cs.length ≤ cap ∧ e = .ret (.tup [.sl 1 b 0 cs.length cap, .niliface]) ∧ h' = upd h b (some (.arr 23 1 (cs.map cmdRow) cap))) := by
    refine (cut0_c l h hl).sub ?_
    rintro e h' (⟨cs, hcs, hsub, c0, s0, rfl⟩ | ⟨hn, v, a, rfl, hf⟩)
    · rcases s0 with ⟨h0, rfl⟩ | ⟨hne, b, cap, rfl, hb, hle, h0b⟩
      · have : cs = [] := by simpa using h0
        subst this
        exact ⟨h, hsub, .inl (.inl ⟨[], hcs, rfl, rfl⟩)⟩
      · refine ⟨upd h b (some (.arr 23 1 (cs.map cmdRow) cap)), fun j o hj => ?_, .inr ⟨cs, b, cap, hcs, h0b, by simpa using hle, by rw [List.length_map]; rfl, rfl⟩⟩
        by_cases e : j = b
        · subst e; rw [upd_same] at hj; rw [hb]; exact hj
        · rw [upd_ne _ _ e] at hj; exact hsub _ _ hj
    · exact ⟨h', Sub.refl _, .inl (.inr ⟨hn, v, a, rfl, hf⟩)⟩
  refine h1.fz ?_
  rintro e h' (hR | ⟨cs, b, cap, hcs, hb, hle, rfl, rfl⟩)
  · exact .inl hR
  · refine .inr ⟨_, b, 23, 1, cs.map cmdRow, cap, rfl, upd_same _ _ _, .inl ⟨cs, hcs, ?_, ?_⟩⟩
    · simp [fz3, fz2, fz1, List.take_of_length_le]
    · funext j
      simp only [dropH, upd]
      split
      · rename_i e; rw [e, hb]
      · rfl
end Go.Proofs

set_option linter.unusedVariables false
set_option linter.unusedSimpArgs false
set_option pp.deepTerms false
set_option pp.maxSteps 400
namespace Go.Proofs
open Go.Idl

/-! options -/
def mmL (f : Int → Int → Int) : IV → IV → Option IV
  | .int k a, .int k' b => if k = k' then some (.int k (f a b)) else none
  | _, _ => none
@[go_sem] theorem mmL_int (f : Int → Int → Int) (k : IntKind) (a b : Int) : mmL f (.int k a) (.int k b) = some (.int k (f a b)) := by simp [mmL]
@[go_sem] theorem pop_minL (P : Program) (st : St) (a b : Operand) (ts : Array TypeId) : pop P st (.call ⟨.builtin .min, #[a, b], ts⟩) = mmL min (st.ev a) (st.ev b) := by
  simp only [pop, List.map_cons, List.map_nil]
  cases st.ev a <;> cases st.ev b <;> rfl
theorem u8_i (c : UInt8) (k : UInt8) : ((c.toNat : Int) = k.toNat) ↔ c = k := ⟨fun h => UInt8.toNat_inj.1 (by omega), fun h => by rw [h]⟩
theorem indexByteU_c (s : ByteArray) (c : UInt8) (h : Heap) : ICall Tryz.prog 73 [.str s, .int .u8 c.toNat] h (retP (.int .i64 (Lib.indexByte s.data.toList c)) h) := by
  have := indexByte_c s c.toNat h
  rwa [Int.toNat_natCast, show c.toNat.toUInt8 = c from by simp] at this
def optV (w : ByteArray) : Option UInt8 := if h : w.size = 2 then (if w[0] = 45 ∧ 97 ≤ w[1].toNat ∧ w[1].toNat ≤ 122 then some w[1] else none) else none
def optR (o : Option UInt8) : IV := match o with | some c => .tup [.int .u8 c.toNat, .bool true] | none => .tup [.int .u8 0, .bool false]
set_option maxRecDepth 20000 in
theorem option_c (w : ByteArray) (h : Heap) : ICall Tryz.prog 109 [.str w] h (retP (optR (optV w)) h) := by
  refine icall_of_iwp (fun d => 0) Tryz.func109 rfl (by kernel_rfl) (Nat.le_of_ble_eq_true rfl) ?_
  rw [Tryz.results109]
  simp -implicitDefEqProofs [go_sem]
  refine cK_bne (fun h2 => ?_) (fun h2 => ?_)
  · have hw : ¬ w.size = 2 := by omega
    simp -implicitDefEqProofs [go_sem]
    exact ⟨h, Sub.refl _, by rw [optV, dif_neg hw]; rfl, rfl⟩
  have hw : w.size = 2 := by omega
  have h0 : 0 < w.size := by omega
  have h1 : 1 < w.size := by omega
  simp -implicitDefEqProofs [go_sem, h0, h1]
  refine cK_bne (fun h3 => ?_) (fun h3 => ?_)
  · have hn : ¬ w[0] = 45 := fun e => h3 ((u8_i _ 45).2 e)
    simp -implicitDefEqProofs [go_sem, h0, h1]
    exact ⟨h, Sub.refl _, by rw [optV, dif_pos hw, if_neg (fun c => hn c.1)]; rfl, rfl⟩
  have e3 : w[0] = 45 := (u8_i _ 45).1 h3
  simp -implicitDefEqProofs [go_sem, h0, h1]
  refine cK_dec (fun h4 => ?_) (fun h4 => ?_)
  · simp -implicitDefEqProofs [go_sem, h0, h1]
    exact ⟨h, Sub.refl _, by rw [optV, dif_pos hw, if_neg (fun c => by omega)]; rfl, rfl⟩
  simp -implicitDefEqProofs [go_sem, h0, h1]
  refine cK_dec (fun h5 => ?_) (fun h5 => ?_)
  · simp -implicitDefEqProofs [go_sem, h0, h1]
    exact ⟨h, Sub.refl _, by rw [optV, dif_pos hw, if_neg (fun c => by omega)]; rfl, rfl⟩
  simp -implicitDefEqProofs [go_sem, h0, h1]
  exact ⟨h, Sub.refl _, by rw [optV, dif_pos hw, if_pos ⟨e3, by omega, by omega⟩]; rfl, rfl⟩
abbrev OM := List (UInt8 × ByteArray)
def encO (p : UInt8 × ByteArray) : IV × IV := (.int .u8 p.1.toNat, .str p.2)
def putO : OM → UInt8 → ByteArray → OM
  | [], c, s => [(c, s)]
  | p :: r, c, s => if c = p.1 then (c, s) :: r else p :: putO r c s
theorem iput_o (c : UInt8) (s : ByteArray) : ∀ m : OM, iput (.int .u8) (.int .u8 c.toNat) (.str s) (m.map encO) = some ((putO m c s).map encO)
  | [] => rfl
  | p :: r => by
    by_cases h : c = p.1
    · simp [iput, kEq, encO, putO, h]
    · have h1 : ((c.toNat : Int) == (p.1.toNat : Int)) = false := by simpa using fun e => h ((u8_i _ _).1 (by exact_mod_cast e))
      rw [List.map_cons, encO, iput]
      simp only [kEq, if_true, h1, iput_o c s r, Option.map_some, putO, if_neg h]
      rfl
def getO (m : OM) (c : UInt8) : Option ByteArray := (m.find? fun p => p.1 == c).map (·.2)
theorem ifind_o (c : UInt8) : ∀ m : OM, ifind (.int .u8) (.int .u8 c.toNat) (m.map encO) = some ((getO m c).map IV.str)
  | [] => rfl
  | p :: r => by
    by_cases h : c = p.1
    · have h2 : (p.1 == c) = true := by simp [h]
      simp [ifind, kEq, encO, getO, h]
    · have h1 : ((c.toNat : Int) == (p.1.toNat : Int)) = false := by simpa using fun e => h ((u8_i _ _).1 (by exact_mod_cast e))
      have h2 : (p.1 == c) = false := by simpa using Ne.symm h
      rw [List.map_cons, encO, ifind]
      simp only [kEq, if_true, h1, ifind_o c r, getO, List.find?_cons, h2]
/-- at which word the rest begins, and the options ahead of it; or the place of an error -/
def optRun (l : List ByteArray) (takes : ByteArray) : Nat → Nat → OM → Nat ⊕ (Nat × OM)
  | 0, i, m => .inr (i, m)
  | n + 1, i, m =>
    match l[i]? with
    | none => .inr (i, m)
    | some w =>
      if w.toList = [45, 45] then .inr (i + 1, m) else
      match optV w with
      | none => .inr (i, m)
      | some c =>
        if Lib.indexByte takes.data.toList c < 0 then optRun l takes n (i + 1) (putO m c ⟨#[]⟩) else
        match l[i + 1]? with
        | none => .inl i
        | some v => optRun l takes n (i + 2) (putO (putO m c ⟨#[]⟩) c v)
def optZ (l : List ByteArray) (takes : ByteArray) : Nat ⊕ (Nat × OM) := optRun l takes (l.length + 1) 1 []
def optsR (l : List ByteArray) (takes : ByteArray) (h : Heap) (e : IEnd) (h' : Heap) : Prop :=
  match optZ l takes with
  | .inl a => ∃ v, e = .ret (.tup [.nilmap, .list .plain [], v]) ∧ faultAt h h' v 2 a [⟨#[111, 112, 116, 105, 111, 110]⟩]
  | .inr (i, m) => ∃ mb, h mb = none ∧ e = .ret (.tup [.mapv mb, .list .plain ((l.drop (min i l.length)).map strRow), .niliface]) ∧ h' = upd h mb (some (.map (m.map encO)))
set_option maxRecDepth 20000 in
set_option maxHeartbeats 1000000 in
theorem options_c (l : List ByteArray) (takes : ByteArray) (h : Heap) (hl : l.length ≤ 100000) (h1 : 1 ≤ l.length) : ICall Tryz.prog 72 [.list .plain (l.map strRow), .str takes] h (optsR l takes h) := by
  refine icall_of_iwp (fun d => 0) Tryz.func72 rfl (by kernel_rfl) (Nat.le_of_ble_eq_true rfl) ?_
  rw [Tryz.results72]
  simp -implicitDefEqProofs [go_sem]
  intro mb hmb
  refine iwp_loopF (rng [8,9,10] 12 57) nom (fun s => ∃ (n i : Nat) (m : OM), s.t 8 = .int .i64 i ∧ 1 ≤ i ∧ i ≤ l.length ∧ l.length < i + n ∧ s.h = upd h mb (some (.map (m.map encO))) ∧ optRun l takes n i m = optZ l takes) (fun s => l.length + 1 - tn (s.t 8)) ?_ ?_
  · exact ⟨l.length + 1, 1, [], by simp -implicitDefEqProofs [go_sem], by omega, by omega, by omega, by simp -implicitDefEqProofs [go_sem], rfl⟩
  rintro J s hJ hf ⟨n, i, m, h8, hi1, hi, hn, hh, hrun⟩
  have hm : s.h mb = some (.map (m.map encO)) := by rw [hh]; exact upd_same _ _ _
  obtain ⟨n, rfl⟩ : ∃ k, n = k + 1 := ⟨n - 1, by omega⟩
  have fin : ∀ i' m', optZ l takes = .inr (i', m') → ∀ k : Nat, k = min i' l.length → ∀ H, H = upd h mb (some (.map (m'.map encO))) → optsR l takes h (.ret (.tup [.mapv mb, .list .plain ((l.map strRow).drop k), .niliface])) H := by
    intro i' m' hz k hk H hH
    rw [optsR, hz, ← List.map_drop]
    exact ⟨mb, hmb, by rw [hk], hH⟩
  have htk : (l.map strRow).take l.length = l.map strRow := List.take_of_length_le (by simp)
  simp -implicitDefEqProofs [go_sem, h8, hf.t, hf.m]
  refine cK_dec (fun hlt => ?_) (fun hge => ?_)
  · have hlt' : i < l.length := by omega
    have hg : l[i]? = some l[i] := List.getElem?_eq_getElem hlt'
    have hw := wrap_succ (i := i) (by omega)
    rw [optRun, hg] at hrun
    simp only [] at hrun
    simp -implicitDefEqProofs [go_sem, h8, hf.t, hf.m, hlt', hg, strRow]
    by_cases h2d : l[i].toList = [45, 45]
    · rw [if_pos h2d] at hrun
      have hk2 : IntKind.i64.wrap ((i : Int) + 1) = (i : Int) + 1 := by rw [hw]; rfl
      simp -implicitDefEqProofs [go_sem, h8, hf.t, hf.m, h2d, hk2]
      have hmin : min ((i : Int) + 1) l.length = ((i + 1 : Nat) : Int) := by omega
      have hle : i + 1 ≤ l.length := by omega
      have hle2 : 0 ≤ (i : Int) + 1 ∧ (i : Int) + 1 ≤ l.length := by omega
      rw [hmin]
      simp -implicitDefEqProofs [go_sem, h8, hf.t, hf.m, hle2, htk]
      have hc0 := cloneS_c (l.drop (i + 1)) s.h (by simp; omega)
      rw [List.map_drop] at hc0
      refine hc0.mono ?_
      rintro e h2 ⟨rfl, he⟩
      rw [he]
      simp -implicitDefEqProofs [go_sem, h8, hf.t, hf.m]
      exact ⟨_, Sub.refl _, fin _ _ hrun.symm (i + 1) (by omega) _ hh⟩
    · rw [if_neg h2d] at hrun
      have hb : (l[i].toList == [45, 45]) = false := by simpa using h2d
      simp -implicitDefEqProofs [go_sem, h8, hf.t, hf.m, hb, hlt', hg, strRow]
      refine (option_c l[i] s.h).mono ?_
      rintro e h2 ⟨rfl, rfl⟩
      cases ho : optV l[i] with
      | none =>
        rw [ho] at hrun
        simp -implicitDefEqProofs [go_sem, h8, hf.t, hf.m, optR]
        have hmin : min (i : Int) l.length = (i : Int) := by omega
        have hle2 : (i : Int) ≤ l.length := by omega
        rw [hmin]
        simp -implicitDefEqProofs [go_sem, h8, hf.t, hf.m, hle2, htk, hi]
        have hc0 := cloneS_c (l.drop i) s.h (by simp; omega)
        rw [List.map_drop] at hc0
        refine hc0.mono ?_
        rintro e h3 ⟨rfl, he⟩
        rw [he]
        simp -implicitDefEqProofs [go_sem, h8, hf.t, hf.m]
        exact ⟨_, Sub.refl _, fin _ _ hrun.symm i (by omega) _ hh⟩
      | some c =>
        rw [ho] at hrun
        simp only [] at hrun
        simp -implicitDefEqProofs [go_sem, h8, hf.t, hf.m, optR, hm, iput_o]
        refine (indexByteU_c takes c _).mono ?_
        rintro e h3 ⟨rfl, he⟩
        rw [he]
        have hk2 : IntKind.i64.wrap ((i : Int) + 1) = (i : Int) + 1 := by rw [hw]; rfl
        have hk3 : IntKind.i64.wrap ((i : Int) + 1 + 1) = (i : Int) + 2 := by rw [wrap_in (by omega)]; omega
        have hu : upd s.h mb (some (IObj.map ((putO m c ⟨#[]⟩).map encO))) = upd h mb (some (IObj.map ((putO m c ⟨#[]⟩).map encO))) := by rw [hh]; funext j; simp only [upd]; split <;> rfl
        rw [hu]
        simp -implicitDefEqProofs [go_sem, h8, hf.t, hf.m]
        refine cK_dec (fun hneg => ?_) (fun hpos => ?_)
        · rw [if_pos hneg] at hrun
          simp -implicitDefEqProofs [go_sem, h8, hf.t, hf.m, hf, hk2]
          exact hJ _ ⟨n, i + 1, putO m c ⟨#[]⟩, by simp -implicitDefEqProofs [go_sem], by omega, by omega, by omega, by simp -implicitDefEqProofs [go_sem], hrun⟩ (by simp [go_sem, h8, hk2]; omega)
        rw [if_neg hpos] at hrun
        simp -implicitDefEqProofs [go_sem, h8, hf.t, hf.m, hk2]
        refine cK_beq (fun hlast => ?_) (fun hlast => ?_)
        · have hno : l[i + 1]? = none := List.getElem?_eq_none (by omega)
          rw [hno] at hrun
          have hki : IntKind.i64.wrap (i : Int) = (i : Int) := wrap_in (by omega)
          simp -implicitDefEqProofs [go_sem, h8, hf.t, hf.m, hk2, hki]
          refine (newF_c 2 i _ (by omega)).mono ?_
          rintro e h4 ⟨fb, hfb, rfl, he1⟩
          simp -implicitDefEqProofs [go_sem, h8, hf.t, hf.m]
          refine (inF_c fb [⟨#[111, 112, 116, 105, 111, 110]⟩] h4 (by simp) (by simp)).mono ?_
          rintro e h5 ⟨b, hbb, rfl, he2⟩
          simp -implicitDefEqProofs [go_sem, h8, hf.t, hf.m]
          refine ⟨h5, Sub.refl _, ?_⟩
          rw [optsR, ← hrun]
          exact ⟨_, rfl, (fault_two hfb he1 hbb he2).base ((Sub.refl h).upd hmb _)⟩
        · have hlt2 : i + 1 < l.length := by omega
          have hg2 : l[i + 1]? = some l[i + 1] := List.getElem?_eq_getElem hlt2
          rw [hg2] at hrun
          have hp1 : (0 : Int) ≤ (i : Int) + 1 := by omega
          have hp2 : (i : Int) + 1 < (l.length : Int) := by omega
          have hu2 : upd (upd h mb (some (IObj.map ((putO m c ⟨#[]⟩).map encO)))) mb (some (IObj.map ((putO (putO m c ⟨#[]⟩) c l[i + 1]).map encO))) = upd h mb (some (IObj.map ((putO (putO m c ⟨#[]⟩) c l[i + 1]).map encO))) := by funext j; simp only [upd]; split <;> rfl
          simp -implicitDefEqProofs [go_sem, h8, hf.t, hf.m, hf, hk2, hk3, hlt2, hg2, strRow, hp1, hp2, iput_o]
          exact hJ _ ⟨n, i + 2, putO (putO m c ⟨#[]⟩) c l[i + 1], by simp -implicitDefEqProofs [go_sem, hk3], by omega, by omega, by omega, by simp -implicitDefEqProofs [go_sem, hu2], hrun⟩ (by simp [go_sem, h8, hk2, hk3]; omega)
  · obtain rfl : i = l.length := by omega
    rw [optRun, List.getElem?_eq_none (Nat.le_refl _)] at hrun
    simp -implicitDefEqProofs [go_sem, h8, hf.t, hf.m]
    have hc0 := cloneS_c [] s.h (by simp)
    refine hc0.mono ?_
    rintro e h2 ⟨rfl, he⟩
    rw [he]
    simp -implicitDefEqProofs [go_sem, h8, hf.t, hf.m]
    refine ⟨_, Sub.refl _, ?_⟩
    have := fin _ _ hrun.symm l.length (by omega) _ hh
    rwa [List.drop_of_length_le (by simp)] at this
end Go.Proofs

set_option linter.unusedVariables false
set_option linter.unusedSimpArgs false
set_option pp.deepTerms false
set_option pp.maxSteps 400
namespace Go.Proofs
open Go.Idl

/-! commands' forms -/
structure Fm where
  flags : ByteArray
  values : ByteArray
  rest : Int
def Fm.row (f : Fm) : List IV := [.str f.flags, .str f.values, .int .i64 f.rest]
def fm0 : Fm := ⟨⟨#[]⟩, ⟨#[]⟩, 0⟩
def formT (t : List UInt8) : Option Fm :=
  if t = [110, 101, 119, 45, 115, 101, 115, 115, 105, 111, 110] then some ⟨⟨#[]⟩, ⟨#[120, 121]⟩, 1⟩
  else if t = [97, 116, 116, 97, 99, 104] then some ⟨⟨#[]⟩, ⟨#[]⟩, 1⟩
  else if t = [100, 101, 116, 97, 99, 104] then some ⟨⟨#[]⟩, ⟨#[]⟩, 0⟩
  else if t = [107, 105, 108, 108, 45, 115, 101, 115, 115, 105, 111, 110] then some ⟨⟨#[]⟩, ⟨#[]⟩, 0⟩
  else if t = [110, 101, 119, 45, 119, 105, 110, 100, 111, 119] then some ⟨⟨#[]⟩, ⟨#[120, 121]⟩, 0⟩
  else if t = [115, 101, 108, 101, 99, 116, 45, 119, 105, 110, 100, 111, 119] then some ⟨⟨#[]⟩, ⟨#[116]⟩, 0⟩
  else if t = [107, 105, 108, 108, 45, 119, 105, 110, 100, 111, 119] then some ⟨⟨#[]⟩, ⟨#[116]⟩, 0⟩
  else if t = [107, 105, 108, 108, 45, 112, 97, 110, 101] then some ⟨⟨#[]⟩, ⟨#[116]⟩, 0⟩
  else if t = [108, 105, 115, 116, 45, 112, 97, 110, 101, 115] then some ⟨⟨#[]⟩, ⟨#[116]⟩, 0⟩
  else if t = [108, 97, 121, 111, 117, 116] then some ⟨⟨#[]⟩, ⟨#[116]⟩, 0⟩
  else if t = [115, 112, 108, 105, 116, 45, 119, 105, 110, 100, 111, 119] then some ⟨⟨#[104, 98]⟩, ⟨#[108, 116]⟩, 0⟩
  else if t = [114, 101, 115, 105, 122, 101, 45, 112, 97, 110, 101] then some ⟨⟨#[122]⟩, ⟨#[117, 100, 108, 114, 116]⟩, 0⟩
  else if t = [115, 101, 108, 101, 99, 116, 45, 112, 97, 110, 101] then some ⟨⟨#[110, 112]⟩, ⟨#[116]⟩, 0⟩
  else if t = [115, 119, 97, 112, 45, 112, 97, 110, 101] then some ⟨⟨#[110, 112]⟩, ⟨#[115, 116]⟩, 0⟩
  else if t = [114, 111, 116, 97, 116, 101, 45, 119, 105, 110, 100, 111, 119] then some ⟨⟨#[100]⟩, ⟨#[116]⟩, 0⟩
  else if t = [114, 101, 115, 105, 122, 101, 45, 119, 105, 110, 100, 111, 119] then some ⟨⟨#[]⟩, ⟨#[120, 121, 116]⟩, 0⟩
  else if t = [115, 101, 108, 101, 99, 116, 45, 108, 97, 121, 111, 117, 116] then some ⟨⟨#[101]⟩, ⟨#[109, 116]⟩, 1⟩
  else if t = [115, 101, 110, 100, 45, 105, 110, 112, 117, 116] then some ⟨⟨#[]⟩, ⟨#[116]⟩, 1⟩
  else none
def formR (o : Option Fm) : IV := match o with | some f => .tup [.agg f.row, .bool true] | none => .tup [.agg fm0.row, .bool false]
set_option maxRecDepth 20000 in
set_option maxHeartbeats 4000000 in
theorem formed_c (w : ByteArray) (h : Heap) : ICall Tryz.prog 71 [.str w] h (retP (formR (formT w.toList)) h) := by
  refine icall_of_iwp (fun d => 0) Tryz.func71 rfl (by kernel_rfl) (Nat.le_of_ble_eq_true rfl) ?_
  rw [Tryz.results71]
  simp -implicitDefEqProofs [go_sem]
  by_cases k0 : w.toList = [110, 101, 119, 45, 115, 101, 115, 115, 105, 111, 110]
  · simp -implicitDefEqProofs [go_sem, k0, formT, formR, Fm.row]
    exact ⟨h, Sub.refl _, rfl, rfl⟩
  have b0 : (w.toList == [110, 101, 119, 45, 115, 101, 115, 115, 105, 111, 110]) = false := by simpa using k0
  by_cases k1 : w.toList = [97, 116, 116, 97, 99, 104]
  · simp -implicitDefEqProofs [go_sem, k1, formT, formR, Fm.row]
    exact ⟨h, Sub.refl _, rfl, rfl⟩
  have b1 : (w.toList == [97, 116, 116, 97, 99, 104]) = false := by simpa using k1
  by_cases k2 : w.toList = [100, 101, 116, 97, 99, 104]
  · simp -implicitDefEqProofs [go_sem, k2, formT, formR, Fm.row]
    exact ⟨h, Sub.refl _, rfl, rfl⟩
  have b2 : (w.toList == [100, 101, 116, 97, 99, 104]) = false := by simpa using k2
  by_cases k3 : w.toList = [107, 105, 108, 108, 45, 115, 101, 115, 115, 105, 111, 110]
  · simp -implicitDefEqProofs [go_sem, k3, formT, formR, Fm.row]
    exact ⟨h, Sub.refl _, rfl, rfl⟩
  have b3 : (w.toList == [107, 105, 108, 108, 45, 115, 101, 115, 115, 105, 111, 110]) = false := by simpa using k3
  by_cases k4 : w.toList = [110, 101, 119, 45, 119, 105, 110, 100, 111, 119]
  · simp -implicitDefEqProofs [go_sem, k4, formT, formR, Fm.row]
    exact ⟨h, Sub.refl _, rfl, rfl⟩
  have b4 : (w.toList == [110, 101, 119, 45, 119, 105, 110, 100, 111, 119]) = false := by simpa using k4
  by_cases k5 : w.toList = [115, 101, 108, 101, 99, 116, 45, 119, 105, 110, 100, 111, 119]
  · simp -implicitDefEqProofs [go_sem, k5, formT, formR, Fm.row]
    exact ⟨h, Sub.refl _, rfl, rfl⟩
  have b5 : (w.toList == [115, 101, 108, 101, 99, 116, 45, 119, 105, 110, 100, 111, 119]) = false := by simpa using k5
  by_cases k6 : w.toList = [107, 105, 108, 108, 45, 119, 105, 110, 100, 111, 119]
  · simp -implicitDefEqProofs [go_sem, k6, formT, formR, Fm.row]
    exact ⟨h, Sub.refl _, rfl, rfl⟩
  have b6 : (w.toList == [107, 105, 108, 108, 45, 119, 105, 110, 100, 111, 119]) = false := by simpa using k6
  by_cases k7 : w.toList = [107, 105, 108, 108, 45, 112, 97, 110, 101]
  · simp -implicitDefEqProofs [go_sem, k7, formT, formR, Fm.row]
    exact ⟨h, Sub.refl _, rfl, rfl⟩
  have b7 : (w.toList == [107, 105, 108, 108, 45, 112, 97, 110, 101]) = false := by simpa using k7
  by_cases k8 : w.toList = [108, 105, 115, 116, 45, 112, 97, 110, 101, 115]
  · simp -implicitDefEqProofs [go_sem, k8, formT, formR, Fm.row]
    exact ⟨h, Sub.refl _, rfl, rfl⟩
  have b8 : (w.toList == [108, 105, 115, 116, 45, 112, 97, 110, 101, 115]) = false := by simpa using k8
  by_cases k9 : w.toList = [108, 97, 121, 111, 117, 116]
  · simp -implicitDefEqProofs [go_sem, k9, formT, formR, Fm.row]
    exact ⟨h, Sub.refl _, rfl, rfl⟩
  have b9 : (w.toList == [108, 97, 121, 111, 117, 116]) = false := by simpa using k9
  by_cases k10 : w.toList = [115, 112, 108, 105, 116, 45, 119, 105, 110, 100, 111, 119]
  · simp -implicitDefEqProofs [go_sem, k10, formT, formR, Fm.row]
    exact ⟨h, Sub.refl _, rfl, rfl⟩
  have b10 : (w.toList == [115, 112, 108, 105, 116, 45, 119, 105, 110, 100, 111, 119]) = false := by simpa using k10
  by_cases k11 : w.toList = [114, 101, 115, 105, 122, 101, 45, 112, 97, 110, 101]
  · simp -implicitDefEqProofs [go_sem, k11, formT, formR, Fm.row]
    exact ⟨h, Sub.refl _, rfl, rfl⟩
  have b11 : (w.toList == [114, 101, 115, 105, 122, 101, 45, 112, 97, 110, 101]) = false := by simpa using k11
  by_cases k12 : w.toList = [115, 101, 108, 101, 99, 116, 45, 112, 97, 110, 101]
  · simp -implicitDefEqProofs [go_sem, k12, formT, formR, Fm.row]
    exact ⟨h, Sub.refl _, rfl, rfl⟩
  have b12 : (w.toList == [115, 101, 108, 101, 99, 116, 45, 112, 97, 110, 101]) = false := by simpa using k12
  by_cases k13 : w.toList = [115, 119, 97, 112, 45, 112, 97, 110, 101]
  · simp -implicitDefEqProofs [go_sem, k13, formT, formR, Fm.row]
    exact ⟨h, Sub.refl _, rfl, rfl⟩
  have b13 : (w.toList == [115, 119, 97, 112, 45, 112, 97, 110, 101]) = false := by simpa using k13
  by_cases k14 : w.toList = [114, 111, 116, 97, 116, 101, 45, 119, 105, 110, 100, 111, 119]
  · simp -implicitDefEqProofs [go_sem, k14, formT, formR, Fm.row]
    exact ⟨h, Sub.refl _, rfl, rfl⟩
  have b14 : (w.toList == [114, 111, 116, 97, 116, 101, 45, 119, 105, 110, 100, 111, 119]) = false := by simpa using k14
  by_cases k15 : w.toList = [114, 101, 115, 105, 122, 101, 45, 119, 105, 110, 100, 111, 119]
  · simp -implicitDefEqProofs [go_sem, k15, formT, formR, Fm.row]
    exact ⟨h, Sub.refl _, rfl, rfl⟩
  have b15 : (w.toList == [114, 101, 115, 105, 122, 101, 45, 119, 105, 110, 100, 111, 119]) = false := by simpa using k15
  by_cases k16 : w.toList = [115, 101, 108, 101, 99, 116, 45, 108, 97, 121, 111, 117, 116]
  · simp -implicitDefEqProofs [go_sem, k16, formT, formR, Fm.row]
    exact ⟨h, Sub.refl _, rfl, rfl⟩
  have b16 : (w.toList == [115, 101, 108, 101, 99, 116, 45, 108, 97, 121, 111, 117, 116]) = false := by simpa using k16
  by_cases k17 : w.toList = [115, 101, 110, 100, 45, 105, 110, 112, 117, 116]
  · simp -implicitDefEqProofs [go_sem, k17, formT, formR, Fm.row]
    exact ⟨h, Sub.refl _, rfl, rfl⟩
  have b17 : (w.toList == [115, 101, 110, 100, 45, 105, 110, 112, 117, 116]) = false := by simpa using k17
  simp -implicitDefEqProofs [go_sem, b0, b1, b2, b3, b4, b5, b6, b7, b8, b9, b10, b11, b12, b13, b14, b15, b16, b17, k0, k1, k2, k3, k4, k5, k6, k7, k8, k9, k10, k11, k12, k13, k14, k15, k16, k17, formT, formR, Fm.row, fm0]
  exact ⟨h, Sub.refl _, rfl, rfl⟩
theorem mustT_c (e : Int) (h : Heap) : ICall Tryz.prog 70 [.bool true, .int .i64 e] h (retP (.tup []) h) := by
  refine icall_of_iwp (fun d => 0) Tryz.func70 rfl (by kernel_rfl) (Nat.le_of_ble_eq_true rfl) ?_
  rw [Tryz.results70]
  simp -implicitDefEqProofs [go_sem]
  exact ⟨h, Sub.refl _, rfl, rfl⟩
/-- what is thrown -/
def wrongV (e : Int) : IV := .iface 105 (.agg [.int .i64 e])
def panP (v : IV) (h : Heap) (e : IEnd) (h' : Heap) : Prop := e = .pan v ∧ h' = h
theorem mustF_c (e : Int) (h : Heap) : ICall Tryz.prog 70 [.bool false, .int .i64 e] h (panP (wrongV e) h) := by
  refine icall_of_iwp (fun d => 0) Tryz.func70 rfl (by kernel_rfl) (Nat.le_of_ble_eq_true rfl) ?_
  rw [Tryz.results70]
  simp -implicitDefEqProofs [go_sem]
  exact ⟨h, Sub.refl _, rfl, rfl⟩
def mustR (b : Bool) (e : Int) (h : Heap) : IEnd → Heap → Prop := if b then retP (.tup []) h else panP (wrongV e) h
theorem must_c (b : Bool) (e : Int) (h : Heap) : ICall Tryz.prog 70 [.bool b, .int .i64 e] h (mustR b e h) := by
  cases b
  · exact mustF_c e h
  · exact mustT_c e h
set_option maxRecDepth 20000 in
theorem ok_c (e : Int) (h : Heap) : ICall Tryz.prog 114 [.int .i64 e] h (mustR (e == 0) e h) := by
  refine icall_of_iwp (fun d => 0) Tryz.func114 rfl (by kernel_rfl) (Nat.le_of_ble_eq_true rfl) ?_
  rw [Tryz.results114]
  simp -implicitDefEqProofs [go_sem]
  refine (must_c (e == 0) e h).mono ?_
  intro x h' hx
  unfold mustR at hx ⊢
  cases hb : (e == 0) with
  | true =>
    rw [hb] at hx
    obtain ⟨rfl, rfl⟩ := hx
    simp -implicitDefEqProofs [go_sem]
    exact ⟨_, Sub.refl _, rfl, rfl⟩
  | false =>
    rw [hb] at hx
    obtain ⟨rfl, rfl⟩ := hx
    simp -implicitDefEqProofs [go_sem]
    exact ⟨_, Sub.refl _, rfl, rfl⟩
end Go.Proofs

set_option linter.unusedVariables false
set_option linter.unusedSimpArgs false
set_option pp.deepTerms false
set_option pp.maxSteps 400
namespace Go.Proofs
open Go.Idl

/-! a runner -/
abbrev NM := List (UInt8 × Int)
def encN (p : UInt8 × Int) : IV × IV := (.int .u8 p.1.toNat, .int .i64 p.2)
def putN : NM → UInt8 → Int → NM
  | [], c, s => [(c, s)]
  | p :: r, c, s => if c = p.1 then (c, s) :: r else p :: putN r c s
theorem iput_n (c : UInt8) (s : Int) : ∀ m : NM, iput (.int .u8) (.int .u8 c.toNat) (.int .i64 s) (m.map encN) = some ((putN m c s).map encN)
  | [] => rfl
  | p :: r => by
    by_cases h : c = p.1
    · simp [iput, kEq, encN, putN, h]
    · have h1 : ((c.toNat : Int) == (p.1.toNat : Int)) = false := by simpa using fun e => h ((u8_i _ _).1 (by exact_mod_cast e))
      rw [List.map_cons, encN, iput]
      simp only [kEq, if_true, h1, iput_n c s r, Option.map_some, putN, if_neg h]
      rfl
def getN (m : NM) (c : UInt8) : Option Int := (m.find? fun p => p.1 == c).map (·.2)
theorem ifind_n (c : UInt8) : ∀ m : NM, ifind (.int .u8) (.int .u8 c.toNat) (m.map encN) = some ((getN m c).map (IV.int .i64))
  | [] => rfl
  | p :: r => by
    by_cases h : c = p.1
    · have h2 : (p.1 == c) = true := by simp [h]
      simp [ifind, kEq, encN, getN, h]
    · have h1 : ((c.toNat : Int) == (p.1.toNat : Int)) = false := by simpa using fun e => h ((u8_i _ _).1 (by exact_mod_cast e))
      have h2 : (p.1 == c) = false := by simpa using Ne.symm h
      rw [List.map_cons, encN, ifind]
      simp only [kEq, if_true, h1, ifind_n c r, getN, List.find?_cons, h2]
def mapIs (h : Heap) (b : Nat) (es : List (IV × IV)) : Prop := h b = some (.map es) ∨ ∃ ents clock, h b = some (.pmap es ents clock)
structure Rn where
  reg : IV
  seat : Int
  word : ByteArray
  mo : Nat
  mn : Nat
  m : OM
  rest : List ByteArray
  ns : NM
def Rn.cells (r : Rn) : List IV := [r.reg, .int .i64 r.seat, .str r.word, .mapv r.mo, .list .plain (r.rest.map strRow), .mapv r.mn]
structure RnAt (h : Heap) (b : Nat) (r : Rn) : Prop where
  hb : h b = some (.cells r.cells)
  hm : mapIs h r.mo (r.m.map encO)
  hn : h r.mn = some (.map (r.ns.map encN))
  hne : r.mo ≠ r.mn
theorem RnAt.nums {h : Heap} {b : Nat} {r : Rn} (hr : RnAt h b r) (ns : NM) : RnAt (upd h r.mn (some (.map (ns.map encN)))) b { r with ns := ns } := by
  have hb : b ≠ r.mn := by rintro e; have := hr.hb; rw [e, hr.hn] at this; cases this
  refine ⟨by rw [upd_ne _ _ hb]; exact hr.hb, ?_, upd_same _ _ _, hr.hne⟩
  show mapIs _ r.mo _
  unfold mapIs
  rw [upd_ne _ _ hr.hne]; exact hr.hm
set_option maxRecDepth 20000 in
theorem ohas_c {h : Heap} {b : Nat} {r : Rn} (hr : RnAt h b r) (c : UInt8) : ICall Tryz.prog 74 [.ptr b 0, .int .u8 c.toNat] h (retP (.bool (getO r.m c).isSome) h) := by
  refine icall_of_iwp (fun d => 0) Tryz.func74 rfl (by kernel_rfl) (Nat.le_of_ble_eq_true rfl) ?_
  rw [Tryz.results74]
  have h1 := hr.hb
  have hq := ifind_o c r.m
  have hs : ((getO r.m c).map IV.str).isSome = (getO r.m c).isSome := by cases getO r.m c <;> rfl
  rcases hr.hm with h2 | ⟨ents, clock, h2⟩
  · simp -implicitDefEqProofs [go_sem, h1, h2, hq, Rn.cells]
    exact ⟨h, Sub.refl _, rfl, rfl⟩
  · simp -implicitDefEqProofs [go_sem, h1, h2, hq, Rn.cells]
    exact ⟨h, Sub.refl _, rfl, rfl⟩
def panesW (t : List UInt8) : Bool := t == [115, 112, 108, 105, 116, 45, 119, 105, 110, 100, 111, 119] || t == [107, 105, 108, 108, 45, 112, 97, 110, 101] || t == [114, 101, 115, 105, 122, 101, 45, 112, 97, 110, 101] || t == [115, 101, 108, 101, 99, 116, 45, 112, 97, 110, 101] || t == [115, 119, 97, 112, 45, 112, 97, 110, 101] || t == [115, 101, 110, 100, 45, 105, 110, 112, 117, 116]
def sigV (word : ByteArray) (c : UInt8) : UInt8 := if c = 115 then 37 else if c = 116 then (if panesW word.toList then 37 else 64) else 0
set_option maxRecDepth 20000 in
theorem sigil_c {h : Heap} {b : Nat} {r : Rn} (hr : RnAt h b r) (c : UInt8) : ICall Tryz.prog 111 [.ptr b 0, .int .u8 c.toNat] h (retP (.int .u8 (sigV r.word c).toNat) h) := by
  refine icall_of_iwp (fun d => 0) Tryz.func111 rfl (by kernel_rfl) (Nat.le_of_ble_eq_true rfl) ?_
  rw [Tryz.results111]
  have h1 := hr.hb
  simp -implicitDefEqProofs [go_sem]
  refine cK_beq (fun k1 => ?_) (fun k1 => ?_)
  · have e := (u8_i c 115).1 k1
    simp -implicitDefEqProofs [go_sem]
    exact ⟨h, Sub.refl _, by rw [sigV, if_pos e]; rfl, rfl⟩
  have n1 : c ≠ 115 := fun e => k1 ((u8_i c 115).2 e)
  simp -implicitDefEqProofs [go_sem]
  refine cK_bne (fun k2 => ?_) (fun k2 => ?_)
  · have n2 : c ≠ 116 := fun e => k2 ((u8_i c 116).2 e)
    simp -implicitDefEqProofs [go_sem]
    exact ⟨h, Sub.refl _, by rw [sigV, if_neg n1, if_neg n2]; rfl, rfl⟩
  have e2 := (u8_i c 116).1 k2
  simp -implicitDefEqProofs [go_sem, h1, Rn.cells]
  by_cases w1 : r.word.toList = [115, 112, 108, 105, 116, 45, 119, 105, 110, 100, 111, 119]
  · simp -implicitDefEqProofs [go_sem, h1, Rn.cells, w1]
    exact ⟨h, Sub.refl _, by rw [sigV, if_neg n1, if_pos e2, if_pos (by rw [panesW, w1]; rfl)]; rfl, rfl⟩
  have b1 : (r.word.toList == [115, 112, 108, 105, 116, 45, 119, 105, 110, 100, 111, 119]) = false := by simpa using w1
  by_cases w2 : r.word.toList = [107, 105, 108, 108, 45, 112, 97, 110, 101]
  · simp -implicitDefEqProofs [go_sem, h1, Rn.cells, w2]
    exact ⟨h, Sub.refl _, by rw [sigV, if_neg n1, if_pos e2, if_pos (by rw [panesW, w2]; rfl)]; rfl, rfl⟩
  have b2 : (r.word.toList == [107, 105, 108, 108, 45, 112, 97, 110, 101]) = false := by simpa using w2
  by_cases w3 : r.word.toList = [114, 101, 115, 105, 122, 101, 45, 112, 97, 110, 101]
  · simp -implicitDefEqProofs [go_sem, h1, Rn.cells, w3]
    exact ⟨h, Sub.refl _, by rw [sigV, if_neg n1, if_pos e2, if_pos (by rw [panesW, w3]; rfl)]; rfl, rfl⟩
  have b3 : (r.word.toList == [114, 101, 115, 105, 122, 101, 45, 112, 97, 110, 101]) = false := by simpa using w3
  by_cases w4 : r.word.toList = [115, 101, 108, 101, 99, 116, 45, 112, 97, 110, 101]
  · simp -implicitDefEqProofs [go_sem, h1, Rn.cells, w4]
    exact ⟨h, Sub.refl _, by rw [sigV, if_neg n1, if_pos e2, if_pos (by rw [panesW, w4]; rfl)]; rfl, rfl⟩
  have b4 : (r.word.toList == [115, 101, 108, 101, 99, 116, 45, 112, 97, 110, 101]) = false := by simpa using w4
  by_cases w5 : r.word.toList = [115, 119, 97, 112, 45, 112, 97, 110, 101]
  · simp -implicitDefEqProofs [go_sem, h1, Rn.cells, w5]
    exact ⟨h, Sub.refl _, by rw [sigV, if_neg n1, if_pos e2, if_pos (by rw [panesW, w5]; rfl)]; rfl, rfl⟩
  have b5 : (r.word.toList == [115, 119, 97, 112, 45, 112, 97, 110, 101]) = false := by simpa using w5
  by_cases w6 : r.word.toList = [115, 101, 110, 100, 45, 105, 110, 112, 117, 116]
  · simp -implicitDefEqProofs [go_sem, h1, Rn.cells, w6]
    exact ⟨h, Sub.refl _, by rw [sigV, if_neg n1, if_pos e2, if_pos (by rw [panesW, w6]; rfl)]; rfl, rfl⟩
  have b6 : (r.word.toList == [115, 101, 110, 100, 45, 105, 110, 112, 117, 116]) = false := by simpa using w6
  simp -implicitDefEqProofs [go_sem, h1, Rn.cells, b1, b2, b3, b4, b5, b6]
  exact ⟨h, Sub.refl _, by rw [sigV, if_neg n1, if_pos e2, if_neg (by rw [panesW, b1, b2, b3, b4, b5, b6]; decide)]; rfl, rfl⟩
/-- the numbers that options tell, in order; or the first error -/
def numsRun (rd : ByteArray → Int × Int) (nm : ByteArray → UInt8 → Int × Int) (word values : ByteArray) (m : OM) : List UInt8 → NM → Int ⊕ NM
  | [], ns => .inr ns
  | c :: cs, ns =>
    match getO m c with
    | none => numsRun rd nm word values m cs ns
    | some s =>
      if Lib.indexByte values.data.toList c < 0 then numsRun rd nm word values m cs ns else
      if (if 0 < (sigV word c).toNat then nm s (sigV word c) else rd s).2 ≠ 0 then .inl (if 0 < (sigV word c).toNat then nm s (sigV word c) else rd s).2
      else numsRun rd nm word values m cs (putN ns c (if 0 < (sigV word c).toNat then nm s (sigV word c) else rd s).1)
def letters : List UInt8 := [116, 115, 120, 121, 108, 114, 117, 100, 109]
/-- the readers of numbers do what is told, wherever they are asked -/
structure NumOk (rd : ByteArray → Int × Int) (nm : ByteArray → UInt8 → Int × Int) (values : ByteArray) (m : OM) (h : Heap) : Prop where
  rd : ∀ c s, c ∈ letters → getO m c = some s → ¬ Lib.indexByte values.data.toList c < 0 → ∀ H, Sub h H → ICall Tryz.prog 113 [.str s] H (retP (.tup [.int .i64 (rd s).1, .int .i64 (rd s).2]) H)
  nm : ∀ c s (g : UInt8), c ∈ letters → getO m c = some s → ¬ Lib.indexByte values.data.toList c < 0 → ∀ H, Sub h H → ICall Tryz.prog 112 [.str s, .int .u8 g.toNat] H (retP (.tup [.int .i64 (nm s g).1, .int .i64 (nm s g).2]) H)
def numsR (rd : ByteArray → Int × Int) (nm : ByteArray → UInt8 → Int × Int) (values : ByteArray) (h0 h : Heap) (r : Rn) (e : IEnd) (h' : Heap) : Prop :=
  match numsRun rd nm r.word values r.m letters r.ns with
  | .inl x => e = .pan (wrongV x) ∧ Sub h0 h'
  | .inr ns => e = .ret (.tup []) ∧ h' = upd h r.mn (some (.map (ns.map encN)))
set_option maxRecDepth 20000 in
set_option maxHeartbeats 1000000 in
theorem numbers_c {rd : ByteArray → Int × Int} {nm : ByteArray → UInt8 → Int × Int} {h0 h : Heap} {b : Nat} {r : Rn} (hr : RnAt h b r) (hsub : Sub h0 h) (h0n : h0 r.mn = none) (f : Fm) (hN : NumOk rd nm f.values r.m h0) :
    ICall Tryz.prog 75 [.ptr b 0, .agg f.row] h (numsR rd nm f.values h0 h r) := by
  refine icall_of_iwp (fun d => if d = 9 then 17 else 0) Tryz.func75 rfl (by kernel_rfl) (Nat.le_of_ble_eq_true rfl) ?_
  rw [Tryz.results75]
  simp -implicitDefEqProofs [go_sem, Fm.row]
  intro sb hsb
  have hL : ([[IV.int .u8 116], [IV.int .u8 115], [IV.int .u8 120], [IV.int .u8 121], [IV.int .u8 108], [IV.int .u8 114], [IV.int .u8 117], [IV.int .u8 100], [IV.int .u8 109]] : List (List IV)) = letters.map byRow := rfl
  have hLl : letters.length = 9 := rfl
  rw [hL]
  generalize hlt9 : letters = L at *
  have hbmn : b ≠ r.mn := by rintro e; have := hr.hb; rw [e, hr.hn] at this; cases this
  refine iwp_loopF (rng [5,6,7,8,12] 13 61) nom (fun s => ∃ (i : Nat) (ns : NM), i ≤ 9 ∧ s.t 12 = .int .i64 i ∧ s.h = upd h r.mn (some (.map (ns.map encN))) ∧ numsRun rd nm r.word f.values r.m (L.drop i) ns = numsRun rd nm r.word f.values r.m L r.ns) (fun s => 9 - tn (s.t 12)) ?_ ?_
  · refine ⟨0, r.ns, by omega, by simp -implicitDefEqProofs [go_sem], ?_, rfl⟩
    simp -implicitDefEqProofs [go_sem]
    funext j
    have hsm : sb ≠ r.mn := by rintro rfl; rw [hr.hn] at hsb; cases hsb
    have hn := hr.hn
    simp -implicitDefEqProofs [go_sem]
    by_cases e1 : j = sb
    · simp [e1, hsm, hsb]
    · by_cases e2 : j = r.mn
      · simp [e2, hn, Ne.symm hsm]
      · simp [e1, e2]
  rintro J s hJ hf ⟨i, ns, hi, h12, hh, hrun⟩
  have hrn := hr.nums ns
  rw [← hh] at hrn
  have hsub2 : Sub h0 s.h := by rw [hh]; exact hsub.upd h0n _
  simp -implicitDefEqProofs [go_sem, h12, hf.t, hf.m]
  refine cK_dec (fun hlt => ?_) (fun hge => ?_)
  · have hlt' : i < 9 := by omega
    have hg : L[i]? = some (L[i]'(by omega)) := List.getElem?_eq_getElem (by omega)
    have hw := wrap_succ (i := i) (by omega)
    have hdr : L.drop i = L[i]'(by omega) :: L.drop (i + 1) := List.drop_eq_getElem_cons (by omega)
    obtain ⟨c, hc⟩ : ∃ c, L[i]'(by omega) = c := ⟨_, rfl⟩
    have hcm : c ∈ L := by rw [← hc]; exact List.getElem_mem _
    rw [hdr, hc, numsRun] at hrun
    rw [hc] at hg
    simp -implicitDefEqProofs [go_sem, h12, hf.t, hf.m, hlt, hLl, hg, byRow]
    refine (ohas_c hrn c).mono ?_
    rintro e h2 ⟨rfl, rfl⟩
    have go : ∀ {st : St}, st.h = s.h → numsRun rd nm r.word f.values r.m (L.drop (i + 1)) ns = numsRun rd nm r.word f.values r.m L r.ns → True := fun _ _ => trivial
    cases ho : getO r.m c with
    | none =>
      rw [ho] at hrun
      simp only [] at hrun
      simp -implicitDefEqProofs [go_sem, h12, hf.t, hf.m, ho, hf, hw]
      exact hJ _ ⟨i + 1, ns, by omega, by simp -implicitDefEqProofs [go_sem, hw], by simpa -implicitDefEqProofs [go_sem] using hh, hrun⟩ (by simp [go_sem, h12, hw]; omega)
    | some v =>
      rw [ho] at hrun
      simp only [] at hrun
      simp -implicitDefEqProofs [go_sem, h12, hf.t, hf.m, ho, Fm.row]
      refine (indexByteU_c f.values c s.h).mono ?_
      rintro e h3 ⟨rfl, he⟩
      rw [he]
      simp -implicitDefEqProofs [go_sem, h12, hf.t, hf.m]
      refine cK_dec (fun hneg => ?_) (fun hpos => ?_)
      · rw [if_pos hneg] at hrun
        simp -implicitDefEqProofs [go_sem, h12, hf.t, hf.m, hf, hw]
        exact hJ _ ⟨i + 1, ns, by omega, by simp -implicitDefEqProofs [go_sem, hw], by simpa -implicitDefEqProofs [go_sem] using hh, hrun⟩ (by simp [go_sem, h12, hw]; omega)
      rw [if_neg hpos] at hrun
      simp -implicitDefEqProofs [go_sem, h12, hf.t, hf.m]
      refine (sigil_c hrn c).mono ?_
      rintro e h4 ⟨rfl, he4⟩
      rw [he4]
      have hsig : sigV ({ r with ns := ns } : Rn).word c = sigV r.word c := rfl
      rw [hsig]
      have k1 := hrn.hb
      have hq := ifind_o c r.m
      rw [ho] at hq
      simp -implicitDefEqProofs [go_sem, h12, hf.t, hf.m]
      -- behind the reading of the number
      have tail : ∀ (p : Int × Int), (if p.2 ≠ 0 then (.inl p.2 : Int ⊕ NM) else numsRun rd nm r.word f.values r.m (L.drop (i + 1)) (putN ns c p.1)) = numsRun rd nm r.word f.values r.m L r.ns → True := fun _ _ => trivial
      refine cK_dec (fun hs0 => ?_) (fun hs0 => ?_)
      · have hsg : 0 < (sigV r.word c).toNat := by omega
        simp only [if_pos hsg] at hrun
        have hcall := hN.nm c v (sigV r.word c) (hlt9 ▸ hcm) ho hpos s.h hsub2
        rcases hrn.hm with k2 | ⟨ents, clock, k2⟩
        all_goals (
          simp -implicitDefEqProofs [go_sem, h12, hf.t, hf.m, k1, k2, hq, Rn.cells]
          refine hcall.mono ?_
          rintro e h5 ⟨rfl, he5⟩
          rw [he5]
          simp -implicitDefEqProofs [go_sem, h12, hf.t, hf.m]
          refine (ok_c _ s.h).mono ?_
          intro e h6 hok
          unfold mustR at hok
          by_cases he0 : (nm v (sigV r.word c)).2 = 0
          · rw [if_neg (by simpa using he0)] at hrun
            rw [he0] at hok
            obtain ⟨rfl, rfl⟩ := hok
            have hk : s.h r.mn = some (.map (ns.map encN)) := by rw [hh]; exact upd_same _ _ _
            simp -implicitDefEqProofs [go_sem, h12, hf.t, hf.m, hf, k1, hk, Rn.cells, iput_n, hw]
            refine hJ _ ⟨i + 1, putN ns c (nm v (sigV r.word c)).1, by omega, by simp -implicitDefEqProofs [go_sem, hw], ?_, hrun⟩ (by simp [go_sem, h12, hw]; omega)
            simp -implicitDefEqProofs [go_sem, hh]
            funext j
            simp only [upd]
            split <;> rfl
          · rw [if_pos he0] at hrun
            rw [if_neg (by simpa using he0)] at hok
            obtain ⟨rfl, rfl⟩ := hok
            simp -implicitDefEqProofs [go_sem, h12, hf.t, hf.m, hf]
            exact ⟨s.h, Sub.refl _, by rw [numsR, hlt9, ← hrun]; exact ⟨rfl, hsub2⟩⟩)
      · have hsg : ¬ 0 < (sigV r.word c).toNat := by omega
        simp only [if_neg hsg] at hrun
        have hcall := hN.rd c v (hlt9 ▸ hcm) ho hpos s.h hsub2
        rcases hrn.hm with k2 | ⟨ents, clock, k2⟩
        all_goals (
          simp -implicitDefEqProofs [go_sem, h12, hf.t, hf.m, k1, k2, hq, Rn.cells]
          refine hcall.mono ?_
          rintro e h5 ⟨rfl, he5⟩
          rw [he5]
          simp -implicitDefEqProofs [go_sem, h12, hf.t, hf.m]
          refine (ok_c _ s.h).mono ?_
          intro e h6 hok
          unfold mustR at hok
          by_cases he0 : (rd v).2 = 0
          · rw [if_neg (by simpa using he0)] at hrun
            rw [he0] at hok
            obtain ⟨rfl, rfl⟩ := hok
            have hk : s.h r.mn = some (.map (ns.map encN)) := by rw [hh]; exact upd_same _ _ _
            simp -implicitDefEqProofs [go_sem, h12, hf.t, hf.m, hf, k1, hk, Rn.cells, iput_n, hw]
            refine hJ _ ⟨i + 1, putN ns c (rd v).1, by omega, by simp -implicitDefEqProofs [go_sem, hw], ?_, hrun⟩ (by simp [go_sem, h12, hw]; omega)
            simp -implicitDefEqProofs [go_sem, hh]
            funext j
            simp only [upd]
            split <;> rfl
          · rw [if_pos he0] at hrun
            rw [if_neg (by simpa using he0)] at hok
            obtain ⟨rfl, rfl⟩ := hok
            simp -implicitDefEqProofs [go_sem, h12, hf.t, hf.m, hf]
            exact ⟨s.h, Sub.refl _, by rw [numsR, hlt9, ← hrun]; exact ⟨rfl, hsub2⟩⟩)
  · obtain rfl : i = 9 := by omega
    have hz : numsRun rd nm r.word f.values r.m L r.ns = .inr ns := by rw [← hrun, List.drop_of_length_le (by omega)]; rfl
    simp -implicitDefEqProofs [go_sem, h12, hf.t, hf.m]
    exact ⟨s.h, Sub.refl _, by rw [numsR, hlt9, hz]; exact ⟨rfl, hh⟩⟩
end Go.Proofs

set_option linter.unusedVariables false
set_option linter.unusedSimpArgs false
set_option pp.deepTerms false
set_option pp.maxSteps 600
namespace Go.Proofs
open Go.Idl

/-! a command begins -/
def ofitB (f : Fm) (p : UInt8 × ByteArray) : Bool := decide (0 ≤ Lib.indexByte (f.flags ++ f.values).data.toList p.1)
def selW : List UInt8 := [115, 101, 108, 101, 99, 116, 45, 108, 97, 121, 111, 117, 116]
def restN (w : ByteArray) (m : OM) (f : Fm) : Int := if w.toList = selW ∧ (getO m 101).isSome = true then 0 else f.rest
def beginV (rd : ByteArray → Int × Int) (nm : ByteArray → UInt8 → Int × Int) (l : List ByteArray) : Int ⊕ (ByteArray × OM × List ByteArray × NM) :=
  match l with
  | [] => .inl 2
  | w :: _ =>
    match formT w.toList with
    | none => .inl 2
    | some f =>
      match optZ l f.values with
      | .inl _ => .inl 2
      | .inr (i, m) =>
        if m.all (ofitB f) = false then .inl 2 else
        if ((l.drop (min i l.length)).length : Int) ≠ restN w m f then .inl 2 else
        match numsRun rd nm w f.values m letters [] with
        | .inl x => .inl x
        | .inr ns => .inr (w, m, l.drop (min i l.length), ns)
def begR (rd : ByteArray → Int × Int) (nm : ByteArray → UInt8 → Int × Int) (reg : IV) (seat : Int) (l : List ByteArray) (h : Heap) (e : IEnd) (h' : Heap) : Prop :=
  match beginV rd nm l with
  | .inl x => e = .pan (wrongV x) ∧ Sub h h'
  | .inr (w, m, rest, ns) => ∃ b mo mn, e = .ret (.ptr b 0) ∧ h b = none ∧ h mo = none ∧ h mn = none ∧ Sub h h' ∧ RnAt h' b ⟨reg, seat, w, mo, mn, m, rest, ns⟩
theorem map_eraseIdx {α β : Type} (f : α → β) : ∀ (l : List α) (i : Nat), (l.map f).eraseIdx i = (l.eraseIdx i).map f
  | [], i => by simp
  | x :: l, 0 => rfl
  | x :: l, i + 1 => by rw [List.map_cons, List.eraseIdx_cons_succ, List.eraseIdx_cons_succ, List.map_cons, map_eraseIdx f l i]
theorem mem_eraseIdx_or {α : Type} : ∀ (l : List α) (i : Nat) (x : α), l[i]? = some x → ∀ y ∈ l, y = x ∨ y ∈ l.eraseIdx i
  | [], i, x, h, y, hy => by cases hy
  | z :: l, 0, x, h, y, hy => by
    simp only [List.getElem?_cons_zero, Option.some.injEq] at h; subst h
    rcases List.mem_cons.1 hy with h1 | h1
    · exact .inl h1
    · exact .inr h1
  | z :: l, i + 1, x, h, y, hy => by
    simp only [List.getElem?_cons_succ] at h
    rw [List.eraseIdx_cons_succ]
    rcases List.mem_cons.1 hy with h1 | h1
    · exact .inr (by rw [h1]; exact List.mem_cons_self)
    · exact (mem_eraseIdx_or l i x h y h1).imp_right (List.mem_cons_of_mem _)
theorem ite_fm {P : Fm → Prop} {c : Prop} [Decidable c] {a : Fm} {o : Option Fm} (ha : P a) (ho : ∀ f, o = some f → P f) : ∀ f, (if c then some a else o) = some f → P f := by
  intro f h
  by_cases hc : c
  · rw [if_pos hc] at h; cases h; exact ha
  · rw [if_neg hc] at h; exact ho f h
theorem form_le0 (t : List UInt8) : ∀ f, formT t = some f → f.flags.size ≤ 5 ∧ f.values.size ≤ 5 := by
  unfold formT
  iterate 18 refine ite_fm (P := fun f : Fm => f.flags.size ≤ 5 ∧ f.values.size ≤ 5) ⟨by decide, by decide⟩ ?_
  intro f h; cases h
theorem form_le {t : List UInt8} {f : Fm} (h : formT t = some f) : f.flags.size ≤ 5 ∧ f.values.size ≤ 5 := form_le0 t f h
/-- the readers of numbers do what a command asks of them -/
def BegOkN (rd : ByteArray → Int × Int) (nm : ByteArray → UInt8 → Int × Int) (l : List ByteArray) (h : Heap) : Prop :=
  ∀ w r f i m, l = w :: r → formT w.toList = some f → optZ l f.values = .inr (i, m) → NumOk rd nm f.values m h
set_option maxRecDepth 20000 in
set_option maxHeartbeats 2000000 in
theorem begin_c {rd : ByteArray → Int × Int} {nm : ByteArray → UInt8 → Int × Int} (reg : IV) (hreg : reg = .nilptr ∨ ∃ rb, reg = .ptr rb 0) (seat : Int) (l : List ByteArray) (h : Heap) (hl : l.length ≤ 100000) (hN : BegOkN rd nm l h) :
    ICall Tryz.prog 46 [reg, .int .i64 seat, .list .plain (l.map strRow)] h (begR rd nm reg seat l h) := by
  refine icall_of_iwp (fun d => if d = 47 then 1 else 0) Tryz.func46 rfl (by kernel_rfl) (Nat.le_of_ble_eq_true rfl) ?_
  rw [Tryz.results46]
  have hrs : stripT reg = reg ∧ strip reg = reg ∧ icells reg = [reg] ∧ okV reg = true := by rcases hreg with rfl | ⟨rb, rfl⟩ <;> exact ⟨rfl, rfl, rfl, rfl⟩
  obtain ⟨r1, r2, r3, r4⟩ := hrs
  have r5 := r4
  unfold okV at r5
  cases l with
  | nil =>
    simp -implicitDefEqProofs [go_sem]
    refine (must_c false 2 h).mono ?_
    rintro e h' ⟨rfl, rfl⟩
    simp -implicitDefEqProofs [go_sem]
    exact ⟨_, Sub.refl _, rfl, Sub.refl _⟩
  | cons w r =>
    have hpos : (0 : Int) < ((r.length : Int) + 1) := by omega
    simp -implicitDefEqProofs [go_sem, hpos]
    refine (must_c true 2 h).mono ?_
    rintro e h' ⟨rfl, rfl⟩
    simp -implicitDefEqProofs [go_sem, hpos, strRow]
    refine (formed_c w h').mono ?_
    rintro e h2 ⟨rfl, he⟩
    rw [he]
    cases hfo : formT w.toList with
    | none =>
      simp -implicitDefEqProofs [go_sem, formR, fm0, Fm.row]
      refine (must_c false 2 h').mono ?_
      rintro e h3 ⟨rfl, rfl⟩
      simp -implicitDefEqProofs [go_sem]
      exact ⟨_, Sub.refl _, by rw [begR, beginV, hfo]; exact ⟨rfl, Sub.refl _⟩⟩
    | some f =>
      obtain ⟨hfl, hfv⟩ := form_le hfo
      simp -implicitDefEqProofs [go_sem, formR, Fm.row]
      refine (must_c true 2 h').mono ?_
      rintro e h3 ⟨rfl, he3⟩
      rw [he3]
      simp -implicitDefEqProofs [go_sem]
      have hopt := options_c (w :: r) f.values h' hl (by simp)
      rw [List.map_cons] at hopt
      refine hopt.mono ?_
      intro e h4 ho
      unfold optsR at ho
      cases hz : optZ (w :: r) f.values with
      | inl a =>
        rw [hz] at ho
        obtain ⟨v, rfl, b, fb, q1, q2, rfl, q4, q5, q6⟩ := ho
        simp -implicitDefEqProofs [go_sem]
        refine (must_c false 2 h4).mono ?_
        rintro e h5 ⟨rfl, he5⟩
        rw [he5]
        simp -implicitDefEqProofs [go_sem]
        exact ⟨_, Sub.refl _, by rw [begR, beginV, hfo]; simp only [hz]; exact ⟨trivial, q6⟩⟩
      | inr p =>
        obtain ⟨i, m⟩ := p
        rw [hz] at ho
        obtain ⟨L, hL⟩ : ∃ L, (w :: r).drop (min i (w :: r).length) = L := ⟨_, rfl⟩
        simp only [hL] at ho
        obtain ⟨mo, hmo, rfl, rfl⟩ := ho
        have hNn := hN w r f i m rfl hfo hz
        simp -implicitDefEqProofs [go_sem]
        refine (must_c true 2 _).mono ?_
        rintro e h5 ⟨rfl, he5⟩
        rw [he5]
        simp -implicitDefEqProofs [go_sem, strRow, r1, r2, r3, r5]
        intro mn hmn b hb
        have hmn0 : h' mn = none := by
          split at hmn
          · cases hmn
          · exact hmn
        have hbn : b ≠ mn := by rintro rfl; rw [if_pos rfl] at hb; cases hb
        rw [if_neg hbn] at hb
        have hbo : b ≠ mo := by rintro rfl; rw [if_pos rfl] at hb; cases hb
        rw [if_neg hbo] at hb
        have hmm : mn ≠ mo := by rintro rfl; rw [if_pos rfl] at hmn; cases hmn
        have r6 : strT reg = reg := by rcases hreg with rfl | ⟨rb, rfl⟩ <;> rfl
        rw [r6]
        simp -implicitDefEqProofs [go_sem, Ne.symm hbo, Ne.symm hmm]
        intro it ents clock hit hlen
        have ib : it ≠ b := by rintro rfl; rw [if_pos rfl] at hit; cases hit
        rw [if_neg ib] at hit
        have im : it ≠ mn := by rintro rfl; rw [if_pos rfl] at hit; cases hit
        rw [if_neg im] at hit
        have io : it ≠ mo := by rintro rfl; rw [if_pos rfl] at hit; cases hit
        rw [if_neg io] at hit
        have hcat : (f.flags ++ f.values).size ≤ 10 := by rw [ByteArray.size_append]; omega
        have hcat2 : f.flags.size + f.values.size ≤ 9223372036854775807 := by omega
        refine iwp_loopF (rng [13] 50 62) nom (fun s => ∃ (left : OM) (cur : Option (IV × IV)), s.h it = some (.mit mo ents clock (left.map encO) cur) ∧ s.h mo = some (.pmap (m.map encO) ents clock) ∧ s.h b = some (.cells [reg, .int .i64 seat, .str w, .mapv mo, .list .plain (L.map strRow), .mapv mn]) ∧ s.h mn = some (.map []) ∧ Sub h' s.h ∧
            (∀ p ∈ m, p ∈ left ∨ ofitB f p = true) ∧ (∀ p ∈ left, p ∈ m) ∧ left.length ≤ m.length) (fun s => match s.h it with | some (.mit _ _ _ left _) => left.length | _ => 0) ?_ ?_
        · refine ⟨m, none, by simp -implicitDefEqProofs [go_sem], by simp -implicitDefEqProofs [go_sem, Ne.symm io], by simp -implicitDefEqProofs [go_sem, Ne.symm ib, hbo], by simp -implicitDefEqProofs [go_sem, Ne.symm im, hmm, Ne.symm hbn], ?_, fun p hp => .inl hp, fun p hp => hp, Nat.le_refl _⟩
          simp -implicitDefEqProofs [go_sem]
          exact ((((Sub.refl h').upd hmo _).upd hmn0 _).upd hb _ |>.upd hmo _).upd hit _
        rintro J s hJ hf ⟨left, cur, hsi, hso, hsb, hsn, hss, hall, hle, hll⟩
        simp -implicitDefEqProofs [go_sem, hf.t, hf.m, hsi, hso]
        refine ⟨fun hnil => ?_, fun j k v c => ?_⟩
        · subst hnil
          have hall' : m.all (ofitB f) = true := by rw [List.all_eq_true]; intro p hp; exact (hall p hp).resolve_left (by simp)
          have hrn : RnAt s.h b ⟨reg, seat, w, mo, mn, m, L, []⟩ := ⟨hsb, .inr ⟨ents, clock, hso⟩, hsn, Ne.symm hmm⟩
          -- behind the test of the words' number
          have fin : ∀ (k : Int) (st : St), True := fun _ _ => trivial
          simp -implicitDefEqProofs [go_sem, hf.t, hf.m, hsi, hso, hsb]
          by_cases hw : w.toList = [115, 101, 108, 101, 99, 116, 45, 108, 97, 121, 111, 117, 116]
          · have hwb : (w.toList == [115, 101, 108, 101, 99, 116, 45, 108, 97, 121, 111, 117, 116]) = true := by simpa using hw
            simp -implicitDefEqProofs [go_sem, hf.t, hf.m, hsi, hso, hsb, hwb]
            refine (ohas_c hrn 101).mono ?_
            rintro e h6 ⟨rfl, rfl⟩
            cases hh : (getO m 101).isSome with
            | true =>
              have hrest : restN w m f = 0 := by rw [restN, if_pos ⟨hw, hh⟩]
              simp -implicitDefEqProofs [go_sem, hf.t, hf.m, hsi, hso, hsb, hwb, hh]
              refine (must_c _ 2 _).mono ?_
              intro e h7 hmu
              unfold mustR at hmu
              cases hq : ((L.length : Int) == 0) with
              | false =>
                rw [hq] at hmu
                obtain ⟨rfl, rfl⟩ := hmu
                simp -implicitDefEqProofs [go_sem, hf.t, hf.m, hsi, hso, hsb]
                refine ⟨_, Sub.refl _, ?_⟩
                have hne : ¬ (L.length : Int) = restN w m f := by rw [hrest]; simpa using hq
                rw [begR, beginV, hfo]
                simp only [hz, hall', hL, hne, if_true, Bool.true_eq_false, if_false, ne_eq, not_false_eq_true]
                exact ⟨trivial, hss⟩
              | true =>
                rw [hq] at hmu
                obtain ⟨rfl, rfl⟩ := hmu
                have hee : (L.length : Int) = restN w m f := by rw [hrest]; simpa using hq
                simp -implicitDefEqProofs [go_sem, hf.t, hf.m, hsi, hso, hsb]
                refine (numbers_c hrn hss hmn0 { f with rest := 0 } hNn).mono ?_
                intro e h8 hn
                simp only [numsR] at hn
                cases hr : numsRun rd nm w f.values m letters [] with
                | inl x =>
                  rw [hr] at hn
                  obtain ⟨rfl, hs8⟩ := hn
                  simp -implicitDefEqProofs [go_sem]
                  refine ⟨_, Sub.refl _, ?_⟩
                  rw [begR, beginV, hfo]
                  simp only [hz, hall', hL, hee, hr, if_true, Bool.true_eq_false, if_false, ne_eq, not_true_eq_false]
                  exact ⟨trivial, hs8⟩
                | inr ns =>
                  rw [hr] at hn
                  obtain ⟨rfl, rfl⟩ := hn
                  simp -implicitDefEqProofs [go_sem, hf.t, hf.m]
                  refine ⟨_, Sub.refl _, ?_⟩
                  rw [begR, beginV, hfo]
                  simp only [hz, hall', hL, hee, hr, if_true, Bool.true_eq_false, if_false, ne_eq, not_true_eq_false]
                  refine ⟨b, mo, mn, rfl, hb, hmo, hmn0, hss.upd hmn0 _, ?_, ?_, ?_, Ne.symm hmm⟩
                  · simp -implicitDefEqProofs [go_sem, hbn, Ne.symm hbn, hsb, Rn.cells]
                  · exact .inr ⟨ents, clock, by simp -implicitDefEqProofs [go_sem, hmm, Ne.symm hmm, hso]⟩
                  · simp -implicitDefEqProofs [go_sem]
            | false =>
              have hrest : restN w m f = f.rest := by rw [restN, if_neg (fun c => by rw [hh] at c; exact absurd c.2 (by decide))]
              simp -implicitDefEqProofs [go_sem, hf.t, hf.m, hsi, hso, hsb, hwb, hh]
              refine (must_c _ 2 _).mono ?_
              intro e h7 hmu
              unfold mustR at hmu
              cases hq : ((L.length : Int) == f.rest) with
              | false =>
                rw [hq] at hmu
                obtain ⟨rfl, rfl⟩ := hmu
                simp -implicitDefEqProofs [go_sem, hf.t, hf.m, hsi, hso, hsb]
                refine ⟨_, Sub.refl _, ?_⟩
                have hne : ¬ (L.length : Int) = restN w m f := by rw [hrest]; simpa using hq
                rw [begR, beginV, hfo]
                simp only [hz, hall', hL, hne, if_true, Bool.true_eq_false, if_false, ne_eq, not_false_eq_true]
                exact ⟨trivial, hss⟩
              | true =>
                rw [hq] at hmu
                obtain ⟨rfl, rfl⟩ := hmu
                have hee : (L.length : Int) = restN w m f := by rw [hrest]; simpa using hq
                simp -implicitDefEqProofs [go_sem, hf.t, hf.m, hsi, hso, hsb]
                refine (numbers_c hrn hss hmn0 f hNn).mono ?_
                intro e h8 hn
                simp only [numsR] at hn
                cases hr : numsRun rd nm w f.values m letters [] with
                | inl x =>
                  rw [hr] at hn
                  obtain ⟨rfl, hs8⟩ := hn
                  simp -implicitDefEqProofs [go_sem]
                  refine ⟨_, Sub.refl _, ?_⟩
                  rw [begR, beginV, hfo]
                  simp only [hz, hall', hL, hee, hr, if_true, Bool.true_eq_false, if_false, ne_eq, not_true_eq_false]
                  exact ⟨trivial, hs8⟩
                | inr ns =>
                  rw [hr] at hn
                  obtain ⟨rfl, rfl⟩ := hn
                  simp -implicitDefEqProofs [go_sem, hf.t, hf.m]
                  refine ⟨_, Sub.refl _, ?_⟩
                  rw [begR, beginV, hfo]
                  simp only [hz, hall', hL, hee, hr, if_true, Bool.true_eq_false, if_false, ne_eq, not_true_eq_false]
                  refine ⟨b, mo, mn, rfl, hb, hmo, hmn0, hss.upd hmn0 _, ?_, ?_, ?_, Ne.symm hmm⟩
                  · simp -implicitDefEqProofs [go_sem, hbn, Ne.symm hbn, hsb, Rn.cells]
                  · exact .inr ⟨ents, clock, by simp -implicitDefEqProofs [go_sem, hmm, Ne.symm hmm, hso]⟩
                  · simp -implicitDefEqProofs [go_sem]
          · have hwb : (w.toList == [115, 101, 108, 101, 99, 116, 45, 108, 97, 121, 111, 117, 116]) = false := by simpa using hw
            have hrest : restN w m f = f.rest := by rw [restN, if_neg (fun c => hw c.1)]
            simp -implicitDefEqProofs [go_sem, hf.t, hf.m, hsi, hso, hsb, hwb]
            refine (must_c _ 2 _).mono ?_
            intro e h7 hmu
            unfold mustR at hmu
            cases hq : ((L.length : Int) == f.rest) with
            | false =>
              rw [hq] at hmu
              obtain ⟨rfl, rfl⟩ := hmu
              simp -implicitDefEqProofs [go_sem, hf.t, hf.m, hsi, hso, hsb]
              refine ⟨_, Sub.refl _, ?_⟩
              have hne : ¬ (L.length : Int) = restN w m f := by rw [hrest]; simpa using hq
              rw [begR, beginV, hfo]
              simp only [hz, hall', hL, hne, if_true, Bool.true_eq_false, if_false, ne_eq, not_false_eq_true]
              exact ⟨trivial, hss⟩
            | true =>
              rw [hq] at hmu
              obtain ⟨rfl, rfl⟩ := hmu
              have hee : (L.length : Int) = restN w m f := by rw [hrest]; simpa using hq
              simp -implicitDefEqProofs [go_sem, hf.t, hf.m, hsi, hso, hsb]
              refine (numbers_c hrn hss hmn0 f hNn).mono ?_
              intro e h8 hn
              simp only [numsR] at hn
              cases hr : numsRun rd nm w f.values m letters [] with
              | inl x =>
                rw [hr] at hn
                obtain ⟨rfl, hs8⟩ := hn
                simp -implicitDefEqProofs [go_sem]
                refine ⟨_, Sub.refl _, ?_⟩
                rw [begR, beginV, hfo]
                simp only [hz, hall', hL, hee, hr, if_true, Bool.true_eq_false, if_false, ne_eq, not_true_eq_false]
                exact ⟨trivial, hs8⟩
              | inr ns =>
                rw [hr] at hn
                obtain ⟨rfl, rfl⟩ := hn
                simp -implicitDefEqProofs [go_sem, hf.t, hf.m]
                refine ⟨_, Sub.refl _, ?_⟩
                rw [begR, beginV, hfo]
                simp only [hz, hall', hL, hee, hr, if_true, Bool.true_eq_false, if_false, ne_eq, not_true_eq_false]
                refine ⟨b, mo, mn, rfl, hb, hmo, hmn0, hss.upd hmn0 _, ?_, ?_, ?_, Ne.symm hmm⟩
                · simp -implicitDefEqProofs [go_sem, hbn, Ne.symm hbn, hsb, Rn.cells]
                · exact .inr ⟨ents, clock, by simp -implicitDefEqProofs [go_sem, hmm, Ne.symm hmm, hso]⟩
                · simp -implicitDefEqProofs [go_sem]
        · intro sv hjl hkv
          cases hkv
          have hmi : mo ≠ it := Ne.symm io
          simp -implicitDefEqProofs [go_sem, hmi, hcat2]
          refine (indexByteU_c (f.flags ++ f.values) c _).mono ?_
          rintro e h6 ⟨rfl, rfl⟩
          simp -implicitDefEqProofs [go_sem, hf.t, hf.m]
          refine (must_c _ 2 _).mono ?_
          intro e h7 hmu
          replace hmu : mustR (decide (0 ≤ Lib.indexByte (f.flags ++ f.values).data.toList c)) 2 (upd s.h it (some (IObj.mit mo ents clock ((List.map encO left).eraseIdx j) (some (IV.int IntKind.u8 ↑c.toNat, IV.str sv))))) e h7 := by rw [show (f.flags ++ f.values).data.toList = f.flags.data.toList ++ f.values.data.toList from by simp]; exact hmu
          unfold mustR at hmu
          cases hfit : decide (0 ≤ Lib.indexByte (f.flags ++ f.values).data.toList c) with
          | true =>
            rw [hfit] at hmu
            obtain ⟨rfl, rfl⟩ := hmu
            simp -implicitDefEqProofs [go_sem, hf.t, hf.m, hf]
            refine hJ _ ⟨left.eraseIdx j, some (encO (c, sv)), by simp -implicitDefEqProofs [go_sem, map_eraseIdx]; rfl, by simp -implicitDefEqProofs [go_sem, hmi, hso], by simp -implicitDefEqProofs [go_sem, Ne.symm ib, hsb], by simp -implicitDefEqProofs [go_sem, Ne.symm im, hsn], ?_, ?_, fun p hp => hle p (List.mem_of_mem_eraseIdx hp), ?_⟩ ?_
            · simp -implicitDefEqProofs [go_sem]
              exact hss.upd hit _
            · intro p hp
              rcases hall p hp with h1 | h1
              · rcases mem_eraseIdx_or left j _ hjl p h1 with h2 | h2
                · exact .inr (by rw [h2]; exact hfit)
                · exact .inl h2
              · exact .inr h1
            · rw [List.length_eraseIdx]; split <;> omega
            · have hjlt := (List.getElem?_eq_some_iff.1 hjl).1
              simp -implicitDefEqProofs [go_sem, hsi]
              rw [List.length_eraseIdx, if_pos (by simpa using hjlt)]
              simp; omega
          | false =>
            rw [hfit] at hmu
            obtain ⟨rfl, rfl⟩ := hmu
            simp -implicitDefEqProofs [go_sem, hf.t, hf.m]
            have hall' : m.all (ofitB f) = false := by
              rw [List.all_eq_false]
              exact ⟨_, hle _ (List.mem_of_getElem? hjl), by rw [ofitB, hfit]; simp⟩
            refine ⟨_, Sub.refl _, ?_⟩
            rw [begR, beginV, hfo]
            simp only [hz, hall', if_true]
            exact ⟨trivial, (hss.upd hit _)⟩
end Go.Proofs
