/- This text is a part of the proofs of the statements of this seat: the ideal states and their rules, or what one of the functions that the statements reach comes to. Conditions: none beyond those that each theorem names. -/
import Derived.Test.YtejjnaibgimiaaaGreatDoorIdl6b
set_option linter.unusedVariables false
set_option linter.unusedSimpArgs false
namespace Go.Idl
def St.setM (st : St) (s : Nat) (v : Nat × List IV) : St := { st with m := upd st.m s (some v) }
def St.setH (st : St) (b : Nat) (o : IObj) : St := { st with h := upd st.h b (some o) }
def St.setX (st : St) (x : Nat → Option (Nat × Nat × TypeId)) : St := { st with x := x }
def St.putH (st : St) (h : Heap) : St := { st with h := h }

section
variable (st : St) (d t s s' b b' : Nat) (v : IV) (p : Nat × List IV) (o : IObj) (xs : Nat → Option (Nat × Nat × TypeId)) (h : Heap)
@[go_sem] theorem put_t_eq : (st.put (some d) v).t t = if t = d then v else st.t t := rfl
@[go_sem] theorem put_none_eq : st.put none v = st := rfl
@[go_sem] theorem put_m_eq : (st.put (some d) v).m = st.m := rfl
@[go_sem] theorem put_x_eq : (st.put (some d) v).x = st.x := rfl
@[go_sem] theorem put_h_eq : (st.put (some d) v).h = st.h := rfl
@[go_sem] theorem setM_t : (st.setM s p).t = st.t := rfl
@[go_sem] theorem setM_m : (st.setM s p).m s' = if s' = s then some p else st.m s' := rfl
@[go_sem] theorem setM_x : (st.setM s p).x = st.x := rfl
@[go_sem] theorem setM_h : (st.setM s p).h = st.h := rfl
@[go_sem] theorem setH_t : (st.setH b o).t = st.t := rfl
@[go_sem] theorem setH_m : (st.setH b o).m = st.m := rfl
@[go_sem] theorem setH_x : (st.setH b o).x = st.x := rfl
@[go_sem] theorem setH_h : (st.setH b o).h = upd st.h b (some o) := rfl
@[go_sem] theorem setX_t : (st.setX xs).t = st.t := rfl
@[go_sem] theorem setX_m : (st.setX xs).m = st.m := rfl
@[go_sem] theorem setX_x : (st.setX xs).x = xs := rfl
@[go_sem] theorem setX_h : (st.setX xs).h = st.h := rfl
@[go_sem] theorem putH_t : (st.putH h).t = st.t := rfl
@[go_sem] theorem putH_m : (st.putH h).m = st.m := rfl
@[go_sem] theorem putH_x : (st.putH h).x = st.x := rfl
@[go_sem] theorem putH_h : (st.putH h).h = h := rfl
end
@[go_sem] theorem upd_eq {α : Type} (f : Nat → α) (i j : Nat) (v : α) : upd f i v j = if j = i then v else f j := rfl
section
variable (args : List IV) (h : Heap) (t : Nat)
@[go_sem] theorem st0_t : (st0 args h).t t = args.getD t .dead := rfl
@[go_sem] theorem st0_m : (st0 args h).m t = none := rfl
@[go_sem] theorem st0_x : (st0 args h).x t = none := rfl
@[go_sem] theorem st0_h : (st0 args h).h = h := rfl
end
@[go_sem] theorem ev_tmp (st : St) (t : Nat) : st.ev (.tmp t) = st.t t := rfl
@[go_sem] theorem ev_const (st : St) (v : Value) : st.ev (.const v) = cv v := rfl
@[go_sem] theorem ev_func (st : St) (f : FuncId) : st.ev (.func f) = .fn (.func f) [] [] := rfl
@[go_sem] theorem cv_bool (b : Bool) : cv (.bool b) = .bool b := rfl
@[go_sem] theorem cv_int (k n) : cv (.int k n) = .int k n := rfl
@[go_sem] theorem cv_string (s) : cv (.string s) = .str s := rfl
@[go_sem] theorem cv_nilptr : cv (.pointer none) = .nilptr := rfl
@[go_sem] theorem cv_nilslice : cv (.slice none 0 0) = .list .tight [] := rfl
@[go_sem] theorem cv_nilmap : cv (.map none) = .nilmap := rfl
@[go_sem] theorem cv_nilfn : cv .nilFunc = .nilfn := rfl
@[go_sem] theorem cv_niliface : cv .nilIface = .niliface := rfl
section
variable (t g o n q u : Nat) (k : IntKind) (i : Int) (c : Bool) (bs : ByteArray) (cs fs : List IV) (rows : List (List IV)) (x : IV)
@[go_sem] theorem strip_row : strip (.list (.row t g) rows) = .list .plain rows := rfl
@[go_sem] theorem strip_plain : strip (.list .plain rows) = .list .plain rows := rfl
@[go_sem] theorem strip_tight : strip (.list .tight rows) = .list .plain rows := rfl
@[go_sem] theorem strip_bool : strip (.bool c) = .bool c := rfl
@[go_sem] theorem strip_int : strip (.int k i) = .int k i := rfl
@[go_sem] theorem strip_str : strip (.str bs) = .str bs := rfl
@[go_sem] theorem strip_agg : strip (.agg cs) = .agg (cs.map strC) := rfl
@[go_sem] theorem strip_tup : strip (.tup cs) = .tup cs := rfl
@[go_sem] theorem strip_nilptr : strip .nilptr = .nilptr := rfl
@[go_sem] theorem strip_ptr : strip (.ptr o n) = .ptr o n := rfl
@[go_sem] theorem strip_eptr : strip (.eptr rows o n) = .eptr rows o n := rfl
@[go_sem] theorem strip_sl : strip (.sl t o n q u) = .sl t o n q u := rfl
@[go_sem] theorem strip_aptr : strip (.aptr t o n q) = .aptr t o n q := rfl
@[go_sem] theorem strip_loc : strip (.loc t g o) = .dead := rfl
@[go_sem] theorem strip_mapv : strip (.mapv n) = .mapv n := rfl
@[go_sem] theorem strip_nilmap : strip .nilmap = .nilmap := rfl
@[go_sem] theorem strip_fn (f : Fn) : strip (.fn f fs cs) = .fn f fs cs := rfl
@[go_sem] theorem strip_nilfn : strip .nilfn = .nilfn := rfl
@[go_sem] theorem strip_iface : strip (.iface t x) = .iface t x := rfl
@[go_sem] theorem strip_niliface : strip .niliface = .niliface := rfl
@[go_sem] theorem stripT_row : stripT (.list (.row t g) rows) = .list .plain rows := rfl
@[go_sem] theorem stripT_plain : stripT (.list .plain rows) = .list .plain rows := rfl
@[go_sem] theorem stripT_bool : stripT (.bool c) = .bool c := rfl
@[go_sem] theorem stripT_int : stripT (.int k i) = .int k i := rfl
@[go_sem] theorem stripT_str : stripT (.str bs) = .str bs := rfl
@[go_sem] theorem stripT_agg : stripT (.agg cs) = .agg (cs.map strT) := rfl
@[go_sem] theorem stripT_tup : stripT (.tup cs) = .tup cs := rfl
@[go_sem] theorem stripT_nilptr : stripT .nilptr = .nilptr := rfl
@[go_sem] theorem stripT_ptr : stripT (.ptr o n) = .ptr o n := rfl
@[go_sem] theorem stripT_eptr : stripT (.eptr rows o n) = .eptr rows o n := rfl
@[go_sem] theorem stripT_sl : stripT (.sl t o n q u) = .sl t o n q u := rfl
@[go_sem] theorem stripT_aptr : stripT (.aptr t o n q) = .aptr t o n q := rfl
@[go_sem] theorem stripT_loc : stripT (.loc t g o) = .dead := rfl
@[go_sem] theorem stripT_mapv : stripT (.mapv n) = .mapv n := rfl
@[go_sem] theorem stripT_nilmap : stripT .nilmap = .nilmap := rfl
@[go_sem] theorem stripT_fn (f : Fn) : stripT (.fn f fs cs) = .fn f fs cs := rfl
@[go_sem] theorem stripT_nilfn : stripT .nilfn = .nilfn := rfl
@[go_sem] theorem stripT_iface : stripT (.iface t x) = .iface t x := rfl
@[go_sem] theorem stripT_niliface : stripT .niliface = .niliface := rfl
@[go_sem] theorem stripT_tight : stripT (.list .tight rows) = .list .tight rows := rfl
@[go_sem] theorem strT_bool : strT (.bool c) = .bool c := rfl
@[go_sem] theorem strT_int : strT (.int k i) = .int k i := rfl
@[go_sem] theorem strT_str : strT (.str bs) = .str bs := rfl
@[go_sem] theorem strT_nilptr : strT .nilptr = .nilptr := rfl
@[go_sem] theorem strT_ptr : strT (.ptr o n) = .ptr o n := rfl
@[go_sem] theorem strT_eptr : strT (.eptr rows o n) = .eptr rows o n := rfl
@[go_sem] theorem strT_aptr : strT (.aptr t o n q) = .aptr t o n q := rfl
@[go_sem] theorem strT_sl : strT (.sl t o n q u) = .sl t o n q u := rfl
@[go_sem] theorem strT_mapv : strT (.mapv n) = .mapv n := rfl
@[go_sem] theorem strT_nilmap : strT .nilmap = .nilmap := rfl
@[go_sem] theorem strT_fn (f : Fn) : strT (.fn f fs cs) = .fn f fs cs := rfl
@[go_sem] theorem strT_nilfn : strT .nilfn = .nilfn := rfl
@[go_sem] theorem strT_iface : strT (.iface t x) = .iface t x := rfl
@[go_sem] theorem strT_niliface : strT .niliface = .niliface := rfl
@[go_sem] theorem strT_loc : strT (.loc t g o) = .loc t g o := rfl
@[go_sem] theorem strT_tight : strT (.list .tight rows) = .list .tight rows := rfl
@[go_sem] theorem strT_plain : strT (.list .plain rows) = .list .plain rows := rfl
@[go_sem] theorem strT_row : strT (.list (.row t g) rows) = .list .plain rows := rfl
@[go_sem] theorem strC_list (tk : Tok) : strC (.list tk rows) = .list .plain rows := rfl
@[go_sem] theorem strC_bool : strC (.bool c) = .bool c := rfl
@[go_sem] theorem strC_int : strC (.int k i) = .int k i := rfl
@[go_sem] theorem strC_str : strC (.str bs) = .str bs := rfl
@[go_sem] theorem strC_nilptr : strC .nilptr = .nilptr := rfl
@[go_sem] theorem strC_ptr : strC (.ptr o n) = .ptr o n := rfl
@[go_sem] theorem strC_eptr : strC (.eptr rows o n) = .eptr rows o n := rfl
@[go_sem] theorem strC_aptr : strC (.aptr t o n q) = .aptr t o n q := rfl
@[go_sem] theorem strC_sl : strC (.sl t o n q u) = .sl t o n q u := rfl
@[go_sem] theorem strC_mapv : strC (.mapv n) = .mapv n := rfl
@[go_sem] theorem strC_nilmap : strC .nilmap = .nilmap := rfl
@[go_sem] theorem strC_fn (f : Fn) : strC (.fn f fs cs) = .fn f fs cs := rfl
@[go_sem] theorem strC_nilfn : strC .nilfn = .nilfn := rfl
@[go_sem] theorem strC_iface : strC (.iface t x) = .iface t x := rfl
@[go_sem] theorem strC_niliface : strC .niliface = .niliface := rfl
@[go_sem] theorem strC_loc : strC (.loc t g o) = .loc t g o := rfl
@[go_sem] theorem icells_agg : icells (.agg cs) = cs := rfl
@[go_sem] theorem icells_int : icells (.int k i) = [.int k i] := rfl
@[go_sem] theorem icells_bool : icells (.bool c) = [.bool c] := rfl
@[go_sem] theorem icells_str : icells (.str bs) = [.str bs] := rfl
@[go_sem] theorem icells_list (tk : Tok) : icells (.list tk rows) = [.list tk rows] := rfl
@[go_sem] theorem icells_ptr : icells (.ptr o n) = [.ptr o n] := rfl
@[go_sem] theorem icells_nilptr : icells .nilptr = [.nilptr] := rfl
@[go_sem] theorem icells_sl : icells (.sl t o n q u) = [.sl t o n q u] := rfl
@[go_sem] theorem icells_aptr : icells (.aptr t o n q) = [.aptr t o n q] := rfl
@[go_sem] theorem icells_fn (f : Fn) : icells (.fn f fs cs) = [.fn f fs cs] := rfl
@[go_sem] theorem icells_iface : icells (.iface t x) = [.iface t x] := rfl
@[go_sem] theorem icells_niliface : icells .niliface = [.niliface] := rfl
@[go_sem] theorem icells_mapv : icells (.mapv n) = [.mapv n] := rfl
@[go_sem] theorem icells_loc : icells (.loc t g o) = [.loc t g o] := rfl
end
attribute [go_sem] okV okL live idxOk xgen ngen calleeOf uni packI

/-- a slice's rows -/
def nK (P : Program) (t : TypeId) (x : IV) (k : List (List IV) → Prop) : Prop := match x, elT P t with | .list _ rows, some _ => k rows | .sl _ _ _ _ _, some _ => k [[]] | _, _ => False
@[congr] theorem nK_congr {P : Program} {t : TypeId} {v v' : IV} {k : List (List IV) → Prop} (h : v = v') : nK P t v k = nK P t v' k := by subst h; rfl
@[go_sem] theorem nK_list (P : Program) (t : TypeId) (tk : Tok) (rows : List (List IV)) (k : List (List IV) → Prop) : nK P t (.list tk rows) k = match elT P t with | some _ => k rows | none => False := by simp only [nK]; cases elT P t <;> rfl
@[go_sem] theorem nK_sl (P : Program) (t : TypeId) (z b o n q : Nat) (k : List (List IV) → Prop) : nK P t (.sl z b o n q) k = match elT P t with | some _ => k [[]] | none => False := by simp only [nK]; cases elT P t <;> rfl
/-- an operation of a drawn region, that is carried out -/
def dop1 (P : Program) (hint : Nat → Nat) (o : Oper) (st : St) (K : St → Prop) (Q : IExit → St → Prop) : Prop :=
  if kd hint o ≤ 1 then ∃ v, (Yld P st o v ∧ own8 hint o st) ∧ K (st.put o.dst v) else sto9 hint o st ∧ iop P hint o st K Q
theorem dop1_pop {P : Program} {hint : Nat → Nat} {o : Oper} {st : St} {K : St → Prop} {Q : IExit → St → Prop} (hk : kd hint o ≤ 1) (hy : ∀ v, Yld P st o v = (pop P st o.op = some v)) (ho : own8 hint o st) : dop1 P hint o st K Q = vK (pop P st o.op) fun v => K (st.put o.dst v) := by
  simp only [dop1, hk, if_true, hy, ho, and_true, vK]
  cases pop P st o.op <;> simp
/-! continuations, without a lambda that simp could enter -/
def putC (K : St → Prop) (st : St) (d : Option Tmp) (v : IV) : Prop := K (st.put d v)
@[go_sem ↓] theorem putC_eq (K : St → Prop) (st : St) (d : Option Tmp) (v : IV) : putC K st d v = K (st.put d v) := rfl
def normC (Q : IExit → St → Prop) (s : St) : Prop := Q .normal s
@[go_sem ↓] theorem normC_eq (Q : IExit → St → Prop) (s : St) : normC Q s = Q .normal s := rfl
def iopsC (P : Program) (hint : Nat → Nat) (all rest : List Oper) (K : St → Prop) (Q : IExit → St → Prop) (s : St) : Prop := iops P hint all rest s K Q
@[go_sem ↓] theorem iopsC_eq (P : Program) (hint : Nat → Nat) (all rest : List Oper) (K : St → Prop) (Q : IExit → St → Prop) (s : St) : iopsC P hint all rest K Q s = iops P hint all rest s K Q := rfl
def dopsC (P : Program) (hint : Nat → Nat) (all rest : List Oper) (K : St → Prop) (Q : IExit → St → Prop) (s : St) : Prop := dops P hint all rest s K Q
@[go_sem ↓] theorem dopsC_eq (P : Program) (hint : Nat → Nat) (all rest : List Oper) (K : St → Prop) (Q : IExit → St → Prop) (s : St) : dopsC P hint all rest K Q s = dops P hint all rest s K Q := rfl
def ifC (P : Program) (hint : Nat → Nat) (a b : Code) (Q : IExit → St → Prop) (st : St) (t : Bool) : Prop := if t = true then iwp P hint a Q st else iwp P hint b Q st
@[go_sem ↓] theorem ifC_true (P : Program) (hint : Nat → Nat) (a b : Code) (Q : IExit → St → Prop) (st : St) : ifC P hint a b Q st true = iwp P hint a Q st := rfl
@[go_sem ↓] theorem ifC_false (P : Program) (hint : Nat → Nat) (a b : Code) (Q : IExit → St → Prop) (st : St) : ifC P hint a b Q st false = iwp P hint b Q st := rfl
def guC (P : Program) (hint : Nat → Nat) (all rest : List Oper) (o : Oper) (dj : Nat) (want : Bool) (st : St) (K : St → Prop) (Q : IExit → St → Prop) (t : Bool) : Prop :=
  if t = want then iop P hint o (st.put (some dj) (.bool t)) (iopsC P hint all rest K Q) Q else iops P hint all rest ((st.put (some dj) (.bool t)).put o.dst (.tup [])) K Q
section
variable (P : Program) (hint : Nat → Nat) (all rest : List Oper) (o : Oper) (dj : Nat) (st : St) (K : St → Prop) (Q : IExit → St → Prop)
@[go_sem ↓] theorem guC_tt : guC P hint all rest o dj true st K Q true = iop P hint o (st.put (some dj) (.bool true)) (iopsC P hint all rest K Q) Q := rfl
@[go_sem ↓] theorem guC_ff : guC P hint all rest o dj false st K Q false = iop P hint o (st.put (some dj) (.bool false)) (iopsC P hint all rest K Q) Q := rfl
@[go_sem ↓] theorem guC_tf : guC P hint all rest o dj true st K Q false = iops P hint all rest ((st.put (some dj) (.bool false)).put o.dst (.tup [])) K Q := rfl
@[go_sem ↓] theorem guC_ft : guC P hint all rest o dj false st K Q true = iops P hint all rest ((st.put (some dj) (.bool true)).put o.dst (.tup [])) K Q := rfl
end
def duC (P : Program) (hint : Nat → Nat) (all rest : List Oper) (o : Oper) (want : Bool) (st : St) (K : St → Prop) (Q : IExit → St → Prop) (t : Bool) : Prop :=
  if t = want then dop1 P hint o st (dopsC P hint all rest K Q) Q else dops P hint all rest (st.put o.dst (.tup [])) K Q
section
variable (P : Program) (hint : Nat → Nat) (all rest : List Oper) (o : Oper) (st : St) (K : St → Prop) (Q : IExit → St → Prop)
@[go_sem ↓] theorem duC_tt : duC P hint all rest o true st K Q true = dop1 P hint o st (dopsC P hint all rest K Q) Q := rfl
@[go_sem ↓] theorem duC_ff : duC P hint all rest o false st K Q false = dop1 P hint o st (dopsC P hint all rest K Q) Q := rfl
@[go_sem ↓] theorem duC_tf : duC P hint all rest o true st K Q false = dops P hint all rest (st.put o.dst (.tup [])) K Q := rfl
@[go_sem ↓] theorem duC_ft : duC P hint all rest o false st K Q true = dops P hint all rest (st.put o.dst (.tup [])) K Q := rfl
end
def retC (K : St → Prop) (Q : IExit → St → Prop) (st : St) (dst : Option Tmp) (ie : IEnd) (h' : Heap) : Prop := match ie with | .ret v => K ((st.putH h').put dst v) | .pan v => Q (.panic v) (st.putH h')
@[go_sem ↓] theorem retC_ret (K : St → Prop) (Q : IExit → St → Prop) (st : St) (dst : Option Tmp) (v : IV) (h' : Heap) : retC K Q st dst (.ret v) h' = K ((st.putH h').put dst v) := rfl
@[go_sem ↓] theorem retC_pan (K : St → Prop) (Q : IExit → St → Prop) (st : St) (dst : Option Tmp) (v : IV) (h' : Heap) : retC K Q st dst (.pan v) h' = Q (.panic v) (st.putH h') := rfl
def callC (P : Program) (st : St) (args : List IV) (dst : Option Tmp) (K : St → Prop) (Q : IExit → St → Prop) (f : FuncId) (first cap : List IV) : Prop := ICall P f (first ++ args ++ cap) st.h (retC K Q st dst)
@[go_sem ↓] theorem callC_eq (P : Program) (st : St) (args : List IV) (dst : Option Tmp) (K : St → Prop) (Q : IExit → St → Prop) (f : FuncId) (first cap : List IV) : callC P st args dst K Q f first cap = ICall P f (first ++ args ++ cap) st.h (retC K Q st dst) := rfl
def appC (K : St → Prop) (st : St) (d : Nat) (r : IV) (xs : Nat → Option (Nat × Nat × TypeId)) : Prop := K ((st.setX xs).put (some d) r)
@[go_sem ↓] theorem appC_eq (K : St → Prop) (st : St) (d : Nat) (r : IV) (xs : Nat → Option (Nat × Nat × TypeId)) : appC K st d r xs = K ((st.setX xs).put (some d) r) := rfl

def rK (v : IV) (k : IV → Prop) : Prop := k v
def dK (v : Option Nat) (k : Nat → Prop) : Prop := match v with | some x => k x | none => False
def bK (v : IV) (k : Bool → Prop) : Prop := match v with | .bool t => condK t k | _ => False
def gK (v : IV) (k : Bool → Prop) (s : St → Prop) (st : St) (dst : Option Tmp) : Prop := match v with | .bool t => condK t k | .tup [] => s (st.put dst (.tup [])) | _ => False
@[congr] theorem gK_congr {v v' : IV} {k : Bool → Prop} {s : St → Prop} {st : St} {dst : Option Tmp} (h : v = v') : gK v k s st dst = gK v' k s st dst := by subst h; rfl
@[go_sem] theorem gK_bool (t : Bool) (k : Bool → Prop) (s : St → Prop) (st : St) (dst : Option Tmp) : gK (.bool t) k s st dst = condK t k := rfl
@[go_sem] theorem gK_und (k : Bool → Prop) (s : St → Prop) (st : St) (dst : Option Tmp) : gK (.tup []) k s st dst = s (st.put dst (.tup [])) := rfl
@[congr] theorem rK_congr {v v' : IV} {k : IV → Prop} (h : v = v') : rK v k = rK v' k := by subst h; rfl
@[congr] theorem vK_congr {v v' : Option IV} {k : IV → Prop} (h : v = v') : vK v k = vK v' k := by subst h; rfl
@[congr] theorem dK_congr {v v' : Option Nat} {k : Nat → Prop} (h : v = v') : dK v k = dK v' k := by subst h; rfl
@[congr] theorem bK_congr {v v' : IV} {k : Bool → Prop} (h : v = v') : bK v k = bK v' k := by subst h; rfl
@[congr] theorem condK_congr {v v' : Bool} {k : Bool → Prop} (h : v = v') : condK v k = condK v' k := by subst h; rfl
@[congr] theorem ICall_congr {P : Program} {f : FuncId} {args args' : List IV} {h h' : Heap} {R : IEnd → Heap → Prop} (ha : args = args') (hh : h = h') : ICall P f args h R = ICall P f args' h' R := by subst ha; subst hh; rfl
@[congr] theorem iwp_congr {P : Program} {hint : Nat → Nat} {c : Code} {Q : IExit → St → Prop} {st st' : St} (h : st = st') : iwp P hint c Q st = iwp P hint c Q st' := by subst h; rfl
@[go_sem] theorem rK_eq (v : IV) (k : IV → Prop) : rK v k = k v := rfl
@[go_sem] theorem vK_some (v : IV) (k : IV → Prop) : vK (some v) k = k v := rfl
@[go_sem] theorem vK_none (k : IV → Prop) : vK none k = False := rfl
@[go_sem] theorem dK_some (v : Nat) (k : Nat → Prop) : dK (some v) k = k v := rfl
@[go_sem] theorem bK_bool (t : Bool) (k : Bool → Prop) : bK (.bool t) k = condK t k := rfl
@[go_sem] theorem condK_true (k : Bool → Prop) : condK true k = k true := by simp [condK]
@[go_sem] theorem condK_false (k : Bool → Prop) : condK false k = k false := by simp [condK]
theorem condK_decide (p : Prop) [Decidable p] (k : Bool → Prop) : condK (decide p) k = ((p → k true) ∧ (¬ p → k false)) := by
  simp only [condK, decide_eq_true_eq, decide_eq_false_iff_not]
theorem condK_eq (a b : Int) (k : Bool → Prop) : condK (a == b) k = ((a = b → k true) ∧ (¬ a = b → k false)) := by simp [condK]
theorem condK_ne (a b : Int) (k : Bool → Prop) : condK (a != b) k = ((a ≠ b → k true) ∧ (a = b → k false)) := by simp [condK, bne]
theorem condK_not (b : Bool) (k : Bool → Prop) : condK (!b) k = condK b (fun t => k (!t)) := by cases b <;> simp [condK]

section
variable (P : Program) (hint : Nat → Nat) (Q : IExit → St → Prop) (st : St)
@[go_sem ↓] theorem iwp_skip : iwp P hint .skip Q st = Q .normal st := rfl
@[go_sem ↓] theorem iwp_region (id : Nat) (ops : Array Oper) : iwp P hint (.region id ops false) Q st = iops P hint ops.toList ops.toList st (normC Q) Q := rfl
@[go_sem ↓] theorem iwp_seq (a b : Code) : iwp P hint (.seq a b) Q st = iwp P hint a (seqQ (iwp P hint b Q) Q) st := rfl
@[go_sem ↓] theorem iwp_block (id : Nat) (a : Code) : iwp P hint (.block id a) Q st = iwp P hint a (blockQ id Q) st := rfl
@[go_sem ↓] theorem iwp_exit (id : Nat) : iwp P hint (.exit id) Q st = Q (.exit id) st := rfl
@[go_sem ↓] theorem iwp_scope (a : Code) : iwp P hint (.scope a) Q st = iwp P hint a Q st := rfl
@[go_sem ↓] theorem iwp_ret : iwp P hint .ret Q st = Q .ret st := rfl
@[go_sem ↓] theorem iwp_cond (x : Operand) (a b : Code) : iwp P hint (.cond x a b) Q st = bK (st.ev x) (ifC P hint a b Q st) := rfl
@[go_sem ↓] theorem seqQ_normal (k : St → Prop) : seqQ k Q .normal st = k st := rfl
@[go_sem ↓] theorem seqQ_exit (k : St → Prop) (i : Nat) : seqQ k Q (.exit i) st = Q (.exit i) st := rfl
@[go_sem ↓] theorem seqQ_ret (k : St → Prop) : seqQ k Q .ret st = Q .ret st := rfl
@[go_sem ↓] theorem seqQ_panic (k : St → Prop) (v : IV) : seqQ k Q (.panic v) st = Q (.panic v) st := rfl
@[go_sem ↓] theorem blockQ_normal (id : Nat) : blockQ id Q .normal st = Q .normal st := rfl
@[go_sem ↓] theorem blockQ_ret (id : Nat) : blockQ id Q .ret st = Q .ret st := rfl
@[go_sem ↓] theorem blockQ_panic (id : Nat) (v : IV) : blockQ id Q (.panic v) st = Q (.panic v) st := rfl
@[go_sem ↓] theorem blockQ_exit (id i : Nat) : blockQ id Q (.exit i) st = if i = id then Q .normal st else Q (.exit i) st := rfl
variable (R : IEnd → Heap → Prop) (rs : List ResultVar)
@[go_sem ↓] theorem ipost_normal : ipost P rs R .normal st = vK ((ires P st rs).map packI) fun v => ∃ h', Sub h' st.h ∧ R (.ret v) h' := rfl
@[go_sem ↓] theorem ipost_ret : ipost P rs R .ret st = vK ((ires P st rs).map packI) fun v => ∃ h', Sub h' st.h ∧ R (.ret v) h' := rfl
@[go_sem ↓] theorem ipost_panic (v : IV) : ipost P rs R (.panic v) st = ∃ h', Sub h' st.h ∧ R (.pan v) h' := rfl
@[go_sem ↓] theorem ipost_exit (i : Nat) : ipost P rs R (.exit i) st = False := rfl
@[go_sem] theorem ires_nil : ires P st [] = some [] := rfl
@[go_sem] theorem ires_tmp (t : Nat) : ires P st (.tmp t :: rs) = (ires P st rs).map (strip (st.t t) :: ·) := rfl
@[go_sem] theorem ires_cell (t : Nat) (ty : TypeId) : ires P st (.cell t ty :: rs) = match pop P st (.load ty (.tmp t)) with | some v => (ires P st rs).map (strip v :: ·) | none => none := rfl

@[go_sem ↓] theorem dpost_normal (fd : FuncId) (cap : List IV) : dpost P rs fd cap R .normal st = ICallD P fd cap none st.h fun h1 => vK ((ires P (st.putH h1) rs).map packI) fun v => ∃ h', Sub h' h1 ∧ R (.ret v) h' := rfl
@[go_sem ↓] theorem dpost_ret (fd : FuncId) (cap : List IV) : dpost P rs fd cap R .ret st = ICallD P fd cap none st.h fun h1 => vK ((ires P (st.putH h1) rs).map packI) fun v => ∃ h', Sub h' h1 ∧ R (.ret v) h' := rfl
@[go_sem ↓] theorem dpost_panic (fd : FuncId) (cap : List IV) (v : IV) : dpost P rs fd cap R (.panic v) st = ICallD P fd cap (some v) st.h fun h1 => vK ((ires P (st.putH h1) rs).map packI) fun v => ∃ h', Sub h' h1 ∧ R (.ret v) h' := rfl
@[go_sem ↓] theorem dpost_exit (fd : FuncId) (cap : List IV) (i : Nat) : dpost P rs fd cap R (.exit i) st = False := rfl
@[go_sem ↓] theorem endD_normal (R : Heap → Prop) : endD R .normal st = ∃ h', Sub h' st.h ∧ R h' := rfl
@[go_sem ↓] theorem endD_ret (R : Heap → Prop) : endD R .ret st = ∃ h', Sub h' st.h ∧ R h' := rfl
@[go_sem ↓] theorem endD_panic (R : Heap → Prop) (v : IV) : endD R (.panic v) st = False := rfl
@[go_sem ↓] theorem endD_exit (R : Heap → Prop) (i : Nat) : endD R (.exit i) st = False := rfl
attribute [go_sem] isPtrV

variable (all rest : List Oper) (K : St → Prop) (dst : Option Tmp) (op : Op) (ty : TypeId) (pos : String) (after : Array Edge) (guard : Option (Nat × Bool))
@[go_sem ↓] theorem iops_nil : iops P hint all [] st K Q = K st := rfl
@[go_sem ↓] theorem iops_none : iops P hint all (⟨dst, op, ty, pos, after, none⟩ :: rest) st K Q = iop P hint ⟨dst, op, ty, pos, after, none⟩ st (iopsC P hint all rest K Q) Q := rfl
@[go_sem ↓] theorem iops_some (j : Nat) (want : Bool) : iops P hint all (⟨dst, op, ty, pos, after, some (j, want)⟩ :: rest) st K Q =
    dK ((all[j]?).bind (·.dst)) fun dj => gK (st.t dj) (guC P hint all rest ⟨dst, op, ty, pos, after, some (j, want)⟩ dj want st K Q) (iopsC P hint all rest K Q) st dst := by
  simp only [iops, dK, gK]
  cases (all[j]?).bind (·.dst) <;> rfl
@[go_sem ↓] theorem iop_move (x : Operand) : iop P hint ⟨dst, .move x, ty, pos, after, guard⟩ st K Q = imv hint dst st (st.ev x) K := rfl
@[go_sem ↓] theorem iop_assign (x : Operand) : iop P hint ⟨dst, .assign x, ty, pos, after, guard⟩ st K Q = imv hint dst st (st.ev x) K := rfl
@[go_sem ↓] theorem iop_pick (x y z : Operand) : iop P hint ⟨dst, .pick x y z, ty, pos, after, guard⟩ st K Q = vK (pop P st (.pick x y z)) (putC K st dst) := rfl
@[go_sem ↓] theorem iop_build (t : TypeId) (ps) : iop P hint ⟨dst, .build t ps, ty, pos, after, guard⟩ st K Q = vK (pop P st (.build t ps)) (putC K st dst) := rfl
@[go_sem ↓] theorem iop_load (t : TypeId) (x) : iop P hint ⟨dst, .load t x, ty, pos, after, guard⟩ st K Q = vK (pop P st (.load t x)) (putC K st dst) := rfl
@[go_sem ↓] theorem iop_binOp_tmp (o : BinOp) (t : TypeId) (x : Operand) (y : Tmp) (t2) : iop P hint ⟨dst, .binOp o t x (.tmp y) t2, ty, pos, after, guard⟩ st K Q = vK (pop P st (.binOp o t x (.tmp y) t2)) (putC K st dst) := rfl
@[go_sem ↓] theorem iop_binOp_int (o : BinOp) (t : TypeId) (x : Operand) (k n t2) : iop P hint ⟨dst, .binOp o t x (.const (.int k n)) t2, ty, pos, after, guard⟩ st K Q = vK (pop P st (.binOp o t x (.const (.int k n)) t2)) (putC K st dst) := rfl
@[go_sem ↓] theorem iop_binOp_bool (o : BinOp) (t : TypeId) (x : Operand) (b t2) : iop P hint ⟨dst, .binOp o t x (.const (.bool b)) t2, ty, pos, after, guard⟩ st K Q = vK (pop P st (.binOp o t x (.const (.bool b)) t2)) (putC K st dst) := rfl
@[go_sem ↓] theorem iop_binOp_str (o : BinOp) (t : TypeId) (x : Operand) (b t2) : iop P hint ⟨dst, .binOp o t x (.const (.string b)) t2, ty, pos, after, guard⟩ st K Q = vK (pop P st (.binOp o t x (.const (.string b)) t2)) (putC K st dst) := rfl
@[go_sem ↓] theorem iop_binOp_ptr (o : BinOp) (t : TypeId) (x : Operand) (t2) : iop P hint ⟨dst, .binOp o t x (.const (.pointer none)) t2, ty, pos, after, guard⟩ st K Q = vK (pop P st (.binOp o t x (.const (.pointer none)) t2)) (putC K st dst) := rfl
@[go_sem ↓] theorem iop_binOp_iface (o : BinOp) (t : TypeId) (x : Operand) (t2) : iop P hint ⟨dst, .binOp o t x (.const .nilIface) t2, ty, pos, after, guard⟩ st K Q = vK (pop P st (.binOp o t x (.const .nilIface) t2)) (putC K st dst) := rfl
@[go_sem ↓] theorem iop_binOp_fn (o : BinOp) (t : TypeId) (x : Operand) (t2) : iop P hint ⟨dst, .binOp o t x (.const .nilFunc) t2, ty, pos, after, guard⟩ st K Q = vK (pop P st (.binOp o t x (.const .nilFunc) t2)) (putC K st dst) := rfl
@[go_sem ↓] theorem iop_binOp_agg (o : BinOp) (t : TypeId) (x : Operand) (cs t2) : iop P hint ⟨dst, .binOp o t x (.const (.agg cs)) t2, ty, pos, after, guard⟩ st K Q = vK (pop P st (.binOp o t x (.const (.agg cs)) t2)) (putC K st dst) := rfl
@[go_sem ↓] theorem iop_binOp_map (o : BinOp) (t : TypeId) (x : Operand) (t2) : iop P hint ⟨dst, .binOp o t x (.const (.map none)) t2, ty, pos, after, guard⟩ st K Q = vK (pop P st (.binOp o t x (.const (.map none)) t2)) (putC K st dst) := rfl
@[go_sem ↓] theorem iop_binOp_eqnil (t : TypeId) (x : Operand) (t2) : iop P hint ⟨dst, .binOp .eql t x (.const (.slice none 0 0)) t2, ty, pos, after, guard⟩ st K Q = nK P t (st.ev x) fun rows => ∀ r : Bool, (r = true → rows = []) → K (st.put dst (.bool r)) := by
  simp only [iop, nK, nilSl]; cases st.ev x <;> simp [pop, ibn, eqv, ibin, cv, St.ev, vK, strip, isC] <;> cases elT P t <;> simp [vK]
@[go_sem ↓] theorem iop_binOp_nenil (t : TypeId) (x : Operand) (t2) : iop P hint ⟨dst, .binOp .neq t x (.const (.slice none 0 0)) t2, ty, pos, after, guard⟩ st K Q = nK P t (st.ev x) fun rows => ∀ r : Bool, (r = true → rows = []) → K (st.put dst (.bool (!r))) := by
  simp only [iop, nK, nilSl]; cases st.ev x <;> simp [pop, ibn, eqv, ibin, cv, St.ev, vK, strip, isC] <;> cases elT P t <;> simp [vK]
@[go_sem ↓] theorem iop_unOp (o : UnOp) (t : TypeId) (x) : iop P hint ⟨dst, .unOp o t x, ty, pos, after, guard⟩ st K Q = vK (pop P st (.unOp o t x)) (putC K st dst) := rfl
@[go_sem ↓] theorem iop_makeInterface (t : TypeId) (x) : iop P hint ⟨dst, .makeInterface t x, ty, pos, after, guard⟩ st K Q = vK (pop P st (.makeInterface t x)) (putC K st dst) := rfl
@[go_sem ↓] theorem iop_makeFunc (f a c) : iop P hint ⟨dst, .makeFunc f a c, ty, pos, after, guard⟩ st K Q = vK (pop P st (.makeFunc f a c)) (putC K st dst) := rfl
@[go_sem ↓] theorem iop_slice (t : TypeId) (x lo hi mx) : iop P hint ⟨dst, .slice t x lo hi mx, ty, pos, after, guard⟩ st K Q = vK (pop P st (.slice t x lo hi mx)) (putC K st dst) := rfl
@[go_sem ↓] theorem iop_fieldAddr (t : TypeId) (x f) : iop P hint ⟨dst, .fieldAddr t x f, ty, pos, after, guard⟩ st K Q = vK (pop P st (.fieldAddr t x f)) (putC K st dst) := rfl
@[go_sem ↓] theorem iop_indexAddr (t : TypeId) (x f) : iop P hint ⟨dst, .indexAddr t x f, ty, pos, after, guard⟩ st K Q = vK (pop P st (.indexAddr t x f)) (putC K st dst) := rfl
@[go_sem ↓] theorem iop_index (t : TypeId) (x f) : iop P hint ⟨dst, .index t x f, ty, pos, after, guard⟩ st K Q = vK (pop P st (.index t x f)) (putC K st dst) := rfl
@[go_sem ↓] theorem iop_field (t x f) : iop P hint ⟨dst, .field t x f, ty, pos, after, guard⟩ st K Q = vK (pop P st (.field t x f)) (putC K st dst) := rfl
@[go_sem ↓] theorem iop_extract (x i) : iop P hint ⟨dst, .extract x i, ty, pos, after, guard⟩ st K Q = vK (pop P st (.extract x i)) (putC K st dst) := rfl
@[go_sem ↓] theorem iop_nilCheck (x) : iop P hint ⟨dst, .nilCheck x, ty, pos, after, guard⟩ st K Q = vK (pop P st (.nilCheck x)) (putC K st dst) := rfl
@[go_sem ↓] theorem iop_len (a t) (hd : dst.any (hint · = 11) = false) : iop P hint ⟨dst, .call ⟨.builtin .len, a, t⟩, ty, pos, after, guard⟩ st K Q = vK (pop P st (.call ⟨.builtin .len, a, t⟩)) (putC K st dst) := by
  simp only [iop, hd]; rfl
@[go_sem ↓] theorem iop_lenM (a t) (hd : dst.any (hint · = 11) = true) : iop P hint ⟨dst, .call ⟨.builtin .len, a, t⟩, ty, pos, after, guard⟩ st K Q = match lenM P st ⟨.builtin .len, a, t⟩ with
    | some n => K (st.put dst (.int .i64 n))
    | none => False := by
  simp only [iop, hd]; rfl
@[go_sem ↓] theorem iop_max (a t) : iop P hint ⟨dst, .call ⟨.builtin .max, a, t⟩, ty, pos, after, guard⟩ st K Q = vK (pop P st (.call ⟨.builtin .max, a, t⟩)) (putC K st dst) := rfl
@[go_sem ↓] theorem iop_min (a t) : iop P hint ⟨dst, .call ⟨.builtin .min, a, t⟩, ty, pos, after, guard⟩ st K Q = vK (pop P st (.call ⟨.builtin .min, a, t⟩)) (putC K st dst) := rfl
@[go_sem ↓] theorem iop_box (d : Nat) (e : TypeId) (x : Operand) : iop P hint ⟨some d, .box e x, ty, pos, after, guard⟩ st K Q =
    rK (st.ev x) fun v => if hint d = 1 then okV (stripT v) = true ∧ ∀ b, st.h b = none → K ((st.setH b (.cells (icells (stripT v)))).put (some d) (.ptr b 0))
      else okL st v = true ∧ rK (.loc d (ngen st d) 0) fun l => K ((st.setM d (ngen st d, icells v)).put (some d) l) := rfl
@[go_sem ↓] theorem iop_alloc (d : Nat) (e : TypeId) : iop P hint ⟨some d, .alloc e, ty, pos, after, guard⟩ st K Q =
    match zeT P e with
    | some z => (z.cells.toList.all fun u => u.oneCell') = true ∧ if hint d = 1 then ∀ b, st.h b = none → K ((st.setH b (.cells (z.cells.toList.map cv))).put (some d) (.ptr b 0))
      else rK (.loc d (ngen st d) 0) fun l => K ((st.setM d (ngen st d, z.cells.toList.map cv)).put (some d) l)
    | none => False := by simp only [iop]; cases zeT P e <;> rfl
@[go_sem ↓] theorem iop_buildSlice (t : TypeId) (len : Nat) (parts) (h17 : dst.any (hint · = 17) = false) : iop P hint ⟨dst, .buildSlice t len parts, ty, pos, after, guard⟩ st K Q =
    dK ((elT P t).bind (elZ P)) fun z =>
      len = parts.size ∧ len * z ≤ 16777216 ∧ idxOk 0 parts.toList = true ∧
      (parts.toList.all fun p => okV (strip (st.ev p.2))) = true ∧ uni z (parts.toList.map fun p => icells (strip (st.ev p.2))) = true ∧
      rK (.list .tight (parts.toList.map fun p => icells (strip (st.ev p.2)))) (putC K st dst) := by
  simp only [iop, dK, h17, Bool.false_eq_true, if_false]; cases (elT P t).bind (elZ P) <;> rfl
def sK (P : Program) (st : St) (t : TypeId) (a v : IV) (K : St → Prop) (dst : Option Tmp) : Prop :=
  match szT P t, a with
  | some z, .loc s g off =>
    match st.m s with
    | some (g', cs) => g = g' ∧ okL st v = true ∧ (icells v).length = z ∧ off + z ≤ cs.length ∧ K ((st.setM s (g', splice cs off (icells v))).put dst .dead)
    | none => False
  | some z, .ptr b off =>
    match st.h b with
    | some (.cells cs) => okV (stripT v) = true ∧ (icells (stripT v)).length = z ∧ off + z ≤ cs.length ∧ K ((st.setH b (.cells (splice cs off (icells (stripT v))))).put dst .dead)
    | _ => False
  | some z, .aptr z' b i off =>
    match st.h b with
    | some (.arr e zz rows tot) =>
      match rows[i]? with
      | some r => z' = zz ∧ okV (strip v) = true ∧ (icells (strip v)).length = z ∧ off + z ≤ zz ∧ K ((st.setH b (.arr e zz (rows.set i (splice r off (icells (strip v)))) tot)).put dst .dead)
      | none => False
    | _ => False
  | _, _ => False
@[congr] theorem sK_congr {P : Program} {st : St} {t : TypeId} {a a' v v' : IV} {K : St → Prop} {dst : Option Tmp} (h1 : a = a') (h2 : v = v') : sK P st t a v K dst = sK P st t a' v' K dst := by subst h1; subst h2; rfl
@[go_sem ↓] theorem iop_store (t : TypeId) (a x : Operand) : iop P hint ⟨dst, .store t a x, ty, pos, after, guard⟩ st K Q = sK P st t (st.ev a) (st.ev x) K dst := rfl
def mK (v : Option (Nat × List IV)) (k : Nat → List IV → Prop) : Prop := match v with | some (g, cs) => k g cs | none => False
@[congr] theorem mK_congr {v v' : Option (Nat × List IV)} {k : Nat → List IV → Prop} (h : v = v') : mK v k = mK v' k := by subst h; rfl
@[go_sem] theorem mK_some (g : Nat) (cs : List IV) (k : Nat → List IV → Prop) : mK (some (g, cs)) k = k g cs := rfl
def lK (v : List IV) (k : List IV → Prop) : Prop := k v
@[congr] theorem lK_congr {v v' : List IV} {k : List IV → Prop} (h : v = v') : lK v k = lK v' k := by subst h; rfl
@[go_sem] theorem lK_eq (v : List IV) (k : List IV → Prop) : lK v k = k v := rfl
@[go_sem] theorem sK_loc (t : TypeId) (s g off : Nat) (v : IV) : sK P st t (.loc s g off) v K dst = dK (szT P t) fun z => mK (st.m s) fun g' cs =>
    g = g' ∧ okL st v = true ∧ (icells v).length = z ∧ off + z ≤ cs.length ∧ lK (splice cs off (icells v)) fun c => K ((st.setM s (g', c)).put dst .dead) := by
  unfold sK dK mK lK
  cases szT P t with
  | none => rfl
  | some z => simp only
def oK (v : Option IObj) (k : List IV → Prop) : Prop := match v with | some (.cells cs) => k cs | _ => False
@[congr] theorem oK_congr {v v' : Option IObj} {k : List IV → Prop} (h : v = v') : oK v k = oK v' k := by subst h; rfl
@[go_sem] theorem oK_some (cs : List IV) (k : List IV → Prop) : oK (some (.cells cs)) k = k cs := rfl
@[go_sem] theorem sK_ptr (t : TypeId) (b off : Nat) (v : IV) : sK P st t (.ptr b off) v K dst = dK (szT P t) fun z => oK (st.h b) fun cs =>
    okV (stripT v) = true ∧ (icells (stripT v)).length = z ∧ off + z ≤ cs.length ∧ lK (splice cs off (icells (stripT v))) fun c => K ((st.setH b (.cells c)).put dst .dead) := by
  unfold sK dK oK lK
  cases szT P t with
  | none => rfl
  | some z => simp only
def rrK (v : Option (List IV)) (k : List IV → Prop) : Prop := match v with | some x => k x | none => False
@[congr] theorem rrK_congr {v v' : Option (List IV)} {k : List IV → Prop} (h : v = v') : rrK v k = rrK v' k := by subst h; rfl
@[go_sem] theorem rrK_some (v : List IV) (k : List IV → Prop) : rrK (some v) k = k v := rfl
def arK (v : Option IObj) (k : TypeId → Nat → List (List IV) → Nat → Prop) : Prop := match v with | some (.arr e z rows tot) => k e z rows tot | _ => False
@[congr] theorem arK_congr {v v' : Option IObj} {k : TypeId → Nat → List (List IV) → Nat → Prop} (h : v = v') : arK v k = arK v' k := by subst h; rfl
@[go_sem] theorem arK_some (e z rows tot) (k : TypeId → Nat → List (List IV) → Nat → Prop) : arK (some (.arr e z rows tot)) k = k e z rows tot := rfl
@[go_sem] theorem sK_aptr (t : TypeId) (z' b i off : Nat) (v : IV) : sK P st t (.aptr z' b i off) v K dst = dK (szT P t) fun z => arK (st.h b) fun e zz rows tot => rrK rows[i]? fun r =>
    z' = zz ∧ okV (strip v) = true ∧ (icells (strip v)).length = z ∧ off + z ≤ zz ∧ lK (splice r off (icells (strip v))) fun c => K ((st.setH b (.arr e zz (rows.set i c) tot)).put dst .dead) := by
  unfold sK dK arK lK rrK
  cases szT P t with
  | none => rfl
  | some z => rfl
@[go_sem ↓] theorem imv_eq (d : Tmp) (x : IV) (hd : hint d ≠ 3) (h1 : ¬ 100 ≤ hint d) : imv hint (some d) st x K = rK x fun v => K (st.put (some d) v) := by
  have : (some d).all (fun d => decide (hint d ≠ 3)) = true := by simp [hd]
  have h2 : (some d).any (fun d => decide (100 ≤ hint d)) = false := by simp only [Option.any_some, decide_eq_false_iff_not]; exact h1
  simp only [imv, this, h2, Bool.false_eq_true, if_false, if_true, rK]
@[go_sem ↓] theorem imv_none (x : IV) : imv hint none st x K = K st := rfl
def drop1 (st : St) (b : Nat) : St := { st with h := fun j => if j = b then none else st.h j }
@[go_sem] theorem drop1_t (b : Nat) : (drop1 st b).t = st.t := rfl
@[go_sem] theorem drop1_m (b : Nat) : (drop1 st b).m = st.m := rfl
@[go_sem] theorem drop1_x (b : Nat) : (drop1 st b).x = st.x := rfl
@[go_sem] theorem drop1_h (b j : Nat) : (drop1 st b).h j = if j = b then none else st.h j := rfl
def fK (x : IV) (st : St) (d : Option Tmp) (K : St → Prop) : Prop :=
  match x with
  | .sl z b off n _ => arK (st.h b) fun _ z' rows _ => (z = z' ∧ off + n ≤ rows.length) ∧ K ((drop1 st b).put d (.list .plain ((rows.drop off).take n)))
  | x => K (st.put d x)
@[congr] theorem fK_congr {x x' : IV} {d : Option Tmp} (h : x = x') : fK x st d K = fK x' st d K := by subst h; rfl
@[go_sem ↓] theorem imv_freeze (d : Tmp) (x : IV) (hd : hint d = 3) : imv hint (some d) st x K = fK x st (some d) K := by
  have : (some d).all (fun d => decide (hint d ≠ 3)) = false := by simp [hd]
  have h2 : (some d).any (fun d => decide (100 ≤ hint d)) = false := by simp [hd]
  simp only [imv, this, h2, Bool.false_eq_true, if_false, fK, arK, drop1]
  cases x <;> first | rfl | skip
def fcK (st : St) (o k : Nat) (cs : List IV) (c : Option IV) (d : Option Tmp) (K : St → Prop) : Prop :=
  match c with
  | some (.sl z b off n _) => arK (st.h b) fun _ z' rows _ => (z = z' ∧ off + n ≤ rows.length) ∧ K (((drop1 st b).setH o (.cells (cs.set k (.list .plain ((rows.drop off).take n))))).put d (.ptr o 0))
  | some _ => K (st.put d (.ptr o 0))
  | none => False
@[congr] theorem fcK_congr {o k k' : Nat} {cs cs' : List IV} {c c' : Option IV} {d : Option Tmp} (h0 : k = k') (h1 : cs = cs') (h : c = c') : fcK st o k cs c d K = fcK st o k' cs' c' d K := by subst h0; subst h1; subst h; rfl
@[go_sem] theorem fcK_sl (o k : Nat) (cs : List IV) (d : Option Tmp) (z b off n c : Nat) : fcK st o k cs (some (.sl z b off n c)) d K = arK (st.h b) fun _ z' rows _ => (z = z' ∧ off + n ≤ rows.length) ∧ lK (cs.set k (.list .plain ((rows.drop off).take n))) fun c => K (((drop1 st b).setH o (.cells c)).put d (.ptr o 0)) := rfl
@[go_sem] theorem fcK_list (o k : Nat) (cs : List IV) (d : Option Tmp) (tk rows) : fcK st o k cs (some (.list tk rows)) d K = K (st.put d (.ptr o 0)) := rfl
def ffK (k : Nat) (st : St) (x : IV) (d : Option Tmp) (K : St → Prop) : Prop := imf k st x d K
@[congr] theorem ffK_congr {k k' : Nat} {x x' : IV} {d : Option Tmp} (h0 : k = k') (h : x = x') : ffK k st x d K = ffK k' st x' d K := by subst h0; subst h; rfl
theorem ffK_ptr (k o : Nat) (d : Option Tmp) : ffK k st (.ptr o 0) d K = oK (st.h o) fun cs => fcK st o k cs cs[k]? d K := by
  simp only [ffK, imf, oK, fcK, arK, drop1, St.setH]
  cases st.h o with
  | none => rfl
  | some ob =>
    cases ob with
    | cells cs => cases cs[k]? with | none => rfl | some c => cases c <;> rfl
    | _ => rfl
@[go_sem ↓] theorem imv_field (d : Tmp) (x : IV) (hd : 100 ≤ hint d) : imv hint (some d) st x K = ffK (hint d - 100) st x (some d) K := by
  have h2 : (some d).any (fun d => decide (100 ≤ hint d)) = true := by simp [hd]
  simp only [imv, h2, if_true, ffK]
@[go_sem] theorem fK_sl (d : Option Tmp) (z b off n c : Nat) : fK (.sl z b off n c) st d K = arK (st.h b) fun _ z' rows _ => (z = z' ∧ off + n ≤ rows.length) ∧ rK (.list .plain ((rows.drop off).take n)) fun v => K ((drop1 st b).put d v) := rfl
@[go_sem] theorem fK_list (d : Option Tmp) (tk rows) : fK (.list tk rows) st d K = K (st.put d (.list tk rows)) := rfl
@[go_sem ↓] theorem iop_panic (x : Operand) : iop P hint ⟨dst, .panic x, ty, pos, after, guard⟩ st K Q = rK (st.ev x) fun v => match v with | .iface t y => Q (.panic (.iface t y)) st | _ => False := by
  simp only [iop, rK]; cases st.ev x <;> rfl
def cK (v : Option (FuncId × List IV × List IV)) (k : FuncId → List IV → List IV → Prop) : Prop := match v with | some (f, a, b) => k f a b | none => False
@[congr] theorem cK_congr {v v' : Option (FuncId × List IV × List IV)} {k : FuncId → List IV → List IV → Prop} (h : v = v') : cK v k = cK v' k := by subst h; rfl
@[go_sem] theorem cK_some (f a b) (k : FuncId → List IV → List IV → Prop) : cK (some (f, a, b)) k = k f a b := rfl
@[go_sem] theorem sa_false (x : IV) : sa false x = strip x := rfl
@[go_sem] theorem sa_tight (rows : List (List IV)) : sa true (.list .tight rows) = .list .tight rows := rfl
@[go_sem] theorem sa_plain (rows : List (List IV)) : sa true (.list .plain rows) = .list .plain rows := rfl
@[go_sem] theorem sa_row (t g : Nat) (rows : List (List IV)) : sa true (.list (.row t g) rows) = .list .plain rows := rfl
@[go_sem] theorem sa_agg (cs : List IV) : sa true (.agg cs) = .agg (cs.map strC) := rfl
@[go_sem] theorem sa_fn (f : Fn) (a b : List IV) : sa true (.fn f a b) = .fn f a b := rfl
@[go_sem] theorem sa_ptr (b o : Nat) : sa true (.ptr b o) = .ptr b o := rfl
@[go_sem] theorem sa_bool (b : Bool) : sa true (.bool b) = .bool b := rfl
@[go_sem] theorem sa_str (b : ByteArray) : sa true (.str b) = .str b := rfl
@[go_sem] theorem sa_mapv (b : Nat) : sa true (.mapv b) = .mapv b := rfl
@[go_sem] theorem sa_nilmap  : sa true (.nilmap) = .nilmap := rfl
@[go_sem] theorem sa_iface (t : TypeId) (v : IV) : sa true (.iface t v) = .iface t v := rfl
@[go_sem] theorem sa_nilptr  : sa true (.nilptr) = .nilptr := rfl
@[go_sem] theorem sa_nilfn  : sa true (.nilfn) = .nilfn := rfl
@[go_sem] theorem sa_niliface  : sa true (.niliface) = .niliface := rfl
@[go_sem] theorem sa_sl (z b o n c : Nat) : sa true (.sl z b o n c) = .sl z b o n c := rfl
@[go_sem] theorem sa_eptr (rows : List (List IV)) (i o : Nat) : sa true (.eptr rows i o) = .eptr rows i o := rfl
@[go_sem] theorem sa_aptr (z b i o : Nat) : sa true (.aptr z b i o) = .aptr z b i o := rfl
@[go_sem] theorem sa_int (k : IntKind) (n : Int) : sa true (.int k n) = .int k n := rfl
@[go_sem ↓] theorem iop_call_none (f : Operand) (args tys) : iop P hint ⟨none, .call ⟨.value f, args, tys⟩, ty, pos, after, guard⟩ st K Q =
    cK (calleeOf st f) (callC P st (args.toList.map fun x => strip (st.ev x)) none K Q) := by
  simp only [iop, cK, Option.any_none, growR_false, Bool.false_eq_true, if_false]; cases calleeOf st f <;> rfl
@[go_sem ↓] theorem iop_call (d : Tmp) (hd : hint d ≠ 5) (hd2 : hint d ≠ 10) (hd3 : hint d ≠ 13) (f : Operand) (args tys) : iop P hint ⟨some d, .call ⟨.value f, args, tys⟩, ty, pos, after, guard⟩ st K Q =
    cK (calleeOf st f) (callC P st (args.toList.map fun x => strip (st.ev x)) (some d) K Q) := by
  have h5 : ((some d).any fun x => decide (hint x = 5)) = false := by simp [hd]
  have h10 : ((some d).any fun x => decide (hint x = 10)) = false := by simp [hd2]
  have h13 : ((some d).any fun x => decide (hint x = 13)) = false := by simp [hd3]
  simp only [iop, cK, h5, h10, h13, growR_false, Bool.false_eq_true, if_false]; cases calleeOf st f <;> rfl
@[go_sem ↓] theorem iop_call_tight (d : Tmp) (hd : hint d = 5) (f : Operand) (args tys) : iop P hint ⟨some d, .call ⟨.value f, args, tys⟩, ty, pos, after, guard⟩ st K Q =
    cK (calleeOf st f) (callC P st (args.toList.map fun x => sa true (st.ev x)) (some d) K Q) := by
  have h5 : ((some d).any fun x => decide (hint x = 5)) = true := by simp [hd]
  have h10 : ((some d).any fun x => decide (hint x = 10)) = false := by simp [hd]
  have h13 : ((some d).any fun x => decide (hint x = 13)) = false := by simp [hd]
  simp only [iop, cK, h5, h10, h13, growR_false, Bool.false_eq_true, if_false]; cases calleeOf st f <;> rfl
@[go_sem ↓] theorem iop_call_ext (d : Tmp) (hd : hint d = 13) (f : Operand) (args tys) : iop P hint ⟨some d, .call ⟨.value f, args, tys⟩, ty, pos, after, guard⟩ st K Q =
    cK (calleeOf st f) fun f first cap => ∃ v, ECall P f (first ++ (args.toList.map fun x => strip (st.ev x)) ++ cap) st.h v ∧ K (st.put (some d) v) := by
  have h13 : ((some d).any fun x => decide (hint x = 13)) = true := by simp [hd]
  simp only [iop, cK, h13, if_true]; cases calleeOf st f <;> rfl
def callG (P : Program) (st : St) (args : List IV) (dst : Option Tmp) (K : St → Prop) (Q : IExit → St → Prop) (f : FuncId) (first cap : List IV) : Prop := ICall P f (first ++ args ++ cap) st.h fun ie h' => Sub st.h h' ∧ retC K Q st dst ie h'
@[go_sem ↓] theorem callG_eq (P : Program) (st : St) (args : List IV) (dst : Option Tmp) (K : St → Prop) (Q : IExit → St → Prop) (f : FuncId) (first cap : List IV) : callG P st args dst K Q f first cap = ICall P f (first ++ args ++ cap) st.h fun ie h' => Sub st.h h' ∧ retC K Q st dst ie h' := rfl
@[go_sem ↓] theorem iop_call_grow (d : Tmp) (hd : hint d = 10) (f : Operand) (args tys) : iop P hint ⟨some d, .call ⟨.value f, args, tys⟩, ty, pos, after, guard⟩ st K Q =
    cK (calleeOf st f) (callG P st (args.toList.map fun x => strip (st.ev x)) (some d) K Q) := by
  have h5 : ((some d).any fun x => decide (hint x = 5)) = false := by simp [hd]
  have h10 : ((some d).any fun x => decide (hint x = 10)) = true := by simp [hd]
  have h13 : ((some d).any fun x => decide (hint x = 13)) = false := by simp [hd]
  simp only [iop, cK, h5, h10, h13, Bool.false_eq_true, if_false]
  cases calleeOf st f with
  | none => rfl
  | some y =>
    simp only [callG]
    congr 1
    funext ie h'
    simp only [growR, Sub, retC, forall_const]
    cases ie <;> rfl
def aK (v : Option (IV × (Nat → Option (Nat × Nat × TypeId)))) (k : IV → (Nat → Option (Nat × Nat × TypeId)) → Prop) : Prop := match v with | some (r, xs) => k r xs | none => False
@[congr] theorem aK_congr {v v' : Option (IV × (Nat → Option (Nat × Nat × TypeId)))} {k : IV → (Nat → Option (Nat × Nat × TypeId)) → Prop} (h : v = v') : aK v k = aK v' k := by subst h; rfl
@[go_sem] theorem aK_some (r xs) (k : IV → (Nat → Option (Nat × Nat × TypeId)) → Prop) : aK (some (r, xs)) k = k r xs := rfl
@[go_sem ↓] theorem iop_append (d : Nat) (x y : Operand) (t t' : TypeId) (hd : hint d ≠ 2) (h6 : hint d ≠ 6) (h7 : hint d ≠ 7) (h12 : hint d ≠ 12) (h14 : hint d ≠ 14) (h16 : hint d ≠ 16) : iop P hint ⟨some d, .call ⟨.builtin .append, #[x, y], #[t, t']⟩, ty, pos, after, guard⟩ st K Q =
    (t = t' ∧ aK (iapp P st d t (st.ev x) (st.ev y)) (appC K st d)) := by
  simp only [iop, aK, hd, h6, h7, h12, h14, h16, if_false]; cases iapp P st d t (st.ev x) (st.ev y) <;> rfl
def abK (P : Program) (st : St) (d : Nat) (t : TypeId) (x y : IV) (K : St → Prop) : Prop := iappB P st d t x y K
@[congr] theorem abK_congr {d : Nat} {t : TypeId} {x x' y y' : IV} (h : x = x') (h' : y = y') : abK P st d t x y K = abK P st d t x' y' K := by subst h; subst h'; rfl
@[go_sem ↓] theorem iop_appendB (d : Nat) (x y : Operand) (t t' : TypeId) (hd : hint d = 2) : iop P hint ⟨some d, .call ⟨.builtin .append, #[x, y], #[t, t']⟩, ty, pos, after, guard⟩ st K Q =
    (t = t' ∧ abK P st d t (st.ev x) (st.ev y) K) := by
  have h6 : hint d ≠ 6 := by rw [hd]; decide
  have h7 : hint d ≠ 7 := by rw [hd]; decide
  have h12 : hint d ≠ 12 := by rw [hd]; decide
  have h14 : hint d ≠ 14 := by rw [hd]; decide
  have h16 : hint d ≠ 16 := by rw [hd]; decide
  simp only [iop, h6, h7, h12, h14, h16, if_false]
  simp only [hd, if_true, abK]
def zK (P : Program) (st : St) (d : Nat) (t t' : TypeId) (x y : IV) (K : St → Prop) : Prop := izer P st d t t' x y K
@[congr] theorem zK_congr {d : Nat} {t t' : TypeId} {x x' y y' : IV} (h : x = x') (h' : y = y') : zK P st d t t' x y K = zK P st d t t' x' y' K := by subst h; subst h'; rfl
@[go_sem ↓] theorem iop_zeros (d : Nat) (x y : Operand) (t t' : TypeId) (hd : hint d = 6) : iop P hint ⟨some d, .call ⟨.builtin .append, #[x, y], #[t, t']⟩, ty, pos, after, guard⟩ st K Q =
    zK P st d t t' (st.ev x) (st.ev y) K := by
  have h7 : hint d ≠ 7 := by rw [hd]; decide
  have h12 : hint d ≠ 12 := by rw [hd]; decide
  have h14 : hint d ≠ 14 := by rw [hd]; decide
  have h16 : hint d ≠ 16 := by rw [hd]; decide
  simp only [iop, h7, h12, h14, h16, if_false]
  simp only [hd, if_true, zK]
def cyK (P : Program) (st : St) (d : Nat) (t : TypeId) (x y : IV) (K : St → Prop) : Prop := icpy P st d t x y K
@[congr] theorem cyK_congr {d : Nat} {t : TypeId} {x x' y y' : IV} (h : x = x') (h' : y = y') : cyK P st d t x y K = cyK P st d t x' y' K := by subst h; subst h'; rfl
@[go_sem ↓] theorem iop_copy (d : Nat) (x y : Operand) (t t' : TypeId) (hd : hint d = 7) : iop P hint ⟨some d, .call ⟨.builtin .append, #[x, y], #[t, t']⟩, ty, pos, after, guard⟩ st K Q =
    (t = t' ∧ cyK P st d t (st.ev x) (st.ev y) K) := by
  have h12 : hint d ≠ 12 := by rw [hd]; decide
  have h14 : hint d ≠ 14 := by rw [hd]; decide
  have h16 : hint d ≠ 16 := by rw [hd]; decide
  simp only [iop, h12, h14, h16, if_false]
  simp only [hd, if_true, cyK]
def ivK (P : Program) (st : St) (v : IV) (name : String) (args : List IV) (dst : Option Tmp) (K : St → Prop) (Q : IExit → St → Prop) : Prop :=
  match v with
  | .iface t v => (match methT P t name with | some f => ICall P f (v :: args) st.h (retC K Q st dst) | none => False)
  | _ => False
@[congr] theorem ivK_congr {v v' : IV} {name : String} {args args' : List IV} (h : v = v') (h' : args = args') : ivK P st v name args dst K Q = ivK P st v' name args' dst K Q := by subst h; subst h'; rfl
@[go_sem ↓] theorem iop_invoke (r : Operand) (name : String) (args tys) : iop P hint ⟨dst, .call ⟨.invoke r name, args, tys⟩, ty, pos, after, guard⟩ st K Q =
    ivK P st (st.ev r) name (args.toList.map fun x => strip (st.ev x)) dst K Q := rfl
@[go_sem ↓] theorem dop1_invoke (r : Operand) (name : String) (args tys) : dop1 P hint ⟨dst, .call ⟨.invoke r name, args, tys⟩, ty, pos, after, guard⟩ st K Q = ivK P st (st.ev r) name (args.toList.map fun x => strip (st.ev x)) dst K Q := by
  have ho : sto9 hint ⟨dst, .call ⟨.invoke r name, args, tys⟩, ty, pos, after, guard⟩ st = True := rfl
  simp only [dop1, kd, ho, true_and]; rfl
@[go_sem] theorem ivK_iface (t : TypeId) (v : IV) (name : String) (args : List IV) : ivK P st (.iface t v) name args dst K Q = dK (methT P t name) fun f => ICall P f (v :: args) st.h (retC K Q st dst) := by
  simp only [ivK, dK]; cases methT P t name <;> rfl
@[go_sem] theorem zK_eq (d : Nat) (t t' : TypeId) (k m) : zK P st d t t' (.list .tight []) (.int k m) K = 
    match elT P t, (elT P t).bind (elZ P), P.underlying t' with
    | some e, some z, some (.int _) =>
      (0 < m ∧ roomy P e m.toNat) ∧ ∀ b' cap', st.h b' = none → m.toNat ≤ cap' → K ((st.setH b' (.arr e z [] cap')).put (some d) (.sl z b' 0 m.toNat cap'))
    | _, _, _ => False := rfl
@[go_sem ↓] theorem iop_makeMap (t : TypeId) : iop P hint ⟨dst, .makeMap t none, ty, pos, after, guard⟩ st K Q = ∀ b, st.h b = none → K ((st.setH b (.map [])).put dst (.mapv b)) := rfl
def moK (v : Option IObj) (k : List (IV × IV) → Prop) : Prop := match v with | some (.map es) => k es | _ => False
@[congr] theorem moK_congr {v v' : Option IObj} {k : List (IV × IV) → Prop} (h : v = v') : moK v k = moK v' k := by subst h; rfl
@[go_sem] theorem moK_some (es) (k : List (IV × IV) → Prop) : moK (some (.map es)) k = k es := rfl
def meK (v : Option (List (IV × IV))) (k : List (IV × IV) → Prop) : Prop := match v with | some es => k es | _ => False
@[congr] theorem meK_congr {v v' : Option (List (IV × IV))} {k : List (IV × IV) → Prop} (h : v = v') : meK v k = meK v' k := by subst h; rfl
@[go_sem] theorem meK_some (es) (k : List (IV × IV) → Prop) : meK (some es) k = k es := rfl
def muK (P : Program) (st : St) (t : TypeId) (m k v : IV) (K : St → Prop) (dst : Option Tmp) : Prop :=
  match P.underlying t, m with
  | some (.map kt _), .mapv b =>
    match P.underlying kt with
    | some kd => moK (st.h b) fun es => scal kd = true ∧ meK (iput kd k v es) fun es' => K ((st.setH b (.map es')).put dst .dead)
    | _ => False
  | _, _ => False
@[congr] theorem muK_congr {P : Program} {st : St} {t : TypeId} {m m' k k' v v' : IV} {K : St → Prop} {dst : Option Tmp} (h1 : m = m') (h2 : k = k') (h3 : v = v') : muK P st t m k v K dst = muK P st t m' k' v' K dst := by subst h1; subst h2; subst h3; rfl
@[go_sem ↓] theorem iop_mapUpdate (t : TypeId) (m k v : Operand) : iop P hint ⟨dst, .mapUpdate t m k v, ty, pos, after, guard⟩ st K Q = muK P st t (st.ev m) (strip (st.ev k)) (strip (st.ev v)) K dst := by
  simp only [iop, muK]
  cases P.underlying t with
  | none => rfl
  | some d =>
    cases d <;> try rfl
    rename_i kt et
    cases st.ev m <;> try rfl
    rename_i b
    simp only []
    cases P.underlying kt with
    | none => rfl
    | some kd =>
      cases st.h b with
      | none => rfl
      | some o =>
        cases o with
        | map es => simp only [moK, meK]; cases iput kd (strip (st.ev k)) (strip (st.ev v)) es <;> rfl
        | _ => rfl
@[go_sem] theorem muK_mapv (t : TypeId) (b : Nat) (k v : IV) : muK P st t (.mapv b) k v K dst = match P.underlying t with
    | some (.map kt _) => (match P.underlying kt with | some kd => moK (st.h b) fun es => scal kd = true ∧ meK (iput kd k v es) fun es' => K ((st.setH b (.map es')).put dst .dead) | _ => False)
    | _ => False := by
  simp only [muK]; cases P.underlying t with
  | none => rfl
  | some d => cases d <;> rfl
def deK (P : Program) (st : St) (t : TypeId) (m k : IV) (K : St → Prop) (dst : Option Tmp) : Prop := idelB P st t m k dst K
@[congr] theorem deK_congr {P : Program} {st : St} {t : TypeId} {m m' k k' : IV} {K : St → Prop} {dst : Option Tmp} (h1 : m = m') (h2 : k = k') : deK P st t m k K dst = deK P st t m' k' K dst := by subst h1; subst h2; rfl
def msK (P : Program) (st : St) (t : TypeId) (l m : IV) (K : St → Prop) (dst : Option Tmp) : Prop := imks P st t l m dst K
@[congr] theorem msK_congr {P : Program} {st : St} {t : TypeId} {l l' m m' : IV} {K : St → Prop} {dst : Option Tmp} (h1 : l = l') (h2 : m = m') : msK P st t l m K dst = msK P st t l' m' K dst := by subst h1; subst h2; rfl
@[go_sem ↓] theorem iop_makeSlice (t : TypeId) (l m : Operand) : iop P hint ⟨dst, .makeSlice t l m, ty, pos, after, guard⟩ st K Q = msK P st t (st.ev l) (st.ev m) K dst := rfl
def zeK (v : Option Value) (k : Value → Prop) : Prop := match v with | some x => k x | none => False
@[congr] theorem zeK_congr {v v' : Option Value} {k : Value → Prop} (h : v = v') : zeK v k = zeK v' k := by subst h; rfl
@[go_sem] theorem zeK_some (v : Value) (k : Value → Prop) : zeK (some v) k = k v := rfl
def e2K (v : Option TypeId) (k : TypeId → Prop) : Prop := match v with | some x => k x | none => False
@[congr] theorem e2K_congr {v v' : Option TypeId} {k : TypeId → Prop} (h : v = v') : e2K v k = e2K v' k := by subst h; rfl
@[go_sem] theorem e2K_some (v : TypeId) (k : TypeId → Prop) : e2K (some v) k = k v := rfl
@[go_sem] theorem msK_int (t : TypeId) (k1 k2 : IntKind) (n k : Int) : msK P st t (.int k1 n) (.int k2 k) K dst = e2K (elT P t) fun e => zeK (zeT P e) fun z => (elZ P e = some 1 ∧ 0 ≤ n ∧ n ≤ k ∧ k ≤ 1000000000 ∧ byT P e ≤ 1000) ∧ ∀ b, st.h b = none → K ((st.setH b (.arr e 1 (List.replicate n.toNat (z.cells.toList.map cv)) k.toNat)).put dst (.sl 1 b 0 n.toNat k.toNat)) := by
  simp only [msK, imks, zeK, e2K]
  cases elT P t with
  | none => rfl
  | some e => cases h : zeT P e <;> simp only [h] <;> rfl
@[go_sem ↓] theorem iop_delete (t t2 : TypeId) (m k : Operand) : iop P hint ⟨dst, .call ⟨.builtin .delete, #[m, k], #[t, t2]⟩, ty, pos, after, guard⟩ st K Q = deK P st t (st.ev m) (strip (st.ev k)) K dst := rfl
@[go_sem] theorem deK_mapv (t : TypeId) (b : Nat) (k : IV) : deK P st t (.mapv b) k K dst = match P.underlying t with
    | some (.map kt _) => (match P.underlying kt with | some kd => moK (st.h b) fun es => scal kd = true ∧ meK (idel kd k es) fun es' => K ((st.setH b (.map es')).put dst (.tup [])) | _ => False)
    | _ => False := by
  simp only [deK, idelB]
  cases P.underlying t with
  | none => rfl
  | some d =>
    cases d <;> try rfl
    rename_i kt et
    simp only []
    cases P.underlying kt with
    | none => rfl
    | some kd =>
      cases st.h b with
      | none => rfl
      | some o =>
        cases o with
        | map es => simp only [moK, meK]; cases idel kd k es <;> rfl
        | _ => rfl
def clK (P : Program) (st : St) (t : TypeId) (x : IV) (K : St → Prop) (dst : Option Tmp) : Prop := iclr P st t x dst K
@[congr] theorem clK_congr {P : Program} {st : St} {t : TypeId} {x x' : IV} {K : St → Prop} {dst : Option Tmp} (h1 : x = x') : clK P st t x K dst = clK P st t x' K dst := by subst h1; rfl
@[go_sem ↓] theorem iop_clear (t : TypeId) (x : Operand) : iop P hint ⟨dst, .call ⟨.builtin .clear, #[x], #[t]⟩, ty, pos, after, guard⟩ st K Q = clK P st t (st.ev x) K dst := rfl
@[go_sem ↓] theorem iop_typeAssert (x : Operand) (xt t : TypeId) (ok : Bool) : iop P hint ⟨dst, .typeAssert x xt t ok, ty, pos, after, guard⟩ st K Q = vK (pop P st (.typeAssert x xt t ok)) (putC K st dst) := rfl
@[go_sem ↓] theorem iop_lookup (t : TypeId) (x ix ok) : iop P hint ⟨dst, .lookup t x ix ok, ty, pos, after, guard⟩ st K Q = vK (pop P st (.lookup t x ix ok)) (putC K st dst) := rfl
@[go_sem ↓] theorem iop_cap (a t) : iop P hint ⟨dst, .call ⟨.builtin .cap, a, t⟩, ty, pos, after, guard⟩ st K Q = vK (pop P st (.call ⟨.builtin .cap, a, t⟩)) (putC K st dst) := rfl
def eoK (v : Option TypeId) (k : TypeId → Prop) : Prop := match v with | some x => k x | none => False
@[congr] theorem eoK_congr {v v' : Option TypeId} {k : TypeId → Prop} (h : v = v') : eoK v k = eoK v' k := by subst h; rfl
@[go_sem] theorem eoK_some (v : TypeId) (k : TypeId → Prop) : eoK (some v) k = k v := rfl
@[go_sem] theorem abK_sl (d : Nat) (t : TypeId) (z b off n cap : Nat) (tk ys) : abK P st d t (.sl z b off n cap) (.list tk ys) K = arK (st.h b) fun e z' rows tot => eoK (elT P t) fun e' =>
      (off = 0 ∧ e = e' ∧ z = z' ∧ elZ P e = some z ∧ n = rows.length ∧ tot = cap ∧ roomy P e (rows.length + ys.length) ∧ uni z ys = true) ∧
      (n + ys.length ≤ cap → K ((st.setH b (.arr e z (rows ++ ys) cap)).put (some d) (.sl z b 0 (n + ys.length) cap))) ∧
      (cap < n + ys.length → ∀ b' cap', st.h b' = none → n + ys.length ≤ cap' → K ((st.setH b' (.arr e z (rows ++ ys) cap')).put (some d) (.sl z b' 0 (n + ys.length) cap'))) := by
  simp only [abK, iappB, arK, eoK, St.setH]
  cases st.h b with
  | none => rfl
  | some o =>
    cases o with
    | arr e z' rows tot => cases elT P t <;> rfl
    | _ => rfl
@[go_sem] theorem abK_list (d : Nat) (t : TypeId) (rows tk ys) : abK P st d t (.list .tight rows) (.list tk ys) K = dK ((elT P t).bind (elZ P)) fun z => eoK (elT P t) fun e =>
      (roomy P e (rows.length + ys.length) ∧ uni z rows = true ∧ uni z ys = true) ∧
      (ys = [] → K (st.put (some d) (.list .tight rows))) ∧
      (ys ≠ [] → ∀ b' cap', st.h b' = none → rows.length + ys.length ≤ cap' → K ((st.setH b' (.arr e z (rows ++ ys) cap')).put (some d) (.sl z b' 0 (rows.length + ys.length) cap'))) := by
  simp only [abK, iappB, dK, eoK, St.setH]
  cases he : elT P t with
  | none => rfl
  | some e => cases hz : elZ P e <;> simp [hz]

@[go_sem] theorem clK_sl (t : TypeId) (z b off n cap : Nat) : clK P st t (.sl z b off n cap) K dst = arK (st.h b) fun e z' rows tot => eoK (elT P t) fun e' =>
      (e = e' ∧ z = z' ∧ elZ P e = some z ∧ off ≤ rows.length ∧ rows.length ≤ off + n ∧ off + n ≤ tot) ∧ K ((st.setH b (.arr e z (rows.take off) tot)).put dst (.tup [])) := by
  simp only [clK, iclr, arK, eoK, St.setH]
  cases st.h b with
  | none => rfl
  | some o =>
    cases o with
    | arr e z' rows tot => cases elT P t <;> rfl
    | _ => rfl
@[go_sem] theorem cyK_sl (d : Nat) (t : TypeId) (z b off n cap : Nat) : cyK P st d t (.list .tight []) (.sl z b off n cap) K = arK (st.h b) fun e z' rows tot => eoK (elT P t) fun e' =>
      (e = e' ∧ z = z' ∧ elZ P e = some z ∧ off + n ≤ rows.length ∧ roomy P e n) ∧
      (n = 0 → K (st.put (some d) (.list .tight []))) ∧ (0 < n → K (st.put (some d) (.list .plain ((rows.drop off).take n)))) := by
  simp only [cyK, icpy, arK, eoK]
  cases st.h b with
  | none => rfl
  | some o =>
    cases o with
    | arr e z' rows tot => cases elT P t <;> rfl
    | _ => rfl

/-! copy; appends over, or behind, an array -/
def csK (st : St) (z : Nat) (y : IV) (k : List (List IV) → Prop) : Prop := match csrc st z y with | some s => k s | none => False
@[congr] theorem csK_congr {z : Nat} {y y' : IV} {k : List (List IV) → Prop} (h : y = y') : csK st z y k = csK st z y' k := by subst h; rfl
@[go_sem] theorem csK_list (z : Nat) (tk ys) (k : List (List IV) → Prop) : csK st z (.list tk ys) k = (uni z ys = true ∧ k ys) := by
  simp only [csK, csrc]; split <;> rename_i h <;> split at h <;> simp_all
@[go_sem] theorem csK_sl (z z2 b2 off2 n2 c2 : Nat) (k : List (List IV) → Prop) : csK st z (.sl z2 b2 off2 n2 c2) k = arK (st.h b2) fun e z3 rows2 tot => (z2 = z ∧ z3 = z ∧ off2 + n2 ≤ rows2.length) ∧ k ((rows2.drop off2).take n2) := by
  simp only [csK, csrc, arK]
  cases st.h b2 with
  | none => rfl
  | some o =>
    cases o with
    | arr e z3 rows tot =>
      simp only
      by_cases hc : z2 = z ∧ z3 = z ∧ off2 + n2 ≤ rows.length
      · rw [if_pos hc]; exact propext ⟨fun h => ⟨hc, h⟩, fun h => h.2⟩
      · rw [if_neg hc]; exact propext ⟨fun h => h.elim, fun h => (hc h.1).elim⟩
    | _ => rfl
def icK (P : Program) (st : St) (t : TypeId) (x y : IV) (K : St → Prop) (dst : Option Tmp) : Prop := icop P st t x y dst K
@[congr] theorem icK_congr {t : TypeId} {x x' y y' : IV} (h : x = x') (h' : y = y') : icK P st t x y K dst = icK P st t x' y' K dst := by subst h; subst h'; rfl
@[go_sem ↓] theorem iop_copyTo (x y : Operand) (t t' : TypeId) : iop P hint ⟨dst, .call ⟨.builtin .copy, #[x, y], #[t, t']⟩, ty, pos, after, guard⟩ st K Q = icK P st t (st.ev x) (st.ev y) K dst := rfl
@[go_sem ↓] theorem dop1_copyTo (x y : Operand) (t t' : TypeId) : dop1 P hint ⟨dst, .call ⟨.builtin .copy, #[x, y], #[t, t']⟩, ty, pos, after, guard⟩ st K Q = icK P st t (st.ev x) (st.ev y) K dst := by
  have ho : sto9 hint ⟨dst, .call ⟨.builtin .copy, #[x, y], #[t, t']⟩, ty, pos, after, guard⟩ st = True := rfl
  simp only [dop1, kd, ho, true_and]; rfl
@[go_sem ↓] theorem dop1_cap (a t) : dop1 P hint ⟨dst, .call ⟨.builtin .cap, a, t⟩, ty, pos, after, guard⟩ st K Q = vK (pop P st (.call ⟨.builtin .cap, a, t⟩)) (putC K st dst) := dop1_pop (by simp [kd]) (fun _ => rfl) trivial
@[go_sem] theorem trimS_sl (n z b off n2 cap : Nat) : trimS n (.sl z b off n2 cap) = .sl z b off (min n n2) cap := rfl
@[go_sem] theorem trimS_list (n : Nat) (tk ys) : trimS n (.list tk ys) = .list tk ys := rfl
@[go_sem] theorem icK_sl (t : TypeId) (z b off n cap : Nat) (y : IV) : icK P st t (.sl z b off n cap) y K dst = arK (st.h b) fun e z' rows tot => eoK (elT P t) fun e' => csK st z (trimS n y) fun src =>
      (e = e' ∧ z = z' ∧ elZ P e = some z ∧ off ≤ rows.length ∧ off + min n src.length ≤ tot) ∧
      K ((st.setH b (.arr e z (rows.take off ++ src.take n ++ rows.drop (off + min n src.length)) tot)).put dst (.int .i64 (min n src.length : Nat))) := by
  simp only [icK, icop, arK, eoK, csK, St.setH]
  cases st.h b with
  | none => rfl
  | some o =>
    cases o with
    | arr e z' rows tot => cases elT P t <;> cases csrc st z (trimS n y) <;> rfl
    | _ => rfl
def ipK (P : Program) (st : St) (t : TypeId) (x y : IV) (K : St → Prop) (dst : Option Tmp) : Prop := iapi P st t x y dst K
@[congr] theorem ipK_congr {t : TypeId} {x x' y y' : IV} (h : x = x') (h' : y = y') : ipK P st t x y K dst = ipK P st t x' y' K dst := by subst h; subst h'; rfl
@[go_sem ↓] theorem iop_appendOver (d : Nat) (x y : Operand) (t t' : TypeId) (hd : hint d = 12) : iop P hint ⟨some d, .call ⟨.builtin .append, #[x, y], #[t, t']⟩, ty, pos, after, guard⟩ st K Q =
    (t = t' ∧ ipK P st t (st.ev x) (st.ev y) K (some d)) := by
  have h14 : hint d ≠ 14 := by rw [hd]; decide
  have h16 : hint d ≠ 16 := by rw [hd]; decide
  simp only [iop, h14, h16, if_false]
  simp only [hd, if_true, ipK]
@[go_sem] theorem ipK_sl (t : TypeId) (z b off n cap : Nat) (y : IV) : ipK P st t (.sl z b off n cap) y K dst = arK (st.h b) fun e z' rows tot => eoK (elT P t) fun e' => csK st z y fun src =>
      (off = 0 ∧ e = e' ∧ z = z' ∧ elZ P e = some z ∧ n ≤ rows.length ∧ tot = cap ∧ n + src.length ≤ tot) ∧
      K ((st.setH b (.arr e z (rows.take n ++ src ++ rows.drop (n + src.length)) tot)).put dst (.sl z b 0 (n + src.length) cap)) := by
  simp only [ipK, iapi, arK, eoK, csK, St.setH]
  cases st.h b with
  | none => rfl
  | some o =>
    cases o with
    | arr e z' rows tot => cases elT P t <;> cases csrc st z y <;> rfl
    | _ => rfl
def iqK (P : Program) (st : St) (t : TypeId) (x y : IV) (K : St → Prop) (dst : Option Tmp) : Prop := iapq P st t x y dst K
@[congr] theorem iqK_congr {t : TypeId} {x x' y y' : IV} (h : x = x') (h' : y = y') : iqK P st t x y K dst = iqK P st t x' y' K dst := by subst h; subst h'; rfl
@[go_sem ↓] theorem iop_appendPre (d : Nat) (x y : Operand) (t t' : TypeId) (hd : hint d = 14) : iop P hint ⟨some d, .call ⟨.builtin .append, #[x, y], #[t, t']⟩, ty, pos, after, guard⟩ st K Q =
    (t = t' ∧ iqK P st t (st.ev x) (st.ev y) K (some d)) := by
  have h16 : hint d ≠ 16 := by rw [hd]; decide
  simp only [iop, h16, if_false]
  simp only [hd, if_true, iqK]
@[go_sem] theorem iqK_sl (t : TypeId) (z b off n cap : Nat) (y : IV) : iqK P st t (.sl z b off n cap) y K dst = arK (st.h b) fun e z' rows tot => eoK (elT P t) fun e' => csK st z y fun src =>
      (off = 0 ∧ e = e' ∧ z = z' ∧ elZ P e = some z ∧ n ≤ rows.length ∧ tot = cap ∧ roomy P e (n + src.length)) ∧
      (n + src.length ≤ cap → K ((st.setH b (.arr e z (rows.take n ++ src ++ rows.drop (n + src.length)) tot)).put dst (.sl z b 0 (n + src.length) cap))) ∧
      (cap < n + src.length → ∀ b' cap', st.h b' = none → n + src.length ≤ cap' → K ((st.setH b' (.arr e z (rows.take n ++ src) cap')).put dst (.sl z b' 0 (n + src.length) cap'))) := by
  simp only [iqK, iapq, arK, eoK, csK, St.setH]
  cases st.h b with
  | none => rfl
  | some o =>
    cases o with
    | arr e z' rows tot => cases elT P t <;> cases csrc st z y <;> rfl
    | _ => rfl
@[go_sem] theorem zK_sl (d : Nat) (t t' : TypeId) (z b off n cap : Nat) (k m) : zK P st d t t' (.sl z b off n cap) (.int k m) K = arK (st.h b) fun e z' rows tot =>
    match elT P t, P.underlying t' with
    | some e', some (.int _) =>
      (off = 0 ∧ e = e' ∧ z = z' ∧ elZ P e = some z ∧ n ≤ rows.length ∧ 0 < m ∧ cap < n + m.toNat ∧ roomy P e (n + m.toNat)) ∧
      ∀ b' cap', st.h b' = none → n + m.toNat ≤ cap' → K ((st.setH b' (.arr e z (rows.take n) cap')).put (some d) (.sl z b' 0 (n + m.toNat) cap'))
    | _, _ => False := by
  simp only [zK, izer, arK, St.setH]
  cases st.h b with
  | none => rfl
  | some o =>
    cases o with
    | arr e z' rows tot => cases elT P t <;> (try rfl); cases P.underlying t' with | none => rfl | some d => cases d <;> rfl
    | _ => rfl

/-! regions whose order is drawn -/
@[go_sem ↓] theorem iwp_drawn (id : Nat) (ops : Array Oper) : iwp P hint (.region id ops true) Q st = dR P hint ops st (normC Q) Q := rfl
@[go_sem ↓] theorem dops_nil : dops P hint all [] st K Q = K st := rfl
@[go_sem ↓] theorem dops_none : dops P hint all (⟨dst, op, ty, pos, after, none⟩ :: rest) st K Q = dop1 P hint ⟨dst, op, ty, pos, after, none⟩ st (dopsC P hint all rest K Q) Q := rfl
@[go_sem ↓] theorem dops_some (j : Nat) (want : Bool) : dops P hint all (⟨dst, op, ty, pos, after, some (j, want)⟩ :: rest) st K Q =
    dK ((all[j]?).bind (·.dst)) fun dj => gK (st.t dj) (duC P hint all rest ⟨dst, op, ty, pos, after, some (j, want)⟩ want st K Q) (dopsC P hint all rest K Q) st dst := by
  simp only [dops, dop, wnt, gdst, dK]
  cases (all[j]?).bind (·.dst) with
  | none => rfl
  | some dj =>
    simp only [gK]
    cases st.t dj with
    | bool b => cases b <;> cases want <;> (try simp [condK, dop1, duC, dopsC]) <;> (try exact Iff.rfl)
    | tup l => cases l <;> rfl
    | _ => rfl
@[go_sem ↓] theorem dop1_pick (x y z : Operand) : dop1 P hint ⟨dst, .pick x y z, ty, pos, after, guard⟩ st K Q = vK (pop P st (.pick x y z)) (putC K st dst) := dop1_pop (by simp [kd]) (fun _ => rfl) trivial
@[go_sem ↓] theorem dop1_build (t : TypeId) (ps) : dop1 P hint ⟨dst, .build t ps, ty, pos, after, guard⟩ st K Q = vK (pop P st (.build t ps)) (putC K st dst) := dop1_pop (by simp [kd]) (fun _ => rfl) trivial
@[go_sem ↓] theorem dop1_load (t : TypeId) (x) (d : Tmp) (hd : hint d ≠ 8) : dop1 P hint ⟨some d, .load t x, ty, pos, after, guard⟩ st K Q = vK (pop P st (.load t x)) (putC K st (some d)) := dop1_pop (by simp [kd]) (fun _ => rfl) (by simp [own8, hd])
def o8K (v : IV) (k : Prop) : Prop := ownA v = true ∧ k
@[congr] theorem o8K_congr {v v' : IV} {k : Prop} (h : v = v') : o8K v k = o8K v' k := by subst h; rfl
@[go_sem] theorem o8K_loc (s g o : Nat) (k : Prop) : o8K (.loc s g o) k = k := by simp [o8K, ownA]
@[go_sem] theorem o8K_eptr (r : List (List IV)) (g o : Nat) (k : Prop) : o8K (.eptr r g o) k = k := by simp [o8K, ownA]
def h9K (v : IV) (k : Prop) : Prop := heapA v = true ∧ k
@[congr] theorem h9K_congr {v v' : IV} {k : Prop} (h : v = v') : h9K v k = h9K v' k := by subst h; rfl
@[go_sem] theorem h9K_ptr (b o : Nat) (k : Prop) : h9K (.ptr b o) k = k := by simp [h9K, heapA]
@[go_sem] theorem h9K_aptr (z b i o : Nat) (k : Prop) : h9K (.aptr z b i o) k = k := by simp [h9K, heapA]
@[go_sem ↓] theorem dop1_load8 (t : TypeId) (x) (d : Tmp) (hd : hint d = 8) : dop1 P hint ⟨some d, .load t x, ty, pos, after, guard⟩ st K Q = o8K (st.ev x) (vK (pop P st (.load t x)) (putC K st (some d))) := by
  have hk : kd hint ⟨some d, .load t x, ty, pos, after, guard⟩ ≤ 1 := by simp [kd]
  have ho : own8 hint ⟨some d, .load t x, ty, pos, after, guard⟩ st = (ownA (st.ev x) = true) := by simp [own8, hd]
  simp only [dop1, hk, if_true, ho, o8K, vK, putC, Yld]
  cases pop P st (.load t x) <;> simp [and_comm, and_assoc]
@[go_sem ↓] theorem dop1_binOp_tmp (o : BinOp) (t : TypeId) (x : Operand) (y : Tmp) (t2) : dop1 P hint ⟨dst, .binOp o t x (.tmp y) t2, ty, pos, after, guard⟩ st K Q = vK (pop P st (.binOp o t x (.tmp y) t2)) (putC K st dst) := dop1_pop (by simp [kd]) (fun _ => rfl) trivial
@[go_sem ↓] theorem dop1_binOp_int (o : BinOp) (t : TypeId) (x : Operand) (k n t2) : dop1 P hint ⟨dst, .binOp o t x (.const (.int k n)) t2, ty, pos, after, guard⟩ st K Q = vK (pop P st (.binOp o t x (.const (.int k n)) t2)) (putC K st dst) := dop1_pop (by simp [kd]) (fun _ => rfl) trivial
@[go_sem ↓] theorem dop1_binOp_bool (o : BinOp) (t : TypeId) (x : Operand) (b t2) : dop1 P hint ⟨dst, .binOp o t x (.const (.bool b)) t2, ty, pos, after, guard⟩ st K Q = vK (pop P st (.binOp o t x (.const (.bool b)) t2)) (putC K st dst) := dop1_pop (by simp [kd]) (fun _ => rfl) trivial
@[go_sem ↓] theorem dop1_binOp_str (o : BinOp) (t : TypeId) (x : Operand) (b t2) : dop1 P hint ⟨dst, .binOp o t x (.const (.string b)) t2, ty, pos, after, guard⟩ st K Q = vK (pop P st (.binOp o t x (.const (.string b)) t2)) (putC K st dst) := dop1_pop (by simp [kd]) (fun _ => rfl) trivial
@[go_sem ↓] theorem dop1_binOp_ptr (o : BinOp) (t : TypeId) (x : Operand) (t2) : dop1 P hint ⟨dst, .binOp o t x (.const (.pointer none)) t2, ty, pos, after, guard⟩ st K Q = vK (pop P st (.binOp o t x (.const (.pointer none)) t2)) (putC K st dst) := dop1_pop (by simp [kd]) (fun _ => rfl) trivial
@[go_sem ↓] theorem dop1_binOp_iface (o : BinOp) (t : TypeId) (x : Operand) (t2) : dop1 P hint ⟨dst, .binOp o t x (.const .nilIface) t2, ty, pos, after, guard⟩ st K Q = vK (pop P st (.binOp o t x (.const .nilIface) t2)) (putC K st dst) := dop1_pop (by simp [kd]) (fun _ => rfl) trivial
@[go_sem ↓] theorem dop1_binOp_agg (o : BinOp) (t : TypeId) (x : Operand) (cs t2) : dop1 P hint ⟨dst, .binOp o t x (.const (.agg cs)) t2, ty, pos, after, guard⟩ st K Q = vK (pop P st (.binOp o t x (.const (.agg cs)) t2)) (putC K st dst) := dop1_pop (by simp [kd]) (fun _ => rfl) trivial
@[go_sem ↓] theorem dop1_unOp (o : UnOp) (t : TypeId) (x) : dop1 P hint ⟨dst, .unOp o t x, ty, pos, after, guard⟩ st K Q = vK (pop P st (.unOp o t x)) (putC K st dst) := dop1_pop (by simp [kd]) (fun _ => rfl) trivial
@[go_sem ↓] theorem dop1_makeInterface (t : TypeId) (x) : dop1 P hint ⟨dst, .makeInterface t x, ty, pos, after, guard⟩ st K Q = vK (pop P st (.makeInterface t x)) (putC K st dst) := dop1_pop (by simp [kd]) (fun _ => rfl) trivial
@[go_sem ↓] theorem dop1_makeFunc (f a c) : dop1 P hint ⟨dst, .makeFunc f a c, ty, pos, after, guard⟩ st K Q = vK (pop P st (.makeFunc f a c)) (putC K st dst) := dop1_pop (by simp [kd]) (fun _ => rfl) trivial
@[go_sem ↓] theorem dop1_slice (t : TypeId) (x lo hi mx) : dop1 P hint ⟨dst, .slice t x lo hi mx, ty, pos, after, guard⟩ st K Q = vK (pop P st (.slice t x lo hi mx)) (putC K st dst) := dop1_pop (by simp [kd]) (fun _ => rfl) trivial
@[go_sem ↓] theorem dop1_fieldAddr (t : TypeId) (x f) : dop1 P hint ⟨dst, .fieldAddr t x f, ty, pos, after, guard⟩ st K Q = vK (pop P st (.fieldAddr t x f)) (putC K st dst) := dop1_pop (by simp [kd]) (fun _ => rfl) trivial
@[go_sem ↓] theorem dop1_indexAddr (t : TypeId) (x f) : dop1 P hint ⟨dst, .indexAddr t x f, ty, pos, after, guard⟩ st K Q = vK (pop P st (.indexAddr t x f)) (putC K st dst) := dop1_pop (by simp [kd]) (fun _ => rfl) trivial
@[go_sem ↓] theorem dop1_index (t : TypeId) (x f) : dop1 P hint ⟨dst, .index t x f, ty, pos, after, guard⟩ st K Q = vK (pop P st (.index t x f)) (putC K st dst) := dop1_pop (by simp [kd]) (fun _ => rfl) trivial
@[go_sem ↓] theorem dop1_field (t x f) : dop1 P hint ⟨dst, .field t x f, ty, pos, after, guard⟩ st K Q = vK (pop P st (.field t x f)) (putC K st dst) := dop1_pop (by simp [kd]) (fun _ => rfl) trivial
@[go_sem ↓] theorem dop1_mapUpdate (t m k v) : dop1 P hint ⟨dst, .mapUpdate t m k v, ty, pos, after, guard⟩ st K Q = iop P hint ⟨dst, .mapUpdate t m k v, ty, pos, after, guard⟩ st K Q := by
  have ho : sto9 hint ⟨dst, .mapUpdate t m k v, ty, pos, after, guard⟩ st = True := rfl
  simp only [dop1, kd, ho, true_and]; rfl
@[go_sem ↓] theorem dop1_extract (x i) : dop1 P hint ⟨dst, .extract x i, ty, pos, after, guard⟩ st K Q = vK (pop P st (.extract x i)) (putC K st dst) := dop1_pop (by simp [kd]) (fun _ => rfl) trivial
@[go_sem ↓] theorem dop1_nilCheck (x) : dop1 P hint ⟨dst, .nilCheck x, ty, pos, after, guard⟩ st K Q = vK (pop P st (.nilCheck x)) (putC K st dst) := dop1_pop (by simp [kd]) (fun _ => rfl) trivial
@[go_sem ↓] theorem dop1_convert (s d x) : dop1 P hint ⟨dst, .convert s d x, ty, pos, after, guard⟩ st K Q = vK (pop P st (.convert s d x)) (putC K st dst) := dop1_pop (by simp [kd]) (fun _ => rfl) trivial
@[go_sem ↓] theorem dop1_len (a t) (hd : dst.any (hint · = 11) = false) : dop1 P hint ⟨dst, .call ⟨.builtin .len, a, t⟩, ty, pos, after, guard⟩ st K Q = vK (pop P st (.call ⟨.builtin .len, a, t⟩)) (putC K st dst) := dop1_pop (by simp only [kd, hd]; decide) (fun _ => rfl) trivial
@[go_sem ↓] theorem dop1_move (x : Operand) (d : Tmp) (hd : hint d ≠ 3) (hd1 : ¬ 100 ≤ hint d) : dop1 P hint ⟨some d, .move x, ty, pos, after, guard⟩ st K Q = rK (st.ev x) fun v => K (st.put (some d) v) := by
  have ho : own8 hint ⟨some d, .move x, ty, pos, after, guard⟩ st := trivial
  rw [dop1_pop (by have h2 : hint d < 100 := by omega
                   simp [kd, hd, h2]) (fun _ => rfl) ho]; rfl
@[go_sem ↓] theorem dop1_assign (x : Operand) (d : Tmp) (hd : hint d ≠ 3) (hd1 : ¬ 100 ≤ hint d) : dop1 P hint ⟨some d, .assign x, ty, pos, after, guard⟩ st K Q = rK (st.ev x) fun v => K (st.put (some d) v) := by
  have ho : own8 hint ⟨some d, .assign x, ty, pos, after, guard⟩ st := trivial
  rw [dop1_pop (by have h2 : hint d < 100 := by omega
                   simp [kd, hd, h2]) (fun _ => rfl) ho]; rfl
@[go_sem ↓] theorem dop1_buildSlice (t : TypeId) (len : Nat) (parts) (h17 : dst.any (fun d => decide (hint d = 17)) = false) : dop1 P hint ⟨dst, .buildSlice t len parts, ty, pos, after, guard⟩ st K Q = vK (bsl P st t len parts) (putC K st dst) := by
  simp only [dop1, kd, h17, Yld, vK, putC, own8]; cases bsl P st t len parts <;> simp
@[go_sem ↓] theorem dop1_call (d : Tmp) (hd : hint d ≠ 5) (hd2 : hint d ≠ 10) (hd3 : hint d ≠ 13) (f : Operand) (args tys) : dop1 P hint ⟨some d, .call ⟨.value f, args, tys⟩, ty, pos, after, guard⟩ st K Q =
    cK (calleeOf st f) fun f first cap => ∃ v, (ICall P f (first ++ (args.toList.map fun x => strip (st.ev x)) ++ cap) st.h fun ie h' => ie = .ret v ∧ h' = st.h) ∧ K (st.put (some d) v) := by
  simp only [dop1, kd, Yld, cK, own8]; cases calleeOf st f <;> simp [hd, hd2, hd3]
@[go_sem ↓] theorem dop1_call_grow (d : Tmp) (hd : hint d = 10) (f : Operand) (args tys) : dop1 P hint ⟨some d, .call ⟨.value f, args, tys⟩, ty, pos, after, guard⟩ st K Q = iop P hint ⟨some d, .call ⟨.value f, args, tys⟩, ty, pos, after, guard⟩ st K Q := by
  simp [dop1, kd, hd, sto9]
@[go_sem ↓] theorem dop1_call_tight (d : Tmp) (hd : hint d = 5) (f : Operand) (args tys) : dop1 P hint ⟨some d, .call ⟨.value f, args, tys⟩, ty, pos, after, guard⟩ st K Q = iop P hint ⟨some d, .call ⟨.value f, args, tys⟩, ty, pos, after, guard⟩ st K Q := by
  simp [dop1, kd, hd, sto9]
@[go_sem ↓] theorem dop1_store (t : TypeId) (a : Tmp) (ha : hint a ≠ 9) (ha1 : hint a ≠ 1) (x : Operand) : dop1 P hint ⟨dst, .store t (.tmp a) x, ty, pos, after, guard⟩ st K Q = sK P st t (st.t a) (st.ev x) K dst := by
  have hk : ¬ kd hint ⟨dst, .store t (.tmp a) x, ty, pos, after, guard⟩ ≤ 1 := by simp [kd]
  have ho : sto9 hint ⟨dst, .store t (.tmp a) x, ty, pos, after, guard⟩ st = True := by simp [sto9, ha, ha1]
  simp only [dop1, hk, if_false, ho, true_and]; rfl
theorem dop1_store19 (t : TypeId) (a : Tmp) (ha : hint a = 9 ∨ hint a = 1) (x : Operand) : dop1 P hint ⟨dst, .store t (.tmp a) x, ty, pos, after, guard⟩ st K Q = h9K (st.t a) (sK P st t (st.t a) (st.ev x) K dst) := by
  have hk : ¬ kd hint ⟨dst, .store t (.tmp a) x, ty, pos, after, guard⟩ ≤ 1 := by simp [kd]
  have ho : sto9 hint ⟨dst, .store t (.tmp a) x, ty, pos, after, guard⟩ st = (heapA (st.t a) = true) := by simp [sto9, ha]
  simp only [dop1, hk, if_false, ho, h9K]; rfl
@[go_sem ↓] theorem dop1_store9 (t : TypeId) (a : Tmp) (ha : hint a = 9) (x : Operand) : dop1 P hint ⟨dst, .store t (.tmp a) x, ty, pos, after, guard⟩ st K Q = h9K (st.t a) (sK P st t (st.t a) (st.ev x) K dst) := dop1_store19 _ _ _ _ _ _ _ _ _ _ t a (.inl ha) x
@[go_sem ↓] theorem dop1_store1 (t : TypeId) (a : Tmp) (ha : hint a = 1) (x : Operand) : dop1 P hint ⟨dst, .store t (.tmp a) x, ty, pos, after, guard⟩ st K Q = h9K (st.t a) (sK P st t (st.t a) (st.ev x) K dst) := dop1_store19 _ _ _ _ _ _ _ _ _ _ t a (.inr ha) x
@[go_sem ↓] theorem dop1_append (a t) : dop1 P hint ⟨dst, .call ⟨.builtin .append, a, t⟩, ty, pos, after, guard⟩ st K Q = iop P hint ⟨dst, .call ⟨.builtin .append, a, t⟩, ty, pos, after, guard⟩ st K Q := by
  have : ¬ kd hint ⟨dst, .call ⟨.builtin .append, a, t⟩, ty, pos, after, guard⟩ ≤ 1 := by simp only [kd]; split <;> omega
  have ho : sto9 hint ⟨dst, .call ⟨.builtin .append, a, t⟩, ty, pos, after, guard⟩ st = True := rfl
  simp only [dop1, this, if_false, ho, true_and]
@[go_sem ↓] theorem dop1_lookup (t : TypeId) (x ix ok) : dop1 P hint ⟨dst, .lookup t x ix ok, ty, pos, after, guard⟩ st K Q = vK (pop P st (.lookup t x ix ok)) (putC K st dst) := dop1_pop (by simp [kd]) (fun _ => rfl) trivial
end

/-! every order -/
def tK (P : Program) (hint : Nat → Nat) (ops : Array Oper) (o : Option Oper) (next : Tr) (st : St) (K : St → Prop) (Q : IExit → St → Prop) : Prop := ∃ o', o = some o' ∧ dop P hint ops.toList o' st (fun s => dTr P hint ops next s K Q) Q
@[congr] theorem tK_congr {P : Program} {hint : Nat → Nat} {ops : Array Oper} {o o' : Option Oper} {next : Tr} {st : St} {K : St → Prop} {Q : IExit → St → Prop} (h : o = o') : tK P hint ops o next st K Q = tK P hint ops o' next st K Q := by subst h; rfl
def dTrC (P : Program) (hint : Nat → Nat) (ops : Array Oper) (t : Tr) (K : St → Prop) (Q : IExit → St → Prop) (s : St) : Prop := dTr P hint ops t s K Q
section
variable {P : Program} {hint : Nat → Nat} {ops : Array Oper} {st : St} {K : St → Prop} {Q : IExit → St → Prop} {dst : Option Tmp} {op : Op} {ty : TypeId} {pos : String} {after : Array Edge}
@[go_sem ↓] theorem dTr_done : dTr P hint ops .done st K Q = K st := rfl
@[go_sem ↓] theorem dTr_none : dTr P hint ops .none st K Q = True := rfl
@[go_sem ↓] theorem dTr_alt (i : Nat) (next rest : Tr) : dTr P hint ops (.alt i next rest) st K Q = (tK P hint ops ops[i]? next st K Q ∧ dTr P hint ops rest st K Q) := rfl
@[go_sem ↓] theorem dTrC_eq (t : Tr) : dTrC P hint ops t K Q st = dTr P hint ops t st K Q := rfl
@[go_sem] theorem tK_some (next : Tr) : tK P hint ops (some ⟨dst, op, ty, pos, after, none⟩) next st K Q = dop1 P hint ⟨dst, op, ty, pos, after, none⟩ st (dTrC P hint ops next K Q) Q := by
  simp only [tK, Option.some.injEq, exists_eq_left']; rfl
end
theorem iwp_drawn_tree {P : Program} {hint : Nat → Nat} {ops : Array Oper} {st : St} {K : St → Prop} {Q : IExit → St → Prop} (hm : P.follows .mixedOrders = true) (ord : List Nat) (t : Tr) (hc : chkT ops ord t = true) (h : dTr P hint ops t st K Q) : dR P hint ops st K Q := ⟨hm, .inr (.inr (.inr (.inr ⟨ord, t, hc, h⟩)))⟩
theorem iwp_drawn_of {P : Program} {hint : Nat → Nat} {ops : Array Oper} {st : St} {K : St → Prop} {Q : IExit → St → Prop} (hm : P.follows .mixedOrders = true) (ord : List Nat) (hc : chk hint ops ord = true)
    (h : dops P hint ops.toList (ord.filterMap (ops[·]?)) st K Q) : dR P hint ops st K Q := ⟨hm, .inl ⟨ord, hc, h⟩⟩
theorem iwp_drawn_alloc {P : Program} {hint : Nat → Nat} {ops : Array Oper} {st : St} {K : St → Prop} {Q : IExit → St → Prop} (hm : P.follows .mixedOrders = true) (a0 : Nat) (ord : List Nat) (hc : chkA hint ops a0 ord = true)
    (h : dops P hint ops.toList ((a0 :: ord).filterMap (ops[·]?)) st K Q) : dR P hint ops st K Q := ⟨hm, .inr (.inl ⟨a0, ord, hc, h⟩)⟩
theorem iwp_drawn_call {P : Program} {hint : Nat → Nat} {ops : Array Oper} {st : St} {K : St → Prop} {Q : IExit → St → Prop} (hm : P.follows .mixedOrders = true) (ord : List Nat) (hc : chkC hint ops ord = true) (hq : panQ Q)
    (h : dops P hint ops.toList (ord.filterMap (ops[·]?)) st K Q) : dR P hint ops st K Q := ⟨hm, .inr (.inr (.inl ⟨ord, hc, hq, h⟩))⟩
theorem iwp_drawn_allocC {P : Program} {hint : Nat → Nat} {ops : Array Oper} {st : St} {K : St → Prop} {Q : IExit → St → Prop} (hm : P.follows .mixedOrders = true) (a0 : Nat) (ord : List Nat) (hc : chkAC hint ops a0 ord = true) (hq : panQ Q) (hq2 : panM Q)
    (h : dops P hint ops.toList ((a0 :: ord).filterMap (ops[·]?)) st K Q) : dR P hint ops st K Q := ⟨hm, .inr (.inr (.inr (.inl ⟨a0, ord, hc, hq, hq2, h⟩)))⟩

/-! branches, by hand -/
theorem cK_dec {p : Prop} [Decidable p] {k : Bool → Prop} (h1 : p → k true) (h2 : ¬ p → k false) : condK (decide p) k := by
  constructor
  · intro h; exact h1 (of_decide_eq_true h)
  · intro h; exact h2 (of_decide_eq_false h)
theorem cK_beq {a b : Int} {k : Bool → Prop} (h1 : a = b → k true) (h2 : a ≠ b → k false) : condK (a == b) k := by
  constructor
  · intro h; exact h1 (by simpa using h)
  · intro h; exact h2 (by simpa using h)
theorem cK_bne {a b : Int} {k : Bool → Prop} (h1 : a ≠ b → k true) (h2 : a = b → k false) : condK (a != b) k := by
  constructor
  · intro h; exact h1 (by simpa using h)
  · intro h; exact h2 (by simpa using h)
theorem cK_any {t : Bool} {k : Bool → Prop} (h1 : t = true → k true) (h2 : t = false → k false) : condK t k := ⟨h1, h2⟩

theorem iwp_loop {P : Program} {hint : Nat → Nat} {a : Code} {Q : IExit → St → Prop} {st : St} (I : St → Prop) (μ : St → Nat) (h0 : I st) (hr : ∀ s, I s → iwp P hint a (seqQ (fun s' => I s' ∧ μ s' < μ s) Q) s) :
    iwp P hint (.loop a) Q st := ⟨I, μ, h0, hr⟩

/-! the values of pure operations -/
section
variable (P : Program) (st : St)
@[go_sem] theorem pop_pick (c a b : Operand) : pop P st (.pick c a b) = match st.ev c with | .bool t => some (if t = true then st.ev a else st.ev b) | _ => none := rfl
@[go_sem] theorem pop_binOp (o t x y t2) : pop P st (.binOp o t x y t2) = ibn P o t (isC x || isC y) (strip (st.ev x)) (strip (st.ev y)) := rfl
@[go_sem] theorem pop_load (t : TypeId) (x : Operand) : pop P st (.load t x) = match szT P t, aggT P t with
    | some z, some true => (st.rd (st.ev x) z).map fun cs => .agg (cs.map strip)
    | some _, some false => match st.rd (st.ev x) 1 with | some [c] => some c | _ => none
    | _, _ => none := rfl
@[go_sem] theorem pop_makeFunc (f a c) : pop P st (.makeFunc f a c) = some (.fn f (a.toList.map fun x => strip (st.ev x)) (c.toList.map fun x => strip (st.ev x))) := rfl
@[go_sem] theorem pop_fieldAddr (t x f) : pop P st (.fieldAddr t x f) = (offT P t f).bind (addA st (st.ev x)) := rfl
@[go_sem] theorem pop_indexAddr (t x i) : pop P st (.indexAddr t x i) = ixA P t (strip (st.ev x)) (strip (st.ev i)) := rfl
@[go_sem] theorem pop_field (t x f) : pop P st (.field t x f) = match fieldT P t f, st.ev x with | some (off, ft), .agg cs => prt P ft cs off | _, _ => none := rfl
@[go_sem] theorem lenM_1 (x : Operand) (t : TypeId) : lenM P st ⟨.builtin .len, #[x], #[t]⟩ = (match P.underlying t with | some (.map _ _) => (mapEs st (st.ev x)).map List.length | _ => none) := rfl
@[go_sem] theorem pop_extract (x i) : pop P st (.extract x i) = match st.ev x with | .tup vs => vs[i]? | _ => none := rfl
@[go_sem] theorem pop_makeInterface (t x) : pop P st (.makeInterface t x) = if P.concrete t = true then some (.iface t (strip (st.ev x))) else none := rfl
@[go_sem] theorem pop_not (t x) : pop P st (.unOp .not t x) = match st.ev x with | .bool b => some (.bool !b) | _ => none := by simp only [pop]; cases st.ev x <;> rfl
@[go_sem] theorem pop_neg (t x) : pop P st (.unOp .neg t x) = match st.ev x with | .int k n => some (.int k (k.wrap (0 - n))) | _ => none := by simp only [pop]; cases st.ev x <;> rfl
@[go_sem] theorem pop_len (a ts) : pop P st (.call ⟨.builtin .len, a, ts⟩) = match ts[0]?, a[0]? with
      | some t, some x =>
        match P.underlying t, st.ev x with
        | some .string, .str s => some (.int .i64 s.size)
        | some (.slice _), .list _ rows => some (.int .i64 rows.length)
        | some (.slice _), .sl _ _ _ n _ => some (.int .i64 n)
        | _, _ => none
      | _, _ => none := rfl
@[go_sem] theorem pop_lookup (t x ix ok) : pop P st (.lookup t x ix ok) = match P.underlying t with
    | some (.map kt et) =>
      match P.underlying kt, zeT P et, mapEs st (st.ev x) with
      | some kd, some z, some es =>
        if scal kd = true ∧ (z.cells.toList.all fun u => u.oneCell') = true then
          match ifind kd (strip (st.ev ix)) es with
          | some r => some (if ok = true then .tup [r.getD (zv z), .bool r.isSome] else r.getD (zv z))
          | none => none
        else none
      | _, _, _ => none
    | _ => none := rfl
@[go_sem] theorem pop_cap (a ts) : pop P st (.call ⟨.builtin .cap, a, ts⟩) = match ts[0]?, a[0]? with
      | some t, some x =>
        match P.underlying t, st.ev x with
        | some (.slice _), .list .tight rows => some (.int .i64 rows.length)
        | some (.slice _), .sl _ _ _ _ n => some (.int .i64 n)
        | _, _ => none
      | _, _ => none := rfl
@[go_sem] theorem pop_build (t parts) : pop P st (.build t parts) = match plcs P t, zeT P t with
    | some pl, some z =>
      if (parts.toList.all fun p => okV (strip (st.ev p.2))) = true ∧ (z.cells.toList.all fun u => u.oneCell') = true then
        (fillP pl (z.cells.toList.map cv) (parts.toList.map fun p => (p.1, strip (st.ev p.2)))).map .agg
      else none
    | _, _ => none := rfl
@[go_sem] theorem pop_nilCheck (x) : pop P st (.nilCheck x) = match st.ev x with
    | .ptr b o => some (.ptr b o)
    | .eptr rows i o => some (.eptr rows i o)
    | .aptr z b i o => some (.aptr z b i o)
    | .loc s g o => if live st s g then some (.loc s g o) else none
    | .fn (.func f) a c => some (.fn (.func f) a c)
    | .iface t v => some (.iface t v)
    | _ => none := rfl
def tzer (P : Program) (t : TypeId) (ok : Bool) : Option IV := match ok, zeT P t with | true, some z => if (z.cells.toList.all fun u => u.oneCell') = true then some (.tup [zv z, .bool false]) else none | _, _ => none
def niT (d : Option TypeDesc) : Bool := match d with | some (.interface _) => false | some _ => true | none => false
@[go_sem] theorem pop_typeAssert (x xt t ok) : pop P st (.typeAssert x xt t ok) = if niT (P.underlying t) = true then (match st.ev x with
      | .iface u v => if u = t then some (if ok = true then .tup [v, .bool true] else v) else tzer P t ok
      | .niliface => tzer P t ok
      | _ => none) else none := by
  simp only [pop, tzer]
  cases h : P.underlying t with
  | none => rfl
  | some d => cases d <;> simp only [niT] <;> rfl
attribute [go_sem] niT tzer
@[go_sem] theorem pop_convert (s d x) : pop P st (.convert s d x) = match P.underlying s, P.underlying d, st.ev x with
    | some (.int _), some (.int k), .int _ n => some (.int k (k.wrap n))
    | some .string, some .string, .str s => some (.str s)
    | some (.slice e), some .string, .list _ rows =>
      match P.underlying e, bytesOf rows with
      | some (.int .u8), some bs => some (.str ⟨bs.toArray⟩)
      | _, _ => none
    | _, _, _ => none := rfl
attribute [go_sem] bytesOf
@[go_sem] theorem pop_slice (t x lo hi) : pop P st (.slice t x lo hi none) = slI P t (stripT (st.ev x)) (lo.map fun x => strip (st.ev x)) (hi.map fun x => strip (st.ev x)) := rfl
end
attribute [go_sem] scal mapEs zv ibin St.rd addA ixA slI fillP ibn ibits eqv isC
/-! iterators, strings and bytes: what simp knows of them -/
section
variable {P : Program} {hint : Nat → Nat} {st : St} {K : St → Prop} {Q : IExit → St → Prop} {dst : Option Tmp} {ty : TypeId} {pos : String} {after : Array Edge} {guard : Option (Nat × Bool)}
def moR (v : Option IObj) (k1 : List (IV × IV) → Prop) (k2 : List (IV × IV) → List MapEntry → Nat → Prop) : Prop := match v with | some (.map es) => k1 es | some (.pmap es ents clock) => k2 es ents clock | _ => False
@[congr] theorem moR_congr {v v' : Option IObj} {k1 : List (IV × IV) → Prop} {k2 : List (IV × IV) → List MapEntry → Nat → Prop} (h : v = v') : moR v k1 k2 = moR v' k1 k2 := by subst h; rfl
@[go_sem] theorem moR_map (es) (k1 : List (IV × IV) → Prop) (k2 : List (IV × IV) → List MapEntry → Nat → Prop) : moR (some (.map es)) k1 k2 = k1 es := rfl
@[go_sem] theorem moR_pmap (es ents clock) (k1 : List (IV × IV) → Prop) (k2 : List (IV × IV) → List MapEntry → Nat → Prop) : moR (some (.pmap es ents clock)) k1 k2 = k2 es ents clock := rfl
def pmK (v : Option IObj) (k : List MapEntry → Nat → Prop) : Prop := match v with | some (.pmap _ ents clock) => k ents clock | _ => False
@[congr] theorem pmK_congr {v v' : Option IObj} {k : List MapEntry → Nat → Prop} (h : v = v') : pmK v k = pmK v' k := by subst h; rfl
@[go_sem] theorem pmK_some (es ents clock) (k : List MapEntry → Nat → Prop) : pmK (some (.pmap es ents clock)) k = k ents clock := rfl
def miK (v : Option IObj) (k : Nat → List MapEntry → Nat → List (IV × IV) → Option (IV × IV) → Prop) : Prop := match v with | some (.mit m ents clock left cur) => k m ents clock left cur | _ => False
@[congr] theorem miK_congr {v v' : Option IObj} {k : Nat → List MapEntry → Nat → List (IV × IV) → Option (IV × IV) → Prop} (h : v = v') : miK v k = miK v' k := by subst h; rfl
@[go_sem] theorem miK_some (m ents clock left cur) (k : Nat → List MapEntry → Nat → List (IV × IV) → Option (IV × IV) → Prop) : miK (some (.mit m ents clock left cur)) k = k m ents clock left cur := rfl
def siK (v : Option IObj) (k : ByteArray → Nat → Prop) : Prop := match v with | some (.sit s p) => k s p | _ => False
@[congr] theorem siK_congr {v v' : Option IObj} {k : ByteArray → Nat → Prop} (h : v = v') : siK v k = siK v' k := by subst h; rfl
@[go_sem] theorem siK_some (s p) (k : ByteArray → Nat → Prop) : siK (some (.sit s p)) k = k s p := rfl
def rgK (P : Program) (st : St) (t : TypeId) (x : IV) (K : St → Prop) (dst : Option Tmp) : Prop := irng P st t x dst K
@[congr] theorem rgK_congr {t : TypeId} {x x' : IV} (h : x = x') : rgK P st t x K dst = rgK P st t x' K dst := by subst h; rfl
@[go_sem ↓] theorem iop_range (t : TypeId) (x : Operand) : iop P hint ⟨dst, .range t x, ty, pos, after, guard⟩ st K Q = rgK P st t (st.ev x) K dst := rfl
@[go_sem] theorem rgK_str (t : TypeId) (s : ByteArray) : rgK P st t (.str s) K dst = match P.underlying t with | some .string => ∀ b, st.h b = none → K ((st.setH b (.sit s 0)).put dst (.ptr b 0)) | _ => False := by
  simp only [rgK, irng, St.setH]; cases P.underlying t with
  | none => rfl
  | some d => cases d <;> rfl
@[go_sem] theorem rgK_mapv (t : TypeId) (m : Nat) : rgK P st t (.mapv m) K dst = match P.underlying t with
    | some (.map _ _) => moR (st.h m) (fun es => ∀ b ents clock, st.h b = none → ents.length = es.length → K (((st.setH m (.pmap es ents clock)).setH b (.mit m ents clock es none)).put dst (.ptr b 0))) (fun es ents clock => ∀ b, st.h b = none → K ((st.setH b (.mit m ents clock es none)).put dst (.ptr b 0)))
    | _ => False := by
  simp only [rgK, irng, St.setH, moR]; cases P.underlying t with
  | none => rfl
  | some d =>
    cases d <;> rfl
def nxK (st : St) (x : IV) (str : Bool) (K : St → Prop) (dst : Option Tmp) : Prop := inxt st x str dst K
@[congr] theorem nxK_congr {str : Bool} {x x' : IV} (h : x = x') : nxK st x str K dst = nxK st x' str K dst := by subst h; rfl
@[go_sem ↓] theorem iop_next (x : Operand) (str : Bool) : iop P hint ⟨dst, .next x str, ty, pos, after, guard⟩ st K Q = nxK st (st.ev x) str K dst := rfl
@[go_sem] theorem nxK_str (b : Nat) : nxK st (.ptr b 0) true K dst = siK (st.h b) fun s pos =>
      (pos < s.size → K ((st.setH b (.sit s (pos + (Utf8.decode s pos).2))).put dst (.tup [.bool true, .int .i64 pos, .int .i32 (Utf8.decode s pos).1]))) ∧ (s.size ≤ pos → K (st.put dst (.tup [.bool false]))) := by
  simp only [nxK, inxt, siK, St.setH]
  cases st.h b with
  | none => rfl
  | some o => cases o <;> rfl
@[go_sem] theorem nxK_map (b : Nat) : nxK st (.ptr b 0) false K dst = miK (st.h b) fun m ents clock left _ => pmK (st.h m) fun ents' clock' =>
      (ents' = ents ∧ clock' = clock) ∧ (left = [] → K (st.put dst (.tup [.bool false]))) ∧
        ∀ i k v, left[i]? = some (k, v) → K ((st.setH b (.mit m ents clock (left.eraseIdx i) (some (k, v)))).put dst (.tup [.bool true, k, v])) := by
  simp only [nxK, inxt, miK, pmK, St.setH]
  cases st.h b with
  | none => rfl
  | some o =>
    cases o <;> rfl
def enK (st : St) (x : IV) (K : St → Prop) (dst : Option Tmp) : Prop := ient st x dst K
@[congr] theorem enK_congr {x x' : IV} (h : x = x') : enK st x K dst = enK st x' K dst := by subst h; rfl
@[go_sem ↓] theorem iop_entry (x : Operand) : iop P hint ⟨dst, .entry x, ty, pos, after, guard⟩ st K Q = enK st (st.ev x) K dst := rfl
def cuK (v : Option (IV × IV)) (k : IV → IV → Prop) : Prop := match v with | some (a, b) => k a b | none => False
@[congr] theorem cuK_congr {v v' : Option (IV × IV)} {k : IV → IV → Prop} (h : v = v') : cuK v k = cuK v' k := by subst h; rfl
@[go_sem] theorem cuK_some (a b) (k : IV → IV → Prop) : cuK (some (a, b)) k = k a b := rfl
@[go_sem] theorem enK_ptr (b : Nat) : enK st (.ptr b 0) K dst = miK (st.h b) fun m ents clock _ cur => cuK cur fun k v => pmK (st.h m) fun ents' clock' => (ents' = ents ∧ clock' = clock) ∧ K (st.put dst (.tup [k, v])) := by
  simp only [enK, ient, miK, cuK, pmK]
  cases st.h b with
  | none => rfl
  | some o =>
    cases o <;> try rfl
    rename_i m ents clock left cur
    cases cur <;> rfl
/-- what a conversion makes of a value that no memory is needed for -/
def cvP (P : Program) (s d : TypeId) (x : IV) : Option IV :=
  match P.underlying s, P.underlying d, x with
    | some (.int _), some (.int k), .int _ n => some (.int k (k.wrap n))
    | some .string, some .string, .str s => some (.str s)
    | some (.slice e), some .string, .list _ rows =>
      match P.underlying e, bytesOf rows with
      | some (.int .u8), some bs => some (.str ⟨bs.toArray⟩)
      | _, _ => none
    | _, _, _ => none
def bsK (v : Option (List UInt8)) (k : List UInt8 → Prop) : Prop := match v with | some x => k x | none => False
@[congr] theorem bsK_congr {v v' : Option (List UInt8)} {k : List UInt8 → Prop} (h : v = v') : bsK v k = bsK v' k := by subst h; rfl
@[go_sem] theorem bsK_some (v) (k : List UInt8 → Prop) : bsK (some v) k = k v := rfl
def cvK (P : Program) (st : St) (s d : TypeId) (x : IV) (K : St → Prop) (dst : Option Tmp) : Prop :=
  match P.underlying s, P.underlying d, x with
  | some .string, some (.slice e), .str v => (P.underlying e = some (.int .u8) ∧ elZ P e = some 1 ∧ v.size ≤ 1000000000) ∧ K (st.put dst (.list .plain (strRows v)))
  | some (.slice e), some .string, .sl z b off n _ =>
    match P.underlying e with
    | some (.int .u8) => arK (st.h b) fun _ z' rows _ => (z = 1 ∧ z' = 1 ∧ off + n ≤ rows.length) ∧ bsK (bytesOf ((rows.drop off).take n)) fun bs => K (st.put dst (.str ⟨bs.toArray⟩))
    | _ => False
  | some (.slice e), some (.slice e'), .sl z b off n _ =>
    match P.underlying e' with
    | some (.int .u8) => arK (st.h b) fun _ z' rows _ => (s = d ∧ e = e' ∧ z = z' ∧ off + n ≤ rows.length) ∧ rK (.list .plain ((rows.drop off).take n)) fun v => K ((drop1 st b).put dst v)
    | _ => False
  | _, _, _ => vK (cvP P s d x) (putC K st dst)
@[congr] theorem cvK_congr {s d : TypeId} {x x' : IV} (h : x = x') : cvK P st s d x K dst = cvK P st s d x' K dst := by subst h; rfl
@[go_sem ↓] theorem iop_convert (s d x) : iop P hint ⟨dst, .convert s d x, ty, pos, after, guard⟩ st K Q = cvK P st s d (st.ev x) K dst := by
  simp only [iop, icvt, cvK]
  split
  · rename_i h1 h2 h3; simp only [h1, h2, h3]
  · rename_i e z b off n cap h1 h2 h3
    simp only [h1, h2, h3, arK, bsK]
    cases P.underlying e with
    | none => rfl
    | some d =>
      cases d <;> try rfl
      rename_i k
      cases st.h b with
      | none => cases k <;> rfl
      | some o => cases o <;> cases k <;> rfl
  · rename_i e e' z b off n cap h1 h2 h3
    simp only [h1, h2, h3, arK, rK, drop1]
    cases P.underlying e' with
    | none => rfl
    | some d =>
      cases d <;> try rfl
      rename_i k
      cases st.h b with
      | none => cases k <;> rfl
      | some o => cases o <;> cases k <;> rfl
  · rename_i h1 h2 h6
    have : pop P st (.convert s d x) = cvP P s d (st.ev x) := rfl
    rw [this]
    split
    · rename_i h3 h4 h5; exact absurd h5 (h1 _ _ h3 h4)
    · rename_i h3 h4 h5; exact absurd h5 (h2 _ _ _ _ _ _ h3 h4)
    · rename_i h3 h4 h5; exact absurd h5 (h6 _ _ _ _ _ _ _ h3 h4)
    · rfl
@[go_sem] theorem cvK_int (s d : TypeId) (k n) : cvK P st s d (.int k n) K dst = vK (match P.underlying s, P.underlying d with | some (.int _), some (.int k) => some (.int k (k.wrap n)) | _, _ => none) (putC K st dst) := by
  have : cvK P st s d (.int k n) K dst = vK (cvP P s d (.int k n)) (putC K st dst) := by
    simp only [cvK]
    cases P.underlying s with
    | none => rfl
    | some a =>
      cases P.underlying d with
      | none => cases a <;> rfl
      | some b => cases a <;> cases b <;> rfl
  rw [this]
  simp only [cvP]
  cases P.underlying s with
  | none => rfl
  | some a =>
    cases P.underlying d with
    | none => cases a <;> rfl
    | some b => cases a <;> cases b <;> rfl
@[go_sem] theorem cvK_list (s d : TypeId) (tk rows) : cvK P st s d (.list tk rows) K dst = vK (match P.underlying s, P.underlying d with
    | some (.slice e), some .string => (match P.underlying e, bytesOf rows with | some (.int .u8), some bs => some (.str ⟨bs.toArray⟩) | _, _ => none)
    | _, _ => none) (putC K st dst) := by
  have : cvK P st s d (.list tk rows) K dst = vK (cvP P s d (.list tk rows)) (putC K st dst) := by
    simp only [cvK]
    cases P.underlying s with
    | none => rfl
    | some a =>
      cases P.underlying d with
      | none => cases a <;> rfl
      | some b => cases a <;> cases b <;> rfl
  rw [this]
  simp only [cvP]
  cases P.underlying s with
  | none => rfl
  | some a =>
    cases P.underlying d with
    | none => cases a <;> rfl
    | some b => cases a <;> cases b <;> rfl
@[go_sem] theorem cvK_str (s d : TypeId) (v) : cvK P st s d (.str v) K dst = match P.underlying s, P.underlying d with
    | some .string, some (.slice e) => (P.underlying e = some (.int .u8) ∧ elZ P e = some 1 ∧ v.size ≤ 1000000000) ∧ K (st.put dst (.list .plain (strRows v)))
    | some .string, some .string => putC K st dst (.str v)
    | _, _ => False := by
  simp only [cvK, cvP]
  cases P.underlying s with
  | none => rfl
  | some a =>
    cases P.underlying d with
    | none => cases a <;> rfl
    | some b => cases a <;> cases b <;> rfl
@[go_sem] theorem cvK_sl (s d : TypeId) (z b off n cap) : cvK P st s d (.sl z b off n cap) K dst = match P.underlying s, P.underlying d with
    | some (.slice e), some .string =>
      (match P.underlying e with
      | some (.int .u8) => arK (st.h b) fun _ z' rows _ => (z = 1 ∧ z' = 1 ∧ off + n ≤ rows.length) ∧ bsK (bytesOf ((rows.drop off).take n)) fun bs => K (st.put dst (.str ⟨bs.toArray⟩))
      | _ => False)
    | some (.slice e), some (.slice e') =>
      (match P.underlying e' with
      | some (.int .u8) => arK (st.h b) fun _ z' rows _ => (s = d ∧ e = e' ∧ z = z' ∧ off + n ≤ rows.length) ∧ rK (.list .plain ((rows.drop off).take n)) fun v => K ((drop1 st b).put dst v)
      | _ => False)
    | _, _ => False := by
  simp only [cvK, cvP]
  cases P.underlying s with
  | none => rfl
  | some a =>
    cases P.underlying d with
    | none => cases a <;> rfl
    | some b => cases a <;> cases b <;> rfl
def asK (P : Program) (st : St) (d : Nat) (t t' : TypeId) (x y : IV) (K : St → Prop) : Prop := iapS P st d t t' x y K
@[congr] theorem asK_congr {d : Nat} {t t' : TypeId} {x x' y y' : IV} (h : x = x') (h' : y = y') : asK P st d t t' x y K = asK P st d t t' x' y' K := by subst h; subst h'; rfl
@[go_sem ↓] theorem iop_appendS (d : Nat) (x y : Operand) (t t' : TypeId) (hd : hint d = 16) : iop P hint ⟨some d, .call ⟨.builtin .append, #[x, y], #[t, t']⟩, ty, pos, after, guard⟩ st K Q =
    asK P st d t t' (st.ev x) (st.ev y) K := by
  simp only [iop, hd, if_true, asK]
@[go_sem] theorem asK_sl (d : Nat) (t t' : TypeId) (z b off n cap : Nat) (s) : asK P st d t t' (.sl z b off n cap) (.str s) K = arK (st.h b) fun e z' rows tot => eoK (elT P t) fun e' => match P.underlying t' with
      | some .string => (off = 0 ∧ e = e' ∧ z = 1 ∧ z' = 1 ∧ elZ P e = some 1 ∧ n = rows.length ∧ tot = cap ∧ roomy P e (rows.length + s.size)) ∧
        (n + s.size ≤ cap → K ((st.setH b (.arr e 1 (rows ++ strRows s) cap)).put (some d) (.sl 1 b 0 (n + s.size) cap))) ∧
        (cap < n + s.size → ∀ b' cap', st.h b' = none → n + s.size ≤ cap' → K ((st.setH b' (.arr e 1 (rows ++ strRows s) cap')).put (some d) (.sl 1 b' 0 (n + s.size) cap')))
      | _ => False := by
  simp only [asK, iapS, arK, eoK, St.setH]
  cases st.h b with
  | none => rfl
  | some o =>
    cases o with
    | arr e z' rows tot => cases elT P t <;> (try rfl); cases P.underlying t' with | none => rfl | some d => cases d <;> rfl
    | _ => rfl
@[go_sem] theorem asK_list (d : Nat) (t t' : TypeId) (rows s) : asK P st d t t' (.list .tight rows) (.str s) K = eoK (elT P t) fun e => match P.underlying t' with
      | some .string => (elZ P e = some 1 ∧ roomy P e (rows.length + s.size) ∧ uni 1 rows = true) ∧
        (s.size = 0 → K (st.put (some d) (.list .tight rows))) ∧
        (0 < s.size → ∀ b' cap', st.h b' = none → rows.length + s.size ≤ cap' → K ((st.setH b' (.arr e 1 (rows ++ strRows s) cap')).put (some d) (.sl 1 b' 0 (rows.length + s.size) cap')))
      | _ => False := by
  simp only [asK, iapS, eoK, St.setH]
  cases elT P t <;> (try rfl); cases P.underlying t' with | none => rfl | some d => cases d <;> rfl
def sdK (st : St) (x : IV) (K : St → Prop) (dst : Option Tmp) : Prop := isdt st x dst K
@[congr] theorem sdK_congr {x x' : IV} (h : x = x') : sdK st x K dst = sdK st x' K dst := by subst h; rfl
@[go_sem ↓] theorem iop_sliceData (x : Operand) (t) : iop P hint ⟨dst, .call ⟨.builtin .unsafeSliceData, #[x], t⟩, ty, pos, after, guard⟩ st K Q = sdK st (st.ev x) K dst := rfl
@[go_sem] theorem sdK_sl (z b n cap) : sdK st (.sl z b 0 n cap) K dst = ((z = 1 ∧ 0 < cap) ∧ K (st.put dst (.aptr z b 0 0))) := rfl
def usK (P : Program) (st : St) (t : TypeId) (x y : IV) (K : St → Prop) (dst : Option Tmp) : Prop := iust P st t x y dst K
@[congr] theorem usK_congr {t : TypeId} {x x' y y' : IV} (h : x = x') (h' : y = y') : usK P st t x y K dst = usK P st t x' y' K dst := by subst h; subst h'; rfl
@[go_sem ↓] theorem iop_unsafeString (x y : Operand) (t t') : iop P hint ⟨dst, .call ⟨.builtin .unsafeString, #[x, y], #[t, t']⟩, ty, pos, after, guard⟩ st K Q = usK P st t (st.ev x) (st.ev y) K dst := rfl
@[go_sem ↓] theorem iop_buildSliceH (t : TypeId) (len : Nat) (parts) (h17 : dst.any (hint · = 17) = true) : iop P hint ⟨dst, .buildSlice t len parts, ty, pos, after, guard⟩ st K Q =
    eoK (elT P t) fun e => dK (elZ P e) fun z =>
      (len = parts.size ∧ len * z ≤ 16777216 ∧ idxOk 0 parts.toList = true ∧
      (parts.toList.all fun p => okV (strip (st.ev p.2))) = true ∧ uni z (parts.toList.map fun p => icells (strip (st.ev p.2))) = true) ∧
      ∀ b, st.h b = none → K ((st.setH b (.arr e z (parts.toList.map fun p => icells (strip (st.ev p.2))) len)).put dst (.sl z b 0 len len)) := by
  simp only [iop, dK, eoK, h17, if_true, St.setH]; cases elT P t with
  | none => rfl
  | some e => cases h : elZ P e <;> simp only [h] <;> rfl
end
/-! a list of the body's own, that grows by append at the sites S -/
def Own (S : List Nat) (x : Nat → Option (Nat × Nat × TypeId)) (e : TypeId) (v : IV) (rows : List (List IV)) : Prop :=
  v = .list .tight rows ∨ ∃ s g, s ∈ S ∧ v = .list (.row s g) rows ∧ x s = some (g, rows.length, e)

theorem Own.tight {S x e rows} : Own S x e (.list .tight rows) rows := .inl rfl
theorem Own.strip {S x e v rows} (h : Own S x e v rows) : Idl.strip v = .list .plain rows := by
  rcases h with rfl | ⟨s, g, _, rfl, _⟩ <;> rfl
theorem Own.stripT_icells {S x e v rows} (h : Own S x e v rows) : icells v = [v] := by
  rcases h with rfl | ⟨s, g, _, rfl, _⟩ <;> rfl
theorem Own.congr {S x x' e v rows} (h : Own S x e v rows) (hx : ∀ s ∈ S, x' s = x s) : Own S x' e v rows := by
  rcases h with rfl | ⟨s, g, hs, rfl, h⟩
  · exact .inl rfl
  · exact .inr ⟨s, g, hs, rfl, by rw [hx s hs]; exact h⟩
theorem Own.list {S x e v rows} (h : Own S x e v rows) : ∃ tk, v = .list tk rows := by
  rcases h with rfl | ⟨s, g, _, rfl, _⟩ <;> exact ⟨_, rfl⟩

theorem aK_own {P : Program} {st : St} {S : List Nat} {d : Nat} {t e : TypeId} {z : Nat} {v : IV} {rows ys : List (List IV)} {tk : Tok} {k : IV → (Nat → Option (Nat × Nat × TypeId)) → Prop}
    (ho : Own S st.x e v rows) (hd : d ∈ S) (he : elT P t = some e) (hz : elZ P e = some z) (hr : roomy P e (rows.length + ys.length)) (hu : uni z rows = true) (hu2 : uni z ys = true)
    (h : ∀ r x', Own S x' e r (rows ++ ys) → (∀ s, s ∉ S → x' s = st.x s) → k r x') : aK (iapp P st d t v (.list tk ys)) k := by
  unfold iapp
  obtain ⟨tk0, hv⟩ := ho.list
  subst hv
  simp only [he, hz]
  by_cases hy : ys = []
  · subst hy
    simp only [if_true, aK]
    exact h _ _ (by simpa using ho) (fun _ _ => rfl)
  · rw [if_neg hy, if_pos ⟨hr, hu, hu2⟩]
    rcases ho with ho | ⟨s, g, hs, ho, hx⟩
    · cases ho
      simp only [aK]
      exact h _ _ (.inr ⟨d, _, hd, rfl, by simp [upd]⟩) (fun s hs => by simp only [upd]; rw [if_neg (fun (q : s = d) => hs (q ▸ hd))])
    · cases ho
      simp only [hx, and_self, if_true, aK]
      exact h _ _ (.inr ⟨s, g, hs, rfl, by simp [upd]⟩) (fun s' hs' => by simp only [upd]; rw [if_neg (fun (q : s' = s) => hs' (q ▸ hs))])
/-- a loop's counter, as a measure's part -/
def tn (v : IV) : Nat := match v with | .int _ i => i.toNat | _ => 0
@[go_sem] theorem tn_int (k : IntKind) (i : Int) : tn (.int k i) = i.toNat := rfl
section
variable (k : IntKind) (n : Int) (b : Bool) (s : ByteArray) (A : Option Addr) (l c : Nat)
@[go_sem] theorem one_int : (Value.int k n).oneCell' = true := rfl
@[go_sem] theorem one_bool : (Value.bool b).oneCell' = true := rfl
@[go_sem] theorem one_str : (Value.string s).oneCell' = true := rfl
@[go_sem] theorem one_slice : (Value.slice A l c).oneCell' = true := rfl
@[go_sem] theorem one_ptr (p) : (Value.pointer p).oneCell' = true := rfl
@[go_sem] theorem one_map (p) : (Value.map p).oneCell' = true := rfl
@[go_sem] theorem one_niliface : Value.nilIface.oneCell' = true := rfl
@[go_sem] theorem one_nilfn : Value.nilFunc.oneCell' = true := rfl
end
/-! a loop whose other slots stand -/
def rng (l : List Nat) (a b : Nat) : Nat → Bool := fun k => l.contains k || (decide (a ≤ k) && decide (k ≤ b))
@[go_sem] theorem rng_eq (l : List Nat) (a b k : Nat) : rng l a b k = (l.contains k || (decide (a ≤ k) && decide (k ≤ b))) := rfl
def nom : Nat → Bool := fun _ => false
@[go_sem] theorem nom_eq (k : Nat) : nom k = false := rfl
structure Fr (M MM : Nat → Bool) (st s : St) : Prop where
  t : ∀ k, M k = false → s.t k = st.t k
  m : ∀ k, MM k = false → s.m k = st.m k
theorem Fr.refl (M MM : Nat → Bool) (st : St) : Fr M MM st st := ⟨fun _ _ => rfl, fun _ _ => rfl⟩
@[go_sem] theorem Fr.refl_eq (M MM : Nat → Bool) (st : St) : Fr M MM st st = True := eq_true (Fr.refl M MM st)
section
variable {M MM : Nat → Bool} {st s : St}
theorem Fr.put_eq {d : Nat} {v : IV} (h : M d = true) : Fr M MM st (s.put (some d) v) = Fr M MM st s := by
  apply propext
  constructor
  · intro hf
    refine ⟨fun k hk => ?_, hf.m⟩
    have := hf.t k hk
    have hne : k ≠ d := by rintro rfl; rw [h] at hk; cases hk
    simpa [go_sem, hne] using this
  · intro hf
    refine ⟨fun k hk => ?_, hf.m⟩
    have hne : k ≠ d := by rintro rfl; rw [h] at hk; cases hk
    simpa [go_sem, hne] using hf.t k hk
theorem Fr.setM_eq {d : Nat} {v : Nat × List IV} (h : MM d = true) : Fr M MM st (s.setM d v) = Fr M MM st s := by
  apply propext
  constructor
  · intro hf
    refine ⟨hf.t, fun k hk => ?_⟩
    have := hf.m k hk
    have hne : k ≠ d := by rintro rfl; rw [h] at hk; cases hk
    simpa [go_sem, hne] using this
  · intro hf
    refine ⟨hf.t, fun k hk => ?_⟩
    have hne : k ≠ d := by rintro rfl; rw [h] at hk; cases hk
    simpa [go_sem, hne] using hf.m k hk
theorem Fr.setH_eq {b : Nat} {o : IObj} : Fr M MM st (s.setH b o) = Fr M MM st s := propext ⟨fun h => ⟨h.t, h.m⟩, fun h => ⟨h.t, h.m⟩⟩
theorem Fr.setX_eq {x : Nat → Option (Nat × Nat × TypeId)} : Fr M MM st (s.setX x) = Fr M MM st s := propext ⟨fun h => ⟨h.t, h.m⟩, fun h => ⟨h.t, h.m⟩⟩
theorem Fr.putH_eq {h : Heap} : Fr M MM st (s.putH h) = Fr M MM st s := propext ⟨fun h => ⟨h.t, h.m⟩, fun h => ⟨h.t, h.m⟩⟩
end
attribute [go_sem] Fr.put_eq Fr.setM_eq Fr.setH_eq Fr.setX_eq Fr.putH_eq
/-- a loop: J stands for the next round, as a name that simp cannot enter -/
theorem iwp_loopF {P : Program} {hint : Nat → Nat} {a : Code} {Q : IExit → St → Prop} {st : St} (M MM : Nat → Bool) (I : St → Prop) (μ : St → Nat) (h0 : I st)
    (h : ∀ (J : St → Prop) s, (∀ s', I s' → μ s' < μ s → J s') → Fr M MM st s → I s → iwp P hint a (seqQ (fun s' => Fr M MM st s' ∧ J s') Q) s) : iwp P hint (.loop a) Q st :=
  iwp_loop (fun s => Fr M MM st s ∧ I s) μ ⟨Fr.refl _ _ _, h0⟩ fun s hs => by
    have := h (fun s' => I s' ∧ μ s' < μ s) s (fun _ h1 h2 => ⟨h1, h2⟩) hs.1 hs.2
    have e : (fun s' => (Fr M MM st s' ∧ I s') ∧ μ s' < μ s) = (fun s' => Fr M MM st s' ∧ (I s' ∧ μ s' < μ s)) := by funext s'; exact propext and_assoc
    rw [e]; exact this
attribute [go_sem] bsl
theorem Fr.trans {M MM M' MM' : Nat → Bool} {st s2 s3 : St} (h1 : Fr M MM st s2) (h2 : Fr M' MM' s2 s3) (hs : ∀ k, M k = false → M' k = false) (hs2 : ∀ k, MM k = false → MM' k = false) : Fr M MM st s3 :=
  ⟨fun k hk => (h2.t k (hs k hk)).trans (h1.t k hk), fun k hk => (h2.m k (hs2 k hk)).trans (h1.m k hk)⟩
theorem rng_sub {l l' : List Nat} {a b a' b' : Nat} (h : (l'.all (rng l a b) && decide (a ≤ a') && decide (b' ≤ b)) = true) : ∀ k, rng l a b k = false → rng l' a' b' k = false := by
  intro k hk
  simp only [Bool.and_eq_true, decide_eq_true_eq, List.all_eq_true] at h
  obtain ⟨⟨h1, h2⟩, h3⟩ := h
  cases hc : rng l' a' b' k with
  | false => rfl
  | true =>
    exfalso
    simp only [rng, Bool.or_eq_true, Bool.and_eq_true, decide_eq_true_eq, List.contains_iff_mem] at hc
    rcases hc with hc | hc
    · rw [h1 k hc] at hk; cases hk
    · simp only [rng, Bool.or_eq_false_iff, Bool.and_eq_false_iff, decide_eq_false_iff_not] at hk
      omega
theorem nom_sub : ∀ k, nom k = false → nom k = false := fun _ h => h
theorem Fr.trans2 {M MM M' MM' : Nat → Bool} {st s s2 s3 : St} (h1 : Fr M MM st s) (h2 : Fr M' MM' s2 s3) (e : Fr M MM st s2 = Fr M MM st s) (hs : ∀ k, M k = false → M' k = false) (hs2 : ∀ k, MM k = false → MM' k = false) : Fr M MM st s3 :=
  Fr.trans (e ▸ h1) h2 hs hs2
@[go_sem high] theorem splice_all {cs vs : List IV} (h : vs.length = cs.length) : splice cs 0 vs = vs := by unfold splice; simp [h]
@[go_sem low] theorem splice_eq (cs : List IV) (off : Nat) (vs : List IV) : splice cs off vs = cs.take off ++ vs ++ cs.drop (off + vs.length) := rfl
@[go_sem] theorem strip_list (tk : Tok) (rows : List (List IV)) : strip (.list tk rows) = .list .plain rows := rfl
section
variable (P : Program) (hint : Nat → Nat) (Q : IExit → St → Prop) (st : St) (K : St → Prop) (dst : Option Tmp) (ty : TypeId) (pos : String) (after : Array Edge) (guard : Option (Nat × Bool))
@[go_sem ↓] theorem dop1_alloc (e : TypeId) : dop1 P hint ⟨dst, .alloc e, ty, pos, after, guard⟩ st K Q = iop P hint ⟨dst, .alloc e, ty, pos, after, guard⟩ st K Q := by simp [dop1, kd, sto9]
end
end Go.Idl
