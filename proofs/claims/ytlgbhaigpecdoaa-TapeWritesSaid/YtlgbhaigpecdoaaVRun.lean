/- A function's run. -/
import Derived.Test.YtlgbhaigpecdoaaVSkel
set_option linter.unusedVariables false
set_option linter.unusedSimpArgs false
namespace Go.Proofs.Ytlgbhaigpecdoaa.V
open Go

section cps
variable {R : Type}
def isU : SV → Bool
  | .undef => true
  | _ => false
def boolOk (E : Env) (t : TypeId) : SV → Bool
  | .con .bool _ => match E.get t with
    | some te => match te.d with
      | .bool => true
      | _ => false
    | none => false
  | _ => true
/-- A row part of which is overwritten. -/
def spl {α : Type} (xs : List α) (lo k : Nat) (ys : List α) : List α := xs.take lo ++ ys.take k ++ xs.drop (lo + k)
/-- A copy into a row that a box holds. -/
def copyB (st : St) (r lo : Nat) (nn : Option Nat) (te : TE) (v : SV) (K : Nat → St → Option R) : Option R :=
  match bget st.boxes r with
  | some b => if h : b.t = .slc te.ty then
      if b.mem.isNone = true ∧ isRow b.m = true ∧ flat te.ty = true ∧ sz te.ty = 1 ∧ isAgg v = false then
        look st.boxes v (.slc te.ty) fun ys =>
          if 0 < List.length ys ∧ 0 < (nn.getD (List.length (h ▸ b.x : den (.slc te.ty)))) then
            K (min (List.length ys) (nn.getD (List.length (h ▸ b.x : den (.slc te.ty)))))
              { slots := st.slots.map (kill1 r), boxes := bset r { b with x := (h.symm ▸ spl (h ▸ b.x : den (.slc te.ty)) lo (min (List.length ys) (nn.getD (List.length (h ▸ b.x : den (.slc te.ty))))) ys : den b.t) } st.boxes }
          else none
      else none
    else none
  | none => none
where
  isRow : Md → Bool
    | .own _ => true
    | _ => false
def copyS (st : St) (te : TE) (s v : SV) (K : Nat → St → Option R) : Option R :=
  match s with
  | .ref r [] => copyB st r 0 none te v K
  | .sub r [] lo n => copyB st r lo (some n) te v K
  | _ => none
def builtinS (c : Cx) (st : St) (o : Oper) (b : Builtin) (tys : List TypeId) (ss : List SV) (K : St → Option R) : Option R :=
  match b, ss with
  | .len, [s] => match tys with
    | [t] => match c.E.get t with
      | some te => match te.d with
        | .str => if strS s = true then lenS st.boxes s fun n => K (st.set o.dst (.con (.int .i64) n)) else none
        | .slc _ => if strS s = false then lenS st.boxes s fun n => K (st.set o.dst (.con (.int .i64) n)) else none
        | _ => none
      | none => none
    | _ => none
  | .cap, [s] => match tys with
    | [t] => match c.E.get t with
      | some te => match te.d with
        | .slc _ => match s with
          | .emp => K (st.set o.dst (.con (.int .i64) (0 : Int)))
          | .raw (.slice none 0 0) => K (st.set o.dst (.con (.int .i64) (0 : Int)))
          | _ => none
        | _ => none
      | none => none
    | _ => none
  | .min, [s, t] => asInt s fun k x => asInt t fun j y => if k = j then K (st.set o.dst (.con (.int k) (if y < x then y else x))) else none
  | .max, [s, t] => asInt s fun k x => asInt t fun j y => if k = j then K (st.set o.dst (.con (.int k) (if y > x then y else x))) else none
  | .append, [s, v] => match o.dst, tys with
    | some d, [t, u] => if t = u then match c.E.get t with
      | some te => match te.d with
        | .slc e => match c.E.get e with
          | some ee => if ee.z = true then appS c st d ee s v K else none
          | none => none
        | _ => none
      | none => none
      else match s, c.E.get t, c.E.get u with
        | .raw (.slice none 0 0), some te, some ue => match te.d, ue.d with
          | .slc e, .int _ => match c.E.get e with
            | some ee => if ee.z = true then asInt v fun _ n => if 0 < n ∧ n * ee.bytes ≤ (most : Int) ∧ 0 < sz ee.ty ∧ 0 < ee.bytes then
                K ((st.lay (d * 16) { mem := none, t := .slc ee.ty, m := .own (fitM ee.ty (c.mode d te.ty).elem), x := List.replicate n.toNat (dflt ee.ty) }).set (some d) (.ref (d * 16) []))
              else none
              else none
            | none => none
          | _, _ => none
        | _, _, _ => none
    | _, _ => none
  | .copy, [s, v] => match tys with
    | [t, u] => match c.E.get t, c.E.get u with
      | some te, some ue => match te.d, ue.d with
        | .slc e, .slc _ => match c.E.get e with
          | some ee => copyS st ee s v fun n st => K (st.set o.dst (.con (.int .i64) (n : Nat)))
          | none => none
        | _, _ => none
      | _, _ => none
    | _ => none
  | _, _ => none
def isRo : Md → Bool
  | .ro => true
  | _ => false
def isNilC : Operand → Bool
  | .const (.slice none 0 0) => true
  | _ => false
open Classical in
/-- Whether it is nil is not known, where it is empty: the answer must be the same. -/
noncomputable def nilT (b : Bool) (x y : Option R) : Option R := if b = true then (if x = y then x else none) else y
noncomputable def nilS (op : BinOp) (s : SV) (K : Bool → Option R) : Option R :=
  match s with
  | .con (.slc _) xs => match op with
    | .eql => nilT (List.isEmpty xs) (K true) (K false)
    | .neq => nilT (List.isEmpty xs) (K false) (K true)
    | _ => none
  | .raw (.slice none 0 0) => match op with
    | .eql => K true
    | .neq => K false
    | _ => none
  | _ => none
def slcId (E : Env) (t : TypeId) : Bool :=
  match E.get t with
  | some te => match te.d with
    | .slc _ => true
    | _ => false
  | none => false
/-- One operation. -/
noncomputable def stepS (c : Cx) (st : St) (o : Oper) (K : St → Option R) : Option R :=
  match o.op with
  | .move x => K (st.set o.dst (st.ev x))
  | .assign x => K (st.set o.dst (st.ev x))
  | .pick g a b => asBool (st.ev g) fun v => cond v (K (st.set o.dst (st.ev a))) (K (st.set o.dst (st.ev b)))
  | .alloc e => match c.E.get e, o.dst with
    | some te, some d => if te.z = true then
        K ((st.lay (d * 16) { mem := some e, t := te.ty, m := fitM te.ty (c.mode d te.ty), x := dflt te.ty }).set (some d) (.ptr (d * 16) []))
      else none
    | _, _ => none
  | .box e v => match c.E.get e, o.dst with
    | some te, some d => toC st (st.ev v) te.ty (c.mode d te.ty) fun x m st =>
        K ((st.lay (d * 16) { mem := some e, t := te.ty, m := m, x := x }).set (some d) (.ptr (d * 16) []))
    | _, _ => none
  | .build t parts => match c.E.get t with
    | some te => match te.d with
      | .struct _ => if te.z = true then (buildL st parts.toList (fieldTys te.ty) ((fieldTys te.ty).map zsv)).bind fun l => K (st.set o.dst (aggOf l)) else none
      | _ => none
    | none => none
  | .buildSlice t n parts => match c.E.get t, o.dst with
    | some te, some d => match te.d with
      | .slc e => match c.E.get e with
        | some ee => if ee.z = true ∧ n * sz ee.ty ≤ 16777216 ∧ 0 < sz ee.ty ∧ (elemsOk n parts.toList = true) then elems ee.ty (fitM ee.ty (c.mode d te.ty).elem) (parts.toList.map fun p => st.ev p.2) st fun xs st =>
          if isRo (c.mode d te.ty) = true then (if live ee.ty (fitM ee.ty (c.mode d te.ty).elem) = true then K (st.set (some d) (.con (.slc ee.ty) xs)) else none) else
          K ((st.lay (d * 16) { mem := none, t := .slc ee.ty, m := .own (fitM ee.ty (c.mode d te.ty).elem), x := xs }).set (some d) (.ref (d * 16) []))
          else none
        | none => none
      | _ => none
    | _, _ => none
  | .load t a => match c.E.get t with
    | some te => loadS st.boxes te.ty (st.ev a) fun s => K (st.set o.dst s)
    | none => none
  | .store t a v => match c.E.get t with
    | some te => storeS c st te.ty (st.ev a) (st.ev v) fun st => K (st.set o.dst .tnil)
    | none => none
  | .nilCheck x => match st.ev x with
    | .ptr r q => if (bget st.boxes r).isSome = true then K (st.set o.dst (.ptr r q)) else none
    | .pro t x => K (st.set o.dst (.pro t x))
    | .fn f cs => K (st.set o.dst (.fn f cs))
    | _ => none
  | .binOp op t x y _ => if isNilC y = true then (if slcId c.E t = true then nilS op (st.ev x) fun b => K (st.set o.dst (.con .bool b)) else none) else if boolOk c.E t (st.ev x) = true then binS op (st.ev x) (st.ev y) fun s => K (st.set o.dst s) else none
  | .unOp op t x => match op with
    | .not => asBool (st.ev x) fun b => K (st.set o.dst (.con .bool (!b)))
    | .neg => asInt (st.ev x) fun k n => K (st.set o.dst (.con (.int k) (k.wrap (0 - n))))
    | .xor => asInt (st.ev x) fun k n => K (st.set o.dst (.con (.int k) (bitop k .xor (if k.signed = true then -1 else k.max) n)))
    | _ => none
  | .convert src dst x => match c.E.get src, c.E.get dst with
    | some ts, some td => match ts.d, td.d with
      | _, .int k => asInt (st.ev x) fun _ n => K (st.set o.dst (.con (.int k) (k.wrap n)))
      | .slc e, .str => match c.E.get e with
        | some te => match te.d with
          | .int .u8 => if isAgg (st.ev x) = false then look st.boxes (st.ev x) (.slc (.int .u8)) fun l => K (st.set o.dst (.con .str (b2s l))) else none
          | _ => none
        | none => none
      | .str, .slc e => match c.E.get e with
        | some te => match te.d with
          | .int .u8 => asStr (st.ev x) fun s => K (st.set o.dst (.con (.slc (.int .u8)) (s2b s)))
          | _ => none
        | none => none
      | _, _ => none
    | _, _ => none
  | .makeFunc (.func f) first caps => match first.toList with
    | [] => K (st.set o.dst (.fn f (tupleOf (caps.toList.map st.ev))))
    | _ => none
  | .makeSlice t l cp => match c.E.get t, o.dst with
    | some te, some d => match te.d with
      | .slc e => match c.E.get e with
        | some ee => if ee.z = true then asInt (st.ev l) fun _ n => asInt (st.ev cp) fun _ m =>
          if 0 ≤ n ∧ n ≤ m ∧ m * ee.bytes ≤ (most : Int) ∧ 0 < sz ee.ty ∧ 0 < ee.bytes then
            K ((st.lay (d * 16) { mem := none, t := .slc ee.ty, m := .own (fitM ee.ty (c.mode d te.ty).elem), x := List.replicate n.toNat (dflt ee.ty) }).set (some d) (.ref (d * 16) []))
          else none
          else none
        | none => none
      | _ => none
    | _, _ => none
  | .slice t x lo hi mx => match c.E.get t with
    | some te => match te.d with
      | .slc _ => sliceS st te.ty (st.ev x) lo hi mx fun s => K (st.set o.dst s)
      | .str => sliceS st te.ty (st.ev x) lo hi mx fun s => K (st.set o.dst s)
      | _ => none
    | none => none
  | .fieldAddr t x f => match c.E.get t with
    | some te => match te.d with
      | .struct _ => fieldPtr st.boxes te.ty f (st.ev x) fun s => K (st.set o.dst s)
      | _ => none
    | none => none
  | .field t x f => match c.E.get t with
    | some te => match te.d with
      | .struct _ => if fitsTy te.ty (st.ev x) = true ∧ f < (fieldTys te.ty).length ∧ isU (st.ev x) = false then K (st.set o.dst (fieldOf f (st.ev x))) else none
      | _ => none
    | none => none
  | .indexAddr t x i => match c.E.get t with
    | some te => match te.d with
      | .slc _ => asInt (st.ev i) fun _ i => elemS st.boxes te.ty (st.ev x) i fun s => K (st.set o.dst s)
      | _ => none
    | none => none
  | .index t x i => match c.E.get t with
    | some te => match te.d with
      | .str => asInt (st.ev i) fun _ i => asStr (st.ev x) fun s => if 0 ≤ i ∧ i < (s.size : Int) then K (st.set o.dst (.con (.int .u8) (bt s i))) else none
      | _ => none
    | none => none
  | .extract x i => (nth i (st.ev x)).bind fun s => K (st.set o.dst s)
  | .call cl => match cl.callee with
    | .builtin b => builtinS c st o b cl.argTypes.toList (cl.args.toList.map st.ev) K
    | .value f => match st.ev f with
      | .fn f caps => if ends caps = true then callS c st o.dst f (cl.args.toList.map st.ev ++ untup caps) K else none
      | _ => none
    | .invoke _ _ => none
  | _ => none
/-- A region's operations. -/
noncomputable def opsS (c : Cx) (ops : Array Oper) : List Nat → St → (St → Option R) → Option R
  | [], st, K => K st
  | i :: rest, st, K => match ops[i]? with
    | none => none
    | some o => match o.guard with
      | none => stepS c st o fun st => opsS c ops rest st K
      | some (j, want) => match (ops[j]?).bind (·.dst) with
        | none => none
        | some g => match sget st.slots g with
          | .con .bool v =>
            cond v
              (cond want (stepS c (st.set (some g) (.con .bool true)) o fun st => opsS c ops rest st K) (opsS c ops rest ((st.set (some g) (.con .bool true)).set o.dst .tnil) K))
              (cond want (opsS c ops rest ((st.set (some g) (.con .bool false)).set o.dst .tnil) K) (stepS c (st.set (some g) (.con .bool false)) o fun st => opsS c ops rest st K))
          | .tnil => opsS c ops rest (st.set o.dst .tnil) K
          | _ => none
/-- It only sets its own slot. -/
def quiet (o : Oper) : Bool :=
  match o.op with
  | .move _ | .assign _ | .pick .. | .build .. | .load .. | .nilCheck _ | .unOp .. | .convert .. | .slice .. | .fieldAddr .. | .field .. | .indexAddr .. | .index .. | .extract .. => true
  | .binOp _ _ _ y _ => !isNilC y
  | .call cl => match cl.callee, cl.argTypes.toList, cl.args.toList with
    | .builtin .len, [_], [_] => true
    | _, _, _ => false
  | _ => false
def rd (o : Oper) : List Operand :=
  match o.op with
  | .move x => [x]
  | .assign x => [x]
  | .pick g a b => [g, a, b]
  | .alloc _ => []
  | .box _ v => [v]
  | .build _ parts => parts.toList.map (·.2)
  | .buildSlice _ _ parts => parts.toList.map (·.2)
  | .load _ a => [a]
  | .store _ a v => [a, v]
  | .nilCheck x => [x]
  | .binOp _ _ x y _ => [x, y]
  | .unOp _ _ x => [x]
  | .convert _ _ x => [x]
  | .makeFunc _ first caps => first.toList ++ caps.toList
  | .makeSlice _ l c => [l, c]
  | .slice _ x lo hi mx => x :: (lo.toList ++ hi.toList ++ mx.toList)
  | .fieldAddr _ x _ => [x]
  | .field _ x _ => [x]
  | .indexAddr _ x i => [x, i]
  | .index _ x i => [x, i]
  | .extract x _ => [x]
  | .call cl => (match cl.callee with | .value f => [f] | _ => []) ++ cl.args.toList
  | _ => []
/-- Neither reads or sets what the other sets. -/
def apart (a b : Oper) : Bool :=
  (match a.dst with
   | some d => !(rd b).any (fun x => match x with | .tmp t => t == d | _ => false) && !(b.dst == some d)
   | none => true) &&
  (match b.dst with
   | some d => !(rd a).any (fun x => match x with | .tmp t => t == d | _ => false)
   | none => true)
/-- Which operations come before, however the order falls. -/
def edges (o : Oper) : List Nat := (o.after.toList.filter fun e => Region.binds .any e).map (·.on)
def joinL : List Nat → List Nat → List Nat
  | [], m => m
  | a :: l, m => if m.contains a then joinL l m else joinL l (a :: m)
def preds : List Oper → List (List Nat) → List (List Nat)
  | [], t => t
  | o :: l, t => preds l (t ++ [(edges o).foldl (fun s e => joinL (e :: t.getD e []) s) []])
def swapOk (a b : Oper) : Bool := a.guard.isNone && b.guard.isNone && quiet a && quiet b && apart a b
/-- Whatever the order, the answer is that of the first one. -/
def drawOk (ops : Array Oper) (t : List (List Nat)) : Bool :=
  (List.range ops.size).all fun i => match ops[i]? with
    | none => false
    | some o => ((edges o).all fun e => decide (e < i)) && ((t.getD i []).all fun j => (edges o).any fun m => m == j || (t.getD m []).contains j) &&
      (List.range i).all fun j => (t.getD i []).contains j || (match ops[j]? with | some p => swapOk p o | none => false)
/-! Orders in which something is born. -/
/-- Nothing is untold in it. -/
def noU : SV → Bool
  | .undef => false
  | .agg a b => noU a && noU b
  | .tcons a b => noU a && noU b
  | .fn _ c => noU c
  | _ => true
/-- It leads to no box that these operations make. -/
def avoid (ds : List Nat) (s : SV) : Bool := (roots s).all fun r => !ds.contains (r / 16)
def plainPs : List PK → Bool
  | [] => true
  | .ro _ :: ps => plainPs ps
  | .fn _ _ :: ps => plainPs ps
  | .nil :: ps => plainPs ps
  | _ => false
def cntT : Ty → Nat
  | .pair a b => cntT a + cntT b
  | .slc _ => 1
  | _ => 0
def cntR : List (Ty × Md) → Nat
  | [] => 0
  | p :: l => cntT p.1 + cntR l
def loud (o : Oper) : Bool :=
  match o.op with
  | .alloc _ | .makeSlice .. | .buildSlice .. | .box .. => true
  | .call cl => match cl.callee with
    | .value _ => true
    | .builtin .append => true
    | .builtin .copy => true
    | _ => false
  | .store .. => true
  | _ => false
/-- What an operation with two operands does to boxes. -/
inductive Deed where
  | app (d : Nat) (ee : TE)
  | cp (ee : TE)
  | sto (te : TE)
/-- The parts of an append, a copy, a store: the operands. -/
def appArgs (c : Cx) (o : Oper) : Option (Deed × Operand × Operand) :=
  match o.op with
  | .store t a v => match c.E.get t with
    | some te => some (.sto te, a, v)
    | none => none
  | .call cl => match cl.callee, cl.args.toList, cl.argTypes.toList with
    | .builtin .append, [x, y], [t, u] => match o.dst with
      | some d => if t = u then match c.E.get t with
        | some te => match te.d with
          | .slc e => match c.E.get e with
            | some ee => if ee.z = true then some (.app d ee, x, y) else none
            | none => none
          | _ => none
        | none => none
        else none
      | none => none
    | .builtin .copy, [x, y], [t, u] => match c.E.get t, c.E.get u with
      | some te, some ue => match te.d, ue.d with
        | .slc e, .slc _ => match c.E.get e with
          | some ee => some (.cp ee, x, y)
          | none => none
        | _, _ => none
      | _, _ => none
    | _, _, _ => none
  | _ => none
/-- It makes boxes of its own, and does nothing else. -/
def born (c : Cx) (st : St) (o : Oper) : Bool :=
  (appArgs c o).isSome || o.dst.isSome && (match o.op with
  | .alloc _ => true
  | .makeSlice .. => true
  | .buildSlice .. => true
  | .box .. => true
  | .call cl => match cl.callee with
    | .value f => match st.ev f with
      | .fn g caps => match Tab.find c.T g (cl.args.toList.map st.ev ++ untup caps) with
        | some sm => plainPs sm.ps && decide (cntR sm.rs ≤ 16)
        | none => false
      | _ => false
    | _ => false
  | _ => false)
def gdst (ops : Array Oper) (o : Oper) : Option Tmp :=
  match o.guard with
  | some (j, _) => (ops[j]?).bind (·.dst)
  | none => none
def rdg (ops : Array Oper) (o : Oper) : List Operand := (match gdst ops o with | some g => [.tmp g] | none => []) ++ rd o
def takes (o : Oper) : Bool :=
  match o.op with
  | .buildSlice .. | .box .. | .store .. => true
  | .call cl => match cl.callee with
    | .builtin .append => true
    | .builtin .copy => true
    | _ => false
  | _ => false
/-- The operands that it takes rows from. -/
def tk (c : Cx) (o : Oper) : List Operand :=
  match o.op with
  | .buildSlice _ _ parts => parts.toList.map (·.2)
  | .box _ v => [v]
  | _ => match appArgs c o with
    | some (.app _ ee, x, y) => if flat ee.ty = true then [x] else [x, y]
    | some (.cp _, x, _) => [x]
    | some (.sto _, x, y) => [x, y]
    | none => []
def chk (c : Cx) (ops : Array Oper) (i : Nat) (A U : List Nat) (st : St) : Bool :=
  match ops[i]? with
  | some o => (quiet o || born c st o) && ((rdg ops o).all fun x => noU (st.ev x) && avoid A (st.ev x)) && ((tk c o).all fun x => (roots (st.ev x)).all fun r => U.contains (r / 16))
  | none => false
def dstS (ops : Array Oper) (i : Nat) (st : St) : SV :=
  match ops[i]? with
  | some o => match o.dst with
    | some d => sget st.slots d
    | none => .undef
  | none => .undef
noncomputable def gC (c : Cx) (ops : Array Oper) (i : Nat) (A U : List Nat) (st : St) (K : St → Option R) : Option R :=
  if chk c ops i A U st = true then opsS c ops [i] st fun st => if avoid A (dstS ops i st) = true then K st else none else none
/-- What is told of an operation of a region: all others stand ahead of it or behind it; whose boxes it keeps off; whose boxes it may take. -/
structure Ward where
  al : Bool
  A : List Nat
  U : List Nat
instance : Inhabited Ward := ⟨⟨false, [], []⟩⟩
def ward (W : List Ward) (i : Nat) : Ward := W.getD i ⟨false, [], []⟩
noncomputable def g1 (c : Cx) (ops : Array Oper) (W : List Ward) (i : Nat) (st : St) (K : St → Option R) : Option R :=
  if (ward W i).al = true then opsS c ops [i] st K else gC c ops i (ward W i).A (ward W i).U st K
noncomputable def opsC (c : Cx) (ops : Array Oper) (W : List Ward) : List Nat → St → (St → Option R) → Option R
  | [], st, K => K st
  | i :: l, st, K => g1 c ops W i st fun st => opsC c ops W l st K
def apartG (ops : Array Oper) (a b : Oper) : Bool :=
  (match a.dst with
   | some d => !(rdg ops b).any (fun x => match x with | .tmp t => t == d | _ => false) && !(b.dst == some d)
   | none => true) &&
  (match b.dst with
   | some d => !(rdg ops a).any (fun x => match x with | .tmp t => t == d | _ => false)
   | none => true)
/-- Whose boxes an operand may lead to: of the region's own operations. -/
def srcs (ops : Array Oper) : Nat → Operand → List Nat
  | 0, _ => []
  | n + 1, .tmp t => match ops.toList.find? fun p => p.dst == some t with
    | some p => if loud p then [t] else (rd p).flatMap (srcs ops n)
    | none => []
  | _, _ => []
/-- Whose boxes an operation may take. -/
def takesOf (ops : Array Oper) (O : List (Nat × List Nat)) (i : Nat) : List Nat :=
  match ops[i]? with
  | some o => if takes o then (rd o).flatMap (srcs ops ops.size) ++ (match o.dst with | some d => (O.lookup d).getD [] | none => []) else []
  | none => []
def besides (t : List (List Nat)) (i j : Nat) : Bool := !(j == i || (t.getD i []).contains j || (t.getD j []).contains i)
def wardOf (ops : Array Oper) (t : List (List Nat)) (O : List (Nat × List Nat)) (i : Nat) : Ward :=
  { al := (List.range ops.size).all fun j => !besides t i j
    A := (List.range ops.size).flatMap fun j => if besides t i j then (match ops[j]? with
      | some o => if loud o then o.dst.toList ++ takesOf ops O j else []
      | none => []) else []
    U := takesOf ops O i }
def wards (ops : Array Oper) (t : List (List Nat)) (O : List (Nat × List Nat)) : List Ward := (List.range ops.size).map (wardOf ops t O)
/-- What an operation makes or takes is in another's list. -/
def offB (o : Oper) (u v : Ward) : Bool := !loud o || ((match o.dst with | some d => v.A.contains d | none => true) && u.U.all fun d => v.A.contains d)
def drawC (ops : Array Oper) (t : List (List Nat)) (W : List Ward) : Bool :=
  (List.range ops.size).all fun i => match ops[i]? with
    | none => false
    | some o => ((edges o).all fun e => decide (e < i)) && ((t.getD i []).all fun j => (edges o).any fun m => m == j || (t.getD m []).contains j) &&
      (List.range i).all fun j => (t.getD i []).contains j || (match ops[j]? with
        | some p => !(ward W i).al && !(ward W j).al && apartG ops p o && offB p (ward W j) (ward W i) && offB o (ward W i) (ward W j)
        | none => false)
/-- Slots that hold nil and are to hold a row of their own. -/
def St.adopt (st : St) : List (Nat × Nat × Ty × Md) → St
  | [] => st
  | (i, r, t, m) :: l => match sget st.slots i with
    | .raw (.slice none 0 0) => St.adopt { (st.lay r { mem := none, t := .slc t, m := .own m, x := [] }) with slots := sset (st.slots.map (killAll r)) i (.ref r []) } l
    | .emp => St.adopt { (st.lay r { mem := none, t := .slc t, m := .own m, x := [] }) with slots := sset (st.slots.map (killAll r)) i (.ref r []) } l
    | .ref s q => if (s == r && q.isEmpty || !decide (lev q = 0)) = true then st.adopt l else match bget st.boxes s with
      | some b => if h : ctype b.t q = .slc t then (match mget b.m q with
        | .own m' => St.adopt { ((st.take s q b).lay r { mem := none, t := .slc t, m := .own m', x := (h ▸ cget b.t b.x q : den (.slc t)) }) with slots := sset ((st.take s q b).slots.map (killAll r)) i (.ref r []) } l
        | _ => st.adopt l)
        else st.adopt l
      | none => st.adopt l
    | _ => st.adopt l
/-- The first region of a code. -/
def head : Code → Option Nat
  | .region id _ _ => some id
  | .seq a _ => head a
  | .block _ b => head b
  | .loop b => head b
  | _ => none
inductive Ex where
  | normal
  | exit (id : Nat)
  | ret
  deriving DecidableEq
/-- A way out of a code: where to, with which state. -/
structure Way where
  e : Ex
  nils : List (Nat × Nat × Ty × Md)
  sk : SkS
@[reducible] def OutV : List Way → Type
  | [] => Empty
  | p :: l => p.sk.T ⊕ OutV l
def dispatch : (l : List Way) → (Ex → St → Option R) → OutV l → Option R
  | [], _ => fun _ => none
  | p :: l, K => Sum.elim (fun x => K p.e (p.sk.fill x)) (dispatch l K)
def outTake : (l : List Way) → Ex → St → (OutV l → Option R) → Option R
  | [], _, _, _ => none
  | p :: l, e, st, K => if p.e = e then p.sk.take (st.adopt p.nils) fun x => K (.inl x) else outTake l e st fun y => K (.inr y)
/-- What is known of a part of a function's code: from which states to which. -/
structure Node where
  nils : List (Nat × Nat × Ty × Md)
  sk : SkS
  outs : List Way
  Y : Type
  L : sk.T → Option Y
  out : sk.T → Y → OutV outs
  disp : {R : Type} → sk.T → Y → (Ex → St → Option R) → Option R
structure Fx extends Cx where
  nodes : List ((Bool × Nat) × Node)
def nget : List ((Bool × Nat) × Node) → Bool → Option Nat → Option Node
  | _, _, none => none
  | [], _, _ => none
  | (k, nd) :: l, b, some i => if k.2 = i ∧ k.1 = b then some nd else nget l b (some i)
def Node.run (nd : Node) (st : St) (K : Ex → St → Option R) : Option R := nd.sk.take (st.adopt nd.nils) fun x => (nd.L x).bind fun y => nd.disp x y K
/-- Rounds without a bound: the answer of the first round that goes out, if there is one. -/
def rounds {A B : Type} (f : A → Option (A ⊕ B)) : Nat → A → Option B
  | 0, _ => none
  | n + 1, a => match f a with
    | none => none
    | some (.inl a) => rounds f n a
    | some (.inr b) => some b
open Classical in
noncomputable def loopO {A B : Type} (f : A → Option (A ⊕ B)) (a : A) : Option B :=
  if h : ∃ n b, rounds f n a = some b then some (Classical.choose (Classical.choose_spec h)) else none
end cps
/-- A code's run: what comes behind it is handed in. -/
noncomputable def codeS (c : Fx) : Code → {R : Type} → St → (Ex → St → Option R) → Option R
  | .skip, _, st, K => K .normal st
  | .region _ ops draw, _, st, K => if (!draw || drawOk ops (preds ops.toList [])) = true then opsS c.toCx ops (List.range ops.size) st (fun st => K .normal st)
      else if drawC ops (preds ops.toList []) (wards ops (preds ops.toList []) c.O) = true then opsC c.toCx ops (wards ops (preds ops.toList []) c.O) (List.range ops.size) st (fun st => K .normal st) else none
  | .seq a b, _, st, K => codeS c a st fun e st => match e with
    | .normal => match nget c.nodes false (head b) with
      | some nd => nd.run st K
      | none => codeS c b st K
    | e => K e st
  | .cond x a b, _, st, K => asBool (st.ev x) fun v => cond v (codeS c a st K) (codeS c b st K)
  | .block id b, _, st, K => codeS c b st fun e st => match e with
    | .exit j => if j = id then K .normal st else K (.exit j) st
    | e => K e st
  | .loop b, _, st, K => match nget c.nodes true (head b) with
    | some nd => nd.run st K
    | none => none
  | .exit id, _, st, K => K (.exit id) st
  | .ret, _, st, K => K .ret st
  | _, _, _, _ => none
/-- A loop's round. -/
noncomputable def roundS (c : Fx) (b : Code) (nd : Node) (x : nd.sk.T) : Option (nd.sk.T ⊕ OutV nd.outs) :=
  codeS c b (nd.sk.fill x) fun e st => match e with
    | .normal => nd.sk.take (st.adopt nd.nils) fun x => some (.inl x)
    | e => outTake nd.outs e st fun y => some (.inr y)
noncomputable def tailS (c : Fx) (b : Code) (nd : Node) (x : nd.sk.T) : Option (OutV nd.outs) := codeS c b (nd.sk.fill x) fun e st => outTake nd.outs e st some
def loops : Code → List Code
  | .seq a b => loops a ++ loops b
  | .cond _ a b => loops a ++ loops b
  | .block _ b => loops b
  | .loop b => b :: loops b
  | _ => []
def tails : Code → List Code
  | .seq a b => b :: (tails a ++ tails b)
  | .cond _ a b => tails a ++ tails b
  | .block _ b => tails b
  | .loop b => tails b
  | _ => []
def LoopOk (c : Fx) (b : Code) (nd : Node) : Prop := (∀ {R : Type} t y (K : Ex → St → Option R), nd.disp t y K = dispatch nd.outs K (nd.out t y)) ∧ ∀ x y, nd.L x = some y → ∃ n, rounds (roundS c b nd) n x = some (nd.out x y)
def TailOk (c : Fx) (b : Code) (nd : Node) : Prop := (∀ {R : Type} t y (K : Ex → St → Option R), nd.disp t y K = dispatch nd.outs K (nd.out t y)) ∧ ∀ x y, nd.L x = some y → tailS c b nd x = some (nd.out x y)
end Go.Proofs.Ytlgbhaigpecdoaa.V
