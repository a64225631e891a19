/- Types, shapes and the run. -/
import Derived.Test.YtgdaiifhedpffaaDoorVSem
import Derived.Orders
set_option linter.unusedVariables false
set_option linter.unusedSimpArgs false
namespace Go.Proofs.YtgdaiifhedpffaaDoor.V
open Go
def St.take (st : St) (r : Nat) (q : Path) (b : Bx) : St :=
  { slots := st.slots.map (kill1 r), boxes := bset r { b with m := mput b.m q .dead } st.boxes }
section cps
variable {R : Type}
def rowAt (bs : List (Nat × Bx)) (r : Nat) (q : Path) (t : Ty) (K : Bx → List (den t) → Md → Option R) : Option R :=
  match bget bs r with
  | some b => if h : ctype b.t q = .slc t then
      match mget b.m q with
      | .own m => K b (h ▸ cget b.t b.x q : den (.slc t)) m
      | _ => none
    else none
  | none => none
def mapAt (bs : List (Nat × Bx)) (r : Nat) (q : Path) (k v : Ty) (K : Bx → den (.mp k v) → Md → Option R) : Option R :=
  match bget bs r with
  | some b => if h : ctype b.t q = .mp k v then
      match mget b.m q with
      | .own m => K b (h ▸ cget b.t b.x q : den (.mp k v)) m
      | _ => none
    else none
  | none => none
def fitM : Ty → Md → Md
  | _, .ro => .ro
  | .pair a b, m => .pair (fitM a m.fst) (fitM b m.snd)
  | .slc _, .own m => .own m
  | .slc _, .rz => .rz
  | .mp _ _, .own _ => .own .ro
  | _, _ => .ro
def rzK : (t : Ty) → den t → Md → (Md → Option R) → Option R
  | .slc _, xs, .rz, K => if 0 < List.length xs then K .rz else none
  | _, _, _, K => K .ro
def mpM : Md → Md → Md
  | .own _, m => .own m
  | _, _ => .ro
def toC : St → SV → (t : Ty) → Md → (den t → Md → St → Option R) → Option R
  | st, .con t' x, t, w, K => if h : t' = t then rzK t (h ▸ x) w fun m => K (h ▸ x) m st else none
  | st, .raw v, t, w, K => match parse t v.cells.toList with
    | some (x, []) => K x (fitM t w) st
    | _ => none
  | st, .emp, .slc t, w, K => match w with
    | .rz => none
    | w => K [] (fitM (.slc t) w) st
  | st, .agg a b, .pair ta tb, w, K => toC st a ta w.fst fun x ma st => toC st (shallow b) tb w.snd fun y mb st => K (x, y) (Md.mk ma mb) st
  | st, .ref r q, .slc t, w, K => if lev q = 0 then rowAt st.boxes r q t fun b xs m =>
      match w with
      | .ro => if live t m = true then K xs .ro (st.take r q b) else none
      | _ => K xs (.own m) (st.take r q b)
    else none
  | st, .sub r q lo n, .slc t, w, K => if lev q = 0 then rowAt st.boxes r q t fun b xs m =>
      match w with
      | .ro => if live t m = true then K ((xs.drop lo).take n) .ro (st.take r q b) else none
      | _ => K ((xs.drop lo).take n) (.own m) (st.take r q b)
    else none
  | st, .ref r q, .mp k v, w, K => if lev q = 0 then mapAt st.boxes r q k v fun b xs m => K xs (mpM w m) (st.take r q b) else none
  | _, _, _, _, _ => none
end cps
def view (r : Nat) : (t : Ty) → Md → den t → Path → SV
  | .pair a b, m, x, q => .agg (view r a m.fst x.1 (q ++ [.fst])) (view r b m.snd x.2 (q ++ [.snd]))
  | .slc t, .ro, x, _ => .con (.slc t) x
  | .slc t, .rz, x, _ => .nul t x
  | .slc _, .own _, _, q => .ref r q
  | .slc _, _, _, _ => .undef
  | .mp k v, .ro, x, _ => .con (.mp k v) x
  | .mp _ _, .own _, _, q => .ref r q
  | .mp _ _, _, _, _ => .undef
  | t, _, x, _ => .con t x
inductive PK where
  | ro (t : Ty)
  | mv (t : Ty) (m : Md)
  | io (e : TypeId) (t : Ty) (m : Md)
  /-- a value whose rows are lent: their parts are written, and they come back as long as they were -/
  | row (t : Ty) (m : Md)
  | fn (f : FuncId) (cs : List (Bool × Ty))
  /-- the address of a variable that is only looked at -/
  | lk (t : Ty)
  | nil
@[reducible] def denL : List (Bool × Ty) → Type
  | [] => Unit
  | (_, t) :: l => den t × denL l
@[reducible] def ArgT : List PK → Type
  | [] => Unit
  | .ro t :: l => den t × ArgT l
  | .mv t _ :: l => den t × ArgT l
  | .io _ t _ :: l => den t × ArgT l
  | .row t _ :: l => den t × ArgT l
  | .fn _ cs :: l => denL cs × ArgT l
  | .lk t :: l => den t × ArgT l
  | .nil :: l => Unit × ArgT l
@[reducible] def RowT : Ty → Md → Type
  | .pair a b, m => RowT a m.fst × RowT b m.snd
  | .slc t, .own _ => den (.slc t)
  | .mp k v, .own _ => den (.mp k v)
  | _, _ => Unit
def cntM : Ty → Md → Nat
  | .pair a b, m => cntM a m.fst + cntM b m.snd
  | .slc _, .own _ => 1
  | .mp _ _, .own _ => 1
  | _, _ => 0
@[reducible] def OutT : List PK → Type
  | [] => Unit
  | .io _ t _ :: l => den t × OutT l
  | .row t m :: l => RowT t m × OutT l
  | .ro _ :: l => OutT l
  | .mv _ _ :: l => OutT l
  | .fn _ _ :: l => OutT l
  | .nil :: l => OutT l
  | .lk _ :: l => OutT l
@[reducible] def ResT : List (Ty × Md) → Type
  | [] => Unit
  | (t, _) :: l => den t × ResT l
structure Sm where
  ps : List PK
  rs : List (Ty × Md)
  F : ArgT ps → Option (ResT rs × OutT ps)
  /-- it gives a part of an element of the first parameter's row: which element, from where, how long -/
  part : Bool := false
abbrev Tab := List (FuncId × Sm)
def Tab.get : Tab → FuncId → Option Sm
  | [], _ => none
  | (j, b) :: l, i => if i = j then some b else Tab.get l i
end Go.Proofs.YtgdaiifhedpffaaDoor.V
set_option linter.unusedVariables false
set_option linter.unusedSimpArgs false
namespace Go.Proofs.YtgdaiifhedpffaaDoor.V
open Go
def bt (s : ByteArray) (i : Int) : Int := (((s.data.toList.getD i.toNat 0).toNat : Nat) : Int)
def bitop (k : IntKind) (op : BinOp) (x y : Int) : Int :=
  let a := BitVec.ofInt k.bits x
  let b := BitVec.ofInt k.bits y
  match op with
  | .and => k.wrap ((a &&& b).toNat)
  | .or => k.wrap ((a ||| b).toNat)
  | .xor => k.wrap ((a ^^^ b).toNat)
  | _ => k.wrap ((a &&& ~~~b).toNat)
def strEq (x y : ByteArray) : Bool := x.toList == y.toList
def strLt (x y : ByteArray) : Bool := Op.bytesLess x.toList y.toList
def s2b (s : ByteArray) : List Int := s.data.toList.map fun b => ((b.toNat : Nat) : Int)
def b2s (l : List Int) : ByteArray := ⟨(l.map fun n => UInt8.ofNat n.toNat).toArray⟩
def most : Nat := 140737488355328
def isAgg : SV → Bool
  | .con .unit _ => true
  | .con (.pair _ _) _ => true
  | .agg _ _ => true
  | .raw (.agg _) => true
  | _ => false
structure Cx where
  E : Env
  T : Tab
  H : List (Nat × Md)
  /-- boxes' numbers that an operation of a drawn region may take from, by its slot -/
  O : List (Nat × List Nat) := []
def Cx.mode (c : Cx) (d : Nat) (t : Ty) : Md := go c.H d t
where
  go : List (Nat × Md) → Nat → Ty → Md
    | [], _, t => dmode t
    | (j, m) :: l, d, t => if d = j then m else go l d t
section cps
variable {R : Type}
def binS (op : BinOp) (s t : SV) (K : SV → Option R) : Option R :=
  match s, t with
  | .con (.int k) a, .con (.int j) b =>
    match op with
    | .add => if k = j then K (.con (.int k) (k.wrap ((a : Int) + b))) else none
    | .sub => if k = j then K (.con (.int k) (k.wrap ((a : Int) - b))) else none
    | .mul => if k = j then K (.con (.int k) (k.wrap ((a : Int) * b))) else none
    | .quo => if k = j then (if (b : Int) = 0 then none else K (.con (.int k) (k.wrap (Int.tdiv a b)))) else none
    | .rem => if k = j then (if (b : Int) = 0 then none else K (.con (.int k) (Int.tmod a b))) else none
    | .and => if k = j then K (.con (.int k) (bitop k .and a b)) else none
    | .or => if k = j then K (.con (.int k) (bitop k .or a b)) else none
    | .xor => if k = j then K (.con (.int k) (bitop k .xor a b)) else none
    | .andNot => if k = j then K (.con (.int k) (bitop k .andNot a b)) else none
    | .shl => if (b : Int) < 0 then none else K (.con (.int k) (k.wrap ((a : Int) * 2 ^ (min (Int.toNat b) k.bits))))
    | .shr => if (b : Int) < 0 then none else K (.con (.int k) (Int.fdiv a (2 ^ (min (Int.toNat b) k.bits))))
    | .eql => if k = j then K (.con .bool ((a : Int) == b)) else none
    | .neq => if k = j then K (.con .bool ((a : Int) != b)) else none
    | .lss => if k = j then K (.con .bool (decide ((a : Int) < b))) else none
    | .leq => if k = j then K (.con .bool (decide ((a : Int) ≤ b))) else none
    | .gtr => if k = j then K (.con .bool (decide ((a : Int) > b))) else none
    | .geq => if k = j then K (.con .bool (decide ((a : Int) ≥ b))) else none
  | .con .str a, .con .str b =>
    match op with
    | .add => if ByteArray.size a + ByteArray.size b ≤ 9223372036854775807 then K (.con .str ((a : ByteArray) ++ b)) else none
    | .eql => K (.con .bool (strEq a b))
    | .neq => K (.con .bool (!strEq a b))
    | .lss => K (.con .bool (strLt a b))
    | .leq => K (.con .bool (strLt a b || strEq a b))
    | .gtr => K (.con .bool (!(strLt a b || strEq a b)))
    | .geq => K (.con .bool (!strLt a b))
    | _ => none
  | .con .bool a, .con .bool b =>
    match op with
    | .eql => K (.con .bool ((a : Bool) == b))
    | .neq => K (.con .bool (!((a : Bool) == b)))
    | _ => none
  | _, _ => none
def strS : SV → Bool
  | .con .str _ => true
  | _ => false
def lenS (bs : List (Nat × Bx)) (s : SV) (K : Int → Option R) : Option R :=
  match s with
  | .con .str x => K (ByteArray.size x)
  | .con (.slc _) x => K (List.length x)
  | .raw (.slice none 0 0) => K 0
  | .emp => K 0
  | .ref r q => match bget bs r with
    | some b => rowOf (ctype b.t q) (cget b.t b.x q) (mget b.m q) fun _ xs _ => K (List.length xs)
    | none => none
  | .sub r q lo n => match bget bs r with
    | some b => K n
    | none => none
  | _ => none
def elemS (bs : List (Nat × Bx)) (ty : Ty) (s : SV) (i : Int) (K : SV → Option R) : Option R :=
  match s with
  | .con (.slc t) xs => if Ty.slc t = ty then (if 0 ≤ i ∧ i < (List.length xs : Int) then K (.pro t (List.getD xs i.toNat (dflt t))) else none) else none
  | .ref r q => match bget bs r with
    | some b => rowOf (ctype b.t q) (cget b.t b.x q) (mget b.m q) fun t xs _ => if Ty.slc t = ty then (if 0 ≤ i ∧ i < (List.length xs : Int) then K (.ptr r (q ++ [.idx i.toNat])) else none) else none
    | none => none
  | .sub r q lo n => match bget bs r with
    | some b => rowOf (ctype b.t q) (cget b.t b.x q) (mget b.m q) fun t _ _ => if Ty.slc t = ty then (if 0 ≤ i ∧ i < (n : Int) then K (.ptr r (q ++ [.idx (lo + i.toNat)])) else none) else none
    | none => none
  | _ => none
def optInt (st : St) (o : Option Operand) (d : Int) (K : Int → Option R) : Option R :=
  match o with
  | none => K d
  | some x => asInt (st.ev x) fun _ n => K n
def isZero : Option Operand → Bool
  | some (.const (.int _ n)) => decide (n = 0)
  | _ => false
def sliceS (st : St) (ty : Ty) (s : SV) (lo hi mx : Option Operand) (K : SV → Option R) : Option R :=
  match s with
  | .con .str x => match mx with
    | none => if ty = .str then optInt st hi (ByteArray.size x) fun h => optInt st lo 0 fun l =>
      if 0 ≤ l ∧ l ≤ h ∧ h ≤ (ByteArray.size x : Int) then K (.con .str (ByteArray.extract x l.toNat h.toNat)) else none
      else none
    | some _ => none
  | .raw (.slice none 0 0) => match mx with
    | none => if ty = .str then none else optInt st hi 0 fun h => optInt st lo 0 fun l => if 0 ≤ l ∧ l ≤ h ∧ h ≤ 0 then K (.raw (.slice none 0 0)) else none
    | some _ => none
  | .con (.slc t) xs => if Ty.slc t = ty then match mx with
    | none => optInt st hi (List.length xs) fun h => optInt st lo 0 fun l =>
      if 0 ≤ l ∧ l ≤ h ∧ h ≤ (List.length xs : Int) then K (.con (.slc t) ((List.drop l.toNat xs).take (h.toNat - l.toNat))) else none
    | some m => if isZero hi = true ∧ isZero mx = true ∧ lo.isNone = true then K .emp
      else asInt (st.ev m) fun _ m => if hi.isSome = true then optInt st hi 0 fun h => optInt st lo 0 fun l =>
        if 0 ≤ l ∧ l ≤ h ∧ h ≤ m ∧ m ≤ (List.length xs : Int) then K (.con (.slc t) ((List.drop l.toNat xs).take (h.toNat - l.toNat))) else none
        else none
    else none
  | .ref r q => match bget st.boxes r with
    | some b => rowOf (ctype b.t q) (cget b.t b.x q) (mget b.m q) fun t xs _ => if Ty.slc t = ty then optInt st hi (List.length xs) fun h => optInt st lo 0 fun l => match mx with
        | none => if 0 ≤ l ∧ l ≤ h ∧ h ≤ (List.length xs : Int) then K (.sub r q l.toNat (h.toNat - l.toNat)) else none
        | some m => if hi.isSome = true then asInt (st.ev m) fun _ m => if 0 ≤ l ∧ l ≤ h ∧ h ≤ m ∧ m ≤ (List.length xs : Int) then K (.sub r q l.toNat (h.toNat - l.toNat)) else none
          else none
        else none
    | none => none
  | .sub r q o n => match bget st.boxes r with
    | some b => rowOf (ctype b.t q) (cget b.t b.x q) (mget b.m q) fun t xs _ => if Ty.slc t = ty then optInt st hi n fun h => optInt st lo 0 fun l => match mx with
      | none => if 0 ≤ l ∧ l ≤ h ∧ h ≤ (n : Int) then K (.sub r q (o + l.toNat) (h.toNat - l.toNat)) else none
      | some _ => none
      else none
    | none => none
  | _ => none
def fieldTys : Ty → List Ty
  | .pair a b => a :: fieldTys b
  | _ => []
def fitsTy : Ty → SV → Bool
  | .pair a b, .agg s t => fitsTy a s && fitsTy b t
  | .pair a b, .con t _ => decide (t = .pair a b)
  | .pair _ _, _ => false
  | .unit, .con .unit _ => true
  | .unit, _ => false
  | t, .con t' _ => decide (t' = t)
  | .slc _, .raw (.slice none 0 0) => true
  | .slc _, .emp => true
  | .slc _, .ref _ _ => true
  | .slc _, .sub _ _ _ _ => true
  | _, .undef => true
  | .raw, .ptr _ _ => true
  | .raw, .pro _ _ => true
  | .raw, .fn _ _ => true
  | _, _ => false
def aggOf : List SV → SV
  | [] => .con .unit ()
  | s :: l => .agg s (aggOf l)
def known (bs : List (Nat × Bx)) : SV → Bool
  | .undef => false
  | .tnil => false
  | .tcons _ _ => false
  | .ref r _ => (bget bs r).isSome
  | .sub r _ _ _ => (bget bs r).isSome
  | .ptr r _ => (bget bs r).isSome
  | .raw (.tuple _) => false
  | _ => true
def buildL (st : St) : List (Nat × Operand) → List Ty → List SV → Option (List SV)
  | [], _, l => some l
  | (i, x) :: ps, tys, l => match tys[i]? with
    | some t => if (known st.boxes (st.ev x) && fitsTy t (st.ev x)) = true then buildL st ps tys (l.set i (st.ev x)) else none
    | none => none
def elemsOk (n : Nat) (parts : List (Nat × Operand)) : Bool := parts.map (·.1) == List.range n
def elems (t : Ty) (m : Md) : List SV → St → (List (den t) → St → Option R) → Option R
  | [], st, K => K [] st
  | s :: l, st, K => toC st (shallow s) t m fun x m' st => if sameM t m' m = true then elems t m l st fun xs st => K (x :: xs) st else none
def fieldOf : Nat → SV → SV
  | 0, .agg a _ => a
  | n + 1, .agg _ b => fieldOf n b
  | 0, .con (.pair a _) x => .con a x.1
  | n + 1, .con (.pair _ b) x => fieldOf n (.con b x.2)
  | _, _ => .undef
def proField : Nat → (t : Ty) → den t → SV
  | 0, .pair a _, x => .pro a x.1
  | n + 1, .pair _ b, x => proField n b x.2
  | _, _, _ => .undef
def fieldPtr (bs : List (Nat × Bx)) (ty : Ty) (j : Nat) (s : SV) (K : SV → Option R) : Option R :=
  match s with
  | .ptr r q => match bget bs r with
    | some b => if ctype b.t q = ty ∧ j < (fieldTys ty).length then K (.ptr r (q ++ fpath j)) else none
    | none => none
  | .pro t x => if t = ty ∧ j < (fieldTys ty).length then K (proField j t x) else none
  | _ => none
def litAt (bs : List (Nat × Bx)) (ty : Ty) (i : Operand) (s : SV) (K : SV → Option R) : Option R :=
  match i with
  | .const (.int _ n) => if 0 ≤ n then fieldPtr bs ty n.toNat s K else none
  | _ => none
def nth : Nat → SV → Option SV
  | 0, .tcons a _ => some a
  | n + 1, .tcons _ b => nth n b
  | _, _ => none
def single1 : SV → SV
  | .tnil => .undef
  | .tcons _ _ => .undef
  | s => s
def tupleOf : List SV → SV
  | [] => .tnil
  | s :: l => .tcons (single1 s) (tupleOf l)
def loadS (bs : List (Nat × Bx)) (t : Ty) (s : SV) (K : SV → Option R) : Option R :=
  match s with
  | .pro t' x => if t' = t then K (.con t' x) else none
  | .ptr r q => match bget bs r with
    | some b => if ctype b.t q = t then K (view r (ctype b.t q) (mget b.m q) (cget b.t b.x q) q) else none
    | none => none
  | _ => none
def roots : SV → List Nat
  | .agg a b => roots a ++ roots b
  | .tcons a b => roots a ++ roots b
  | .ref r _ => [r]
  | .sub r _ _ _ => [r]
  | .ptr r _ => [r]
  | .fn _ c => roots c
  | _ => []
def storeS (c : Cx) (st : St) (t : Ty) (a v : SV) (K : St → Option R) : Option R :=
  match a with
  | .ptr r q => match bget st.boxes r with
    | some b0 => if lev q = 0 ∨ (roots v).contains r = false then toC st v t (if lev q = 0 then mget (c.mode (r / 16) b0.t) q else mget b0.m q) fun x m st => match bget st.boxes r with
      | some b => if h : ctype b.t q = t then
          (if lev q = 0 then (if flat t = true then K { st with boxes := bset r { b with x := cput b.t b.x q (h ▸ x), row := none } st.boxes }
              else K (st.turn r 0 { b with x := cput b.t b.x q (h ▸ x), m := mput b.m q m, row := none }))
            else if flat t = true then K { st with boxes := bset r { b with x := cput b.t b.x q (h ▸ x) } st.boxes }
            else if sameM t m (mget b.m q) = true then K (st.turn r (lev q) { b with x := cput b.t b.x q (h ▸ x) }) else none)
        else none
      | none => none
      else none
    | none => none
  | _ => none
def newS (st : St) (s : SV) (t : Ty) (w : Md) (K : List (den t) → Md → St → Option R) : Option R :=
  if flat t = true then look st.boxes s (.slc t) fun ys => K ys .ro st
  else toC st s (.slc t) (.own w) fun ys m st => match m with
    | .ro => K ys .ro st
    | .own m => K ys m st
    | _ => none
def appGo (st : St) (d : Nat) (te : TE) (v : SV) (xs : List (den te.ty)) (free : Bool) (m : Md) (K : St → Option R) : Option R :=
  newS st (shallow v) te.ty m fun ys m' st =>
    if free = true ∨ sameM te.ty m' m = true ∨ flat te.ty = true then
      (if (xs.length + ys.length) * te.bytes ≤ most ∧ 0 < te.bytes ∧ 0 < sz te.ty then
        K ((st.lay (d * 16) { mem := none, t := .slc te.ty, m := .own (if free = true then m' else m), x := xs ++ ys }).set (some d) (.ref (d * 16) []))
      else none)
    else none
def appS (c : Cx) (st : St) (d : Nat) (te : TE) (s v : SV) (K : St → Option R) : Option R :=
  if isAgg s = true ∨ isAgg v = true then none else match s with
  | .raw (.slice none 0 0) => appGo st d te v [] true (c.mode d (.slc te.ty)).elem K
  | .emp => appGo st d te v [] true (c.mode d (.slc te.ty)).elem K
  | s => toC st s (.slc te.ty) (.own .ro) fun xs m st => match m with
    | .own m => appGo st d te v xs false m K
    | _ => none
def zerosK (te : TE) (v : SV) (K : SV → Option R) : Option R := asInt v fun _ n => if 0 ≤ n ∧ n * te.bytes ≤ (most : Int) ∧ flat te.ty = true ∧ 0 < sz te.ty ∧ 0 < te.bytes then K (.con (.slc te.ty) (List.replicate n.toNat (dflt te.ty))) else none
def zerosV (te : TE) (v : SV) : Option SV := zerosK te v some
def aggTy : Ty → Bool
  | .unit => true
  | .pair _ _ => true
  | _ => false
def lookP (bs : List (Nat × Bx)) (s : SV) (t : Ty) (K : den t → Option R) : Option R := match s with
  | .pro t' x => if h : t' = t then K (h ▸ x) else none
  | .ptr r [] => match bget bs r with
    | some b => if b.mem.isSome = true ∧ live b.t b.m = true then (if h : b.t = t then K (h ▸ b.x) else none) else none
    | none => none
  | _ => none
def lookL (bs : List (Nat × Bx)) : (ts : List (Bool × Ty)) → SV → (denL ts → Option R) → Option R
  | [], .tnil, K => K ()
  | (true, t) :: ts, .tcons a b, K => lookP bs a t fun x => lookL bs ts b fun y => K (x, y)
  | (false, t) :: ts, .tcons a b, K => if isAgg a = aggTy t then look bs a t fun x => lookL bs ts b fun y => K (x, y) else none
  | _, _, _ => none
def lendS : St → SV → (t : Ty) → Md → (den t → List (Nat × Path) → St → Option R) → Option R
  | st, .agg a b, .pair ta tb, m, K => lendS st a ta m.fst fun x i st => lendS st (shallow b) tb m.snd fun y j st => K (x, y) (i ++ j) st
  | st, .ref r q, .slc t, .own m, K => if lev q = 0 then rowAt st.boxes r q t fun b xs m' => if sameM t m' m = true then K xs [(r, q)] (st.take r q b) else none else none
  | st, .ref r q, .mp k v, .own m, K => if lev q = 0 then mapAt st.boxes r q k v fun b xs m' => if m' = m then K xs [(r, q)] (st.take r q b) else none else none
  | st, .con t' x, t, m, K => if h : t' = t then (if sameM t .ro m = true then K (h ▸ x) [] st else none) else none
  | _, _, _, _, _ => none
def args (bs : List (Nat × Bx)) : (ps : List PK) → List SV → St → (ArgT ps → List Nat → List Nat → List Nat → List (Nat × Path) → St → Option R) → Option R
  | [], [], st, K => K () [] [] [] [] st
  | .ro t :: ps, s :: ss, st, K => if isAgg s = aggTy t then look bs s t fun x => args bs ps ss st fun a io lo mv rw st => K (x, a) io (roots s ++ lo) mv rw st else none
  | .mv t m :: ps, s :: ss, st, K => if isAgg s = aggTy t then toC st (shallow s) t m fun x m' st => if sameM t m' m = true then args bs ps ss st fun a io lo mv rw st => K (x, a) io lo (roots s ++ mv) rw st else none else none
  | .io e t m :: ps, s :: ss, st, K => match s with
    | .ptr r [] => args bs ps ss st fun a io lo mv rw st => match bget st.boxes r with
      | some b => if b.mem = some e then (if h : b.t = t then (if sameM t b.m m = true then K (h ▸ b.x, a) (r :: io) lo mv rw st else none) else none) else none
      | none => none
    | _ => none
  | .row t m :: ps, s :: ss, st, K => if isAgg s = aggTy t then lendS st (shallow s) t m fun x ids st => args bs ps ss st fun a io lo mv rw st => K (x, a) io lo (roots s ++ mv) (ids ++ rw) st else none
  | .lk t :: ps, s :: ss, st, K => lookP bs s t fun x => args bs ps ss st fun a io lo mv rw st => K (x, a) io (roots s ++ lo) mv rw st
  | .nil :: ps, s :: ss, st, K => match s with
    | .raw (.slice none 0 0) => args bs ps ss st fun a io lo mv rw st => K ((), a) io lo mv rw st
    | _ => none
  | .fn f cs :: ps, s :: ss, st, K => match s with
    | .fn g caps => if g = f then lookL bs cs caps fun x => args bs ps ss st fun a io lo mv rw st => K (x, a) io (roots caps ++ lo) mv rw st else none
    | _ => none
  | _, _, _, _ => none
def backR : (t : Ty) → (m : Md) → RowT t m → List (Nat × Path) → St → (St → Option R) → Option R
  | .pair a b, m, x, ids, st, K => backR a m.fst x.1 (ids.take (cntM a m.fst)) st fun st => backR b m.snd x.2 (ids.drop (cntM a m.fst)) st K
  | .slc t, .own m, x, (r, q) :: _, st, K => match bget st.boxes r with
    | some b => if h : ctype b.t q = .slc t then (if mget b.m q = .dead then K { slots := st.slots.map (kill1 r), boxes := bset r { b with m := mput b.m q (.own m), x := cput b.t b.x q (h.symm ▸ (x : den (.slc t))) } st.boxes } else none) else none
    | none => none
  | .mp k v, .own m, x, (r, q) :: _, st, K => match bget st.boxes r with
    | some b => if h : ctype b.t q = .mp k v then (if mget b.m q = .dead then K { slots := st.slots.map (kill1 r), boxes := bset r { b with m := mput b.m q (.own m), x := cput b.t b.x q (h.symm ▸ (x : den (.mp k v))) } st.boxes } else none) else none
    | none => none
  | .slc _, .own _, _, [], _, _ => none
  | .mp _ _, .own _, _, [], _, _ => none
  | _, _, _, _, st, K => K st
def backS : (ps : List PK) → OutT ps → List (Nat × Path) → St → (St → Option R) → Option R
  | [], _, _, st, K => K st
  | .row t m :: ps, o, ids, st, K => backR t m o.1 (ids.take (cntM t m)) st fun st => backS ps o.2 (ids.drop (cntM t m)) st K
  | .io _ _ _ :: ps, o, ids, st, K => backS ps o.2 ids st K
  | .ro _ :: ps, o, ids, st, K => backS ps o ids st K
  | .mv _ _ :: ps, o, ids, st, K => backS ps o ids st K
  | .fn _ _ :: ps, o, ids, st, K => backS ps o ids st K
  | .nil :: ps, o, ids, st, K => backS ps o ids st K
  | .lk _ :: ps, o, ids, st, K => backS ps o ids st K
def outsB : (ps : List PK) → OutT ps → List Nat → List (Nat × Bx) → List (Nat × Bx)
  | [], _, _, bs => bs
  | .ro _ :: ps, o, io, bs => outsB ps o io bs
  | .mv _ _ :: ps, o, io, bs => outsB ps o io bs
  | .fn _ _ :: ps, o, io, bs => outsB ps o io bs
  | .nil :: ps, o, io, bs => outsB ps o io bs
  | .lk _ :: ps, o, io, bs => outsB ps o io bs
  | .io e t m :: ps, o, r :: io, bs => bset r { mem := some e, t := t, m := m, x := o.1, pin := (bget bs r).bind (·.pin) } (outsB ps o.2 io bs)
  | .io _ _ _ :: _, _, [], bs => bs
  | .row _ _ :: ps, o, io, bs => outsB ps o.2 io bs
def killIO (io : List Nat) : Bool → Nat → Path → Bool := fun isPtr s q => io.contains s && cond isPtr (decide (0 < lev q)) true
def noDup : List Nat → Bool
  | [] => true
  | a :: l => !l.contains a && noDup l
def psNoRo : List PK → Bool
  | [] => true
  | .io _ t m :: ps => noRo t m && psNoRo ps
  | .row t m :: ps => noRo t m && psNoRo ps
  | _ :: ps => psNoRo ps
def got (base : Nat) : (t : Ty) → Md → den t → Nat → St → SV × Nat × St
  | .pair a b, m, x, k, st =>
    let p := got base a m.fst x.1 k st
    let p' := got base b m.snd x.2 p.2.1 p.2.2
    (.agg p.1 p'.1, p'.2.1, p'.2.2)
  | .slc t, .own m, x, k, st => (.ref (base + k) [], k + 1, st.lay (base + k) { mem := none, t := .slc t, m := .own m, x := x })
  | .slc t, .ro, x, k, st => (.con (.slc t) x, k, st)
  | .slc _, _, _, k, st => (.undef, k, st)
  | .mp a b, .ro, x, k, st => (.con (.mp a b) x, k, st)
  | .mp a b, .own m, x, k, st => (.ref (base + k) [], k + 1, st.lay (base + k) { mem := none, t := .mp a b, m := .own m, x := x })
  | .mp _ _, _, _, k, st => (.undef, k, st)
  | t, _, x, k, st => (.con t x, k, st)
def gots (base : Nat) : (rs : List (Ty × Md)) → ResT rs → Nat → St → SV × Nat × St
  | [], _, k, st => (.tnil, k, st)
  | (t, m) :: rs, x, k, st =>
    let p := got base t m x.1 k st
    let p' := gots base rs x.2 p.2.1 p.2.2
    (.tcons p.1 p'.1, p'.2.1, p'.2.2)
def single : List (Ty × Md) → SV → SV
  | [_], .tcons a _ => a
  | _, s => s
def fits : List PK → List SV → Bool
  | [], [] => true
  | .fn f _ :: ps, .fn g _ :: ss => f == g && fits ps ss
  | .fn _ _ :: _, _ => false
  | .nil :: ps, .raw (.slice none 0 0) :: ss => fits ps ss
  | .nil :: _, _ => false
  | _ :: ps, _ :: ss => fits ps ss
  | _, _ => false
def Tab.find : Tab → FuncId → List SV → Option Sm
  | [], _, _ => none
  | (j, b) :: l, i, ss => if i = j then (if fits b.ps ss = true then some b else Tab.find l i ss) else Tab.find l i ss
def untup : SV → List SV
  | .tcons a b => a :: untup b
  | _ => []
def ends : SV → Bool
  | .tcons _ b => ends b
  | .tnil => true
  | _ => false
def trip : (rs : List (Ty × Md)) → ResT rs → Option (Nat × Nat × Nat)
  | [(.int _, _), (.int _, _), (.int _, _)], x => some (Int.toNat x.1, Int.toNat x.2.1, Int.toNat x.2.2.1)
  | _, _ => none
def headN : List PK → Nat
  | .row t m :: _ => cntM t m
  | _ => 0
def leafTy : Ty → Md → Option Ty
  | .pair a b, m => if cntM a m.fst = 1 then leafTy a m.fst else leafTy b m.snd
  | .slc t, .own _ => some (.slc t)
  | .mp k v, .own _ => some (.mp k v)
  | _, _ => none
def headT : List PK → Option Ty
  | .row t m :: _ => leafTy t m
  | _ => none
def partK (ps : List PK) (rs : List (Ty × Md)) (x : ResT rs) (rw : List (Nat × Path)) (st : St) (d : Option Tmp) (K : St → Option R) : Option R :=
  match trip rs x, rw with
  | some (j, lo, n), (r, q) :: _ => if headN ps = 1 then match bget st.boxes r with
      | some b => rowOf (ctype b.t q) (cget b.t b.x q) (mget b.m q) fun t xs _ => if headT ps = some (.slc t) then (if j < List.length xs then K (st.set d (.sub r (q ++ [.idx j]) lo n)) else none) else none
      | none => none
    else none
  | _, _ => none
def rowsOf : (t : Ty) → (m : Md) → den t → RowT t m
  | .pair a b, m, x => (rowsOf a m.fst x.1, rowsOf b m.snd x.2)
  | .slc _, .own _, x => x
  | .mp _ _, .own _, x => x
  | .slc _, .ro, _ => ()
  | .slc _, .rz, _ => ()
  | .slc _, .dead, _ => ()
  | .slc _, .pair _ _, _ => ()
  | .mp _ _, .ro, _ => ()
  | .mp _ _, .rz, _ => ()
  | .mp _ _, .dead, _ => ()
  | .mp _ _, .pair _ _, _ => ()
  | .int _, _, _ => ()
  | .bool, _, _ => ()
  | .str, _, _ => ()
  | .raw, _, _ => ()
  | .unit, _, _ => ()
def sameHead : (ps : List PK) → ArgT ps → OutT ps → Prop
  | .row t m :: _, a, o => rowsOf t m a.1 = o.1
  | [], _, _ => False
  | .ro _ :: _, _, _ => False
  | .mv _ _ :: _, _, _ => False
  | .io _ _ _ :: _, _, _ => False
  | .fn _ _ :: _, _, _ => False
  | .lk _ :: _, _, _ => False
  | .nil :: _, _, _ => False
def sameMd (bs bs' : List (Nat × Bx)) : List (Nat × Path) → Bool
  | (r, _) :: _ => match bget bs r, bget bs' r with
    | some b, some b' => decide (b'.m = b.m)
    | _, _ => false
  | [] => false
open Classical in
noncomputable def whenS (P : Prop) (K : Option R) : Option R := if P then K else none
noncomputable def callS (c : Cx) (st0 : St) (d : Option Tmp) (f : FuncId) (ss : List SV) (K : St → Option R) : Option R :=
  match Tab.find c.T f ss with
  | some sm => args st0.boxes sm.ps ss st0 fun a io lo mv rw st =>
    if ((io ++ mv).all (fun r => !lo.contains r) && noDup io && (rw.all fun p => !io.contains p.1) && (lo.isEmpty || (sm.rs.all (fun p => noRo p.1 p.2) && psNoRo sm.ps))) = true then
      (sm.F a).bind fun r => backS sm.ps r.2 rw { slots := st.slots.map (forget (killIO io)), boxes := outsB sm.ps r.2 io st.boxes } fun st =>
        cond sm.part (cond (sameMd st0.boxes st.boxes rw) (whenS (sameHead sm.ps a r.2) (partK sm.ps sm.rs r.1 rw st d K)) none) <|
        let p := gots (d.getD 0 * 16) sm.rs r.1 0 st
        K (p.2.2.set d (single sm.rs p.1))
    else none
  | none => none
theorem when_some {b : Bool} {P : Prop} {K : Option R} {r : R} (h : cond b (whenS P K) none = some r) : b = true ∧ P ∧ K = some r := by
  cases b with
  | false => cases h
  | true =>
    unfold whenS at h
    simp only [cond] at h
    split at h
    · rename_i hp; exact ⟨rfl, hp, h⟩
    · cases h
end cps
end Go.Proofs.YtgdaiifhedpffaaDoor.V
set_option linter.unusedVariables false
set_option linter.unusedSimpArgs false
namespace Go.Proofs.YtgdaiifhedpffaaDoor.V
open Go
instance : DecidableEq Step := fun a b => match a, b with
  | .fst, .fst => isTrue rfl
  | .snd, .snd => isTrue rfl
  | .idx i, .idx j => if h : i = j then isTrue (by rw [h]) else isFalse (by intro e; cases e; exact h rfl)
  | .fst, .snd => isFalse (by intro e; cases e)
  | .fst, .idx _ => isFalse (by intro e; cases e)
  | .snd, .fst => isFalse (by intro e; cases e)
  | .snd, .idx _ => isFalse (by intro e; cases e)
  | .idx _, .fst => isFalse (by intro e; cases e)
  | .idx _, .snd => isFalse (by intro e; cases e)
inductive Sk where
  | undef
  | con (t : Ty)
  | nil
  | emp
  | agg (a b : Sk)
  | tcons (a b : Sk)
  | tnil
  | ref (r : Nat) (q : Path)
  | sub (r : Nat) (q : Path)
  | ptr (r : Nat) (q : Path)
  | pro (t : Ty)
  | fn (f : FuncId) (c : Sk)
@[reducible] def Sk.T : Sk → Type
  | .con t => den t
  | .agg a b => a.T × b.T
  | .tcons a b => a.T × b.T
  | .sub _ _ => Nat × Nat
  | .pro t => den t
  | .fn _ c => c.T
  | _ => Unit
def Sk.fill : (s : Sk) → s.T → SV
  | .undef, _ => .undef
  | .con t, x => .con t x
  | .nil, _ => .raw (.slice none 0 0)
  | .emp, _ => .emp
  | .agg a b, x => .agg (a.fill x.1) (b.fill x.2)
  | .tcons a b, x => .tcons (a.fill x.1) (b.fill x.2)
  | .tnil, _ => .tnil
  | .ref r q, _ => .ref r q
  | .sub r q, x => .sub r q x.1 x.2
  | .ptr r q, _ => .ptr r q
  | .pro t, x => .pro t x
  | .fn f c, x => .fn f (c.fill x)
def isNilV : Value → Bool
  | .slice none 0 0 => true
  | _ => false
theorem isNilV_ok {v : Value} (h : isNilV v = true) : v = .slice none 0 0 := by
  unfold isNilV at h
  split at h
  · rfl
  · cases h
def one : SV → Bool
  | .undef => true
  | .con t _ => !aggTy t
  | .raw v => isNilV v
  | .emp => true
  | .ref _ _ => true
  | .sub _ _ _ _ => true
  | .ptr _ _ => true
  | .pro _ _ => true
  | .fn _ _ => true
  | _ => false
section cps
variable {R : Type}
def Sk.take : (s : Sk) → Nat → SV → (s.T → Option R) → Option R
  | .undef, 0, _, K => K ()
  | .undef, 1, v, K => if one v = true then K () else none
  | .con t, _, .con t' x, K => if h : t' = t then K (h ▸ x) else none
  | .nil, _, .raw v, K => if isNilV v = true then K () else none
  | .emp, _, .emp, K => K ()
  | .agg a b, _, .agg x y, K => a.take 1 x fun u => b.take 1 y fun v => K (u, v)
  | .tcons a b, _, .tcons x y, K => a.take 0 x fun u => b.take 2 y fun v => K (u, v)
  | .tnil, _, .tnil, K => K ()
  | .ref r q, _, .ref r' q', K => if r' = r ∧ q' = q then K () else none
  | .sub r q, _, .sub r' q' lo n, K => if r' = r ∧ q' = q then K (lo, n) else none
  | .ptr r q, _, .ptr r' q', K => if r' = r ∧ q' = q then K () else none
  | .pro t, _, .pro t' x, K => if h : t' = t then K (h ▸ x) else none
  | .fn f c, _, .fn g x, K => if g = f then c.take 2 x K else none
  | _, _, _, _ => none
end cps
def less : Nat → SV → SV → Prop
  | 0, .undef, _ => True
  | 1, .undef, v => one v = true
  | _, .agg a b, .agg x y => less 1 a x ∧ less 1 b y
  | _, .tcons a b, .tcons x y => less 0 a x ∧ less 2 b y
  | _, .fn f c, .fn g x => f = g ∧ less 2 c x
  | _, a, x => a = x ∧ a ≠ .undef
def leaf : SV → Bool
  | .con _ _ => true
  | .raw _ => true
  | .emp => true
  | .tnil => true
  | .ref _ _ => true
  | .sub _ _ _ _ => true
  | .ptr _ _ => true
  | .pro _ _ => true
  | .nul _ _ => true
  | _ => false
theorem less_leaf (k : Nat) (a : SV) (h : leaf a = true) : less k a a := by
  match k with
  | 0 => cases a <;> simp [leaf] at h <;> simp [less]
  | 1 => cases a <;> simp [leaf] at h <;> simp [less]
  | k + 2 => cases a <;> simp [leaf] at h <;> simp [less]
theorem Sk.take_some {T : Type} {r : T} : ∀ {s : Sk} {k : Nat} {v : SV} {K : s.T → Option T}, s.take k v K = some r → ∃ x, K x = some r ∧ less k (s.fill x) v := by
  intro s
  induction s with
  | undef =>
    intro k v K h
    match k with
    | 0 => exact ⟨(), by simpa [Sk.take] using h, trivial⟩
    | 1 =>
      simp only [Sk.take] at h
      split at h
      · rename_i e; exact ⟨(), h, e⟩
      · cases h
    | k + 2 => simp [Sk.take] at h
  | con t =>
    intro k v K h
    cases v <;> simp only [Sk.take, reduceCtorEq] at h
    split at h
    · rename_i e; subst e; exact ⟨_, h, less_leaf k _ rfl⟩
    · cases h
  | nil =>
    intro k v K h
    cases v <;> simp only [Sk.take, reduceCtorEq] at h
    split at h
    · rename_i e; exact ⟨_, h, by rw [isNilV_ok e]; exact less_leaf k _ rfl⟩
    · cases h
  | emp => intro k v K h; cases v <;> simp only [Sk.take, reduceCtorEq] at h; exact ⟨_, h, less_leaf k _ rfl⟩
  | tnil => intro k v K h; cases v <;> simp only [Sk.take, reduceCtorEq] at h; exact ⟨_, h, less_leaf k _ rfl⟩
  | agg a b iha ihb =>
    intro k v K h
    cases v <;> simp only [Sk.take, reduceCtorEq] at h
    obtain ⟨x, h, l1⟩ := iha h
    obtain ⟨y, h, l2⟩ := ihb h
    exact ⟨(x, y), h, by simp only [Sk.fill, less]; exact ⟨l1, l2⟩⟩
  | tcons a b iha ihb =>
    intro k v K h
    cases v <;> simp only [Sk.take, reduceCtorEq] at h
    obtain ⟨x, h, l1⟩ := iha h
    obtain ⟨y, h, l2⟩ := ihb h
    exact ⟨(x, y), h, by simp only [Sk.fill, less]; exact ⟨l1, l2⟩⟩
  | ref r q =>
    intro k v K h
    cases v <;> simp only [Sk.take, reduceCtorEq] at h
    split at h
    · rename_i e; exact ⟨_, h, by rw [e.1, e.2]; exact less_leaf k _ rfl⟩
    · cases h
  | sub r q =>
    intro k v K h
    cases v <;> simp only [Sk.take, reduceCtorEq] at h
    split at h
    · rename_i e; exact ⟨_, h, by rw [e.1, e.2]; exact less_leaf k _ rfl⟩
    · cases h
  | ptr r q =>
    intro k v K h
    cases v <;> simp only [Sk.take, reduceCtorEq] at h
    split at h
    · rename_i e; exact ⟨_, h, by rw [e.1, e.2]; exact less_leaf k _ rfl⟩
    · cases h
  | pro t =>
    intro k v K h
    cases v <;> simp only [Sk.take, reduceCtorEq] at h
    split at h
    · rename_i e; subst e; exact ⟨_, h, less_leaf k _ rfl⟩
    · cases h
  | fn f c ih =>
    intro k v K h
    cases v <;> simp only [Sk.take, reduceCtorEq] at h
    split at h
    · rename_i e
      obtain ⟨x, h, l⟩ := ih h
      exact ⟨x, h, by simp only [Sk.fill, less]; exact ⟨e.symm, l⟩⟩
    · cases h
structure SkB where
  mem : Option TypeId
  t : Ty
  m : Md
  row : Option (Nat × Nat) := none
structure SkS where
  n : Nat
  slots : List (Nat × Sk)
  boxes : List (Nat × SkB)
@[reducible] def consT : Sk → Type → Type
  | .con t, T => den t × T
  | .agg a b, T => (a.T × b.T) × T
  | .tcons a b, T => (a.T × b.T) × T
  | .sub _ _, T => (Nat × Nat) × T
  | .pro t, T => den t × T
  | .fn _ c, T => c.T × T
  | _, T => T
def consMk {T : Type} : (s : Sk) → s.T → T → consT s T
  | .con _, x, y => (x, y)
  | .agg _ _, x, y => (x, y)
  | .tcons _ _, x, y => (x, y)
  | .sub _ _, x, y => (x, y)
  | .pro _, x, y => (x, y)
  | .fn _ _, x, y => (x, y)
  | .undef, _, y => y
  | .nil, _, y => y
  | .emp, _, y => y
  | .tnil, _, y => y
  | .ref _ _, _, y => y
  | .ptr _ _, _, y => y
def consFst {T : Type} : (s : Sk) → consT s T → s.T
  | .con _, x => x.1
  | .agg _ _, x => x.1
  | .tcons _ _, x => x.1
  | .sub _ _, x => x.1
  | .pro _, x => x.1
  | .fn _ _, x => x.1
  | .undef, _ => ()
  | .nil, _ => ()
  | .emp, _ => ()
  | .tnil, _ => ()
  | .ref _ _, _ => ()
  | .ptr _ _, _ => ()
def consSnd {T : Type} : (s : Sk) → consT s T → T
  | .con _, x => x.2
  | .agg _ _, x => x.2
  | .tcons _ _, x => x.2
  | .sub _ _, x => x.2
  | .pro _, x => x.2
  | .fn _ _, x => x.2
  | .undef, x => x
  | .nil, x => x
  | .emp, x => x
  | .tnil, x => x
  | .ref _ _, x => x
  | .ptr _ _, x => x
theorem consFst_mk {T : Type} (s : Sk) (x : s.T) (y : T) : consFst s (consMk s x y) = x := by cases s <;> rfl
theorem consSnd_mk {T : Type} (s : Sk) (x : s.T) (y : T) : consSnd s (consMk s x y) = y := by cases s <;> rfl
@[reducible] def slotsT : List (Nat × Sk) → Type
  | [] => Unit
  | (_, s) :: l => consT s (slotsT l)
@[reducible] def pinT : Option TypeId → Type
  | none => Unit
  | some _ => Option Nat
def pinV : (m : Option TypeId) → pinT m → Option Nat
  | none, _ => none
  | some _, p => p
@[reducible] def boxesT : List (Nat × SkB) → Type
  | [] => Unit
  | (_, b) :: l => (den b.t × pinT b.mem) × boxesT l
@[reducible] def SkS.T (s : SkS) : Type := slotsT s.slots × boxesT s.boxes
def gapU : Nat → List SV → List SV
  | 0, l => l
  | g + 1, l => .undef :: gapU g l
def slotsFill (n : Nat) : (l : List (Nat × Sk)) → slotsT l → List SV
  | [], _ => gapU n []
  | (g, s) :: l, x => gapU g (s.fill (consFst s x) :: slotsFill n l (consSnd s x))
def boxesFill : (l : List (Nat × SkB)) → boxesT l → List (Nat × Bx)
  | [], _ => []
  | (i, b) :: l, x => (i, { mem := b.mem, t := b.t, m := b.m, x := x.1.1, pin := pinV b.mem x.1.2, row := b.row }) :: boxesFill l x.2
def SkS.fill (s : SkS) (x : s.T) : St := ⟨slotsFill s.n s.slots x.1, boxesFill s.boxes x.2⟩
section cps
variable {R : Type}
def dropG : Nat → List SV → List SV
  | 0, l => l
  | _ + 1, [] => []
  | g + 1, _ :: l => dropG g l
def slotsTake (n : Nat) : (l : List (Nat × Sk)) → List SV → (slotsT l → Option R) → Option R
  | [], vs, K => if vs.length = n then K () else none
  | (g, s) :: l, vs, K => match dropG g vs with
    | v :: vs => s.take 0 v fun x => slotsTake n l vs fun y => K (consMk s x y)
    | [] => none
def pinTake : (m : Option TypeId) → Option Nat → (pinT m → Option R) → Option R
  | none, none, K => K ()
  | none, some _, _ => none
  | some _, p, K => K p
def boxesTake (bs : List (Nat × Bx)) : (l : List (Nat × SkB)) → (boxesT l → Option R) → Option R
  | [], K => K ()
  | (i, b) :: l, K => match bget bs i with
    | some c => if c.mem = b.mem ∧ c.m = b.m ∧ c.row = b.row then (if h : c.t = b.t then pinTake b.mem c.pin fun p => boxesTake bs l fun y => K ((h ▸ c.x, p), y) else none) else none
    | none => none
def SkS.take (s : SkS) (st : St) (K : s.T → Option R) : Option R := slotsTake s.n s.slots st.slots fun x => boxesTake st.boxes s.boxes fun y => K (x, y)
end cps
theorem gap_ok : ∀ (g : Nat) (vs l : List SV), g ≤ vs.length → l.length = (dropG g vs).length → (∀ n, less 0 (sget l n) (sget (dropG g vs) n)) → (gapU g l).length = vs.length ∧ ∀ n, less 0 (sget (gapU g l) n) (sget vs n)
  | 0, vs, l, _, h1, h2 => ⟨h1, h2⟩
  | g + 1, [], l, hg, _, _ => by simp at hg
  | g + 1, v :: vs, l, hg, h1, h2 => by
    obtain ⟨e1, e2⟩ := gap_ok g vs l (by simpa using hg) h1 h2
    refine ⟨by simp [gapU, e1], fun n => ?_⟩
    cases n with
    | zero => exact trivial
    | succ n => exact e2 n
theorem dropG_le : ∀ (g : Nat) (vs : List SV) (v : SV) (l : List SV), dropG g vs = v :: l → g ≤ vs.length
  | 0, _, _, _, _ => Nat.zero_le _
  | g + 1, [], _, _, h => by simp [dropG] at h
  | g + 1, _ :: vs, v, l, h => by
    have := dropG_le g vs v l h
    simpa using this
theorem dropG_all : ∀ (vs : List SV), dropG vs.length vs = []
  | [] => rfl
  | _ :: vs => dropG_all vs
theorem slotsTake_some {T : Type} {r : T} {e : Nat} : ∀ {l : List (Nat × Sk)} {vs : List SV} {K : slotsT l → Option T}, slotsTake e l vs K = some r → ∃ x, K x = some r ∧ (slotsFill e l x).length = vs.length ∧ ∀ n, less 0 (sget (slotsFill e l x) n) (sget vs n)
  | [], vs, K, h => by
    simp only [slotsTake] at h
    split at h
    · rename_i hl
      subst hl
      have := gap_ok vs.length vs [] (Nat.le_refl _) (by rw [dropG_all]) (fun n => trivial)
      exact ⟨(), h, this.1, this.2⟩
    · cases h
  | (g, s) :: l, vs, K, h => by
    simp only [slotsTake] at h
    split at h
    · rename_i v vs' hd
      obtain ⟨x, h, l1⟩ := Sk.take_some h
      obtain ⟨y, h, l2, l3⟩ := slotsTake_some h
      have := gap_ok g vs (s.fill x :: slotsFill e l y) (dropG_le _ _ _ _ hd) (by rw [hd]; simp [l2]) (fun n => by
        rw [hd]
        cases n with
        | zero => exact l1
        | succ n => exact l3 n)
      refine ⟨consMk s x y, h, ?_⟩
      simp only [slotsFill, consFst_mk, consSnd_mk]
      exact this
    · cases h
theorem pinTake_some {T : Type} {r : T} : ∀ {m : Option TypeId} {q : Option Nat} {K : pinT m → Option T}, pinTake m q K = some r → ∃ p, pinV m p = q ∧ K p = some r
  | none, none, K, h => ⟨(), rfl, h⟩
  | none, some _, K, h => by cases h
  | some _, p, K, h => ⟨p, rfl, h⟩
theorem boxesTake_some {T : Type} {r : T} {bs : List (Nat × Bx)} : ∀ {l : List (Nat × SkB)} {K : boxesT l → Option T}, boxesTake bs l K = some r → ∃ x, K x = some r ∧ ∀ j b, bget (boxesFill l x) j = some b → bget bs j = some b
  | [], K, h => ⟨(), h, fun j b hb => by simp [boxesFill, bget] at hb⟩
  | (i, b) :: l, K, h => by
    simp only [boxesTake] at h
    split at h
    · rename_i c hc
      split at h
      · rename_i e
        split at h
        · rename_i ht
          obtain ⟨p, hp, h⟩ := pinTake_some h
          obtain ⟨y, h, l1⟩ := boxesTake_some h
          refine ⟨_, h, fun j b' hb => ?_⟩
          simp only [boxesFill, bget] at hb
          split at hb
          · rename_i ej; subst ej
            cases hb
            rw [hc]
            obtain ⟨mem, t, m, x, pin, row⟩ := c
            obtain ⟨e1, e2, e3⟩ := e
            dsimp only at e1 e2 e3 ht hp
            subst e1; subst e2; subst e3; subst ht; subst hp
            rfl
          · exact l1 j b' hb
        · cases h
      · cases h
    · cases h
end Go.Proofs.YtgdaiifhedpffaaDoor.V
set_option linter.unusedVariables false
set_option linter.unusedSimpArgs false
namespace Go.Proofs.YtgdaiifhedpffaaDoor.V
open Go
section cps
variable {R : Type}
def isU : SV → Bool
  | .undef => true
  | _ => false
def boolOk (E : Env) (t : TypeId) : SV → Bool
  | .con .bool _ => match E.get t with
    | some te => match te.d with
      | .bool => true
      | _ => false
    | none => false
  | _ => true
def spl {α : Type} (xs : List α) (lo k : Nat) (ys : List α) : List α := xs.take lo ++ ys.take k ++ xs.drop (lo + k)
def copyB (st : St) (r lo : Nat) (nn : Option Nat) (te : TE) (v : SV) (K : Nat → St → Option R) : Option R :=
  match bget st.boxes r with
  | some b => if h : b.t = .slc te.ty then
      if b.mem.isNone = true ∧ isRow b.m = true ∧ flat te.ty = true ∧ sz te.ty = 1 ∧ isAgg v = false then
        look st.boxes v (.slc te.ty) fun ys =>
          if 0 < List.length ys ∧ 0 < (nn.getD (List.length (h ▸ b.x : den (.slc te.ty)))) then
            K (min (List.length ys) (nn.getD (List.length (h ▸ b.x : den (.slc te.ty)))))
              { slots := st.slots.map (kill1 r), boxes := bset r { b with x := (h.symm ▸ spl (h ▸ b.x : den (.slc te.ty)) lo (min (List.length ys) (nn.getD (List.length (h ▸ b.x : den (.slc te.ty))))) ys : den b.t) } st.boxes }
          else none
      else none
    else none
  | none => none
where
  isRow : Md → Bool
    | .own _ => true
    | _ => false
def copyS0 (st : St) (te : TE) (s v : SV) (K : Nat → St → Option R) : Option R :=
  match s with
  | .ref r [] => copyB st r 0 none te v K
  | .sub r [] lo n => copyB st r lo (some n) te v K
  | _ => none
def spliceB (st : St) (r : Nat) (q : Path) (lo : Nat) (nn : Option Nat) (ty : Ty) (ys : Nat → List (den ty)) (K : Nat → St → Option R) : Option R :=
  match bget st.boxes r with
  | some b => if h : ctype b.t q = .slc ty then
      if copyB.isRow (mget b.m q) = true ∧ flat ty = true ∧ sz ty = 1 then
        if 0 < List.length (ys (nn.getD (List.length (h ▸ cget b.t b.x q : den (.slc ty))))) ∧ List.length (ys (nn.getD (List.length (h ▸ cget b.t b.x q : den (.slc ty))))) ≤ nn.getD (List.length (h ▸ cget b.t b.x q : den (.slc ty))) then
          K (List.length (ys (nn.getD (List.length (h ▸ cget b.t b.x q : den (.slc ty))))))
            { slots := st.slots, boxes := bset r { b with x := cput b.t b.x q (h.symm ▸ (spl (h ▸ cget b.t b.x q : den (.slc ty)) lo (List.length (ys (nn.getD (List.length (h ▸ cget b.t b.x q : den (.slc ty)))))) (ys (nn.getD (List.length (h ▸ cget b.t b.x q : den (.slc ty))))) : den (.slc ty))) } st.boxes }
        else none
      else none
    else none
  | none => none
def spliceS (st : St) (s : SV) (ty : Ty) (ys : Nat → List (den ty)) (K : Nat → St → Option R) : Option R :=
  match s with
  | .ref r q => spliceB st r q 0 none ty ys K
  | .sub r q lo n => spliceB st r q lo (some n) ty ys K
  | _ => none
def copyQ (st : St) (r : Nat) (q : Path) (lo n : Nat) (te : TE) (v : SV) (K : Nat → St → Option R) : Option R :=
  match v with
  | .con t ys => if h : t = .slc te.ty then (if te.ty = .int .u8 then spliceB st r q lo (some n) te.ty (fun _ => (h ▸ ys : den (.slc te.ty))) K else none) else none
  | _ => none
def copyS (st : St) (te : TE) (s v : SV) (K : Nat → St → Option R) : Option R :=
  match s with
  | .sub r (p :: q) lo n => copyQ st r (p :: q) lo n te v K
  | s => copyS0 st te s v K
def builtinS (c : Cx) (st : St) (o : Oper) (b : Builtin) (tys : List TypeId) (ss : List SV) (K : St → Option R) : Option R :=
  match b, ss with
  | .len, [s] => match tys with
    | [t] => match c.E.get t with
      | some te => match te.d with
        | .str => if strS s = true then lenS st.boxes s fun n => K (st.set o.dst (.con (.int .i64) n)) else none
        | .slc _ => if strS s = false then lenS st.boxes s fun n => K (st.set o.dst (.con (.int .i64) n)) else none
        | _ => none
      | none => none
    | _ => none
  | .cap, [s] => match tys with
    | [t] => match c.E.get t with
      | some te => match te.d with
        | .slc _ => match s with
          | .emp => K (st.set o.dst (.con (.int .i64) (0 : Int)))
          | .raw (.slice none 0 0) => K (st.set o.dst (.con (.int .i64) (0 : Int)))
          | _ => none
        | _ => none
      | none => none
    | _ => none
  | .min, [s, t] => asInt s fun k x => asInt t fun j y => if k = j then K (st.set o.dst (.con (.int k) (if y < x then y else x))) else none
  | .max, [s, t] => asInt s fun k x => asInt t fun j y => if k = j then K (st.set o.dst (.con (.int k) (if y > x then y else x))) else none
  | .append, [s, v] => match o.dst, tys with
    | some d, [t, u] => if t = u then match c.E.get t with
      | some te => match te.d with
        | .slc e => match c.E.get e with
          | some ee => if ee.z = true then appS c st d ee s v K else none
          | none => none
        | _ => none
      | none => none
      else match s, c.E.get t, c.E.get u with
        | .raw (.slice none 0 0), some te, some ue => match te.d, ue.d with
          | .slc e, .int _ => match c.E.get e with
            | some ee => if ee.z = true then asInt v fun _ n => if 0 < n ∧ n * ee.bytes ≤ (most : Int) ∧ 0 < sz ee.ty ∧ 0 < ee.bytes then
                K ((st.lay (d * 16) { mem := none, t := .slc ee.ty, m := .own (fitM ee.ty (c.mode d te.ty).elem), x := List.replicate n.toNat (dflt ee.ty) }).set (some d) (.ref (d * 16) []))
              else none
              else none
            | none => none
          | _, _ => none
        | s, some te, some ue => match te.d, ue.d with
          | .slc e, .int _ => match c.E.get e with
            | some ee => if ee.z = true then zerosK ee v fun z => appS c st d ee s z K else none
            | none => none
          | _, _ => none
        | _, _, _ => none
    | _, _ => none
  | .copy, [s, v] => match tys with
    | [t, u] => match c.E.get t, c.E.get u with
      | some te, some ue => match te.d, ue.d with
        | .slc e, .slc _ => match c.E.get e with
          | some ee => copyS st ee s v fun n st => K (st.set o.dst (.con (.int .i64) (n : Nat)))
          | none => none
        | .slc e, .str => match c.E.get e with
          | some ee => if ee.ty = .int .u8 then asStr v fun z => spliceS st s (.int .u8) (fun _ => s2b z) fun n st => K (st.set o.dst (.con (.int .i64) (n : Nat))) else none
          | none => none
        | _, _ => none
      | _, _ => none
    | _ => none
  | .clear, [s] => match tys with
    | [t] => match c.E.get t with
      | some te => match te.d with
        | .slc e => match c.E.get e with
          | some ee => if ee.z = true ∧ ee.ty = .int .u8 then spliceS st s (.int .u8) (fun n => List.replicate n (0 : Int)) fun _ st => K (st.set o.dst .tnil) else none
          | none => none
        | _ => none
      | none => none
    | _ => none
  | _, _ => none
def isRo : Md → Bool
  | .ro => true
  | _ => false
def isNilC : Operand → Bool
  | .const (.slice none 0 0) => true
  | _ => false
open Classical in
noncomputable def nilT (b : Bool) (x y : Option R) : Option R := if b = true then (if x = y then x else none) else y
noncomputable def nilS (op : BinOp) (s : SV) (K : Bool → Option R) : Option R :=
  match s with
  | .con (.slc _) xs => match op with
    | .eql => nilT (List.isEmpty xs) (K true) (K false)
    | .neq => nilT (List.isEmpty xs) (K false) (K true)
    | _ => none
  | .nul _ xs => match op with
    | .eql => K (List.isEmpty xs)
    | .neq => K (!List.isEmpty xs)
    | _ => none
  | .raw (.slice none 0 0) => match op with
    | .eql => K true
    | .neq => K false
    | _ => none
  | _ => none
def slcId (E : Env) (t : TypeId) : Bool :=
  match E.get t with
  | some te => match te.d with
    | .slc _ => true
    | _ => false
  | none => false
def keyT : Ty → Bool
  | .int _ => true
  | .bool => true
  | .str => true
  | _ => false
def oneT : Ty → Bool
  | .int _ => true
  | .bool => true
  | .str => true
  | .slc _ => true
  | _ => false
def isCon : SV → Bool
  | .con _ _ => true
  | _ => false
def keq : (t : Ty) → den t → den t → Bool
  | .int _, a, b => decide ((a : Int) = b)
  | .bool, a, b => (a : Bool) == b
  | .str, a, b => strEq a b
  | _, _, _ => false
def mfind (k v : Ty) : List (den k × den v) → den k → Option (den v)
  | [], _ => none
  | p :: l, a => if keq k a p.1 = true then some p.2 else mfind k v l a
def mset (k v : Ty) : List (den k × den v) → den k → den v → List (den k × den v)
  | [], a, b => [(a, b)]
  | p :: l, a, b => if keq k a p.1 = true then (p.1, b) :: l else p :: mset k v l a b
def eqTy : Ty → Bool
  | .pair a b => keyT a && eqTy b
  | .unit => true
  | _ => false
def eqD : (t : Ty) → den t → den t → Bool
  | .pair a b, x, y => keq a x.1 y.1 && eqD b x.2 y.2
  | .int _, _, _ => true
  | .bool, _, _ => true
  | .str, _, _ => true
  | .raw, _, _ => true
  | .unit, _, _ => true
  | .slc _, _, _ => true
  | .mp _ _, _, _ => true
def conK (ty : Ty) (s : SV) (K : den ty → Option R) : Option R := match s with
  | .con t x => if h : t = ty then K (h ▸ x) else none
  | _ => none
def isPairC : SV → Bool
  | .con (.pair _ _) _ => true
  | _ => false
def eqS (E : Env) (op : BinOp) (t : TypeId) (s u : SV) (K : SV → Option R) : Option R :=
  match E.get t with
  | some te => if te.q = true ∧ eqTy te.ty = true then conK te.ty s fun x => conK te.ty u fun y => match op with
      | .eql => K (.con .bool (eqD te.ty x y))
      | .neq => K (.con .bool (!eqD te.ty x y))
      | _ => none
    else none
  | none => none
def tagN (bs : List (Nat × Bx)) : SV → Option Nat
  | .agg a b => (tagN bs a).orElse fun _ => tagN bs b
  | .ref r [] => (bget bs r).bind fun b => b.row.map (·.1)
  | _ => none
def tagged (bs : List (Nat × Bx)) (n : Nat) : SV → Ty → Nat → Bool
  | .agg a b, .pair ta tb, o => tagged bs n a ta o && tagged bs n b tb (o + sz ta)
  | .ref r [], .slc _, o => match bget bs r with
    | some b => b.mem.isNone && b.row == some (n, o)
    | none => false
  | .con t' _, t, o => decide (t' = t) && (rowOffs t o).isEmpty
  | _, _, _ => false
def tagOf (bs : List (Nat × Bx)) (s : SV) (t : Ty) : Option (Nat × Nat) := match tagN bs s with
  | some n => if tagged bs n s t 0 = true then some (n, 0) else none
  | none => none
noncomputable def stepS (c : Cx) (st : St) (o : Oper) (K : St → Option R) : Option R :=
  match o.op with
  | .move x => K (st.set o.dst (st.ev x))
  | .assign x => K (st.set o.dst (st.ev x))
  | .pick g a b => asBool (st.ev g) fun v => cond v (K (st.set o.dst (st.ev a))) (K (st.set o.dst (st.ev b)))
  | .alloc e => match c.E.get e, o.dst with
    | some te, some d => if te.z = true then
        K ((st.lay (d * 16) { mem := some e, t := te.ty, m := fitM te.ty (c.mode d te.ty), x := dflt te.ty }).set (some d) (.ptr (d * 16) []))
      else none
    | _, _ => none
  | .box e v => match c.E.get e, o.dst with
    | some te, some d => toC st (st.ev v) te.ty (c.mode d te.ty) fun x m st1 =>
        K ((st1.lay (d * 16) { mem := some e, t := te.ty, m := m, x := x, row := tagOf st.boxes (st.ev v) te.ty }).set (some d) (.ptr (d * 16) []))
    | _, _ => none
  | .build t parts => match c.E.get t with
    | some te => match te.d with
      | .struct _ => if te.z = true then (buildL st parts.toList (fieldTys te.ty) ((fieldTys te.ty).map zsv)).bind fun l => K (st.set o.dst (aggOf l)) else none
      | .arr _ => if te.z = true then (buildL st parts.toList (fieldTys te.ty) ((fieldTys te.ty).map zsv)).bind fun l => K (st.set o.dst (aggOf l)) else none
      | _ => none
    | none => none
  | .buildSlice t n parts => match c.E.get t, o.dst with
    | some te, some d => match te.d with
      | .slc e => match c.E.get e with
        | some ee => if ee.z = true ∧ n * sz ee.ty ≤ 16777216 ∧ 0 < sz ee.ty ∧ (elemsOk n parts.toList = true) then elems ee.ty (fitM ee.ty (c.mode d te.ty).elem) (parts.toList.map fun p => st.ev p.2) st fun xs st =>
          if isRo (c.mode d te.ty) = true then (if live ee.ty (fitM ee.ty (c.mode d te.ty).elem) = true then K (st.set (some d) (.con (.slc ee.ty) xs)) else none) else
          K ((st.lay (d * 16) { mem := none, t := .slc ee.ty, m := .own (fitM ee.ty (c.mode d te.ty).elem), x := xs }).set (some d) (.ref (d * 16) []))
          else none
        | none => none
      | _ => none
    | _, _ => none
  | .load t a => match c.E.get t with
    | some te => loadS st.boxes te.ty (st.ev a) fun s => K (st.set o.dst s)
    | none => none
  | .store t a v => match c.E.get t with
    | some te => storeS c st te.ty (st.ev a) (st.ev v) fun st => K (st.set o.dst .tnil)
    | none => none
  | .nilCheck x => match st.ev x with
    | .ptr r q => if (bget st.boxes r).isSome = true then K (st.set o.dst (.ptr r q)) else none
    | .pro t x => K (st.set o.dst (.pro t x))
    | .fn f cs => K (st.set o.dst (.fn f cs))
    | _ => none
  | .binOp op t x y _ => if isNilC y = true then (if slcId c.E t = true then nilS op (st.ev x) fun b => K (st.set o.dst (.con .bool b)) else none) else if isPairC (st.ev x) = true then eqS c.E op t (st.ev x) (st.ev y) fun s => K (st.set o.dst s) else if boolOk c.E t (st.ev x) = true then binS op (st.ev x) (st.ev y) fun s => K (st.set o.dst s) else none
  | .unOp op t x => match op with
    | .not => asBool (st.ev x) fun b => K (st.set o.dst (.con .bool (!b)))
    | .neg => asInt (st.ev x) fun k n => K (st.set o.dst (.con (.int k) (k.wrap (0 - n))))
    | .xor => asInt (st.ev x) fun k n => K (st.set o.dst (.con (.int k) (bitop k .xor (if k.signed = true then -1 else k.max) n)))
    | _ => none
  | .convert src dst x => match c.E.get src, c.E.get dst with
    | some ts, some td => match ts.d, td.d with
      | _, .int k => asInt (st.ev x) fun _ n => K (st.set o.dst (.con (.int k) (k.wrap n)))
      | .slc e, .str => match c.E.get e with
        | some te => match te.d with
          | .int .u8 => if isAgg (st.ev x) = false then look st.boxes (st.ev x) (.slc (.int .u8)) fun l => K (st.set o.dst (.con .str (b2s l))) else none
          | _ => none
        | none => none
      | .str, .slc e => match c.E.get e with
        | some te => match te.d with
          | .int .u8 => asStr (st.ev x) fun s => K (st.set o.dst (.con (.slc (.int .u8)) (s2b s)))
          | _ => none
        | none => none
      | _, _ => none
    | _, _ => none
  | .makeFunc (.func f) first caps => match first.toList with
    | [] => K (st.set o.dst (.fn f (tupleOf (caps.toList.map st.ev))))
    | _ => none
  | .makeSlice t l cp => match c.E.get t, o.dst with
    | some te, some d => match te.d with
      | .slc e => match c.E.get e with
        | some ee => if ee.z = true then asInt (st.ev l) fun _ n => asInt (st.ev cp) fun _ m =>
          if 0 ≤ n ∧ n ≤ m ∧ m * ee.bytes ≤ (most : Int) ∧ 0 < sz ee.ty ∧ 0 < ee.bytes then
            K ((st.lay (d * 16) { mem := none, t := .slc ee.ty, m := .own (fitM ee.ty (c.mode d te.ty).elem), x := List.replicate n.toNat (dflt ee.ty) }).set (some d) (.ref (d * 16) []))
          else none
          else none
        | none => none
      | _ => none
    | _, _ => none
  | .slice t x lo hi mx => match c.E.get t with
    | some te => match te.d with
      | .slc _ => sliceS st te.ty (st.ev x) lo hi mx fun s => K (st.set o.dst s)
      | .str => sliceS st te.ty (st.ev x) lo hi mx fun s => K (st.set o.dst s)
      | _ => none
    | none => none
  | .fieldAddr t x f => match c.E.get t with
    | some te => match te.d with
      | .struct _ => fieldPtr st.boxes te.ty f (st.ev x) fun s => K (st.set o.dst s)
      | _ => none
    | none => none
  | .field t x f => match c.E.get t with
    | some te => match te.d with
      | .struct _ => if fitsTy te.ty (st.ev x) = true ∧ f < (fieldTys te.ty).length ∧ isU (st.ev x) = false then K (st.set o.dst (fieldOf f (st.ev x))) else none
      | _ => none
    | none => none
  | .indexAddr t x i => match c.E.get t with
    | some te => match te.d with
      | .slc _ => asInt (st.ev i) fun _ i => elemS st.boxes te.ty (st.ev x) i fun s => K (st.set o.dst s)
      | .arr _ => litAt st.boxes te.ty i (st.ev x) fun s => K (st.set o.dst s)
      | _ => none
    | none => none
  | .index t x i => match c.E.get t with
    | some te => match te.d with
      | .str => asInt (st.ev i) fun _ i => asStr (st.ev x) fun s => if 0 ≤ i ∧ i < (s.size : Int) then K (st.set o.dst (.con (.int .u8) (bt s i))) else none
      | _ => none
    | none => none
  | .extract x i => (nth i (st.ev x)).bind fun s => K (st.set o.dst s)
  | .makeMap t none => match c.E.get t, o.dst with
    | some te, some d => match te.d with
      | .mp _ _ => K ((st.lay (d * 16) { mem := none, t := te.ty, m := .own (.own .ro), x := dflt te.ty }).set (some d) (.ref (d * 16) []))
      | _ => none
    | _, _ => none
  | .lookup t x ix ok => match c.E.get t with
    | some te => match te.d with
      | .mp k v => match c.E.get k, c.E.get v with
        | some ke, some ve => if keyT ke.ty = true ∧ oneT ve.ty = true ∧ ve.z = true ∧ isAgg (st.ev x) = false ∧ isAgg (st.ev ix) = false then
            look st.boxes (st.ev x) (.mp ke.ty ve.ty) fun m => look st.boxes (st.ev ix) ke.ty fun key =>
              cond ok (K (st.set o.dst (.tcons (.con ve.ty ((mfind ke.ty ve.ty m key).getD (dflt ve.ty))) (.tcons (.con .bool (mfind ke.ty ve.ty m key).isSome) .tnil))))
                (K (st.set o.dst (.con ve.ty ((mfind ke.ty ve.ty m key).getD (dflt ve.ty)))))
          else none
        | _, _ => none
      | _ => none
    | none => none
  | .mapUpdate t m key x => match c.E.get t with
    | some te => match te.d with
      | .mp k v => match c.E.get k, c.E.get v with
        | some ke, some ve => if keyT ke.ty = true ∧ oneT ve.ty = true ∧ isAgg (st.ev key) = false ∧ isAgg (st.ev x) = false ∧ (keyT ve.ty = true ∨ isCon (st.ev x) = true) then match st.ev m with
            | .ref r [] => look st.boxes (st.ev key) ke.ty fun a => look st.boxes (st.ev x) ve.ty fun y => match bget st.boxes r with
              | some b => if h : b.t = .mp ke.ty ve.ty then match b.m, b.mem with
                  | .own (.own _), none => K ((({ st with boxes := bset r { b with x := (h.symm ▸ (mset ke.ty ve.ty (h ▸ b.x : den (.mp ke.ty ve.ty)) a y : den (.mp ke.ty ve.ty)) : den b.t) } st.boxes } : St)).set o.dst .tnil)
                  | _, _ => none
                else none
              | none => none
            | _ => none
          else none
        | _, _ => none
      | _ => none
    | none => none
  | .call cl => match cl.callee with
    | .builtin b => builtinS c st o b cl.argTypes.toList (cl.args.toList.map st.ev) K
    | .value f => match st.ev f with
      | .fn f caps => if ends caps = true then callS c st o.dst f (cl.args.toList.map st.ev ++ untup caps) K else none
      | _ => none
    | .invoke _ _ => none
  | _ => none
noncomputable def opsS (c : Cx) (ops : Array Oper) : List Nat → St → (St → Option R) → Option R
  | [], st, K => K st
  | i :: rest, st, K => match ops[i]? with
    | none => none
    | some o => match o.guard with
      | none => stepS c st o fun st => opsS c ops rest st K
      | some (j, want) => match (ops[j]?).bind (·.dst) with
        | none => none
        | some g => match sget st.slots g with
          | .con .bool v =>
            cond v
              (cond want (stepS c (st.set (some g) (.con .bool true)) o fun st => opsS c ops rest st K) (opsS c ops rest ((st.set (some g) (.con .bool true)).set o.dst .tnil) K))
              (cond want (opsS c ops rest ((st.set (some g) (.con .bool false)).set o.dst .tnil) K) (stepS c (st.set (some g) (.con .bool false)) o fun st => opsS c ops rest st K))
          | .tnil => opsS c ops rest (st.set o.dst .tnil) K
          | _ => none
def quiet (o : Oper) : Bool :=
  match o.op with
  | .move _ | .assign _ | .pick .. | .build .. | .load .. | .nilCheck _ | .unOp .. | .convert .. | .slice .. | .fieldAddr .. | .field .. | .indexAddr .. | .index .. | .extract .. => true
  | .binOp _ _ _ y _ => !isNilC y
  | .call cl => match cl.callee, cl.argTypes.toList, cl.args.toList with
    | .builtin .len, [_], [_] => true
    | .builtin .min, [_, _], [_, _] => true
    | _, _, _ => false
  | _ => false
def rd (o : Oper) : List Operand :=
  match o.op with
  | .move x => [x]
  | .assign x => [x]
  | .pick g a b => [g, a, b]
  | .alloc _ => []
  | .box _ v => [v]
  | .build _ parts => parts.toList.map (·.2)
  | .buildSlice _ _ parts => parts.toList.map (·.2)
  | .load _ a => [a]
  | .store _ a v => [a, v]
  | .nilCheck x => [x]
  | .binOp _ _ x y _ => [x, y]
  | .unOp _ _ x => [x]
  | .convert _ _ x => [x]
  | .makeFunc _ first caps => first.toList ++ caps.toList
  | .makeSlice _ l c => [l, c]
  | .slice _ x lo hi mx => x :: (lo.toList ++ hi.toList ++ mx.toList)
  | .fieldAddr _ x _ => [x]
  | .field _ x _ => [x]
  | .indexAddr _ x i => [x, i]
  | .index _ x i => [x, i]
  | .extract x _ => [x]
  | .call cl => (match cl.callee with | .value f => [f] | _ => []) ++ cl.args.toList
  | _ => []
def apart (a b : Oper) : Bool :=
  (match a.dst with
   | some d => !(rd b).any (fun x => match x with | .tmp t => t == d | _ => false) && !(b.dst == some d)
   | none => true) &&
  (match b.dst with
   | some d => !(rd a).any (fun x => match x with | .tmp t => t == d | _ => false)
   | none => true)
def edges (o : Oper) : List Nat := (o.after.toList.filter fun e => Region.binds .any e).map (·.on)
def joinL : List Nat → List Nat → List Nat
  | [], m => m
  | a :: l, m => if m.contains a then joinL l m else joinL l (a :: m)
def preds : List Oper → List (List Nat) → List (List Nat)
  | [], t => t
  | o :: l, t => preds l (t ++ [(edges o).foldl (fun s e => joinL (e :: t.getD e []) s) []])
def swapOk (a b : Oper) : Bool := a.guard.isNone && b.guard.isNone && quiet a && quiet b && apart a b
def drawOk (ops : Array Oper) (t : List (List Nat)) : Bool :=
  (List.range ops.size).all fun i => match ops[i]? with
    | none => false
    | some o => ((edges o).all fun e => decide (e < i)) && ((t.getD i []).all fun j => (edges o).any fun m => m == j || (t.getD m []).contains j) &&
      (List.range i).all fun j => (t.getD i []).contains j || (match ops[j]? with | some p => swapOk p o | none => false)
def noU : SV → Bool
  | .undef => false
  | .agg a b => noU a && noU b
  | .tcons a b => noU a && noU b
  | .fn _ c => noU c
  | _ => true
def avoid (ds : List Nat) (s : SV) : Bool := (roots s).all fun r => !ds.contains (r / 16)
def plainPs : List PK → Bool
  | [] => true
  | .ro _ :: ps => plainPs ps
  | .fn _ _ :: ps => plainPs ps
  | .nil :: ps => plainPs ps
  | _ => false
def lent1 : List PK → Bool
  | .row t m :: ps => decide (cntM t m = 1) && plainPs ps
  | _ => false
def cntT : Ty → Nat
  | .pair a b => cntT a + cntT b
  | .slc _ => 1
  | .mp _ _ => 1
  | _ => 0
def cntR : List (Ty × Md) → Nat
  | [] => 0
  | p :: l => cntT p.1 + cntR l
def loud (o : Oper) : Bool :=
  match o.op with
  | .alloc _ | .makeSlice .. | .buildSlice .. | .box .. => true
  | .call cl => match cl.callee with
    | .value _ => true
    | .builtin .append => true
    | .builtin .copy => true
    | _ => false
  | .store .. => true
  | _ => false
inductive Deed where
  | app (d : Nat) (ee : TE)
  | appz (d : Nat) (te ee : TE)
  | cp (ee : TE)
  | sto (te : TE)
def Deed.new : Deed → Option Nat
  | .app d _ => some d
  | .appz d _ _ => some d
  | _ => none
def appArgs (c : Cx) (o : Oper) : Option (Deed × Operand × Operand) :=
  match o.op with
  | .store t a v => match c.E.get t with
    | some te => some (.sto te, a, v)
    | none => none
  | .call cl => match cl.callee, cl.args.toList, cl.argTypes.toList with
    | .builtin .append, [x, y], [t, u] => match o.dst with
      | some d => if t = u then match c.E.get t with
        | some te => match te.d with
          | .slc e => match c.E.get e with
            | some ee => if ee.z = true then some (.app d ee, x, y) else none
            | none => none
          | _ => none
        | none => none
        else match c.E.get t, c.E.get u with
        | some te, some ue => match te.d, ue.d with
          | .slc e, .int _ => match c.E.get e with
            | some ee => if ee.z = true then some (.appz d te ee, x, y) else none
            | none => none
          | _, _ => none
        | _, _ => none
      | none => none
    | .builtin .copy, [x, y], [t, u] => match c.E.get t, c.E.get u with
      | some te, some ue => match te.d, ue.d with
        | .slc e, .slc _ => match c.E.get e with
          | some ee => some (.cp ee, x, y)
          | none => none
        | _, _ => none
      | _, _ => none
    | _, _, _ => none
  | _ => none
def hinted (c : Cx) (o : Oper) : Bool := match o.dst with
  | some d => (c.O.lookup d).isSome
  | none => false
def born (c : Cx) (st : St) (o : Oper) : Bool :=
  (appArgs c o).isSome || o.dst.isSome && (match o.op with
  | .alloc _ => true
  | .makeSlice .. => true
  | .buildSlice .. => true
  | .box .. => true
  | .call cl => match cl.callee with
    | .value f => match st.ev f with
      | .fn g caps => match Tab.find c.T g (cl.args.toList.map st.ev ++ untup caps) with
        | some sm => if sm.part = true then lent1 sm.ps && hinted c o && !cl.args.toList.isEmpty else plainPs sm.ps && decide (cntR sm.rs ≤ 16)
        | none => false
      | _ => false
    | _ => false
  | _ => false)
def gdst (ops : Array Oper) (o : Oper) : Option Tmp :=
  match o.guard with
  | some (j, _) => (ops[j]?).bind (·.dst)
  | none => none
def rdg (ops : Array Oper) (o : Oper) : List Operand := (match gdst ops o with | some g => [.tmp g] | none => []) ++ rd o
def takes (o : Oper) : Bool :=
  match o.op with
  | .buildSlice .. | .box .. | .store .. => true
  | .call cl => match cl.callee with
    | .builtin .append => true
    | .builtin .copy => true
    | _ => false
  | _ => false
def tk (c : Cx) (o : Oper) : List Operand :=
  match o.op with
  | .buildSlice _ _ parts => parts.toList.map (·.2)
  | .box _ v => [v]
  | _ => match appArgs c o with
    | some (.app _ ee, x, y) => if flat ee.ty = true then [x] else [x, y]
    | some (.appz _ _ _, x, _) => [x]
    | some (.cp _, x, _) => [x]
    | some (.sto _, x, y) => [x, y]
    | none => match o.op with
      | .call cl => match cl.callee with
        | .value _ => if hinted c o = true then cl.args.toList.take 1 else []
        | _ => []
      | _ => []
structure Ward where
  al : Bool
  A : List Nat
  U : List Nat
  S : List Nat
  L : Nat
instance : Inhabited Ward := ⟨⟨false, [], [], [], 0⟩⟩
def ward (W : List Ward) (i : Nat) : Ward := W.getD i ⟨false, [], [], [], 0⟩
def hdOp (o : Oper) : Bool := o.guard.isNone && match o.op with
  | .load _ _ => true
  | .indexAddr _ _ _ => true
  | .fieldAddr _ _ _ => true
  | .move _ => true
  | _ => false
def stOp (o : Oper) : Bool := o.guard.isNone && match o.op with
  | .store _ _ _ => true
  | _ => false
def callOp (o : Oper) : Bool := o.guard.isNone && match o.op with
  | .call cl => match cl.callee with
    | .value _ => true
    | _ => false
  | _ => false
def shal0 (S : List Nat) : SV → Bool
  | .ref r q => !S.contains (r / 16) || decide (lev q = 0)
  | .sub r q _ _ => !S.contains (r / 16) || decide (lev q = 0)
  | .ptr r q => !S.contains (r / 16) || decide (lev q = 0)
  | .agg a b => shal0 S a && shal0 S b
  | .tcons a b => shal0 S a && shal0 S b
  | .fn _ c => shal0 S c
  | _ => true
def shal1 (v : Ward) : SV → Bool
  | .ref r q => !v.S.contains (r / 16) || decide (lev q < v.L)
  | .sub r q _ _ => !v.S.contains (r / 16) || decide (lev q < v.L)
  | .ptr r q => !v.S.contains (r / 16) || decide (lev q ≤ v.L)
  | s => (roots s).all fun r => !v.S.contains (r / 16)
def shal (v : Ward) (s : SV) : Bool := if v.L = 0 then shal0 v.S s else shal1 v s
def isOwnM : Md → Bool
  | .own _ => true
  | _ => false
def softC1 (o : Oper) (v : Ward) (st : St) : Bool :=
  match o.op with
  | .load _ a => match st.ev a with
    | .ptr r q => !v.S.contains (r / 16) || (decide (lev q < v.L) && (match bget st.boxes r with
      | some b => isHd (ctype b.t q) && isOwnM (mget b.m q)
      | none => false))
    | s => (roots s).all fun r => !v.S.contains (r / 16)
  | .indexAddr _ x i => shal1 v (st.ev x) && shal1 v (st.ev i)
  | .fieldAddr _ x _ => shal1 v (st.ev x)
  | .move x => shal1 v (st.ev x)
  | .store _ a y => (match st.ev a with
    | .ptr r q => !v.S.contains (r / 16) || decide (0 < lev q ∧ v.L ≤ lev q)
    | _ => true) && (roots (st.ev y)).all fun r => !v.S.contains (r / 16)
  | _ => true
def softC (o : Oper) (v : Ward) (st : St) : Bool := if v.L = 0 then callOp o || (rd o).all (fun x => shal0 v.S (st.ev x)) else softC1 o v st
def rdOp (v : Ward) (o : Oper) : Bool := if v.L = 0 then o.guard.isNone && quiet o else hdOp o
def chk (c : Cx) (ops : Array Oper) (i : Nat) (v : Ward) (st : St) : Bool :=
  match ops[i]? with
  | some o => (quiet o || born c st o) && ((rdg ops o).all fun x => noU (st.ev x) && avoid v.A (st.ev x)) && ((tk c o).all fun x => (roots (st.ev x)).all fun r => v.U.contains (r / 16)) && softC o v st
  | none => false
def dstS (ops : Array Oper) (i : Nat) (st : St) : SV :=
  match ops[i]? with
  | some o => match o.dst with
    | some d => sget st.slots d
    | none => .undef
  | none => .undef
def outOk (ops : Array Oper) (i : Nat) (v : Ward) (st : St) : Bool :=
  match ops[i]? with
  | some o => avoid v.A (dstS ops i st) && (!rdOp v o || shal v (dstS ops i st))
  | none => false
noncomputable def gC (c : Cx) (ops : Array Oper) (i : Nat) (v : Ward) (st : St) (K : St → Option R) : Option R :=
  if chk c ops i v st = true then opsS c ops [i] st fun st => if outOk ops i v st = true then K st else none else none
noncomputable def g1 (c : Cx) (ops : Array Oper) (W : List Ward) (i : Nat) (st : St) (K : St → Option R) : Option R :=
  if (ward W i).al = true then opsS c ops [i] st K else gC c ops i (ward W i) st K
noncomputable def opsC (c : Cx) (ops : Array Oper) (W : List Ward) : List Nat → St → (St → Option R) → Option R
  | [], st, K => K st
  | i :: l, st, K => g1 c ops W i st fun st => opsC c ops W l st K
def apartG (ops : Array Oper) (a b : Oper) : Bool :=
  (match a.dst with
   | some d => !(rdg ops b).any (fun x => match x with | .tmp t => t == d | _ => false) && !(b.dst == some d)
   | none => true) &&
  (match b.dst with
   | some d => !(rdg ops a).any (fun x => match x with | .tmp t => t == d | _ => false)
   | none => true)
def srcs (ops : Array Oper) : Nat → Operand → List Nat
  | 0, _ => []
  | n + 1, .tmp t => match ops.toList.find? fun p => p.dst == some t with
    | some p => if loud p then [t] else (rd p).flatMap (srcs ops n)
    | none => []
  | _, _ => []
def takesOf (ops : Array Oper) (O : List (Nat × List Nat)) (S : List Nat) (i : Nat) : List Nat :=
  match ops[i]? with
  | some o => if takes o then (rd o).flatMap (srcs ops ops.size) ++ (match o.dst with | some d => (O.lookup d).getD [] | none => []) ++ (if stOp o then S else [])
    else if callOp o then (match o.dst with | some d => (O.lookup d).getD [] | none => []) else []
  | none => []
def besides (t : List (List Nat)) (i j : Nat) : Bool := !(j == i || (t.getD i []).contains j || (t.getD j []).contains i)
def softP (z : Bool) (a b : Oper) : Bool := if z = true then (a.guard.isNone && quiet a && callOp b) || (callOp a && (b.guard.isNone && quiet b)) else (hdOp a && stOp b) || (stOp a && hdOp b)
def wardOf (ops : Array Oper) (t : List (List Nat)) (O : List (Nat × List Nat)) (F : List Nat) (H : List Nat) (i : Nat) : Ward :=
  { al := (List.range ops.size).all fun j => F.contains j || !besides t i j
    A := (List.range ops.size).flatMap fun j => if F.contains j then [] else if besides t i j then (match ops[j]? with
      | some o => if loud o then (o.dst.toList ++ takesOf ops O H.tail j).filter (fun d => !((match ops[i]? with | some p => softP (H.headD 0 == 0) p o | none => false) && H.tail.contains d)) else []
      | none => []) else []
    U := takesOf ops O H.tail i
    S := H.tail
    L := H.headD 0 }
def wards (ops : Array Oper) (t : List (List Nat)) (O : List (Nat × List Nat)) (F : List Nat) (H : List Nat) : List Ward := (List.range ops.size).map (wardOf ops t O F H)
def offB (o p : Oper) (u v : Ward) : Bool := !loud o || ((match o.dst with | some d => v.A.contains d | none => true) && u.U.all fun d => v.A.contains d || (softP (v.L == 0) o p && v.S.contains d))
def hoistOk (ops : Array Oper) (F : List Nat) : Bool :=
  Region.noSelect ops && noDup F && F.all fun i => match ops[i]? with
    | some o => o.guard.isNone && (match o.op with | .move _ => true | _ => false) && (edges o).isEmpty && (List.range ops.size).all fun j => j == i || (match ops[j]? with
      | some p => p.after.any (fun e => Region.binds .any e && e.on == i) || Oper.apart ops o p
      | none => true)
    | none => false
def drawC (ops : Array Oper) (t : List (List Nat)) (W : List Ward) (F : List Nat) : Bool :=
  (List.range ops.size).all fun i => match ops[i]? with
    | none => false
    | some o => ((edges o).all fun e => decide (e < i)) && ((t.getD i []).all fun j => (edges o).any fun m => m == j || (t.getD m []).contains j) &&
      (List.range i).all fun j => (t.getD i []).contains j || F.contains i || F.contains j || (match ops[j]? with
        | some p => !(ward W i).al && !(ward W j).al && apartG ops p o && (ward W i).S == (ward W j).S && (ward W i).L == (ward W j).L && offB p o (ward W j) (ward W i) && offB o p (ward W i) (ward W j)
        | none => false)
def isDead : Md → Bool
  | .dead => true
  | _ => false
def St.adopt (st : St) : List (Nat × Nat × Ty × Md) → St
  | [] => st
  | (i, r, t, m) :: l => match sget st.slots i with
    | .raw (.slice none 0 0) => St.adopt { (st.lay r { mem := none, t := .slc t, m := .own m, x := [] }) with slots := sset (st.slots.map (killAll r)) i (.ref r []) } l
    | .emp => St.adopt { (st.lay r { mem := none, t := .slc t, m := .own m, x := [] }) with slots := sset (st.slots.map (killAll r)) i (.ref r []) } l
    | .ref s q => if isDead m = true then (if lev q = 0 then (match bget st.boxes s with
      | some b => if h : ctype b.t q = .slc t then (match mget b.m q with
        | .own m' => if live (.slc t) (.own m') = true then St.adopt { (st.take s q b) with slots := sset (st.take s q b).slots i (.con (.slc t) (h ▸ cget b.t b.x q : den (.slc t))) } l else st.adopt l
        | _ => st.adopt l)
        else st.adopt l
      | none => st.adopt l) else st.adopt l) else
      if (s == r && q.isEmpty || !decide (lev q = 0)) = true then st.adopt l else match bget st.boxes s with
      | some b => if h : ctype b.t q = .slc t then (match mget b.m q with
        | .own m' => St.adopt { ((st.take s q b).lay r { mem := none, t := .slc t, m := .own m', x := (h ▸ cget b.t b.x q : den (.slc t)) }) with slots := sset ((st.take s q b).slots.map (killAll r)) i (.ref r []) } l
        | _ => st.adopt l)
        else st.adopt l
      | none => st.adopt l
    | _ => st.adopt l
def head : Code → Option Nat
  | .region id _ _ => some id
  | .seq a _ => head a
  | .block _ b => head b
  | .loop b => head b
  | _ => none
inductive Ex where
  | normal
  | exit (id : Nat)
  | ret
  deriving DecidableEq
structure Way where
  e : Ex
  nils : List (Nat × Nat × Ty × Md)
  sk : SkS
@[reducible] def OutV : List Way → Type
  | [] => Empty
  | p :: l => p.sk.T ⊕ OutV l
def dispatch : (l : List Way) → (Ex → St → Option R) → OutV l → Option R
  | [], _ => fun _ => none
  | p :: l, K => Sum.elim (fun x => K p.e (p.sk.fill x)) (dispatch l K)
def outTake : (l : List Way) → Ex → St → (OutV l → Option R) → Option R
  | [], _, _, _ => none
  | p :: l, e, st, K => if p.e = e then p.sk.take (st.adopt p.nils) fun x => K (.inl x) else outTake l e st fun y => K (.inr y)
structure Node where
  nils : List (Nat × Nat × Ty × Md)
  sk : SkS
  outs : List Way
  Y : Type
  L : sk.T → Option Y
  out : sk.T → Y → OutV outs
  disp : {R : Type} → sk.T → Y → (Ex → St → Option R) → Option R
structure Fx extends Cx where
  nodes : List ((Bool × Nat) × Node)
def nget : List ((Bool × Nat) × Node) → Bool → Option Nat → Option Node
  | _, _, none => none
  | [], _, _ => none
  | (k, nd) :: l, b, some i => if k.2 = i ∧ k.1 = b then some nd else nget l b (some i)
def Node.run (nd : Node) (st : St) (K : Ex → St → Option R) : Option R := nd.sk.take (st.adopt nd.nils) fun x => (nd.L x).bind fun y => nd.disp x y K
def rounds {A B : Type} (f : A → Option (A ⊕ B)) : Nat → A → Option B
  | 0, _ => none
  | n + 1, a => match f a with
    | none => none
    | some (.inl a) => rounds f n a
    | some (.inr b) => some b
open Classical in
noncomputable def loopO {A B : Type} (f : A → Option (A ⊕ B)) (a : A) : Option B :=
  if h : ∃ n b, rounds f n a = some b then some (Classical.choose (Classical.choose_spec h)) else none
end cps
def isTmp (d : Nat) : Operand → Bool
  | .tmp t => t == d
  | _ => false
def calm (d : Nat) (a o : Oper) : Bool :=
  o.guard.isNone && (match o.dst with | some e => e != d && !(rd a).any (isTmp e) | none => false) && !(rd o).any (isTmp d) &&
  (match o.op with | .move _ => true | .nilCheck _ => true | .fieldAddr .. => true | .indexAddr .. => true | _ => false)
def nestOk (ops : Array Oper) (k : Nat) : Bool :=
  match ops[k]?, ops[ops.size - 1]? with
  | some a, some s => decide (k + 1 < ops.size) && a.guard.isNone && s.guard.isNone && s.dst.isNone &&
      (match a.dst with
       | some d => (match a.op with | .call cl => (match cl.callee with | .builtin .append => true | _ => false) | _ => false) && !(rd a).any (isTmp d) &&
           (match s.op with | .store _ x v => isTmp d v && !isTmp d x | _ => false) &&
           (List.range (ops.size - 2 - k)).all fun i => match ops[k + 1 + i]? with | some o => calm d a o | none => false
       | none => false)
  | _, _ => false
def nestAt (ops : Array Oper) : Option Nat := (List.range ops.size).find? (nestOk ops)
def nested (c : Cx) (ops : Array Oper) (k : Nat) (st : St) : Bool :=
  match ops[k]? with
  | some o => match appArgs c o with
    | some (.app _ _, x, _) => match st.ev x with
      | .ref _ q => !decide (lev q = 0)
      | _ => false
    | _ => false
  | none => false
def samePath {R : Type} : Path → Path → Option R → Option R
  | [], [], K => K
  | .fst :: a, .fst :: b, K => samePath a b K
  | .snd :: a, .snd :: b, K => samePath a b K
  | .idx i :: a, .idx j :: b, K => if i = j then samePath a b K else none
  | _, _, _ => none
noncomputable def nestS {R : Type} (c : Cx) (ops : Array Oper) (k : Nat) (st : St) (K : St → Option R) : Option R :=
  match ops[k]?, ops[ops.size - 1]? with
  | some o, some s => match appArgs c o, appArgs c s with
    | some (.app d ee, x, y), some (.sto te, adr, _) => opsS c ops ((List.range (ops.size - 2 - k)).map (k + 1 + ·)) st fun st2 =>
        match st2.ev x, st2.ev adr with
        | .ref r q, .ptr r' q' => if r' = r ∧ lev q ≠ 0 ∧ flat ee.ty = true ∧ isAgg (st2.ev y) = false ∧ te.ty = .slc ee.ty ∧ d < st2.slots.length then
            samePath q' q <|
            look st2.boxes (st2.ev y) (.slc ee.ty) fun ys => match bget st2.boxes r with
              | some b => if h : ctype b.t q = .slc ee.ty then match mget b.m q with
                  | .own _ => if 0 < List.length ys ∧ (List.length (h ▸ cget b.t b.x q : den (.slc ee.ty)) + List.length ys) * ee.bytes ≤ most ∧ 0 < ee.bytes then
                      K (({ slots := st2.slots.map (kill1 r), boxes := bset r { b with x := cput b.t b.x q (h.symm ▸ ((h ▸ cget b.t b.x q : den (.slc ee.ty)) ++ ys : List (den ee.ty)) : den (ctype b.t q)) } st2.boxes } : St).set (some d) .undef)
                    else none
                  | _ => none
                else none
              | none => none
          else none
        | _, _ => none
    | _, _ => none
  | _, _ => none
noncomputable def nestR {R : Type} (c : Cx) (ops : Array Oper) (k : Nat) (st : St) (K : St → Option R) : Option R :=
  opsS c ops (List.range k) st fun st => if nested c ops k st = true then nestS c ops k st K else opsS c ops ((List.range (ops.size - k)).map (k + ·)) st K
def softH (c : Fx) (id : Nat) : List Nat := (c.O.lookup (2000000 + id)).getD []
def peels (c : Fx) (b : Code) : Bool :=
  match head b with
  | some i => (c.O.lookup (3000000 + i)).isSome
  | none => false
noncomputable def codeS (c : Fx) : Code → {R : Type} → St → (Ex → St → Option R) → Option R
  | .skip, _, st, K => K .normal st
  | .region id ops draw, _, st, K => match cond draw none (nestAt ops) with
    | some k => nestR c.toCx ops k st (fun st => K .normal st)
    | none => if (!draw || drawOk ops (preds ops.toList [])) = true then opsS c.toCx ops (List.range ops.size) st (fun st => K .normal st)
      else match c.O.lookup (1000000 + id) with
        | some F => if (hoistOk ops F && drawC ops (preds ops.toList []) (wards ops (preds ops.toList []) c.O F (softH c id)) F) = true then
            opsS c.toCx ops F st fun st => opsC c.toCx ops (wards ops (preds ops.toList []) c.O F (softH c id)) ((List.range ops.size).filter (!F.contains ·)) st (fun st => K .normal st) else none
        | none => if drawC ops (preds ops.toList []) (wards ops (preds ops.toList []) c.O [] (softH c id)) [] = true then opsC c.toCx ops (wards ops (preds ops.toList []) c.O [] (softH c id)) (List.range ops.size) st (fun st => K .normal st) else none
  | .seq a b, _, st, K => codeS c a st fun e st => match e with
    | .normal => match nget c.nodes false (head b) with
      | some nd => nd.run st K
      | none => codeS c b st K
    | e => K e st
  | .cond x a b, _, st, K => asBool (st.ev x) fun v => cond v (codeS c a st K) (codeS c b st K)
  | .block id b, _, st, K => codeS c b st fun e st => match e with
    | .exit j => if j = id then K .normal st else K (.exit j) st
    | e => K e st
  | .loop b, _, st, K => match nget c.nodes true (head b) with
    | some nd => cond (peels c b) (codeS c b st fun e st => match e with
        | .normal => nd.run st K
        | e => K e st) (nd.run st K)
    | none => none
  | .exit id, _, st, K => K (.exit id) st
  | .ret, _, st, K => K .ret st
  | _, _, _, _ => none
noncomputable def roundS (c : Fx) (b : Code) (nd : Node) (x : nd.sk.T) : Option (nd.sk.T ⊕ OutV nd.outs) :=
  codeS c b (nd.sk.fill x) fun e st => match e with
    | .normal => nd.sk.take (st.adopt nd.nils) fun x => some (.inl x)
    | e => outTake nd.outs e st fun y => some (.inr y)
noncomputable def tailS (c : Fx) (b : Code) (nd : Node) (x : nd.sk.T) : Option (OutV nd.outs) := codeS c b (nd.sk.fill x) fun e st => outTake nd.outs e st some
def loops : Code → List Code
  | .seq a b => loops a ++ loops b
  | .cond _ a b => loops a ++ loops b
  | .block _ b => loops b
  | .loop b => b :: loops b
  | _ => []
def tails : Code → List Code
  | .seq a b => b :: (tails a ++ tails b)
  | .cond _ a b => tails a ++ tails b
  | .block _ b => tails b
  | .loop b => tails b
  | _ => []
def LoopOk (c : Fx) (b : Code) (nd : Node) : Prop := (∀ {R : Type} t y (K : Ex → St → Option R), nd.disp t y K = dispatch nd.outs K (nd.out t y)) ∧ ∀ x y, nd.L x = some y → ∃ n, rounds (roundS c b nd) n x = some (nd.out x y)
def TailOk (c : Fx) (b : Code) (nd : Node) : Prop := (∀ {R : Type} t y (K : Ex → St → Option R), nd.disp t y K = dispatch nd.outs K (nd.out t y)) ∧ ∀ x y, nd.L x = some y → tailS c b nd x = some (nd.out x y)
end Go.Proofs.YtgdaiifhedpffaaDoor.V
