/- The step of one operation, and a function's run. -/
import Derived.Test.YtlgbhaigpecdoaaVOps
set_option linter.unusedVariables false
set_option linter.unusedSimpArgs false
namespace Go.Proofs.Ytlgbhaigpecdoaa.V
open Go

/-- A byte of a string. -/
def bt (s : ByteArray) (i : Int) : Int := (((s.data.toList.getD i.toNat 0).toNat : Nat) : Int)
def bitop (k : IntKind) (op : BinOp) (x y : Int) : Int :=
  let a := BitVec.ofInt k.bits x
  let b := BitVec.ofInt k.bits y
  match op with
  | .and => k.wrap ((a &&& b).toNat)
  | .or => k.wrap ((a ||| b).toNat)
  | .xor => k.wrap ((a ^^^ b).toNat)
  | _ => k.wrap ((a &&& ~~~b).toNat)
def strEq (x y : ByteArray) : Bool := x.toList == y.toList
def strLt (x y : ByteArray) : Bool := Op.bytesLess x.toList y.toList
/-- The bytes of a string. -/
def s2b (s : ByteArray) : List Int := s.data.toList.map fun b => ((b.toNat : Nat) : Int)
def b2s (l : List Int) : ByteArray := ⟨(l.map fun n => UInt8.ofNat n.toNat).toArray⟩
/-- The greatest number of bytes that a row that is made may have. -/
def most : Nat := 140737488355328

/-- It is a struct's cells. -/
def isAgg : SV → Bool
  | .con .unit _ => true
  | .con (.pair _ _) _ => true
  | .agg _ _ => true
  | .raw (.agg _) => true
  | _ => false
structure Cx where
  E : Env
  T : Tab
  H : List (Nat × Md)
  /-- boxes' numbers that an operation of a drawn region may take from, by its slot -/
  O : List (Nat × List Nat) := []
def Cx.mode (c : Cx) (d : Nat) (t : Ty) : Md := go c.H d t
where
  go : List (Nat × Md) → Nat → Ty → Md
    | [], _, t => dmode t
    | (j, m) :: l, d, t => if d = j then m else go l d t

section cps
variable {R : Type}
def binS (op : BinOp) (s t : SV) (K : SV → Option R) : Option R :=
  match s, t with
  | .con (.int k) a, .con (.int j) b =>
    match op with
    | .add => if k = j then K (.con (.int k) (k.wrap ((a : Int) + b))) else none
    | .sub => if k = j then K (.con (.int k) (k.wrap ((a : Int) - b))) else none
    | .mul => if k = j then K (.con (.int k) (k.wrap ((a : Int) * b))) else none
    | .quo => if k = j then (if (b : Int) = 0 then none else K (.con (.int k) (k.wrap (Int.tdiv a b)))) else none
    | .rem => if k = j then (if (b : Int) = 0 then none else K (.con (.int k) (Int.tmod a b))) else none
    | .and => if k = j then K (.con (.int k) (bitop k .and a b)) else none
    | .or => if k = j then K (.con (.int k) (bitop k .or a b)) else none
    | .xor => if k = j then K (.con (.int k) (bitop k .xor a b)) else none
    | .andNot => if k = j then K (.con (.int k) (bitop k .andNot a b)) else none
    | .shl => if (b : Int) < 0 then none else K (.con (.int k) (k.wrap ((a : Int) * 2 ^ (min (Int.toNat b) k.bits))))
    | .shr => if (b : Int) < 0 then none else K (.con (.int k) (Int.fdiv a (2 ^ (min (Int.toNat b) k.bits))))
    | .eql => if k = j then K (.con .bool ((a : Int) == b)) else none
    | .neq => if k = j then K (.con .bool ((a : Int) != b)) else none
    | .lss => if k = j then K (.con .bool (decide ((a : Int) < b))) else none
    | .leq => if k = j then K (.con .bool (decide ((a : Int) ≤ b))) else none
    | .gtr => if k = j then K (.con .bool (decide ((a : Int) > b))) else none
    | .geq => if k = j then K (.con .bool (decide ((a : Int) ≥ b))) else none
  | .con .str a, .con .str b =>
    match op with
    | .add => if ByteArray.size a + ByteArray.size b ≤ 9223372036854775807 then K (.con .str ((a : ByteArray) ++ b)) else none
    | .eql => K (.con .bool (strEq a b))
    | .neq => K (.con .bool (!strEq a b))
    | .lss => K (.con .bool (strLt a b))
    | .leq => K (.con .bool (strLt a b || strEq a b))
    | .gtr => K (.con .bool (!(strLt a b || strEq a b)))
    | .geq => K (.con .bool (!strLt a b))
    | _ => none
  | .con .bool a, .con .bool b =>
    match op with
    | .eql => K (.con .bool ((a : Bool) == b))
    | .neq => K (.con .bool (!((a : Bool) == b)))
    | _ => none
  | _, _ => none
def strS : SV → Bool
  | .con .str _ => true
  | _ => false
def lenS (bs : List (Nat × Bx)) (s : SV) (K : Int → Option R) : Option R :=
  match s with
  | .con .str x => K (ByteArray.size x)
  | .con (.slc _) x => K (List.length x)
  | .raw (.slice none 0 0) => K 0
  | .emp => K 0
  | .ref r q => match bget bs r with
    | some b => rowOf (ctype b.t q) (cget b.t b.x q) (mget b.m q) fun _ xs _ => K (List.length xs)
    | none => none
  | .sub r q lo n => match bget bs r with
    | some b => K n
    | none => none
  | _ => none
/-- The address of an element. -/
def elemS (bs : List (Nat × Bx)) (ty : Ty) (s : SV) (i : Int) (K : SV → Option R) : Option R :=
  match s with
  | .con (.slc t) xs => if Ty.slc t = ty then (if 0 ≤ i ∧ i < (List.length xs : Int) then K (.pro t (List.getD xs i.toNat (dflt t))) else none) else none
  | .ref r q => match bget bs r with
    | some b => rowOf (ctype b.t q) (cget b.t b.x q) (mget b.m q) fun t xs _ => if Ty.slc t = ty then (if 0 ≤ i ∧ i < (List.length xs : Int) then K (.ptr r (q ++ [.idx i.toNat])) else none) else none
    | none => none
  | .sub r q lo n => match bget bs r with
    | some b => rowOf (ctype b.t q) (cget b.t b.x q) (mget b.m q) fun t _ _ => if Ty.slc t = ty then (if 0 ≤ i ∧ i < (n : Int) then K (.ptr r (q ++ [.idx (lo + i.toNat)])) else none) else none
    | none => none
  | _ => none
def optInt (st : St) (o : Option Operand) (d : Int) (K : Int → Option R) : Option R :=
  match o with
  | none => K d
  | some x => asInt (st.ev x) fun _ n => K n
def isZero : Option Operand → Bool
  | some (.const (.int _ n)) => decide (n = 0)
  | _ => false
/-- A part of a row or a string. -/
def sliceS (st : St) (ty : Ty) (s : SV) (lo hi mx : Option Operand) (K : SV → Option R) : Option R :=
  match s with
  | .con .str x => match mx with
    | none => if ty = .str then optInt st hi (ByteArray.size x) fun h => optInt st lo 0 fun l =>
      if 0 ≤ l ∧ l ≤ h ∧ h ≤ (ByteArray.size x : Int) then K (.con .str (ByteArray.extract x l.toNat h.toNat)) else none
      else none
    | some _ => none
  | .raw (.slice none 0 0) => match mx with
    | none => if ty = .str then none else optInt st hi 0 fun h => optInt st lo 0 fun l => if 0 ≤ l ∧ l ≤ h ∧ h ≤ 0 then K (.raw (.slice none 0 0)) else none
    | some _ => none
  | .con (.slc t) xs => if Ty.slc t = ty then match mx with
    | none => optInt st hi (List.length xs) fun h => optInt st lo 0 fun l =>
      if 0 ≤ l ∧ l ≤ h ∧ h ≤ (List.length xs : Int) then K (.con (.slc t) ((List.drop l.toNat xs).take (h.toNat - l.toNat))) else none
    | some m => if isZero hi = true ∧ isZero mx = true ∧ lo.isNone = true then K .emp
      else asInt (st.ev m) fun _ m => if hi.isSome = true then optInt st hi 0 fun h => optInt st lo 0 fun l =>
        if 0 ≤ l ∧ l ≤ h ∧ h ≤ m ∧ m ≤ (List.length xs : Int) then K (.con (.slc t) ((List.drop l.toNat xs).take (h.toNat - l.toNat))) else none
        else none
    else none
  | .ref r q => match bget st.boxes r with
    | some b => rowOf (ctype b.t q) (cget b.t b.x q) (mget b.m q) fun t xs _ => if Ty.slc t = ty then optInt st hi (List.length xs) fun h => optInt st lo 0 fun l => match mx with
        | none => if 0 ≤ l ∧ l ≤ h ∧ h ≤ (List.length xs : Int) then K (.sub r q l.toNat (h.toNat - l.toNat)) else none
        | some m => if hi.isSome = true then asInt (st.ev m) fun _ m => if 0 ≤ l ∧ l ≤ h ∧ h ≤ m ∧ m ≤ (List.length xs : Int) then K (.sub r q l.toNat (h.toNat - l.toNat)) else none
          else none
        else none
    | none => none
  | .sub r q o n => match bget st.boxes r with
    | some b => rowOf (ctype b.t q) (cget b.t b.x q) (mget b.m q) fun t xs _ => if Ty.slc t = ty then optInt st hi n fun h => optInt st lo 0 fun l => match mx with
      | none => if 0 ≤ l ∧ l ≤ h ∧ h ≤ (n : Int) then K (.sub r q (o + l.toNat) (h.toNat - l.toNat)) else none
      | some _ => none
      else none
    | none => none
  | _ => none
def fieldTys : Ty → List Ty
  | .pair a b => a :: fieldTys b
  | _ => []
/-- It has the cells of a type. -/
def fitsTy : Ty → SV → Bool
  | .pair a b, .agg s t => fitsTy a s && fitsTy b t
  | .pair a b, .con t _ => decide (t = .pair a b)
  | .pair _ _, _ => false
  | .unit, .con .unit _ => true
  | .unit, _ => false
  | t, .con t' _ => decide (t' = t)
  | .slc _, .raw (.slice none 0 0) => true
  | .slc _, .emp => true
  | .slc _, .ref _ _ => true
  | .slc _, .sub _ _ _ _ => true
  | _, .undef => true
  | .raw, .ptr _ _ => true
  | .raw, .pro _ _ => true
  | .raw, .fn _ _ => true
  | _, _ => false
/-- A struct of its fields. -/
def aggOf : List SV → SV
  | [] => .con .unit ()
  | s :: l => .agg s (aggOf l)
def known (bs : List (Nat × Bx)) : SV → Bool
  | .undef => false
  | .tnil => false
  | .tcons _ _ => false
  | .ref r _ => (bget bs r).isSome
  | .sub r _ _ _ => (bget bs r).isSome
  | .ptr r _ => (bget bs r).isSome
  | .raw (.tuple _) => false
  | _ => true
/-- The fields that are written. -/
def buildL (st : St) : List (Nat × Operand) → List Ty → List SV → Option (List SV)
  | [], _, l => some l
  | (i, x) :: ps, tys, l => match tys[i]? with
    | some t => if (known st.boxes (st.ev x) && fitsTy t (st.ev x)) = true then buildL st ps tys (l.set i (st.ev x)) else none
    | none => none
/-- The elements of a row that is written out: all of them, in order. -/
def elemsOk (n : Nat) (parts : List (Nat × Operand)) : Bool := parts.map (·.1) == List.range n
def elems (t : Ty) (m : Md) : List SV → St → (List (den t) → St → Option R) → Option R
  | [], st, K => K [] st
  | s :: l, st, K => toC st (shallow s) t m fun x m' st => if sameM t m' m = true then elems t m l st fun xs st => K (x :: xs) st else none
def fieldOf : Nat → SV → SV
  | 0, .agg a _ => a
  | n + 1, .agg _ b => fieldOf n b
  | 0, .con (.pair a _) x => .con a x.1
  | n + 1, .con (.pair _ b) x => fieldOf n (.con b x.2)
  | _, _ => .undef
def proField : Nat → (t : Ty) → den t → SV
  | 0, .pair a _, x => .pro a x.1
  | n + 1, .pair _ b, x => proField n b x.2
  | _, _, _ => .undef
def fieldPtr (bs : List (Nat × Bx)) (ty : Ty) (j : Nat) (s : SV) (K : SV → Option R) : Option R :=
  match s with
  | .ptr r q => match bget bs r with
    | some b => if ctype b.t q = ty ∧ j < (fieldTys ty).length then K (.ptr r (q ++ fpath j)) else none
    | none => none
  | .pro t x => if t = ty ∧ j < (fieldTys ty).length then K (proField j t x) else none
  | _ => none
def nth : Nat → SV → Option SV
  | 0, .tcons a _ => some a
  | n + 1, .tcons _ b => nth n b
  | _, _ => none
def single1 : SV → SV
  | .tnil => .undef
  | .tcons _ _ => .undef
  | s => s
/-- Values, side by side. -/
def tupleOf : List SV → SV
  | [] => .tnil
  | s :: l => .tcons (single1 s) (tupleOf l)
/-- What lies at an address. -/
def loadS (bs : List (Nat × Bx)) (t : Ty) (s : SV) (K : SV → Option R) : Option R :=
  match s with
  | .pro t' x => if t' = t then K (.con t' x) else none
  | .ptr r q => match bget bs r with
    | some b => if ctype b.t q = t then K (view r (ctype b.t q) (mget b.m q) (cget b.t b.x q) q) else none
    | none => none
  | _ => none
def roots : SV → List Nat
  | .agg a b => roots a ++ roots b
  | .tcons a b => roots a ++ roots b
  | .ref r _ => [r]
  | .sub r _ _ _ => [r]
  | .ptr r _ => [r]
  | .fn _ c => roots c
  | _ => []
def storeS (c : Cx) (st : St) (t : Ty) (a v : SV) (K : St → Option R) : Option R :=
  match a with
  | .ptr r q => match bget st.boxes r with
    | some b0 => if lev q = 0 ∨ (roots v).contains r = false then toC st v t (if lev q = 0 then mget (c.mode (r / 16) b0.t) q else mget b0.m q) fun x m st => match bget st.boxes r with
      | some b => if h : ctype b.t q = t then
          (if lev q = 0 then (if flat t = true then K { st with boxes := bset r { b with x := cput b.t b.x q (h ▸ x) } st.boxes }
              else K (st.turn r 0 { b with x := cput b.t b.x q (h ▸ x), m := mput b.m q m }))
            else if flat t = true then K { st with boxes := bset r { b with x := cput b.t b.x q (h ▸ x) } st.boxes }
            else if sameM t m (mget b.m q) = true then K (st.turn r (lev q) { b with x := cput b.t b.x q (h ▸ x) }) else none)
        else none
      | none => none
      else none
    | none => none
  | _ => none
/-- The elements that are to be appended: what is plain is copied, all else is taken. -/
def newS (st : St) (s : SV) (t : Ty) (w : Md) (K : List (den t) → Md → St → Option R) : Option R :=
  if flat t = true then look st.boxes s (.slc t) fun ys => K ys .ro st
  else toC st s (.slc t) (.own w) fun ys m st => match m with
    | .ro => K ys .ro st
    | .own m => K ys m st
    | _ => none
def appGo (st : St) (d : Nat) (te : TE) (v : SV) (xs : List (den te.ty)) (free : Bool) (m : Md) (K : St → Option R) : Option R :=
  newS st (shallow v) te.ty m fun ys m' st =>
    if free = true ∨ sameM te.ty m' m = true ∨ flat te.ty = true then
      (if (xs.length + ys.length) * te.bytes ≤ most ∧ 0 < te.bytes ∧ 0 < sz te.ty then
        K ((st.lay (d * 16) { mem := none, t := .slc te.ty, m := .own (if free = true then m' else m), x := xs ++ ys }).set (some d) (.ref (d * 16) []))
      else none)
    else none
def appS (c : Cx) (st : St) (d : Nat) (te : TE) (s v : SV) (K : St → Option R) : Option R :=
  if isAgg s = true ∨ isAgg v = true then none else match s with
  | .raw (.slice none 0 0) => appGo st d te v [] true (c.mode d (.slc te.ty)).elem K
  | .emp => appGo st d te v [] true (c.mode d (.slc te.ty)).elem K
  | s => toC st s (.slc te.ty) (.own .ro) fun xs m st => match m with
    | .own m => appGo st d te v xs false m K
    | _ => none
/-- A type whose values are structs. -/
def aggTy : Ty → Bool
  | .unit => true
  | .pair _ _ => true
  | _ => false
/-- The arguments of a call: the values, the boxes whose values come back, those that are looked at, those that are taken. -/
def lookL (bs : List (Nat × Bx)) : (ts : List Ty) → SV → (denL ts → Option R) → Option R
  | [], .tnil, K => K ()
  | t :: ts, .tcons a b, K => if isAgg a = aggTy t then look bs a t fun x => lookL bs ts b fun y => K (x, y) else none
  | _, _, _ => none
def args (bs : List (Nat × Bx)) : (ps : List PK) → List SV → St → (ArgT ps → List Nat → List Nat → List Nat → St → Option R) → Option R
  | [], [], st, K => K () [] [] [] st
  | .ro t :: ps, s :: ss, st, K => if isAgg s = aggTy t then look bs s t fun x => args bs ps ss st fun a io lo mv st => K (x, a) io (roots s ++ lo) mv st else none
  | .mv t m :: ps, s :: ss, st, K => if isAgg s = aggTy t then toC st (shallow s) t m fun x m' st => if sameM t m' m = true then args bs ps ss st fun a io lo mv st => K (x, a) io lo (roots s ++ mv) st else none else none
  | .io e t m :: ps, s :: ss, st, K => match s with
    | .ptr r [] => args bs ps ss st fun a io lo mv st => match bget st.boxes r with
      | some b => if b.mem = some e then (if h : b.t = t then (if sameM t b.m m = true then K (h ▸ b.x, a) (r :: io) lo mv st else none) else none) else none
      | none => none
    | _ => none
  | .nil :: ps, s :: ss, st, K => match s with
    | .raw (.slice none 0 0) => args bs ps ss st fun a io lo mv st => K ((), a) io lo mv st
    | _ => none
  | .fn f cs :: ps, s :: ss, st, K => match s with
    | .fn g caps => if g = f then lookL bs cs caps fun x => args bs ps ss st fun a io lo mv st => K (x, a) io (roots caps ++ lo) mv st else none
    | _ => none
  | _, _, _, _ => none
/-- The boxes take back what the call made of them. -/
def outsB : (ps : List PK) → OutT ps → List Nat → List (Nat × Bx) → List (Nat × Bx)
  | [], _, _, bs => bs
  | .ro _ :: ps, o, io, bs => outsB ps o io bs
  | .mv _ _ :: ps, o, io, bs => outsB ps o io bs
  | .fn _ _ :: ps, o, io, bs => outsB ps o io bs
  | .nil :: ps, o, io, bs => outsB ps o io bs
  | .io e t m :: ps, o, r :: io, bs => bset r { mem := some e, t := t, m := m, x := o.1, pin := (bget bs r).bind (·.pin) } (outsB ps o.2 io bs)
  | .io _ _ _ :: _, _, [], bs => bs
def killIO (io : List Nat) : Bool → Nat → Path → Bool := fun isPtr s q => io.contains s && cond isPtr (decide (0 < lev q)) true
def noDup : List Nat → Bool
  | [] => true
  | a :: l => !l.contains a && noDup l
def psNoRo : List PK → Bool
  | [] => true
  | .io _ t m :: ps => noRo t m && psNoRo ps
  | _ :: ps => psNoRo ps
/-- What a call gives: what is owned of it gets boxes of its own. -/
def got (base : Nat) : (t : Ty) → Md → den t → Nat → St → SV × Nat × St
  | .pair a b, m, x, k, st =>
    let p := got base a m.fst x.1 k st
    let p' := got base b m.snd x.2 p.2.1 p.2.2
    (.agg p.1 p'.1, p'.2.1, p'.2.2)
  | .slc t, .own m, x, k, st => (.ref (base + k) [], k + 1, st.lay (base + k) { mem := none, t := .slc t, m := .own m, x := x })
  | .slc t, .ro, x, k, st => (.con (.slc t) x, k, st)
  | .slc _, _, _, k, st => (.undef, k, st)
  | t, _, x, k, st => (.con t x, k, st)
def gots (base : Nat) : (rs : List (Ty × Md)) → ResT rs → Nat → St → SV × Nat × St
  | [], _, k, st => (.tnil, k, st)
  | (t, m) :: rs, x, k, st =>
    let p := got base t m x.1 k st
    let p' := gots base rs x.2 p.2.1 p.2.2
    (.tcons p.1 p'.1, p'.2.1, p'.2.2)
def single : List (Ty × Md) → SV → SV
  | [_], .tcons a _ => a
  | _, s => s
/-- The summary that serves: the function, and the functions that are handed to it. -/
def fits : List PK → List SV → Bool
  | [], [] => true
  | .fn f _ :: ps, .fn g _ :: ss => f == g && fits ps ss
  | .fn _ _ :: _, _ => false
  | .nil :: ps, .raw (.slice none 0 0) :: ss => fits ps ss
  | .nil :: _, _ => false
  | _ :: ps, _ :: ss => fits ps ss
  | _, _ => false
def Tab.find : Tab → FuncId → List SV → Option Sm
  | [], _, _ => none
  | (j, b) :: l, i, ss => if i = j then (if fits b.ps ss = true then some b else Tab.find l i ss) else Tab.find l i ss
def untup : SV → List SV
  | .tcons a b => a :: untup b
  | _ => []
def ends : SV → Bool
  | .tcons _ b => ends b
  | .tnil => true
  | _ => false
def callS (c : Cx) (st : St) (d : Option Tmp) (f : FuncId) (ss : List SV) (K : St → Option R) : Option R :=
  match Tab.find c.T f ss with
  | some sm => args st.boxes sm.ps ss st fun a io lo mv st =>
    if ((io ++ mv).all (fun r => !lo.contains r) && noDup io && (lo.isEmpty || (sm.rs.all (fun p => noRo p.1 p.2) && psNoRo sm.ps))) = true then
      (sm.F a).bind fun r =>
        let p := gots (d.getD 0 * 16) sm.rs r.1 0 { slots := st.slots.map (forget (killIO io)), boxes := outsB sm.ps r.2 io st.boxes }
        K (p.2.2.set d (single sm.rs p.1))
    else none
  | none => none
end cps
end Go.Proofs.Ytlgbhaigpecdoaa.V
