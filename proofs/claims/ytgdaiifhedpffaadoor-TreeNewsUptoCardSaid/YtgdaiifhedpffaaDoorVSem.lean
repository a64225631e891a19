/- A machine on plain data: what stands in a function's slots and boxes, and what each operation does there. It says 'none' wherever it can't tell. -/
import Derived.Test.YtgdaiifhedpffaaDoorVTy
set_option linter.unusedVariables false
set_option linter.unusedSimpArgs false
namespace Go.Proofs.YtgdaiifhedpffaaDoor.V
open Go
inductive Step where
  | fst
  | snd
  | idx (i : Nat)
abbrev Path := List Step
def lev : Path → Nat
  | [] => 0
  | .idx _ :: q => lev q + 1
  | _ :: q => lev q
def tstep : Ty → Step → Ty
  | .pair a _, .fst => a
  | .pair _ b, .snd => b
  | .slc t, .idx _ => t
  | _, _ => .unit
def vstep : (t : Ty) → den t → (s : Step) → den (tstep t s)
  | .pair _ _, x, .fst => x.1
  | .pair _ _, x, .snd => x.2
  | .slc t, x, .idx i => x.getD i (dflt t)
  | .int _, _, .fst => () | .int _, _, .snd => () | .int _, _, .idx _ => ()
  | .bool, _, .fst => () | .bool, _, .snd => () | .bool, _, .idx _ => ()
  | .str, _, .fst => () | .str, _, .snd => () | .str, _, .idx _ => ()
  | .raw, _, .fst => () | .raw, _, .snd => () | .raw, _, .idx _ => ()
  | .unit, _, .fst => () | .unit, _, .snd => () | .unit, _, .idx _ => ()
  | .pair _ _, _, .idx _ => ()
  | .slc _, _, .fst => () | .slc _, _, .snd => ()
  | .mp _ _, _, .fst => () | .mp _ _, _, .snd => () | .mp _ _, _, .idx _ => ()
def vput : (t : Ty) → den t → (s : Step) → den (tstep t s) → den t
  | .pair _ _, x, .fst, y => (y, x.2)
  | .pair _ _, x, .snd, y => (x.1, y)
  | .slc _, x, .idx i, y => x.set i y
  | .int _, x, _, _ => x
  | .bool, x, _, _ => x
  | .str, x, _, _ => x
  | .raw, x, _, _ => x
  | .unit, x, _, _ => x
  | .pair _ _, x, .idx _, _ => x
  | .slc _, x, .fst, _ => x
  | .slc _, x, .snd, _ => x
  | .mp _ _, x, _, _ => x
def ctype : Ty → Path → Ty
  | t, [] => t
  | t, s :: q => ctype (tstep t s) q
def cget : (t : Ty) → den t → (q : Path) → den (ctype t q)
  | _, x, [] => x
  | t, x, s :: q => cget (tstep t s) (vstep t x s) q
def cput : (t : Ty) → den t → (q : Path) → den (ctype t q) → den t
  | _, _, [], y => y
  | t, x, s :: q, y => vput t x s (cput (tstep t s) (vstep t x s) q y)
def Md.step : Md → Step → Md
  | m, .fst => m.fst
  | m, .snd => m.snd
  | m, .idx _ => m.elem
def mget : Md → Path → Md
  | m, [] => m
  | m, s :: q => mget (m.step s) q
def Md.mk (a b : Md) : Md := if a = .ro ∧ b = .ro then .ro else .pair a b
theorem Md.mk_fst (a b : Md) : (Md.mk a b).fst = a := by unfold Md.mk; split <;> simp_all [Md.fst]
theorem Md.mk_snd (a b : Md) : (Md.mk a b).snd = b := by unfold Md.mk; split <;> simp_all [Md.snd]
def mput : Md → Path → Md → Md
  | _, [], n => n
  | m, .fst :: q, n => .mk (mput m.fst q n) m.snd
  | m, .snd :: q, n => .mk m.fst (mput m.snd q n)
  | m, .idx _ :: _, _ => m
inductive SV where
  /-- anything -/
  | undef
  /-- a value; its slices are only looked at -/
  | con (t : Ty) (x : den t)
  /-- this very value -/
  | raw (v : Value)
  /-- a slice without cells -/
  | emp
  /-- a struct -/
  | agg (a b : SV)
  /-- results -/
  | tcons (a b : SV)
  | tnil
  /-- the slice that stands at a place -/
  | ref (r : Nat) (q : Path)
  /-- a part of it -/
  | sub (r : Nat) (q : Path) (lo len : Nat)
  /-- the address of a place -/
  | ptr (r : Nat) (q : Path)
  /-- the address of a value that is only looked at -/
  | pro (t : Ty) (x : den t)
  | fn (f : FuncId) (caps : SV)
  /-- a row that is looked at; nil where it is empty -/
  | nul (t : Ty) (x : List (den t))
def rowOffs : Ty → Nat → List Nat
  | .pair a b, o => rowOffs a o ++ rowOffs b (o + sz a)
  | .slc _, o => [o]
  | .mp _ _, o => [o]
  | _, _ => []
structure Bx where
  mem : Option TypeId
  t : Ty
  m : Md
  x : den t
  /-- the block's number, where the caller named it -/
  pin : Option Nat := none
  /-- the number of the parameter whose row it is, where that is to come back -/
  row : Option (Nat × Nat) := none
structure St where
  slots : List SV
  boxes : List (Nat × Bx)
def bget : List (Nat × Bx) → Nat → Option Bx
  | [], _ => none
  | (j, b) :: l, i => if i = j then some b else bget l i
def bset (i : Nat) (b : Bx) : List (Nat × Bx) → List (Nat × Bx)
  | [] => [(i, b)]
  | (j, c) :: l => if i < j then (i, b) :: (j, c) :: l else if i = j then (i, b) :: l else (j, c) :: bset i b l
def bdel (i : Nat) : List (Nat × Bx) → List (Nat × Bx)
  | [] => []
  | (j, c) :: l => if i = j then bdel i l else (j, c) :: bdel i l
def sget : List SV → Nat → SV
  | [], _ => .undef
  | s :: _, 0 => s
  | _ :: l, n + 1 => sget l n
def sset : List SV → Nat → SV → List SV
  | [], _, _ => []
  | _ :: l, 0, v => v :: l
  | s :: l, n + 1, v => s :: sset l n v
def forget (p : Bool → Nat → Path → Bool) : SV → SV
  | .agg a b => .agg (forget p a) (forget p b)
  | .tcons a b => .tcons (forget p a) (forget p b)
  | .ref s q => if p false s q = true then .undef else .ref s q
  | .sub s q lo n => if p false s q = true then .undef else .sub s q lo n
  | .ptr s q => if p true s q = true then .undef else .ptr s q
  | .fn f c => .fn f (forget p c)
  | .undef => .undef
  | .con t x => .con t x
  | .raw v => .raw v
  | .emp => .emp
  | .tnil => .tnil
  | .pro t x => .pro t x
  | .nul t x => .nul t x
def kill (r L : Nat) : SV → SV := forget fun isPtr s q => decide (s = r) && cond isPtr (decide (L < lev q)) (decide (L ≤ lev q))
def killAll (r : Nat) : SV → SV := forget fun _ s _ => decide (s = r)
def kill1 (r : Nat) : SV → SV := forget fun _ s q => decide (s = r) && !decide (lev q = 0)
def shallow : SV → SV := forget fun _ _ q => !decide (lev q = 0)
def St.set (st : St) (d : Option Tmp) (v : SV) : St :=
  match d with
  | some i => { st with slots := sset st.slots i v }
  | none => st
def St.lay (st : St) (i : Nat) (b : Bx) : St := { slots := st.slots.map (killAll i), boxes := bset i b st.boxes }
def St.turn (st : St) (i L : Nat) (b : Bx) : St := { slots := st.slots.map (kill i L), boxes := bset i b st.boxes }
def St.drop (st : St) (i : Nat) : St := { slots := st.slots.map (killAll i), boxes := bdel i st.boxes }
inductive TD where
  | int (k : IntKind)
  | bool
  | str
  | slc (e : TypeId)
  | struct (fs : List TypeId)
  | arr (e : TypeId)
  | mp (k v : TypeId)
  | other
structure TE where
  d : TD
  ty : Ty
  bytes : Nat
  z : Bool
  q : Bool
abbrev Env := List (TypeId × TE)
def Env.get : Env → TypeId → Option TE
  | [], _ => none
  | (j, b) :: l, i => if i = j then some b else Env.get l i
def fpath : Nat → Path
  | 0 => [.fst]
  | n + 1 => .snd :: fpath n
def ofConst : Value → SV
  | .int k n => .con (.int k) n
  | .bool b => .con .bool b
  | .string s => .con .str s
  | v => .raw v
def St.ev (st : St) : Operand → SV
  | .tmp t => sget st.slots t
  | .const v => ofConst v
  | .func f => .fn f .tnil
  | .global _ => .undef
def zsv : Ty → SV
  | .pair a b => .agg (zsv a) (zsv b)
  | .slc _ => .raw (.slice none 0 0)
  | .mp _ _ => .raw (.map none)
  | t => .con t (dflt t)
def parse : (t : Ty) → List Value → Option (den t × List Value)
  | .int k, .int j n :: l => if k = j then some (n, l) else none
  | .bool, .bool b :: l => some (b, l)
  | .str, .string s :: l => some (s, l)
  | .unit, l => some ((), l)
  | .pair a b, l => match parse a l with
    | some (x, l) => match parse b l with
      | some (y, l) => some ((x, y), l)
      | none => none
    | none => none
  | .slc _, .slice none 0 0 :: l => some ([], l)
  | .mp _ _, .map none :: l => some ([], l)
  | _, _ => none
def dmode : Ty → Md
  | .pair a b => .pair (dmode a) (dmode b)
  | .slc _ => .own .ro
  | .mp _ _ => .own .ro
  | _ => .ro
def flat : Ty → Bool
  | .pair a b => flat a && flat b
  | .slc _ => false
  | .mp _ _ => false
  | _ => true
def isHd : Ty → Bool
  | .slc _ => true
  | .mp _ _ => true
  | _ => false
theorem flat_hd {t : Ty} (h : isHd t = true) : flat t = false := by cases t <;> simp [isHd, flat] at h ⊢
section cps
variable {R : Type}
def asInt (s : SV) (K : IntKind → Int → Option R) : Option R :=
  match s with
  | .con t x => match t, x with
    | .int k, n => K k n
    | _, _ => none
  | _ => none
def asBool (s : SV) (K : Bool → Option R) : Option R :=
  match s with
  | .con t x => match t, x with
    | .bool, b => K b
    | _, _ => none
  | _ => none
def asStr (s : SV) (K : ByteArray → Option R) : Option R :=
  match s with
  | .con t x => match t, x with
    | .str, b => K b
    | _, _ => none
  | _ => none
def look (bs : List (Nat × Bx)) : SV → (t : Ty) → (den t → Option R) → Option R
  | .con t' x, t, K => if h : t' = t then K (h ▸ x) else none
  | .raw v, t, K => match parse t v.cells.toList with
    | some (x, []) => K x
    | _ => none
  | .emp, .slc t, K => K []
  | .agg a b, .pair ta tb, K => look bs a ta fun x => look bs b tb fun y => K (x, y)
  | .ref r q, t, K => match bget bs r with
    | some b => if h : ctype b.t q = t then (if live (ctype b.t q) (mget b.m q) = true then K (h ▸ cget b.t b.x q) else none) else none
    | none => none
  | .sub r q lo n, .slc t, K => match bget bs r with
    | some b => if h : ctype b.t q = .slc t then (if live (ctype b.t q) (mget b.m q) = true then K (((h ▸ cget b.t b.x q : den (.slc t)).drop lo).take n) else none) else none
    | none => none
  | _, _, _ => none
def rowOf (t : Ty) (x : den t) (m : Md) (K : (t : Ty) → List (den t) → Md → Option R) : Option R :=
  match t, x, m with
  | .slc t, xs, .own m => K t xs m
  | _, _, _ => none
end cps
end Go.Proofs.YtgdaiifhedpffaaDoor.V
