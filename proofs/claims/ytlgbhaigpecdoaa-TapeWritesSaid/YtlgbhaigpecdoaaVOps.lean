/- What each operation does to slots and boxes. -/
import Derived.Test.YtlgbhaigpecdoaaVSem
set_option linter.unusedVariables false
set_option linter.unusedSimpArgs false
namespace Go.Proofs.Ytlgbhaigpecdoaa.V
open Go

/-- A row is taken out of its place. -/
def St.take (st : St) (r : Nat) (q : Path) (b : Bx) : St :=
  { slots := st.slots.map (kill1 r), boxes := bset r { b with m := mput b.m q .dead } st.boxes }

section cps
variable {R : Type}
/-- The row at a place of a box, and how its elements are held. -/
def rowAt (bs : List (Nat × Bx)) (r : Nat) (q : Path) (t : Ty) (K : Bx → List (den t) → Md → Option R) : Option R :=
  match bget bs r with
  | some b => if h : ctype b.t q = .slc t then
      match mget b.m q with
      | .own m => K b (h ▸ cget b.t b.x q : den (.slc t)) m
      | _ => none
    else none
  | none => none
/-- How a value without rows is held, where it is to be held so. -/
def fitM : Ty → Md → Md
  | _, .ro => .ro
  | .pair a b, m => .pair (fitM a m.fst) (fitM b m.snd)
  | .slc _, .own m => .own m
  | _, _ => .ro
def Md.mk (a b : Md) : Md := if a = .ro ∧ b = .ro then .ro else .pair a b
/-- The value as what a box, or a row, is to hold; what it owns is taken out of where it stood. -/
def toC : St → SV → (t : Ty) → Md → (den t → Md → St → Option R) → Option R
  | st, .con t' x, t, w, K => if h : t' = t then K (h ▸ x) .ro st else none
  | st, .raw v, t, w, K => match parse t v.cells.toList with
    | some (x, []) => K x (fitM t w) st
    | _ => none
  | st, .emp, .slc t, w, K => K [] (fitM (.slc t) w) st
  | st, .agg a b, .pair ta tb, w, K => toC st a ta w.fst fun x ma st => toC st (shallow b) tb w.snd fun y mb st => K (x, y) (Md.mk ma mb) st
  | st, .ref r q, .slc t, w, K => if lev q = 0 then rowAt st.boxes r q t fun b xs m =>
      match w with
      | .ro => if live t m = true then K xs .ro (st.take r q b) else none
      | _ => K xs (.own m) (st.take r q b)
    else none
  | st, .sub r q lo n, .slc t, w, K => if lev q = 0 then rowAt st.boxes r q t fun b xs m =>
      match w with
      | .ro => if live t m = true then K ((xs.drop lo).take n) .ro (st.take r q b) else none
      | _ => K ((xs.drop lo).take n) (.own m) (st.take r q b)
    else none
  | _, _, _, _, _ => none
end cps
/-- What a slot holds that was read off a place. -/
def view (r : Nat) : (t : Ty) → Md → den t → Path → SV
  | .pair a b, m, x, q => .agg (view r a m.fst x.1 (q ++ [.fst])) (view r b m.snd x.2 (q ++ [.snd]))
  | .slc t, .ro, x, _ => .con (.slc t) x
  | .slc _, .own _, _, q => .ref r q
  | .slc _, _, _, _ => .undef
  | t, _, x, _ => .con t x

/-! ### Calls -/
inductive PK where
  | ro (t : Ty)
  | mv (t : Ty) (m : Md)
  | io (e : TypeId) (t : Ty) (m : Md)
  | fn (f : FuncId) (cs : List Ty)
  | nil
@[reducible] def denL : List Ty → Type
  | [] => Unit
  | t :: l => den t × denL l
@[reducible] def ArgT : List PK → Type
  | [] => Unit
  | .ro t :: l => den t × ArgT l
  | .mv t _ :: l => den t × ArgT l
  | .io _ t _ :: l => den t × ArgT l
  | .fn _ cs :: l => denL cs × ArgT l
  | .nil :: l => Unit × ArgT l
@[reducible] def OutT : List PK → Type
  | [] => Unit
  | .io _ t _ :: l => den t × OutT l
  | .ro _ :: l => OutT l
  | .mv _ _ :: l => OutT l
  | .fn _ _ :: l => OutT l
  | .nil :: l => OutT l
@[reducible] def ResT : List (Ty × Md) → Type
  | [] => Unit
  | (t, _) :: l => den t × ResT l
/-- What is known of a function: from which values to which. -/
structure Sm where
  ps : List PK
  rs : List (Ty × Md)
  F : ArgT ps → Option (ResT rs × OutT ps)
abbrev Tab := List (FuncId × Sm)
def Tab.get : Tab → FuncId → Option Sm
  | [], _ => none
  | (j, b) :: l, i => if i = j then some b else Tab.get l i
end Go.Proofs.Ytlgbhaigpecdoaa.V
