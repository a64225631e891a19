/- Operations on numbers, bools and strings. -/
import Derived.Test.YtlgbhaigpecdoaaVBase
set_option linter.unusedVariables false
set_option linter.unusedSimpArgs false
namespace Go.Proofs.Ytlgbhaigpecdoaa.V
open Go

section
variable {P : Program} {w : World} {Im : Nat → Prop} {R : Real} {T : Type} {r : T}
theorem asInt_some {s : SV} {K : IntKind → Int → Option T} (h : asInt s K = some r) : ∃ k n, s = .con (.int k) n ∧ K k n = some r := by
  cases s with
  | con t x => cases t with
    | int k => exact ⟨k, x, rfl, h⟩
    | _ => simp [asInt] at h
  | _ => simp [asInt] at h
theorem asBool_some {s : SV} {K : Bool → Option T} (h : asBool s K = some r) : ∃ b, s = .con .bool b ∧ K b = some r := by
  cases s with
  | con t x => cases t with
    | bool => exact ⟨x, rfl, h⟩
    | _ => simp [asBool] at h
  | _ => simp [asBool] at h
theorem asStr_some {s : SV} {K : ByteArray → Option T} (h : asStr s K = some r) : ∃ b, s = .con .str b ∧ K b = some r := by
  cases s with
  | con t x => cases t with
    | str => exact ⟨x, rfl, h⟩
    | _ => simp [asStr] at h
  | _ => simp [asStr] at h

theorem run_eqGuard_int (op : BinOp) (t : TypeId) (x y : Operand) (k j : IntKind) (a b : Int) : (eqGuard op t x y (.int k a) (.int j b)).run P w = .ok () w := by
  unfold eqGuard; cases op <;> simp
theorem run_eqGuard_str (op : BinOp) (t : TypeId) (x y : Operand) (a b : ByteArray) : (eqGuard op t x y (.string a) (.string b)).run P w = .ok () w := by
  unfold eqGuard; cases op <;> simp
theorem run_eqGuard_bool (op : BinOp) (t : TypeId) (x y : Operand) (a b : Bool) : (eqGuard op t x y (.bool a) (.bool b)).run P w = .ok () w := by
  unfold eqGuard; cases op <;> simp
theorem bitop_run (k : IntKind) (a b : Int) (op : BinOp) (h : op = .and ∨ op = .or ∨ op = .xor ∨ op = .andNot) : (Op.intBits op k a b).run P w = .ok (.int k (bitop k op a b)) w := by
  rcases h with rfl | rfl | rfl | rfl <;> simp [Op.intBits, bitop]
theorem run_ar (k : IntKind) (a b : Int) (ty : TypeId) : (binOp .add ty (.int k a) (.int k b)).run P w = .ok (.int k (k.wrap (a + b))) w := by simp [binOp, Op.intArith]
theorem run_su (k : IntKind) (a b : Int) (ty : TypeId) : (binOp .sub ty (.int k a) (.int k b)).run P w = .ok (.int k (k.wrap (a - b))) w := by simp [binOp, Op.intArith]
theorem run_mu (k : IntKind) (a b : Int) (ty : TypeId) : (binOp .mul ty (.int k a) (.int k b)).run P w = .ok (.int k (k.wrap (a * b))) w := by simp [binOp, Op.intArith]
theorem run_quo (k : IntKind) (a b : Int) (ty : TypeId) (h : ¬ b = 0) : (binOp .quo ty (.int k a) (.int k b)).run P w = .ok (.int k (k.wrap (Int.tdiv a b))) w := by simp [binOp, Op.intDiv, h]
theorem run_rem (k : IntKind) (a b : Int) (ty : TypeId) (h : ¬ b = 0) : (binOp .rem ty (.int k a) (.int k b)).run P w = .ok (.int k (Int.tmod a b)) w := by simp [binOp, Op.intDiv, h]
theorem run_shl (k : IntKind) (a : Int) (j : IntKind) (b : Int) (ty : TypeId) (h : ¬ b < 0) : (binOp .shl ty (.int k a) (.int j b)).run P w = .ok (.int k (k.wrap (a * 2 ^ (min (Int.toNat b) k.bits)))) w := by simp [binOp, Op.shift, h]
theorem run_shr (k : IntKind) (a : Int) (j : IntKind) (b : Int) (ty : TypeId) (h : ¬ b < 0) : (binOp .shr ty (.int k a) (.int j b)).run P w = .ok (.int k (Int.fdiv a (2 ^ (min (Int.toNat b) k.bits)))) w := by simp [binOp, Op.shift, h]
theorem run_bit (k : IntKind) (a b : Int) (ty : TypeId) (op : BinOp) (h : op = .and ∨ op = .or ∨ op = .xor ∨ op = .andNot) : (binOp op ty (.int k a) (.int k b)).run P w = .ok (.int k (bitop k op a b)) w := by
  have := bitop_run (P := P) (w := w) k a b op h
  rcases h with rfl | rfl | rfl | rfl <;> simpa [binOp] using this
def cmpOf (op : BinOp) (a b : Int) : Option Bool :=
  match op with
  | .eql => some (a == b)
  | .neq => some (a != b)
  | .lss => some (decide (a < b))
  | .leq => some (decide (a ≤ b))
  | .gtr => some (decide (a > b))
  | .geq => some (decide (a ≥ b))
  | _ => none
theorem run_cmp (k : IntKind) (a b : Int) (ty : TypeId) (op : BinOp) (x : Bool) (h : cmpOf op a b = some x) : (binOp op ty (.int k a) (.int k b)).run P w = .ok (.bool x) w := by
  cases op <;> simp only [cmpOf, Option.some.injEq, reduceCtorEq] at h <;> subst h <;> simp [binOp, Op.intCmp]
theorem binOp_strs (op : BinOp) (ty : TypeId) (a b : ByteArray) : binOp op ty (.string a) (.string b) = Op.stringOp op a b := by cases op <;> rfl
theorem run_strs (op : BinOp) (a b : ByteArray) (ty : TypeId) (x : Bool) (h : (match op with | .eql => some (strEq a b) | .neq => some (!strEq a b) | .lss => some (strLt a b) | .leq => some (strLt a b || strEq a b) | .gtr => some (!(strLt a b || strEq a b)) | .geq => some (!strLt a b) | _ => none) = some x) :
    (binOp op ty (.string a) (.string b)).run P w = .ok (.bool x) w := by
  rw [binOp_strs]
  cases op <;> simp only [Option.some.injEq, reduceCtorEq] at h <;> subst h <;> rfl
theorem run_equal_bool {ty : TypeId} (hu : P.underlying ty = some .bool) (a b : Bool) : (Op.equal ty (.bool a) (.bool b)).run P w = .ok (a == b) w := by
  unfold Op.equal Op.maxDepth
  rw [show (10000 : Nat) = 9999 + 1 from rfl, Op.equalIn]
  simp only [Sem.run_bind, run_underlying hu, Result.andThen_ok]
  rfl
theorem run_beq {ty : TypeId} (hu : P.underlying ty = some .bool) (a b : Bool) : (binOp .eql ty (.bool a) (.bool b)).run P w = .ok (.bool (a == b)) w := by
  show ((do pure (.bool (← Op.equal ty (.bool a) (.bool b))) : Sem Value)).run P w = _
  simp only [Sem.run_bind, run_equal_bool hu, Result.andThen_ok]; rfl
theorem run_bne {ty : TypeId} (hu : P.underlying ty = some .bool) (a b : Bool) : (binOp .neq ty (.bool a) (.bool b)).run P w = .ok (.bool (!(a == b))) w := by
  show ((do pure (.bool (!(← Op.equal ty (.bool a) (.bool b)))) : Sem Value)).run P w = _
  simp only [Sem.run_bind, run_equal_bool hu, Result.andThen_ok]; rfl
theorem run_sadd (ty : TypeId) (a b : ByteArray) (h : a.size + b.size ≤ 9223372036854775807) : (binOp .add ty (.string a) (.string b)).run P w = .ok (.string (a ++ b)) w := by
  rw [binOp_strs]
  have : ¬ (((a.size + b.size : Nat) : Int) > IntKind.i64.max) := by
    have : IntKind.i64.max = 9223372036854775807 := rfl
    omega
  simp only [Op.stringOp, if_neg this]; rfl
theorem bin_some {op : BinOp} {s t : SV} {K : SV → Option T} {u v : Value} (h : binS op s t K = some r) (hs : SVV w Im R s u) (ht : SVV w Im R t v) (ty : TypeId) (x y : Operand)
    (hbool : ∀ a b, s = .con .bool a → t = .con .bool b → P.underlying ty = some .bool) :
    ∃ s' z, K s' = some r ∧ (do eqGuard op ty x y u v; binOp op ty u v : Sem Value).run P w = .ok z w ∧ SVV w Im R s' z := by
  unfold binS at h
  split at h
  · rename_i k a j b
    have e1 := hs.int; have e2 := ht.int
    subst e1; subst e2
    rw [Sem.run_bind, run_eqGuard_int]
    simp only [Result.andThen_ok]
    have hi := SVV.ofInt (w := w) (Im := Im) (R := R)
    have hb := SVV.ofBool (w := w) (Im := Im) (R := R)
    cases op <;> dsimp only at h
    all_goals (split at h)
    all_goals first
      | (cases h; done)
      | (rename_i hk; subst hk; exact ⟨_, _, h, run_ar k a b _, hi _ _⟩)
      | (rename_i hk; subst hk; exact ⟨_, _, h, run_su k a b _, hi _ _⟩)
      | (rename_i hk; subst hk; exact ⟨_, _, h, run_mu k a b _, hi _ _⟩)
      | (rename_i hk; subst hk; exact ⟨_, _, h, run_cmp k a b _ _ _ rfl, hb _⟩)
      | (rename_i hk; subst hk; exact ⟨_, _, h, run_bit k a b _ _ (by simp), hi _ _⟩)
      | (rename_i hk; exact ⟨_, _, h, run_shl k a j b _ hk, hi _ _⟩)
      | (rename_i hk; exact ⟨_, _, h, run_shr k a j b _ hk, hi _ _⟩)
      | (rename_i hk; subst hk; split at h <;> first | (cases h; done) | (rename_i hz; exact ⟨_, _, h, run_quo k a b _ hz, hi _ _⟩) | (rename_i hz; exact ⟨_, _, h, run_rem k a b _ hz, hi _ _⟩))
  · rename_i a b
    have e1 := hs.str; have e2 := ht.str
    subst e1; subst e2
    rw [Sem.run_bind, run_eqGuard_str]
    simp only [Result.andThen_ok]
    cases op <;> dsimp only at h <;> (try (cases h; done))
    case add =>
      split at h
      · rename_i hl
        exact ⟨_, _, h, run_sadd _ _ _ hl, .ofStr _⟩
      · cases h
    all_goals exact ⟨_, _, h, run_strs _ a b _ _ rfl, .ofBool _⟩
  · rename_i a b
    have e1 := hs.bool; have e2 := ht.bool
    subst e1; subst e2
    rw [Sem.run_bind, run_eqGuard_bool]
    simp only [Result.andThen_ok]
    have hu := hbool _ _ rfl rfl
    cases op <;> dsimp only at h <;> (try (cases h; done))
    · exact ⟨_, _, h, run_beq hu a b, .ofBool _⟩
    · exact ⟨_, _, h, run_bne hu a b, .ofBool _⟩
  · cases h
end
end Go.Proofs.Ytlgbhaigpecdoaa.V
