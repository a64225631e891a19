/- Functions for which the model stands in: bytes that are counted and sought. -/
import Derived.Test.YtgdaiifhedpffaaDoorVEok
import Derived.Test.YtgdaiifhedpffaaDoorProg
import Derived.Laws.Externs
import Derived.KernelRfl
set_option linter.unusedVariables false
set_option linter.unusedSimpArgs false
namespace Go.Proofs.YtgdaiifhedpffaaDoor.V
open Go
def cntB (b : ByteArray) (c : UInt8) : Int := b.foldl (fun n x => if x == c then n + 1 else n) ((0 : Nat) : Int)
noncomputable def eStr (a0 : ByteArray) (a1 : Int) : Option ((Int × Unit) × Unit) := some ((firstIdx a0 (Int.toNat a1).toUInt8, ()), ())
noncomputable def eStr_sm : Sm := { ps := [.ro .str, .ro (.int .u8)], rs := [(.int .i64, .ro)], F := fun x => eStr x.1 x.2.1 }
noncomputable def eCntS (a0 : ByteArray) (a1 : Int) : Option ((Int × Unit) × Unit) := some ((cntB a0 (Int.toNat a1).toUInt8, ()), ())
noncomputable def eCntS_sm : Sm := { ps := [.ro .str, .ro (.int .u8)], rs := [(.int .i64, .ro)], F := fun x => eCntS x.1 x.2.1 }
theorem run_count_string {P : Program} {w : World} (s : ByteArray) (c : Int) : (Extern.BytealgCount.count #[.string s, .int .u8 c]).run P w = .ok (.int .i64 (cntB s c.toNat.toUInt8)) w := rfl
theorem ro_ps {ps : List PK} (h : ps.all (fun p => match p with | .ro _ => true | _ => false) = true) : ∀ p ∈ ps, ∃ t, p = .ro t := by
  intro p hp
  have := List.all_eq_true.1 h p hp
  cases p <;> simp at this
  exact ⟨_, rfl⟩
theorem pack1 {t : Ty} {cs : List Value} {v : Value} (h : aggTy t = false) (hp : pack t cs v) : cs = [v] := by unfold pack at hp; rw [h] at hp; simpa using hp
theorem eStr_c : CalOk Tryd.prog 45 eStr_sm := .inr ⟨ro_ps rfl, rfl, fun w Im vs x r ha hr => by
  obtain ⟨v1, vs1, c1, e1, p1, r1, v2, vs2, c2, e2, p2, r2, e3, _⟩ := ha
  cases hr
  have q1 := pack1 rfl p1
  have q2 := pack1 rfl p2
  rw [q1] at r1
  rw [q2] at r2
  have e5 : v1 = .string x.1 := by have := r1.1; simpa using this
  have e4 : v2 = .int .u8 x.2.1 := by have := r2.1; simpa using this
  subst e1; subst e2; subst e3; subst e4; subst e5
  refine ⟨[.int .i64 (firstIdx x.1 (Int.toNat x.2.1).toUInt8)], ?_, ⟨_, [], [_], [], [], rfl, rfl, by simp [pack, aggTy], ⟨rfl, rfl⟩, rfl, rfl⟩⟩
  rw [run_callFunc_extern (e := Extern.BytealgIndexByte.indexByte) Tryd.func45 (by kernel_rfl) (by kernel_rfl) (by kernel_rfl) (by kernel_rfl)]
  show ((Extern.BytealgIndexByte.indexByte #[.string x.1, .int .u8 x.2.1]).run Tryd.prog w).andThen _ = _
  rw [run_indexByte_string]; rfl⟩
theorem eCntS_c : CalOk Tryd.prog 43 eCntS_sm := .inr ⟨ro_ps rfl, rfl, fun w Im vs x r ha hr => by
  obtain ⟨v1, vs1, c1, e1, p1, r1, v2, vs2, c2, e2, p2, r2, e3, _⟩ := ha
  cases hr
  have q1 := pack1 rfl p1
  have q2 := pack1 rfl p2
  rw [q1] at r1
  rw [q2] at r2
  have e5 : v1 = .string x.1 := by have := r1.1; simpa using this
  have e4 : v2 = .int .u8 x.2.1 := by have := r2.1; simpa using this
  subst e1; subst e2; subst e3; subst e4; subst e5
  refine ⟨[.int .i64 (cntB x.1 (Int.toNat x.2.1).toUInt8)], ?_, ⟨_, [], [_], [], [], rfl, rfl, by simp [pack, aggTy], ⟨rfl, rfl⟩, rfl, rfl⟩⟩
  rw [run_callFunc_extern (e := Extern.BytealgCount.count) Tryd.func43 (by kernel_rfl) (by kernel_rfl) (by kernel_rfl) (by kernel_rfl)]
  show ((Extern.BytealgCount.count #[.string x.1, .int .u8 x.2.1]).run Tryd.prog w).andThen _ = _
  rw [run_count_string]; rfl⟩
end Go.Proofs.YtgdaiifhedpffaaDoor.V
