/- Functions for which the model stands in: bytes that are counted and sought. -/
import Derived.Test.YtmfjebpdkgbggaaVEok
import Derived.Test.YtmfjebpdkgbggaaProg
import Derived.Laws.Externs
import Derived.KernelRfl
set_option linter.unusedVariables false
set_option linter.unusedSimpArgs false
namespace Go.Proofs.Ytmfjebpdkgbggaa.V
open Go
theorem run_loadBytes {P : Program} {w : World} : ∀ (l : List Int) (a : Addr) (acc : ByteArray), (∀ j v, (l.map (Value.int .u8))[j]? = some v → w.cell? (a.add j) = some v) →
    (Extern.Bytes.loadBytes a l.length acc).run P w = .ok (⟨acc.data ++ (l.map fun n => n.toNat.toUInt8).toArray⟩) w
  | [], a, acc, _ => by
    show Sem.run P (pure acc) w = _
    simp [Sem.run_pure]
  | n :: l, a, acc, h => by
    have h0 := h 0 (.int .u8 n) rfl
    have ha : a.add 0 = a := by simp [Addr.add]
    rw [ha] at h0
    have ih := run_loadBytes (P := P) l (a.add 1) (acc.push n.toNat.toUInt8) (fun j v hj => by
      have := h (j + 1) v (by simpa using hj)
      rw [show (a.add 1).add j = a.add (j + 1) by simp [Addr.add, Nat.add_assoc, Nat.add_comm 1 j]]
      exact this)
    show Sem.run P (Extern.Bytes.loadBytes a (l.length + 1) acc) w = _
    unfold Extern.Bytes.loadBytes
    simp only [Sem.run_bind, Go.run_load, h0, Result.andThen]
    rw [ih]
    simp [ByteArray.push]
theorem run_bytesOf {P : Program} {w : World} {Im : Nat → Prop} {l : List Int} {cs : List Value} (h : Rep w Im (.slc (.int .u8)) .ro l cs []) : ∃ v, cs = [v] ∧ (Extern.Bytes.bytesOf v).run P w = .ok (b2s l) w := by
  obtain ⟨_, A, cap, e, hc, hr⟩ := h
  refine ⟨_, e, ?_⟩
  by_cases hl : l = []
  · subst hl
    cases A <;> rfl
  · obtain ⟨b, o', c, el, fz, rfl, _, hh, hrr⟩ := hr hl
    have hcell : ∀ j v, (l.map (Value.int .u8))[j]? = some v → w.cell? ((⟨b, o', none⟩ : Addr).add j) = some v := by
      intro j v hj
      have hlt : j < List.length l := by have := (List.getElem?_eq_some_iff.1 hj).1; simpa using this
      have := byteRows hrr j hlt
      rw [List.getElem?_drop] at this
      rw [add_at]
      simp only [World.cell?, hh]
      rw [List.getElem?_map, List.getElem?_eq_getElem hlt] at hj
      simp at hj
      subst hj
      simp only [List.getD_eq_getElem?_getD, List.getElem?_eq_getElem hlt, Option.getD_some] at this
      simpa using this
    show Sem.run P (Extern.Bytes.loadBytes ⟨b, o', none⟩ l.length .empty) w = _
    rw [run_loadBytes l _ _ hcell]
    have e0 : ByteArray.empty.data = #[] := rfl
    rw [e0]; simp [b2s]
def cntB (b : ByteArray) (c : UInt8) : Int := b.foldl (fun n x => if x == c then n + 1 else n) ((0 : Nat) : Int)
theorem run_count {P : Program} {w : World} {Im : Nat → Prop} {l : List Int} {cs : List Value} (h : Rep w Im (.slc (.int .u8)) .ro l cs []) (c : Int) : ∃ v, cs = [v] ∧ (Extern.BytealgCount.count #[v, .int .u8 c]).run P w = .ok (.int .i64 (cntB (b2s l) c.toNat.toUInt8)) w := by
  obtain ⟨v, e, hv⟩ := run_bytesOf (P := P) h
  refine ⟨v, e, ?_⟩
  change Sem.run P (do
    let b ← Extern.Bytes.bytesOf v
    let c' ← Extern.Bytes.asByte (.int .u8 c)
    pure (goInt (b.foldl (fun n x => if x == c' then n + 1 else n) ((0 : Nat) : Int)))) w = _
  simp only [Extern.Bytes.asByte, Sem.run_bind, Sem.run_pure, hv, Result.andThen]
  rfl
theorem run_index {P : Program} {w : World} {Im : Nat → Prop} {l : List Int} {cs : List Value} (h : Rep w Im (.slc (.int .u8)) .ro l cs []) (c : Int) : ∃ v, cs = [v] ∧ (Extern.BytealgIndexByte.indexByte #[v, .int .u8 c]).run P w = .ok (.int .i64 (firstIdx (b2s l) c.toNat.toUInt8)) w := by
  obtain ⟨v, e, hv⟩ := run_bytesOf (P := P) h
  refine ⟨v, e, ?_⟩
  change Sem.run P (do
    let b ← Extern.Bytes.bytesOf v
    let c' ← Extern.Bytes.asByte (.int .u8 c)
    match (List.range b.size).find? fun i => b[i]! == c' with
    | some i => pure (goInt i)
    | none => pure (goInt (-1))) w = _
  clear h e
  generalize b2s l = B at hv ⊢
  simp only [Extern.Bytes.asByte, firstIdx, Sem.run_bind, Sem.run_pure, hv, Result.andThen]
  cases (List.range B.size).find? fun i => B[i]! == c.toNat.toUInt8 <;> rfl
noncomputable def eCount (a0 : List Int) (a1 : Int) : Option ((Int × Unit) × Unit) := some ((cntB (b2s a0) (Int.toNat a1).toUInt8, ()), ())
noncomputable def eCount_sm : Sm := { ps := [.ro (.slc (.int .u8)), .ro (.int .u8)], rs := [(.int .i64, .ro)], F := fun x => eCount x.1 x.2.1 }
noncomputable def eByte (a0 : List Int) (a1 : Int) : Option ((Int × Unit) × Unit) := some ((firstIdx (b2s a0) (Int.toNat a1).toUInt8, ()), ())
noncomputable def eByte_sm : Sm := { ps := [.ro (.slc (.int .u8)), .ro (.int .u8)], rs := [(.int .i64, .ro)], F := fun x => eByte x.1 x.2.1 }
noncomputable def eStr (a0 : ByteArray) (a1 : Int) : Option ((Int × Unit) × Unit) := some ((firstIdx a0 (Int.toNat a1).toUInt8, ()), ())
noncomputable def eStr_sm : Sm := { ps := [.ro .str, .ro (.int .u8)], rs := [(.int .i64, .ro)], F := fun x => eStr x.1 x.2.1 }
theorem ro_ps {ps : List PK} (h : ps.all (fun p => match p with | .ro _ => true | _ => false) = true) : ∀ p ∈ ps, ∃ t, p = .ro t := by
  intro p hp
  have := List.all_eq_true.1 h p hp
  cases p <;> simp at this
  exact ⟨_, rfl⟩
theorem pack1 {t : Ty} {cs : List Value} {v : Value} (h : aggTy t = false) (hp : pack t cs v) : cs = [v] := by unfold pack at hp; rw [h] at hp; simpa using hp
theorem eCount_c : CalOk Try.prog 103 eCount_sm := .inr ⟨ro_ps rfl, rfl, fun w Im vs x r ha hr => by
  obtain ⟨v1, vs1, c1, e1, p1, r1, v2, vs2, c2, e2, p2, r2, e3, _⟩ := ha
  cases hr
  have q1 := pack1 rfl p1
  have q2 := pack1 rfl p2
  obtain ⟨v, e, hv⟩ := run_count (P := Try.prog) r1 x.2.1
  rw [q1] at e; cases e
  rw [q2] at r2
  have e4 : v2 = .int .u8 x.2.1 := by have := r2.1; simpa using this
  subst e1; subst e2; subst e3; subst e4
  refine ⟨[.int .i64 (cntB (b2s x.1) (Int.toNat x.2.1).toUInt8)], ?_, ⟨_, [], [_], [], [], rfl, rfl, by simp [pack, aggTy], ⟨rfl, rfl⟩, rfl, rfl⟩⟩
  rw [run_callFunc_extern (e := Extern.BytealgCount.count) Try.func103 (by kernel_rfl) (by kernel_rfl) (by kernel_rfl) (by kernel_rfl)]
  show ((Extern.BytealgCount.count #[v1, .int .u8 x.2.1]).run Try.prog w).andThen _ = _
  rw [hv]; rfl⟩
theorem eByte_c : CalOk Try.prog 159 eByte_sm := .inr ⟨ro_ps rfl, rfl, fun w Im vs x r ha hr => by
  obtain ⟨v1, vs1, c1, e1, p1, r1, v2, vs2, c2, e2, p2, r2, e3, _⟩ := ha
  cases hr
  have q1 := pack1 rfl p1
  have q2 := pack1 rfl p2
  obtain ⟨v, e, hv⟩ := run_index (P := Try.prog) r1 x.2.1
  rw [q1] at e; cases e
  rw [q2] at r2
  have e4 : v2 = .int .u8 x.2.1 := by have := r2.1; simpa using this
  subst e1; subst e2; subst e3; subst e4
  refine ⟨[.int .i64 (firstIdx (b2s x.1) (Int.toNat x.2.1).toUInt8)], ?_, ⟨_, [], [_], [], [], rfl, rfl, by simp [pack, aggTy], ⟨rfl, rfl⟩, rfl, rfl⟩⟩
  rw [run_callFunc_extern (e := Extern.BytealgIndexByte.indexByte) Try.func159 (by kernel_rfl) (by kernel_rfl) (by kernel_rfl) (by kernel_rfl)]
  show ((Extern.BytealgIndexByte.indexByte #[v1, .int .u8 x.2.1]).run Try.prog w).andThen _ = _
  rw [hv]; rfl⟩
theorem eStr_c : CalOk Try.prog 95 eStr_sm := .inr ⟨ro_ps rfl, rfl, fun w Im vs x r ha hr => by
  obtain ⟨v1, vs1, c1, e1, p1, r1, v2, vs2, c2, e2, p2, r2, e3, _⟩ := ha
  cases hr
  have q1 := pack1 rfl p1
  have q2 := pack1 rfl p2
  rw [q1] at r1
  rw [q2] at r2
  have e5 : v1 = .string x.1 := by have := r1.1; simpa using this
  have e4 : v2 = .int .u8 x.2.1 := by have := r2.1; simpa using this
  subst e1; subst e2; subst e3; subst e4; subst e5
  refine ⟨[.int .i64 (firstIdx x.1 (Int.toNat x.2.1).toUInt8)], ?_, ⟨_, [], [_], [], [], rfl, rfl, by simp [pack, aggTy], ⟨rfl, rfl⟩, rfl, rfl⟩⟩
  rw [run_callFunc_extern (e := Extern.BytealgIndexByte.indexByte) Try.func95 (by kernel_rfl) (by kernel_rfl) (by kernel_rfl) (by kernel_rfl)]
  show ((Extern.BytealgIndexByte.indexByte #[.string x.1, .int .u8 x.2.1]).run Try.prog w).andThen _ = _
  rw [run_indexByte_string]; rfl⟩
end Go.Proofs.Ytmfjebpdkgbggaa.V
