-- Written by this session's own program (wip/mp, over the kit's print) for this claim; Lean checks it.
/-
  The row of the law bakelite/bakelaw2.GcrWrites: GcrWritesSaid, out of its pure statement (PureGcrWrites) and the walk of its text. No condition beyond the row's own.
-/
import Derived.Test.YtmedmifkeliepaaRows
import Derived.Test.YtmedmifkeliepaaPGcrWritesx7
import Derived.Test.YtmedmifkeliepaaPureGcrWrites
import Derived.Test.YtmedmifkeliepaaZOpen
import Derived.WalkKit
import Derived.ProofKit
import Derived.OpenShut
import Derived.ShutString
import Derived.ChangeOld
import Derived.Below
import Derived.SizedLaws
import Derived.JoinedCond
namespace Go.Proofs.Ytmedmifkeliepaa.gcrWrites
open Go.ChangeShapes Go.WideShapes Go.ChangeAt Go.RowKit
open Go.ChangeMaps (open_string shut_string)
open Go.Proofs.Ytmedmifkeliepaa.PGcrWrites Go.Proofs.Ytmedmifkeliepaa.Op
open Go.Proofs.YtmedmifkeliepaaW.PrintWords
set_option linter.unusedVariables false
set_option linter.unusedSimpArgs false
theorem own : ownKnob Try.prog.godebug = none := by kernel_rfl
theorem laidOut : laidOutB Try.prog = true := by kernel_rfl
theorem weights_each {H : Type} {P : Program} {ts : List TypeId} {ds : List (DataW H)} (h : (DataW.weightsEach P ts ds).all (· ≤ reachBytes) = true) {j : Nat} {t : TypeId} {d : DataW H} (ht : ts[j]? = some t) (hd : ds[j]? = some d) : (d.weights P t).all (· ≤ reachBytes) = true := by
  rw [List.all_eq_true] at h ⊢
  exact fun x hx => h x (DataW.weights_mem_each ht hd x hx)
theorem opens0 (W : World) : Opens Try.prog W 22 (Kd.slice 5 (Kd.int .u8)) (fun x => ∀ y0 ∈ x, ((Lit.int .u8 y0).wf = true)) (fun x => x.length * Try.prog.bytesOf 5 ≤ 140737488351232 ∧ ∀ y0 ∈ x, (True)) (fun x => x.length ≤ 1048576 ∧ ∀ y0 ∈ x, (True)) := opens_slice Try.underlying22 (by kernel_rfl) (opens_int Try.underlying5 (by kernel_rfl)) 5
theorem opens1 (W : World) : Opens Try.prog W 24 (Kd.slice 3 (Kd.int .i64)) (fun x => ∀ y0 ∈ x, ((Lit.int .i64 y0).wf = true)) (fun x => x.length * Try.prog.bytesOf 3 ≤ 140737488351232 ∧ ∀ y0 ∈ x, (True)) (fun x => x.length ≤ 1048576 ∧ ∀ y0 ∈ x, (True)) := opens_slice Try.underlying24 (by kernel_rfl) (opens_int Try.underlying3 (by kernel_rfl)) 3
set_option maxRecDepth 100000 in
theorem contract (H : Type) (enc : TypeId × Value → H) (W : World) (base : Nat) (args : Array Value) (ds gs : List (DataW H)) (before : List MemPlace)
    (hval0 : ∀ (j : Nat) t v, Try.f3.params[j]? = some t → args[j]? = some v → Value.okWide Try.prog W .any base t v)
    (hW : DataW.Whole enc Try.prog Try.f3.params.toList Rows.gcrWritesSpec.vars false W args.toList ds gs before) (hsz0 : (DataW.weightsEach Try.prog (Try.f3.params.toList ++ Rows.gcrWritesSpec.plain.varTypes Try.prog) (ds ++ gs)).all (· ≤ reachBytes) = true) :
    Calls Try.prog 3 args W fun e W' => ∃ v, e = .returned v ∧ Rows.gcrWritesSpec.post enc Try.prog Try.f3 false true false false W args v W' := by
  have hval : ∀ (j : Nat) t v, Try.f3.params[j]? = some t → args[j]? = some v → Value.okWide Try.prog W .any base t v := hval0
  have hsz := hsz0
  have hW' := hW
  obtain ⟨p, q, hA0, hV, rfl, hfz, hnd⟩ := hW
  have hA : DataW.TrodAll enc Try.prog W 0 (fun _ => true) true Try.f3.params.toList args.toList ds p := hA0
  rw [Try.params3] at hA hval hsz
  obtain ⟨v0, vs0, d0, ds0, p0, q0, hargs, rfl, rfl, h0, r0⟩ := trodAll_cons hA
  obtain ⟨v1, vs1, d1, ds1, p1, q1, rfl, rfl, rfl, h1, r1⟩ := trodAll_cons r0
  obtain ⟨v2, vs2, d2, ds2, p2, q2, rfl, rfl, rfl, h2, r2⟩ := trodAll_cons r1
  obtain ⟨rfl, rfl, rfl⟩ := trodAll_nil r2
  obtain rfl : args = #[v0, v1, v2] := by cases args; simp_all
  obtain ⟨rfl, rfl⟩ := trodVars_none hV
  obtain ⟨a0, len0, cap0, rfl⟩ := okWide_slice Try.underlying22 (hval 0 22 v0 rfl rfl)
  have k0 := h0
  have lt0 : ∀ x ∈ p0, x.block < W.heap.size := by obtain ⟨m, hm⟩ := k0; exact DataW.trod_lt m _ _ _ hm
  obtain ⟨m0, hm0⟩ := h0
  obtain ⟨x0, kk0, w0, s0, u0⟩ := (opens0 W).2 H enc m0 _ _ _ hm0
  obtain ⟨A0, c0, e0, l0, g0⟩ := kk0
  simp only [Value.cells, List.cons.injEq, and_true, Value.slice.injEq] at e0
  obtain ⟨rfl, rfl, rfl⟩ := e0
  obtain ⟨a1, len1, cap1, rfl⟩ := okWide_slice Try.underlying24 (hval 1 24 v1 rfl rfl)
  have k1 := h1
  have lt1 : ∀ x ∈ p1, x.block < W.heap.size := by obtain ⟨m, hm⟩ := k1; exact DataW.trod_lt m _ _ _ hm
  obtain ⟨m1, hm1⟩ := h1
  obtain ⟨x1, kk1, w1, s1, u1⟩ := (opens1 W).2 H enc m1 _ _ _ hm1
  obtain ⟨A1, c1, e1, l1, g1⟩ := kk1
  simp only [Value.cells, List.cons.injEq, and_true, Value.slice.injEq] at e1
  obtain ⟨rfl, rfl, rfl⟩ := e1
  obtain ⟨x2, rfl, rfl, rfl, w2⟩ := open_int Try.underlying3 (hval 2 3 v2 rfl rfl) h2
  clear hA0 hval0 hsz0
  obtain ⟨k, hp⟩ := Pure.GcrWrites x0 x1 x2 w0 (s0 (weights_each hsz (j := 0) rfl rfl)) w1 (s1 (weights_each hsz (j := 1) rfl rfl)) w2
  refine (bakelaw2_GcrWrites.calls k _ _ x0 _ _ x1 x2 true W g0 l0 g1 l1 rfl hp).mono ?_
  rintro e W' ⟨rfl, bel0⟩
  have bel : Below W.heap.size W W' := bel0
  exact ⟨_, rfl, _, _, _, [], _, [], hW', trodAll_mk1 (shut_bool Try.underlying4 _), (trodAll_cons_mk (Below.trod laidOut (by kernel_rfl) (of_decide_eq_true (by kernel_rfl)) k0 bel lt0) (trodAll_cons_mk (Below.trod laidOut (by kernel_rfl) (of_decide_eq_true (by kernel_rfl)) k1 bel lt1) (trodAll_cons_mk (shut_int Try.underlying3 w2) trodAll_mk0))), rfl, bel.frame _, fun h => by cases h⟩
set_option maxRecDepth 100000 in
theorem lifted (os : Os) (started : os.Started) (H : Type) (enc : TypeId × Value → H) :
    ReturnsInHanded {} Try.checked os 3 .any (Rows.gcrWritesSpec.pre6 enc Try.prog Try.f3 Rows.gcrWritesRow.domain false) (Rows.gcrWritesSpec.post enc Try.prog Try.f3 false true false false) := by
  refine returnsInHanded_of_change_sized (C := Try.checked) own started (by kernel_rfl) Try.func3
    (ChangeSpec.witness6 (enc := enc) (C := Try.checked) false ⟨#[], #[.slice none 0 0, .slice none 0 0, .int .i64 0], []⟩ 8 (by kernel_rfl) (by kernel_rfl) (by kernel_rfl) (by kernel_rfl)) ?_
  intro W base args ds gs before hval hW hcnd hsz _
  exact contract H enc W base args ds gs before hval hW hsz
theorem over : Rows.gcrWritesRow.holds Try.pinned (OpenSpec.ofChange Rows.gcrWritesSpec) :=
  OpenClaim.holds_of_wide 3 Try.f3 rfl rfl rfl rfl rfl rfl rfl ⟨rfl, rfl, rfl, rfl, rfl⟩ rfl rfl rfl rfl rfl (by kernel_rfl) Try.func3 (by kernel_rfl)
    (of_decide_eq_true (by kernel_rfl)) (by unfold Func.isWrapper; first | (rw [if_pos (by decide +kernel)]; kernel_rfl) | (rw [if_neg (by decide +kernel)]; exact ⟨rfl, rfl⟩))
    (fun os started H enc _ => lifted os started H enc)
theorem proved : Rows.GcrWritesSaid := over
#print axioms proved
end Go.Proofs.Ytmedmifkeliepaa.gcrWrites
namespace Go.Proofs.Ytmedmifkeliepaa
/-- The row, under a short name, for the claim. -/
theorem gcrWrites_holds : Rows.GcrWritesSaid := gcrWrites.proved
end Go.Proofs.Ytmedmifkeliepaa
