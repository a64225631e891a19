-- Written by this session's own program (wip/mp, over the kit's print) for this claim; Lean checks it.
/-
  The row of the law bakelite/bakelaw2.WeakReads: WeakReadsSaid, out of its pure statement (PureWeakReads) and the walk of its text. No condition beyond the row's own.
-/
import Derived.Test.YtgiodeiibmbhhaaRows
import Derived.Test.YtgiodeiibmbhhaaPWeakReadsx6
import Derived.Test.YtgiodeiibmbhhaaPureWeakReads
import Derived.Test.YtgiodeiibmbhhaaZOpen
import Derived.WalkKit
import Derived.ProofKit
import Derived.OpenShut
import Derived.ShutString
import Derived.ChangeOld
import Derived.Below
import Derived.SizedLaws
import Derived.JoinedCond
namespace Go.Proofs.Ytgiodeiibmbhhaa.weakReads
open Go.ChangeShapes Go.WideShapes Go.ChangeAt Go.RowKit
open Go.ChangeMaps (open_string shut_string)
open Go.Proofs.Ytgiodeiibmbhhaa.PWeakReads Go.Proofs.Ytgiodeiibmbhhaa.Op
open Go.Proofs.YtgiodeiibmbhhaaW.PrintWords
set_option linter.unusedVariables false
set_option linter.unusedSimpArgs false
theorem own : ownKnob Try.prog.godebug = none := by kernel_rfl
theorem laidOut : laidOutB Try.prog = true := by kernel_rfl
theorem weights_each {H : Type} {P : Program} {ts : List TypeId} {ds : List (DataW H)} (h : (DataW.weightsEach P ts ds).all (· ≤ reachBytes) = true) {j : Nat} {t : TypeId} {d : DataW H} (ht : ts[j]? = some t) (hd : ds[j]? = some d) : (d.weights P t).all (· ≤ reachBytes) = true := by
  rw [List.all_eq_true] at h ⊢
  exact fun x hx => h x (DataW.weights_mem_each ht hd x hx)
theorem opens0 (W : World) : Opens Try.prog W 73 k73 (fun x => (∀ y0 ∈ x.f0, ((Lit.int .i64 y0).wf = true)) ∧ (∀ y0 ∈ x.f1, ((Lit.int .i64 y0.f0).wf = true ∧ ((Lit.int .i64 y0.f1).wf = true ∧ (Lit.int .i64 y0.f2).wf = true)))) (fun x => (x.f0.length * Try.prog.bytesOf 3 ≤ 140737488351232 ∧ ∀ y0 ∈ x.f0, (True)) ∧ x.f1.length * Try.prog.bytesOf 122 ≤ 140737488351232 ∧ ∀ y0 ∈ x.f1, (True ∧ (True ∧ True))) (fun x => (x.f0.length ≤ 1048576 ∧ ∀ y0 ∈ x.f0, (True)) ∧ x.f1.length ≤ 1048576 ∧ ∀ y0 ∈ x.f1, (True ∧ (True ∧ True))) := opens_struct (fun x : S73 => (x.f0, x.f1)) (fun p => ⟨p.1, p.2⟩) (fun _ => rfl) Try.underlying73 (by kernel_rfl) (opensF_cons rfl (opens_slice Try.underlying44 (by kernel_rfl) (opens_int Try.underlying3 (by kernel_rfl)) 3) (opensF_one rfl (opens_slice Try.underlying71 (by kernel_rfl) (opens_struct (fun x : S122 => (x.f0, x.f1, x.f2)) (fun p => ⟨p.1, p.2.1, p.2.2⟩) (fun _ => rfl) Try.underlying122 (by kernel_rfl) (opensF_cons rfl (opens_int Try.underlying3 (by kernel_rfl)) (opensF_cons rfl (opens_int Try.underlying3 (by kernel_rfl)) (opensF_one rfl (opens_int Try.underlying3 (by kernel_rfl)))))) 122)))
set_option maxRecDepth 100000 in
theorem contract (H : Type) (enc : TypeId × Value → H) (W : World) (base : Nat) (args : Array Value) (ds gs : List (DataW H)) (before : List MemPlace)
    (hval0 : ∀ (j : Nat) t v, Try.f10.params[j]? = some t → args[j]? = some v → Value.okWide Try.prog W .any base t v)
    (hW : DataW.Whole enc Try.prog Try.f10.params.toList Rows.weakReadsSpec.vars false W args.toList ds gs before) (hsz0 : (DataW.weightsEach Try.prog (Try.f10.params.toList ++ Rows.weakReadsSpec.plain.varTypes Try.prog) (ds ++ gs)).all (· ≤ reachBytes) = true) :
    Calls Try.prog 10 args W fun e W' => ∃ v, e = .returned v ∧ Rows.weakReadsSpec.post enc Try.prog Try.f10 false true false false W args v W' := by
  have hval : ∀ (j : Nat) t v, Try.f10.params[j]? = some t → args[j]? = some v → Value.okWide Try.prog W .any base t v := hval0
  have hsz := hsz0
  have hW' := hW
  obtain ⟨p, q, hA0, hV, rfl, hfz, hnd⟩ := hW
  have hA : DataW.TrodAll enc Try.prog W 0 (fun _ => true) true Try.f10.params.toList args.toList ds p := hA0
  rw [Try.params10] at hA hval hsz
  obtain ⟨v0, vs0, d0, ds0, p0, q0, hargs, rfl, rfl, h0, r0⟩ := trodAll_cons hA
  obtain ⟨v1, vs1, d1, ds1, p1, q1, rfl, rfl, rfl, h1, r1⟩ := trodAll_cons r0
  obtain ⟨rfl, rfl, rfl⟩ := trodAll_nil r1
  obtain rfl : args = #[v0, v1] := by cases args; simp_all
  obtain ⟨rfl, rfl⟩ := trodVars_none hV
  obtain ⟨a0, rfl, _⟩ := okWide_struct Try.underlying73 (hval 0 73 v0 rfl rfl)
  have k0 := h0
  have lt0 : ∀ x ∈ p0, x.block < W.heap.size := by obtain ⟨m, hm⟩ := k0; exact DataW.trod_lt m _ _ _ hm
  obtain ⟨m0, hm0⟩ := h0
  obtain ⟨x0, kk0, w0, s0, u0⟩ := (opens0 W).2 H enc m0 _ _ _ hm0
  obtain ⟨A0_0, c0_0, A0_1, c0_1, e0, l0_0, g0_0, l0_1, g0_1⟩ := k73_open kk0
  obtain rfl : a0 = #[.slice A0_0 x0.f0.length c0_0, .slice A0_1 x0.f1.length c0_1] := by cases a0; simpa [Value.cells] using e0
  clear e0
  obtain ⟨x1, rfl, rfl, rfl, w1⟩ := open_int Try.underlying3 (hval 1 3 v1 rfl rfl) h1
  clear hA0 hval0 hsz0
  obtain ⟨k, hp⟩ := Pure.WeakReads x0 x1 w0 (s0 (weights_each hsz (j := 0) rfl rfl)) w1
  refine (bakelaw2_WeakReads.calls k _ _ x0.f0 _ _ x0.f1 x1 true W g0_0 l0_0 g0_1 l0_1 hp).mono ?_
  rintro e W' ⟨rfl, bel0⟩
  have bel : Below W.heap.size W W' := bel0
  exact ⟨_, rfl, _, _, _, [], _, [], hW', trodAll_mk1 (shut_bool Try.underlying4 _), (trodAll_cons_mk (Below.trod laidOut (by kernel_rfl) (of_decide_eq_true (by kernel_rfl)) k0 bel lt0) (trodAll_cons_mk (shut_int Try.underlying3 w1) trodAll_mk0)), rfl, bel.frame _, fun h => by cases h⟩
set_option maxRecDepth 100000 in
theorem lifted (os : Os) (started : os.Started) (H : Type) (enc : TypeId × Value → H) :
    ReturnsInHanded {} Try.checked os 10 .any (Rows.weakReadsSpec.pre6 enc Try.prog Try.f10 Rows.weakReadsRow.domain false) (Rows.weakReadsSpec.post enc Try.prog Try.f10 false true false false) := by
  refine returnsInHanded_of_change_sized (C := Try.checked) own started (by kernel_rfl) Try.func10
    (ChangeSpec.witness6 (enc := enc) (C := Try.checked) false ⟨#[], #[.agg #[.slice none 0 0, .slice none 0 0], .int .i64 0], []⟩ 8 (by kernel_rfl) (by kernel_rfl) (by kernel_rfl) (by kernel_rfl)) ?_
  intro W base args ds gs before hval hW hcnd hsz _
  exact contract H enc W base args ds gs before hval hW hsz
theorem over : Rows.weakReadsRow.holds Try.pinned (OpenSpec.ofChange Rows.weakReadsSpec) :=
  OpenClaim.holds_of_wide 10 Try.f10 rfl rfl rfl rfl rfl rfl rfl ⟨rfl, rfl, rfl, rfl, rfl⟩ rfl rfl rfl rfl rfl (by kernel_rfl) Try.func10 (by kernel_rfl)
    (of_decide_eq_true (by kernel_rfl)) (by unfold Func.isWrapper; first | (rw [if_pos (by decide +kernel)]; kernel_rfl) | (rw [if_neg (by decide +kernel)]; exact ⟨rfl, rfl⟩))
    (fun os started H enc _ => lifted os started H enc)
theorem proved : Rows.WeakReadsSaid := over
#print axioms proved
end Go.Proofs.Ytgiodeiibmbhhaa.weakReads
namespace Go.Proofs.Ytgiodeiibmbhhaa
/-- The row, under a short name, for the claim. -/
theorem weakReads_holds : Rows.WeakReadsSaid := weakReads.proved
end Go.Proofs.Ytgiodeiibmbhhaa
