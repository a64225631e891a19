-- Written by this session's own program (wip/mp, over the kit's print) for this claim; Lean checks it.
/-
  The row of the law bakelite/bakelaw2.WeakShows: WeakShowsSaid, out of its pure statement (PureWeakShows) and the walk of its text. No condition beyond the row's own.
-/
import Derived.Test.YtgiodeiibmbhhaaRows
import Derived.Test.YtgiodeiibmbhhaaPWeakShowsx4
import Derived.Test.YtgiodeiibmbhhaaPureWeakShows
import Derived.Test.YtgiodeiibmbhhaaZOpen
import Derived.WalkKit
import Derived.ProofKit
import Derived.OpenShut
import Derived.ShutString
import Derived.ChangeOld
import Derived.Below
import Derived.SizedLaws
import Derived.JoinedCond
namespace Go.Proofs.Ytgiodeiibmbhhaa.weakShows
open Go.ChangeShapes Go.WideShapes Go.ChangeAt Go.RowKit
open Go.ChangeMaps (open_string shut_string)
open Go.Proofs.Ytgiodeiibmbhhaa.PWeakShows Go.Proofs.Ytgiodeiibmbhhaa.Op
open Go.Proofs.YtgiodeiibmbhhaaW.PrintWords
set_option linter.unusedVariables false
set_option linter.unusedSimpArgs false
theorem own : ownKnob Try.prog.godebug = none := by kernel_rfl
theorem laidOut : laidOutB Try.prog = true := by kernel_rfl
theorem weights_each {H : Type} {P : Program} {ts : List TypeId} {ds : List (DataW H)} (h : (DataW.weightsEach P ts ds).all (· ≤ reachBytes) = true) {j : Nat} {t : TypeId} {d : DataW H} (ht : ts[j]? = some t) (hd : ds[j]? = some d) : (d.weights P t).all (· ≤ reachBytes) = true := by
  rw [List.all_eq_true] at h ⊢
  exact fun x hx => h x (DataW.weights_mem_each ht hd x hx)
theorem opens0 (W : World) : Opens Try.prog W 29 k29 (fun x => (Lit.int .i64 x.f0).wf = true ∧ ((Lit.int .i64 x.f1).wf = true ∧ (Lit.int .i64 x.f2).wf = true)) (fun x => True ∧ (True ∧ True)) (fun x => True ∧ (True ∧ True)) := opens_struct (fun x : S29 => (x.f0, x.f1, x.f2)) (fun p => ⟨p.1, p.2.1, p.2.2⟩) (fun _ => rfl) Try.underlying29 (by kernel_rfl) (opensF_cons rfl (opens_int Try.underlying3 (by kernel_rfl)) (opensF_cons rfl (opens_int Try.underlying3 (by kernel_rfl)) (opensF_one rfl (opens_int Try.underlying3 (by kernel_rfl)))))
theorem opens1 (W : World) : Opens Try.prog W 30 (Kd.slice 102 (Kd.slice 107 k107)) (fun x => ∀ y0 ∈ x, (∀ y1 ∈ y0, ((Lit.int .i64 y1.f0).wf = true ∧ ((Lit.int .i64 y1.f1).wf = true ∧ ((∀ y2 ∈ y1.f2, ((Lit.int .u8 y2).wf = true)) ∧ True))))) (fun x => x.length * Try.prog.bytesOf 102 ≤ 140737488351232 ∧ ∀ y0 ∈ x, (y0.length * Try.prog.bytesOf 107 ≤ 140737488351232 ∧ ∀ y1 ∈ y0, (True ∧ (True ∧ ((y1.f2.length * Try.prog.bytesOf 5 ≤ 140737488351232 ∧ ∀ y2 ∈ y1.f2, (True)) ∧ True))))) (fun x => x.length ≤ 1048576 ∧ ∀ y0 ∈ x, (y0.length ≤ 1048576 ∧ ∀ y1 ∈ y0, (True ∧ (True ∧ ((y1.f2.length ≤ 1048576 ∧ ∀ y2 ∈ y1.f2, (True)) ∧ True))))) := opens_slice Try.underlying30 (by kernel_rfl) (opens_slice Try.underlying102 (by kernel_rfl) (opens_struct (fun x : S107 => (x.f0, x.f1, x.f2, x.f3)) (fun p => ⟨p.1, p.2.1, p.2.2.1, p.2.2.2⟩) (fun _ => rfl) Try.underlying107 (by kernel_rfl) (opensF_cons rfl (opens_int Try.underlying3 (by kernel_rfl)) (opensF_cons rfl (opens_int Try.underlying3 (by kernel_rfl)) (opensF_cons rfl (opens_slice Try.underlying22 (by kernel_rfl) (opens_int Try.underlying5 (by kernel_rfl)) 5) (opensF_one rfl (opens_bool Try.underlying4 (by kernel_rfl))))))) 107) 102
set_option maxRecDepth 100000 in
theorem contract (H : Type) (enc : TypeId × Value → H) (W : World) (base : Nat) (args : Array Value) (ds gs : List (DataW H)) (before : List MemPlace)
    (hval0 : ∀ (j : Nat) t v, Try.f4.params[j]? = some t → args[j]? = some v → Value.okWide Try.prog W .any base t v)
    (hW : DataW.Whole enc Try.prog Try.f4.params.toList Rows.weakShowsSpec.vars false W args.toList ds gs before) (hsz0 : (DataW.weightsEach Try.prog (Try.f4.params.toList ++ Rows.weakShowsSpec.plain.varTypes Try.prog) (ds ++ gs)).all (· ≤ reachBytes) = true) :
    Calls Try.prog 4 args W fun e W' => ∃ v, e = .returned v ∧ Rows.weakShowsSpec.post enc Try.prog Try.f4 false true false false W args v W' := by
  have hval : ∀ (j : Nat) t v, Try.f4.params[j]? = some t → args[j]? = some v → Value.okWide Try.prog W .any base t v := hval0
  have hsz := hsz0
  have hW' := hW
  obtain ⟨p, q, hA0, hV, rfl, hfz, hnd⟩ := hW
  have hA : DataW.TrodAll enc Try.prog W 0 (fun _ => true) true Try.f4.params.toList args.toList ds p := hA0
  rw [Try.params4] at hA hval hsz
  obtain ⟨v0, vs0, d0, ds0, p0, q0, hargs, rfl, rfl, h0, r0⟩ := trodAll_cons hA
  obtain ⟨v1, vs1, d1, ds1, p1, q1, rfl, rfl, rfl, h1, r1⟩ := trodAll_cons r0
  obtain ⟨rfl, rfl, rfl⟩ := trodAll_nil r1
  obtain rfl : args = #[v0, v1] := by cases args; simp_all
  obtain ⟨rfl, rfl⟩ := trodVars_none hV
  obtain ⟨a0, rfl, _⟩ := okWide_struct Try.underlying29 (hval 0 29 v0 rfl rfl)
  have k0 := h0
  have lt0 : ∀ x ∈ p0, x.block < W.heap.size := by obtain ⟨m, hm⟩ := k0; exact DataW.trod_lt m _ _ _ hm
  obtain ⟨m0, hm0⟩ := h0
  obtain ⟨x0, kk0, w0, s0, u0⟩ := (opens0 W).2 H enc m0 _ _ _ hm0
  obtain e0 := k29_open kk0
  obtain rfl : a0 = #[.int .i64 x0.f0, .int .i64 x0.f1, .int .i64 x0.f2] := by cases a0; simpa [Value.cells] using e0
  clear e0
  obtain ⟨a1, len1, cap1, rfl⟩ := okWide_slice Try.underlying30 (hval 1 30 v1 rfl rfl)
  have k1 := h1
  have lt1 : ∀ x ∈ p1, x.block < W.heap.size := by obtain ⟨m, hm⟩ := k1; exact DataW.trod_lt m _ _ _ hm
  obtain ⟨m1, hm1⟩ := h1
  obtain ⟨x1, kk1, w1, s1, u1⟩ := (opens1 W).2 H enc m1 _ _ _ hm1
  obtain ⟨A1, c1, e1, l1, g1⟩ := kk1
  simp only [Value.cells, List.cons.injEq, and_true, Value.slice.injEq] at e1
  obtain ⟨rfl, rfl, rfl⟩ := e1
  clear hA0 hval0 hsz0
  obtain ⟨k, hp⟩ := Pure.WeakShows x0 x1 w0 (s0 (weights_each hsz (j := 0) rfl rfl)) w1 (s1 (weights_each hsz (j := 1) rfl rfl))
  refine (bakelaw2_WeakShows.calls k x0.f0 x0.f1 x0.f2 _ _ x1 true W g1 l1 rfl hp).mono ?_
  rintro e W' ⟨rfl, bel0⟩
  have bel : Below W.heap.size W W' := bel0
  exact ⟨_, rfl, _, _, _, [], _, [], hW', trodAll_mk1 (shut_bool Try.underlying4 _), (trodAll_cons_mk (Below.trod laidOut (by kernel_rfl) (of_decide_eq_true (by kernel_rfl)) k0 bel lt0) (trodAll_cons_mk (Below.trod laidOut (by kernel_rfl) (of_decide_eq_true (by kernel_rfl)) k1 bel lt1) trodAll_mk0)), rfl, bel.frame _, fun h => by cases h⟩
set_option maxRecDepth 100000 in
theorem lifted (os : Os) (started : os.Started) (H : Type) (enc : TypeId × Value → H) :
    ReturnsInHanded {} Try.checked os 4 .any (Rows.weakShowsSpec.pre6 enc Try.prog Try.f4 Rows.weakShowsRow.domain false) (Rows.weakShowsSpec.post enc Try.prog Try.f4 false true false false) := by
  refine returnsInHanded_of_change_sized (C := Try.checked) own started (by kernel_rfl) Try.func4
    (ChangeSpec.witness6 (enc := enc) (C := Try.checked) false ⟨#[], #[.agg #[.int .i64 0, .int .i64 0, .int .i64 0], .slice none 0 0], []⟩ 8 (by kernel_rfl) (by kernel_rfl) (by kernel_rfl) (by kernel_rfl)) ?_
  intro W base args ds gs before hval hW hcnd hsz _
  exact contract H enc W base args ds gs before hval hW hsz
theorem over : Rows.weakShowsRow.holds Try.pinned (OpenSpec.ofChange Rows.weakShowsSpec) :=
  OpenClaim.holds_of_wide 4 Try.f4 rfl rfl rfl rfl rfl rfl rfl ⟨rfl, rfl, rfl, rfl, rfl⟩ rfl rfl rfl rfl rfl (by kernel_rfl) Try.func4 (by kernel_rfl)
    (of_decide_eq_true (by kernel_rfl)) (by unfold Func.isWrapper; first | (rw [if_pos (by decide +kernel)]; kernel_rfl) | (rw [if_neg (by decide +kernel)]; exact ⟨rfl, rfl⟩))
    (fun os started H enc _ => lifted os started H enc)
theorem proved : Rows.WeakShowsSaid := over
#print axioms proved
end Go.Proofs.Ytgiodeiibmbhhaa.weakShows
namespace Go.Proofs.Ytgiodeiibmbhhaa
/-- The row, under a short name, for the claim. -/
theorem weakShows_holds : Rows.WeakShowsSaid := weakShows.proved
end Go.Proofs.Ytgiodeiibmbhhaa
