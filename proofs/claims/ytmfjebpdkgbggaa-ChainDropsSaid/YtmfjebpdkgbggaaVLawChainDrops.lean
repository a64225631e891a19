/-
  The row of the law bakelite/bakelaw2.ChainDrops: ChainDropsSaid, out of its pure statement and the run of its text. No condition beyond the row's own.
-/
import Derived.Test.YtmfjebpdkgbggaaRows
import Derived.Test.YtmfjebpdkgbggaaVPureChainDrops
import Derived.Test.YtmfjebpdkgbggaaVOpen
import Derived.WalkKit
import Derived.ProofKit
import Derived.OpenShut
import Derived.ShutString
import Derived.ChangeOld
import Derived.Below
import Derived.SizedLaws
import Derived.JoinedCond
import Derived.KernelRfl
namespace Go.Proofs.Ytmfjebpdkgbggaa.V.chainDrops
open Go Go.ChangeShapes Go.WideShapes Go.ChangeAt Go.RowKit
open Go.ChangeMaps (open_string shut_string)
set_option linter.unusedVariables false
set_option linter.unusedSimpArgs false
theorem own : ownKnob Try.prog.godebug = none := by kernel_rfl
theorem laidOut : laidOutB Try.prog = true := by kernel_rfl
theorem weights_each {H : Type} {P : Program} {ts : List TypeId} {ds : List (DataW H)} (h : (DataW.weightsEach P ts ds).all (· ≤ reachBytes) = true) {j : Nat} {t : TypeId} {d : DataW H} (ht : ts[j]? = some t) (hd : ds[j]? = some d) : (d.weights P t).all (· ≤ reachBytes) = true := by
  rw [List.all_eq_true] at h ⊢
  exact fun x hx => h x (DataW.weights_mem_each ht hd x hx)
set_option maxRecDepth 100000 in
theorem opens0 (W : World) : Opens Try.prog W 24 (.pair (.int .i64) (.pair (.int .i64) (.pair (.slc (.slc (.int .u8))) .unit))) (fun x => ((Lit.int .i64 x.1).wf = true) ∧ (((Lit.int .i64 x.2.1).wf = true) ∧ ((∀ y0 ∈ x.2.2.1, (∀ y1 ∈ y0, ((Lit.int .u8 y1).wf = true))) ∧ (True)))) (fun x => (True) ∧ ((True) ∧ ((List.length x.2.2.1 * Try.prog.bytesOf 34 ≤ 140737488351232 ∧ ∀ y0 ∈ x.2.2.1, (List.length y0 * Try.prog.bytesOf 5 ≤ 140737488351232 ∧ ∀ y1 ∈ y0, (True))) ∧ (True)))) (fun x => (True) ∧ ((True) ∧ ((List.length x.2.2.1 ≤ 1048576 ∧ ∀ y0 ∈ x.2.2.1, (List.length y0 ≤ 1048576 ∧ ∀ y1 ∈ y0, (True))) ∧ (True)))) := opens_struct Try.underlying24 (by kernel_rfl) (opensF_cons rfl (opens_int Try.underlying3 (by kernel_rfl)) (opensF_cons rfl (opens_int Try.underlying3 (by kernel_rfl)) (opensF_cons rfl (opens_slice Try.underlying22 (by kernel_rfl) (opens_slice Try.underlying34 (by kernel_rfl) (opens_int Try.underlying5 (by kernel_rfl)) (of_decide_eq_true (by kernel_rfl))) (of_decide_eq_true (by kernel_rfl))) opensF_nil)))
set_option maxRecDepth 100000 in
theorem contract (H : Type) (enc : TypeId × Value → H) (W : World) (base : Nat) (args : Array Value) (ds gs : List (DataW H)) (before : List MemPlace)
    (hval0 : ∀ (j : Nat) t v, Try.f4.params[j]? = some t → args[j]? = some v → Value.okWide Try.prog W .any base t v)
    (hW : DataW.Whole enc Try.prog Try.f4.params.toList Rows.chainDropsSpec.vars false W args.toList ds gs before) (hsz0 : (DataW.weightsEach Try.prog (Try.f4.params.toList ++ Rows.chainDropsSpec.plain.varTypes Try.prog) (ds ++ gs)).all (· ≤ reachBytes) = true) :
    Calls Try.prog 4 args W fun e W' => ∃ v, e = .returned v ∧ Rows.chainDropsSpec.post enc Try.prog Try.f4 false true false false W args v W' := by
  have hval : ∀ (j : Nat) t v, Try.f4.params[j]? = some t → args[j]? = some v → Value.okWide Try.prog W .any base t v := hval0
  have hsz := hsz0
  have hW' := hW
  obtain ⟨p, q, hA0, hV, rfl, hfz, hnd⟩ := hW
  have hA : DataW.TrodAll enc Try.prog W 0 (fun _ => true) true Try.f4.params.toList args.toList ds p := hA0
  rw [Try.params4] at hA hval hsz
  obtain ⟨v0, vs0, d0, ds0, p0, q0, hargs, rfl, rfl, h0, r0⟩ := trodAll_cons hA
  obtain ⟨v1, vs1, d1, ds1, p1, q1, rfl, rfl, rfl, h1, r1⟩ := trodAll_cons r0
  obtain ⟨rfl, rfl, rfl⟩ := trodAll_nil r1
  obtain rfl : args = #[v0, v1] := by cases args; simp_all
  obtain ⟨rfl, rfl⟩ := trodVars_none hV
  obtain ⟨a0, rfl, _⟩ := okWide_struct Try.underlying24 (hval 0 24 v0 rfl rfl)
  have k0 := h0
  have lt0 : ∀ x ∈ p0, x.block < W.heap.size := by obtain ⟨m, hm⟩ := k0; exact DataW.trod_lt m _ _ _ hm
  obtain ⟨m0, hm0⟩ := h0
  obtain ⟨x0, kk0, w0, s0, u0⟩ := (opens0 W).2 H enc m0 _ _ _ hm0
  obtain ⟨x1, rfl, rfl, rfl, y1⟩ := open_string Try.underlying9 (hval 1 9 v1 rfl rfl) h1
  have w1 : x1.size ≤ 140737488351232 := by
    have z := sized_string hsz (j := 1) (t := 9) rfl rfl
    rw [Array.length_toList] at z
    exact z
  clear hA0 hval0 hsz0
  have hp := Pure.ChainDrops x0 x1 w0 (s0 (weights_each hsz (j := 0) rfl rfl)) y1 w1
  refine (f4_ok W (OldIm W) [_, _] (x0, x1, ()) [] ((true, ()), ()) (fun k h => h) ⟨_, _, _, rfl, (by simp [pack, aggTy, Value.cells]), kk0, ⟨_, _, [.string x1], rfl, rfl, ⟨rfl, rfl⟩, ⟨rfl, rfl⟩⟩⟩ (by intro p hp; cases hp) (by simp [keys]) (by simp [keys]) hp).mono ?_
  rintro e W' ⟨us, ImN, g1, g2, rfl, hres, hout, _, _, _, _, _, hkeep⟩
  have hres := (hres.resolve_right (fun h => Bool.false_ne_true h.1)).2
  obtain ⟨u, us', cs, f1, f2, rfl, _, hpk, ⟨hcs, _⟩, hrest⟩ := hres
  obtain ⟨rfl, _⟩ := hrest
  have hpk : cs = [u] := hpk
  subst hpk
  simp only [List.cons.injEq, and_true] at hcs
  subst hcs
  have bel : Below W.heap.size W W' := ⟨hkeep.os, hkeep.tape, hkeep.output, hkeep.size, fun k hk => hkeep.block k hk (by simp [keys])⟩
  exact ⟨_, rfl, _, _, _, [], _, [], hW', trodAll_mk1 (shut_bool Try.underlying4 _), (trodAll_cons_mk (Below.trod laidOut (by kernel_rfl) (of_decide_eq_true (by kernel_rfl)) k0 bel lt0) (trodAll_cons_mk (shut_string Try.underlying9 y1) trodAll_mk0)), rfl, bel.frame _, fun h => by cases h⟩
set_option maxRecDepth 100000 in
theorem lifted (os : Os) (started : os.Started) (H : Type) (enc : TypeId × Value → H) :
    ReturnsInHanded {} Try.checked os 4 .any (Rows.chainDropsSpec.pre6 enc Try.prog Try.f4 Rows.chainDropsRow.domain false) (Rows.chainDropsSpec.post enc Try.prog Try.f4 false true false false) := by
  refine returnsInHanded_of_change_sized (C := Try.checked) own started (by kernel_rfl) Try.func4
    (ChangeSpec.witness6 (enc := enc) (C := Try.checked) false ⟨#[], #[.agg #[.int .i64 0, .int .i64 0, .slice none 0 0], .string ByteArray.empty], []⟩ 8 (by kernel_rfl) (by kernel_rfl) (by kernel_rfl) (by kernel_rfl)) ?_
  intro W base args ds gs before hval hW hcnd hsz _
  exact contract H enc W base args ds gs before hval hW hsz
theorem over : Rows.chainDropsRow.holds Try.pinned (OpenSpec.ofChange Rows.chainDropsSpec) :=
  OpenClaim.holds_of_wide 4 Try.f4 rfl rfl rfl rfl rfl rfl rfl ⟨rfl, rfl, rfl, rfl, rfl⟩ rfl rfl rfl rfl rfl (by kernel_rfl) Try.func4 (by kernel_rfl)
    (of_decide_eq_true (by kernel_rfl)) (by unfold Func.isWrapper; first | (rw [if_pos (by decide +kernel)]; kernel_rfl) | (rw [if_neg (by decide +kernel)]; exact ⟨rfl, rfl⟩))
    (fun os started H enc _ => lifted os started H enc)
theorem proved : Rows.ChainDropsSaid := over
#print axioms proved
end Go.Proofs.Ytmfjebpdkgbggaa.V.chainDrops
namespace Go.Proofs.Ytmfjebpdkgbggaa
theorem chainDrops_holds : Rows.ChainDropsSaid := V.chainDrops.proved
end Go.Proofs.Ytmfjebpdkgbggaa
