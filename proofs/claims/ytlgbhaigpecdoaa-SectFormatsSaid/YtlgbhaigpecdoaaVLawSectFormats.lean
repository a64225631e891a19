/-
  The row of the law bakelite/bakelaw2.SectFormats: SectFormatsSaid, out of its pure statement and the run of its text. No condition beyond the row's own.
-/
import Derived.Test.YtlgbhaigpecdoaaRows
import Derived.Test.YtlgbhaigpecdoaaVPureSectFormats
import Derived.Test.YtlgbhaigpecdoaaVOpen
import Derived.WalkKit
import Derived.ProofKit
import Derived.OpenShut
import Derived.ShutString
import Derived.ChangeOld
import Derived.Below
import Derived.SizedLaws
import Derived.JoinedCond
import Derived.KernelRfl
namespace Go.Proofs.Ytlgbhaigpecdoaa.V.sectFormats
open Go Go.ChangeShapes Go.WideShapes Go.ChangeAt Go.RowKit
open Go.ChangeMaps (open_string shut_string)
set_option linter.unusedVariables false
set_option linter.unusedSimpArgs false
theorem own : ownKnob Try.prog.godebug = none := by kernel_rfl
theorem laidOut : laidOutB Try.prog = true := by kernel_rfl
theorem weights_each {H : Type} {P : Program} {ts : List TypeId} {ds : List (DataW H)} (h : (DataW.weightsEach P ts ds).all (· ≤ reachBytes) = true) {j : Nat} {t : TypeId} {d : DataW H} (ht : ts[j]? = some t) (hd : ds[j]? = some d) : (d.weights P t).all (· ≤ reachBytes) = true := by
  rw [List.all_eq_true] at h ⊢
  exact fun x hx => h x (DataW.weights_mem_each ht hd x hx)
set_option maxRecDepth 100000 in
theorem opens1 (W : World) : Opens Try.prog W 74 (.slc (.pair (.int .i64) (.pair (.int .i64) (.pair (.slc (.int .u8)) (.pair .bool .unit))))) (fun x => ∀ y0 ∈ x, (((Lit.int .i64 y0.1).wf = true) ∧ (((Lit.int .i64 y0.2.1).wf = true) ∧ ((∀ y1 ∈ y0.2.2.1, ((Lit.int .u8 y1).wf = true)) ∧ ((True) ∧ (True)))))) (fun x => List.length x * Try.prog.bytesOf 76 ≤ 140737488351232 ∧ ∀ y0 ∈ x, ((True) ∧ ((True) ∧ ((List.length y0.2.2.1 * Try.prog.bytesOf 5 ≤ 140737488351232 ∧ ∀ y1 ∈ y0.2.2.1, (True)) ∧ ((True) ∧ (True)))))) (fun x => List.length x ≤ 1048576 ∧ ∀ y0 ∈ x, ((True) ∧ ((True) ∧ ((List.length y0.2.2.1 ≤ 1048576 ∧ ∀ y1 ∈ y0.2.2.1, (True)) ∧ ((True) ∧ (True)))))) := opens_slice Try.underlying74 (by kernel_rfl) (opens_struct Try.underlying76 (by kernel_rfl) (opensF_cons rfl (opens_int Try.underlying3 (by kernel_rfl)) (opensF_cons rfl (opens_int Try.underlying3 (by kernel_rfl)) (opensF_cons rfl (opens_slice Try.underlying25 (by kernel_rfl) (opens_int Try.underlying5 (by kernel_rfl)) (of_decide_eq_true (by kernel_rfl))) (opensF_cons rfl (opens_bool Try.underlying4 (by kernel_rfl)) opensF_nil))))) (of_decide_eq_true (by kernel_rfl))
set_option maxRecDepth 100000 in
theorem contract (H : Type) (enc : TypeId × Value → H) (W : World) (base : Nat) (args : Array Value) (ds gs : List (DataW H)) (before : List MemPlace)
    (hval0 : ∀ (j : Nat) t v, Try.f11.params[j]? = some t → args[j]? = some v → Value.okWide Try.prog W .any base t v)
    (hW : DataW.Whole enc Try.prog Try.f11.params.toList Rows.sectFormatsSpec.vars false W args.toList ds gs before) (hsz0 : (DataW.weightsEach Try.prog (Try.f11.params.toList ++ Rows.sectFormatsSpec.plain.varTypes Try.prog) (ds ++ gs)).all (· ≤ reachBytes) = true) :
    Calls Try.prog 11 args W fun e W' => ∃ v, e = .returned v ∧ Rows.sectFormatsSpec.post enc Try.prog Try.f11 false true false false W args v W' := by
  have hval : ∀ (j : Nat) t v, Try.f11.params[j]? = some t → args[j]? = some v → Value.okWide Try.prog W .any base t v := hval0
  have hsz := hsz0
  have hW' := hW
  obtain ⟨p, q, hA0, hV, rfl, hfz, hnd⟩ := hW
  have hA : DataW.TrodAll enc Try.prog W 0 (fun _ => true) true Try.f11.params.toList args.toList ds p := hA0
  rw [Try.params11] at hA hval hsz
  obtain ⟨v0, vs0, d0, ds0, p0, q0, hargs, rfl, rfl, h0, r0⟩ := trodAll_cons hA
  obtain ⟨v1, vs1, d1, ds1, p1, q1, rfl, rfl, rfl, h1, r1⟩ := trodAll_cons r0
  obtain ⟨v2, vs2, d2, ds2, p2, q2, rfl, rfl, rfl, h2, r2⟩ := trodAll_cons r1
  obtain ⟨rfl, rfl, rfl⟩ := trodAll_nil r2
  obtain rfl : args = #[v0, v1, v2] := by cases args; simp_all
  obtain ⟨rfl, rfl⟩ := trodVars_none hV
  obtain ⟨x0, rfl, rfl, rfl, w0⟩ := open_int Try.underlying3 (hval 0 3 v0 rfl rfl) h0
  obtain ⟨a1, len1, cap1, rfl⟩ := okWide_slice Try.underlying74 (hval 1 74 v1 rfl rfl)
  have k1 := h1
  have lt1 : ∀ x ∈ p1, x.block < W.heap.size := by obtain ⟨m, hm⟩ := k1; exact DataW.trod_lt m _ _ _ hm
  obtain ⟨m1, hm1⟩ := h1
  obtain ⟨x1, kk1, w1, s1, u1⟩ := (opens1 W).2 H enc m1 _ _ _ hm1
  obtain ⟨x2, rfl, rfl, rfl, w2⟩ := open_int Try.underlying3 (hval 2 3 v2 rfl rfl) h2
  clear hA0 hval0 hsz0
  have hp := Pure.SectFormats x0 x1 x2 w0 w1 (s1 (weights_each hsz (j := 1) rfl rfl)) w2
  refine (f11_ok W (OldIm W) [_, _, _] (x0, x1, x2, ()) [] ((true, ()), ()) (fun k h => h) ⟨_, _, [.int .i64 x0], rfl, rfl, ⟨rfl, rfl⟩, ⟨_, _, _, rfl, rfl, kk1, ⟨_, _, [.int .i64 x2], rfl, rfl, ⟨rfl, rfl⟩, ⟨rfl, rfl⟩⟩⟩⟩ (by intro p hp; cases hp) (by simp [keys]) (by simp [keys]) hp).mono ?_
  rintro e W' ⟨us, ImN, g1, g2, rfl, hres, hout, _, _, _, _, _, hkeep⟩
  obtain ⟨u, us', cs, f1, f2, rfl, _, hpk, ⟨hcs, _⟩, hrest⟩ := hres
  obtain ⟨rfl, _⟩ := hrest
  have hpk : cs = [u] := hpk
  subst hpk
  simp only [List.cons.injEq, and_true] at hcs
  subst hcs
  have bel : Below W.heap.size W W' := ⟨hkeep.os, hkeep.tape, hkeep.output, hkeep.size, fun k hk => hkeep.block k hk (by simp [keys])⟩
  exact ⟨_, rfl, _, _, _, [], _, [], hW', trodAll_mk1 (shut_bool Try.underlying4 _), (trodAll_cons_mk (shut_int Try.underlying3 w0) (trodAll_cons_mk (Below.trod laidOut (by kernel_rfl) (of_decide_eq_true (by kernel_rfl)) k1 bel lt1) (trodAll_cons_mk (shut_int Try.underlying3 w2) trodAll_mk0))), rfl, bel.frame _, fun h => by cases h⟩
set_option maxRecDepth 100000 in
theorem lifted (os : Os) (started : os.Started) (H : Type) (enc : TypeId × Value → H) :
    ReturnsInHanded {} Try.checked os 11 .any (Rows.sectFormatsSpec.pre6 enc Try.prog Try.f11 Rows.sectFormatsRow.domain false) (Rows.sectFormatsSpec.post enc Try.prog Try.f11 false true false false) := by
  refine returnsInHanded_of_change_sized (C := Try.checked) own started (by kernel_rfl) Try.func11
    (ChangeSpec.witness6 (enc := enc) (C := Try.checked) false ⟨#[], #[.int .i64 0, .slice none 0 0, .int .i64 0], []⟩ 8 (by kernel_rfl) (by kernel_rfl) (by kernel_rfl) (by kernel_rfl)) ?_
  intro W base args ds gs before hval hW hcnd hsz _
  exact contract H enc W base args ds gs before hval hW hsz
theorem over : Rows.sectFormatsRow.holds Try.pinned (OpenSpec.ofChange Rows.sectFormatsSpec) :=
  OpenClaim.holds_of_wide 11 Try.f11 rfl rfl rfl rfl rfl rfl rfl ⟨rfl, rfl, rfl, rfl, rfl⟩ rfl rfl rfl rfl rfl (by kernel_rfl) Try.func11 (by kernel_rfl)
    (of_decide_eq_true (by kernel_rfl)) (by unfold Func.isWrapper; first | (rw [if_pos (by decide +kernel)]; kernel_rfl) | (rw [if_neg (by decide +kernel)]; exact ⟨rfl, rfl⟩))
    (fun os started H enc _ => lifted os started H enc)
theorem proved : Rows.SectFormatsSaid := over
#print axioms proved
end Go.Proofs.Ytlgbhaigpecdoaa.V.sectFormats
namespace Go.Proofs.Ytlgbhaigpecdoaa
/-- The row, under a short name, for the claim. -/
theorem sectFormats_holds : Rows.SectFormatsSaid := V.sectFormats.proved
end Go.Proofs.Ytlgbhaigpecdoaa
