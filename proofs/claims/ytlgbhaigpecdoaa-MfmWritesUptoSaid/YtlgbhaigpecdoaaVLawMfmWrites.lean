/-
  The row of the law bakelite/bakelaw2.MfmWrites: MfmWritesUptoSaid, out of its pure statement and the run of its text. For arguments that together hold at most 1048576 values and letters.
-/
import Derived.Test.YtlgbhaigpecdoaaRows
import Derived.Test.YtlgbhaigpecdoaaVPureMfmWrites
import Derived.Test.YtlgbhaigpecdoaaVOpen
import Derived.WalkKit
import Derived.ProofKit
import Derived.OpenShut
import Derived.ShutString
import Derived.ChangeOld
import Derived.Below
import Derived.SizedLaws
import Derived.JoinedCond
import Derived.KernelRfl
namespace Go.Proofs.Ytlgbhaigpecdoaa.V.mfmWrites
open Go Go.ChangeShapes Go.WideShapes Go.ChangeAt Go.RowKit
open Go.ChangeMaps (open_string shut_string)
set_option linter.unusedVariables false
set_option linter.unusedSimpArgs false
theorem own : ownKnob Try.prog.godebug = none := by kernel_rfl
theorem laidOut : laidOutB Try.prog = true := by kernel_rfl
theorem weights_each {H : Type} {P : Program} {ts : List TypeId} {ds : List (DataW H)} (h : (DataW.weightsEach P ts ds).all (· ≤ reachBytes) = true) {j : Nat} {t : TypeId} {d : DataW H} (ht : ts[j]? = some t) (hd : ds[j]? = some d) : (d.weights P t).all (· ≤ reachBytes) = true := by
  rw [List.all_eq_true] at h ⊢
  exact fun x hx => h x (DataW.weights_mem_each ht hd x hx)
set_option maxRecDepth 100000 in
theorem opens0 (W : World) : Opens Try.prog W 41 (.slc (.pair .bool (.pair (.slc (.int .u8)) .unit))) (fun x => ∀ y0 ∈ x, ((True) ∧ ((∀ y1 ∈ y0.2.1, ((Lit.int .u8 y1).wf = true)) ∧ (True)))) (fun x => List.length x * Try.prog.bytesOf 53 ≤ 140737488351232 ∧ ∀ y0 ∈ x, ((True) ∧ ((List.length y0.2.1 * Try.prog.bytesOf 5 ≤ 140737488351232 ∧ ∀ y1 ∈ y0.2.1, (True)) ∧ (True)))) (fun x => List.length x ≤ 1048576 ∧ ∀ y0 ∈ x, ((True) ∧ ((List.length y0.2.1 ≤ 1048576 ∧ ∀ y1 ∈ y0.2.1, (True)) ∧ (True)))) := opens_slice Try.underlying41 (by kernel_rfl) (opens_struct Try.underlying53 (by kernel_rfl) (opensF_cons rfl (opens_bool Try.underlying4 (by kernel_rfl)) (opensF_cons rfl (opens_slice Try.underlying25 (by kernel_rfl) (opens_int Try.underlying5 (by kernel_rfl)) (of_decide_eq_true (by kernel_rfl))) opensF_nil))) (of_decide_eq_true (by kernel_rfl))
set_option maxRecDepth 100000 in
theorem opens1 (W : World) : Opens Try.prog W 43 (.slc (.int .i64)) (fun x => ∀ y0 ∈ x, ((Lit.int .i64 y0).wf = true)) (fun x => List.length x * Try.prog.bytesOf 3 ≤ 140737488351232 ∧ ∀ y0 ∈ x, (True)) (fun x => List.length x ≤ 1048576 ∧ ∀ y0 ∈ x, (True)) := opens_slice Try.underlying43 (by kernel_rfl) (opens_int Try.underlying3 (by kernel_rfl)) (of_decide_eq_true (by kernel_rfl))
set_option maxRecDepth 100000 in
theorem contract (H : Type) (enc : TypeId × Value → H) (W : World) (base : Nat) (args : Array Value) (ds gs : List (DataW H)) (before : List MemPlace)
    (hval0 : ∀ (j : Nat) t v, Try.f4.params[j]? = some t → args[j]? = some v → Value.okWide Try.prog W .any base t v)
    (hW : DataW.Whole enc Try.prog Try.f4.params.toList Rows.mfmWritesSpec.vars false W args.toList ds gs before) (hk : Rows.uptoSmall H (ds ++ gs) = true) :
    Calls Try.prog 4 args W fun e W' => ∃ v, e = .returned v ∧ Rows.mfmWritesSpec.post enc Try.prog Try.f4 false true false false W args v W' := by
  have hval : ∀ (j : Nat) t v, Try.f4.params[j]? = some t → args[j]? = some v → Value.okWide Try.prog W .any base t v := hval0
  have hW' := hW
  obtain ⟨p, q, hA0, hV, rfl, hfz, hnd⟩ := hW
  have hA : DataW.TrodAll enc Try.prog W 0 (fun _ => true) true Try.f4.params.toList args.toList ds p := hA0
  rw [Try.params4] at hA hval
  obtain ⟨v0, vs0, d0, ds0, p0, q0, hargs, rfl, rfl, h0, r0⟩ := trodAll_cons hA
  obtain ⟨v1, vs1, d1, ds1, p1, q1, rfl, rfl, rfl, h1, r1⟩ := trodAll_cons r0
  obtain ⟨v2, vs2, d2, ds2, p2, q2, rfl, rfl, rfl, h2, r2⟩ := trodAll_cons r1
  obtain ⟨rfl, rfl, rfl⟩ := trodAll_nil r2
  obtain rfl : args = #[v0, v1, v2] := by cases args; simp_all
  obtain ⟨rfl, rfl⟩ := trodVars_none hV
  have hb : Rows.uptoBulkAll ([d0, d1, d2]) ≤ 1048576 := of_decide_eq_true (by simpa only [Rows.uptoSmall, List.append_nil] using hk)
  simp only [Rows.uptoBulkAll] at hb
  obtain ⟨a0, len0, cap0, rfl⟩ := okWide_slice Try.underlying41 (hval 0 41 v0 rfl rfl)
  have k0 := h0
  have lt0 : ∀ x ∈ p0, x.block < W.heap.size := by obtain ⟨m, hm⟩ := k0; exact DataW.trod_lt m _ _ _ hm
  obtain ⟨m0, hm0⟩ := h0
  obtain ⟨x0, kk0, w0, s0, u0⟩ := (opens0 W).2 H enc m0 _ _ _ hm0
  obtain ⟨a1, len1, cap1, rfl⟩ := okWide_slice Try.underlying43 (hval 1 43 v1 rfl rfl)
  have k1 := h1
  have lt1 : ∀ x ∈ p1, x.block < W.heap.size := by obtain ⟨m, hm⟩ := k1; exact DataW.trod_lt m _ _ _ hm
  obtain ⟨m1, hm1⟩ := h1
  obtain ⟨x1, kk1, w1, s1, u1⟩ := (opens1 W).2 H enc m1 _ _ _ hm1
  obtain ⟨x2, rfl, rfl, rfl, w2⟩ := open_int Try.underlying3 (hval 2 3 v2 rfl rfl) h2
  clear hA0 hval0
  have hp := Pure.MfmWrites x0 x1 x2 w0 (u0 (by omega)) w1 (u1 (by omega)) w2
  refine (f4_ok W (OldIm W) [_, _, _] (x0, x1, x2, ()) [] ((true, ()), ()) (fun k h => h) ⟨_, _, _, rfl, rfl, kk0, ⟨_, _, _, rfl, rfl, kk1, ⟨_, _, [.int .i64 x2], rfl, rfl, ⟨rfl, rfl⟩, ⟨rfl, rfl⟩⟩⟩⟩ (by intro p hp; cases hp) (by simp [keys]) (by simp [keys]) hp).mono ?_
  rintro e W' ⟨us, ImN, g1, g2, rfl, hres, hout, _, _, _, _, _, hkeep⟩
  obtain ⟨u, us', cs, f1, f2, rfl, _, hpk, ⟨hcs, _⟩, hrest⟩ := hres
  obtain ⟨rfl, _⟩ := hrest
  have hpk : cs = [u] := hpk
  subst hpk
  simp only [List.cons.injEq, and_true] at hcs
  subst hcs
  have bel : Below W.heap.size W W' := ⟨hkeep.os, hkeep.tape, hkeep.output, hkeep.size, fun k hk => hkeep.block k hk (by simp [keys])⟩
  exact ⟨_, rfl, _, _, _, [], _, [], hW', trodAll_mk1 (shut_bool Try.underlying4 _), (trodAll_cons_mk (Below.trod laidOut (by kernel_rfl) (of_decide_eq_true (by kernel_rfl)) k0 bel lt0) (trodAll_cons_mk (Below.trod laidOut (by kernel_rfl) (of_decide_eq_true (by kernel_rfl)) k1 bel lt1) (trodAll_cons_mk (shut_int Try.underlying3 w2) trodAll_mk0))), rfl, bel.frame _, fun h => by cases h⟩
set_option maxRecDepth 100000 in
theorem lifted (os : Os) (started : os.Started) (H : Type) (enc : TypeId × Value → H) (F : Stop.Interp) :
    ReturnsInHanded {} Try.checked os 4 .any ((Rows.OpenSpec.upto Rows.mfmWritesSpec).pre6 enc Try.prog Try.f4 Rows.mfmWritesUptoRow.domain false) (((Rows.OpenSpec.upto Rows.mfmWritesSpec).at F).post enc Try.prog Try.f4 false true false false) := by
  refine returnsInHanded_of_cond (C := Try.checked) (s := Rows.OpenSpec.upto Rows.mfmWritesSpec) (k := Rows.uptoSmall) rfl own started (by kernel_rfl) Try.func4
    (OpenSpec.witness (enc := enc) (C := Try.checked) (s := Rows.OpenSpec.upto Rows.mfmWritesSpec) (k := Rows.uptoSmall) rfl false ⟨#[], #[.slice none 0 0, .slice none 0 0, .int .i64 0], []⟩ 8 (by kernel_rfl) (by kernel_rfl) (by kernel_rfl)
      (x := ([.nil, .nil, .lit (.int .i64 0)], [], [])) (by kernel_rfl) rfl (by kernel_rfl)) ?_
  intro W base args ds gs before hval hW _ hk _
  exact contract H enc W base args ds gs before hval hW hk
theorem over : Rows.mfmWritesUptoRow.holds Try.pinned (Rows.OpenSpec.upto Rows.mfmWritesSpec) :=
  OpenClaim.holds_of_cond 4 Try.f4 rfl rfl rfl rfl rfl rfl rfl ⟨rfl, rfl, rfl, rfl, rfl⟩ rfl rfl rfl rfl rfl (by kernel_rfl) Try.func4 (by kernel_rfl)
    (of_decide_eq_true (by kernel_rfl)) (by unfold Func.isWrapper; first | (rw [if_pos (by decide +kernel)]; kernel_rfl) | (rw [if_neg (by decide +kernel)]; exact ⟨rfl, rfl⟩))
    (fun os started H enc _ F => lifted os started H enc F)
theorem proved : Rows.MfmWritesUptoSaid := over
#print axioms proved
end Go.Proofs.Ytlgbhaigpecdoaa.V.mfmWrites
namespace Go.Proofs.Ytlgbhaigpecdoaa
/-- The row, under a short name, for the claim. -/
theorem mfmWrites_holds : Rows.MfmWritesUptoSaid := V.mfmWrites.proved
end Go.Proofs.Ytlgbhaigpecdoaa
