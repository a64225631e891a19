/-
  The row of the law bakelite/bakelaw2.ObjLinks: ObjLinksUptoSaid, out of its pure statement and the run of its text. For arguments that together hold at most 1048576 values and letters.
-/
import Derived.Test.YtmfjebpdkgbggaaDoorRows
import Derived.Test.YtmfjebpdkgbggaaDoorCards
import Derived.Test.YtmfjebpdkgbggaaDoorTie
import Derived.SevenTiedAt
import Derived.Test.YtmfjebpdkgbggaaDoorVPureObjLinks
import Derived.Test.YtmfjebpdkgbggaaDoorVOpen
import Derived.WalkKit
import Derived.ProofKit
import Derived.OpenShut
import Derived.ShutString
import Derived.ChangeOld
import Derived.Below
import Derived.SizedLaws
import Derived.JoinedCond
import Derived.KernelRfl
import Derived.Deep.DeepHandedRow
import Derived.Stop.Joined
import Derived.LaidMore
namespace Go.Proofs.YtmfjebpdkgbggaaDoor.V.objLinks
open Go Go.ChangeShapes Go.WideShapes Go.ChangeAt Go.RowKit
open Go.ChangeMaps (open_string shut_string)
set_option linter.unusedVariables false
set_option linter.unusedSimpArgs false
theorem own : ownKnob Tryd.prog.godebug = none := by kernel_rfl
theorem laidOut : laidOutB Tryd.prog = true := by kernel_rfl
set_option maxRecDepth 100000 in
theorem opens0 (W : World) : Opens Tryd.prog W 22 (.slc (.pair .str (.pair (.slc (.int .u8)) (.pair (.slc (.pair .str (.pair (.int .i64) .unit))) (.pair (.slc (.pair (.int .i64) (.pair (.int .i64) (.pair .str (.pair (.int .i64) .unit))))) .unit))))) (fun x => ∀ y0 ∈ x, ((y0.1.size ≤ maxLen) ∧ ((∀ y1 ∈ y0.2.1, ((Lit.int .u8 y1).wf = true)) ∧ ((∀ y1 ∈ y0.2.2.1, ((y1.1.size ≤ maxLen) ∧ (((Lit.int .i64 y1.2.1).wf = true) ∧ (True)))) ∧ ((∀ y1 ∈ y0.2.2.2.1, (((Lit.int .i64 y1.1).wf = true) ∧ (((Lit.int .i64 y1.2.1).wf = true) ∧ ((y1.2.2.1.size ≤ maxLen) ∧ (((Lit.int .i64 y1.2.2.2.1).wf = true) ∧ (True)))))) ∧ (True)))))) (fun x => List.length x * Tryd.prog.bytesOf 29 ≤ 140737488351232 ∧ ∀ y0 ∈ x, ((y0.1.size ≤ 140737488351232) ∧ ((List.length y0.2.1 * Tryd.prog.bytesOf 5 ≤ 140737488351232 ∧ ∀ y1 ∈ y0.2.1, (True)) ∧ ((List.length y0.2.2.1 * Tryd.prog.bytesOf 33 ≤ 140737488351232 ∧ ∀ y1 ∈ y0.2.2.1, ((y1.1.size ≤ 140737488351232) ∧ ((True) ∧ (True)))) ∧ ((List.length y0.2.2.2.1 * Tryd.prog.bytesOf 35 ≤ 140737488351232 ∧ ∀ y1 ∈ y0.2.2.2.1, ((True) ∧ ((True) ∧ ((y1.2.2.1.size ≤ 140737488351232) ∧ ((True) ∧ (True)))))) ∧ (True)))))) (fun x => List.length x ≤ 1048576 ∧ ∀ y0 ∈ x, ((y0.1.size ≤ 1048576) ∧ ((List.length y0.2.1 ≤ 1048576 ∧ ∀ y1 ∈ y0.2.1, (True)) ∧ ((List.length y0.2.2.1 ≤ 1048576 ∧ ∀ y1 ∈ y0.2.2.1, ((y1.1.size ≤ 1048576) ∧ ((True) ∧ (True)))) ∧ ((List.length y0.2.2.2.1 ≤ 1048576 ∧ ∀ y1 ∈ y0.2.2.2.1, ((True) ∧ ((True) ∧ ((y1.2.2.1.size ≤ 1048576) ∧ ((True) ∧ (True)))))) ∧ (True)))))) := opens_slice Tryd.underlying22 (by kernel_rfl) (opens_struct Tryd.underlying29 (by kernel_rfl) (opensF_cons rfl (opens_string Tryd.underlying9 (by kernel_rfl)) (opensF_cons rfl (opens_slice Tryd.underlying25 (by kernel_rfl) (opens_int Tryd.underlying5 (by kernel_rfl)) (of_decide_eq_true (by kernel_rfl))) (opensF_cons rfl (opens_slice Tryd.underlying26 (by kernel_rfl) (opens_struct Tryd.underlying33 (by kernel_rfl) (opensF_cons rfl (opens_string Tryd.underlying9 (by kernel_rfl)) (opensF_cons rfl (opens_int Tryd.underlying3 (by kernel_rfl)) opensF_nil))) (of_decide_eq_true (by kernel_rfl))) (opensF_cons rfl (opens_slice Tryd.underlying27 (by kernel_rfl) (opens_struct Tryd.underlying35 (by kernel_rfl) (opensF_cons rfl (opens_int Tryd.underlying3 (by kernel_rfl)) (opensF_cons rfl (opens_int Tryd.underlying3 (by kernel_rfl)) (opensF_cons rfl (opens_string Tryd.underlying9 (by kernel_rfl)) (opensF_cons rfl (opens_int Tryd.underlying3 (by kernel_rfl)) opensF_nil))))) (of_decide_eq_true (by kernel_rfl))) opensF_nil))))) (of_decide_eq_true (by kernel_rfl))
set_option maxRecDepth 100000 in
theorem contract (H : Type) (enc : TypeId × Value → H) (W : World) (base : Nat) (args : Array Value) (ds gs : List (DataW H)) (before : List MemPlace)
    (hval0 : ∀ (j : Nat) t v, Tryd.f3.params[j]? = some t → args[j]? = some v → Value.okWide Tryd.prog W .any base t v)
    (hW : DataW.Whole enc Tryd.prog Tryd.f3.params.toList Rows.objLinksSpec.vars false W args.toList ds gs before) (hk : Rows.uptoSmall H (ds ++ gs) = true) :
    Calls Tryd.prog 3 args W fun e W' => ∃ v, e = .returned v ∧ Rows.objLinksSpec.post enc Tryd.prog Tryd.f3 false true false false W args v W' := by
  have hval : ∀ (j : Nat) t v, Tryd.f3.params[j]? = some t → args[j]? = some v → Value.okWide Tryd.prog W .any base t v := hval0
  have hW' := hW
  obtain ⟨p, q, hA0, hV, rfl, hfz, hnd⟩ := hW
  have hA : DataW.TrodAll enc Tryd.prog W 0 (fun _ => true) true Tryd.f3.params.toList args.toList ds p := hA0
  rw [Tryd.params3] at hA hval
  obtain ⟨v0, vs0, d0, ds0, p0, q0, hargs, rfl, rfl, h0, r0⟩ := trodAll_cons hA
  obtain ⟨v1, vs1, d1, ds1, p1, q1, rfl, rfl, rfl, h1, r1⟩ := trodAll_cons r0
  obtain ⟨rfl, rfl, rfl⟩ := trodAll_nil r1
  obtain rfl : args = #[v0, v1] := by cases args; simp_all
  obtain ⟨rfl, rfl⟩ := trodVars_none hV
  have hb : Rows.uptoBulkAll ([d0, d1]) ≤ 1048576 := of_decide_eq_true (by simpa only [Rows.uptoSmall, List.append_nil] using hk)
  simp only [Rows.uptoBulkAll] at hb
  obtain ⟨a0, len0, cap0, rfl⟩ := okWide_slice Tryd.underlying22 (hval 0 22 v0 rfl rfl)
  have k0 := h0
  have lt0 : ∀ x ∈ p0, x.block < W.heap.size := by obtain ⟨m, hm⟩ := k0; exact DataW.trod_lt m _ _ _ hm
  obtain ⟨m0, hm0⟩ := h0
  obtain ⟨x0, kk0, w0, s0, u0⟩ := (opens0 W).2 H enc m0 _ _ _ hm0
  obtain ⟨x1, rfl, rfl, rfl, w1⟩ := open_int Tryd.underlying3 (hval 1 3 v1 rfl rfl) h1
  clear hA0 hval0
  have hp := Pure.ObjLinks x0 x1 w0 (u0 (by omega)) w1
  refine (f3_ok W (OldIm W) [_, _] (x0, x1, ()) [] ((true, ()), ()) (fun k h => h) ⟨_, _, _, rfl, rfl, kk0, ⟨_, _, [.int .i64 x1], rfl, rfl, ⟨rfl, rfl⟩, ⟨rfl, rfl⟩⟩⟩ (by intro p hp; cases hp) (by simp [keys]) (by simp [keys]) hp).mono ?_
  rintro e W' ⟨us, ImN, g1, g2, rfl, hres, hout, _, _, _, _, _, hkeep⟩
  have hres := (hres.resolve_right (fun h => Bool.false_ne_true h.1)).2
  obtain ⟨u, us', cs, f1, f2, rfl, _, hpk, ⟨hcs, _⟩, hrest⟩ := hres
  obtain ⟨rfl, _⟩ := hrest
  have hpk : cs = [u] := hpk
  subst hpk
  simp only [List.cons.injEq, and_true] at hcs
  subst hcs
  have bel : Below W.heap.size W W' := ⟨hkeep.os, hkeep.tape, hkeep.output, hkeep.size, fun k hk => hkeep.block k hk (by simp [keys])⟩
  exact ⟨_, rfl, _, _, _, [], _, [], hW', trodAll_mk1 (shut_bool Tryd.underlying4 _), (trodAll_cons_mk (Below.trod laidOut (by kernel_rfl) (of_decide_eq_true (by kernel_rfl)) k0 bel lt0) (trodAll_cons_mk (shut_int Tryd.underlying3 w1) trodAll_mk0)), rfl, bel.frame _, fun h => by cases h⟩
set_option maxRecDepth 100000 in
theorem lifted (os : Os) (started : os.Started) (H : Type) (enc : TypeId × Value → H) (F : Stop.Interp) :
    ReturnsInHanded {} Tryd.checked os 3 .any ((Rows.OpenSpec.upto Rows.objLinksSpec).preRow enc Tryd.prog Tryd.f3 Rows.objLinksUptoRow.domain false Rows.objLinksUptoRow.laid) (((Rows.OpenSpec.upto Rows.objLinksSpec).at F).post enc Tryd.prog Tryd.f3 false true false false) := by
  refine returnsInHanded_of_row (C := Tryd.checked) (s := Rows.OpenSpec.upto Rows.objLinksSpec) (laid := Rows.objLinksUptoRow.laid) own started (by kernel_rfl) Tryd.func3
    (witness_row_at (enc := enc) (C := Tryd.checked) (s := Rows.OpenSpec.upto Rows.objLinksSpec) (laid := Rows.objLinksUptoRow.laid) false (World.doorLaid Tryd.prog 400 os) #[.slice none 0 0, .int .i64 0] rfl (by kernel_rfl) (by kernel_rfl) (by kernel_rfl)
      (OpenSpec.preRow_of_cond 8 (x := ([.nil, .lit (.int .i64 0)], [], [])) (by kernel_rfl) (by kernel_rfl) (fun k hk => by cases hk; kernel_rfl) (by kernel_rfl)
        (laidMetH_of_parts3 (fuel := 8) (laidMet_of_run' 8 (by kernel_rfl) (by kernel_rfl)) (by kernel_rfl) (by kernel_rfl)))) ?_
  intro W base args ds gs before hval hW _ hk _ _ _ _
  exact contract H enc W base args ds gs before hval hW (hk _ rfl)
theorem over : Rows.objLinksUptoRow.holds Tryd.pinned (Rows.OpenSpec.upto Rows.objLinksSpec) :=
  OpenClaim.holds_of_cond 3 Tryd.f3 rfl rfl rfl rfl rfl rfl rfl ⟨rfl, rfl, rfl, rfl, rfl⟩ rfl rfl rfl rfl rfl (by kernel_rfl) Tryd.func3 (by kernel_rfl)
    (of_decide_eq_true (by kernel_rfl)) (by unfold Func.isWrapper; first | (rw [if_pos (by decide +kernel)]; kernel_rfl) | (rw [if_neg (by decide +kernel)]; exact ⟨rfl, rfl⟩))
    (fun os started H enc _ F => by rw [OpenClaim.pre_eq_preRow]; exact lifted os started H enc F)
theorem proved : Rows.ObjLinksUptoSaid := over
set_option maxRecDepth 100000 in
theorem card : Rows.ObjLinksUptoCardSaid :=
  Claim7.holds_tied_plain_at .later [] [.data, .data, .data] true (true, "852e5b788af0ac579accfee2c71533198635fd1c5bec8457b168ce24f77dfb64") false
    proved (fun _ h => by cases h) (by kernel_rfl) (fun _ h => by cases h) objLinksUpto_row_tie rfl ⟨rfl, rfl⟩ (by kernel_rfl) rfl
    (fun f fn hf hfn => by
      obtain rfl : f = 3 := Option.some.inj ((show Tryd.prog.funcNamed "bakelite/bakelaw2.ObjLinks" = some 3 by kernel_rfl).symm.trans hf) |>.symm
      obtain rfl : fn = Tryd.f3 := (Option.some.inj (Tryd.func3.symm.trans hfn)).symm
      exact ⟨by kernel_rfl, fun j t ht => by
        rw [Tryd.params3] at ht
        have key : ∀ (j : Nat) (t : TypeId), (#[22, 3] : Array TypeId)[j]? = some t → Tryd.prog.wantsStandIn t = false := fun j t ht => by
          have hall : (#[22, 3] : Array TypeId).toList.all (fun t => !Tryd.prog.wantsStandIn t) = true := by kernel_rfl
          have ht' : ([22, 3] : List TypeId)[j]? = some t := by simpa using ht
          have := (List.all_eq_true.1 hall) t (List.mem_of_getElem? (l := ([22, 3] : List TypeId)) (i := j) ht')
          simpa using this
        exact key j t ht⟩)
    (by kernel_rfl)
#print axioms card
end Go.Proofs.YtmfjebpdkgbggaaDoor.V.objLinks
namespace Go.Proofs.YtmfjebpdkgbggaaDoor
theorem objLinks_holds : Rows.ObjLinksUptoCardSaid := V.objLinks.card
end Go.Proofs.YtmfjebpdkgbggaaDoor
