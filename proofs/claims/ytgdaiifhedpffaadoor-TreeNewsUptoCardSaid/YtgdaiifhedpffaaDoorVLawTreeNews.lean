/-
  The row of the law bakelite/bakelaw2.TreeNews: TreeNewsUptoSaid, out of its pure statement and the run of its text. For arguments that together hold at most 1048576 values and letters.
-/
import Derived.Test.YtgdaiifhedpffaaDoorRows
import Derived.Test.YtgdaiifhedpffaaDoorCards
import Derived.Test.YtgdaiifhedpffaaDoorTie
import Derived.SevenTiedAt
import Derived.Test.YtgdaiifhedpffaaDoorVPureTreeNews
import Derived.Test.YtgdaiifhedpffaaDoorVOpen
import Derived.WalkKit
import Derived.ProofKit
import Derived.OpenShut
import Derived.ShutString
import Derived.ChangeOld
import Derived.Below
import Derived.SizedLaws
import Derived.JoinedCond
import Derived.KernelRfl
import Derived.Deep.DeepHandedRow
import Derived.Stop.Joined
import Derived.LaidMore
namespace Go.Proofs.YtgdaiifhedpffaaDoor.V.treeNews
open Go Go.ChangeShapes Go.WideShapes Go.ChangeAt Go.RowKit
open Go.ChangeMaps (open_string shut_string)
set_option linter.unusedVariables false
set_option linter.unusedSimpArgs false
theorem own : ownKnob Tryd.prog.godebug = none := by kernel_rfl
set_option maxRecDepth 100000 in
theorem contract (H : Type) (enc : TypeId × Value → H) (W : World) (base : Nat) (args : Array Value) (ds gs : List (DataW H)) (before : List MemPlace)
    (hval0 : ∀ (j : Nat) t v, Tryd.f3.params[j]? = some t → args[j]? = some v → Value.okWide Tryd.prog W .any base t v)
    (hW : DataW.Whole enc Tryd.prog Tryd.f3.params.toList Rows.treeNewsSpec.vars false W args.toList ds gs before) (hk : Rows.uptoSmall H (ds ++ gs) = true) :
    Calls Tryd.prog 3 args W fun e W' => ∃ v, e = .returned v ∧ Rows.treeNewsSpec.post enc Tryd.prog Tryd.f3 false true false false W args v W' := by
  have hval : ∀ (j : Nat) t v, Tryd.f3.params[j]? = some t → args[j]? = some v → Value.okWide Tryd.prog W .any base t v := hval0
  have hW' := hW
  obtain ⟨p, q, hA0, hV, rfl, hfz, hnd⟩ := hW
  have hA : DataW.TrodAll enc Tryd.prog W 0 (fun _ => true) true Tryd.f3.params.toList args.toList ds p := hA0
  rw [Tryd.params3] at hA hval
  obtain ⟨v0, vs0, d0, ds0, p0, q0, hargs, rfl, rfl, h0, r0⟩ := trodAll_cons hA
  obtain ⟨v1, vs1, d1, ds1, p1, q1, rfl, rfl, rfl, h1, r1⟩ := trodAll_cons r0
  obtain ⟨v2, vs2, d2, ds2, p2, q2, rfl, rfl, rfl, h2, r2⟩ := trodAll_cons r1
  obtain ⟨rfl, rfl, rfl⟩ := trodAll_nil r2
  obtain rfl : args = #[v0, v1, v2] := by cases args; simp_all
  obtain ⟨rfl, rfl⟩ := trodVars_none hV
  have hb : Rows.uptoBulkAll ([d0, d1, d2]) ≤ 1048576 := of_decide_eq_true (by simpa only [Rows.uptoSmall, List.append_nil] using hk)
  simp only [Rows.uptoBulkAll] at hb
  obtain ⟨x0, rfl, rfl, rfl, y0⟩ := open_string Tryd.underlying9 (hval 0 9 v0 rfl rfl) h0
  have w0 : x0.size ≤ 1048576 := by
    have z := hb
    simp only [Rows.uptoBulk, Array.length_toList] at z
    have e : x0.data.size = x0.size := rfl
    omega
  obtain ⟨x1, rfl, rfl, rfl, w1⟩ := open_int Tryd.underlying3 (hval 1 3 v1 rfl rfl) h1
  obtain ⟨x2, rfl, rfl, rfl, w2⟩ := open_int Tryd.underlying3 (hval 2 3 v2 rfl rfl) h2
  clear hA0 hval0
  have hp := Pure.TreeNews x0 x1 x2 y0 w0 w1 w2
  refine (f3_ok W (OldIm W) [_, _, _] (x0, x1, x2, ()) [] ((true, ()), ()) (fun k h => h) ⟨_, _, [.string x0], rfl, rfl, ⟨rfl, rfl⟩, ⟨_, _, [.int .i64 x1], rfl, rfl, ⟨rfl, rfl⟩, ⟨_, _, [.int .i64 x2], rfl, rfl, ⟨rfl, rfl⟩, ⟨rfl, rfl⟩⟩⟩⟩ (by intro p hp; cases hp) (by simp [keys]) (by simp [keys]) hp).mono ?_
  rintro e W' ⟨us, ImN, g1, g2, rfl, hres, hout, _, _, _, _, _, hkeep⟩
  have hres := (hres.resolve_right (fun h => Bool.false_ne_true h.1)).2
  obtain ⟨u, us', cs, f1, f2, rfl, _, hpk, ⟨hcs, _⟩, hrest⟩ := hres
  obtain ⟨rfl, _⟩ := hrest
  have hpk : cs = [u] := hpk
  subst hpk
  simp only [List.cons.injEq, and_true] at hcs
  subst hcs
  have bel : Below W.heap.size W W' := ⟨hkeep.os, hkeep.tape, hkeep.output, hkeep.size, fun k hk => hkeep.block k hk (by simp [keys])⟩
  exact ⟨_, rfl, _, _, _, [], _, [], hW', trodAll_mk1 (shut_bool Tryd.underlying4 _), (trodAll_cons_mk (shut_string Tryd.underlying9 y0) (trodAll_cons_mk (shut_int Tryd.underlying3 w1) (trodAll_cons_mk (shut_int Tryd.underlying3 w2) trodAll_mk0))), rfl, bel.frame _, fun h => by cases h⟩
noncomputable def firstId : Nat := (Tryd.prog.globalNamed "unicode/utf8.first").getD 0
noncomputable def laidWorld (os : Os) : World :=
  { World.doorLaid Tryd.prog 400 os with heap := (World.doorLaid Tryd.prog 400 os).heap.modify firstId fun
      | .cells _ t frozen => .cells (Go.Pinned.utf8FirstZ.map fun (z : Nat) => Value.int .u8 (z : Int)).toArray t frozen
      | o => o }
set_option maxRecDepth 100000 in
theorem lifted (os : Os) (started : os.Started) (H : Type) (enc : TypeId × Value → H) (F : Stop.Interp) :
    ReturnsInHanded {} Tryd.checked os 3 .any ((Rows.OpenSpec.upto Rows.treeNewsSpec).preRow enc Tryd.prog Tryd.f3 Rows.treeNewsUptoRow.domain false Rows.treeNewsUptoRow.laid) (((Rows.OpenSpec.upto Rows.treeNewsSpec).at F).post enc Tryd.prog Tryd.f3 false true false false) := by
  refine returnsInHanded_of_row (C := Tryd.checked) (s := Rows.OpenSpec.upto Rows.treeNewsSpec) (laid := Rows.treeNewsUptoRow.laid) own started (by kernel_rfl) Tryd.func3
    (witness_row_at (enc := enc) (C := Tryd.checked) (s := Rows.OpenSpec.upto Rows.treeNewsSpec) (laid := Rows.treeNewsUptoRow.laid) false (laidWorld os) #[.string ByteArray.empty, .int .i64 0, .int .i64 0] rfl (by kernel_rfl) (by kernel_rfl) (by kernel_rfl)
      (OpenSpec.preRow_of_cond 8 (x := ([.lit (.string []), .lit (.int .i64 0), .lit (.int .i64 0)], [], [])) (by kernel_rfl) (by kernel_rfl) (fun k hk => by cases hk; kernel_rfl) (by kernel_rfl)
        (laidMetH_of_parts3 (fuel := 8) (laidMet_of_run' 8 (by kernel_rfl) (by kernel_rfl)) (by kernel_rfl) (by kernel_rfl)))) ?_
  intro W base args ds gs before hval hW _ hk _ _ _ _
  exact contract H enc W base args ds gs before hval hW (hk _ rfl)
theorem over : Rows.treeNewsUptoRow.holds Tryd.pinned (Rows.OpenSpec.upto Rows.treeNewsSpec) :=
  OpenClaim.holds_of_cond 3 Tryd.f3 rfl rfl rfl rfl rfl rfl rfl ⟨rfl, rfl, rfl, rfl, rfl⟩ rfl rfl rfl rfl rfl (by kernel_rfl) Tryd.func3 (by kernel_rfl)
    (of_decide_eq_true (by kernel_rfl)) (by unfold Func.isWrapper; first | (rw [if_pos (by decide +kernel)]; kernel_rfl) | (rw [if_neg (by decide +kernel)]; exact ⟨rfl, rfl⟩))
    (fun os started H enc _ F => by rw [OpenClaim.pre_eq_preRow]; exact lifted os started H enc F)
theorem proved : Rows.TreeNewsUptoSaid := over
set_option maxRecDepth 100000 in
theorem card : Rows.TreeNewsUptoCardSaid :=
  Claim7.holds_tied_plain_at .later [] [.data, .pinned] true (true, "d9eebeacbc6455f2f588f2672a633d359c272192217e09347a63b2a3a0cb0bb1") false
    proved (fun _ h => by cases h) (by kernel_rfl) (fun _ h => by cases h) treeNewsUpto_row_tie rfl ⟨rfl, rfl⟩ (by kernel_rfl) rfl
    (fun f fn hf hfn => by
      obtain rfl : f = 3 := Option.some.inj ((show Tryd.prog.funcNamed "bakelite/bakelaw2.TreeNews" = some 3 by kernel_rfl).symm.trans hf) |>.symm
      obtain rfl : fn = Tryd.f3 := (Option.some.inj (Tryd.func3.symm.trans hfn)).symm
      exact ⟨by kernel_rfl, fun j t ht => by
        rw [Tryd.params3] at ht
        have key : ∀ (j : Nat) (t : TypeId), (#[9, 3, 3] : Array TypeId)[j]? = some t → Tryd.prog.wantsStandIn t = false := fun j t ht => by
          have hall : (#[9, 3, 3] : Array TypeId).toList.all (fun t => !Tryd.prog.wantsStandIn t) = true := by kernel_rfl
          have ht' : ([9, 3, 3] : List TypeId)[j]? = some t := by simpa using ht
          have := (List.all_eq_true.1 hall) t (List.mem_of_getElem? (l := ([9, 3, 3] : List TypeId)) (i := j) ht')
          simpa using this
        exact key j t ht⟩)
    (by kernel_rfl)
#print axioms card
end Go.Proofs.YtgdaiifhedpffaaDoor.V.treeNews
namespace Go.Proofs.YtgdaiifhedpffaaDoor
theorem treeNews_holds : Rows.TreeNewsUptoCardSaid := V.treeNews.card
end Go.Proofs.YtgdaiifhedpffaaDoor
