-- Written by this session's own program (wip/mp, over the kit's print) for this claim; Lean checks it.
import Derived.Test.YtmedmifkeliepaaPFiveMulsx0
namespace Go.Proofs.Ytmedmifkeliepaa.PFiveMuls
open Go.RowKit Go.Proofs.YtmedmifkeliepaaW.PrintWords Go.Proofs.YtmedmifkeliepaaW.PrintLast Go.Proofs.YtmedmifkeliepaaW.PrintMore
attribute [local go_sem] max2_int min2_int max_two min_two max_three min_three max_four min_four   -- for this text's walks alone
set_option linter.unusedVariables false
set_option linter.unusedSimpArgs false

theorem eqi_cons_36 {P : Program} {d : Nat} {e : TypeId} {c : Nat} {xs ys : Array Value} {i : Nat} {is : List Nat} {a b : Value} {r s : Bool} {w : World} (ha : (part e xs (i * c)).run P w = .ok a w) (hb : (part e ys (i * c)).run P w = .ok b w) (he : (Op.equalIn d e a b).run P w = .ok r w) (hr : (Go.Op.eqItems d e c xs ys is).run P w = .ok s w) : (Go.Op.eqItems d e c xs ys (i :: is)).run P w = .ok (r && s) w := by
  simp only [Op.eqItems, Sem.run_bind, ha, hb, he, Result.andThen_ok]
  cases r
  · simp
  · simpa using hr
theorem eqi_last_36 {P : Program} {d : Nat} {e : TypeId} {c : Nat} {xs ys : Array Value} {i : Nat} {a b : Value} {r : Bool} {w : World} (ha : (part e xs (i * c)).run P w = .ok a w) (hb : (part e ys (i * c)).run P w = .ok b w) (he : (Op.equalIn d e a b).run P w = .ok r w) : (Go.Op.eqItems d e c xs ys [i]).run P w = .ok r w := by
  have h := eqi_cons_36 (s := true) ha hb he (is := []) (by simp [Op.eqItems])
  rwa [Bool.and_true] at h
theorem eqA36 (d : Nat) (w : World) (x0 y0 : Int) (x1 y1 : Int) (x2 y2 : Int) (x3 y3 : Int) (x4 y4 : Int) :
    (Op.equalIn (d + 2) 36 (.agg #[.int .u8 x0, .int .u8 x1, .int .u8 x2, .int .u8 x3, .int .u8 x4]) (.agg #[.int .u8 y0, .int .u8 y1, .int .u8 y2, .int .u8 y3, .int .u8 y4])).run Try.prog w = .ok (x0 == y0 && (x1 == y1 && (x2 == y2 && (x3 == y3 && (x4 == y4))))) w := by
  obtain ⟨i, hi⟩ := Option.isSome_iff_exists.mp (by kernel_rfl : (Try.prog.info? 5).isSome = true)
  rw [run_equalIn_array w (d + 1) _ _ Try.underlying36 hi, (by kernel_rfl : Try.prog.cellsOf 5 = 1)]
  refine eqi_cons_36 (i := 0) (by go_simp; rfl) (by go_simp; rfl) (by go_simp) ?_
  refine eqi_cons_36 (i := 1) (by go_simp; rfl) (by go_simp; rfl) (by go_simp) ?_
  refine eqi_cons_36 (i := 2) (by go_simp; rfl) (by go_simp; rfl) (by go_simp) ?_
  refine eqi_cons_36 (i := 3) (by go_simp; rfl) (by go_simp; rfl) (by go_simp) ?_
  exact eqi_last_36 (i := 4) (by go_simp; rfl) (by go_simp; rfl) (by go_simp)
end Go.Proofs.Ytmedmifkeliepaa.PFiveMuls
