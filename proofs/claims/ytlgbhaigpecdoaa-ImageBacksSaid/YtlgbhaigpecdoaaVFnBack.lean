/- Printed. -/
import Derived.Test.YtlgbhaigpecdoaaVFnSect
set_option linter.unusedVariables false
set_option linter.unusedSimpArgs false
set_option maxRecDepth 100000
namespace Go.Proofs.Ytlgbhaigpecdoaa.V
open Go
noncomputable def f108_code : Code := (Try.f108.body).getD .skip
noncomputable def f108_l3_sk : SkS := ⟨32, [(0, .con (.int .i64)), (1, .con (.int .i64)), (5, .ref 192 []), (4, .con (.slc (.pair (.int .i64) (.pair (.int .i64) (.pair (.slc (.int .u8)) (.pair .bool .unit)))))), (0, .con (.int .i64)), (0, .con (.int .i64))], [(192, ⟨none, (.slc (.slc (.int .u8))), (.own .rz), none⟩)]⟩
noncomputable def f108_l3_o0 : SkS := ⟨40, [(6, .nil), (0, .con (.int .i64))], []⟩
noncomputable def f108_l3_o1 : SkS := ⟨39, [(8, .ref 192 [])], [(192, ⟨none, (.slc (.slc (.int .u8))), (.own .rz), none⟩)]⟩
noncomputable def f108_l3_outs : List Way := [⟨.ret, [], f108_l3_o0⟩, ⟨(.exit 0), [], f108_l3_o1⟩]
abbrev f108_l3_C := (Int × Int × List (Int × (Int × (List Int × (Bool × Unit)))) × Int)
abbrev f108_l3_X := (Int × List (List Int))
abbrev f108_l3_Y := (Int) ⊕ (List (List Int))
noncomputable def f108_l3_con (t : f108_l3_sk.T) : f108_l3_C := (t.1.1, t.1.2.1, t.1.2.2.1, t.1.2.2.2.1)
noncomputable def f108_l3_get (t : f108_l3_sk.T) : f108_l3_X := (t.1.2.2.2.2.1, t.2.1.1)
noncomputable def f108_l3_put (c : f108_l3_C) (x : f108_l3_X) : f108_l3_sk.T := ((c.1, (c.2.1, (c.2.2.1, (c.2.2.2, (x.1, ()))))), ((x.2, ()), ()))
theorem f108_l3_pg (t : f108_l3_sk.T) : f108_l3_put (f108_l3_con t) (f108_l3_get t) = t := by kernel_rfl
noncomputable def f108_l3_w0 (c : f108_l3_C) (y : Int) : f108_l3_o0.T := ((y, ()), ())
noncomputable def f108_l3_w1 (c : f108_l3_C) (y : List (List Int)) : f108_l3_o1.T := ((), ((y, ()), ()))
noncomputable def f108_l3_out (c : f108_l3_C) (y : f108_l3_Y) : OutV f108_l3_outs := (Sum.elim (fun y => (.inl (f108_l3_w0 c y))) (fun y => (.inr (.inl (f108_l3_w1 c y))))) y
noncomputable def f108_l3_k {R : Type} (a0 : Int) (a1 : Int) (a2 : List (Int × (Int × (List Int × (Bool × Unit))))) (a3 : Int) (a4 : Int) (a5 : List (List Int)) (kin : f108_l3_X → Option R) (k0 : Int → Option R) (k1 : List (List Int) → Option R) : Option R :=
 (cond (decide (a4 < a3))
 (if (0 : Int) ≤ a4 ∧ a4 < ((List.length a2 : Nat) : Int) then (cond ((List.getD a2 (Int.toNat a4) ((0 : Int), ((0 : Int), (([] : List Int), (false, ()))))).1 != a0)
  (k0 (3 : Int))
  (cond (decide ((List.getD a2 (Int.toNat a4) ((0 : Int), ((0 : Int), (([] : List Int), (false, ()))))).2.1 ≥ a1))
   (k0 (3 : Int))
   (cond (List.getD a2 (Int.toNat a4) ((0 : Int), ((0 : Int), (([] : List Int), (false, ()))))).2.2.2.1
    (k0 (12 : Int))
    (if (0 : Int) ≤ (List.getD a2 (Int.toNat a4) ((0 : Int), ((0 : Int), (([] : List Int), (false, ()))))).2.1 ∧ (List.getD a2 (Int.toNat a4) ((0 : Int), ((0 : Int), (([] : List Int), (false, ()))))).2.1 < ((List.length a5 : Nat) : Int) then (cond (!List.isEmpty (List.getD a5 (Int.toNat (List.getD a2 (Int.toNat a4) ((0 : Int), ((0 : Int), (([] : List Int), (false, ()))))).2.1) ([] : List Int)))
     (k0 (5 : Int))
     (if (0 : Int) ≤ (List.getD a2 (Int.toNat a4) ((0 : Int), ((0 : Int), (([] : List Int), (false, ()))))).2.1 ∧ (List.getD a2 (Int.toNat a4) ((0 : Int), ((0 : Int), (([] : List Int), (false, ()))))).2.1 < ((List.length a5 : Nat) : Int) then (if 0 < List.length (List.getD a2 (Int.toNat a4) ((0 : Int), ((0 : Int), (([] : List Int), (false, ()))))).2.2.1 then (let v0 : Int := (IntKind.i64.wrap (a4 + (1 : Int)))
      (kin (v0, (List.set a5 (Int.toNat (List.getD a2 (Int.toNat a4) ((0 : Int), ((0 : Int), (([] : List Int), (false, ()))))).2.1) (List.getD a2 (Int.toNat a4) ((0 : Int), ((0 : Int), (([] : List Int), (false, ()))))).2.2.1)))) else none) else none)) else none)))) else none)
 (k1 a5))
noncomputable def f108_l3_g (a0 : Int) (a1 : Int) (a2 : List (Int × (Int × (List Int × (Bool × Unit))))) (a3 : Int) (x : f108_l3_X) : Option (f108_l3_X ⊕ f108_l3_Y) := f108_l3_k a0 a1 a2 a3 x.1 x.2 (fun x => some (.inl x)) (fun y => some (.inr (.inl y))) (fun y => some (.inr (.inr y)))
noncomputable def f108_l3 (a0 : Int) (a1 : Int) (a2 : List (Int × (Int × (List Int × (Bool × Unit))))) (a3 : Int) (x : f108_l3_X) : Option f108_l3_Y := loopO (f108_l3_g a0 a1 a2 a3) x
noncomputable def f108_l3_nd : Node := { nils := [], sk := f108_l3_sk, outs := f108_l3_outs, Y := f108_l3_Y, L := fun t => f108_l3 ((f108_l3_con t).1) ((f108_l3_con t).2.1) ((f108_l3_con t).2.2.1) ((f108_l3_con t).2.2.2) (f108_l3_get t), out := fun t y => f108_l3_out (f108_l3_con t) y, disp := fun t y K => (Sum.elim (fun y => K .ret (f108_l3_o0.fill (f108_l3_w0 (f108_l3_con t) y))) (fun y => K (.exit 0) (f108_l3_o1.fill (f108_l3_w1 (f108_l3_con t) y)))) y }
noncomputable def f108_fx : Fx := { E := env, T := [], H := [(12, (.own .rz))], O := [], nodes := [((true, 3), f108_l3_nd)] }
noncomputable def f108_l3_b : Code := (loops f108_code).getD 0 .skip
theorem f108_l3_r (c : f108_l3_C) (x : f108_l3_X) : roundS f108_fx f108_l3_b f108_l3_nd (f108_l3_put c x) = f108_l3_k c.1 c.2.1 c.2.2.1 c.2.2.2 x.1 x.2 (fun x => some (.inl (f108_l3_put c x))) (fun y => some (.inr (.inl (f108_l3_w0 c y)))) (fun y => some (.inr (.inr (.inl (f108_l3_w1 c y))))) := by kernel_rfl
theorem f108_l3_n {R : Type} (a0 : Int) (a1 : Int) (a2 : List (Int × (Int × (List Int × (Bool × Unit))))) (a3 : Int) (a4 : Int) (a5 : List (List Int)) (kin : f108_l3_X → Option R) (k0 : Int → Option R) (k1 : List (List Int) → Option R) : f108_l3_k a0 a1 a2 a3 a4 a5 kin k0 k1 = (f108_l3_g a0 a1 a2 a3 (a4, a5)).bind (Sum.elim kin (Sum.elim k0 k1)) := by
  simp only [f108_l3_g, f108_l3_k, cond_bind, ite_bind, bind_bind, some_bind, none_bind, elim_bind, Sum.elim_inl, Sum.elim_inr]
theorem f108_l3_ok : LoopOk f108_fx f108_l3_b f108_l3_nd := loop_ok f108_l3_con f108_l3_get f108_l3_put f108_l3_pg (fun c => f108_l3_g c.1 c.2.1 c.2.2.1 c.2.2.2) f108_l3_out (fun t y => rfl) (by intro R t y K; rcases y with y | y <;> rfl) (fun c x => by
  refine (f108_l3_r c x).trans ((f108_l3_n _ _ _ _ _ _ _ _ _).trans ?_)
  first
  | rfl
  | congr 1
    funext s
    rcases s with s | s | s <;> rfl) (fun t => rfl)
noncomputable def f108_k {R : Type} (a0 : Int) (a1 : List (Int × (Int × (List Int × (Bool × Unit))))) (a2 : Int) (k : (List (List Int) × Int × Unit) × (Unit) → Option R) : Option R :=
 (if (0 : Int) ≤ a2 ∧ a2 ≤ a2 ∧ a2 * 24 ≤ (most : Int) ∧ 0 < 1 ∧ 0 < 24 then ((f108_l3 a0 a2 a1 ((List.length a1 : Nat) : Int) ((0 : Int), (List.replicate (Int.toNat a2) ([] : List Int)))).bind fun y1 =>
 ((Sum.elim (fun z2 =>
 (k (([], (z2, ())), ())))
 (fun z3 =>
 (k ((z3, ((0 : Int), ())), ())))) y1)) else none)
noncomputable def f108 (a0 : Int) (a1 : List (Int × (Int × (List Int × (Bool × Unit))))) (a2 : Int) : Option ((List (List Int) × Int × Unit) × (Unit)) := f108_k a0 a1 a2 some
noncomputable def f108_sm : Sm := ⟨[.ro (.int .i64), .ro (.slc (.pair (.int .i64) (.pair (.int .i64) (.pair (.slc (.int .u8)) (.pair .bool .unit))))), .ro (.int .i64)], [((.slc (.slc (.int .u8))), .ro), ((.int .i64), .ro)], fun x => f108 x.1 x.2.1 x.2.2.1⟩
theorem f108_m (x : ArgT [.ro (.int .i64), .ro (.slc (.pair (.int .i64) (.pair (.int .i64) (.pair (.slc (.int .u8)) (.pair .bool .unit))))), .ro (.int .i64)]) : codeS f108_fx f108_code (start [.ro (.int .i64), .ro (.slc (.pair (.int .i64) (.pair (.int .i64) (.pair (.slc (.int .u8)) (.pair .bool .unit))))), .ro (.int .i64)] [] x 48) (finK env [.tmp 6, .tmp 7] [.ro (.int .i64), .ro (.slc (.pair (.int .i64) (.pair (.int .i64) (.pair (.slc (.int .u8)) (.pair .bool .unit))))), .ro (.int .i64)] [((.slc (.slc (.int .u8))), .ro), ((.int .i64), .ro)]) = f108_k x.1 x.2.1 x.2.2.1 (fun r => some (r, [])) := by kernel_rfl
theorem f108_n {R : Type} (a0 : Int) (a1 : List (Int × (Int × (List Int × (Bool × Unit))))) (a2 : Int) (k : (List (List Int) × Int × Unit) × (Unit) → Option R) : f108_k a0 a1 a2 k = (f108 a0 a1 a2).bind k := by
  simp only [f108, f108_k, cond_bind, ite_bind, bind_bind, some_bind, none_bind, elim_bind]
theorem f108_ok : SmOk Try.prog 108 f108_sm :=
  sum_of (c := f108_fx) (fn := Try.f108) (code := f108_code) (sm := f108_sm) mixed (env_ok env_envB) (TabsOk.all trivial) Try.func108 (by kernel_rfl)
   ((LoopsOk.of (l := [f108_l3_b]) (by kernel_rfl) ⟨node_is (by kernel_rfl) f108_l3_ok, trivial⟩))
   (no_tails (by kernel_rfl))
   (fun ks x hl => by
    have hk : ks = [] := List.length_eq_zero_iff.1 hl
    subst hk
    exact (f108_m x).trans (f108_n _ _ _ _))
theorem f108_c : CalOk Try.prog 108 f108_sm := .inl ⟨f108_ok, ⟨Try.f108, Try.func108, by kernel_rfl, by kernel_rfl⟩⟩
noncomputable def f49_code : Code := (Try.f49.body).getD .skip
noncomputable def f49_t14_sk : SkS := ⟨49, [(1, .con (.int .i64)), (2, .ptr 64 []), (1, .ptr 96 []), (0, .con (.int .i64)), (1, .con (.slc (.pair (.int .i64) (.pair (.int .i64) (.pair (.slc (.int .u8)) (.pair .bool .unit)))))), (13, .con (.slc (.slc (.int .i64)))), (0, .con (.int .i64)), (0, .con (.int .i64))], [(64, ⟨some 24, (.pair (.int .i64) (.pair (.int .i64) (.pair (.slc (.slc (.int .u8))) .unit))), (.pair .ro (.pair .ro (.pair (.own .ro) .ro))), none⟩), (96, ⟨some 24, (.pair (.int .i64) (.pair (.int .i64) (.pair (.slc (.slc (.int .u8))) .unit))), (.pair .ro (.pair .ro (.pair (.own .ro) .ro))), none⟩)]⟩
noncomputable def f49_t14_o0 : SkS := ⟨69, [(4, .ptr 64 []), (0, .con (.int .i64))], [(64, ⟨some 24, (.pair (.int .i64) (.pair (.int .i64) (.pair (.slc (.slc (.int .u8))) .unit))), (.pair .ro (.pair .ro (.pair (.own .ro) .ro))), none⟩)]⟩
noncomputable def f49_t14_o1 : SkS := ⟨49, [(1, .con (.int .i64)), (2, .ptr 64 []), (1, .ptr 96 []), (16, .con (.slc (.slc (.int .i64)))), (0, .con (.int .i64)), (0, .con (.int .i64))], [(64, ⟨some 24, (.pair (.int .i64) (.pair (.int .i64) (.pair (.slc (.slc (.int .u8))) .unit))), (.pair .ro (.pair .ro (.pair (.own .ro) .ro))), none⟩), (96, ⟨some 24, (.pair (.int .i64) (.pair (.int .i64) (.pair (.slc (.slc (.int .u8))) .unit))), (.pair .ro (.pair .ro (.pair (.own .ro) .ro))), none⟩)]⟩
noncomputable def f49_t14_outs : List Way := [⟨.ret, [], f49_t14_o0⟩, ⟨.normal, [], f49_t14_o1⟩]
abbrev f49_t14_C := ((Option Nat) × (Option Nat))
abbrev f49_t14_X := (Int × Int × List (Int × (Int × (List Int × (Bool × Unit)))) × List (List Int) × Int × Int × (Int × (Int × (List (List Int) × Unit))) × (Int × (Int × (List (List Int) × Unit))))
abbrev f49_t14_Y := ((Int × (Int × (Int × (List (List Int) × Unit))))) ⊕ ((Int × (Int × (List (List Int) × Unit))))
noncomputable def f49_t14_con (t : f49_t14_sk.T) : f49_t14_C := (t.2.1.2, t.2.2.1.2)
noncomputable def f49_t14_get (t : f49_t14_sk.T) : f49_t14_X := (t.1.1, t.1.2.1, t.1.2.2.1, t.1.2.2.2.1, t.1.2.2.2.2.1, t.1.2.2.2.2.2.1, t.2.1.1, t.2.2.1.1)
noncomputable def f49_t14_put (c : f49_t14_C) (x : f49_t14_X) : f49_t14_sk.T := ((x.1, (x.2.1, (x.2.2.1, (x.2.2.2.1, (x.2.2.2.2.1, (x.2.2.2.2.2.1, ())))))), ((x.2.2.2.2.2.2.1, c.1), ((x.2.2.2.2.2.2.2, c.2), ())))
theorem f49_t14_pg (t : f49_t14_sk.T) : f49_t14_put (f49_t14_con t) (f49_t14_get t) = t := by kernel_rfl
noncomputable def f49_t14_w0 (c : f49_t14_C) (x : f49_t14_X) (y : (Int × (Int × (Int × (List (List Int) × Unit))))) : f49_t14_o0.T := ((y.1, ()), ((y.2, c.1), ()))
noncomputable def f49_t14_w1 (c : f49_t14_C) (x : f49_t14_X) (y : (Int × (Int × (List (List Int) × Unit)))) : f49_t14_o1.T := ((x.1, (x.2.2.2.1, (x.2.2.2.2.1, (x.2.2.2.2.2.1, ())))), ((x.2.2.2.2.2.2.1, c.1), ((y, c.2), ())))
noncomputable def f49_t14_out (c : f49_t14_C) (x : f49_t14_X) (y : f49_t14_Y) : OutV f49_t14_outs := (Sum.elim (fun y => (.inl (f49_t14_w0 c x y))) (fun y => (.inr (.inl (f49_t14_w1 c x y))))) y
noncomputable def f49_t14_k {R : Type} (a0 : Int) (a1 : Int) (a2 : List (Int × (Int × (List Int × (Bool × Unit))))) (a3 : List (List Int)) (a4 : Int) (a5 : Int) (a6 : (Int × (Int × (List (List Int) × Unit)))) (a7 : (Int × (Int × (List (List Int) × Unit)))) (k0 : (Int × (Int × (Int × (List (List Int) × Unit)))) → Option R) (k1 : (Int × (Int × (List (List Int) × Unit))) → Option R) : Option R :=
 (cond (((List.length a2 : Nat) : Int) != a7.2.1)
 (k0 ((13 : Int), ((0 : Int), ((0 : Int), ([], ())))))
 (cond (((List.length a2 : Nat) : Int) == (0 : Int))
  (k0 ((13 : Int), ((0 : Int), ((0 : Int), ([], ())))))
  ((f108 a1 a2 a7.2.1).bind fun r1 =>
   (cond (r1.1.2.1 != (0 : Int))
   (k0 (r1.1.2.1, ((0 : Int), ((0 : Int), ([], ())))))
   (if (List.length a7.2.2.1 + List.length r1.1.1) * 24 ≤ most ∧ 0 < 24 ∧ 0 < 1 then (let r2 : List (List Int) := (a7.2.2.1 ++ r1.1.1)
    (k1 (a7.1, (a7.2.1, (r2, a7.2.2.2))))) else none)))))
noncomputable def f49_t14 (a0 : Int) (a1 : Int) (a2 : List (Int × (Int × (List Int × (Bool × Unit))))) (a3 : List (List Int)) (a4 : Int) (a5 : Int) (a6 : (Int × (Int × (List (List Int) × Unit)))) (a7 : (Int × (Int × (List (List Int) × Unit)))) : Option f49_t14_Y := f49_t14_k a0 a1 a2 a3 a4 a5 a6 a7 (fun y => some (.inl y)) (fun y => some (.inr y))
noncomputable def f49_t14_nd : Node := { nils := [], sk := f49_t14_sk, outs := f49_t14_outs, Y := f49_t14_Y, L := fun t => f49_t14 ((f49_t14_get t).1) ((f49_t14_get t).2.1) ((f49_t14_get t).2.2.1) ((f49_t14_get t).2.2.2.1) ((f49_t14_get t).2.2.2.2.1) ((f49_t14_get t).2.2.2.2.2.1) ((f49_t14_get t).2.2.2.2.2.2.1) ((f49_t14_get t).2.2.2.2.2.2.2), out := fun t y => f49_t14_out (f49_t14_con t) (f49_t14_get t) y, disp := fun t y K => (Sum.elim (fun y => K .ret (f49_t14_o0.fill (f49_t14_w0 (f49_t14_con t) (f49_t14_get t) y))) (fun y => K .normal (f49_t14_o1.fill (f49_t14_w1 (f49_t14_con t) (f49_t14_get t) y)))) y }
noncomputable def f49_l7_sk : SkS := ⟨49, [(1, .con (.int .i64)), (2, .ptr 64 []), (1, .ptr 96 []), (16, .con (.slc (.slc (.int .i64)))), (0, .con (.int .i64)), (0, .con (.int .i64))], [(64, ⟨some 24, (.pair (.int .i64) (.pair (.int .i64) (.pair (.slc (.slc (.int .u8))) .unit))), (.pair .ro (.pair .ro (.pair (.own .ro) .ro))), none⟩), (96, ⟨some 24, (.pair (.int .i64) (.pair (.int .i64) (.pair (.slc (.slc (.int .u8))) .unit))), (.pair .ro (.pair .ro (.pair (.own .ro) .ro))), none⟩)]⟩
noncomputable def f49_l7_o0 : SkS := ⟨69, [(4, .ptr 64 []), (0, .con (.int .i64))], [(64, ⟨some 24, (.pair (.int .i64) (.pair (.int .i64) (.pair (.slc (.slc (.int .u8))) .unit))), (.pair .ro (.pair .ro (.pair (.own .ro) .ro))), none⟩)]⟩
noncomputable def f49_l7_o1 : SkS := ⟨68, [(4, .ptr 64 []), (1, .ptr 96 [])], [(64, ⟨some 24, (.pair (.int .i64) (.pair (.int .i64) (.pair (.slc (.slc (.int .u8))) .unit))), (.pair .ro (.pair .ro (.pair (.own .ro) .ro))), none⟩), (96, ⟨some 24, (.pair (.int .i64) (.pair (.int .i64) (.pair (.slc (.slc (.int .u8))) .unit))), (.pair .ro (.pair .ro (.pair (.own .ro) .ro))), none⟩)]⟩
noncomputable def f49_l7_outs : List Way := [⟨.ret, [], f49_l7_o0⟩, ⟨(.exit 0), [], f49_l7_o1⟩]
abbrev f49_l7_C := (Int × List (List Int) × Int × (Int × (Int × (List (List Int) × Unit))) × (Option Nat) × (Option Nat))
abbrev f49_l7_X := (Int × (Int × (Int × (List (List Int) × Unit))))
abbrev f49_l7_Y := ((Int × (Int × (Int × (List (List Int) × Unit))))) ⊕ ((Int × (Int × (List (List Int) × Unit))))
noncomputable def f49_l7_con (t : f49_l7_sk.T) : f49_l7_C := (t.1.1, t.1.2.1, t.1.2.2.1, t.2.1.1, t.2.1.2, t.2.2.1.2)
noncomputable def f49_l7_get (t : f49_l7_sk.T) : f49_l7_X := (t.1.2.2.2.1, t.2.2.1.1)
noncomputable def f49_l7_put (c : f49_l7_C) (x : f49_l7_X) : f49_l7_sk.T := ((c.1, (c.2.1, (c.2.2.1, (x.1, ())))), ((c.2.2.2.1, c.2.2.2.2.1), ((x.2, c.2.2.2.2.2), ())))
theorem f49_l7_pg (t : f49_l7_sk.T) : f49_l7_put (f49_l7_con t) (f49_l7_get t) = t := by kernel_rfl
noncomputable def f49_l7_w0 (c : f49_l7_C) (y : (Int × (Int × (Int × (List (List Int) × Unit))))) : f49_l7_o0.T := ((y.1, ()), ((y.2, c.2.2.2.2.1), ()))
noncomputable def f49_l7_w1 (c : f49_l7_C) (y : (Int × (Int × (List (List Int) × Unit)))) : f49_l7_o1.T := ((), ((c.2.2.2.1, c.2.2.2.2.1), ((y, c.2.2.2.2.2), ())))
noncomputable def f49_l7_out (c : f49_l7_C) (y : f49_l7_Y) : OutV f49_l7_outs := (Sum.elim (fun y => (.inl (f49_l7_w0 c y))) (fun y => (.inr (.inl (f49_l7_w1 c y))))) y
noncomputable def f49_l7_k {R : Type} (a0 : Int) (a1 : List (List Int)) (a2 : Int) (a3 : Int) (a4 : (Int × (Int × (List (List Int) × Unit)))) (a5 : (Int × (Int × (List (List Int) × Unit)))) (kin : f49_l7_X → Option R) (k0 : (Int × (Int × (Int × (List (List Int) × Unit)))) → Option R) (k1 : (Int × (Int × (List (List Int) × Unit))) → Option R) : Option R :=
 (cond (decide (a3 < a2))
 (if (0 : Int) ≤ a3 ∧ a3 < ((List.length a1 : Nat) : Int) then ((f53 (List.getD a1 (Int.toNat a3) ([] : List Int)) a0).bind fun r0 =>
  (cond (r0.1.2.1 != (0 : Int))
  (k0 (r0.1.2.1, ((0 : Int), ((0 : Int), ([], ())))))
  (cond (a3 == (0 : Int))
   ((f49_t14 a0 a3 r0.1.1 a1 a2 a3 a4 (a5.1, (((List.length r0.1.1 : Nat) : Int), a5.2.2))).bind fun y3 =>
    ((Sum.elim (fun z4 =>
    (k0 (z4.1, z4.2)))
    (fun z5 =>
    (let v6 : Int := (IntKind.i64.wrap (a3 + (1 : Int)))
     (kin (v6, z5))))) y3))
   ((f49_t14 a0 a3 r0.1.1 a1 a2 a3 a4 a5).bind fun y7 =>
    ((Sum.elim (fun z8 =>
    (k0 (z8.1, z8.2)))
    (fun z9 =>
    (let v10 : Int := (IntKind.i64.wrap (a3 + (1 : Int)))
     (kin (v10, z9))))) y7))))) else none)
 (k1 a5))
noncomputable def f49_l7_g (a0 : Int) (a1 : List (List Int)) (a2 : Int) (a4 : (Int × (Int × (List (List Int) × Unit)))) (x : f49_l7_X) : Option (f49_l7_X ⊕ f49_l7_Y) := f49_l7_k a0 a1 a2 x.1 a4 x.2 (fun x => some (.inl x)) (fun y => some (.inr (.inl y))) (fun y => some (.inr (.inr y)))
noncomputable def f49_l7 (a0 : Int) (a1 : List (List Int)) (a2 : Int) (a4 : (Int × (Int × (List (List Int) × Unit)))) (x : f49_l7_X) : Option f49_l7_Y := loopO (f49_l7_g a0 a1 a2 a4) x
noncomputable def f49_l7_nd : Node := { nils := [], sk := f49_l7_sk, outs := f49_l7_outs, Y := f49_l7_Y, L := fun t => f49_l7 ((f49_l7_con t).1) ((f49_l7_con t).2.1) ((f49_l7_con t).2.2.1) ((f49_l7_con t).2.2.2.1) (f49_l7_get t), out := fun t y => f49_l7_out (f49_l7_con t) y, disp := fun t y K => (Sum.elim (fun y => K .ret (f49_l7_o0.fill (f49_l7_w0 (f49_l7_con t) y))) (fun y => K (.exit 0) (f49_l7_o1.fill (f49_l7_w1 (f49_l7_con t) y)))) y }
noncomputable def f49_fx : Fx := { E := env, T := [(53, f53_sm), (108, f108_sm)], H := [], O := [], nodes := [((false, 14), f49_t14_nd), ((true, 7), f49_l7_nd)] }
noncomputable def f49_t14_b : Code := (tails f49_code).getD 18 .skip
theorem f49_t14_r (c : f49_t14_C) (x : f49_t14_X) : tailS f49_fx f49_t14_b f49_t14_nd (f49_t14_put c x) = f49_t14_k x.1 x.2.1 x.2.2.1 x.2.2.2.1 x.2.2.2.2.1 x.2.2.2.2.2.1 x.2.2.2.2.2.2.1 x.2.2.2.2.2.2.2 (fun y => some (.inl (f49_t14_w0 c x y))) (fun y => some (.inr (.inl (f49_t14_w1 c x y)))) := by kernel_rfl
theorem f49_t14_n {R : Type} (a0 : Int) (a1 : Int) (a2 : List (Int × (Int × (List Int × (Bool × Unit))))) (a3 : List (List Int)) (a4 : Int) (a5 : Int) (a6 : (Int × (Int × (List (List Int) × Unit)))) (a7 : (Int × (Int × (List (List Int) × Unit)))) (k0 : (Int × (Int × (Int × (List (List Int) × Unit)))) → Option R) (k1 : (Int × (Int × (List (List Int) × Unit))) → Option R) : f49_t14_k a0 a1 a2 a3 a4 a5 a6 a7 k0 k1 = (f49_t14 a0 a1 a2 a3 a4 a5 a6 a7).bind (Sum.elim k0 k1) := by
  simp only [f49_t14, f49_t14_k, cond_bind, ite_bind, bind_bind, some_bind, none_bind, elim_bind, Sum.elim_inl, Sum.elim_inr]
theorem f49_t14_ok : TailOk f49_fx f49_t14_b f49_t14_nd := tail_ok f49_t14_con f49_t14_get f49_t14_put f49_t14_pg (fun x => f49_t14 x.1 x.2.1 x.2.2.1 x.2.2.2.1 x.2.2.2.2.1 x.2.2.2.2.2.1 x.2.2.2.2.2.2.1 x.2.2.2.2.2.2.2) f49_t14_out (fun t y => rfl) (by intro R t y K; rcases y with y | y <;> rfl) (fun c x => by
  refine (f49_t14_r c x).trans ((f49_t14_n _ _ _ _ _ _ _ _ _ _).trans ?_)
  first
  | rfl
  | congr 1
    funext s
    rcases s with s | s <;> rfl) (fun t => rfl)
noncomputable def f49_l7_b : Code := (loops f49_code).getD 0 .skip
theorem f49_l7_r (c : f49_l7_C) (x : f49_l7_X) : roundS f49_fx f49_l7_b f49_l7_nd (f49_l7_put c x) = f49_l7_k c.1 c.2.1 c.2.2.1 x.1 c.2.2.2.1 x.2 (fun x => some (.inl (f49_l7_put c x))) (fun y => some (.inr (.inl (f49_l7_w0 c y)))) (fun y => some (.inr (.inr (.inl (f49_l7_w1 c y))))) := by kernel_rfl
theorem f49_l7_n {R : Type} (a0 : Int) (a1 : List (List Int)) (a2 : Int) (a3 : Int) (a4 : (Int × (Int × (List (List Int) × Unit)))) (a5 : (Int × (Int × (List (List Int) × Unit)))) (kin : f49_l7_X → Option R) (k0 : (Int × (Int × (Int × (List (List Int) × Unit)))) → Option R) (k1 : (Int × (Int × (List (List Int) × Unit))) → Option R) : f49_l7_k a0 a1 a2 a3 a4 a5 kin k0 k1 = (f49_l7_g a0 a1 a2 a4 (a3, a5)).bind (Sum.elim kin (Sum.elim k0 k1)) := by
  simp only [f49_l7_g, f49_l7_k, cond_bind, ite_bind, bind_bind, some_bind, none_bind, elim_bind, Sum.elim_inl, Sum.elim_inr]
theorem f49_l7_ok : LoopOk f49_fx f49_l7_b f49_l7_nd := loop_ok f49_l7_con f49_l7_get f49_l7_put f49_l7_pg (fun c => f49_l7_g c.1 c.2.1 c.2.2.1 c.2.2.2.1) f49_l7_out (fun t y => rfl) (by intro R t y K; rcases y with y | y <;> rfl) (fun c x => by
  refine (f49_l7_r c x).trans ((f49_l7_n _ _ _ _ _ _ _ _ _).trans ?_)
  first
  | rfl
  | congr 1
    funext s
    rcases s with s | s | s <;> rfl) (fun t => rfl)
noncomputable def f49_k {R : Type} (a0 : List (List Int)) (a1 : Int) (k : ((Int × (Int × (List (List Int) × Unit))) × Int × Unit) × (Unit) → Option R) : Option R :=
 (cond (((List.length a0 : Nat) : Int) == (0 : Int))
 (k ((((0 : Int), ((0 : Int), ([], ()))), ((4 : Int), ())), ()))
 (cond (decide (((List.length a0 : Nat) : Int) > (20 : Int)))
  (k ((((0 : Int), ((0 : Int), ([], ()))), ((2 : Int), ())), ()))
  ((f49_l7 a1 a0 ((List.length a0 : Nat) : Int) ((0 : Int), ((0 : Int), (([] : List (List Int)), ()))) ((0 : Int), (((List.length a0 : Nat) : Int), ((0 : Int), ([], ()))))).bind fun y11 =>
   ((Sum.elim (fun z12 =>
   (k ((z12.2, (z12.1, ())), ())))
   (fun z13 =>
   (k ((z13, ((0 : Int), ())), ())))) y11))))
noncomputable def f49 (a0 : List (List Int)) (a1 : Int) : Option (((Int × (Int × (List (List Int) × Unit))) × Int × Unit) × (Unit)) := f49_k a0 a1 some
noncomputable def f49_sm : Sm := ⟨[.ro (.slc (.slc (.int .i64))), .ro (.int .i64)], [((.pair (.int .i64) (.pair (.int .i64) (.pair (.slc (.slc (.int .u8))) .unit))), (.pair .ro (.pair .ro (.pair (.own .ro) .ro)))), ((.int .i64), .ro)], fun x => f49 x.1 x.2.1⟩
theorem f49_m (x : ArgT [.ro (.slc (.slc (.int .i64))), .ro (.int .i64)]) : codeS f49_fx f49_code (start [.ro (.slc (.slc (.int .i64))), .ro (.int .i64)] [] x 75) (finK env [.cell 4 24, .tmp 5] [.ro (.slc (.slc (.int .i64))), .ro (.int .i64)] [((.pair (.int .i64) (.pair (.int .i64) (.pair (.slc (.slc (.int .u8))) .unit))), (.pair .ro (.pair .ro (.pair (.own .ro) .ro)))), ((.int .i64), .ro)]) = f49_k x.1 x.2.1 (fun r => some (r, [])) := by kernel_rfl
theorem f49_n {R : Type} (a0 : List (List Int)) (a1 : Int) (k : ((Int × (Int × (List (List Int) × Unit))) × Int × Unit) × (Unit) → Option R) : f49_k a0 a1 k = (f49 a0 a1).bind k := by
  simp only [f49, f49_k, cond_bind, ite_bind, bind_bind, some_bind, none_bind, elim_bind]
theorem f49_ok : SmOk Try.prog 49 f49_sm :=
  sum_of (c := f49_fx) (fn := Try.f49) (code := f49_code) (sm := f49_sm) mixed (env_ok env_envB) (TabsOk.all ⟨f53_c, f108_c, trivial⟩) Try.func49 (by kernel_rfl)
   ((LoopsOk.of (l := [f49_l7_b]) (by kernel_rfl) ⟨node_is (by kernel_rfl) f49_l7_ok, trivial⟩))
   ((TailsOk.of (l := [((tails f49_code).getD 0 .skip), ((tails f49_code).getD 1 .skip), ((tails f49_code).getD 2 .skip), ((tails f49_code).getD 3 .skip), ((tails f49_code).getD 4 .skip), ((tails f49_code).getD 5 .skip), ((tails f49_code).getD 6 .skip), ((tails f49_code).getD 7 .skip), ((tails f49_code).getD 8 .skip), ((tails f49_code).getD 9 .skip), ((tails f49_code).getD 10 .skip), ((tails f49_code).getD 11 .skip), ((tails f49_code).getD 12 .skip), ((tails f49_code).getD 13 .skip), ((tails f49_code).getD 14 .skip), ((tails f49_code).getD 15 .skip), ((tails f49_code).getD 16 .skip), ((tails f49_code).getD 17 .skip), f49_t14_b, ((tails f49_code).getD 19 .skip), ((tails f49_code).getD 20 .skip), ((tails f49_code).getD 21 .skip), ((tails f49_code).getD 22 .skip), ((tails f49_code).getD 23 .skip), ((tails f49_code).getD 24 .skip), ((tails f49_code).getD 25 .skip), ((tails f49_code).getD 26 .skip), ((tails f49_code).getD 27 .skip)]) (by kernel_rfl) ⟨node_no (by kernel_rfl), node_no (by kernel_rfl), node_no (by kernel_rfl), node_no (by kernel_rfl), node_no (by kernel_rfl), node_no (by kernel_rfl), node_no (by kernel_rfl), node_no (by kernel_rfl), node_no (by kernel_rfl), node_no (by kernel_rfl), node_no (by kernel_rfl), node_no (by kernel_rfl), node_no (by kernel_rfl), node_no (by kernel_rfl), node_no (by kernel_rfl), node_no (by kernel_rfl), node_no (by kernel_rfl), node_no (by kernel_rfl), node_is (by kernel_rfl) f49_t14_ok, node_no (by kernel_rfl), node_no (by kernel_rfl), node_no (by kernel_rfl), node_no (by kernel_rfl), node_no (by kernel_rfl), node_no (by kernel_rfl), node_no (by kernel_rfl), node_no (by kernel_rfl), node_no (by kernel_rfl), trivial⟩))
   (fun ks x hl => by
    have hk : ks = [] := List.length_eq_zero_iff.1 hl
    subst hk
    exact (f49_m x).trans (f49_n _ _ _))
theorem f49_c : CalOk Try.prog 49 f49_sm := .inl ⟨f49_ok, ⟨Try.f49, Try.func49, by kernel_rfl, by kernel_rfl⟩⟩
noncomputable def f50_code : Code := (Try.f50.body).getD .skip
noncomputable def f50_l18_sk : SkS := ⟨49, [(1, .con (.int .i64)), (2, .ptr 64 []), (1, .ptr 96 []), (0, .con (.int .i64)), (3, .ref 976 []), (16, .con (.slc (.slc (.int .i64)))), (0, .con (.int .i64)), (0, .con (.int .i64)), (31, .con (.slc (.pair (.int .i64) (.pair (.int .i64) (.pair (.slc (.int .u8)) (.pair .bool .unit)))))), (0, .con (.int .i64)), (0, .con (.int .i64))], [(64, ⟨some 24, (.pair (.int .i64) (.pair (.int .i64) (.pair (.slc (.slc (.int .u8))) .unit))), (.pair .ro (.pair .ro (.pair (.own .ro) .ro))), none⟩), (96, ⟨some 24, (.pair (.int .i64) (.pair (.int .i64) (.pair (.slc (.slc (.int .u8))) .unit))), (.pair .ro (.pair .ro (.pair (.own .ro) .ro))), none⟩), (976, ⟨none, (.mp (.int .i64) (.slc (.int .u8))), (.own (.own .ro)), none⟩)]⟩
noncomputable def f50_l18_o0 : SkS := ⟨108, [(4, .ptr 64 []), (0, .con (.int .i64))], [(64, ⟨some 24, (.pair (.int .i64) (.pair (.int .i64) (.pair (.slc (.slc (.int .u8))) .unit))), (.pair .ro (.pair .ro (.pair (.own .ro) .ro))), none⟩)]⟩
noncomputable def f50_l18_o1 : SkS := ⟨83, [(1, .con (.int .i64)), (2, .ptr 64 []), (1, .ptr 96 []), (4, .ref 976 []), (16, .con (.slc (.slc (.int .i64)))), (0, .con (.int .i64)), (0, .con (.int .i64))], [(64, ⟨some 24, (.pair (.int .i64) (.pair (.int .i64) (.pair (.slc (.slc (.int .u8))) .unit))), (.pair .ro (.pair .ro (.pair (.own .ro) .ro))), none⟩), (96, ⟨some 24, (.pair (.int .i64) (.pair (.int .i64) (.pair (.slc (.slc (.int .u8))) .unit))), (.pair .ro (.pair .ro (.pair (.own .ro) .ro))), none⟩), (976, ⟨none, (.mp (.int .i64) (.slc (.int .u8))), (.own (.own .ro)), none⟩)]⟩
noncomputable def f50_l18_outs : List Way := [⟨.ret, [], f50_l18_o0⟩, ⟨(.exit 2), [], f50_l18_o1⟩]
abbrev f50_l18_C := (Int × Int × List (List Int) × Int × Int × List (Int × (Int × (List Int × (Bool × Unit)))) × Int × (Int × (Int × (List (List Int) × Unit))) × (Int × (Int × (List (List Int) × Unit))) × (Option Nat) × (Option Nat))
abbrev f50_l18_X := (Int × List (Int × List Int))
abbrev f50_l18_Y := ((Int × (Int × (Int × (List (List Int) × Unit))))) ⊕ (List (Int × List Int))
noncomputable def f50_l18_con (t : f50_l18_sk.T) : f50_l18_C := (t.1.1, t.1.2.1, t.1.2.2.1, t.1.2.2.2.1, t.1.2.2.2.2.1, t.1.2.2.2.2.2.1, t.1.2.2.2.2.2.2.1, t.2.1.1, t.2.2.1.1, t.2.1.2, t.2.2.1.2)
noncomputable def f50_l18_get (t : f50_l18_sk.T) : f50_l18_X := (t.1.2.2.2.2.2.2.2.1, t.2.2.2.1.1)
noncomputable def f50_l18_put (c : f50_l18_C) (x : f50_l18_X) : f50_l18_sk.T := ((c.1, (c.2.1, (c.2.2.1, (c.2.2.2.1, (c.2.2.2.2.1, (c.2.2.2.2.2.1, (c.2.2.2.2.2.2.1, (x.1, ())))))))), ((c.2.2.2.2.2.2.2.1, c.2.2.2.2.2.2.2.2.2.1), ((c.2.2.2.2.2.2.2.2.1, c.2.2.2.2.2.2.2.2.2.2), ((x.2, ()), ()))))
theorem f50_l18_pg (t : f50_l18_sk.T) : f50_l18_put (f50_l18_con t) (f50_l18_get t) = t := by kernel_rfl
noncomputable def f50_l18_w0 (c : f50_l18_C) (y : (Int × (Int × (Int × (List (List Int) × Unit))))) : f50_l18_o0.T := ((y.1, ()), ((y.2, c.2.2.2.2.2.2.2.2.2.1), ()))
noncomputable def f50_l18_w1 (c : f50_l18_C) (y : List (Int × List Int)) : f50_l18_o1.T := ((c.1, (c.2.2.1, (c.2.2.2.1, (c.2.2.2.2.1, ())))), ((c.2.2.2.2.2.2.2.1, c.2.2.2.2.2.2.2.2.2.1), ((c.2.2.2.2.2.2.2.2.1, c.2.2.2.2.2.2.2.2.2.2), ((y, ()), ()))))
noncomputable def f50_l18_out (c : f50_l18_C) (y : f50_l18_Y) : OutV f50_l18_outs := (Sum.elim (fun y => (.inl (f50_l18_w0 c y))) (fun y => (.inr (.inl (f50_l18_w1 c y))))) y
noncomputable def f50_l18_k {R : Type} (a0 : Int) (a1 : Int) (a2 : List (List Int)) (a3 : Int) (a4 : Int) (a5 : List (Int × (Int × (List Int × (Bool × Unit))))) (a6 : Int) (a7 : Int) (a8 : (Int × (Int × (List (List Int) × Unit)))) (a9 : (Int × (Int × (List (List Int) × Unit)))) (a10 : List (Int × List Int)) (kin : f50_l18_X → Option R) (k0 : (Int × (Int × (Int × (List (List Int) × Unit)))) → Option R) (k1 : List (Int × List Int) → Option R) : Option R :=
 (cond (decide (a7 < a6))
 (if (0 : Int) ≤ a7 ∧ a7 < ((List.length a5 : Nat) : Int) then (cond ((List.getD a5 (Int.toNat a7) ((0 : Int), ((0 : Int), (([] : List Int), (false, ()))))).1 != a1)
  (k0 ((3 : Int), ((0 : Int), ((0 : Int), ([], ())))))
  (cond (decide ((List.getD a5 (Int.toNat a7) ((0 : Int), ((0 : Int), (([] : List Int), (false, ()))))).2.1 ≥ a9.2.1))
   (k0 ((3 : Int), ((0 : Int), ((0 : Int), ([], ())))))
   (cond (List.getD a5 (Int.toNat a7) ((0 : Int), ((0 : Int), (([] : List Int), (false, ()))))).2.2.2.1
    (k0 ((12 : Int), ((0 : Int), ((0 : Int), ([], ())))))
    (let v1 : List Int := ((mfind (.int .i64) (.slc (.int .u8)) a10 (List.getD a5 (Int.toNat a7) ((0 : Int), ((0 : Int), (([] : List Int), (false, ()))))).2.1).getD ([] : List Int))
     (let v2 : Bool := ((mfind (.int .i64) (.slc (.int .u8)) a10 (List.getD a5 (Int.toNat a7) ((0 : Int), ((0 : Int), (([] : List Int), (false, ()))))).2.1).isSome)
     (cond v2
     (k0 ((5 : Int), ((0 : Int), ((0 : Int), ([], ())))))
     (let r3 : List (Int × List Int) := (mset (.int .i64) (.slc (.int .u8)) a10 (List.getD a5 (Int.toNat a7) ((0 : Int), ((0 : Int), (([] : List Int), (false, ()))))).2.1 (List.getD a5 (Int.toNat a7) ((0 : Int), ((0 : Int), (([] : List Int), (false, ()))))).2.2.1)
      (let v4 : Int := (IntKind.i64.wrap (a7 + (1 : Int)))
      (kin (v4, r3)))))))))) else none)
 (k1 a10))
noncomputable def f50_l18_g (a0 : Int) (a1 : Int) (a2 : List (List Int)) (a3 : Int) (a4 : Int) (a5 : List (Int × (Int × (List Int × (Bool × Unit))))) (a6 : Int) (a8 : (Int × (Int × (List (List Int) × Unit)))) (a9 : (Int × (Int × (List (List Int) × Unit)))) (x : f50_l18_X) : Option (f50_l18_X ⊕ f50_l18_Y) := f50_l18_k a0 a1 a2 a3 a4 a5 a6 x.1 a8 a9 x.2 (fun x => some (.inl x)) (fun y => some (.inr (.inl y))) (fun y => some (.inr (.inr y)))
noncomputable def f50_l18 (a0 : Int) (a1 : Int) (a2 : List (List Int)) (a3 : Int) (a4 : Int) (a5 : List (Int × (Int × (List Int × (Bool × Unit))))) (a6 : Int) (a8 : (Int × (Int × (List (List Int) × Unit)))) (a9 : (Int × (Int × (List (List Int) × Unit)))) (x : f50_l18_X) : Option f50_l18_Y := loopO (f50_l18_g a0 a1 a2 a3 a4 a5 a6 a8 a9) x
noncomputable def f50_l18_nd : Node := { nils := [], sk := f50_l18_sk, outs := f50_l18_outs, Y := f50_l18_Y, L := fun t => f50_l18 ((f50_l18_con t).1) ((f50_l18_con t).2.1) ((f50_l18_con t).2.2.1) ((f50_l18_con t).2.2.2.1) ((f50_l18_con t).2.2.2.2.1) ((f50_l18_con t).2.2.2.2.2.1) ((f50_l18_con t).2.2.2.2.2.2.1) ((f50_l18_con t).2.2.2.2.2.2.2.1) ((f50_l18_con t).2.2.2.2.2.2.2.2.1) (f50_l18_get t), out := fun t y => f50_l18_out (f50_l18_con t) y, disp := fun t y K => (Sum.elim (fun y => K .ret (f50_l18_o0.fill (f50_l18_w0 (f50_l18_con t) y))) (fun y => K (.exit 2) (f50_l18_o1.fill (f50_l18_w1 (f50_l18_con t) y)))) y }
noncomputable def f50_l30_sk : SkS := ⟨13, [(1, .con (.int .i64)), (2, .ptr 64 []), (1, .ptr 96 []), (4, .ref 976 []), (16, .con (.slc (.slc (.int .i64)))), (0, .con (.int .i64)), (0, .con (.int .i64)), (68, .con (.int .i64)), (0, .con (.int .i64))], [(64, ⟨some 24, (.pair (.int .i64) (.pair (.int .i64) (.pair (.slc (.slc (.int .u8))) .unit))), (.pair .ro (.pair .ro (.pair (.own .ro) .ro))), none⟩), (96, ⟨some 24, (.pair (.int .i64) (.pair (.int .i64) (.pair (.slc (.slc (.int .u8))) .unit))), (.pair .ro (.pair .ro (.pair (.own .ro) .ro))), none⟩), (976, ⟨none, (.mp (.int .i64) (.slc (.int .u8))), (.own (.own .ro)), none⟩)]⟩
noncomputable def f50_l30_o0 : SkS := ⟨83, [(1, .con (.int .i64)), (2, .ptr 64 []), (1, .ptr 96 []), (21, .con (.slc (.slc (.int .i64)))), (0, .con (.int .i64)), (0, .con (.int .i64))], [(64, ⟨some 24, (.pair (.int .i64) (.pair (.int .i64) (.pair (.slc (.slc (.int .u8))) .unit))), (.pair .ro (.pair .ro (.pair (.own .ro) .ro))), none⟩), (96, ⟨some 24, (.pair (.int .i64) (.pair (.int .i64) (.pair (.slc (.slc (.int .u8))) .unit))), (.pair .ro (.pair .ro (.pair (.own .ro) .ro))), none⟩)]⟩
noncomputable def f50_l30_outs : List Way := [⟨(.exit 4), [], f50_l30_o0⟩]
abbrev f50_l30_C := (Int × List (List Int) × Int × Int × Int × (Int × (Int × (List (List Int) × Unit))) × List (Int × List Int) × (Option Nat) × (Option Nat))
abbrev f50_l30_X := (Int × (Int × (Int × (List (List Int) × Unit))))
abbrev f50_l30_Y := ((Int × (Int × (List (List Int) × Unit))))
noncomputable def f50_l30_con (t : f50_l30_sk.T) : f50_l30_C := (t.1.1, t.1.2.1, t.1.2.2.1, t.1.2.2.2.1, t.1.2.2.2.2.1, t.2.1.1, t.2.2.2.1.1, t.2.1.2, t.2.2.1.2)
noncomputable def f50_l30_get (t : f50_l30_sk.T) : f50_l30_X := (t.1.2.2.2.2.2.1, t.2.2.1.1)
noncomputable def f50_l30_put (c : f50_l30_C) (x : f50_l30_X) : f50_l30_sk.T := ((c.1, (c.2.1, (c.2.2.1, (c.2.2.2.1, (c.2.2.2.2.1, (x.1, ())))))), ((c.2.2.2.2.2.1, c.2.2.2.2.2.2.2.1), ((x.2, c.2.2.2.2.2.2.2.2), ((c.2.2.2.2.2.2.1, ()), ()))))
theorem f50_l30_pg (t : f50_l30_sk.T) : f50_l30_put (f50_l30_con t) (f50_l30_get t) = t := by kernel_rfl
noncomputable def f50_l30_w0 (c : f50_l30_C) (y : (Int × (Int × (List (List Int) × Unit)))) : f50_l30_o0.T := ((c.1, (c.2.1, (c.2.2.1, (c.2.2.2.1, ())))), ((c.2.2.2.2.2.1, c.2.2.2.2.2.2.2.1), ((y, c.2.2.2.2.2.2.2.2), ())))
noncomputable def f50_l30_out (c : f50_l30_C) (y : f50_l30_Y) : OutV f50_l30_outs := (fun y => (.inl (f50_l30_w0 c y))) y
noncomputable def f50_l30_k {R : Type} (a0 : Int) (a1 : List (List Int)) (a2 : Int) (a3 : Int) (a4 : Int) (a5 : Int) (a6 : (Int × (Int × (List (List Int) × Unit)))) (a7 : (Int × (Int × (List (List Int) × Unit)))) (a8 : List (Int × List Int)) (kin : f50_l30_X → Option R) (k0 : (Int × (Int × (List (List Int) × Unit))) → Option R) : Option R :=
 (cond (decide (a5 < a4))
 (let v8 : List Int := ((mfind (.int .i64) (.slc (.int .u8)) a8 a5).getD ([] : List Int))
  (if (List.length a7.2.2.1 + 1) * 24 ≤ most ∧ 0 < 24 ∧ 0 < 1 then (let r9 : List (List Int) := (a7.2.2.1 ++ [v8])
  (let v10 : Int := (IntKind.i64.wrap (a5 + (1 : Int)))
  (kin (v10, (a7.1, (a7.2.1, (r9, a7.2.2.2))))))) else none))
 (k0 a7))
noncomputable def f50_l30_g (a0 : Int) (a1 : List (List Int)) (a2 : Int) (a3 : Int) (a4 : Int) (a6 : (Int × (Int × (List (List Int) × Unit)))) (a8 : List (Int × List Int)) (x : f50_l30_X) : Option (f50_l30_X ⊕ f50_l30_Y) := f50_l30_k a0 a1 a2 a3 a4 x.1 a6 x.2 a8 (fun x => some (.inl x)) (fun y => some (.inr y))
noncomputable def f50_l30 (a0 : Int) (a1 : List (List Int)) (a2 : Int) (a3 : Int) (a4 : Int) (a6 : (Int × (Int × (List (List Int) × Unit)))) (a8 : List (Int × List Int)) (x : f50_l30_X) : Option f50_l30_Y := loopO (f50_l30_g a0 a1 a2 a3 a4 a6 a8) x
noncomputable def f50_l30_nd : Node := { nils := [], sk := f50_l30_sk, outs := f50_l30_outs, Y := f50_l30_Y, L := fun t => f50_l30 ((f50_l30_con t).1) ((f50_l30_con t).2.1) ((f50_l30_con t).2.2.1) ((f50_l30_con t).2.2.2.1) ((f50_l30_con t).2.2.2.2.1) ((f50_l30_con t).2.2.2.2.2.1) ((f50_l30_con t).2.2.2.2.2.2.1) (f50_l30_get t), out := fun t y => f50_l30_out (f50_l30_con t) y, disp := fun t y K => (fun y => K (.exit 4) (f50_l30_o0.fill (f50_l30_w0 (f50_l30_con t) y))) y }
noncomputable def f50_t14_sk : SkS := ⟨83, [(1, .con (.int .i64)), (2, .ptr 64 []), (1, .ptr 96 []), (0, .con (.int .i64)), (1, .con (.slc (.pair (.int .i64) (.pair (.int .i64) (.pair (.slc (.int .u8)) (.pair .bool .unit)))))), (18, .con (.slc (.slc (.int .i64)))), (0, .con (.int .i64)), (0, .con (.int .i64))], [(64, ⟨some 24, (.pair (.int .i64) (.pair (.int .i64) (.pair (.slc (.slc (.int .u8))) .unit))), (.pair .ro (.pair .ro (.pair (.own .ro) .ro))), none⟩), (96, ⟨some 24, (.pair (.int .i64) (.pair (.int .i64) (.pair (.slc (.slc (.int .u8))) .unit))), (.pair .ro (.pair .ro (.pair (.own .ro) .ro))), none⟩)]⟩
noncomputable def f50_t14_o0 : SkS := ⟨108, [(4, .ptr 64 []), (0, .con (.int .i64))], [(64, ⟨some 24, (.pair (.int .i64) (.pair (.int .i64) (.pair (.slc (.slc (.int .u8))) .unit))), (.pair .ro (.pair .ro (.pair (.own .ro) .ro))), none⟩)]⟩
noncomputable def f50_t14_o1 : SkS := ⟨83, [(1, .con (.int .i64)), (2, .ptr 64 []), (1, .ptr 96 []), (21, .con (.slc (.slc (.int .i64)))), (0, .con (.int .i64)), (0, .con (.int .i64))], [(64, ⟨some 24, (.pair (.int .i64) (.pair (.int .i64) (.pair (.slc (.slc (.int .u8))) .unit))), (.pair .ro (.pair .ro (.pair (.own .ro) .ro))), none⟩), (96, ⟨some 24, (.pair (.int .i64) (.pair (.int .i64) (.pair (.slc (.slc (.int .u8))) .unit))), (.pair .ro (.pair .ro (.pair (.own .ro) .ro))), none⟩)]⟩
noncomputable def f50_t14_outs : List Way := [⟨.ret, [], f50_t14_o0⟩, ⟨.normal, [], f50_t14_o1⟩]
abbrev f50_t14_C := ((Option Nat) × (Option Nat))
abbrev f50_t14_X := (Int × Int × List (Int × (Int × (List Int × (Bool × Unit)))) × List (List Int) × Int × Int × (Int × (Int × (List (List Int) × Unit))) × (Int × (Int × (List (List Int) × Unit))))
abbrev f50_t14_Y := ((Int × (Int × (Int × (List (List Int) × Unit))))) ⊕ ((Int × (Int × (List (List Int) × Unit))))
noncomputable def f50_t14_con (t : f50_t14_sk.T) : f50_t14_C := (t.2.1.2, t.2.2.1.2)
noncomputable def f50_t14_get (t : f50_t14_sk.T) : f50_t14_X := (t.1.1, t.1.2.1, t.1.2.2.1, t.1.2.2.2.1, t.1.2.2.2.2.1, t.1.2.2.2.2.2.1, t.2.1.1, t.2.2.1.1)
noncomputable def f50_t14_put (c : f50_t14_C) (x : f50_t14_X) : f50_t14_sk.T := ((x.1, (x.2.1, (x.2.2.1, (x.2.2.2.1, (x.2.2.2.2.1, (x.2.2.2.2.2.1, ())))))), ((x.2.2.2.2.2.2.1, c.1), ((x.2.2.2.2.2.2.2, c.2), ())))
theorem f50_t14_pg (t : f50_t14_sk.T) : f50_t14_put (f50_t14_con t) (f50_t14_get t) = t := by kernel_rfl
noncomputable def f50_t14_w0 (c : f50_t14_C) (x : f50_t14_X) (y : (Int × (Int × (Int × (List (List Int) × Unit))))) : f50_t14_o0.T := ((y.1, ()), ((y.2, c.1), ()))
noncomputable def f50_t14_w1 (c : f50_t14_C) (x : f50_t14_X) (y : (Int × (Int × (List (List Int) × Unit)))) : f50_t14_o1.T := ((x.1, (x.2.2.2.1, (x.2.2.2.2.1, (x.2.2.2.2.2.1, ())))), ((x.2.2.2.2.2.2.1, c.1), ((y, c.2), ())))
noncomputable def f50_t14_out (c : f50_t14_C) (x : f50_t14_X) (y : f50_t14_Y) : OutV f50_t14_outs := (Sum.elim (fun y => (.inl (f50_t14_w0 c x y))) (fun y => (.inr (.inl (f50_t14_w1 c x y))))) y
noncomputable def f50_t14_k {R : Type} (a0 : Int) (a1 : Int) (a2 : List (Int × (Int × (List Int × (Bool × Unit))))) (a3 : List (List Int)) (a4 : Int) (a5 : Int) (a6 : (Int × (Int × (List (List Int) × Unit)))) (a7 : (Int × (Int × (List (List Int) × Unit)))) (k0 : (Int × (Int × (Int × (List (List Int) × Unit)))) → Option R) (k1 : (Int × (Int × (List (List Int) × Unit))) → Option R) : Option R :=
 (cond (((List.length a2 : Nat) : Int) == (0 : Int))
 (k0 ((13 : Int), ((0 : Int), ((0 : Int), ([], ())))))
 (cond (((List.length a2 : Nat) : Int) != a7.2.1)
  (k0 ((13 : Int), ((0 : Int), ((0 : Int), ([], ())))))
  ((f50_l18 a0 a1 a3 a4 a5 a2 ((List.length a2 : Nat) : Int) a6 a7 ((0 : Int), ([] : List (Int × List Int)))).bind fun y5 =>
   ((Sum.elim (fun z6 =>
   (k0 (z6.1, z6.2)))
   (fun z7 =>
   ((f50_l30 a0 a3 a4 a5 a7.2.1 a6 z7 ((0 : Int), a7)).bind fun y11 =>
    (k1 y11)))) y5))))
noncomputable def f50_t14 (a0 : Int) (a1 : Int) (a2 : List (Int × (Int × (List Int × (Bool × Unit))))) (a3 : List (List Int)) (a4 : Int) (a5 : Int) (a6 : (Int × (Int × (List (List Int) × Unit)))) (a7 : (Int × (Int × (List (List Int) × Unit)))) : Option f50_t14_Y := f50_t14_k a0 a1 a2 a3 a4 a5 a6 a7 (fun y => some (.inl y)) (fun y => some (.inr y))
noncomputable def f50_t14_nd : Node := { nils := [], sk := f50_t14_sk, outs := f50_t14_outs, Y := f50_t14_Y, L := fun t => f50_t14 ((f50_t14_get t).1) ((f50_t14_get t).2.1) ((f50_t14_get t).2.2.1) ((f50_t14_get t).2.2.2.1) ((f50_t14_get t).2.2.2.2.1) ((f50_t14_get t).2.2.2.2.2.1) ((f50_t14_get t).2.2.2.2.2.2.1) ((f50_t14_get t).2.2.2.2.2.2.2), out := fun t y => f50_t14_out (f50_t14_con t) (f50_t14_get t) y, disp := fun t y K => (Sum.elim (fun y => K .ret (f50_t14_o0.fill (f50_t14_w0 (f50_t14_con t) (f50_t14_get t) y))) (fun y => K .normal (f50_t14_o1.fill (f50_t14_w1 (f50_t14_con t) (f50_t14_get t) y)))) y }
noncomputable def f50_l7_sk : SkS := ⟨83, [(1, .con (.int .i64)), (2, .ptr 64 []), (1, .ptr 96 []), (21, .con (.slc (.slc (.int .i64)))), (0, .con (.int .i64)), (0, .con (.int .i64))], [(64, ⟨some 24, (.pair (.int .i64) (.pair (.int .i64) (.pair (.slc (.slc (.int .u8))) .unit))), (.pair .ro (.pair .ro (.pair (.own .ro) .ro))), none⟩), (96, ⟨some 24, (.pair (.int .i64) (.pair (.int .i64) (.pair (.slc (.slc (.int .u8))) .unit))), (.pair .ro (.pair .ro (.pair (.own .ro) .ro))), none⟩)]⟩
noncomputable def f50_l7_o0 : SkS := ⟨108, [(4, .ptr 64 []), (0, .con (.int .i64))], [(64, ⟨some 24, (.pair (.int .i64) (.pair (.int .i64) (.pair (.slc (.slc (.int .u8))) .unit))), (.pair .ro (.pair .ro (.pair (.own .ro) .ro))), none⟩)]⟩
noncomputable def f50_l7_o1 : SkS := ⟨107, [(4, .ptr 64 []), (1, .ptr 96 [])], [(64, ⟨some 24, (.pair (.int .i64) (.pair (.int .i64) (.pair (.slc (.slc (.int .u8))) .unit))), (.pair .ro (.pair .ro (.pair (.own .ro) .ro))), none⟩), (96, ⟨some 24, (.pair (.int .i64) (.pair (.int .i64) (.pair (.slc (.slc (.int .u8))) .unit))), (.pair .ro (.pair .ro (.pair (.own .ro) .ro))), none⟩)]⟩
noncomputable def f50_l7_outs : List Way := [⟨.ret, [], f50_l7_o0⟩, ⟨(.exit 0), [], f50_l7_o1⟩]
abbrev f50_l7_C := (Int × List (List Int) × Int × (Int × (Int × (List (List Int) × Unit))) × (Option Nat) × (Option Nat))
abbrev f50_l7_X := (Int × (Int × (Int × (List (List Int) × Unit))))
abbrev f50_l7_Y := ((Int × (Int × (Int × (List (List Int) × Unit))))) ⊕ ((Int × (Int × (List (List Int) × Unit))))
noncomputable def f50_l7_con (t : f50_l7_sk.T) : f50_l7_C := (t.1.1, t.1.2.1, t.1.2.2.1, t.2.1.1, t.2.1.2, t.2.2.1.2)
noncomputable def f50_l7_get (t : f50_l7_sk.T) : f50_l7_X := (t.1.2.2.2.1, t.2.2.1.1)
noncomputable def f50_l7_put (c : f50_l7_C) (x : f50_l7_X) : f50_l7_sk.T := ((c.1, (c.2.1, (c.2.2.1, (x.1, ())))), ((c.2.2.2.1, c.2.2.2.2.1), ((x.2, c.2.2.2.2.2), ())))
theorem f50_l7_pg (t : f50_l7_sk.T) : f50_l7_put (f50_l7_con t) (f50_l7_get t) = t := by kernel_rfl
noncomputable def f50_l7_w0 (c : f50_l7_C) (y : (Int × (Int × (Int × (List (List Int) × Unit))))) : f50_l7_o0.T := ((y.1, ()), ((y.2, c.2.2.2.2.1), ()))
noncomputable def f50_l7_w1 (c : f50_l7_C) (y : (Int × (Int × (List (List Int) × Unit)))) : f50_l7_o1.T := ((), ((c.2.2.2.1, c.2.2.2.2.1), ((y, c.2.2.2.2.2), ())))
noncomputable def f50_l7_out (c : f50_l7_C) (y : f50_l7_Y) : OutV f50_l7_outs := (Sum.elim (fun y => (.inl (f50_l7_w0 c y))) (fun y => (.inr (.inl (f50_l7_w1 c y))))) y
noncomputable def f50_l7_k {R : Type} (a0 : Int) (a1 : List (List Int)) (a2 : Int) (a3 : Int) (a4 : (Int × (Int × (List (List Int) × Unit)))) (a5 : (Int × (Int × (List (List Int) × Unit)))) (kin : f50_l7_X → Option R) (k0 : (Int × (Int × (Int × (List (List Int) × Unit)))) → Option R) (k1 : (Int × (Int × (List (List Int) × Unit))) → Option R) : Option R :=
 (cond (decide (a3 < a2))
 (if (0 : Int) ≤ a3 ∧ a3 < ((List.length a1 : Nat) : Int) then ((f54 (List.getD a1 (Int.toNat a3) ([] : List Int)) a0).bind fun r0 =>
  (cond (r0.1.2.1 != (0 : Int))
  (k0 (r0.1.2.1, ((0 : Int), ((0 : Int), ([], ())))))
  (cond (a3 == (0 : Int))
   ((f50_t14 a0 a3 r0.1.1 a1 a2 a3 a4 (a5.1, (((List.length r0.1.1 : Nat) : Int), a5.2.2))).bind fun y12 =>
    ((Sum.elim (fun z13 =>
    (k0 (z13.1, z13.2)))
    (fun z14 =>
    (let v15 : Int := (IntKind.i64.wrap (a3 + (1 : Int)))
     (kin (v15, z14))))) y12))
   ((f50_t14 a0 a3 r0.1.1 a1 a2 a3 a4 a5).bind fun y16 =>
    ((Sum.elim (fun z17 =>
    (k0 (z17.1, z17.2)))
    (fun z18 =>
    (let v19 : Int := (IntKind.i64.wrap (a3 + (1 : Int)))
     (kin (v19, z18))))) y16))))) else none)
 (k1 a5))
noncomputable def f50_l7_g (a0 : Int) (a1 : List (List Int)) (a2 : Int) (a4 : (Int × (Int × (List (List Int) × Unit)))) (x : f50_l7_X) : Option (f50_l7_X ⊕ f50_l7_Y) := f50_l7_k a0 a1 a2 x.1 a4 x.2 (fun x => some (.inl x)) (fun y => some (.inr (.inl y))) (fun y => some (.inr (.inr y)))
noncomputable def f50_l7 (a0 : Int) (a1 : List (List Int)) (a2 : Int) (a4 : (Int × (Int × (List (List Int) × Unit)))) (x : f50_l7_X) : Option f50_l7_Y := loopO (f50_l7_g a0 a1 a2 a4) x
noncomputable def f50_l7_nd : Node := { nils := [], sk := f50_l7_sk, outs := f50_l7_outs, Y := f50_l7_Y, L := fun t => f50_l7 ((f50_l7_con t).1) ((f50_l7_con t).2.1) ((f50_l7_con t).2.2.1) ((f50_l7_con t).2.2.2.1) (f50_l7_get t), out := fun t y => f50_l7_out (f50_l7_con t) y, disp := fun t y K => (Sum.elim (fun y => K .ret (f50_l7_o0.fill (f50_l7_w0 (f50_l7_con t) y))) (fun y => K (.exit 0) (f50_l7_o1.fill (f50_l7_w1 (f50_l7_con t) y)))) y }
noncomputable def f50_fx : Fx := { E := env, T := [(54, f54_sm)], H := [], O := [], nodes := [((true, 18), f50_l18_nd), ((true, 30), f50_l30_nd), ((false, 14), f50_t14_nd), ((true, 7), f50_l7_nd)] }
noncomputable def f50_l18_b : Code := (loops f50_code).getD 1 .skip
theorem f50_l18_r (c : f50_l18_C) (x : f50_l18_X) : roundS f50_fx f50_l18_b f50_l18_nd (f50_l18_put c x) = f50_l18_k c.1 c.2.1 c.2.2.1 c.2.2.2.1 c.2.2.2.2.1 c.2.2.2.2.2.1 c.2.2.2.2.2.2.1 x.1 c.2.2.2.2.2.2.2.1 c.2.2.2.2.2.2.2.2.1 x.2 (fun x => some (.inl (f50_l18_put c x))) (fun y => some (.inr (.inl (f50_l18_w0 c y)))) (fun y => some (.inr (.inr (.inl (f50_l18_w1 c y))))) := by kernel_rfl
theorem f50_l18_n {R : Type} (a0 : Int) (a1 : Int) (a2 : List (List Int)) (a3 : Int) (a4 : Int) (a5 : List (Int × (Int × (List Int × (Bool × Unit))))) (a6 : Int) (a7 : Int) (a8 : (Int × (Int × (List (List Int) × Unit)))) (a9 : (Int × (Int × (List (List Int) × Unit)))) (a10 : List (Int × List Int)) (kin : f50_l18_X → Option R) (k0 : (Int × (Int × (Int × (List (List Int) × Unit)))) → Option R) (k1 : List (Int × List Int) → Option R) : f50_l18_k a0 a1 a2 a3 a4 a5 a6 a7 a8 a9 a10 kin k0 k1 = (f50_l18_g a0 a1 a2 a3 a4 a5 a6 a8 a9 (a7, a10)).bind (Sum.elim kin (Sum.elim k0 k1)) := by
  simp only [f50_l18_g, f50_l18_k, cond_bind, ite_bind, bind_bind, some_bind, none_bind, elim_bind, Sum.elim_inl, Sum.elim_inr]
theorem f50_l18_ok : LoopOk f50_fx f50_l18_b f50_l18_nd := loop_ok f50_l18_con f50_l18_get f50_l18_put f50_l18_pg (fun c => f50_l18_g c.1 c.2.1 c.2.2.1 c.2.2.2.1 c.2.2.2.2.1 c.2.2.2.2.2.1 c.2.2.2.2.2.2.1 c.2.2.2.2.2.2.2.1 c.2.2.2.2.2.2.2.2.1) f50_l18_out (fun t y => rfl) (by intro R t y K; rcases y with y | y <;> rfl) (fun c x => by
  refine (f50_l18_r c x).trans ((f50_l18_n _ _ _ _ _ _ _ _ _ _ _ _ _ _).trans ?_)
  first
  | rfl
  | congr 1
    funext s
    rcases s with s | s | s <;> rfl) (fun t => rfl)
noncomputable def f50_l30_b : Code := (loops f50_code).getD 2 .skip
theorem f50_l30_r (c : f50_l30_C) (x : f50_l30_X) : roundS f50_fx f50_l30_b f50_l30_nd (f50_l30_put c x) = f50_l30_k c.1 c.2.1 c.2.2.1 c.2.2.2.1 c.2.2.2.2.1 x.1 c.2.2.2.2.2.1 x.2 c.2.2.2.2.2.2.1 (fun x => some (.inl (f50_l30_put c x))) (fun y => some (.inr (.inl (f50_l30_w0 c y)))) := by kernel_rfl
theorem f50_l30_n {R : Type} (a0 : Int) (a1 : List (List Int)) (a2 : Int) (a3 : Int) (a4 : Int) (a5 : Int) (a6 : (Int × (Int × (List (List Int) × Unit)))) (a7 : (Int × (Int × (List (List Int) × Unit)))) (a8 : List (Int × List Int)) (kin : f50_l30_X → Option R) (k0 : (Int × (Int × (List (List Int) × Unit))) → Option R) : f50_l30_k a0 a1 a2 a3 a4 a5 a6 a7 a8 kin k0 = (f50_l30_g a0 a1 a2 a3 a4 a6 a8 (a5, a7)).bind (Sum.elim kin k0) := by
  simp only [f50_l30_g, f50_l30_k, cond_bind, ite_bind, bind_bind, some_bind, none_bind, elim_bind, Sum.elim_inl, Sum.elim_inr]
theorem f50_l30_ok : LoopOk f50_fx f50_l30_b f50_l30_nd := loop_ok f50_l30_con f50_l30_get f50_l30_put f50_l30_pg (fun c => f50_l30_g c.1 c.2.1 c.2.2.1 c.2.2.2.1 c.2.2.2.2.1 c.2.2.2.2.2.1 c.2.2.2.2.2.2.1) f50_l30_out (fun t y => rfl) (fun t y K => rfl) (fun c x => by
  refine (f50_l30_r c x).trans ((f50_l30_n _ _ _ _ _ _ _ _ _ _ _).trans ?_)
  first
  | rfl
  | congr 1
    funext s
    rcases s with s | s <;> rfl) (fun t => rfl)
noncomputable def f50_t14_b : Code := (tails f50_code).getD 18 .skip
theorem f50_t14_r (c : f50_t14_C) (x : f50_t14_X) : tailS f50_fx f50_t14_b f50_t14_nd (f50_t14_put c x) = f50_t14_k x.1 x.2.1 x.2.2.1 x.2.2.2.1 x.2.2.2.2.1 x.2.2.2.2.2.1 x.2.2.2.2.2.2.1 x.2.2.2.2.2.2.2 (fun y => some (.inl (f50_t14_w0 c x y))) (fun y => some (.inr (.inl (f50_t14_w1 c x y)))) := by kernel_rfl
theorem f50_t14_n {R : Type} (a0 : Int) (a1 : Int) (a2 : List (Int × (Int × (List Int × (Bool × Unit))))) (a3 : List (List Int)) (a4 : Int) (a5 : Int) (a6 : (Int × (Int × (List (List Int) × Unit)))) (a7 : (Int × (Int × (List (List Int) × Unit)))) (k0 : (Int × (Int × (Int × (List (List Int) × Unit)))) → Option R) (k1 : (Int × (Int × (List (List Int) × Unit))) → Option R) : f50_t14_k a0 a1 a2 a3 a4 a5 a6 a7 k0 k1 = (f50_t14 a0 a1 a2 a3 a4 a5 a6 a7).bind (Sum.elim k0 k1) := by
  simp only [f50_t14, f50_t14_k, cond_bind, ite_bind, bind_bind, some_bind, none_bind, elim_bind, Sum.elim_inl, Sum.elim_inr]
theorem f50_t14_ok : TailOk f50_fx f50_t14_b f50_t14_nd := tail_ok f50_t14_con f50_t14_get f50_t14_put f50_t14_pg (fun x => f50_t14 x.1 x.2.1 x.2.2.1 x.2.2.2.1 x.2.2.2.2.1 x.2.2.2.2.2.1 x.2.2.2.2.2.2.1 x.2.2.2.2.2.2.2) f50_t14_out (fun t y => rfl) (by intro R t y K; rcases y with y | y <;> rfl) (fun c x => by
  refine (f50_t14_r c x).trans ((f50_t14_n _ _ _ _ _ _ _ _ _ _).trans ?_)
  first
  | rfl
  | congr 1
    funext s
    rcases s with s | s <;> rfl) (fun t => rfl)
noncomputable def f50_l7_b : Code := (loops f50_code).getD 0 .skip
theorem f50_l7_r (c : f50_l7_C) (x : f50_l7_X) : roundS f50_fx f50_l7_b f50_l7_nd (f50_l7_put c x) = f50_l7_k c.1 c.2.1 c.2.2.1 x.1 c.2.2.2.1 x.2 (fun x => some (.inl (f50_l7_put c x))) (fun y => some (.inr (.inl (f50_l7_w0 c y)))) (fun y => some (.inr (.inr (.inl (f50_l7_w1 c y))))) := by kernel_rfl
theorem f50_l7_n {R : Type} (a0 : Int) (a1 : List (List Int)) (a2 : Int) (a3 : Int) (a4 : (Int × (Int × (List (List Int) × Unit)))) (a5 : (Int × (Int × (List (List Int) × Unit)))) (kin : f50_l7_X → Option R) (k0 : (Int × (Int × (Int × (List (List Int) × Unit)))) → Option R) (k1 : (Int × (Int × (List (List Int) × Unit))) → Option R) : f50_l7_k a0 a1 a2 a3 a4 a5 kin k0 k1 = (f50_l7_g a0 a1 a2 a4 (a3, a5)).bind (Sum.elim kin (Sum.elim k0 k1)) := by
  simp only [f50_l7_g, f50_l7_k, cond_bind, ite_bind, bind_bind, some_bind, none_bind, elim_bind, Sum.elim_inl, Sum.elim_inr]
theorem f50_l7_ok : LoopOk f50_fx f50_l7_b f50_l7_nd := loop_ok f50_l7_con f50_l7_get f50_l7_put f50_l7_pg (fun c => f50_l7_g c.1 c.2.1 c.2.2.1 c.2.2.2.1) f50_l7_out (fun t y => rfl) (by intro R t y K; rcases y with y | y <;> rfl) (fun c x => by
  refine (f50_l7_r c x).trans ((f50_l7_n _ _ _ _ _ _ _ _ _).trans ?_)
  first
  | rfl
  | congr 1
    funext s
    rcases s with s | s | s <;> rfl) (fun t => rfl)
noncomputable def f50_k {R : Type} (a0 : List (List Int)) (a1 : Int) (k : ((Int × (Int × (List (List Int) × Unit))) × Int × Unit) × (Unit) → Option R) : Option R :=
 (cond (((List.length a0 : Nat) : Int) == (0 : Int))
 (k ((((0 : Int), ((0 : Int), ([], ()))), ((4 : Int), ())), ()))
 (cond (decide (((List.length a0 : Nat) : Int) > (20 : Int)))
  (k ((((0 : Int), ((0 : Int), ([], ()))), ((2 : Int), ())), ()))
  ((f50_l7 a1 a0 ((List.length a0 : Nat) : Int) ((0 : Int), ((0 : Int), (([] : List (List Int)), ()))) ((0 : Int), (((List.length a0 : Nat) : Int), ((0 : Int), ([], ()))))).bind fun y20 =>
   ((Sum.elim (fun z21 =>
   (k ((z21.2, (z21.1, ())), ())))
   (fun z22 =>
   (k ((z22, ((0 : Int), ())), ())))) y20))))
noncomputable def f50 (a0 : List (List Int)) (a1 : Int) : Option (((Int × (Int × (List (List Int) × Unit))) × Int × Unit) × (Unit)) := f50_k a0 a1 some
noncomputable def f50_sm : Sm := ⟨[.ro (.slc (.slc (.int .i64))), .ro (.int .i64)], [((.pair (.int .i64) (.pair (.int .i64) (.pair (.slc (.slc (.int .u8))) .unit))), (.pair .ro (.pair .ro (.pair (.own .ro) .ro)))), ((.int .i64), .ro)], fun x => f50 x.1 x.2.1⟩
theorem f50_m (x : ArgT [.ro (.slc (.slc (.int .i64))), .ro (.int .i64)]) : codeS f50_fx f50_code (start [.ro (.slc (.slc (.int .i64))), .ro (.int .i64)] [] x 114) (finK env [.cell 4 24, .tmp 5] [.ro (.slc (.slc (.int .i64))), .ro (.int .i64)] [((.pair (.int .i64) (.pair (.int .i64) (.pair (.slc (.slc (.int .u8))) .unit))), (.pair .ro (.pair .ro (.pair (.own .ro) .ro)))), ((.int .i64), .ro)]) = f50_k x.1 x.2.1 (fun r => some (r, [])) := by kernel_rfl
theorem f50_n {R : Type} (a0 : List (List Int)) (a1 : Int) (k : ((Int × (Int × (List (List Int) × Unit))) × Int × Unit) × (Unit) → Option R) : f50_k a0 a1 k = (f50 a0 a1).bind k := by
  simp only [f50, f50_k, cond_bind, ite_bind, bind_bind, some_bind, none_bind, elim_bind]
theorem f50_ok : SmOk Try.prog 50 f50_sm :=
  sum_of (c := f50_fx) (fn := Try.f50) (code := f50_code) (sm := f50_sm) mixed (env_ok env_envB) (TabsOk.all ⟨f54_c, trivial⟩) Try.func50 (by kernel_rfl)
   ((LoopsOk.of (l := [f50_l7_b, f50_l18_b, f50_l30_b]) (by kernel_rfl) ⟨node_is (by kernel_rfl) f50_l7_ok, node_is (by kernel_rfl) f50_l18_ok, node_is (by kernel_rfl) f50_l30_ok, trivial⟩))
   ((TailsOk.of (l := [((tails f50_code).getD 0 .skip), ((tails f50_code).getD 1 .skip), ((tails f50_code).getD 2 .skip), ((tails f50_code).getD 3 .skip), ((tails f50_code).getD 4 .skip), ((tails f50_code).getD 5 .skip), ((tails f50_code).getD 6 .skip), ((tails f50_code).getD 7 .skip), ((tails f50_code).getD 8 .skip), ((tails f50_code).getD 9 .skip), ((tails f50_code).getD 10 .skip), ((tails f50_code).getD 11 .skip), ((tails f50_code).getD 12 .skip), ((tails f50_code).getD 13 .skip), ((tails f50_code).getD 14 .skip), ((tails f50_code).getD 15 .skip), ((tails f50_code).getD 16 .skip), ((tails f50_code).getD 17 .skip), f50_t14_b, ((tails f50_code).getD 19 .skip), ((tails f50_code).getD 20 .skip), ((tails f50_code).getD 21 .skip), ((tails f50_code).getD 22 .skip), ((tails f50_code).getD 23 .skip), ((tails f50_code).getD 24 .skip), ((tails f50_code).getD 25 .skip), ((tails f50_code).getD 26 .skip), ((tails f50_code).getD 27 .skip), ((tails f50_code).getD 28 .skip), ((tails f50_code).getD 29 .skip), ((tails f50_code).getD 30 .skip), ((tails f50_code).getD 31 .skip), ((tails f50_code).getD 32 .skip), ((tails f50_code).getD 33 .skip), ((tails f50_code).getD 34 .skip), ((tails f50_code).getD 35 .skip), ((tails f50_code).getD 36 .skip), ((tails f50_code).getD 37 .skip), ((tails f50_code).getD 38 .skip), ((tails f50_code).getD 39 .skip), ((tails f50_code).getD 40 .skip), ((tails f50_code).getD 41 .skip), ((tails f50_code).getD 42 .skip), ((tails f50_code).getD 43 .skip), ((tails f50_code).getD 44 .skip), ((tails f50_code).getD 45 .skip)]) (by kernel_rfl) ⟨node_no (by kernel_rfl), node_no (by kernel_rfl), node_no (by kernel_rfl), node_no (by kernel_rfl), node_no (by kernel_rfl), node_no (by kernel_rfl), node_no (by kernel_rfl), node_no (by kernel_rfl), node_no (by kernel_rfl), node_no (by kernel_rfl), node_no (by kernel_rfl), node_no (by kernel_rfl), node_no (by kernel_rfl), node_no (by kernel_rfl), node_no (by kernel_rfl), node_no (by kernel_rfl), node_no (by kernel_rfl), node_no (by kernel_rfl), node_is (by kernel_rfl) f50_t14_ok, node_no (by kernel_rfl), node_no (by kernel_rfl), node_no (by kernel_rfl), node_no (by kernel_rfl), node_no (by kernel_rfl), node_no (by kernel_rfl), node_no (by kernel_rfl), node_no (by kernel_rfl), node_no (by kernel_rfl), node_no (by kernel_rfl), node_no (by kernel_rfl), node_no (by kernel_rfl), node_no (by kernel_rfl), node_no (by kernel_rfl), node_no (by kernel_rfl), node_no (by kernel_rfl), node_no (by kernel_rfl), node_no (by kernel_rfl), node_no (by kernel_rfl), node_no (by kernel_rfl), node_no (by kernel_rfl), node_no (by kernel_rfl), node_no (by kernel_rfl), node_no (by kernel_rfl), node_no (by kernel_rfl), node_no (by kernel_rfl), node_no (by kernel_rfl), trivial⟩))
   (fun ks x hl => by
    have hk : ks = [] := List.length_eq_zero_iff.1 hl
    subst hk
    exact (f50_m x).trans (f50_n _ _ _))
theorem f50_c : CalOk Try.prog 50 f50_sm := .inl ⟨f50_ok, ⟨Try.f50, Try.func50, by kernel_rfl, by kernel_rfl⟩⟩
noncomputable def f21_code : Code := (Try.f21.body).getD .skip
noncomputable def f21_l5_sk : SkS := ⟨9, [(4, .ptr 64 []), (1, .ptr 96 []), (20, .con (.int .i64)), (0, .con (.int .i64))], [(64, ⟨some 24, (.pair (.int .i64) (.pair (.int .i64) (.pair (.slc (.slc (.int .u8))) .unit))), (.pair .ro (.pair .ro (.pair (.own .ro) .ro))), none⟩), (96, ⟨some 24, (.pair (.int .i64) (.pair (.int .i64) (.pair (.slc (.slc (.int .u8))) .unit))), (.pair .ro (.pair .ro (.pair (.own .ro) .ro))), none⟩)]⟩
noncomputable def f21_l5_o0 : SkS := ⟨31, [(4, .ptr 64 []), (1, .ptr 96 [])], [(64, ⟨some 24, (.pair (.int .i64) (.pair (.int .i64) (.pair (.slc (.slc (.int .u8))) .unit))), (.pair .ro (.pair .ro (.pair (.own .ro) .ro))), none⟩), (96, ⟨some 24, (.pair (.int .i64) (.pair (.int .i64) (.pair (.slc (.slc (.int .u8))) .unit))), (.pair .ro (.pair .ro (.pair (.own .ro) .ro))), none⟩)]⟩
noncomputable def f21_l5_outs : List Way := [⟨(.exit 0), [], f21_l5_o0⟩]
abbrev f21_l5_C := (Int × (Int × (Int × (List (List Int) × Unit))) × (Option Nat) × (Option Nat))
abbrev f21_l5_X := (Int × (Int × (Int × (List (List Int) × Unit))))
abbrev f21_l5_Y := ((Int × (Int × (List (List Int) × Unit))))
noncomputable def f21_l5_con (t : f21_l5_sk.T) : f21_l5_C := (t.1.1, t.2.1.1, t.2.1.2, t.2.2.1.2)
noncomputable def f21_l5_get (t : f21_l5_sk.T) : f21_l5_X := (t.1.2.1, t.2.2.1.1)
noncomputable def f21_l5_put (c : f21_l5_C) (x : f21_l5_X) : f21_l5_sk.T := ((c.1, (x.1, ())), ((c.2.1, c.2.2.1), ((x.2, c.2.2.2), ())))
theorem f21_l5_pg (t : f21_l5_sk.T) : f21_l5_put (f21_l5_con t) (f21_l5_get t) = t := by kernel_rfl
noncomputable def f21_l5_w0 (c : f21_l5_C) (y : (Int × (Int × (List (List Int) × Unit)))) : f21_l5_o0.T := ((), ((c.2.1, c.2.2.1), ((y, c.2.2.2), ())))
noncomputable def f21_l5_out (c : f21_l5_C) (y : f21_l5_Y) : OutV f21_l5_outs := (fun y => (.inl (f21_l5_w0 c y))) y
noncomputable def f21_l5_k {R : Type} (a0 : Int) (a1 : Int) (a2 : (Int × (Int × (List (List Int) × Unit)))) (a3 : (Int × (Int × (List (List Int) × Unit)))) (kin : f21_l5_X → Option R) (k0 : (Int × (Int × (List (List Int) × Unit))) → Option R) : Option R :=
 (cond (decide (a1 < a0))
 (if (List.length a3.2.2.1 + 1) * 24 ≤ most ∧ 0 < 24 ∧ 0 < 1 then (let r1 : List (List Int) := (a3.2.2.1 ++ [(List.replicate 128 (0 : Int))])
  (let v2 : Int := (IntKind.i64.wrap (a1 + (1 : Int)))
  (kin (v2, (a3.1, (a3.2.1, (r1, a3.2.2.2))))))) else none)
 (k0 a3))
noncomputable def f21_l5_g (a0 : Int) (a2 : (Int × (Int × (List (List Int) × Unit)))) (x : f21_l5_X) : Option (f21_l5_X ⊕ f21_l5_Y) := f21_l5_k a0 x.1 a2 x.2 (fun x => some (.inl x)) (fun y => some (.inr y))
noncomputable def f21_l5 (a0 : Int) (a2 : (Int × (Int × (List (List Int) × Unit)))) (x : f21_l5_X) : Option f21_l5_Y := loopO (f21_l5_g a0 a2) x
noncomputable def f21_l5_nd : Node := { nils := [], sk := f21_l5_sk, outs := f21_l5_outs, Y := f21_l5_Y, L := fun t => f21_l5 ((f21_l5_con t).1) ((f21_l5_con t).2.1) (f21_l5_get t), out := fun t y => f21_l5_out (f21_l5_con t) y, disp := fun t y K => (fun y => K (.exit 0) (f21_l5_o0.fill (f21_l5_w0 (f21_l5_con t) y))) y }
noncomputable def f21_fx : Fx := { E := env, T := [], H := [], O := [], nodes := [((true, 5), f21_l5_nd)] }
noncomputable def f21_l5_b : Code := (loops f21_code).getD 0 .skip
theorem f21_l5_r (c : f21_l5_C) (x : f21_l5_X) : roundS f21_fx f21_l5_b f21_l5_nd (f21_l5_put c x) = f21_l5_k c.1 x.1 c.2.1 x.2 (fun x => some (.inl (f21_l5_put c x))) (fun y => some (.inr (.inl (f21_l5_w0 c y)))) := by kernel_rfl
theorem f21_l5_n {R : Type} (a0 : Int) (a1 : Int) (a2 : (Int × (Int × (List (List Int) × Unit)))) (a3 : (Int × (Int × (List (List Int) × Unit)))) (kin : f21_l5_X → Option R) (k0 : (Int × (Int × (List (List Int) × Unit))) → Option R) : f21_l5_k a0 a1 a2 a3 kin k0 = (f21_l5_g a0 a2 (a1, a3)).bind (Sum.elim kin k0) := by
  simp only [f21_l5_g, f21_l5_k, cond_bind, ite_bind, bind_bind, some_bind, none_bind, elim_bind, Sum.elim_inl, Sum.elim_inr]
theorem f21_l5_ok : LoopOk f21_fx f21_l5_b f21_l5_nd := loop_ok f21_l5_con f21_l5_get f21_l5_put f21_l5_pg (fun c => f21_l5_g c.1 c.2.1) f21_l5_out (fun t y => rfl) (fun t y K => rfl) (fun c x => by
  refine (f21_l5_r c x).trans ((f21_l5_n _ _ _ _ _ _).trans ?_)
  first
  | rfl
  | congr 1
    funext s
    rcases s with s | s <;> rfl) (fun t => rfl)
noncomputable def f21_k {R : Type} (a0 : Int) (a1 : Int) (k : ((Int × (Int × (List (List Int) × Unit))) × Int × Unit) × (Unit) → Option R) : Option R :=
 (cond (decide (a0 < (1 : Int)))
 (k ((((0 : Int), ((0 : Int), ([], ()))), ((1 : Int), ())), ()))
 (cond (decide (a0 > (20 : Int)))
  (k ((((0 : Int), ((0 : Int), ([], ()))), ((1 : Int), ())), ()))
  (cond (decide (a1 < (1 : Int)))
   (k ((((0 : Int), ((0 : Int), ([], ()))), ((1 : Int), ())), ()))
   (cond (decide (a1 > (12 : Int)))
    (k ((((0 : Int), ((0 : Int), ([], ()))), ((1 : Int), ())), ()))
    (let v0 : Int := (IntKind.i64.wrap (a0 * a1))
     ((f21_l5 v0 ((0 : Int), ((0 : Int), (([] : List (List Int)), ()))) ((0 : Int), (a0, (a1, ([], ()))))).bind fun y3 =>
     (k ((y3, ((0 : Int), ())), ()))))))))
noncomputable def f21 (a0 : Int) (a1 : Int) : Option (((Int × (Int × (List (List Int) × Unit))) × Int × Unit) × (Unit)) := f21_k a0 a1 some
noncomputable def f21_sm : Sm := ⟨[.ro (.int .i64), .ro (.int .i64)], [((.pair (.int .i64) (.pair (.int .i64) (.pair (.slc (.slc (.int .u8))) .unit))), (.pair .ro (.pair .ro (.pair (.own .ro) .ro)))), ((.int .i64), .ro)], fun x => f21 x.1 x.2.1⟩
theorem f21_m (x : ArgT [.ro (.int .i64), .ro (.int .i64)]) : codeS f21_fx f21_code (start [.ro (.int .i64), .ro (.int .i64)] [] x 38) (finK env [.cell 4 24, .tmp 5] [.ro (.int .i64), .ro (.int .i64)] [((.pair (.int .i64) (.pair (.int .i64) (.pair (.slc (.slc (.int .u8))) .unit))), (.pair .ro (.pair .ro (.pair (.own .ro) .ro)))), ((.int .i64), .ro)]) = f21_k x.1 x.2.1 (fun r => some (r, [])) := by kernel_rfl
theorem f21_n {R : Type} (a0 : Int) (a1 : Int) (k : ((Int × (Int × (List (List Int) × Unit))) × Int × Unit) × (Unit) → Option R) : f21_k a0 a1 k = (f21 a0 a1).bind k := by
  simp only [f21, f21_k, cond_bind, ite_bind, bind_bind, some_bind, none_bind, elim_bind]
theorem f21_ok : SmOk Try.prog 21 f21_sm :=
  sum_of (c := f21_fx) (fn := Try.f21) (code := f21_code) (sm := f21_sm) mixed (env_ok env_envB) (TabsOk.all trivial) Try.func21 (by kernel_rfl)
   ((LoopsOk.of (l := [f21_l5_b]) (by kernel_rfl) ⟨node_is (by kernel_rfl) f21_l5_ok, trivial⟩))
   (no_tails (by kernel_rfl))
   (fun ks x hl => by
    have hk : ks = [] := List.length_eq_zero_iff.1 hl
    subst hk
    exact (f21_m x).trans (f21_n _ _ _))
theorem f21_c : CalOk Try.prog 21 f21_sm := .inl ⟨f21_ok, ⟨Try.f21, Try.func21, by kernel_rfl, by kernel_rfl⟩⟩
noncomputable def f16_code : Code := (Try.f16.body).getD .skip
noncomputable def f16_l6_sk : SkS := ⟨7, [(33, .con (.slc (.slc (.int .u8)))), (0, .con (.int .i64)), (0, .con (.int .i64))], []⟩
noncomputable def f16_l6_o0 : SkS := ⟨40, [(2, .con (.int .i64))], []⟩
noncomputable def f16_l6_o1 : SkS := ⟨43, [], []⟩
noncomputable def f16_l6_outs : List Way := [⟨.ret, [], f16_l6_o0⟩, ⟨(.exit 0), [], f16_l6_o1⟩]
abbrev f16_l6_C := (List (List Int) × Int)
abbrev f16_l6_X := Int
abbrev f16_l6_Y := (Unit) ⊕ (Unit)
noncomputable def f16_l6_con (t : f16_l6_sk.T) : f16_l6_C := (t.1.1, t.1.2.1)
noncomputable def f16_l6_get (t : f16_l6_sk.T) : f16_l6_X := t.1.2.2.1
noncomputable def f16_l6_put (c : f16_l6_C) (x : f16_l6_X) : f16_l6_sk.T := ((c.1, (c.2, (x, ()))), ())
theorem f16_l6_pg (t : f16_l6_sk.T) : f16_l6_put (f16_l6_con t) (f16_l6_get t) = t := by kernel_rfl
noncomputable def f16_l6_w0 (c : f16_l6_C) (y : Unit) : f16_l6_o0.T := (((3 : Int), ()), ())
noncomputable def f16_l6_w1 (c : f16_l6_C) (y : Unit) : f16_l6_o1.T := ((), ())
noncomputable def f16_l6_out (c : f16_l6_C) (y : f16_l6_Y) : OutV f16_l6_outs := (Sum.elim (fun y => (.inl (f16_l6_w0 c y))) (fun y => (.inr (.inl (f16_l6_w1 c y))))) y
noncomputable def f16_l6_k {R : Type} (a0 : List (List Int)) (a1 : Int) (a2 : Int) (kin : f16_l6_X → Option R) (k0 : Unit → Option R) (k1 : Unit → Option R) : Option R :=
 (cond (decide (a2 < a1))
 (if (0 : Int) ≤ a2 ∧ a2 < ((List.length a0 : Nat) : Int) then (cond (((List.length (List.getD a0 (Int.toNat a2) ([] : List Int)) : Nat) : Int) != (128 : Int))
  (k0 ())
  (let v1 : Int := (IntKind.i64.wrap (a2 + (1 : Int)))
   (kin v1))) else none)
 (k1 ()))
noncomputable def f16_l6_g (a0 : List (List Int)) (a1 : Int) (x : f16_l6_X) : Option (f16_l6_X ⊕ f16_l6_Y) := f16_l6_k a0 a1 x (fun x => some (.inl x)) (fun y => some (.inr (.inl y))) (fun y => some (.inr (.inr y)))
noncomputable def f16_l6 (a0 : List (List Int)) (a1 : Int) (x : f16_l6_X) : Option f16_l6_Y := loopO (f16_l6_g a0 a1) x
noncomputable def f16_l6_nd : Node := { nils := [], sk := f16_l6_sk, outs := f16_l6_outs, Y := f16_l6_Y, L := fun t => f16_l6 ((f16_l6_con t).1) ((f16_l6_con t).2) (f16_l6_get t), out := fun t y => f16_l6_out (f16_l6_con t) y, disp := fun t y K => (Sum.elim (fun y => K .ret (f16_l6_o0.fill (f16_l6_w0 (f16_l6_con t) y))) (fun y => K (.exit 0) (f16_l6_o1.fill (f16_l6_w1 (f16_l6_con t) y)))) y }
noncomputable def f16_fx : Fx := { E := env, T := [], H := [], O := [], nodes := [((true, 6), f16_l6_nd)] }
noncomputable def f16_l6_b : Code := (loops f16_code).getD 0 .skip
theorem f16_l6_r (c : f16_l6_C) (x : f16_l6_X) : roundS f16_fx f16_l6_b f16_l6_nd (f16_l6_put c x) = f16_l6_k c.1 c.2 x (fun x => some (.inl (f16_l6_put c x))) (fun y => some (.inr (.inl (f16_l6_w0 c y)))) (fun y => some (.inr (.inr (.inl (f16_l6_w1 c y))))) := by kernel_rfl
theorem f16_l6_n {R : Type} (a0 : List (List Int)) (a1 : Int) (a2 : Int) (kin : f16_l6_X → Option R) (k0 : Unit → Option R) (k1 : Unit → Option R) : f16_l6_k a0 a1 a2 kin k0 k1 = (f16_l6_g a0 a1 a2).bind (Sum.elim kin (Sum.elim k0 k1)) := by
  simp only [f16_l6_g, f16_l6_k, cond_bind, ite_bind, bind_bind, some_bind, none_bind, elim_bind, Sum.elim_inl, Sum.elim_inr]
theorem f16_l6_ok : LoopOk f16_fx f16_l6_b f16_l6_nd := loop_ok f16_l6_con f16_l6_get f16_l6_put f16_l6_pg (fun c => f16_l6_g c.1 c.2) f16_l6_out (fun t y => rfl) (by intro R t y K; rcases y with y | y <;> rfl) (fun c x => by
  refine (f16_l6_r c x).trans ((f16_l6_n _ _ _ _ _ _).trans ?_)
  first
  | rfl
  | congr 1
    funext s
    rcases s with s | s | s <;> rfl) (fun t => rfl)
noncomputable def f16_k {R : Type} (a0 : (Int × (Int × (List (List Int) × Unit)))) (k : (Int × Unit) × (Unit) → Option R) : Option R :=
 (cond (decide (a0.1 < (1 : Int)))
 (k (((1 : Int), ()), ()))
 (cond (decide (a0.1 > (20 : Int)))
  (k (((1 : Int), ()), ()))
  (cond (decide (a0.2.1 < (1 : Int)))
   (k (((1 : Int), ()), ()))
   (cond (decide (a0.2.1 > (12 : Int)))
    (k (((1 : Int), ()), ()))
    (let v0 : Int := (IntKind.i64.wrap (a0.1 * a0.2.1))
     (cond (((List.length a0.2.2.1 : Nat) : Int) != v0)
     (k (((3 : Int), ()), ()))
     ((f16_l6 a0.2.2.1 ((List.length a0.2.2.1 : Nat) : Int) (0 : Int)).bind fun y2 =>
      ((Sum.elim (fun z3 =>
      (k (((3 : Int), ()), ())))
      (fun z4 =>
      (k (((0 : Int), ()), ())))) y2))))))))
noncomputable def f16 (a0 : (Int × (Int × (List (List Int) × Unit)))) : Option ((Int × Unit) × (Unit)) := f16_k a0 some
noncomputable def f16_sm : Sm := ⟨[.ro (.pair (.int .i64) (.pair (.int .i64) (.pair (.slc (.slc (.int .u8))) .unit)))], [((.int .i64), .ro)], fun x => f16 x.1⟩
theorem f16_m (x : ArgT [.ro (.pair (.int .i64) (.pair (.int .i64) (.pair (.slc (.slc (.int .u8))) .unit)))]) : codeS f16_fx f16_code (start [.ro (.pair (.int .i64) (.pair (.int .i64) (.pair (.slc (.slc (.int .u8))) .unit)))] [] x 43) (finK env [.tmp 2] [.ro (.pair (.int .i64) (.pair (.int .i64) (.pair (.slc (.slc (.int .u8))) .unit)))] [((.int .i64), .ro)]) = f16_k x.1 (fun r => some (r, [])) := by kernel_rfl
theorem f16_n {R : Type} (a0 : (Int × (Int × (List (List Int) × Unit)))) (k : (Int × Unit) × (Unit) → Option R) : f16_k a0 k = (f16 a0).bind k := by
  simp only [f16, f16_k, cond_bind, ite_bind, bind_bind, some_bind, none_bind, elim_bind]
theorem f16_ok : SmOk Try.prog 16 f16_sm :=
  sum_of (c := f16_fx) (fn := Try.f16) (code := f16_code) (sm := f16_sm) mixed (env_ok env_envB) (TabsOk.all trivial) Try.func16 (by kernel_rfl)
   ((LoopsOk.of (l := [f16_l6_b]) (by kernel_rfl) ⟨node_is (by kernel_rfl) f16_l6_ok, trivial⟩))
   (no_tails (by kernel_rfl))
   (fun ks x hl => by
    have hk : ks = [] := List.length_eq_zero_iff.1 hl
    subst hk
    exact (f16_m x).trans (f16_n _ _))
theorem f16_c : CalOk Try.prog 16 f16_sm := .inl ⟨f16_ok, ⟨Try.f16, Try.func16, by kernel_rfl, by kernel_rfl⟩⟩
noncomputable def f15_code : Code := (Try.f15.body).getD .skip
noncomputable def f15_fx : Fx := { E := env, T := [(21, f21_sm), (16, f16_sm)], H := [], O := [], nodes := [] }
noncomputable def f15_k {R : Type} (k : (Bool × Unit) × (Unit) → Option R) : Option R :=
 ((f21 (2 : Int) (3 : Int)).bind fun r0 =>
 (cond (r0.1.2.1 == (0 : Int))
 (cond (((List.length r0.1.1.2.2.1 : Nat) : Int) == (6 : Int))
  ((f16 r0.1.1).bind fun r1 =>
   (cond (r1.1.1 == (0 : Int))
   ((f16 ((0 : Int), ((0 : Int), ([], ())))).bind fun r2 =>
    (k (((r2.1.1 == (1 : Int)), ()), ())))
   (k ((false, ()), ()))))
  (k ((false, ()), ())))
 (k ((false, ()), ()))))
noncomputable def f15 : Option ((Bool × Unit) × (Unit)) := f15_k some
noncomputable def f15_sm : Sm := ⟨[], [(.bool, .ro)], fun x => f15⟩
theorem f15_m (x : ArgT []) : codeS f15_fx f15_code (start [] [] x 25) (finK env [.tmp 0] [] [(.bool, .ro)]) = f15_k (fun r => some (r, [])) := by kernel_rfl
theorem f15_n {R : Type} (k : (Bool × Unit) × (Unit) → Option R) : f15_k k = (f15).bind k := by
  simp only [f15, f15_k, cond_bind, ite_bind, bind_bind, some_bind, none_bind, elim_bind]
theorem f15_ok : SmOk Try.prog 15 f15_sm :=
  sum_of (c := f15_fx) (fn := Try.f15) (code := f15_code) (sm := f15_sm) mixed (env_ok env_envB) (TabsOk.all ⟨f21_c, f16_c, trivial⟩) Try.func15 (by kernel_rfl)
   ((LoopsOk.of (l := []) (by kernel_rfl) trivial))
   (no_tails (by kernel_rfl))
   (fun ks x hl => by
    have hk : ks = [] := List.length_eq_zero_iff.1 hl
    subst hk
    exact (f15_m x).trans (f15_n _))
theorem f15_c : CalOk Try.prog 15 f15_sm := .inl ⟨f15_ok, ⟨Try.f15, Try.func15, by kernel_rfl, by kernel_rfl⟩⟩
noncomputable def f19_code : Code := (Try.f19.body).getD .skip
noncomputable def f19_l4_sk : SkS := ⟨16, [(2, .ptr 32 []), (0, .ptr 48 []), (25, .con (.int .i64)), (0, .con (.int .i64))], [(32, ⟨some 24, (.pair (.int .i64) (.pair (.int .i64) (.pair (.slc (.slc (.int .u8))) .unit))), .ro, none⟩), (48, ⟨some 24, (.pair (.int .i64) (.pair (.int .i64) (.pair (.slc (.slc (.int .u8))) .unit))), .ro, none⟩)]⟩
noncomputable def f19_l4_o0 : SkS := ⟨42, [(4, .con .bool)], []⟩
noncomputable def f19_l4_o1 : SkS := ⟨47, [], []⟩
noncomputable def f19_l4_outs : List Way := [⟨.ret, [], f19_l4_o0⟩, ⟨(.exit 0), [], f19_l4_o1⟩]
abbrev f19_l4_C := (Int × (Int × (Int × (List (List Int) × Unit))) × (Int × (Int × (List (List Int) × Unit))) × (Option Nat) × (Option Nat))
abbrev f19_l4_X := Int
abbrev f19_l4_Y := (Unit) ⊕ (Unit)
noncomputable def f19_l4_con (t : f19_l4_sk.T) : f19_l4_C := (t.1.1, t.2.1.1, t.2.2.1.1, t.2.1.2, t.2.2.1.2)
noncomputable def f19_l4_get (t : f19_l4_sk.T) : f19_l4_X := t.1.2.1
noncomputable def f19_l4_put (c : f19_l4_C) (x : f19_l4_X) : f19_l4_sk.T := ((c.1, (x, ())), ((c.2.1, c.2.2.2.1), ((c.2.2.1, c.2.2.2.2), ())))
theorem f19_l4_pg (t : f19_l4_sk.T) : f19_l4_put (f19_l4_con t) (f19_l4_get t) = t := by kernel_rfl
noncomputable def f19_l4_w0 (c : f19_l4_C) (y : Unit) : f19_l4_o0.T := ((false, ()), ())
noncomputable def f19_l4_w1 (c : f19_l4_C) (y : Unit) : f19_l4_o1.T := ((), ())
noncomputable def f19_l4_out (c : f19_l4_C) (y : f19_l4_Y) : OutV f19_l4_outs := (Sum.elim (fun y => (.inl (f19_l4_w0 c y))) (fun y => (.inr (.inl (f19_l4_w1 c y))))) y
noncomputable def f19_l4_k {R : Type} (a0 : Int) (a1 : Int) (a2 : (Int × (Int × (List (List Int) × Unit)))) (a3 : (Int × (Int × (List (List Int) × Unit)))) (kin : f19_l4_X → Option R) (k0 : Unit → Option R) (k1 : Unit → Option R) : Option R :=
 (cond (decide (a1 < a0))
 (if (0 : Int) ≤ a1 ∧ a1 < ((List.length a2.2.2.1 : Nat) : Int) then (if (0 : Int) ≤ a1 ∧ a1 < ((List.length a3.2.2.1 : Nat) : Int) then (cond (!strEq (b2s (List.getD a2.2.2.1 (Int.toNat a1) ([] : List Int))) (b2s (List.getD a3.2.2.1 (Int.toNat a1) ([] : List Int))))
  (k0 ())
  (let v0 : Int := (IntKind.i64.wrap (a1 + (1 : Int)))
   (kin v0))) else none) else none)
 (k1 ()))
noncomputable def f19_l4_g (a0 : Int) (a2 : (Int × (Int × (List (List Int) × Unit)))) (a3 : (Int × (Int × (List (List Int) × Unit)))) (x : f19_l4_X) : Option (f19_l4_X ⊕ f19_l4_Y) := f19_l4_k a0 x a2 a3 (fun x => some (.inl x)) (fun y => some (.inr (.inl y))) (fun y => some (.inr (.inr y)))
noncomputable def f19_l4 (a0 : Int) (a2 : (Int × (Int × (List (List Int) × Unit)))) (a3 : (Int × (Int × (List (List Int) × Unit)))) (x : f19_l4_X) : Option f19_l4_Y := loopO (f19_l4_g a0 a2 a3) x
noncomputable def f19_l4_nd : Node := { nils := [], sk := f19_l4_sk, outs := f19_l4_outs, Y := f19_l4_Y, L := fun t => f19_l4 ((f19_l4_con t).1) ((f19_l4_con t).2.1) ((f19_l4_con t).2.2.1) (f19_l4_get t), out := fun t y => f19_l4_out (f19_l4_con t) y, disp := fun t y K => (Sum.elim (fun y => K .ret (f19_l4_o0.fill (f19_l4_w0 (f19_l4_con t) y))) (fun y => K (.exit 0) (f19_l4_o1.fill (f19_l4_w1 (f19_l4_con t) y)))) y }
noncomputable def f19_fx : Fx := { E := env, T := [], H := [], O := [], nodes := [((true, 4), f19_l4_nd)] }
noncomputable def f19_l4_b : Code := (loops f19_code).getD 0 .skip
theorem f19_l4_r (c : f19_l4_C) (x : f19_l4_X) : roundS f19_fx f19_l4_b f19_l4_nd (f19_l4_put c x) = f19_l4_k c.1 x c.2.1 c.2.2.1 (fun x => some (.inl (f19_l4_put c x))) (fun y => some (.inr (.inl (f19_l4_w0 c y)))) (fun y => some (.inr (.inr (.inl (f19_l4_w1 c y))))) := by kernel_rfl
theorem f19_l4_n {R : Type} (a0 : Int) (a1 : Int) (a2 : (Int × (Int × (List (List Int) × Unit)))) (a3 : (Int × (Int × (List (List Int) × Unit)))) (kin : f19_l4_X → Option R) (k0 : Unit → Option R) (k1 : Unit → Option R) : f19_l4_k a0 a1 a2 a3 kin k0 k1 = (f19_l4_g a0 a2 a3 a1).bind (Sum.elim kin (Sum.elim k0 k1)) := by
  simp only [f19_l4_g, f19_l4_k, cond_bind, ite_bind, bind_bind, some_bind, none_bind, elim_bind, Sum.elim_inl, Sum.elim_inr]
theorem f19_l4_ok : LoopOk f19_fx f19_l4_b f19_l4_nd := loop_ok f19_l4_con f19_l4_get f19_l4_put f19_l4_pg (fun c => f19_l4_g c.1 c.2.1 c.2.2.1) f19_l4_out (fun t y => rfl) (by intro R t y K; rcases y with y | y <;> rfl) (fun c x => by
  refine (f19_l4_r c x).trans ((f19_l4_n _ _ _ _ _ _ _).trans ?_)
  first
  | rfl
  | congr 1
    funext s
    rcases s with s | s | s <;> rfl) (fun t => rfl)
noncomputable def f19_k {R : Type} (a0 : (Int × (Int × (List (List Int) × Unit)))) (a1 : (Int × (Int × (List (List Int) × Unit)))) (k : (Bool × Unit) × (Unit) → Option R) : Option R :=
 (cond (a0.1 != a1.1)
 (k ((false, ()), ()))
 (cond (a0.2.1 != a1.2.1)
  (k ((false, ()), ()))
  (cond (((List.length a0.2.2.1 : Nat) : Int) != ((List.length a1.2.2.1 : Nat) : Int))
   (k ((false, ()), ()))
   ((f19_l4 ((List.length a0.2.2.1 : Nat) : Int) a0 a1 (0 : Int)).bind fun y1 =>
    ((Sum.elim (fun z2 =>
    (k ((false, ()), ())))
    (fun z3 =>
    (k ((true, ()), ())))) y1)))))
noncomputable def f19 (a0 : (Int × (Int × (List (List Int) × Unit)))) (a1 : (Int × (Int × (List (List Int) × Unit)))) : Option ((Bool × Unit) × (Unit)) := f19_k a0 a1 some
noncomputable def f19_sm : Sm := ⟨[.ro (.pair (.int .i64) (.pair (.int .i64) (.pair (.slc (.slc (.int .u8))) .unit))), .ro (.pair (.int .i64) (.pair (.int .i64) (.pair (.slc (.slc (.int .u8))) .unit)))], [(.bool, .ro)], fun x => f19 x.1 x.2.1⟩
theorem f19_m (x : ArgT [.ro (.pair (.int .i64) (.pair (.int .i64) (.pair (.slc (.slc (.int .u8))) .unit))), .ro (.pair (.int .i64) (.pair (.int .i64) (.pair (.slc (.slc (.int .u8))) .unit)))]) : codeS f19_fx f19_code (start [.ro (.pair (.int .i64) (.pair (.int .i64) (.pair (.slc (.slc (.int .u8))) .unit))), .ro (.pair (.int .i64) (.pair (.int .i64) (.pair (.slc (.slc (.int .u8))) .unit)))] [] x 47) (finK env [.tmp 4] [.ro (.pair (.int .i64) (.pair (.int .i64) (.pair (.slc (.slc (.int .u8))) .unit))), .ro (.pair (.int .i64) (.pair (.int .i64) (.pair (.slc (.slc (.int .u8))) .unit)))] [(.bool, .ro)]) = f19_k x.1 x.2.1 (fun r => some (r, [])) := by kernel_rfl
theorem f19_n {R : Type} (a0 : (Int × (Int × (List (List Int) × Unit)))) (a1 : (Int × (Int × (List (List Int) × Unit)))) (k : (Bool × Unit) × (Unit) → Option R) : f19_k a0 a1 k = (f19 a0 a1).bind k := by
  simp only [f19, f19_k, cond_bind, ite_bind, bind_bind, some_bind, none_bind, elim_bind]
theorem f19_ok : SmOk Try.prog 19 f19_sm :=
  sum_of (c := f19_fx) (fn := Try.f19) (code := f19_code) (sm := f19_sm) mixed (env_ok env_envB) (TabsOk.all trivial) Try.func19 (by kernel_rfl)
   ((LoopsOk.of (l := [f19_l4_b]) (by kernel_rfl) ⟨node_is (by kernel_rfl) f19_l4_ok, trivial⟩))
   (no_tails (by kernel_rfl))
   (fun ks x hl => by
    have hk : ks = [] := List.length_eq_zero_iff.1 hl
    subst hk
    exact (f19_m x).trans (f19_n _ _ _))
theorem f19_c : CalOk Try.prog 19 f19_sm := .inl ⟨f19_ok, ⟨Try.f19, Try.func19, by kernel_rfl, by kernel_rfl⟩⟩
noncomputable def f8_code : Code := (Try.f8.body).getD .skip
noncomputable def f8_fx : Fx := { E := env, T := [(49, f49_sm), (50, f50_sm), (15, f15_sm), (19, f19_sm)], H := [], O := [], nodes := [] }
noncomputable def f8_k {R : Type} (a0 : List (List Int)) (a1 : Int) (k : (Bool × Unit) × (Unit) → Option R) : Option R :=
 ((f49 a0 a1).bind fun r0 =>
 ((f50 a0 a1).bind fun r1 =>
 ((f15).bind fun r2 =>
 (cond r2.1.1
 (cond (r0.1.2.1 == r1.1.2.1)
  ((f19 r0.1.1 r1.1.1).bind fun r3 =>
   (k ((r3.1.1, ()), ())))
  (k ((false, ()), ())))
 (k ((false, ()), ()))))))
noncomputable def f8 (a0 : List (List Int)) (a1 : Int) : Option ((Bool × Unit) × (Unit)) := f8_k a0 a1 some
noncomputable def f8_sm : Sm := ⟨[.ro (.slc (.slc (.int .i64))), .ro (.int .i64)], [(.bool, .ro)], fun x => f8 x.1 x.2.1⟩
theorem f8_m (x : ArgT [.ro (.slc (.slc (.int .i64))), .ro (.int .i64)]) : codeS f8_fx f8_code (start [.ro (.slc (.slc (.int .i64))), .ro (.int .i64)] [] x 32) (finK env [.tmp 4] [.ro (.slc (.slc (.int .i64))), .ro (.int .i64)] [(.bool, .ro)]) = f8_k x.1 x.2.1 (fun r => some (r, [])) := by kernel_rfl
theorem f8_n {R : Type} (a0 : List (List Int)) (a1 : Int) (k : (Bool × Unit) × (Unit) → Option R) : f8_k a0 a1 k = (f8 a0 a1).bind k := by
  simp only [f8, f8_k, cond_bind, ite_bind, bind_bind, some_bind, none_bind, elim_bind]
theorem f8_ok : SmOk Try.prog 8 f8_sm :=
  sum_of (c := f8_fx) (fn := Try.f8) (code := f8_code) (sm := f8_sm) mixed (env_ok env_envB) (TabsOk.all ⟨f49_c, f50_c, f15_c, f19_c, trivial⟩) Try.func8 (by kernel_rfl)
   ((LoopsOk.of (l := []) (by kernel_rfl) trivial))
   (no_tails (by kernel_rfl))
   (fun ks x hl => by
    have hk : ks = [] := List.length_eq_zero_iff.1 hl
    subst hk
    exact (f8_m x).trans (f8_n _ _ _))
end Go.Proofs.Ytlgbhaigpecdoaa.V
