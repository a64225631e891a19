/- Printed. -/
import Derived.Test.YtlgbhaigpecdoaaVEok
set_option linter.unusedVariables false
set_option linter.unusedSimpArgs false
set_option maxRecDepth 100000
namespace Go.Proofs.Ytlgbhaigpecdoaa.V
open Go
noncomputable def f80_code : Code := (Try.f80.body).getD .skip
noncomputable def f80_l3_sk : SkS := ⟨16, [(3, .con (.int .i64)), (2, .con (.slc (.pair .bool (.pair (.slc (.int .u8)) .unit)))), (0, .con (.int .i64)), (0, .con (.int .i64))], []⟩
noncomputable def f80_l3_o0 : SkS := ⟨22, [(2, .con (.int .i64))], []⟩
noncomputable def f80_l3_o1 : SkS := ⟨21, [(3, .con (.int .i64))], []⟩
noncomputable def f80_l3_outs : List Way := [⟨.ret, [], f80_l3_o0⟩, ⟨(.exit 0), [], f80_l3_o1⟩]
abbrev f80_l3_C := (List (Bool × (List Int × Unit)) × Int)
abbrev f80_l3_X := (Int × Int)
abbrev f80_l3_Y := (Unit) ⊕ (Int)
noncomputable def f80_l3_con (t : f80_l3_sk.T) : f80_l3_C := (t.1.2.1, t.1.2.2.1)
noncomputable def f80_l3_get (t : f80_l3_sk.T) : f80_l3_X := (t.1.1, t.1.2.2.2.1)
noncomputable def f80_l3_put (c : f80_l3_C) (x : f80_l3_X) : f80_l3_sk.T := ((x.1, (c.1, (c.2, (x.2, ())))), ())
theorem f80_l3_pg (t : f80_l3_sk.T) : f80_l3_put (f80_l3_con t) (f80_l3_get t) = t := by kernel_rfl
noncomputable def f80_l3_w0 (c : f80_l3_C) (y : Unit) : f80_l3_o0.T := (((2401 : Int), ()), ())
noncomputable def f80_l3_w1 (c : f80_l3_C) (y : Int) : f80_l3_o1.T := ((y, ()), ())
noncomputable def f80_l3_out (c : f80_l3_C) (y : f80_l3_Y) : OutV f80_l3_outs := (Sum.elim (fun y => (.inl (f80_l3_w0 c y))) (fun y => (.inr (.inl (f80_l3_w1 c y))))) y
noncomputable def f80_l3_k {R : Type} (a0 : Int) (a1 : List (Bool × (List Int × Unit))) (a2 : Int) (a3 : Int) (kin : f80_l3_X → Option R) (k0 : Unit → Option R) (k1 : Int → Option R) : Option R :=
 (cond (decide (a3 < a2))
 (if (0 : Int) ≤ a3 ∧ a3 < ((List.length a1 : Nat) : Int) then (let v0 : Int := (IntKind.i64.wrap (a0 + ((List.length (List.getD a1 (Int.toNat a3) (false, (([] : List Int), ()))).2.1 : Nat) : Int)))
  (cond (List.getD a1 (Int.toNat a3) (false, (([] : List Int), ()))).1
  (let v1 : Int := (IntKind.i64.wrap (v0 + (1 : Int)))
   (cond (decide (v1 > (2400 : Int)))
   (k0 ())
   (let v2 : Int := (IntKind.i64.wrap (a3 + (1 : Int)))
    (kin (v1, v2)))))
  (cond (decide (v0 > (2400 : Int)))
   (k0 ())
   (let v3 : Int := (IntKind.i64.wrap (a3 + (1 : Int)))
    (kin (v0, v3)))))) else none)
 (k1 a0))
noncomputable def f80_l3_g (a1 : List (Bool × (List Int × Unit))) (a2 : Int) (x : f80_l3_X) : Option (f80_l3_X ⊕ f80_l3_Y) := f80_l3_k x.1 a1 a2 x.2 (fun x => some (.inl x)) (fun y => some (.inr (.inl y))) (fun y => some (.inr (.inr y)))
noncomputable def f80_l3 (a1 : List (Bool × (List Int × Unit))) (a2 : Int) (x : f80_l3_X) : Option f80_l3_Y := loopO (f80_l3_g a1 a2) x
noncomputable def f80_l3_nd : Node := { nils := [], sk := f80_l3_sk, outs := f80_l3_outs, Y := f80_l3_Y, L := fun t => f80_l3 ((f80_l3_con t).1) ((f80_l3_con t).2) (f80_l3_get t), out := fun t y => f80_l3_out (f80_l3_con t) y, disp := fun t y K => (Sum.elim (fun y => K .ret (f80_l3_o0.fill (f80_l3_w0 (f80_l3_con t) y))) (fun y => K (.exit 0) (f80_l3_o1.fill (f80_l3_w1 (f80_l3_con t) y)))) y }
noncomputable def f80_fx : Fx := { E := env, T := [], H := [], O := [], nodes := [((true, 3), f80_l3_nd)] }
noncomputable def f80_l3_b : Code := (loops f80_code).getD 0 .skip
theorem f80_l3_r (c : f80_l3_C) (x : f80_l3_X) : roundS f80_fx f80_l3_b f80_l3_nd (f80_l3_put c x) = f80_l3_k x.1 c.1 c.2 x.2 (fun x => some (.inl (f80_l3_put c x))) (fun y => some (.inr (.inl (f80_l3_w0 c y)))) (fun y => some (.inr (.inr (.inl (f80_l3_w1 c y))))) := by kernel_rfl
theorem f80_l3_n {R : Type} (a0 : Int) (a1 : List (Bool × (List Int × Unit))) (a2 : Int) (a3 : Int) (kin : f80_l3_X → Option R) (k0 : Unit → Option R) (k1 : Int → Option R) : f80_l3_k a0 a1 a2 a3 kin k0 k1 = (f80_l3_g a1 a2 (a0, a3)).bind (Sum.elim kin (Sum.elim k0 k1)) := by
  simp only [f80_l3_g, f80_l3_k, cond_bind, ite_bind, bind_bind, some_bind, none_bind, elim_bind, Sum.elim_inl, Sum.elim_inr]
theorem f80_l3_ok : LoopOk f80_fx f80_l3_b f80_l3_nd := loop_ok f80_l3_con f80_l3_get f80_l3_put f80_l3_pg (fun c => f80_l3_g c.1 c.2) f80_l3_out (fun t y => rfl) (by intro R t y K; rcases y with y | y <;> rfl) (fun c x => by
  refine (f80_l3_r c x).trans ((f80_l3_n _ _ _ _ _ _ _).trans ?_)
  first
  | rfl
  | congr 1
    funext s
    rcases s with s | s | s <;> rfl) (fun t => rfl)
noncomputable def f80_k {R : Type} (a0 : List (Bool × (List Int × Unit))) (k : (Int × Unit) × (Unit) → Option R) : Option R :=
 ((f80_l3 a0 ((List.length a0 : Nat) : Int) ((0 : Int), (0 : Int))).bind fun y4 =>
 ((Sum.elim (fun z5 =>
 (k (((2401 : Int), ()), ())))
 (fun z6 =>
 (k ((z6, ()), ())))) y4))
noncomputable def f80 (a0 : List (Bool × (List Int × Unit))) : Option ((Int × Unit) × (Unit)) := f80_k a0 some
noncomputable def f80_sm : Sm := ⟨[.ro (.slc (.pair .bool (.pair (.slc (.int .u8)) .unit)))], [((.int .i64), .ro)], fun x => f80 x.1⟩
theorem f80_m (x : ArgT [.ro (.slc (.pair .bool (.pair (.slc (.int .u8)) .unit)))]) : codeS f80_fx f80_code (start [.ro (.slc (.pair .bool (.pair (.slc (.int .u8)) .unit)))] [] x 25) (finK env [.tmp 2] [.ro (.slc (.pair .bool (.pair (.slc (.int .u8)) .unit)))] [((.int .i64), .ro)]) = f80_k x.1 (fun r => some (r, [])) := by kernel_rfl
theorem f80_n {R : Type} (a0 : List (Bool × (List Int × Unit))) (k : (Int × Unit) × (Unit) → Option R) : f80_k a0 k = (f80 a0).bind k := by
  simp only [f80, f80_k, cond_bind, ite_bind, bind_bind, some_bind, none_bind, elim_bind]
theorem f80_ok : SmOk Try.prog 80 f80_sm :=
  sum_of (c := f80_fx) (fn := Try.f80) (code := f80_code) (sm := f80_sm) mixed (env_ok env_envB) (TabsOk.all trivial) Try.func80 (by kernel_rfl)
   ((LoopsOk.of (l := [f80_l3_b]) (by kernel_rfl) ⟨node_is (by kernel_rfl) f80_l3_ok, trivial⟩))
   (no_tails (by kernel_rfl))
   (fun ks x hl => by
    have hk : ks = [] := List.length_eq_zero_iff.1 hl
    subst hk
    exact (f80_m x).trans (f80_n _ _))
theorem f80_c : CalOk Try.prog 80 f80_sm := .inl ⟨f80_ok, ⟨Try.f80, Try.func80, by kernel_rfl, by kernel_rfl⟩⟩
noncomputable def f82_k {R : Type} (a0 : (List Int × (Int × (Bool × Unit)))) (a1 : Bool) (k : (Unit) × ((List Int × (Int × (Bool × Unit))) × Unit) → Option R) : Option R :=
 (let v0 : Int := (IntKind.i64.wrap (a0.2.1 + (1 : Int)))
 (cond a1
 (if (List.length a0.1 + 1) * 8 ≤ most ∧ 0 < 8 ∧ 0 < 1 then (let r1 : List Int := (a0.1 ++ [v0])
  (k ((), ((r1, ((0 : Int), a0.2.2)), ())))) else none)
 (k ((), ((a0.1, (v0, a0.2.2)), ())))))
noncomputable def f82 (a0 : (List Int × (Int × (Bool × Unit)))) (a1 : Bool) : Option ((Unit) × ((List Int × (Int × (Bool × Unit))) × Unit)) := f82_k a0 a1 some
abbrev f81_l1_X := (Int × (List Int × (Int × (Bool × Unit))))
abbrev f81_l1_Y := ((List Int × (Int × (Bool × Unit))))
noncomputable def f81_l1_k {R : Type} (a0 : Int) (a1 : Bool) (a2 : Int) (a3 : (List Int × (Int × (Bool × Unit)))) (kin : f81_l1_X → Option R) (k0 : (List Int × (Int × (Bool × Unit))) → Option R) : Option R :=
 (cond (decide (a2 < (8 : Int)))
 (let v0 : Int := (IntKind.i64.wrap ((7 : Int) - a2))
  (if v0 < 0 then none else (let v1 : Int := (Int.fdiv a0 (2 ^ (min (Int.toNat v0) 8)))
  (let v2 : Int := (bitop IntKind.u8 .and v1 (1 : Int))
  (cond (!(v2 == (1 : Int)))
  (cond (!a3.2.2.1)
   (cond a1
    ((f82 a3 (!(a2 == (5 : Int)))).bind fun r3 =>
     ((f82 r3.2.1 (v2 == (1 : Int))).bind fun r4 =>
     (let v5 : Int := (IntKind.i64.wrap (a2 + (1 : Int)))
     (kin (v5, (r4.2.1.1, (r4.2.1.2.1, ((v2 == (1 : Int)), r4.2.1.2.2.2))))))))
    ((f82 a3 true).bind fun r6 =>
     ((f82 r6.2.1 (v2 == (1 : Int))).bind fun r7 =>
     (let v8 : Int := (IntKind.i64.wrap (a2 + (1 : Int)))
     (kin (v8, (r7.2.1.1, (r7.2.1.2.1, ((v2 == (1 : Int)), r7.2.1.2.2.2)))))))))
   ((f82 a3 false).bind fun r9 =>
    ((f82 r9.2.1 (v2 == (1 : Int))).bind fun r10 =>
    (let v11 : Int := (IntKind.i64.wrap (a2 + (1 : Int)))
    (kin (v11, (r10.2.1.1, (r10.2.1.2.1, ((v2 == (1 : Int)), r10.2.1.2.2.2)))))))))
  ((f82 a3 false).bind fun r12 =>
   ((f82 r12.2.1 (v2 == (1 : Int))).bind fun r13 =>
   (let v14 : Int := (IntKind.i64.wrap (a2 + (1 : Int)))
   (kin (v14, (r13.2.1.1, (r13.2.1.2.1, ((v2 == (1 : Int)), r13.2.1.2.2.2)))))))))))))
 (k0 a3))
noncomputable def f81_l1_g (a0 : Int) (a1 : Bool) (x : f81_l1_X) : Option (f81_l1_X ⊕ f81_l1_Y) := f81_l1_k a0 a1 x.1 x.2 (fun x => some (.inl x)) (fun y => some (.inr y))
noncomputable def f81_l1 (a0 : Int) (a1 : Bool) (x : f81_l1_X) : Option f81_l1_Y := loopO (f81_l1_g a0 a1) x
noncomputable def f81_k {R : Type} (a0 : (List Int × (Int × (Bool × Unit)))) (a1 : Int) (a2 : Bool) (k : (Unit) × ((List Int × (Int × (Bool × Unit))) × Unit) → Option R) : Option R :=
 ((f81_l1 a1 a2 ((0 : Int), a0)).bind fun y15 =>
 (k ((), (y15, ()))))
noncomputable def f81 (a0 : (List Int × (Int × (Bool × Unit)))) (a1 : Int) (a2 : Bool) : Option ((Unit) × ((List Int × (Int × (Bool × Unit))) × Unit)) := f81_k a0 a1 a2 some
abbrev f83_l7_X := (Int × List Int)
abbrev f83_l7_Y := (Unit) ⊕ (List Int)
noncomputable def f83_l7_k {R : Type} (a0 : Int) (a1 : List Int) (a2 : Int) (a3 : Int) (a4 : List Int) (kin : f83_l7_X → Option R) (k0 : Unit → Option R) (k1 : List Int → Option R) : Option R :=
 (cond (decide (a3 < a2))
 (if (0 : Int) ≤ a3 ∧ a3 < ((List.length a1 : Nat) : Int) then (cond (decide ((List.getD a1 (Int.toNat a3) (0 : Int)) < (1 : Int)))
  (k0 ())
  (cond (decide ((List.getD a1 (Int.toNat a3) (0 : Int)) > (100 : Int)))
   (k0 ())
   (let v0 : Int := (IntKind.i64.wrap ((List.getD a1 (Int.toNat a3) (0 : Int)) * a0))
    (if (List.length a4 + 1) * 8 ≤ most ∧ 0 < 8 ∧ 0 < 1 then (let r1 : List Int := (a4 ++ [v0])
    (let v2 : Int := (IntKind.i64.wrap (a3 + (1 : Int)))
    (kin (v2, r1)))) else none)))) else none)
 (k1 a4))
noncomputable def f83_l7_g (a0 : Int) (a1 : List Int) (a2 : Int) (x : f83_l7_X) : Option (f83_l7_X ⊕ f83_l7_Y) := f83_l7_k a0 a1 a2 x.1 x.2 (fun x => some (.inl x)) (fun y => some (.inr (.inl y))) (fun y => some (.inr (.inr y)))
noncomputable def f83_l7 (a0 : Int) (a1 : List Int) (a2 : Int) (x : f83_l7_X) : Option f83_l7_Y := loopO (f83_l7_g a0 a1 a2) x
noncomputable def f83_k {R : Type} (a0 : List Int) (a1 : Int) (k : (List Int × Int × Unit) × (Unit) → Option R) : Option R :=
 (cond (decide (a1 < (2 : Int)))
 (k (([], ((1 : Int), ())), ()))
 (cond (decide (a1 > (1000 : Int)))
  (k (([], ((1 : Int), ())), ()))
  (cond (decide (((List.length a0 : Nat) : Int) > (40000 : Int)))
   (k (([], ((2 : Int), ())), ()))
   ((f83_l7 a1 a0 ((List.length a0 : Nat) : Int) ((0 : Int), [])).bind fun y3 =>
    ((Sum.elim (fun z4 =>
    (k (([], ((3 : Int), ())), ())))
    (fun z5 =>
    (k ((z5, ((0 : Int), ())), ())))) y3)))))
noncomputable def f83 (a0 : List Int) (a1 : Int) : Option ((List Int × Int × Unit) × (Unit)) := f83_k a0 a1 some
abbrev f29_l10_X := (Int × (List Int × (Int × (Bool × Unit))))
abbrev f29_l10_Y := ((List Int × (Int × (Bool × Unit))))
noncomputable def f29_l10_k {R : Type} (a0 : Int) (a1 : List (Bool × (List Int × Unit))) (a2 : Int) (a3 : Int) (a4 : List Int) (a5 : Int) (a6 : Int) (a7 : (List Int × (Int × (Bool × Unit)))) (kin : f29_l10_X → Option R) (k0 : (List Int × (Int × (Bool × Unit))) → Option R) : Option R :=
 (cond (decide (a6 < a5))
 (if (0 : Int) ≤ a6 ∧ a6 < ((List.length a4 : Nat) : Int) then ((f81 a7 (List.getD a4 (Int.toNat a6) (0 : Int)) false).bind fun r2 =>
  (let v3 : Int := (IntKind.i64.wrap (a6 + (1 : Int)))
  (kin (v3, r2.2.1)))) else none)
 (k0 a7))
noncomputable def f29_l10_g (a0 : Int) (a1 : List (Bool × (List Int × Unit))) (a2 : Int) (a3 : Int) (a4 : List Int) (a5 : Int) (x : f29_l10_X) : Option (f29_l10_X ⊕ f29_l10_Y) := f29_l10_k a0 a1 a2 a3 a4 a5 x.1 x.2 (fun x => some (.inl x)) (fun y => some (.inr y))
noncomputable def f29_l10 (a0 : Int) (a1 : List (Bool × (List Int × Unit))) (a2 : Int) (a3 : Int) (a4 : List Int) (a5 : Int) (x : f29_l10_X) : Option f29_l10_Y := loopO (f29_l10_g a0 a1 a2 a3 a4 a5) x
abbrev f29_t9_Y := ((List Int × (Int × (Bool × Unit))))
noncomputable def f29_t9_k {R : Type} (a0 : Int) (a1 : List (Bool × (List Int × Unit))) (a2 : Int) (a3 : Int) (a4 : (Bool × (List Int × Unit))) (a5 : (List Int × (Int × (Bool × Unit)))) (k0 : (List Int × (Int × (Bool × Unit))) → Option R) : Option R :=
 ((f29_l10 a0 a1 a2 a3 a4.2.1 ((List.length a4.2.1 : Nat) : Int) ((0 : Int), a5)).bind fun y4 =>
 (k0 y4))
noncomputable def f29_t9 (a0 : Int) (a1 : List (Bool × (List Int × Unit))) (a2 : Int) (a3 : Int) (a4 : (Bool × (List Int × Unit))) (a5 : (List Int × (Int × (Bool × Unit)))) : Option f29_t9_Y := f29_t9_k a0 a1 a2 a3 a4 a5 (fun y => some y)
abbrev f29_l5_X := (Int × (List Int × (Int × (Bool × Unit))))
abbrev f29_l5_Y := ((List Int × (Int × (Bool × Unit))))
noncomputable def f29_l5_k {R : Type} (a0 : Int) (a1 : List (Bool × (List Int × Unit))) (a2 : Int) (a3 : Int) (a4 : (List Int × (Int × (Bool × Unit)))) (kin : f29_l5_X → Option R) (k0 : (List Int × (Int × (Bool × Unit))) → Option R) : Option R :=
 (cond (decide (a3 < a2))
 (if (0 : Int) ≤ a3 ∧ a3 < ((List.length a1 : Nat) : Int) then (cond (List.getD a1 (Int.toNat a3) (false, (([] : List Int), ()))).1
  ((f81 a4 (161 : Int) true).bind fun r1 =>
   ((f29_t9 a0 a1 a2 a3 (List.getD a1 (Int.toNat a3) (false, (([] : List Int), ()))) r1.2.1).bind fun y5 =>
   (let v6 : Int := (IntKind.i64.wrap (a3 + (1 : Int)))
   (kin (v6, y5)))))
  ((f29_t9 a0 a1 a2 a3 (List.getD a1 (Int.toNat a3) (false, (([] : List Int), ()))) a4).bind fun y7 =>
   (let v8 : Int := (IntKind.i64.wrap (a3 + (1 : Int)))
   (kin (v8, y7))))) else none)
 (k0 a4))
noncomputable def f29_l5_g (a0 : Int) (a1 : List (Bool × (List Int × Unit))) (a2 : Int) (x : f29_l5_X) : Option (f29_l5_X ⊕ f29_l5_Y) := f29_l5_k a0 a1 a2 x.1 x.2 (fun x => some (.inl x)) (fun y => some (.inr y))
noncomputable def f29_l5 (a0 : Int) (a1 : List (Bool × (List Int × Unit))) (a2 : Int) (x : f29_l5_X) : Option f29_l5_Y := loopO (f29_l5_g a0 a1 a2) x
noncomputable def f29_k {R : Type} (a0 : List (Bool × (List Int × Unit))) (a1 : Int) (k : (List Int × Int × Unit) × (Unit) → Option R) : Option R :=
 ((f80 a0).bind fun r0 =>
 (cond (decide (r0.1.1 > (2400 : Int)))
 (k (([], ((2 : Int), ())), ()))
 ((f29_l5 a1 a0 ((List.length a0 : Nat) : Int) ((0 : Int), ([], ((0 : Int), (true, ()))))).bind fun y9 =>
  ((f82 y9 false).bind fun r10 =>
  ((f82 r10.2.1 true).bind fun r11 =>
  ((f83 r11.2.1.1 a1).bind fun r12 =>
  (k ((r12.1.1, (r12.1.2.1, ())), ()))))))))
noncomputable def f29 (a0 : List (Bool × (List Int × Unit))) (a1 : Int) : Option ((List Int × Int × Unit) × (Unit)) := f29_k a0 a1 some
noncomputable def f28_k {R : Type} (a0 : List Int) (a1 : Int) (k : (List Int × Int × Unit) × (Unit) → Option R) : Option R :=
 ((f29 [(false, (a0, ()))] a1).bind fun r0 =>
 (k ((r0.1.1, (r0.1.2.1, ())), ())))
noncomputable def f28 (a0 : List Int) (a1 : Int) : Option ((List Int × Int × Unit) × (Unit)) := f28_k a0 a1 some
noncomputable def f104_code : Code := (Try.f104.body).getD .skip
noncomputable def f104_l4_sk : SkS := ⟨10, [(8, .con (.slc (.int .i64))), (0, .con (.int .i64)), (0, .con (.int .i64))], []⟩
noncomputable def f104_l4_o0 : SkS := ⟨18, [(2, .con (.int .i64))], []⟩
noncomputable def f104_l4_o1 : SkS := ⟨21, [], []⟩
noncomputable def f104_l4_outs : List Way := [⟨.ret, [], f104_l4_o0⟩, ⟨(.exit 0), [], f104_l4_o1⟩]
abbrev f104_l4_C := (List Int × Int)
abbrev f104_l4_X := Int
abbrev f104_l4_Y := (Unit) ⊕ (Unit)
noncomputable def f104_l4_con (t : f104_l4_sk.T) : f104_l4_C := (t.1.1, t.1.2.1)
noncomputable def f104_l4_get (t : f104_l4_sk.T) : f104_l4_X := t.1.2.2.1
noncomputable def f104_l4_put (c : f104_l4_C) (x : f104_l4_X) : f104_l4_sk.T := ((c.1, (c.2, (x, ()))), ())
theorem f104_l4_pg (t : f104_l4_sk.T) : f104_l4_put (f104_l4_con t) (f104_l4_get t) = t := by kernel_rfl
noncomputable def f104_l4_w0 (c : f104_l4_C) (y : Unit) : f104_l4_o0.T := (((1 : Int), ()), ())
noncomputable def f104_l4_w1 (c : f104_l4_C) (y : Unit) : f104_l4_o1.T := ((), ())
noncomputable def f104_l4_out (c : f104_l4_C) (y : f104_l4_Y) : OutV f104_l4_outs := (Sum.elim (fun y => (.inl (f104_l4_w0 c y))) (fun y => (.inr (.inl (f104_l4_w1 c y))))) y
noncomputable def f104_l4_k {R : Type} (a0 : List Int) (a1 : Int) (a2 : Int) (kin : f104_l4_X → Option R) (k0 : Unit → Option R) (k1 : Unit → Option R) : Option R :=
 (cond (decide (a2 < a1))
 (if (0 : Int) ≤ a2 ∧ a2 < ((List.length a0 : Nat) : Int) then (cond (decide ((List.getD a0 (Int.toNat a2) (0 : Int)) < (1 : Int)))
  (k0 ())
  (cond (decide ((List.getD a0 (Int.toNat a2) (0 : Int)) > (100000 : Int)))
   (k0 ())
   (let v0 : Int := (IntKind.i64.wrap (a2 + (1 : Int)))
    (kin v0)))) else none)
 (k1 ()))
noncomputable def f104_l4_g (a0 : List Int) (a1 : Int) (x : f104_l4_X) : Option (f104_l4_X ⊕ f104_l4_Y) := f104_l4_k a0 a1 x (fun x => some (.inl x)) (fun y => some (.inr (.inl y))) (fun y => some (.inr (.inr y)))
noncomputable def f104_l4 (a0 : List Int) (a1 : Int) (x : f104_l4_X) : Option f104_l4_Y := loopO (f104_l4_g a0 a1) x
noncomputable def f104_l4_nd : Node := { nils := [], sk := f104_l4_sk, outs := f104_l4_outs, Y := f104_l4_Y, L := fun t => f104_l4 ((f104_l4_con t).1) ((f104_l4_con t).2) (f104_l4_get t), out := fun t y => f104_l4_out (f104_l4_con t) y, disp := fun t y K => (Sum.elim (fun y => K .ret (f104_l4_o0.fill (f104_l4_w0 (f104_l4_con t) y))) (fun y => K (.exit 0) (f104_l4_o1.fill (f104_l4_w1 (f104_l4_con t) y)))) y }
noncomputable def f104_fx : Fx := { E := env, T := [], H := [], O := [], nodes := [((true, 4), f104_l4_nd)] }
noncomputable def f104_l4_b : Code := (loops f104_code).getD 0 .skip
theorem f104_l4_r (c : f104_l4_C) (x : f104_l4_X) : roundS f104_fx f104_l4_b f104_l4_nd (f104_l4_put c x) = f104_l4_k c.1 c.2 x (fun x => some (.inl (f104_l4_put c x))) (fun y => some (.inr (.inl (f104_l4_w0 c y)))) (fun y => some (.inr (.inr (.inl (f104_l4_w1 c y))))) := by kernel_rfl
theorem f104_l4_n {R : Type} (a0 : List Int) (a1 : Int) (a2 : Int) (kin : f104_l4_X → Option R) (k0 : Unit → Option R) (k1 : Unit → Option R) : f104_l4_k a0 a1 a2 kin k0 k1 = (f104_l4_g a0 a1 a2).bind (Sum.elim kin (Sum.elim k0 k1)) := by
  simp only [f104_l4_g, f104_l4_k, cond_bind, ite_bind, bind_bind, some_bind, none_bind, elim_bind, Sum.elim_inl, Sum.elim_inr]
theorem f104_l4_ok : LoopOk f104_fx f104_l4_b f104_l4_nd := loop_ok f104_l4_con f104_l4_get f104_l4_put f104_l4_pg (fun c => f104_l4_g c.1 c.2) f104_l4_out (fun t y => rfl) (by intro R t y K; rcases y with y | y <;> rfl) (fun c x => by
  refine (f104_l4_r c x).trans ((f104_l4_n _ _ _ _ _ _).trans ?_)
  first
  | rfl
  | congr 1
    funext s
    rcases s with s | s | s <;> rfl) (fun t => rfl)
noncomputable def f104_k {R : Type} (a0 : List Int) (k : (Int × Unit) × (Unit) → Option R) : Option R :=
 (cond (decide (((List.length a0 : Nat) : Int) > (40000 : Int)))
 (k (((2 : Int), ()), ()))
 ((f104_l4 a0 ((List.length a0 : Nat) : Int) (0 : Int)).bind fun y1 =>
  ((Sum.elim (fun z2 =>
  (k (((1 : Int), ()), ())))
  (fun z3 =>
  (k (((0 : Int), ()), ())))) y1)))
noncomputable def f104 (a0 : List Int) : Option ((Int × Unit) × (Unit)) := f104_k a0 some
noncomputable def f104_sm : Sm := ⟨[.ro (.slc (.int .i64))], [((.int .i64), .ro)], fun x => f104 x.1⟩
theorem f104_m (x : ArgT [.ro (.slc (.int .i64))]) : codeS f104_fx f104_code (start [.ro (.slc (.int .i64))] [] x 21) (finK env [.tmp 2] [.ro (.slc (.int .i64))] [((.int .i64), .ro)]) = f104_k x.1 (fun r => some (r, [])) := by kernel_rfl
theorem f104_n {R : Type} (a0 : List Int) (k : (Int × Unit) × (Unit) → Option R) : f104_k a0 k = (f104 a0).bind k := by
  simp only [f104, f104_k, cond_bind, ite_bind, bind_bind, some_bind, none_bind, elim_bind]
theorem f104_ok : SmOk Try.prog 104 f104_sm :=
  sum_of (c := f104_fx) (fn := Try.f104) (code := f104_code) (sm := f104_sm) mixed (env_ok env_envB) (TabsOk.all trivial) Try.func104 (by kernel_rfl)
   ((LoopsOk.of (l := [f104_l4_b]) (by kernel_rfl) ⟨node_is (by kernel_rfl) f104_l4_ok, trivial⟩))
   (no_tails (by kernel_rfl))
   (fun ks x hl => by
    have hk : ks = [] := List.length_eq_zero_iff.1 hl
    subst hk
    exact (f104_m x).trans (f104_n _ _))
theorem f104_c : CalOk Try.prog 104 f104_sm := .inl ⟨f104_ok, ⟨Try.f104, Try.func104, by kernel_rfl, by kernel_rfl⟩⟩
noncomputable def f84_code : Code := (Try.f84.body).getD .skip
noncomputable def f84_l8_sk : SkS := ⟨23, [(1, .con (.int .i64)), (0, .con (.int .i64)), (6, .ref 159 []), (14, .con (.slc (.int .i64))), (0, .con (.int .i64)), (0, .con (.int .i64))], [(159, ⟨none, (.slc (.int .i64)), (.own .ro), none⟩)]⟩
noncomputable def f84_l8_o0 : SkS := ⟨42, [(6, .nil), (0, .con (.int .i64))], []⟩
noncomputable def f84_l8_o1 : SkS := ⟨40, [(9, .ref 159 [])], [(159, ⟨none, (.slc (.int .i64)), (.own .ro), none⟩)]⟩
noncomputable def f84_l8_outs : List Way := [⟨.ret, [], f84_l8_o0⟩, ⟨(.exit 0), [], f84_l8_o1⟩]
abbrev f84_l8_C := (Int × Int × List Int × Int)
abbrev f84_l8_X := (Int × List Int)
abbrev f84_l8_Y := (Unit) ⊕ (List Int)
noncomputable def f84_l8_con (t : f84_l8_sk.T) : f84_l8_C := (t.1.1, t.1.2.1, t.1.2.2.1, t.1.2.2.2.1)
noncomputable def f84_l8_get (t : f84_l8_sk.T) : f84_l8_X := (t.1.2.2.2.2.1, t.2.1.1)
noncomputable def f84_l8_put (c : f84_l8_C) (x : f84_l8_X) : f84_l8_sk.T := ((c.1, (c.2.1, (c.2.2.1, (c.2.2.2, (x.1, ()))))), ((x.2, ()), ()))
theorem f84_l8_pg (t : f84_l8_sk.T) : f84_l8_put (f84_l8_con t) (f84_l8_get t) = t := by kernel_rfl
noncomputable def f84_l8_w0 (c : f84_l8_C) (y : Unit) : f84_l8_o0.T := (((18 : Int), ()), ())
noncomputable def f84_l8_w1 (c : f84_l8_C) (y : List Int) : f84_l8_o1.T := ((), ((y, ()), ()))
noncomputable def f84_l8_out (c : f84_l8_C) (y : f84_l8_Y) : OutV f84_l8_outs := (Sum.elim (fun y => (.inl (f84_l8_w0 c y))) (fun y => (.inr (.inl (f84_l8_w1 c y))))) y
noncomputable def f84_l8_k {R : Type} (a0 : Int) (a1 : Int) (a2 : List Int) (a3 : Int) (a4 : Int) (a5 : List Int) (kin : f84_l8_X → Option R) (k0 : Unit → Option R) (k1 : List Int → Option R) : Option R :=
 (cond (decide (a4 < a3))
 (if (0 : Int) ≤ a4 ∧ a4 < ((List.length a2 : Nat) : Int) then (let v1 : Int := (IntKind.i64.wrap ((2 : Int) * (List.getD a2 (Int.toNat a4) (0 : Int))))
  (let v2 : Int := (IntKind.i64.wrap (v1 + a0))
  (let v3 : Int := (IntKind.i64.wrap ((2 : Int) * a0))
  (if v3 = 0 then none else (let v4 : Int := (IntKind.i64.wrap (Int.tdiv v2 v3))
  (cond (decide (v4 < (1 : Int)))
  (k0 ())
  (cond (decide (v4 > a1))
   (k0 ())
   (if (List.length a5 + 1) * 8 ≤ most ∧ 0 < 8 ∧ 0 < 1 then (let r5 : List Int := (a5 ++ [v4])
    (let v6 : Int := (IntKind.i64.wrap (a4 + (1 : Int)))
    (kin (v6, r5)))) else none)))))))) else none)
 (k1 a5))
noncomputable def f84_l8_g (a0 : Int) (a1 : Int) (a2 : List Int) (a3 : Int) (x : f84_l8_X) : Option (f84_l8_X ⊕ f84_l8_Y) := f84_l8_k a0 a1 a2 a3 x.1 x.2 (fun x => some (.inl x)) (fun y => some (.inr (.inl y))) (fun y => some (.inr (.inr y)))
noncomputable def f84_l8 (a0 : Int) (a1 : Int) (a2 : List Int) (a3 : Int) (x : f84_l8_X) : Option f84_l8_Y := loopO (f84_l8_g a0 a1 a2 a3) x
noncomputable def f84_l8_nd : Node := { nils := [(9, 159, (.int .i64), .ro)], sk := f84_l8_sk, outs := f84_l8_outs, Y := f84_l8_Y, L := fun t => f84_l8 ((f84_l8_con t).1) ((f84_l8_con t).2.1) ((f84_l8_con t).2.2.1) ((f84_l8_con t).2.2.2) (f84_l8_get t), out := fun t y => f84_l8_out (f84_l8_con t) y, disp := fun t y K => (Sum.elim (fun y => K .ret (f84_l8_o0.fill (f84_l8_w0 (f84_l8_con t) y))) (fun y => K (.exit 0) (f84_l8_o1.fill (f84_l8_w1 (f84_l8_con t) y)))) y }
noncomputable def f84_fx : Fx := { E := env, T := [(104, f104_sm)], H := [], O := [], nodes := [((true, 8), f84_l8_nd)] }
noncomputable def f84_l8_b : Code := (loops f84_code).getD 0 .skip
theorem f84_l8_r (c : f84_l8_C) (x : f84_l8_X) : roundS f84_fx f84_l8_b f84_l8_nd (f84_l8_put c x) = f84_l8_k c.1 c.2.1 c.2.2.1 c.2.2.2 x.1 x.2 (fun x => some (.inl (f84_l8_put c x))) (fun y => some (.inr (.inl (f84_l8_w0 c y)))) (fun y => some (.inr (.inr (.inl (f84_l8_w1 c y))))) := by kernel_rfl
theorem f84_l8_n {R : Type} (a0 : Int) (a1 : Int) (a2 : List Int) (a3 : Int) (a4 : Int) (a5 : List Int) (kin : f84_l8_X → Option R) (k0 : Unit → Option R) (k1 : List Int → Option R) : f84_l8_k a0 a1 a2 a3 a4 a5 kin k0 k1 = (f84_l8_g a0 a1 a2 a3 (a4, a5)).bind (Sum.elim kin (Sum.elim k0 k1)) := by
  simp only [f84_l8_g, f84_l8_k, cond_bind, ite_bind, bind_bind, some_bind, none_bind, elim_bind, Sum.elim_inl, Sum.elim_inr]
theorem f84_l8_ok : LoopOk f84_fx f84_l8_b f84_l8_nd := loop_ok f84_l8_con f84_l8_get f84_l8_put f84_l8_pg (fun c => f84_l8_g c.1 c.2.1 c.2.2.1 c.2.2.2) f84_l8_out (fun t y => rfl) (by intro R t y K; rcases y with y | y <;> rfl) (fun c x => by
  refine (f84_l8_r c x).trans ((f84_l8_n _ _ _ _ _ _ _ _ _).trans ?_)
  first
  | rfl
  | congr 1
    funext s
    rcases s with s | s | s <;> rfl) (fun t => rfl)
noncomputable def f84_k {R : Type} (a0 : List Int) (a1 : Int) (a2 : Int) (k : (List Int × Int × Unit) × (Unit) → Option R) : Option R :=
 ((f104 a0).bind fun r0 =>
 (cond (r0.1.1 != (0 : Int))
 (k (([], (r0.1.1, ())), ()))
 (cond (decide (a1 < (2 : Int)))
  (k (([], ((1 : Int), ())), ()))
  (cond (decide (a1 > (1000 : Int)))
   (k (([], ((1 : Int), ())), ()))
   ((f84_l8 a1 a2 a0 ((List.length a0 : Nat) : Int) ((0 : Int), [])).bind fun y7 =>
    ((Sum.elim (fun z8 =>
    (k (([], ((18 : Int), ())), ())))
    (fun z9 =>
    (k ((z9, ((0 : Int), ())), ())))) y7))))))
noncomputable def f84 (a0 : List Int) (a1 : Int) (a2 : Int) : Option ((List Int × Int × Unit) × (Unit)) := f84_k a0 a1 a2 some
noncomputable def f84_sm : Sm := ⟨[.ro (.slc (.int .i64)), .ro (.int .i64), .ro (.int .i64)], [((.slc (.int .i64)), (.own .ro)), ((.int .i64), .ro)], fun x => f84 x.1 x.2.1 x.2.2.1⟩
theorem f84_m (x : ArgT [.ro (.slc (.int .i64)), .ro (.int .i64), .ro (.int .i64)]) : codeS f84_fx f84_code (start [.ro (.slc (.int .i64)), .ro (.int .i64), .ro (.int .i64)] [] x 50) (finK env [.tmp 6, .tmp 7] [.ro (.slc (.int .i64)), .ro (.int .i64), .ro (.int .i64)] [((.slc (.int .i64)), (.own .ro)), ((.int .i64), .ro)]) = f84_k x.1 x.2.1 x.2.2.1 (fun r => some (r, [])) := by kernel_rfl
theorem f84_n {R : Type} (a0 : List Int) (a1 : Int) (a2 : Int) (k : (List Int × Int × Unit) × (Unit) → Option R) : f84_k a0 a1 a2 k = (f84 a0 a1 a2).bind k := by
  simp only [f84, f84_k, cond_bind, ite_bind, bind_bind, some_bind, none_bind, elim_bind]
theorem f84_ok : SmOk Try.prog 84 f84_sm :=
  sum_of (c := f84_fx) (fn := Try.f84) (code := f84_code) (sm := f84_sm) mixed (env_ok env_envB) (TabsOk.all ⟨f104_c, trivial⟩) Try.func84 (by kernel_rfl)
   ((LoopsOk.of (l := [f84_l8_b]) (by kernel_rfl) ⟨node_is (by kernel_rfl) f84_l8_ok, trivial⟩))
   (no_tails (by kernel_rfl))
   (fun ks x hl => by
    have hk : ks = [] := List.length_eq_zero_iff.1 hl
    subst hk
    exact (f84_m x).trans (f84_n _ _ _ _))
theorem f84_c : CalOk Try.prog 84 f84_sm := .inl ⟨f84_ok, ⟨Try.f84, Try.func84, by kernel_rfl, by kernel_rfl⟩⟩
noncomputable def f85_code : Code := (Try.f85.body).getD .skip
noncomputable def f85_l3_sk : SkS := ⟨49, [(0, .con (.slc (.int .i64))), (4, .con (.int .i64)), (7, .con (.slc (.int .i64))), (0, .con (.int .i64)), (0, .con (.int .i64))], []⟩
noncomputable def f85_l3_o0 : SkS := ⟨59, [(0, .con (.slc (.int .i64))), (4, .con (.int .i64))], []⟩
noncomputable def f85_l3_outs : List Way := [⟨(.exit 0), [], f85_l3_o0⟩]
abbrev f85_l3_C := (List Int × List Int × Int)
abbrev f85_l3_X := (Int × Int)
abbrev f85_l3_Y := (Int)
noncomputable def f85_l3_con (t : f85_l3_sk.T) : f85_l3_C := (t.1.1, t.1.2.2.1, t.1.2.2.2.1)
noncomputable def f85_l3_get (t : f85_l3_sk.T) : f85_l3_X := (t.1.2.1, t.1.2.2.2.2.1)
noncomputable def f85_l3_put (c : f85_l3_C) (x : f85_l3_X) : f85_l3_sk.T := ((c.1, (x.1, (c.2.1, (c.2.2, (x.2, ()))))), ())
theorem f85_l3_pg (t : f85_l3_sk.T) : f85_l3_put (f85_l3_con t) (f85_l3_get t) = t := by kernel_rfl
noncomputable def f85_l3_w0 (c : f85_l3_C) (y : Int) : f85_l3_o0.T := ((c.1, (y, ())), ())
noncomputable def f85_l3_out (c : f85_l3_C) (y : f85_l3_Y) : OutV f85_l3_outs := (fun y => (.inl (f85_l3_w0 c y))) y
noncomputable def f85_l3_k {R : Type} (a0 : List Int) (a1 : Int) (a2 : List Int) (a3 : Int) (a4 : Int) (kin : f85_l3_X → Option R) (k0 : Int → Option R) : Option R :=
 (cond (decide (a4 < a3))
 (if (0 : Int) ≤ a4 ∧ a4 < ((List.length a2 : Nat) : Int) then (let v0 : Int := (IntKind.i64.wrap (a1 + (List.getD a2 (Int.toNat a4) (0 : Int))))
  (let v1 : Int := (IntKind.i64.wrap (a4 + (1 : Int)))
  (kin (v0, v1)))) else none)
 (k0 a1))
noncomputable def f85_l3_g (a0 : List Int) (a2 : List Int) (a3 : Int) (x : f85_l3_X) : Option (f85_l3_X ⊕ f85_l3_Y) := f85_l3_k a0 x.1 a2 a3 x.2 (fun x => some (.inl x)) (fun y => some (.inr y))
noncomputable def f85_l3 (a0 : List Int) (a2 : List Int) (a3 : Int) (x : f85_l3_X) : Option f85_l3_Y := loopO (f85_l3_g a0 a2 a3) x
noncomputable def f85_l3_nd : Node := { nils := [], sk := f85_l3_sk, outs := f85_l3_outs, Y := f85_l3_Y, L := fun t => f85_l3 ((f85_l3_con t).1) ((f85_l3_con t).2.1) ((f85_l3_con t).2.2) (f85_l3_get t), out := fun t y => f85_l3_out (f85_l3_con t) y, disp := fun t y K => (fun y => K (.exit 0) (f85_l3_o0.fill (f85_l3_w0 (f85_l3_con t) y))) y }
noncomputable def f85_l12_sk : SkS := ⟨26, [(5, .con (.int .i64)), (2, .ref 512 []), (0, .ref 560 []), (0, .con (.int .i64)), (25, .con (.slc (.int .i64))), (0, .con (.int .i64)), (0, .con (.int .i64))], [(512, ⟨none, (.slc .bool), (.own .ro), none⟩), (560, ⟨none, (.slc .bool), (.own .ro), none⟩)]⟩
noncomputable def f85_l12_o0 : SkS := ⟨55, [(5, .con (.int .i64)), (2, .ref 512 []), (0, .ref 560 [])], [(512, ⟨none, (.slc .bool), (.own .ro), none⟩), (560, ⟨none, (.slc .bool), (.own .ro), none⟩)]⟩
noncomputable def f85_l12_outs : List Way := [⟨(.exit 2), [], f85_l12_o0⟩]
abbrev f85_l12_C := (Int × List Int × Int)
abbrev f85_l12_X := (Int × Int × List Bool × List Bool)
abbrev f85_l12_Y := ((List Bool × List Bool))
noncomputable def f85_l12_con (t : f85_l12_sk.T) : f85_l12_C := (t.1.1, t.1.2.2.1, t.1.2.2.2.1)
noncomputable def f85_l12_get (t : f85_l12_sk.T) : f85_l12_X := (t.1.2.1, t.1.2.2.2.2.1, t.2.1.1, t.2.2.1.1)
noncomputable def f85_l12_put (c : f85_l12_C) (x : f85_l12_X) : f85_l12_sk.T := ((c.1, (x.1, (c.2.1, (c.2.2, (x.2.1, ()))))), ((x.2.2.1, ()), ((x.2.2.2, ()), ())))
theorem f85_l12_pg (t : f85_l12_sk.T) : f85_l12_put (f85_l12_con t) (f85_l12_get t) = t := by kernel_rfl
noncomputable def f85_l12_w0 (c : f85_l12_C) (y : (List Bool × List Bool)) : f85_l12_o0.T := ((c.1, ()), ((y.1, ()), ((y.2, ()), ())))
noncomputable def f85_l12_out (c : f85_l12_C) (y : f85_l12_Y) : OutV f85_l12_outs := (fun y => (.inl (f85_l12_w0 c y))) y
noncomputable def f85_l12_k {R : Type} (a0 : Int) (a1 : Int) (a2 : List Int) (a3 : Int) (a4 : Int) (a5 : List Bool) (a6 : List Bool) (kin : f85_l12_X → Option R) (k0 : (List Bool × List Bool) → Option R) : Option R :=
 (cond (decide (a4 < a3))
 (if (0 : Int) ≤ a4 ∧ a4 < ((List.length a2 : Nat) : Int) then (let v5 : Int := (IntKind.i64.wrap (a1 + (List.getD a2 (Int.toNat a4) (0 : Int))))
  (cond ((Int.tmod v5 (2 : Int)) == (0 : Int))
  (let v6 : Int := (IntKind.i64.wrap (Int.tdiv v5 (2 : Int)))
   (let v7 : Int := (IntKind.i64.wrap (v6 - (1 : Int)))
   (if (0 : Int) ≤ v7 ∧ v7 < ((List.length a5 : Nat) : Int) then (let v8 : Int := (IntKind.i64.wrap (a4 + (1 : Int)))
   (kin (v5, v8, (List.set a5 (Int.toNat v7) true), a6))) else none)))
  (let v9 : Int := (IntKind.i64.wrap (Int.tdiv v5 (2 : Int)))
   (if (0 : Int) ≤ v9 ∧ v9 < ((List.length a6 : Nat) : Int) then (let v10 : Int := (IntKind.i64.wrap (a4 + (1 : Int)))
   (kin (v5, v10, a5, (List.set a6 (Int.toNat v9) true)))) else none)))) else none)
 (k0 (a5, a6)))
noncomputable def f85_l12_g (a0 : Int) (a2 : List Int) (a3 : Int) (x : f85_l12_X) : Option (f85_l12_X ⊕ f85_l12_Y) := f85_l12_k a0 x.1 a2 a3 x.2.1 x.2.2.1 x.2.2.2 (fun x => some (.inl x)) (fun y => some (.inr y))
noncomputable def f85_l12 (a0 : Int) (a2 : List Int) (a3 : Int) (x : f85_l12_X) : Option f85_l12_Y := loopO (f85_l12_g a0 a2 a3) x
noncomputable def f85_l12_nd : Node := { nils := [], sk := f85_l12_sk, outs := f85_l12_outs, Y := f85_l12_Y, L := fun t => f85_l12 ((f85_l12_con t).1) ((f85_l12_con t).2.1) ((f85_l12_con t).2.2) (f85_l12_get t), out := fun t y => f85_l12_out (f85_l12_con t) y, disp := fun t y K => (fun y => K (.exit 2) (f85_l12_o0.fill (f85_l12_w0 (f85_l12_con t) y))) y }
noncomputable def f85_fx : Fx := { E := env, T := [], H := [], O := [], nodes := [((true, 3), f85_l3_nd), ((true, 12), f85_l12_nd)] }
noncomputable def f85_l3_b : Code := (loops f85_code).getD 0 .skip
theorem f85_l3_r (c : f85_l3_C) (x : f85_l3_X) : roundS f85_fx f85_l3_b f85_l3_nd (f85_l3_put c x) = f85_l3_k c.1 x.1 c.2.1 c.2.2 x.2 (fun x => some (.inl (f85_l3_put c x))) (fun y => some (.inr (.inl (f85_l3_w0 c y)))) := by kernel_rfl
theorem f85_l3_n {R : Type} (a0 : List Int) (a1 : Int) (a2 : List Int) (a3 : Int) (a4 : Int) (kin : f85_l3_X → Option R) (k0 : Int → Option R) : f85_l3_k a0 a1 a2 a3 a4 kin k0 = (f85_l3_g a0 a2 a3 (a1, a4)).bind (Sum.elim kin k0) := by
  simp only [f85_l3_g, f85_l3_k, cond_bind, ite_bind, bind_bind, some_bind, none_bind, elim_bind, Sum.elim_inl, Sum.elim_inr]
theorem f85_l3_ok : LoopOk f85_fx f85_l3_b f85_l3_nd := loop_ok f85_l3_con f85_l3_get f85_l3_put f85_l3_pg (fun c => f85_l3_g c.1 c.2.1 c.2.2) f85_l3_out (fun t y => rfl) (fun t y K => rfl) (fun c x => by
  refine (f85_l3_r c x).trans ((f85_l3_n _ _ _ _ _ _ _).trans ?_)
  first
  | rfl
  | congr 1
    funext s
    rcases s with s | s <;> rfl) (fun t => rfl)
noncomputable def f85_l12_b : Code := (loops f85_code).getD 1 .skip
theorem f85_l12_r (c : f85_l12_C) (x : f85_l12_X) : roundS f85_fx f85_l12_b f85_l12_nd (f85_l12_put c x) = f85_l12_k c.1 x.1 c.2.1 c.2.2 x.2.1 x.2.2.1 x.2.2.2 (fun x => some (.inl (f85_l12_put c x))) (fun y => some (.inr (.inl (f85_l12_w0 c y)))) := by kernel_rfl
theorem f85_l12_n {R : Type} (a0 : Int) (a1 : Int) (a2 : List Int) (a3 : Int) (a4 : Int) (a5 : List Bool) (a6 : List Bool) (kin : f85_l12_X → Option R) (k0 : (List Bool × List Bool) → Option R) : f85_l12_k a0 a1 a2 a3 a4 a5 a6 kin k0 = (f85_l12_g a0 a2 a3 (a1, a4, a5, a6)).bind (Sum.elim kin k0) := by
  simp only [f85_l12_g, f85_l12_k, cond_bind, ite_bind, bind_bind, some_bind, none_bind, elim_bind, Sum.elim_inl, Sum.elim_inr]
theorem f85_l12_ok : LoopOk f85_fx f85_l12_b f85_l12_nd := loop_ok f85_l12_con f85_l12_get f85_l12_put f85_l12_pg (fun c => f85_l12_g c.1 c.2.1 c.2.2) f85_l12_out (fun t y => rfl) (fun t y K => rfl) (fun c x => by
  refine (f85_l12_r c x).trans ((f85_l12_n _ _ _ _ _ _ _ _ _).trans ?_)
  first
  | rfl
  | congr 1
    funext s
    rcases s with s | s <;> rfl) (fun t => rfl)
noncomputable def f85_k {R : Type} (a0 : List Int) (k : (List Bool × List Bool × Int × Unit) × (Unit) → Option R) : Option R :=
 ((f85_l3 a0 a0 ((List.length a0 : Nat) : Int) ((0 : Int), (0 : Int))).bind fun y2 =>
 (cond ((Int.tmod y2 (2 : Int)) == (1 : Int))
 (k (([], ([], ((3 : Int), ()))), ()))
 (cond (decide (y2 < (2 : Int)))
  (k (([], ([], ((3 : Int), ()))), ()))
  (let v3 : Int := (IntKind.i64.wrap (Int.tdiv y2 (2 : Int)))
   (if (0 : Int) ≤ v3 ∧ v3 ≤ v3 ∧ v3 * 1 ≤ (most : Int) ∧ 0 < 1 ∧ 0 < 1 then (let v4 : Int := (IntKind.i64.wrap (Int.tdiv y2 (2 : Int)))
   (if (0 : Int) ≤ v4 ∧ v4 ≤ v4 ∧ v4 * 1 ≤ (most : Int) ∧ 0 < 1 ∧ 0 < 1 then ((f85_l12 y2 a0 ((List.length a0 : Nat) : Int) ((0 : Int), (0 : Int), (List.replicate (Int.toNat v3) false), (List.replicate (Int.toNat v4) false))).bind fun y11 =>
   (let v12 : Int := (IntKind.i64.wrap (Int.tdiv y2 (2 : Int)))
   (let v13 : Int := (IntKind.i64.wrap (v12 - (1 : Int)))
   (cond ((Int.tmod v13 (8 : Int)) != (0 : Int))
   (k (([], ([], ((13 : Int), ()))), ()))
   (k ((y11.1, (y11.2, ((0 : Int), ()))), ())))))) else none)) else none)))))
noncomputable def f85 (a0 : List Int) : Option ((List Bool × List Bool × Int × Unit) × (Unit)) := f85_k a0 some
noncomputable def f85_sm : Sm := ⟨[.ro (.slc (.int .i64))], [((.slc .bool), (.own .ro)), ((.slc .bool), (.own .ro)), ((.int .i64), .ro)], fun x => f85 x.1⟩
theorem f85_m (x : ArgT [.ro (.slc (.int .i64))]) : codeS f85_fx f85_code (start [.ro (.slc (.int .i64))] [] x 65) (finK env [.tmp 2, .tmp 3, .tmp 4] [.ro (.slc (.int .i64))] [((.slc .bool), (.own .ro)), ((.slc .bool), (.own .ro)), ((.int .i64), .ro)]) = f85_k x.1 (fun r => some (r, [])) := by kernel_rfl
theorem f85_n {R : Type} (a0 : List Int) (k : (List Bool × List Bool × Int × Unit) × (Unit) → Option R) : f85_k a0 k = (f85 a0).bind k := by
  simp only [f85, f85_k, cond_bind, ite_bind, bind_bind, some_bind, none_bind, elim_bind]
theorem f85_ok : SmOk Try.prog 85 f85_sm :=
  sum_of (c := f85_fx) (fn := Try.f85) (code := f85_code) (sm := f85_sm) mixed (env_ok env_envB) (TabsOk.all trivial) Try.func85 (by kernel_rfl)
   ((LoopsOk.of (l := [f85_l3_b, f85_l12_b]) (by kernel_rfl) ⟨node_is (by kernel_rfl) f85_l3_ok, node_is (by kernel_rfl) f85_l12_ok, trivial⟩))
   (no_tails (by kernel_rfl))
   (fun ks x hl => by
    have hk : ks = [] := List.length_eq_zero_iff.1 hl
    subst hk
    exact (f85_m x).trans (f85_n _ _))
theorem f85_c : CalOk Try.prog 85 f85_sm := .inl ⟨f85_ok, ⟨Try.f85, Try.func85, by kernel_rfl, by kernel_rfl⟩⟩
noncomputable def f30_code : Code := (Try.f30.body).getD .skip
noncomputable def f30_l15_sk : SkS := ⟨85, [(8, .ref 464 []), (0, .ref 465 []), (0, .ref 175 []), (0, .con .bool), (0, .con (.int .i64)), (0, .con (.int .i64)), (0, .con .bool), (50, .con (.int .i64))], [(175, ⟨none, (.slc (.pair .bool (.pair (.slc (.int .u8)) .unit))), (.own (.pair .ro (.pair (.own .ro) .ro))), none⟩), (464, ⟨none, (.slc .bool), (.own .ro), none⟩), (465, ⟨none, (.slc .bool), (.own .ro), none⟩)]⟩
noncomputable def f30_l15_o0 : SkS := ⟨145, [(4, .nil), (0, .con (.int .i64))], []⟩
noncomputable def f30_l15_o1 : SkS := ⟨136, [(8, .ref 464 []), (0, .ref 465 []), (0, .ref 175 []), (0, .con .bool), (0, .con (.int .i64)), (0, .con (.int .i64)), (0, .con .bool)], [(175, ⟨none, (.slc (.pair .bool (.pair (.slc (.int .u8)) .unit))), (.own (.pair .ro (.pair (.own .ro) .ro))), none⟩), (464, ⟨none, (.slc .bool), (.own .ro), none⟩), (465, ⟨none, (.slc .bool), (.own .ro), none⟩)]⟩
noncomputable def f30_l15_outs : List Way := [⟨.ret, [], f30_l15_o0⟩, ⟨(.exit 2), [], f30_l15_o1⟩]
abbrev f30_l15_C := (Int × Bool × List (Bool × (List Int × Unit)) × List Bool × List Bool)
abbrev f30_l15_X := (Bool × Int × Int)
abbrev f30_l15_Y := (Unit) ⊕ ((Bool × Int))
noncomputable def f30_l15_con (t : f30_l15_sk.T) : f30_l15_C := (t.1.2.1, t.1.2.2.2.1, t.2.1.1, t.2.2.1.1, t.2.2.2.1.1)
noncomputable def f30_l15_get (t : f30_l15_sk.T) : f30_l15_X := (t.1.1, t.1.2.2.1, t.1.2.2.2.2.1)
noncomputable def f30_l15_put (c : f30_l15_C) (x : f30_l15_X) : f30_l15_sk.T := ((x.1, (c.1, (x.2.1, (c.2.1, (x.2.2, ()))))), ((c.2.2.1, ()), ((c.2.2.2.1, ()), ((c.2.2.2.2, ()), ()))))
theorem f30_l15_pg (t : f30_l15_sk.T) : f30_l15_put (f30_l15_con t) (f30_l15_get t) = t := by kernel_rfl
noncomputable def f30_l15_w0 (c : f30_l15_C) (y : Unit) : f30_l15_o0.T := (((3 : Int), ()), ())
noncomputable def f30_l15_w1 (c : f30_l15_C) (y : (Bool × Int)) : f30_l15_o1.T := ((y.1, (c.1, (y.2, (c.2.1, ())))), ((c.2.2.1, ()), ((c.2.2.2.1, ()), ((c.2.2.2.2, ()), ()))))
noncomputable def f30_l15_out (c : f30_l15_C) (y : f30_l15_Y) : OutV f30_l15_outs := (Sum.elim (fun y => (.inl (f30_l15_w0 c y))) (fun y => (.inr (.inl (f30_l15_w1 c y))))) y
noncomputable def f30_l15_k {R : Type} (a0 : Bool) (a1 : Int) (a2 : Int) (a3 : Bool) (a4 : Int) (a5 : List (Bool × (List Int × Unit))) (a6 : List Bool) (a7 : List Bool) (kin : f30_l15_X → Option R) (k0 : Unit → Option R) (k1 : (Bool × Int) → Option R) : Option R :=
 (cond (decide (a4 < (8 : Int)))
 (let v6 : Int := (IntKind.i64.wrap (a1 + a4))
  (if (0 : Int) ≤ v6 ∧ v6 < ((List.length a6 : Nat) : Int) then (let v7 : Int := (IntKind.i64.wrap (a1 + a4))
  (if (0 : Int) ≤ v7 ∧ v7 < ((List.length a7 : Nat) : Int) then (cond (!(List.getD a6 (Int.toNat v6) false))
  (cond (!a0)
   (cond a3
    (cond (!((List.getD a7 (Int.toNat v7) false) == (!(a4 == (5 : Int)))))
     (k0 ())
     (let v8 : Int := (IntKind.i64.wrap (a2 * (2 : Int)))
      (cond (List.getD a6 (Int.toNat v6) false)
      (let v9 : Int := (IntKind.i64.wrap (v8 + (1 : Int)))
       (let v10 : Int := (IntKind.i64.wrap (a4 + (1 : Int)))
       (kin ((List.getD a6 (Int.toNat v6) false), v9, v10))))
      (let v11 : Int := (IntKind.i64.wrap (a4 + (1 : Int)))
       (kin ((List.getD a6 (Int.toNat v6) false), v8, v11))))))
    (cond (!((List.getD a7 (Int.toNat v7) false) == true))
     (k0 ())
     (let v12 : Int := (IntKind.i64.wrap (a2 * (2 : Int)))
      (cond (List.getD a6 (Int.toNat v6) false)
      (let v13 : Int := (IntKind.i64.wrap (v12 + (1 : Int)))
       (let v14 : Int := (IntKind.i64.wrap (a4 + (1 : Int)))
       (kin ((List.getD a6 (Int.toNat v6) false), v13, v14))))
      (let v15 : Int := (IntKind.i64.wrap (a4 + (1 : Int)))
       (kin ((List.getD a6 (Int.toNat v6) false), v12, v15)))))))
   (cond (!((List.getD a7 (Int.toNat v7) false) == false))
    (k0 ())
    (let v16 : Int := (IntKind.i64.wrap (a2 * (2 : Int)))
     (cond (List.getD a6 (Int.toNat v6) false)
     (let v17 : Int := (IntKind.i64.wrap (v16 + (1 : Int)))
      (let v18 : Int := (IntKind.i64.wrap (a4 + (1 : Int)))
      (kin ((List.getD a6 (Int.toNat v6) false), v17, v18))))
     (let v19 : Int := (IntKind.i64.wrap (a4 + (1 : Int)))
      (kin ((List.getD a6 (Int.toNat v6) false), v16, v19)))))))
  (cond (!((List.getD a7 (Int.toNat v7) false) == false))
   (k0 ())
   (let v20 : Int := (IntKind.i64.wrap (a2 * (2 : Int)))
    (cond (List.getD a6 (Int.toNat v6) false)
    (let v21 : Int := (IntKind.i64.wrap (v20 + (1 : Int)))
     (let v22 : Int := (IntKind.i64.wrap (a4 + (1 : Int)))
     (kin ((List.getD a6 (Int.toNat v6) false), v21, v22))))
    (let v23 : Int := (IntKind.i64.wrap (a4 + (1 : Int)))
     (kin ((List.getD a6 (Int.toNat v6) false), v20, v23))))))) else none)) else none))
 (k1 (a0, a2)))
noncomputable def f30_l15_g (a1 : Int) (a3 : Bool) (a5 : List (Bool × (List Int × Unit))) (a6 : List Bool) (a7 : List Bool) (x : f30_l15_X) : Option (f30_l15_X ⊕ f30_l15_Y) := f30_l15_k x.1 a1 x.2.1 a3 x.2.2 a5 a6 a7 (fun x => some (.inl x)) (fun y => some (.inr (.inl y))) (fun y => some (.inr (.inr y)))
noncomputable def f30_l15 (a1 : Int) (a3 : Bool) (a5 : List (Bool × (List Int × Unit))) (a6 : List Bool) (a7 : List Bool) (x : f30_l15_X) : Option f30_l15_Y := loopO (f30_l15_g a1 a3 a5 a6 a7) x
noncomputable def f30_l15_nd : Node := { nils := [], sk := f30_l15_sk, outs := f30_l15_outs, Y := f30_l15_Y, L := fun t => f30_l15 ((f30_l15_con t).1) ((f30_l15_con t).2.1) ((f30_l15_con t).2.2.1) ((f30_l15_con t).2.2.2.1) ((f30_l15_con t).2.2.2.2) (f30_l15_get t), out := fun t y => f30_l15_out (f30_l15_con t) y, disp := fun t y K => (Sum.elim (fun y => K .ret (f30_l15_o0.fill (f30_l15_w0 (f30_l15_con t) y))) (fun y => K (.exit 2) (f30_l15_o1.fill (f30_l15_w1 (f30_l15_con t) y)))) y }
noncomputable def f30_l10_sk : SkS := ⟨138, [(8, .ref 464 []), (0, .ref 465 []), (0, .ref 175 []), (0, .con .bool), (0, .con (.int .i64))], [(175, ⟨none, (.slc (.pair .bool (.pair (.slc (.int .u8)) .unit))), (.own (.pair .ro (.pair (.own .ro) .ro))), none⟩), (464, ⟨none, (.slc .bool), (.own .ro), none⟩), (465, ⟨none, (.slc .bool), (.own .ro), none⟩)]⟩
noncomputable def f30_l10_o0 : SkS := ⟨145, [(4, .nil), (0, .con (.int .i64))], []⟩
noncomputable def f30_l10_o1 : SkS := ⟨140, [(8, .ref 464 []), (0, .ref 465 []), (0, .ref 175 [])], [(175, ⟨none, (.slc (.pair .bool (.pair (.slc (.int .u8)) .unit))), (.own (.pair .ro (.pair (.own .ro) .ro))), none⟩), (464, ⟨none, (.slc .bool), (.own .ro), none⟩), (465, ⟨none, (.slc .bool), (.own .ro), none⟩)]⟩
noncomputable def f30_l10_outs : List Way := [⟨.ret, [], f30_l10_o0⟩, ⟨(.exit 0), [], f30_l10_o1⟩]
abbrev f30_l10_C := (List Bool × List Bool)
abbrev f30_l10_X := (Bool × Int × List (Bool × (List Int × Unit)))
abbrev f30_l10_Y := (Unit) ⊕ (List (Bool × (List Int × Unit)))
noncomputable def f30_l10_con (t : f30_l10_sk.T) : f30_l10_C := (t.2.2.1.1, t.2.2.2.1.1)
noncomputable def f30_l10_get (t : f30_l10_sk.T) : f30_l10_X := (t.1.1, t.1.2.1, t.2.1.1)
noncomputable def f30_l10_put (c : f30_l10_C) (x : f30_l10_X) : f30_l10_sk.T := ((x.1, (x.2.1, ())), ((x.2.2, ()), ((c.1, ()), ((c.2, ()), ()))))
theorem f30_l10_pg (t : f30_l10_sk.T) : f30_l10_put (f30_l10_con t) (f30_l10_get t) = t := by kernel_rfl
noncomputable def f30_l10_w0 (c : f30_l10_C) (y : Unit) : f30_l10_o0.T := (((3 : Int), ()), ())
noncomputable def f30_l10_w1 (c : f30_l10_C) (y : List (Bool × (List Int × Unit))) : f30_l10_o1.T := ((), ((y, ()), ((c.1, ()), ((c.2, ()), ()))))
noncomputable def f30_l10_out (c : f30_l10_C) (y : f30_l10_Y) : OutV f30_l10_outs := (Sum.elim (fun y => (.inl (f30_l10_w0 c y))) (fun y => (.inr (.inl (f30_l10_w1 c y))))) y
noncomputable def f30_l10_k {R : Type} (a0 : Bool) (a1 : Int) (a2 : List (Bool × (List Int × Unit))) (a3 : List Bool) (a4 : List Bool) (kin : f30_l10_X → Option R) (k0 : Unit → Option R) (k1 : List (Bool × (List Int × Unit)) → Option R) : Option R :=
 (let v2 : Int := (IntKind.i64.wrap (((List.length a3 : Nat) : Int) - (1 : Int)))
 (cond (decide (a1 < v2))
 (let v3 : Int := (IntKind.i64.wrap (a1 + (5 : Int)))
  (if (0 : Int) ≤ v3 ∧ v3 < ((List.length a3 : Nat) : Int) then (cond (!(List.getD a3 (Int.toNat v3) false))
  (let v4 : Int := (IntKind.i64.wrap (a1 + (4 : Int)))
   (if (0 : Int) ≤ v4 ∧ v4 < ((List.length a3 : Nat) : Int) then (cond (!(List.getD a3 (Int.toNat v4) false))
   (let v5 : Int := (IntKind.i64.wrap (a1 + (5 : Int)))
    (if (0 : Int) ≤ v5 ∧ v5 < ((List.length a4 : Nat) : Int) then ((f30_l15 a1 (!(List.getD a4 (Int.toNat v5) false)) a2 a3 a4 (a0, (0 : Int), (0 : Int))).bind fun y24 =>
    ((Sum.elim (fun z25 =>
    (k0 ()))
    (fun z26 =>
    (cond (!(List.getD a4 (Int.toNat v5) false))
     (cond (z26.2 != (161 : Int))
      (k0 ())
      (cond (!(List.getD a4 (Int.toNat v5) false))
       (if (List.length a2 + 1) * 32 ≤ most ∧ 0 < 32 ∧ 0 < 2 then (let r27 : List (Bool × (List Int × Unit)) := (a2 ++ [(true, ([], ()))])
        (let v28 : Int := (IntKind.i64.wrap (a1 + (8 : Int)))
        (kin (z26.1, v28, r27)))) else none)
       (cond (((List.length a2 : Nat) : Int) == (0 : Int))
        (if (List.length a2 + 1) * 32 ≤ most ∧ 0 < 32 ∧ 0 < 2 then (let r29 : List (Bool × (List Int × Unit)) := (a2 ++ [(false, ([(IntKind.u8.wrap z26.2)], ()))])
         (let v30 : Int := (IntKind.i64.wrap (a1 + (8 : Int)))
         (kin (z26.1, v30, r29)))) else none)
        (let v31 : Int := (IntKind.i64.wrap (((List.length a2 : Nat) : Int) - (1 : Int)))
         (if (0 : Int) ≤ v31 ∧ v31 < ((List.length a2 : Nat) : Int) then (if (Int.toNat v31) = (Int.toNat v31) then (if 0 < 1 ∧ (List.length (List.getD a2 (Int.toNat v31) (false, (([] : List Int), ()))).2.1 + 1) * 1 ≤ most ∧ 0 < 1 then (let v32 : Int := (IntKind.i64.wrap (a1 + (8 : Int)))
         (kin (z26.1, v32, (List.set a2 (Int.toNat v31) ((List.getD a2 (Int.toNat v31) (false, (([] : List Int), ()))).1, (((List.getD a2 (Int.toNat v31) (false, (([] : List Int), ()))).2.1 ++ [(IntKind.u8.wrap z26.2)]), (List.getD a2 (Int.toNat v31) (false, (([] : List Int), ()))).2.2)))))) else none) else none) else none)))))
     (cond (!(List.getD a4 (Int.toNat v5) false))
      (if (List.length a2 + 1) * 32 ≤ most ∧ 0 < 32 ∧ 0 < 2 then (let r33 : List (Bool × (List Int × Unit)) := (a2 ++ [(true, ([], ()))])
       (let v34 : Int := (IntKind.i64.wrap (a1 + (8 : Int)))
       (kin (z26.1, v34, r33)))) else none)
      (cond (((List.length a2 : Nat) : Int) == (0 : Int))
       (if (List.length a2 + 1) * 32 ≤ most ∧ 0 < 32 ∧ 0 < 2 then (let r35 : List (Bool × (List Int × Unit)) := (a2 ++ [(false, ([(IntKind.u8.wrap z26.2)], ()))])
        (let v36 : Int := (IntKind.i64.wrap (a1 + (8 : Int)))
        (kin (z26.1, v36, r35)))) else none)
       (let v37 : Int := (IntKind.i64.wrap (((List.length a2 : Nat) : Int) - (1 : Int)))
        (if (0 : Int) ≤ v37 ∧ v37 < ((List.length a2 : Nat) : Int) then (if (Int.toNat v37) = (Int.toNat v37) then (if 0 < 1 ∧ (List.length (List.getD a2 (Int.toNat v37) (false, (([] : List Int), ()))).2.1 + 1) * 1 ≤ most ∧ 0 < 1 then (let v38 : Int := (IntKind.i64.wrap (a1 + (8 : Int)))
        (kin (z26.1, v38, (List.set a2 (Int.toNat v37) ((List.getD a2 (Int.toNat v37) (false, (([] : List Int), ()))).1, (((List.getD a2 (Int.toNat v37) (false, (([] : List Int), ()))).2.1 ++ [(IntKind.u8.wrap z26.2)]), (List.getD a2 (Int.toNat v37) (false, (([] : List Int), ()))).2.2)))))) else none) else none) else none))))))) y24)) else none))
   ((f30_l15 a1 false a2 a3 a4 (a0, (0 : Int), (0 : Int))).bind fun y39 =>
    ((Sum.elim (fun z40 =>
    (k0 ()))
    (fun z41 =>
    (cond (((List.length a2 : Nat) : Int) == (0 : Int))
     (if (List.length a2 + 1) * 32 ≤ most ∧ 0 < 32 ∧ 0 < 2 then (let r42 : List (Bool × (List Int × Unit)) := (a2 ++ [(false, ([(IntKind.u8.wrap z41.2)], ()))])
      (let v43 : Int := (IntKind.i64.wrap (a1 + (8 : Int)))
      (kin (z41.1, v43, r42)))) else none)
     (let v44 : Int := (IntKind.i64.wrap (((List.length a2 : Nat) : Int) - (1 : Int)))
      (if (0 : Int) ≤ v44 ∧ v44 < ((List.length a2 : Nat) : Int) then (if (Int.toNat v44) = (Int.toNat v44) then (if 0 < 1 ∧ (List.length (List.getD a2 (Int.toNat v44) (false, (([] : List Int), ()))).2.1 + 1) * 1 ≤ most ∧ 0 < 1 then (let v45 : Int := (IntKind.i64.wrap (a1 + (8 : Int)))
      (kin (z41.1, v45, (List.set a2 (Int.toNat v44) ((List.getD a2 (Int.toNat v44) (false, (([] : List Int), ()))).1, (((List.getD a2 (Int.toNat v44) (false, (([] : List Int), ()))).2.1 ++ [(IntKind.u8.wrap z41.2)]), (List.getD a2 (Int.toNat v44) (false, (([] : List Int), ()))).2.2)))))) else none) else none) else none))))) y39))) else none))
  ((f30_l15 a1 false a2 a3 a4 (a0, (0 : Int), (0 : Int))).bind fun y46 =>
   ((Sum.elim (fun z47 =>
   (k0 ()))
   (fun z48 =>
   (cond (((List.length a2 : Nat) : Int) == (0 : Int))
    (if (List.length a2 + 1) * 32 ≤ most ∧ 0 < 32 ∧ 0 < 2 then (let r49 : List (Bool × (List Int × Unit)) := (a2 ++ [(false, ([(IntKind.u8.wrap z48.2)], ()))])
     (let v50 : Int := (IntKind.i64.wrap (a1 + (8 : Int)))
     (kin (z48.1, v50, r49)))) else none)
    (let v51 : Int := (IntKind.i64.wrap (((List.length a2 : Nat) : Int) - (1 : Int)))
     (if (0 : Int) ≤ v51 ∧ v51 < ((List.length a2 : Nat) : Int) then (if (Int.toNat v51) = (Int.toNat v51) then (if 0 < 1 ∧ (List.length (List.getD a2 (Int.toNat v51) (false, (([] : List Int), ()))).2.1 + 1) * 1 ≤ most ∧ 0 < 1 then (let v52 : Int := (IntKind.i64.wrap (a1 + (8 : Int)))
     (kin (z48.1, v52, (List.set a2 (Int.toNat v51) ((List.getD a2 (Int.toNat v51) (false, (([] : List Int), ()))).1, (((List.getD a2 (Int.toNat v51) (false, (([] : List Int), ()))).2.1 ++ [(IntKind.u8.wrap z48.2)]), (List.getD a2 (Int.toNat v51) (false, (([] : List Int), ()))).2.2)))))) else none) else none) else none))))) y46))) else none))
 (k1 a2)))
noncomputable def f30_l10_g (a3 : List Bool) (a4 : List Bool) (x : f30_l10_X) : Option (f30_l10_X ⊕ f30_l10_Y) := f30_l10_k x.1 x.2.1 x.2.2 a3 a4 (fun x => some (.inl x)) (fun y => some (.inr (.inl y))) (fun y => some (.inr (.inr y)))
noncomputable def f30_l10 (a3 : List Bool) (a4 : List Bool) (x : f30_l10_X) : Option f30_l10_Y := loopO (f30_l10_g a3 a4) x
noncomputable def f30_l10_nd : Node := { nils := [(10, 175, (.pair .bool (.pair (.slc (.int .u8)) .unit)), (.pair .ro (.pair (.own .ro) .ro)))], sk := f30_l10_sk, outs := f30_l10_outs, Y := f30_l10_Y, L := fun t => f30_l10 ((f30_l10_con t).1) ((f30_l10_con t).2) (f30_l10_get t), out := fun t y => f30_l10_out (f30_l10_con t) y, disp := fun t y K => (Sum.elim (fun y => K .ret (f30_l10_o0.fill (f30_l10_w0 (f30_l10_con t) y))) (fun y => K (.exit 0) (f30_l10_o1.fill (f30_l10_w1 (f30_l10_con t) y)))) y }
noncomputable def f30_fx : Fx := { E := env, T := [(84, f84_sm), (85, f85_sm), (80, f80_sm)], H := [(128, (.own (.pair .ro (.pair (.own .ro) .ro)))), (129, (.own (.pair .ro (.pair (.own .ro) .ro)))), (139, (.own (.pair .ro (.pair (.own .ro) .ro)))), (140, (.own (.pair .ro (.pair (.own .ro) .ro))))], O := [], nodes := [((true, 15), f30_l15_nd), ((true, 10), f30_l10_nd)] }
noncomputable def f30_l15_b : Code := (loops f30_code).getD 1 .skip
theorem f30_l15_r (c : f30_l15_C) (x : f30_l15_X) : roundS f30_fx f30_l15_b f30_l15_nd (f30_l15_put c x) = f30_l15_k x.1 c.1 x.2.1 c.2.1 x.2.2 c.2.2.1 c.2.2.2.1 c.2.2.2.2 (fun x => some (.inl (f30_l15_put c x))) (fun y => some (.inr (.inl (f30_l15_w0 c y)))) (fun y => some (.inr (.inr (.inl (f30_l15_w1 c y))))) := by kernel_rfl
theorem f30_l15_n {R : Type} (a0 : Bool) (a1 : Int) (a2 : Int) (a3 : Bool) (a4 : Int) (a5 : List (Bool × (List Int × Unit))) (a6 : List Bool) (a7 : List Bool) (kin : f30_l15_X → Option R) (k0 : Unit → Option R) (k1 : (Bool × Int) → Option R) : f30_l15_k a0 a1 a2 a3 a4 a5 a6 a7 kin k0 k1 = (f30_l15_g a1 a3 a5 a6 a7 (a0, a2, a4)).bind (Sum.elim kin (Sum.elim k0 k1)) := by
  simp only [f30_l15_g, f30_l15_k, cond_bind, ite_bind, bind_bind, some_bind, none_bind, elim_bind, Sum.elim_inl, Sum.elim_inr]
theorem f30_l15_ok : LoopOk f30_fx f30_l15_b f30_l15_nd := loop_ok f30_l15_con f30_l15_get f30_l15_put f30_l15_pg (fun c => f30_l15_g c.1 c.2.1 c.2.2.1 c.2.2.2.1 c.2.2.2.2) f30_l15_out (fun t y => rfl) (by intro R t y K; rcases y with y | y <;> rfl) (fun c x => by
  refine (f30_l15_r c x).trans ((f30_l15_n _ _ _ _ _ _ _ _ _ _ _).trans ?_)
  first
  | rfl
  | congr 1
    funext s
    rcases s with s | s | s <;> rfl) (fun t => rfl)
noncomputable def f30_l10_b : Code := (loops f30_code).getD 0 .skip
theorem f30_l10_r (c : f30_l10_C) (x : f30_l10_X) : roundS f30_fx f30_l10_b f30_l10_nd (f30_l10_put c x) = f30_l10_k x.1 x.2.1 x.2.2 c.1 c.2 (fun x => some (.inl (f30_l10_put c x))) (fun y => some (.inr (.inl (f30_l10_w0 c y)))) (fun y => some (.inr (.inr (.inl (f30_l10_w1 c y))))) := by kernel_rfl
theorem f30_l10_n {R : Type} (a0 : Bool) (a1 : Int) (a2 : List (Bool × (List Int × Unit))) (a3 : List Bool) (a4 : List Bool) (kin : f30_l10_X → Option R) (k0 : Unit → Option R) (k1 : List (Bool × (List Int × Unit)) → Option R) : f30_l10_k a0 a1 a2 a3 a4 kin k0 k1 = (f30_l10_g a3 a4 (a0, a1, a2)).bind (Sum.elim kin (Sum.elim k0 k1)) := by
  simp only [f30_l10_g, f30_l10_k, cond_bind, ite_bind, bind_bind, some_bind, none_bind, elim_bind, Sum.elim_inl, Sum.elim_inr]
theorem f30_l10_ok : LoopOk f30_fx f30_l10_b f30_l10_nd := loop_ok f30_l10_con f30_l10_get f30_l10_put f30_l10_pg (fun c => f30_l10_g c.1 c.2) f30_l10_out (fun t y => rfl) (by intro R t y K; rcases y with y | y <;> rfl) (fun c x => by
  refine (f30_l10_r c x).trans ((f30_l10_n _ _ _ _ _ _ _ _).trans ?_)
  first
  | rfl
  | congr 1
    funext s
    rcases s with s | s | s <;> rfl) (fun t => rfl)
noncomputable def f30_k {R : Type} (a0 : List Int) (a1 : Int) (k : (List (Bool × (List Int × Unit)) × Int × Unit) × (Unit) → Option R) : Option R :=
 ((f84 a0 a1 (4 : Int)).bind fun r0 =>
 (cond (r0.1.2.1 != (0 : Int))
 (k (([], (r0.1.2.1, ())), ()))
 ((f85 r0.1.1).bind fun r1 =>
  (cond (r1.1.2.2.1 != (0 : Int))
  (k (([], (r1.1.2.2.1, ())), ()))
  ((f30_l10 r1.1.1 r1.1.2.1 (true, (0 : Int), [])).bind fun y53 =>
   ((Sum.elim (fun z54 =>
   (k (([], ((3 : Int), ())), ())))
   (fun z55 =>
   (let v56 : Int := (IntKind.i64.wrap (((List.length r1.1.1 : Nat) : Int) - (1 : Int)))
    (if (0 : Int) ≤ v56 ∧ v56 < ((List.length r1.1.2.1 : Nat) : Int) then (cond (List.getD r1.1.2.1 (Int.toNat v56) false)
    (k (([], ((3 : Int), ())), ()))
    ((f80 z55).bind fun r57 =>
     (cond (decide (r57.1.1 > (2400 : Int)))
     (k (([], ((2 : Int), ())), ()))
     (k ((z55, ((0 : Int), ())), ()))))) else none)))) y53))))))
noncomputable def f30 (a0 : List Int) (a1 : Int) : Option ((List (Bool × (List Int × Unit)) × Int × Unit) × (Unit)) := f30_k a0 a1 some
noncomputable def f30_sm : Sm := ⟨[.ro (.slc (.int .i64)), .ro (.int .i64)], [((.slc (.pair .bool (.pair (.slc (.int .u8)) .unit))), .ro), ((.int .i64), .ro)], fun x => f30 x.1 x.2.1⟩
theorem f30_m (x : ArgT [.ro (.slc (.int .i64)), .ro (.int .i64)]) : codeS f30_fx f30_code (start [.ro (.slc (.int .i64)), .ro (.int .i64)] [] x 151) (finK env [.tmp 4, .tmp 5] [.ro (.slc (.int .i64)), .ro (.int .i64)] [((.slc (.pair .bool (.pair (.slc (.int .u8)) .unit))), .ro), ((.int .i64), .ro)]) = f30_k x.1 x.2.1 (fun r => some (r, [])) := by kernel_rfl
theorem f30_n {R : Type} (a0 : List Int) (a1 : Int) (k : (List (Bool × (List Int × Unit)) × Int × Unit) × (Unit) → Option R) : f30_k a0 a1 k = (f30 a0 a1).bind k := by
  simp only [f30, f30_k, cond_bind, ite_bind, bind_bind, some_bind, none_bind, elim_bind]
theorem f30_ok : SmOk Try.prog 30 f30_sm :=
  sum_of (c := f30_fx) (fn := Try.f30) (code := f30_code) (sm := f30_sm) mixed (env_ok env_envB) (TabsOk.all ⟨f84_c, f85_c, f80_c, trivial⟩) Try.func30 (by kernel_rfl)
   ((LoopsOk.of (l := [f30_l10_b, f30_l15_b]) (by kernel_rfl) ⟨node_is (by kernel_rfl) f30_l10_ok, node_is (by kernel_rfl) f30_l15_ok, trivial⟩))
   (no_tails (by kernel_rfl))
   (fun ks x hl => by
    have hk : ks = [] := List.length_eq_zero_iff.1 hl
    subst hk
    exact (f30_m x).trans (f30_n _ _ _))
theorem f30_c : CalOk Try.prog 30 f30_sm := .inl ⟨f30_ok, ⟨Try.f30, Try.func30, by kernel_rfl, by kernel_rfl⟩⟩
noncomputable def f101_code : Code := (Try.f101.body).getD .skip
noncomputable def f101_l6_sk : SkS := ⟨12, [(3, .ref 63 []), (1, .con (.int .u8)), (1, .con (.slc (.int .u8))), (0, .con (.int .i64)), (0, .con (.int .i64)), (3, .con (.int .i64))], [(63, ⟨none, (.slc .bool), (.own .ro), none⟩)]⟩
noncomputable def f101_l6_o0 : SkS := ⟨16, [(3, .ref 63 []), (3, .con (.slc (.int .u8))), (0, .con (.int .i64)), (0, .con (.int .i64))], [(63, ⟨none, (.slc .bool), (.own .ro), none⟩)]⟩
noncomputable def f101_l6_outs : List Way := [⟨(.exit 2), [], f101_l6_o0⟩]
abbrev f101_l6_C := (Int × List Int × Int × Int)
abbrev f101_l6_X := (Int × List Bool)
abbrev f101_l6_Y := (List Bool)
noncomputable def f101_l6_con (t : f101_l6_sk.T) : f101_l6_C := (t.1.1, t.1.2.1, t.1.2.2.1, t.1.2.2.2.1)
noncomputable def f101_l6_get (t : f101_l6_sk.T) : f101_l6_X := (t.1.2.2.2.2.1, t.2.1.1)
noncomputable def f101_l6_put (c : f101_l6_C) (x : f101_l6_X) : f101_l6_sk.T := ((c.1, (c.2.1, (c.2.2.1, (c.2.2.2, (x.1, ()))))), ((x.2, ()), ()))
theorem f101_l6_pg (t : f101_l6_sk.T) : f101_l6_put (f101_l6_con t) (f101_l6_get t) = t := by kernel_rfl
noncomputable def f101_l6_w0 (c : f101_l6_C) (y : List Bool) : f101_l6_o0.T := ((c.2.1, (c.2.2.1, (c.2.2.2, ()))), ((y, ()), ()))
noncomputable def f101_l6_out (c : f101_l6_C) (y : f101_l6_Y) : OutV f101_l6_outs := (fun y => (.inl (f101_l6_w0 c y))) y
noncomputable def f101_l6_k {R : Type} (a0 : Int) (a1 : List Int) (a2 : Int) (a3 : Int) (a4 : Int) (a5 : List Bool) (kin : f101_l6_X → Option R) (k0 : List Bool → Option R) : Option R :=
 (cond (decide (a4 < (8 : Int)))
 (if a4 < 0 then none else (let v0 : Int := (IntKind.u8.wrap (a0 * 2 ^ (min (Int.toNat a4) 8)))
  (if (List.length a5 + 1) * 1 ≤ most ∧ 0 < 1 ∧ 0 < 1 then (let r1 : List Bool := (a5 ++ [(decide (v0 ≥ (128 : Int)))])
  (let v2 : Int := (IntKind.i64.wrap (a4 + (1 : Int)))
  (kin (v2, r1)))) else none)))
 (k0 a5))
noncomputable def f101_l6_g (a0 : Int) (a1 : List Int) (a2 : Int) (a3 : Int) (x : f101_l6_X) : Option (f101_l6_X ⊕ f101_l6_Y) := f101_l6_k a0 a1 a2 a3 x.1 x.2 (fun x => some (.inl x)) (fun y => some (.inr y))
noncomputable def f101_l6 (a0 : Int) (a1 : List Int) (a2 : Int) (a3 : Int) (x : f101_l6_X) : Option f101_l6_Y := loopO (f101_l6_g a0 a1 a2 a3) x
noncomputable def f101_l6_nd : Node := { nils := [(3, 63, .bool, .ro)], sk := f101_l6_sk, outs := f101_l6_outs, Y := f101_l6_Y, L := fun t => f101_l6 ((f101_l6_con t).1) ((f101_l6_con t).2.1) ((f101_l6_con t).2.2.1) ((f101_l6_con t).2.2.2) (f101_l6_get t), out := fun t y => f101_l6_out (f101_l6_con t) y, disp := fun t y K => (fun y => K (.exit 2) (f101_l6_o0.fill (f101_l6_w0 (f101_l6_con t) y))) y }
noncomputable def f101_l3_sk : SkS := ⟨16, [(3, .ref 63 []), (3, .con (.slc (.int .u8))), (0, .con (.int .i64)), (0, .con (.int .i64))], [(63, ⟨none, (.slc .bool), (.own .ro), none⟩)]⟩
noncomputable def f101_l3_o0 : SkS := ⟨22, [(3, .ref 63 [])], [(63, ⟨none, (.slc .bool), (.own .ro), none⟩)]⟩
noncomputable def f101_l3_outs : List Way := [⟨(.exit 0), [], f101_l3_o0⟩]
abbrev f101_l3_C := (List Int × Int)
abbrev f101_l3_X := (Int × List Bool)
abbrev f101_l3_Y := (List Bool)
noncomputable def f101_l3_con (t : f101_l3_sk.T) : f101_l3_C := (t.1.1, t.1.2.1)
noncomputable def f101_l3_get (t : f101_l3_sk.T) : f101_l3_X := (t.1.2.2.1, t.2.1.1)
noncomputable def f101_l3_put (c : f101_l3_C) (x : f101_l3_X) : f101_l3_sk.T := ((c.1, (c.2, (x.1, ()))), ((x.2, ()), ()))
theorem f101_l3_pg (t : f101_l3_sk.T) : f101_l3_put (f101_l3_con t) (f101_l3_get t) = t := by kernel_rfl
noncomputable def f101_l3_w0 (c : f101_l3_C) (y : List Bool) : f101_l3_o0.T := ((), ((y, ()), ()))
noncomputable def f101_l3_out (c : f101_l3_C) (y : f101_l3_Y) : OutV f101_l3_outs := (fun y => (.inl (f101_l3_w0 c y))) y
noncomputable def f101_l3_k {R : Type} (a0 : List Int) (a1 : Int) (a2 : Int) (a3 : List Bool) (kin : f101_l3_X → Option R) (k0 : List Bool → Option R) : Option R :=
 (cond (decide (a2 < a1))
 (if (0 : Int) ≤ a2 ∧ a2 < ((List.length a0 : Nat) : Int) then ((f101_l6 (List.getD a0 (Int.toNat a2) (0 : Int)) a0 a1 a2 ((0 : Int), a3)).bind fun y3 =>
  (let v4 : Int := (IntKind.i64.wrap (a2 + (1 : Int)))
  (kin (v4, y3)))) else none)
 (k0 a3))
noncomputable def f101_l3_g (a0 : List Int) (a1 : Int) (x : f101_l3_X) : Option (f101_l3_X ⊕ f101_l3_Y) := f101_l3_k a0 a1 x.1 x.2 (fun x => some (.inl x)) (fun y => some (.inr y))
noncomputable def f101_l3 (a0 : List Int) (a1 : Int) (x : f101_l3_X) : Option f101_l3_Y := loopO (f101_l3_g a0 a1) x
noncomputable def f101_l3_nd : Node := { nils := [(3, 63, .bool, .ro)], sk := f101_l3_sk, outs := f101_l3_outs, Y := f101_l3_Y, L := fun t => f101_l3 ((f101_l3_con t).1) ((f101_l3_con t).2) (f101_l3_get t), out := fun t y => f101_l3_out (f101_l3_con t) y, disp := fun t y K => (fun y => K (.exit 0) (f101_l3_o0.fill (f101_l3_w0 (f101_l3_con t) y))) y }
noncomputable def f101_fx : Fx := { E := env, T := [], H := [], O := [], nodes := [((true, 6), f101_l6_nd), ((true, 3), f101_l3_nd)] }
noncomputable def f101_l6_b : Code := (loops f101_code).getD 1 .skip
theorem f101_l6_r (c : f101_l6_C) (x : f101_l6_X) : roundS f101_fx f101_l6_b f101_l6_nd (f101_l6_put c x) = f101_l6_k c.1 c.2.1 c.2.2.1 c.2.2.2 x.1 x.2 (fun x => some (.inl (f101_l6_put c x))) (fun y => some (.inr (.inl (f101_l6_w0 c y)))) := by kernel_rfl
theorem f101_l6_n {R : Type} (a0 : Int) (a1 : List Int) (a2 : Int) (a3 : Int) (a4 : Int) (a5 : List Bool) (kin : f101_l6_X → Option R) (k0 : List Bool → Option R) : f101_l6_k a0 a1 a2 a3 a4 a5 kin k0 = (f101_l6_g a0 a1 a2 a3 (a4, a5)).bind (Sum.elim kin k0) := by
  simp only [f101_l6_g, f101_l6_k, cond_bind, ite_bind, bind_bind, some_bind, none_bind, elim_bind, Sum.elim_inl, Sum.elim_inr]
theorem f101_l6_ok : LoopOk f101_fx f101_l6_b f101_l6_nd := loop_ok f101_l6_con f101_l6_get f101_l6_put f101_l6_pg (fun c => f101_l6_g c.1 c.2.1 c.2.2.1 c.2.2.2) f101_l6_out (fun t y => rfl) (fun t y K => rfl) (fun c x => by
  refine (f101_l6_r c x).trans ((f101_l6_n _ _ _ _ _ _ _ _).trans ?_)
  first
  | rfl
  | congr 1
    funext s
    rcases s with s | s <;> rfl) (fun t => rfl)
noncomputable def f101_l3_b : Code := (loops f101_code).getD 0 .skip
theorem f101_l3_r (c : f101_l3_C) (x : f101_l3_X) : roundS f101_fx f101_l3_b f101_l3_nd (f101_l3_put c x) = f101_l3_k c.1 c.2 x.1 x.2 (fun x => some (.inl (f101_l3_put c x))) (fun y => some (.inr (.inl (f101_l3_w0 c y)))) := by kernel_rfl
theorem f101_l3_n {R : Type} (a0 : List Int) (a1 : Int) (a2 : Int) (a3 : List Bool) (kin : f101_l3_X → Option R) (k0 : List Bool → Option R) : f101_l3_k a0 a1 a2 a3 kin k0 = (f101_l3_g a0 a1 (a2, a3)).bind (Sum.elim kin k0) := by
  simp only [f101_l3_g, f101_l3_k, cond_bind, ite_bind, bind_bind, some_bind, none_bind, elim_bind, Sum.elim_inl, Sum.elim_inr]
theorem f101_l3_ok : LoopOk f101_fx f101_l3_b f101_l3_nd := loop_ok f101_l3_con f101_l3_get f101_l3_put f101_l3_pg (fun c => f101_l3_g c.1 c.2) f101_l3_out (fun t y => rfl) (fun t y K => rfl) (fun c x => by
  refine (f101_l3_r c x).trans ((f101_l3_n _ _ _ _ _ _).trans ?_)
  first
  | rfl
  | congr 1
    funext s
    rcases s with s | s <;> rfl) (fun t => rfl)
noncomputable def f101_k {R : Type} (a0 : List Int) (k : (List Bool × Unit) × (Unit) → Option R) : Option R :=
 ((f101_l3 a0 ((List.length a0 : Nat) : Int) ((0 : Int), [])).bind fun y5 =>
 (k ((y5, ()), ())))
noncomputable def f101 (a0 : List Int) : Option ((List Bool × Unit) × (Unit)) := f101_k a0 some
noncomputable def f101_sm : Sm := ⟨[.ro (.slc (.int .u8))], [((.slc .bool), (.own .ro))], fun x => f101 x.1⟩
theorem f101_m (x : ArgT [.ro (.slc (.int .u8))]) : codeS f101_fx f101_code (start [.ro (.slc (.int .u8))] [] x 26) (finK env [.tmp 2] [.ro (.slc (.int .u8))] [((.slc .bool), (.own .ro))]) = f101_k x.1 (fun r => some (r, [])) := by kernel_rfl
theorem f101_n {R : Type} (a0 : List Int) (k : (List Bool × Unit) × (Unit) → Option R) : f101_k a0 k = (f101 a0).bind k := by
  simp only [f101, f101_k, cond_bind, ite_bind, bind_bind, some_bind, none_bind, elim_bind]
theorem f101_ok : SmOk Try.prog 101 f101_sm :=
  sum_of (c := f101_fx) (fn := Try.f101) (code := f101_code) (sm := f101_sm) mixed (env_ok env_envB) (TabsOk.all trivial) Try.func101 (by kernel_rfl)
   ((LoopsOk.of (l := [f101_l3_b, f101_l6_b]) (by kernel_rfl) ⟨node_is (by kernel_rfl) f101_l3_ok, node_is (by kernel_rfl) f101_l6_ok, trivial⟩))
   (no_tails (by kernel_rfl))
   (fun ks x hl => by
    have hk : ks = [] := List.length_eq_zero_iff.1 hl
    subst hk
    exact (f101_m x).trans (f101_n _ _))
theorem f101_c : CalOk Try.prog 101 f101_sm := .inl ⟨f101_ok, ⟨Try.f101, Try.func101, by kernel_rfl, by kernel_rfl⟩⟩
noncomputable def f86_code : Code := (Try.f86.body).getD .skip
noncomputable def f86_l4_sk : SkS := ⟨21, [(4, .ref 79 []), (0, .ref 128 []), (3, .con (.slc (.pair .bool (.pair (.slc (.int .u8)) .unit)))), (0, .con (.int .i64)), (0, .con (.int .i64))], [(79, ⟨none, (.slc .bool), (.own .ro), none⟩), (128, ⟨none, (.mp (.int .i64) .bool), (.own (.own .ro)), none⟩)]⟩
noncomputable def f86_l4_o0 : SkS := ⟨27, [(4, .ref 79 []), (0, .ref 128 [])], [(79, ⟨none, (.slc .bool), (.own .ro), none⟩), (128, ⟨none, (.mp (.int .i64) .bool), (.own (.own .ro)), none⟩)]⟩
noncomputable def f86_l4_outs : List Way := [⟨(.exit 0), [], f86_l4_o0⟩]
abbrev f86_l4_C := (List (Bool × (List Int × Unit)) × Int)
abbrev f86_l4_X := (Int × List Bool × List (Int × Bool))
abbrev f86_l4_Y := ((List Bool × List (Int × Bool)))
noncomputable def f86_l4_con (t : f86_l4_sk.T) : f86_l4_C := (t.1.1, t.1.2.1)
noncomputable def f86_l4_get (t : f86_l4_sk.T) : f86_l4_X := (t.1.2.2.1, t.2.1.1, t.2.2.1.1)
noncomputable def f86_l4_put (c : f86_l4_C) (x : f86_l4_X) : f86_l4_sk.T := ((c.1, (c.2, (x.1, ()))), ((x.2.1, ()), ((x.2.2, ()), ())))
theorem f86_l4_pg (t : f86_l4_sk.T) : f86_l4_put (f86_l4_con t) (f86_l4_get t) = t := by kernel_rfl
noncomputable def f86_l4_w0 (c : f86_l4_C) (y : (List Bool × List (Int × Bool))) : f86_l4_o0.T := ((), ((y.1, ()), ((y.2, ()), ())))
noncomputable def f86_l4_out (c : f86_l4_C) (y : f86_l4_Y) : OutV f86_l4_outs := (fun y => (.inl (f86_l4_w0 c y))) y
noncomputable def f86_l4_k {R : Type} (a0 : List (Bool × (List Int × Unit))) (a1 : Int) (a2 : Int) (a3 : List Bool) (a4 : List (Int × Bool)) (kin : f86_l4_X → Option R) (k0 : (List Bool × List (Int × Bool)) → Option R) : Option R :=
 (cond (decide (a2 < a1))
 (if (0 : Int) ≤ a2 ∧ a2 < ((List.length a0 : Nat) : Int) then (cond (List.getD a0 (Int.toNat a2) (false, (([] : List Int), ()))).1
  (let v0 : Int := (IntKind.i64.wrap (((List.length a3 : Nat) : Int) + (5 : Int)))
   (let r1 : List (Int × Bool) := (mset (.int .i64) .bool a4 v0 true)
   ((f101 [(161 : Int)]).bind fun r2 =>
   (if (List.length a3 + List.length r2.1.1) * 1 ≤ most ∧ 0 < 1 ∧ 0 < 1 then (let r3 : List Bool := (a3 ++ r2.1.1)
   ((f101 (List.getD a0 (Int.toNat a2) (false, (([] : List Int), ()))).2.1).bind fun r4 =>
   (if (List.length r3 + List.length r4.1.1) * 1 ≤ most ∧ 0 < 1 ∧ 0 < 1 then (let r5 : List Bool := (r3 ++ r4.1.1)
   (let v6 : Int := (IntKind.i64.wrap (a2 + (1 : Int)))
   (kin (v6, r5, r1)))) else none))) else none))))
  ((f101 (List.getD a0 (Int.toNat a2) (false, (([] : List Int), ()))).2.1).bind fun r7 =>
   (if (List.length a3 + List.length r7.1.1) * 1 ≤ most ∧ 0 < 1 ∧ 0 < 1 then (let r8 : List Bool := (a3 ++ r7.1.1)
   (let v9 : Int := (IntKind.i64.wrap (a2 + (1 : Int)))
   (kin (v9, r8, a4)))) else none))) else none)
 (k0 (a3, a4)))
noncomputable def f86_l4_g (a0 : List (Bool × (List Int × Unit))) (a1 : Int) (x : f86_l4_X) : Option (f86_l4_X ⊕ f86_l4_Y) := f86_l4_k a0 a1 x.1 x.2.1 x.2.2 (fun x => some (.inl x)) (fun y => some (.inr y))
noncomputable def f86_l4 (a0 : List (Bool × (List Int × Unit))) (a1 : Int) (x : f86_l4_X) : Option f86_l4_Y := loopO (f86_l4_g a0 a1) x
noncomputable def f86_l4_nd : Node := { nils := [(4, 79, .bool, .ro)], sk := f86_l4_sk, outs := f86_l4_outs, Y := f86_l4_Y, L := fun t => f86_l4 ((f86_l4_con t).1) ((f86_l4_con t).2) (f86_l4_get t), out := fun t y => f86_l4_out (f86_l4_con t) y, disp := fun t y K => (fun y => K (.exit 0) (f86_l4_o0.fill (f86_l4_w0 (f86_l4_con t) y))) y }
noncomputable def f86_fx : Fx := { E := env, T := [(101, f101_sm)], H := [], O := [], nodes := [((true, 4), f86_l4_nd)] }
noncomputable def f86_l4_b : Code := (loops f86_code).getD 0 .skip
theorem f86_l4_r (c : f86_l4_C) (x : f86_l4_X) : roundS f86_fx f86_l4_b f86_l4_nd (f86_l4_put c x) = f86_l4_k c.1 c.2 x.1 x.2.1 x.2.2 (fun x => some (.inl (f86_l4_put c x))) (fun y => some (.inr (.inl (f86_l4_w0 c y)))) := by kernel_rfl
theorem f86_l4_n {R : Type} (a0 : List (Bool × (List Int × Unit))) (a1 : Int) (a2 : Int) (a3 : List Bool) (a4 : List (Int × Bool)) (kin : f86_l4_X → Option R) (k0 : (List Bool × List (Int × Bool)) → Option R) : f86_l4_k a0 a1 a2 a3 a4 kin k0 = (f86_l4_g a0 a1 (a2, a3, a4)).bind (Sum.elim kin k0) := by
  simp only [f86_l4_g, f86_l4_k, cond_bind, ite_bind, bind_bind, some_bind, none_bind, elim_bind, Sum.elim_inl, Sum.elim_inr]
theorem f86_l4_ok : LoopOk f86_fx f86_l4_b f86_l4_nd := loop_ok f86_l4_con f86_l4_get f86_l4_put f86_l4_pg (fun c => f86_l4_g c.1 c.2) f86_l4_out (fun t y => rfl) (fun t y K => rfl) (fun c x => by
  refine (f86_l4_r c x).trans ((f86_l4_n _ _ _ _ _ _ _).trans ?_)
  first
  | rfl
  | congr 1
    funext s
    rcases s with s | s <;> rfl) (fun t => rfl)
noncomputable def f86_k {R : Type} (a0 : List (Bool × (List Int × Unit))) (k : (List Bool × List (Int × Bool) × Unit) × (Unit) → Option R) : Option R :=
 ((f86_l4 a0 ((List.length a0 : Nat) : Int) ((0 : Int), [], ([] : List (Int × Bool)))).bind fun y10 =>
 (k ((y10.1, (y10.2, ())), ())))
noncomputable def f86 (a0 : List (Bool × (List Int × Unit))) : Option ((List Bool × List (Int × Bool) × Unit) × (Unit)) := f86_k a0 some
noncomputable def f86_sm : Sm := ⟨[.ro (.slc (.pair .bool (.pair (.slc (.int .u8)) .unit)))], [((.slc .bool), (.own .ro)), ((.mp (.int .i64) .bool), (.own (.own .ro)))], fun x => f86 x.1⟩
theorem f86_m (x : ArgT [.ro (.slc (.pair .bool (.pair (.slc (.int .u8)) .unit)))]) : codeS f86_fx f86_code (start [.ro (.slc (.pair .bool (.pair (.slc (.int .u8)) .unit)))] [] x 33) (finK env [.tmp 2, .tmp 3] [.ro (.slc (.pair .bool (.pair (.slc (.int .u8)) .unit)))] [((.slc .bool), (.own .ro)), ((.mp (.int .i64) .bool), (.own (.own .ro)))]) = f86_k x.1 (fun r => some (r, [])) := by kernel_rfl
theorem f86_n {R : Type} (a0 : List (Bool × (List Int × Unit))) (k : (List Bool × List (Int × Bool) × Unit) × (Unit) → Option R) : f86_k a0 k = (f86 a0).bind k := by
  simp only [f86, f86_k, cond_bind, ite_bind, bind_bind, some_bind, none_bind, elim_bind]
theorem f86_ok : SmOk Try.prog 86 f86_sm :=
  sum_of (c := f86_fx) (fn := Try.f86) (code := f86_code) (sm := f86_sm) mixed (env_ok env_envB) (TabsOk.all ⟨f101_c, trivial⟩) Try.func86 (by kernel_rfl)
   ((LoopsOk.of (l := [f86_l4_b]) (by kernel_rfl) ⟨node_is (by kernel_rfl) f86_l4_ok, trivial⟩))
   (no_tails (by kernel_rfl))
   (fun ks x hl => by
    have hk : ks = [] := List.length_eq_zero_iff.1 hl
    subst hk
    exact (f86_m x).trans (f86_n _ _))
theorem f86_c : CalOk Try.prog 86 f86_sm := .inl ⟨f86_ok, ⟨Try.f86, Try.func86, by kernel_rfl, by kernel_rfl⟩⟩
noncomputable def f130_code : Code := (Try.f130.body).getD .skip
noncomputable def f130_fx : Fx := { E := env, T := [], H := [], O := [], nodes := [] }
noncomputable def f130_k {R : Type} (a0 : List Bool) (k : (List Bool × Unit) × (Unit) → Option R) : Option R :=
 (nilT (List.isEmpty a0)
 (k (([], ()), ()))
 (if (0 + List.length a0) * 1 ≤ most ∧ 0 < 1 ∧ 0 < 1 then (let r0 : List Bool := ([] ++ a0)
  (k ((r0, ()), ()))) else none))
noncomputable def f130 (a0 : List Bool) : Option ((List Bool × Unit) × (Unit)) := f130_k a0 some
noncomputable def f130_sm : Sm := ⟨[.ro (.slc .bool)], [((.slc .bool), (.own .ro))], fun x => f130 x.1⟩
theorem f130_m (x : ArgT [.ro (.slc .bool)]) : codeS f130_fx f130_code (start [.ro (.slc .bool)] [] x 8) (finK env [.tmp 2] [.ro (.slc .bool)] [((.slc .bool), (.own .ro))]) = f130_k x.1 (fun r => some (r, [])) := by kernel_rfl
theorem f130_n {R : Type} (a0 : List Bool) (k : (List Bool × Unit) × (Unit) → Option R) : f130_k a0 k = (f130 a0).bind k := by
  simp only [f130, f130_k, cond_bind, ite_bind, bind_bind, some_bind, none_bind, elim_bind]
  rcases a0 with _ | ⟨x, l⟩ <;> simp [nilT, ite_bind, most]
theorem f130_ok : SmOk Try.prog 130 f130_sm :=
  sum_of (c := f130_fx) (fn := Try.f130) (code := f130_code) (sm := f130_sm) mixed (env_ok env_envB) (TabsOk.all trivial) Try.func130 (by kernel_rfl)
   ((LoopsOk.of (l := []) (by kernel_rfl) trivial))
   (no_tails (by kernel_rfl))
   (fun ks x hl => by
    have hk : ks = [] := List.length_eq_zero_iff.1 hl
    subst hk
    exact (f130_m x).trans (f130_n _ _))
theorem f130_c : CalOk Try.prog 130 f130_sm := .inl ⟨f130_ok, ⟨Try.f130, Try.func130, by kernel_rfl, by kernel_rfl⟩⟩
noncomputable def f88_code : Code := (Try.f88.body).getD .skip
noncomputable def f88_l4_sk : SkS := ⟨23, [(1, .con (.mp (.int .i64) .bool)), (3, .ref 95 []), (0, .con .bool), (5, .ref 192 []), (0, .con (.int .i64)), (0, .con (.int .i64))], [(95, ⟨none, (.slc .bool), (.own .ro), none⟩), (192, ⟨none, (.slc .bool), (.own .ro), none⟩)]⟩
noncomputable def f88_l4_o0 : SkS := ⟨32, [(5, .ref 95 [])], [(95, ⟨none, (.slc .bool), (.own .ro), none⟩)]⟩
noncomputable def f88_l4_outs : List Way := [⟨(.exit 0), [], f88_l4_o0⟩]
abbrev f88_l4_C := (List (Int × Bool) × Int × List Bool)
abbrev f88_l4_X := (Bool × Int × List Bool)
abbrev f88_l4_Y := (List Bool)
noncomputable def f88_l4_con (t : f88_l4_sk.T) : f88_l4_C := (t.1.1, t.1.2.2.1, t.2.2.1.1)
noncomputable def f88_l4_get (t : f88_l4_sk.T) : f88_l4_X := (t.1.2.1, t.1.2.2.2.1, t.2.1.1)
noncomputable def f88_l4_put (c : f88_l4_C) (x : f88_l4_X) : f88_l4_sk.T := ((c.1, (x.1, (c.2.1, (x.2.1, ())))), ((x.2.2, ()), ((c.2.2, ()), ())))
theorem f88_l4_pg (t : f88_l4_sk.T) : f88_l4_put (f88_l4_con t) (f88_l4_get t) = t := by kernel_rfl
noncomputable def f88_l4_w0 (c : f88_l4_C) (y : List Bool) : f88_l4_o0.T := ((), ((y, ()), ()))
noncomputable def f88_l4_out (c : f88_l4_C) (y : f88_l4_Y) : OutV f88_l4_outs := (fun y => (.inl (f88_l4_w0 c y))) y
noncomputable def f88_l4_k {R : Type} (a0 : List (Int × Bool)) (a1 : Bool) (a2 : Int) (a3 : Int) (a4 : List Bool) (a5 : List Bool) (kin : f88_l4_X → Option R) (k0 : List Bool → Option R) : Option R :=
 (cond (decide (a3 < a2))
 (if (0 : Int) ≤ a3 ∧ a3 < ((List.length a5 : Nat) : Int) then (cond (!(List.getD a5 (Int.toNat a3) false))
  (cond (!a1)
   (let v2 : Bool := ((mfind (.int .i64) .bool a0 a3).getD false)
    (if (List.length a4 + 2) * 1 ≤ most ∧ 0 < 1 ∧ 0 < 1 then (let r3 : List Bool := (a4 ++ [(!v2), (List.getD a5 (Int.toNat a3) false)])
    (let v4 : Int := (IntKind.i64.wrap (a3 + (1 : Int)))
    (kin ((List.getD a5 (Int.toNat a3) false), v4, r3)))) else none))
   (if (List.length a4 + 2) * 1 ≤ most ∧ 0 < 1 ∧ 0 < 1 then (let r5 : List Bool := (a4 ++ [false, (List.getD a5 (Int.toNat a3) false)])
    (let v6 : Int := (IntKind.i64.wrap (a3 + (1 : Int)))
    (kin ((List.getD a5 (Int.toNat a3) false), v6, r5)))) else none))
  (if (List.length a4 + 2) * 1 ≤ most ∧ 0 < 1 ∧ 0 < 1 then (let r7 : List Bool := (a4 ++ [false, (List.getD a5 (Int.toNat a3) false)])
   (let v8 : Int := (IntKind.i64.wrap (a3 + (1 : Int)))
   (kin ((List.getD a5 (Int.toNat a3) false), v8, r7)))) else none)) else none)
 (k0 a4))
noncomputable def f88_l4_g (a0 : List (Int × Bool)) (a2 : Int) (a5 : List Bool) (x : f88_l4_X) : Option (f88_l4_X ⊕ f88_l4_Y) := f88_l4_k a0 x.1 a2 x.2.1 x.2.2 a5 (fun x => some (.inl x)) (fun y => some (.inr y))
noncomputable def f88_l4 (a0 : List (Int × Bool)) (a2 : Int) (a5 : List Bool) (x : f88_l4_X) : Option f88_l4_Y := loopO (f88_l4_g a0 a2 a5) x
noncomputable def f88_l4_nd : Node := { nils := [(5, 95, .bool, .ro)], sk := f88_l4_sk, outs := f88_l4_outs, Y := f88_l4_Y, L := fun t => f88_l4 ((f88_l4_con t).1) ((f88_l4_con t).2.1) ((f88_l4_con t).2.2) (f88_l4_get t), out := fun t y => f88_l4_out (f88_l4_con t) y, disp := fun t y K => (fun y => K (.exit 0) (f88_l4_o0.fill (f88_l4_w0 (f88_l4_con t) y))) y }
noncomputable def f88_fx : Fx := { E := env, T := [(130, f130_sm)], H := [], O := [], nodes := [((true, 4), f88_l4_nd)] }
noncomputable def f88_l4_b : Code := (loops f88_code).getD 0 .skip
theorem f88_l4_r (c : f88_l4_C) (x : f88_l4_X) : roundS f88_fx f88_l4_b f88_l4_nd (f88_l4_put c x) = f88_l4_k c.1 x.1 c.2.1 x.2.1 x.2.2 c.2.2 (fun x => some (.inl (f88_l4_put c x))) (fun y => some (.inr (.inl (f88_l4_w0 c y)))) := by kernel_rfl
theorem f88_l4_n {R : Type} (a0 : List (Int × Bool)) (a1 : Bool) (a2 : Int) (a3 : Int) (a4 : List Bool) (a5 : List Bool) (kin : f88_l4_X → Option R) (k0 : List Bool → Option R) : f88_l4_k a0 a1 a2 a3 a4 a5 kin k0 = (f88_l4_g a0 a2 a5 (a1, a3, a4)).bind (Sum.elim kin k0) := by
  simp only [f88_l4_g, f88_l4_k, cond_bind, ite_bind, bind_bind, some_bind, none_bind, elim_bind, Sum.elim_inl, Sum.elim_inr]
theorem f88_l4_ok : LoopOk f88_fx f88_l4_b f88_l4_nd := loop_ok f88_l4_con f88_l4_get f88_l4_put f88_l4_pg (fun c => f88_l4_g c.1 c.2.1 c.2.2) f88_l4_out (fun t y => rfl) (fun t y K => rfl) (fun c x => by
  refine (f88_l4_r c x).trans ((f88_l4_n _ _ _ _ _ _ _ _).trans ?_)
  first
  | rfl
  | congr 1
    funext s
    rcases s with s | s <;> rfl) (fun t => rfl)
noncomputable def f88_k {R : Type} (a0 : List Bool) (a1 : List (Int × Bool)) (k : (List Bool × Unit) × (Unit) → Option R) : Option R :=
 ((f130 a0).bind fun r0 =>
 (if (List.length r0.1.1 + 1) * 1 ≤ most ∧ 0 < 1 ∧ 0 < 1 then (let r1 : List Bool := (r0.1.1 ++ [true])
 ((f88_l4 a1 ((List.length r1 : Nat) : Int) r1 (true, (0 : Int), [])).bind fun y9 =>
 (k ((y9, ()), ())))) else none))
noncomputable def f88 (a0 : List Bool) (a1 : List (Int × Bool)) : Option ((List Bool × Unit) × (Unit)) := f88_k a0 a1 some
noncomputable def f88_sm : Sm := ⟨[.ro (.slc .bool), .ro (.mp (.int .i64) .bool)], [((.slc .bool), (.own .ro))], fun x => f88 x.1 x.2.1⟩
theorem f88_m (x : ArgT [.ro (.slc .bool), .ro (.mp (.int .i64) .bool)]) : codeS f88_fx f88_code (start [.ro (.slc .bool), .ro (.mp (.int .i64) .bool)] [] x 38) (finK env [.tmp 4] [.ro (.slc .bool), .ro (.mp (.int .i64) .bool)] [((.slc .bool), (.own .ro))]) = f88_k x.1 x.2.1 (fun r => some (r, [])) := by kernel_rfl
theorem f88_n {R : Type} (a0 : List Bool) (a1 : List (Int × Bool)) (k : (List Bool × Unit) × (Unit) → Option R) : f88_k a0 a1 k = (f88 a0 a1).bind k := by
  simp only [f88, f88_k, cond_bind, ite_bind, bind_bind, some_bind, none_bind, elim_bind]
theorem f88_ok : SmOk Try.prog 88 f88_sm :=
  sum_of (c := f88_fx) (fn := Try.f88) (code := f88_code) (sm := f88_sm) mixed (env_ok env_envB) (TabsOk.all ⟨f130_c, trivial⟩) Try.func88 (by kernel_rfl)
   ((LoopsOk.of (l := [f88_l4_b]) (by kernel_rfl) ⟨node_is (by kernel_rfl) f88_l4_ok, trivial⟩))
   (no_tails (by kernel_rfl))
   (fun ks x hl => by
    have hk : ks = [] := List.length_eq_zero_iff.1 hl
    subst hk
    exact (f88_m x).trans (f88_n _ _ _))
theorem f88_c : CalOk Try.prog 88 f88_sm := .inl ⟨f88_ok, ⟨Try.f88, Try.func88, by kernel_rfl, by kernel_rfl⟩⟩
abbrev f87_l6_X := (Int × Int × List Int)
abbrev f87_l6_Y := (List Int)
noncomputable def f87_l6_k {R : Type} (a0 : Int) (a1 : Int) (a2 : List Bool) (a3 : Int) (a4 : Int) (a5 : List Int) (kin : f87_l6_X → Option R) (k0 : List Int → Option R) : Option R :=
 (cond (decide (a4 < a3))
 (if (0 : Int) ≤ a4 ∧ a4 < ((List.length a2 : Nat) : Int) then (cond (List.getD a2 (Int.toNat a4) false)
  (let v0 : Int := (IntKind.i64.wrap (a4 + (1 : Int)))
   (let v1 : Int := (IntKind.i64.wrap (v0 - a1))
   (let v2 : Int := (IntKind.i64.wrap (v1 * a0))
   (if (List.length a5 + 1) * 8 ≤ most ∧ 0 < 8 ∧ 0 < 1 then (let r3 : List Int := (a5 ++ [v2])
   (let v4 : Int := (IntKind.i64.wrap (a4 + (1 : Int)))
   (let v5 : Int := (IntKind.i64.wrap (a4 + (1 : Int)))
   (kin (v4, v5, r3))))) else none))))
  (let v6 : Int := (IntKind.i64.wrap (a4 + (1 : Int)))
   (kin (a1, v6, a5)))) else none)
 (k0 a5))
noncomputable def f87_l6_g (a0 : Int) (a2 : List Bool) (a3 : Int) (x : f87_l6_X) : Option (f87_l6_X ⊕ f87_l6_Y) := f87_l6_k a0 x.1 a2 a3 x.2.1 x.2.2 (fun x => some (.inl x)) (fun y => some (.inr y))
noncomputable def f87_l6 (a0 : Int) (a2 : List Bool) (a3 : Int) (x : f87_l6_X) : Option f87_l6_Y := loopO (f87_l6_g a0 a2 a3) x
noncomputable def f87_k {R : Type} (a0 : List Bool) (a1 : Int) (k : (List Int × Int × Unit) × (Unit) → Option R) : Option R :=
 (cond (decide (a1 < (2 : Int)))
 (k (([], ((1 : Int), ())), ()))
 (cond (decide (a1 > (1000 : Int)))
  (k (([], ((1 : Int), ())), ()))
  ((f87_l6 a1 a0 ((List.length a0 : Nat) : Int) ((0 : Int), (0 : Int), [])).bind fun y7 =>
   (cond (decide (((List.length y7 : Nat) : Int) > (40000 : Int)))
   (k (([], ((2 : Int), ())), ()))
   (k ((y7, ((0 : Int), ())), ()))))))
noncomputable def f87 (a0 : List Bool) (a1 : Int) : Option ((List Int × Int × Unit) × (Unit)) := f87_k a0 a1 some
abbrev f31_l3_X := (Int × Int)
abbrev f31_l3_Y := (Int)
noncomputable def f31_l3_k {R : Type} (a0 : List (Bool × (List Int × Unit))) (a1 : Int) (a2 : Int) (a3 : List (Bool × (List Int × Unit))) (a4 : Int) (a5 : Int) (kin : f31_l3_X → Option R) (k0 : Int → Option R) : Option R :=
 (cond (decide (a5 < a4))
 (if (0 : Int) ≤ a5 ∧ a5 < ((List.length a3 : Nat) : Int) then (let v0 : Int := (IntKind.i64.wrap (a2 + ((List.length (List.getD a3 (Int.toNat a5) (false, (([] : List Int), ()))).2.1 : Nat) : Int)))
  (cond (List.getD a3 (Int.toNat a5) (false, (([] : List Int), ()))).1
  (let v1 : Int := (IntKind.i64.wrap (v0 + (1 : Int)))
   (let v2 : Int := (IntKind.i64.wrap (a5 + (1 : Int)))
   (kin (v1, v2))))
  (let v3 : Int := (IntKind.i64.wrap (a5 + (1 : Int)))
   (kin (v0, v3))))) else none)
 (k0 a2))
noncomputable def f31_l3_g (a0 : List (Bool × (List Int × Unit))) (a1 : Int) (a3 : List (Bool × (List Int × Unit))) (a4 : Int) (x : f31_l3_X) : Option (f31_l3_X ⊕ f31_l3_Y) := f31_l3_k a0 a1 x.1 a3 a4 x.2 (fun x => some (.inl x)) (fun y => some (.inr y))
noncomputable def f31_l3 (a0 : List (Bool × (List Int × Unit))) (a1 : Int) (a3 : List (Bool × (List Int × Unit))) (a4 : Int) (x : f31_l3_X) : Option f31_l3_Y := loopO (f31_l3_g a0 a1 a3 a4) x
noncomputable def f31_k {R : Type} (a0 : List (Bool × (List Int × Unit))) (a1 : Int) (k : (List Int × Int × Unit) × (Unit) → Option R) : Option R :=
 ((f31_l3 a0 a1 a0 ((List.length a0 : Nat) : Int) ((0 : Int), (0 : Int))).bind fun y4 =>
 (cond (decide (y4 > (2400 : Int)))
 (k (([], ((2 : Int), ())), ()))
 ((f86 a0).bind fun r5 =>
  ((f88 r5.1.1 r5.1.2.1).bind fun r6 =>
  ((f87 r6.1.1 a1).bind fun r7 =>
  (k ((r7.1.1, (r7.1.2.1, ())), ())))))))
noncomputable def f31 (a0 : List (Bool × (List Int × Unit))) (a1 : Int) : Option ((List Int × Int × Unit) × (Unit)) := f31_k a0 a1 some
noncomputable def f138_code : Code := (Try.f138.body).getD .skip
noncomputable def f138_fx : Fx := { E := env, T := [], H := [], O := [], nodes := [] }
noncomputable def f138_k {R : Type} (a0 : Int) (k : (Bool × Unit) × (Unit) → Option R) : Option R :=
 (cond (decide (a0 ≤ (0 : Int)))
 (k ((true, ()), ()))
 (k (((decide (a0 > (100000 : Int))), ()), ())))
noncomputable def f138 (a0 : Int) : Option ((Bool × Unit) × (Unit)) := f138_k a0 some
noncomputable def f138_sm : Sm := ⟨[.ro (.int .i64)], [(.bool, .ro)], fun x => f138 x.1⟩
theorem f138_m (x : ArgT [.ro (.int .i64)]) : codeS f138_fx f138_code (start [.ro (.int .i64)] [] x 9) (finK env [.tmp 2] [.ro (.int .i64)] [(.bool, .ro)]) = f138_k x.1 (fun r => some (r, [])) := by kernel_rfl
theorem f138_n {R : Type} (a0 : Int) (k : (Bool × Unit) × (Unit) → Option R) : f138_k a0 k = (f138 a0).bind k := by
  simp only [f138, f138_k, cond_bind, ite_bind, bind_bind, some_bind, none_bind, elim_bind]
theorem f138_ok : SmOk Try.prog 138 f138_sm :=
  sum_of (c := f138_fx) (fn := Try.f138) (code := f138_code) (sm := f138_sm) mixed (env_ok env_envB) (TabsOk.all trivial) Try.func138 (by kernel_rfl)
   ((LoopsOk.of (l := []) (by kernel_rfl) trivial))
   (no_tails (by kernel_rfl))
   (fun ks x hl => by
    have hk : ks = [] := List.length_eq_zero_iff.1 hl
    subst hk
    exact (f138_m x).trans (f138_n _ _))
theorem f138_c : CalOk Try.prog 138 f138_sm := .inl ⟨f138_ok, ⟨Try.f138, Try.func138, by kernel_rfl, by kernel_rfl⟩⟩
noncomputable def f156_code : Code := (Try.f156.body).getD .skip
noncomputable def f156_l2_sk : SkS := ⟨10, [(0, .con (.slc (.int .i64))), (0, .fn 138 (.tnil)), (5, .con (.int .i64)), (0, .con (.int .i64))], []⟩
noncomputable def f156_l2_o0 : SkS := ⟨14, [(4, .con (.int .i64))], []⟩
noncomputable def f156_l2_o1 : SkS := ⟨19, [], []⟩
noncomputable def f156_l2_outs : List Way := [⟨.ret, [], f156_l2_o0⟩, ⟨(.exit 0), [], f156_l2_o1⟩]
abbrev f156_l2_C := (List Int × Int)
abbrev f156_l2_X := Int
abbrev f156_l2_Y := (Int) ⊕ (Unit)
noncomputable def f156_l2_con (t : f156_l2_sk.T) : f156_l2_C := (t.1.1, t.1.2.2.1)
noncomputable def f156_l2_get (t : f156_l2_sk.T) : f156_l2_X := t.1.2.2.2.1
noncomputable def f156_l2_put (c : f156_l2_C) (x : f156_l2_X) : f156_l2_sk.T := ((c.1, ((), (c.2, (x, ())))), ())
theorem f156_l2_pg (t : f156_l2_sk.T) : f156_l2_put (f156_l2_con t) (f156_l2_get t) = t := by kernel_rfl
noncomputable def f156_l2_w0 (c : f156_l2_C) (y : Int) : f156_l2_o0.T := ((y, ()), ())
noncomputable def f156_l2_w1 (c : f156_l2_C) (y : Unit) : f156_l2_o1.T := ((), ())
noncomputable def f156_l2_out (c : f156_l2_C) (y : f156_l2_Y) : OutV f156_l2_outs := (Sum.elim (fun y => (.inl (f156_l2_w0 c y))) (fun y => (.inr (.inl (f156_l2_w1 c y))))) y
noncomputable def f156_l2_k {R : Type} (a0 : List Int) (a1 : Int) (a2 : Int) (kin : f156_l2_X → Option R) (k0 : Int → Option R) (k1 : Unit → Option R) : Option R :=
 (cond (decide (a2 < a1))
 (if (0 : Int) ≤ a2 ∧ a2 < ((List.length a0 : Nat) : Int) then ((f138 (List.getD a0 (Int.toNat a2) (0 : Int))).bind fun r0 =>
  (cond r0.1.1
  (k0 a2)
  (let v1 : Int := (IntKind.i64.wrap (a2 + (1 : Int)))
   (kin v1)))) else none)
 (k1 ()))
noncomputable def f156_l2_g (a0 : List Int) (a1 : Int) (x : f156_l2_X) : Option (f156_l2_X ⊕ f156_l2_Y) := f156_l2_k a0 a1 x (fun x => some (.inl x)) (fun y => some (.inr (.inl y))) (fun y => some (.inr (.inr y)))
noncomputable def f156_l2 (a0 : List Int) (a1 : Int) (x : f156_l2_X) : Option f156_l2_Y := loopO (f156_l2_g a0 a1) x
noncomputable def f156_l2_nd : Node := { nils := [], sk := f156_l2_sk, outs := f156_l2_outs, Y := f156_l2_Y, L := fun t => f156_l2 ((f156_l2_con t).1) ((f156_l2_con t).2) (f156_l2_get t), out := fun t y => f156_l2_out (f156_l2_con t) y, disp := fun t y K => (Sum.elim (fun y => K .ret (f156_l2_o0.fill (f156_l2_w0 (f156_l2_con t) y))) (fun y => K (.exit 0) (f156_l2_o1.fill (f156_l2_w1 (f156_l2_con t) y)))) y }
noncomputable def f156_fx : Fx := { E := env, T := [(138, f138_sm)], H := [], O := [], nodes := [((true, 2), f156_l2_nd)] }
noncomputable def f156_l2_b : Code := (loops f156_code).getD 0 .skip
theorem f156_l2_r (c : f156_l2_C) (x : f156_l2_X) : roundS f156_fx f156_l2_b f156_l2_nd (f156_l2_put c x) = f156_l2_k c.1 c.2 x (fun x => some (.inl (f156_l2_put c x))) (fun y => some (.inr (.inl (f156_l2_w0 c y)))) (fun y => some (.inr (.inr (.inl (f156_l2_w1 c y))))) := by kernel_rfl
theorem f156_l2_n {R : Type} (a0 : List Int) (a1 : Int) (a2 : Int) (kin : f156_l2_X → Option R) (k0 : Int → Option R) (k1 : Unit → Option R) : f156_l2_k a0 a1 a2 kin k0 k1 = (f156_l2_g a0 a1 a2).bind (Sum.elim kin (Sum.elim k0 k1)) := by
  simp only [f156_l2_g, f156_l2_k, cond_bind, ite_bind, bind_bind, some_bind, none_bind, elim_bind, Sum.elim_inl, Sum.elim_inr]
theorem f156_l2_ok : LoopOk f156_fx f156_l2_b f156_l2_nd := loop_ok f156_l2_con f156_l2_get f156_l2_put f156_l2_pg (fun c => f156_l2_g c.1 c.2) f156_l2_out (fun t y => rfl) (by intro R t y K; rcases y with y | y <;> rfl) (fun c x => by
  refine (f156_l2_r c x).trans ((f156_l2_n _ _ _ _ _ _).trans ?_)
  first
  | rfl
  | congr 1
    funext s
    rcases s with s | s | s <;> rfl) (fun t => rfl)
noncomputable def f156_k {R : Type} (a0 : List Int) (a1 : (Unit)) (k : (Int × Unit) × (Unit) → Option R) : Option R :=
 ((f156_l2 a0 ((List.length a0 : Nat) : Int) (0 : Int)).bind fun y2 =>
 ((Sum.elim (fun z3 =>
 (k ((z3, ()), ())))
 (fun z4 =>
 (k (((-1 : Int), ()), ())))) y2))
noncomputable def f156 (a0 : List Int) (a1 : (Unit)) : Option ((Int × Unit) × (Unit)) := f156_k a0 a1 some
noncomputable def f156_sm : Sm := ⟨[.ro (.slc (.int .i64)), .fn 138 []], [((.int .i64), .ro)], fun x => f156 x.1 x.2.1⟩
theorem f156_m (x : ArgT [.ro (.slc (.int .i64)), .fn 138 []]) : codeS f156_fx f156_code (start [.ro (.slc (.int .i64)), .fn 138 []] [] x 19) (finK env [.tmp 4] [.ro (.slc (.int .i64)), .fn 138 []] [((.int .i64), .ro)]) = f156_k x.1 x.2.1 (fun r => some (r, [])) := by kernel_rfl
theorem f156_n {R : Type} (a0 : List Int) (a1 : (Unit)) (k : (Int × Unit) × (Unit) → Option R) : f156_k a0 a1 k = (f156 a0 a1).bind k := by
  simp only [f156, f156_k, cond_bind, ite_bind, bind_bind, some_bind, none_bind, elim_bind]
theorem f156_ok : SmOk Try.prog 156 f156_sm :=
  sum_of (c := f156_fx) (fn := Try.f156) (code := f156_code) (sm := f156_sm) mixed (env_ok env_envB) (TabsOk.all ⟨f138_c, trivial⟩) Try.func156 (by kernel_rfl)
   ((LoopsOk.of (l := [f156_l2_b]) (by kernel_rfl) ⟨node_is (by kernel_rfl) f156_l2_ok, trivial⟩))
   (no_tails (by kernel_rfl))
   (fun ks x hl => by
    have hk : ks = [] := List.length_eq_zero_iff.1 hl
    subst hk
    exact (f156_m x).trans (f156_n _ _ _))
theorem f156_c : CalOk Try.prog 156 f156_sm := .inl ⟨f156_ok, ⟨Try.f156, Try.func156, by kernel_rfl, by kernel_rfl⟩⟩
noncomputable def f137_code : Code := (Try.f137.body).getD .skip
noncomputable def f137_fx : Fx := { E := env, T := [(156, f156_sm)], H := [], O := [], nodes := [] }
noncomputable def f137_k {R : Type} (a0 : List Int) (a1 : (Unit)) (k : (Bool × Unit) × (Unit) → Option R) : Option R :=
 ((f156 a0 ()).bind fun r0 =>
 (k (((decide (r0.1.1 ≥ (0 : Int))), ()), ())))
noncomputable def f137 (a0 : List Int) (a1 : (Unit)) : Option ((Bool × Unit) × (Unit)) := f137_k a0 a1 some
noncomputable def f137_sm : Sm := ⟨[.ro (.slc (.int .i64)), .fn 138 []], [(.bool, .ro)], fun x => f137 x.1 x.2.1⟩
theorem f137_m (x : ArgT [.ro (.slc (.int .i64)), .fn 138 []]) : codeS f137_fx f137_code (start [.ro (.slc (.int .i64)), .fn 138 []] [] x 9) (finK env [.tmp 4] [.ro (.slc (.int .i64)), .fn 138 []] [(.bool, .ro)]) = f137_k x.1 x.2.1 (fun r => some (r, [])) := by kernel_rfl
theorem f137_n {R : Type} (a0 : List Int) (a1 : (Unit)) (k : (Bool × Unit) × (Unit) → Option R) : f137_k a0 a1 k = (f137 a0 a1).bind k := by
  simp only [f137, f137_k, cond_bind, ite_bind, bind_bind, some_bind, none_bind, elim_bind]
theorem f137_ok : SmOk Try.prog 137 f137_sm :=
  sum_of (c := f137_fx) (fn := Try.f137) (code := f137_code) (sm := f137_sm) mixed (env_ok env_envB) (TabsOk.all ⟨f156_c, trivial⟩) Try.func137 (by kernel_rfl)
   ((LoopsOk.of (l := []) (by kernel_rfl) trivial))
   (no_tails (by kernel_rfl))
   (fun ks x hl => by
    have hk : ks = [] := List.length_eq_zero_iff.1 hl
    subst hk
    exact (f137_m x).trans (f137_n _ _ _))
theorem f137_c : CalOk Try.prog 137 f137_sm := .inl ⟨f137_ok, ⟨Try.f137, Try.func137, by kernel_rfl, by kernel_rfl⟩⟩
noncomputable def f106_code : Code := (Try.f106.body).getD .skip
noncomputable def f106_fx : Fx := { E := env, T := [(137, f137_sm)], H := [], O := [], nodes := [] }
noncomputable def f106_k {R : Type} (a0 : List Int) (k : (Int × Unit) × (Unit) → Option R) : Option R :=
 (cond (decide (((List.length a0 : Nat) : Int) > (40000 : Int)))
 (k (((2 : Int), ()), ()))
 ((f137 a0 ()).bind fun r0 =>
  (cond r0.1.1
  (k (((1 : Int), ()), ()))
  (k (((0 : Int), ()), ())))))
noncomputable def f106 (a0 : List Int) : Option ((Int × Unit) × (Unit)) := f106_k a0 some
noncomputable def f106_sm : Sm := ⟨[.ro (.slc (.int .i64))], [((.int .i64), .ro)], fun x => f106 x.1⟩
theorem f106_m (x : ArgT [.ro (.slc (.int .i64))]) : codeS f106_fx f106_code (start [.ro (.slc (.int .i64))] [] x 8) (finK env [.tmp 2] [.ro (.slc (.int .i64))] [((.int .i64), .ro)]) = f106_k x.1 (fun r => some (r, [])) := by kernel_rfl
theorem f106_n {R : Type} (a0 : List Int) (k : (Int × Unit) × (Unit) → Option R) : f106_k a0 k = (f106 a0).bind k := by
  simp only [f106, f106_k, cond_bind, ite_bind, bind_bind, some_bind, none_bind, elim_bind]
theorem f106_ok : SmOk Try.prog 106 f106_sm :=
  sum_of (c := f106_fx) (fn := Try.f106) (code := f106_code) (sm := f106_sm) mixed (env_ok env_envB) (TabsOk.all ⟨f137_c, trivial⟩) Try.func106 (by kernel_rfl)
   ((LoopsOk.of (l := []) (by kernel_rfl) trivial))
   (no_tails (by kernel_rfl))
   (fun ks x hl => by
    have hk : ks = [] := List.length_eq_zero_iff.1 hl
    subst hk
    exact (f106_m x).trans (f106_n _ _))
theorem f106_c : CalOk Try.prog 106 f106_sm := .inl ⟨f106_ok, ⟨Try.f106, Try.func106, by kernel_rfl, by kernel_rfl⟩⟩
noncomputable def f89_code : Code := (Try.f89.body).getD .skip
noncomputable def f89_t13_sk : SkS := ⟨27, [(1, .con (.int .i64)), (0, .con (.int .i64)), (6, .ref 159 []), (2, .con (.int .i64)), (11, .con (.slc (.int .i64))), (0, .con (.int .i64)), (0, .con (.int .i64))], [(159, ⟨none, (.slc (.int .i64)), (.own .ro), none⟩)]⟩
noncomputable def f89_t13_o0 : SkS := ⟨46, [(6, .nil), (0, .con (.int .i64))], []⟩
noncomputable def f89_t13_o1 : SkS := ⟨27, [(1, .con (.int .i64)), (0, .con (.int .i64)), (6, .ref 816 []), (14, .con (.slc (.int .i64))), (0, .con (.int .i64)), (0, .con (.int .i64))], [(816, ⟨none, (.slc (.int .i64)), (.own .ro), none⟩)]⟩
noncomputable def f89_t13_outs : List Way := [⟨.ret, [], f89_t13_o0⟩, ⟨.normal, [], f89_t13_o1⟩]
abbrev f89_t13_C := Unit
abbrev f89_t13_X := (Int × Int × Int × List Int × Int × Int × List Int)
abbrev f89_t13_Y := (Unit) ⊕ (List Int)
noncomputable def f89_t13_con (t : f89_t13_sk.T) : f89_t13_C := ()
noncomputable def f89_t13_get (t : f89_t13_sk.T) : f89_t13_X := (t.1.1, t.1.2.1, t.1.2.2.1, t.1.2.2.2.1, t.1.2.2.2.2.1, t.1.2.2.2.2.2.1, t.2.1.1)
noncomputable def f89_t13_put (c : f89_t13_C) (x : f89_t13_X) : f89_t13_sk.T := ((x.1, (x.2.1, (x.2.2.1, (x.2.2.2.1, (x.2.2.2.2.1, (x.2.2.2.2.2.1, ())))))), ((x.2.2.2.2.2.2, ()), ()))
theorem f89_t13_pg (t : f89_t13_sk.T) : f89_t13_put (f89_t13_con t) (f89_t13_get t) = t := by kernel_rfl
noncomputable def f89_t13_w0 (c : f89_t13_C) (x : f89_t13_X) (y : Unit) : f89_t13_o0.T := (((18 : Int), ()), ())
noncomputable def f89_t13_w1 (c : f89_t13_C) (x : f89_t13_X) (y : List Int) : f89_t13_o1.T := ((x.1, (x.2.1, (x.2.2.2.1, (x.2.2.2.2.1, (x.2.2.2.2.2.1, ()))))), ((y, ()), ()))
noncomputable def f89_t13_out (c : f89_t13_C) (x : f89_t13_X) (y : f89_t13_Y) : OutV f89_t13_outs := (Sum.elim (fun y => (.inl (f89_t13_w0 c x y))) (fun y => (.inr (.inl (f89_t13_w1 c x y))))) y
noncomputable def f89_t13_k {R : Type} (a0 : Int) (a1 : Int) (a2 : Int) (a3 : List Int) (a4 : Int) (a5 : Int) (a6 : List Int) (k0 : Unit → Option R) (k1 : List Int → Option R) : Option R :=
 (cond (a2 == (0 : Int))
 (k0 ())
 (cond (decide (a2 > a1))
  (k0 ())
  (if (List.length a6 + 1) * 8 ≤ most ∧ 0 < 8 ∧ 0 < 1 then (let r5 : List Int := (a6 ++ [a2])
   (k1 r5)) else none)))
noncomputable def f89_t13 (a0 : Int) (a1 : Int) (a2 : Int) (a3 : List Int) (a4 : Int) (a5 : Int) (a6 : List Int) : Option f89_t13_Y := f89_t13_k a0 a1 a2 a3 a4 a5 a6 (fun y => some (.inl y)) (fun y => some (.inr y))
noncomputable def f89_t13_nd : Node := { nils := [], sk := f89_t13_sk, outs := f89_t13_outs, Y := f89_t13_Y, L := fun t => f89_t13 ((f89_t13_get t).1) ((f89_t13_get t).2.1) ((f89_t13_get t).2.2.1) ((f89_t13_get t).2.2.2.1) ((f89_t13_get t).2.2.2.2.1) ((f89_t13_get t).2.2.2.2.2.1) ((f89_t13_get t).2.2.2.2.2.2), out := fun t y => f89_t13_out (f89_t13_con t) (f89_t13_get t) y, disp := fun t y K => (Sum.elim (fun y => K .ret (f89_t13_o0.fill (f89_t13_w0 (f89_t13_con t) (f89_t13_get t) y))) (fun y => K .normal (f89_t13_o1.fill (f89_t13_w1 (f89_t13_con t) (f89_t13_get t) y)))) y }
noncomputable def f89_l8_sk : SkS := ⟨27, [(1, .con (.int .i64)), (0, .con (.int .i64)), (6, .ref 159 []), (14, .con (.slc (.int .i64))), (0, .con (.int .i64)), (0, .con (.int .i64))], [(159, ⟨none, (.slc (.int .i64)), (.own .ro), none⟩)]⟩
noncomputable def f89_l8_o0 : SkS := ⟨46, [(6, .nil), (0, .con (.int .i64))], []⟩
noncomputable def f89_l8_o1 : SkS := ⟨44, [(9, .ref 159 [])], [(159, ⟨none, (.slc (.int .i64)), (.own .ro), none⟩)]⟩
noncomputable def f89_l8_outs : List Way := [⟨.ret, [], f89_l8_o0⟩, ⟨(.exit 0), [], f89_l8_o1⟩]
abbrev f89_l8_C := (Int × Int × List Int × Int)
abbrev f89_l8_X := (Int × List Int)
abbrev f89_l8_Y := (Unit) ⊕ (List Int)
noncomputable def f89_l8_con (t : f89_l8_sk.T) : f89_l8_C := (t.1.1, t.1.2.1, t.1.2.2.1, t.1.2.2.2.1)
noncomputable def f89_l8_get (t : f89_l8_sk.T) : f89_l8_X := (t.1.2.2.2.2.1, t.2.1.1)
noncomputable def f89_l8_put (c : f89_l8_C) (x : f89_l8_X) : f89_l8_sk.T := ((c.1, (c.2.1, (c.2.2.1, (c.2.2.2, (x.1, ()))))), ((x.2, ()), ()))
theorem f89_l8_pg (t : f89_l8_sk.T) : f89_l8_put (f89_l8_con t) (f89_l8_get t) = t := by kernel_rfl
noncomputable def f89_l8_w0 (c : f89_l8_C) (y : Unit) : f89_l8_o0.T := (((18 : Int), ()), ())
noncomputable def f89_l8_w1 (c : f89_l8_C) (y : List Int) : f89_l8_o1.T := ((), ((y, ()), ()))
noncomputable def f89_l8_out (c : f89_l8_C) (y : f89_l8_Y) : OutV f89_l8_outs := (Sum.elim (fun y => (.inl (f89_l8_w0 c y))) (fun y => (.inr (.inl (f89_l8_w1 c y))))) y
noncomputable def f89_l8_k {R : Type} (a0 : Int) (a1 : Int) (a2 : List Int) (a3 : Int) (a4 : Int) (a5 : List Int) (kin : f89_l8_X → Option R) (k0 : Unit → Option R) (k1 : List Int → Option R) : Option R :=
 (cond (decide (a4 < a3))
 (if (0 : Int) ≤ a4 ∧ a4 < ((List.length a2 : Nat) : Int) then (if a0 = 0 then none else (let v1 : Int := (IntKind.i64.wrap (Int.tdiv (List.getD a2 (Int.toNat a4) (0 : Int)) a0))
  (if a0 = 0 then none else (let v2 : Int := (Int.tmod (List.getD a2 (Int.toNat a4) (0 : Int)) a0)
  (let v3 : Int := (IntKind.i64.wrap ((2 : Int) * v2))
  (cond (decide (v3 ≥ a0))
  (let v4 : Int := (IntKind.i64.wrap (v1 + (1 : Int)))
   ((f89_t13 a0 a1 v4 a2 a3 a4 a5).bind fun y6 =>
   ((Sum.elim (fun z7 =>
   (k0 ()))
   (fun z8 =>
   (let v9 : Int := (IntKind.i64.wrap (a4 + (1 : Int)))
    (kin (v9, z8))))) y6)))
  ((f89_t13 a0 a1 v1 a2 a3 a4 a5).bind fun y10 =>
   ((Sum.elim (fun z11 =>
   (k0 ()))
   (fun z12 =>
   (let v13 : Int := (IntKind.i64.wrap (a4 + (1 : Int)))
    (kin (v13, z12))))) y10)))))))) else none)
 (k1 a5))
noncomputable def f89_l8_g (a0 : Int) (a1 : Int) (a2 : List Int) (a3 : Int) (x : f89_l8_X) : Option (f89_l8_X ⊕ f89_l8_Y) := f89_l8_k a0 a1 a2 a3 x.1 x.2 (fun x => some (.inl x)) (fun y => some (.inr (.inl y))) (fun y => some (.inr (.inr y)))
noncomputable def f89_l8 (a0 : Int) (a1 : Int) (a2 : List Int) (a3 : Int) (x : f89_l8_X) : Option f89_l8_Y := loopO (f89_l8_g a0 a1 a2 a3) x
noncomputable def f89_l8_nd : Node := { nils := [(9, 159, (.int .i64), .ro)], sk := f89_l8_sk, outs := f89_l8_outs, Y := f89_l8_Y, L := fun t => f89_l8 ((f89_l8_con t).1) ((f89_l8_con t).2.1) ((f89_l8_con t).2.2.1) ((f89_l8_con t).2.2.2) (f89_l8_get t), out := fun t y => f89_l8_out (f89_l8_con t) y, disp := fun t y K => (Sum.elim (fun y => K .ret (f89_l8_o0.fill (f89_l8_w0 (f89_l8_con t) y))) (fun y => K (.exit 0) (f89_l8_o1.fill (f89_l8_w1 (f89_l8_con t) y)))) y }
noncomputable def f89_fx : Fx := { E := env, T := [(106, f106_sm)], H := [], O := [], nodes := [((false, 13), f89_t13_nd), ((true, 8), f89_l8_nd)] }
noncomputable def f89_t13_b : Code := (tails f89_code).getD 16 .skip
theorem f89_t13_r (c : f89_t13_C) (x : f89_t13_X) : tailS f89_fx f89_t13_b f89_t13_nd (f89_t13_put c x) = f89_t13_k x.1 x.2.1 x.2.2.1 x.2.2.2.1 x.2.2.2.2.1 x.2.2.2.2.2.1 x.2.2.2.2.2.2 (fun y => some (.inl (f89_t13_w0 c x y))) (fun y => some (.inr (.inl (f89_t13_w1 c x y)))) := by kernel_rfl
theorem f89_t13_n {R : Type} (a0 : Int) (a1 : Int) (a2 : Int) (a3 : List Int) (a4 : Int) (a5 : Int) (a6 : List Int) (k0 : Unit → Option R) (k1 : List Int → Option R) : f89_t13_k a0 a1 a2 a3 a4 a5 a6 k0 k1 = (f89_t13 a0 a1 a2 a3 a4 a5 a6).bind (Sum.elim k0 k1) := by
  simp only [f89_t13, f89_t13_k, cond_bind, ite_bind, bind_bind, some_bind, none_bind, elim_bind, Sum.elim_inl, Sum.elim_inr]
theorem f89_t13_ok : TailOk f89_fx f89_t13_b f89_t13_nd := tail_ok f89_t13_con f89_t13_get f89_t13_put f89_t13_pg (fun x => f89_t13 x.1 x.2.1 x.2.2.1 x.2.2.2.1 x.2.2.2.2.1 x.2.2.2.2.2.1 x.2.2.2.2.2.2) f89_t13_out (fun t y => rfl) (by intro R t y K; rcases y with y | y <;> rfl) (fun c x => by
  refine (f89_t13_r c x).trans ((f89_t13_n _ _ _ _ _ _ _ _ _).trans ?_)
  first
  | rfl
  | congr 1
    funext s
    rcases s with s | s <;> rfl) (fun t => rfl)
noncomputable def f89_l8_b : Code := (loops f89_code).getD 0 .skip
theorem f89_l8_r (c : f89_l8_C) (x : f89_l8_X) : roundS f89_fx f89_l8_b f89_l8_nd (f89_l8_put c x) = f89_l8_k c.1 c.2.1 c.2.2.1 c.2.2.2 x.1 x.2 (fun x => some (.inl (f89_l8_put c x))) (fun y => some (.inr (.inl (f89_l8_w0 c y)))) (fun y => some (.inr (.inr (.inl (f89_l8_w1 c y))))) := by kernel_rfl
theorem f89_l8_n {R : Type} (a0 : Int) (a1 : Int) (a2 : List Int) (a3 : Int) (a4 : Int) (a5 : List Int) (kin : f89_l8_X → Option R) (k0 : Unit → Option R) (k1 : List Int → Option R) : f89_l8_k a0 a1 a2 a3 a4 a5 kin k0 k1 = (f89_l8_g a0 a1 a2 a3 (a4, a5)).bind (Sum.elim kin (Sum.elim k0 k1)) := by
  simp only [f89_l8_g, f89_l8_k, cond_bind, ite_bind, bind_bind, some_bind, none_bind, elim_bind, Sum.elim_inl, Sum.elim_inr]
theorem f89_l8_ok : LoopOk f89_fx f89_l8_b f89_l8_nd := loop_ok f89_l8_con f89_l8_get f89_l8_put f89_l8_pg (fun c => f89_l8_g c.1 c.2.1 c.2.2.1 c.2.2.2) f89_l8_out (fun t y => rfl) (by intro R t y K; rcases y with y | y <;> rfl) (fun c x => by
  refine (f89_l8_r c x).trans ((f89_l8_n _ _ _ _ _ _ _ _ _).trans ?_)
  first
  | rfl
  | congr 1
    funext s
    rcases s with s | s | s <;> rfl) (fun t => rfl)
noncomputable def f89_k {R : Type} (a0 : List Int) (a1 : Int) (a2 : Int) (k : (List Int × Int × Unit) × (Unit) → Option R) : Option R :=
 ((f106 a0).bind fun r0 =>
 (cond (r0.1.1 != (0 : Int))
 (k (([], (r0.1.1, ())), ()))
 (cond (decide (a1 < (2 : Int)))
  (k (([], ((1 : Int), ())), ()))
  (cond (decide (a1 > (1000 : Int)))
   (k (([], ((1 : Int), ())), ()))
   ((f89_l8 a1 a2 a0 ((List.length a0 : Nat) : Int) ((0 : Int), [])).bind fun y14 =>
    ((Sum.elim (fun z15 =>
    (k (([], ((18 : Int), ())), ())))
    (fun z16 =>
    (k ((z16, ((0 : Int), ())), ())))) y14))))))
noncomputable def f89 (a0 : List Int) (a1 : Int) (a2 : Int) : Option ((List Int × Int × Unit) × (Unit)) := f89_k a0 a1 a2 some
noncomputable def f89_sm : Sm := ⟨[.ro (.slc (.int .i64)), .ro (.int .i64), .ro (.int .i64)], [((.slc (.int .i64)), (.own .ro)), ((.int .i64), .ro)], fun x => f89 x.1 x.2.1 x.2.2.1⟩
theorem f89_m (x : ArgT [.ro (.slc (.int .i64)), .ro (.int .i64), .ro (.int .i64)]) : codeS f89_fx f89_code (start [.ro (.slc (.int .i64)), .ro (.int .i64), .ro (.int .i64)] [] x 54) (finK env [.tmp 6, .tmp 7] [.ro (.slc (.int .i64)), .ro (.int .i64), .ro (.int .i64)] [((.slc (.int .i64)), (.own .ro)), ((.int .i64), .ro)]) = f89_k x.1 x.2.1 x.2.2.1 (fun r => some (r, [])) := by kernel_rfl
theorem f89_n {R : Type} (a0 : List Int) (a1 : Int) (a2 : Int) (k : (List Int × Int × Unit) × (Unit) → Option R) : f89_k a0 a1 a2 k = (f89 a0 a1 a2).bind k := by
  simp only [f89, f89_k, cond_bind, ite_bind, bind_bind, some_bind, none_bind, elim_bind]
theorem f89_ok : SmOk Try.prog 89 f89_sm :=
  sum_of (c := f89_fx) (fn := Try.f89) (code := f89_code) (sm := f89_sm) mixed (env_ok env_envB) (TabsOk.all ⟨f106_c, trivial⟩) Try.func89 (by kernel_rfl)
   ((LoopsOk.of (l := [f89_l8_b]) (by kernel_rfl) ⟨node_is (by kernel_rfl) f89_l8_ok, trivial⟩))
   ((TailsOk.of (l := [((tails f89_code).getD 0 .skip), ((tails f89_code).getD 1 .skip), ((tails f89_code).getD 2 .skip), ((tails f89_code).getD 3 .skip), ((tails f89_code).getD 4 .skip), ((tails f89_code).getD 5 .skip), ((tails f89_code).getD 6 .skip), ((tails f89_code).getD 7 .skip), ((tails f89_code).getD 8 .skip), ((tails f89_code).getD 9 .skip), ((tails f89_code).getD 10 .skip), ((tails f89_code).getD 11 .skip), ((tails f89_code).getD 12 .skip), ((tails f89_code).getD 13 .skip), ((tails f89_code).getD 14 .skip), ((tails f89_code).getD 15 .skip), f89_t13_b, ((tails f89_code).getD 17 .skip), ((tails f89_code).getD 18 .skip), ((tails f89_code).getD 19 .skip), ((tails f89_code).getD 20 .skip), ((tails f89_code).getD 21 .skip)]) (by kernel_rfl) ⟨node_no (by kernel_rfl), node_no (by kernel_rfl), node_no (by kernel_rfl), node_no (by kernel_rfl), node_no (by kernel_rfl), node_no (by kernel_rfl), node_no (by kernel_rfl), node_no (by kernel_rfl), node_no (by kernel_rfl), node_no (by kernel_rfl), node_no (by kernel_rfl), node_no (by kernel_rfl), node_no (by kernel_rfl), node_no (by kernel_rfl), node_no (by kernel_rfl), node_no (by kernel_rfl), node_is (by kernel_rfl) f89_t13_ok, node_no (by kernel_rfl), node_no (by kernel_rfl), node_no (by kernel_rfl), node_no (by kernel_rfl), node_no (by kernel_rfl), trivial⟩))
   (fun ks x hl => by
    have hk : ks = [] := List.length_eq_zero_iff.1 hl
    subst hk
    exact (f89_m x).trans (f89_n _ _ _ _))
theorem f89_c : CalOk Try.prog 89 f89_sm := .inl ⟨f89_ok, ⟨Try.f89, Try.func89, by kernel_rfl, by kernel_rfl⟩⟩
noncomputable def f90_code : Code := (Try.f90.body).getD .skip
noncomputable def f90_l6_sk : SkS := ⟨10, [(3, .ref 63 []), (2, .con (.slc (.int .i64))), (0, .con (.int .i64)), (0, .con (.int .i64)), (4, .con (.int .i64)), (0, .con (.int .i64))], [(63, ⟨none, (.slc .bool), (.own .ro), none⟩)]⟩
noncomputable def f90_l6_o0 : SkS := ⟨16, [(3, .ref 63 []), (2, .con (.slc (.int .i64))), (0, .con (.int .i64)), (0, .con (.int .i64))], [(63, ⟨none, (.slc .bool), (.own .ro), none⟩)]⟩
noncomputable def f90_l6_outs : List Way := [⟨(.exit 2), [], f90_l6_o0⟩]
abbrev f90_l6_C := (List Int × Int × Int × Int)
abbrev f90_l6_X := (Int × List Bool)
abbrev f90_l6_Y := (List Bool)
noncomputable def f90_l6_con (t : f90_l6_sk.T) : f90_l6_C := (t.1.1, t.1.2.1, t.1.2.2.1, t.1.2.2.2.1)
noncomputable def f90_l6_get (t : f90_l6_sk.T) : f90_l6_X := (t.1.2.2.2.2.1, t.2.1.1)
noncomputable def f90_l6_put (c : f90_l6_C) (x : f90_l6_X) : f90_l6_sk.T := ((c.1, (c.2.1, (c.2.2.1, (c.2.2.2, (x.1, ()))))), ((x.2, ()), ()))
theorem f90_l6_pg (t : f90_l6_sk.T) : f90_l6_put (f90_l6_con t) (f90_l6_get t) = t := by kernel_rfl
noncomputable def f90_l6_w0 (c : f90_l6_C) (y : List Bool) : f90_l6_o0.T := ((c.1, (c.2.1, (c.2.2.1, ()))), ((y, ()), ()))
noncomputable def f90_l6_out (c : f90_l6_C) (y : f90_l6_Y) : OutV f90_l6_outs := (fun y => (.inl (f90_l6_w0 c y))) y
noncomputable def f90_l6_k {R : Type} (a0 : List Int) (a1 : Int) (a2 : Int) (a3 : Int) (a4 : Int) (a5 : List Bool) (kin : f90_l6_X → Option R) (k0 : List Bool → Option R) : Option R :=
 (cond (decide (a4 < a3))
 (if (List.length a5 + 1) * 1 ≤ most ∧ 0 < 1 ∧ 0 < 1 then (let r1 : List Bool := (a5 ++ [false])
  (let v2 : Int := (IntKind.i64.wrap (a4 + (1 : Int)))
  (kin (v2, r1)))) else none)
 (k0 a5))
noncomputable def f90_l6_g (a0 : List Int) (a1 : Int) (a2 : Int) (a3 : Int) (x : f90_l6_X) : Option (f90_l6_X ⊕ f90_l6_Y) := f90_l6_k a0 a1 a2 a3 x.1 x.2 (fun x => some (.inl x)) (fun y => some (.inr y))
noncomputable def f90_l6 (a0 : List Int) (a1 : Int) (a2 : Int) (a3 : Int) (x : f90_l6_X) : Option f90_l6_Y := loopO (f90_l6_g a0 a1 a2 a3) x
noncomputable def f90_l6_nd : Node := { nils := [(3, 63, .bool, .ro)], sk := f90_l6_sk, outs := f90_l6_outs, Y := f90_l6_Y, L := fun t => f90_l6 ((f90_l6_con t).1) ((f90_l6_con t).2.1) ((f90_l6_con t).2.2.1) ((f90_l6_con t).2.2.2) (f90_l6_get t), out := fun t y => f90_l6_out (f90_l6_con t) y, disp := fun t y K => (fun y => K (.exit 2) (f90_l6_o0.fill (f90_l6_w0 (f90_l6_con t) y))) y }
noncomputable def f90_l3_sk : SkS := ⟨16, [(3, .ref 63 []), (2, .con (.slc (.int .i64))), (0, .con (.int .i64)), (0, .con (.int .i64))], [(63, ⟨none, (.slc .bool), (.own .ro), none⟩)]⟩
noncomputable def f90_l3_o0 : SkS := ⟨21, [(3, .ref 63 [])], [(63, ⟨none, (.slc .bool), (.own .ro), none⟩)]⟩
noncomputable def f90_l3_outs : List Way := [⟨(.exit 0), [], f90_l3_o0⟩]
abbrev f90_l3_C := (List Int × Int)
abbrev f90_l3_X := (Int × List Bool)
abbrev f90_l3_Y := (List Bool)
noncomputable def f90_l3_con (t : f90_l3_sk.T) : f90_l3_C := (t.1.1, t.1.2.1)
noncomputable def f90_l3_get (t : f90_l3_sk.T) : f90_l3_X := (t.1.2.2.1, t.2.1.1)
noncomputable def f90_l3_put (c : f90_l3_C) (x : f90_l3_X) : f90_l3_sk.T := ((c.1, (c.2, (x.1, ()))), ((x.2, ()), ()))
theorem f90_l3_pg (t : f90_l3_sk.T) : f90_l3_put (f90_l3_con t) (f90_l3_get t) = t := by kernel_rfl
noncomputable def f90_l3_w0 (c : f90_l3_C) (y : List Bool) : f90_l3_o0.T := ((), ((y, ()), ()))
noncomputable def f90_l3_out (c : f90_l3_C) (y : f90_l3_Y) : OutV f90_l3_outs := (fun y => (.inl (f90_l3_w0 c y))) y
noncomputable def f90_l3_k {R : Type} (a0 : List Int) (a1 : Int) (a2 : Int) (a3 : List Bool) (kin : f90_l3_X → Option R) (k0 : List Bool → Option R) : Option R :=
 (cond (decide (a2 < a1))
 (if (0 : Int) ≤ a2 ∧ a2 < ((List.length a0 : Nat) : Int) then (let v0 : Int := (IntKind.i64.wrap ((List.getD a0 (Int.toNat a2) (0 : Int)) - (1 : Int)))
  ((f90_l6 a0 a1 a2 v0 ((0 : Int), a3)).bind fun y3 =>
  (if (List.length y3 + 1) * 1 ≤ most ∧ 0 < 1 ∧ 0 < 1 then (let r4 : List Bool := (y3 ++ [true])
  (let v5 : Int := (IntKind.i64.wrap (a2 + (1 : Int)))
  (kin (v5, r4)))) else none))) else none)
 (k0 a3))
noncomputable def f90_l3_g (a0 : List Int) (a1 : Int) (x : f90_l3_X) : Option (f90_l3_X ⊕ f90_l3_Y) := f90_l3_k a0 a1 x.1 x.2 (fun x => some (.inl x)) (fun y => some (.inr y))
noncomputable def f90_l3 (a0 : List Int) (a1 : Int) (x : f90_l3_X) : Option f90_l3_Y := loopO (f90_l3_g a0 a1) x
noncomputable def f90_l3_nd : Node := { nils := [(3, 63, .bool, .ro)], sk := f90_l3_sk, outs := f90_l3_outs, Y := f90_l3_Y, L := fun t => f90_l3 ((f90_l3_con t).1) ((f90_l3_con t).2) (f90_l3_get t), out := fun t y => f90_l3_out (f90_l3_con t) y, disp := fun t y K => (fun y => K (.exit 0) (f90_l3_o0.fill (f90_l3_w0 (f90_l3_con t) y))) y }
noncomputable def f90_fx : Fx := { E := env, T := [], H := [], O := [], nodes := [((true, 6), f90_l6_nd), ((true, 3), f90_l3_nd)] }
noncomputable def f90_l6_b : Code := (loops f90_code).getD 1 .skip
theorem f90_l6_r (c : f90_l6_C) (x : f90_l6_X) : roundS f90_fx f90_l6_b f90_l6_nd (f90_l6_put c x) = f90_l6_k c.1 c.2.1 c.2.2.1 c.2.2.2 x.1 x.2 (fun x => some (.inl (f90_l6_put c x))) (fun y => some (.inr (.inl (f90_l6_w0 c y)))) := by kernel_rfl
theorem f90_l6_n {R : Type} (a0 : List Int) (a1 : Int) (a2 : Int) (a3 : Int) (a4 : Int) (a5 : List Bool) (kin : f90_l6_X → Option R) (k0 : List Bool → Option R) : f90_l6_k a0 a1 a2 a3 a4 a5 kin k0 = (f90_l6_g a0 a1 a2 a3 (a4, a5)).bind (Sum.elim kin k0) := by
  simp only [f90_l6_g, f90_l6_k, cond_bind, ite_bind, bind_bind, some_bind, none_bind, elim_bind, Sum.elim_inl, Sum.elim_inr]
theorem f90_l6_ok : LoopOk f90_fx f90_l6_b f90_l6_nd := loop_ok f90_l6_con f90_l6_get f90_l6_put f90_l6_pg (fun c => f90_l6_g c.1 c.2.1 c.2.2.1 c.2.2.2) f90_l6_out (fun t y => rfl) (fun t y K => rfl) (fun c x => by
  refine (f90_l6_r c x).trans ((f90_l6_n _ _ _ _ _ _ _ _).trans ?_)
  first
  | rfl
  | congr 1
    funext s
    rcases s with s | s <;> rfl) (fun t => rfl)
noncomputable def f90_l3_b : Code := (loops f90_code).getD 0 .skip
theorem f90_l3_r (c : f90_l3_C) (x : f90_l3_X) : roundS f90_fx f90_l3_b f90_l3_nd (f90_l3_put c x) = f90_l3_k c.1 c.2 x.1 x.2 (fun x => some (.inl (f90_l3_put c x))) (fun y => some (.inr (.inl (f90_l3_w0 c y)))) := by kernel_rfl
theorem f90_l3_n {R : Type} (a0 : List Int) (a1 : Int) (a2 : Int) (a3 : List Bool) (kin : f90_l3_X → Option R) (k0 : List Bool → Option R) : f90_l3_k a0 a1 a2 a3 kin k0 = (f90_l3_g a0 a1 (a2, a3)).bind (Sum.elim kin k0) := by
  simp only [f90_l3_g, f90_l3_k, cond_bind, ite_bind, bind_bind, some_bind, none_bind, elim_bind, Sum.elim_inl, Sum.elim_inr]
theorem f90_l3_ok : LoopOk f90_fx f90_l3_b f90_l3_nd := loop_ok f90_l3_con f90_l3_get f90_l3_put f90_l3_pg (fun c => f90_l3_g c.1 c.2) f90_l3_out (fun t y => rfl) (fun t y K => rfl) (fun c x => by
  refine (f90_l3_r c x).trans ((f90_l3_n _ _ _ _ _ _).trans ?_)
  first
  | rfl
  | congr 1
    funext s
    rcases s with s | s <;> rfl) (fun t => rfl)
noncomputable def f90_k {R : Type} (a0 : List Int) (k : (List Bool × Unit) × (Unit) → Option R) : Option R :=
 ((f90_l3 a0 ((List.length a0 : Nat) : Int) ((0 : Int), [])).bind fun y6 =>
 (k ((y6, ()), ())))
noncomputable def f90 (a0 : List Int) : Option ((List Bool × Unit) × (Unit)) := f90_k a0 some
noncomputable def f90_sm : Sm := ⟨[.ro (.slc (.int .i64))], [((.slc .bool), (.own .ro))], fun x => f90 x.1⟩
theorem f90_m (x : ArgT [.ro (.slc (.int .i64))]) : codeS f90_fx f90_code (start [.ro (.slc (.int .i64))] [] x 25) (finK env [.tmp 2] [.ro (.slc (.int .i64))] [((.slc .bool), (.own .ro))]) = f90_k x.1 (fun r => some (r, [])) := by kernel_rfl
theorem f90_n {R : Type} (a0 : List Int) (k : (List Bool × Unit) × (Unit) → Option R) : f90_k a0 k = (f90 a0).bind k := by
  simp only [f90, f90_k, cond_bind, ite_bind, bind_bind, some_bind, none_bind, elim_bind]
theorem f90_ok : SmOk Try.prog 90 f90_sm :=
  sum_of (c := f90_fx) (fn := Try.f90) (code := f90_code) (sm := f90_sm) mixed (env_ok env_envB) (TabsOk.all trivial) Try.func90 (by kernel_rfl)
   ((LoopsOk.of (l := [f90_l3_b, f90_l6_b]) (by kernel_rfl) ⟨node_is (by kernel_rfl) f90_l3_ok, node_is (by kernel_rfl) f90_l6_ok, trivial⟩))
   (no_tails (by kernel_rfl))
   (fun ks x hl => by
    have hk : ks = [] := List.length_eq_zero_iff.1 hl
    subst hk
    exact (f90_m x).trans (f90_n _ _))
theorem f90_c : CalOk Try.prog 90 f90_sm := .inl ⟨f90_ok, ⟨Try.f90, Try.func90, by kernel_rfl, by kernel_rfl⟩⟩
noncomputable def f91_code : Code := (Try.f91.body).getD .skip
noncomputable def f91_l3_sk : SkS := ⟨18, [(0, .con (.slc .bool)), (2, .ref 128 []), (7, .con (.int .i64)), (0, .con (.int .i64))], [(128, ⟨none, (.slc (.int .u8)), (.own .ro), none⟩)]⟩
noncomputable def f91_l3_o0 : SkS := ⟨27, [(3, .ref 128 [])], [(128, ⟨none, (.slc (.int .u8)), (.own .ro), none⟩)]⟩
noncomputable def f91_l3_outs : List Way := [⟨(.exit 0), [], f91_l3_o0⟩]
abbrev f91_l3_C := (List Bool × Int)
abbrev f91_l3_X := (Int × List Int)
abbrev f91_l3_Y := (List Int)
noncomputable def f91_l3_con (t : f91_l3_sk.T) : f91_l3_C := (t.1.1, t.1.2.1)
noncomputable def f91_l3_get (t : f91_l3_sk.T) : f91_l3_X := (t.1.2.2.1, t.2.1.1)
noncomputable def f91_l3_put (c : f91_l3_C) (x : f91_l3_X) : f91_l3_sk.T := ((c.1, (c.2, (x.1, ()))), ((x.2, ()), ()))
theorem f91_l3_pg (t : f91_l3_sk.T) : f91_l3_put (f91_l3_con t) (f91_l3_get t) = t := by kernel_rfl
noncomputable def f91_l3_w0 (c : f91_l3_C) (y : List Int) : f91_l3_o0.T := ((), ((y, ()), ()))
noncomputable def f91_l3_out (c : f91_l3_C) (y : f91_l3_Y) : OutV f91_l3_outs := (fun y => (.inl (f91_l3_w0 c y))) y
noncomputable def f91_l3_k {R : Type} (a0 : List Bool) (a1 : Int) (a2 : Int) (a3 : List Int) (kin : f91_l3_X → Option R) (k0 : List Int → Option R) : Option R :=
 (cond (decide (a2 < a1))
 (if (0 : Int) ≤ a2 ∧ a2 < ((List.length a0 : Nat) : Int) then (cond (List.getD a0 (Int.toNat a2) false)
  (let v2 : Int := (IntKind.i64.wrap (Int.tdiv a2 (8 : Int)))
   (if (0 : Int) ≤ v2 ∧ v2 < ((List.length a3 : Nat) : Int) then (if (Int.tmod a2 (8 : Int)) < 0 then none else (let v3 : Int := (Int.fdiv (128 : Int) (2 ^ (min (Int.toNat (Int.tmod a2 (8 : Int))) 8)))
   (let v4 : Int := (bitop IntKind.u8 .or (List.getD a3 (Int.toNat v2) (0 : Int)) v3)
   (if (0 : Int) ≤ v2 ∧ v2 < ((List.length a3 : Nat) : Int) then (let v5 : Int := (IntKind.i64.wrap (a2 + (1 : Int)))
   (kin (v5, (List.set a3 (Int.toNat v2) v4)))) else none)))) else none))
  (let v6 : Int := (IntKind.i64.wrap (a2 + (1 : Int)))
   (kin (v6, a3)))) else none)
 (k0 a3))
noncomputable def f91_l3_g (a0 : List Bool) (a1 : Int) (x : f91_l3_X) : Option (f91_l3_X ⊕ f91_l3_Y) := f91_l3_k a0 a1 x.1 x.2 (fun x => some (.inl x)) (fun y => some (.inr y))
noncomputable def f91_l3 (a0 : List Bool) (a1 : Int) (x : f91_l3_X) : Option f91_l3_Y := loopO (f91_l3_g a0 a1) x
noncomputable def f91_l3_nd : Node := { nils := [], sk := f91_l3_sk, outs := f91_l3_outs, Y := f91_l3_Y, L := fun t => f91_l3 ((f91_l3_con t).1) ((f91_l3_con t).2) (f91_l3_get t), out := fun t y => f91_l3_out (f91_l3_con t) y, disp := fun t y K => (fun y => K (.exit 0) (f91_l3_o0.fill (f91_l3_w0 (f91_l3_con t) y))) y }
noncomputable def f91_fx : Fx := { E := env, T := [], H := [], O := [], nodes := [((true, 3), f91_l3_nd)] }
noncomputable def f91_l3_b : Code := (loops f91_code).getD 0 .skip
theorem f91_l3_r (c : f91_l3_C) (x : f91_l3_X) : roundS f91_fx f91_l3_b f91_l3_nd (f91_l3_put c x) = f91_l3_k c.1 c.2 x.1 x.2 (fun x => some (.inl (f91_l3_put c x))) (fun y => some (.inr (.inl (f91_l3_w0 c y)))) := by kernel_rfl
theorem f91_l3_n {R : Type} (a0 : List Bool) (a1 : Int) (a2 : Int) (a3 : List Int) (kin : f91_l3_X → Option R) (k0 : List Int → Option R) : f91_l3_k a0 a1 a2 a3 kin k0 = (f91_l3_g a0 a1 (a2, a3)).bind (Sum.elim kin k0) := by
  simp only [f91_l3_g, f91_l3_k, cond_bind, ite_bind, bind_bind, some_bind, none_bind, elim_bind, Sum.elim_inl, Sum.elim_inr]
theorem f91_l3_ok : LoopOk f91_fx f91_l3_b f91_l3_nd := loop_ok f91_l3_con f91_l3_get f91_l3_put f91_l3_pg (fun c => f91_l3_g c.1 c.2) f91_l3_out (fun t y => rfl) (fun t y K => rfl) (fun c x => by
  refine (f91_l3_r c x).trans ((f91_l3_n _ _ _ _ _ _).trans ?_)
  first
  | rfl
  | congr 1
    funext s
    rcases s with s | s <;> rfl) (fun t => rfl)
noncomputable def f91_k {R : Type} (a0 : List Bool) (k : (List Int × Unit) × (Unit) → Option R) : Option R :=
 (let v0 : Int := (IntKind.i64.wrap (Int.tdiv ((List.length a0 : Nat) : Int) (8 : Int)))
 (if (0 : Int) ≤ v0 ∧ v0 ≤ v0 ∧ v0 * 1 ≤ (most : Int) ∧ 0 < 1 ∧ 0 < 1 then (let v1 : Int := (IntKind.i64.wrap ((8 : Int) * ((List.length (List.replicate (Int.toNat v0) (0 : Int)) : Nat) : Int)))
 ((f91_l3 a0 v1 ((0 : Int), (List.replicate (Int.toNat v0) (0 : Int)))).bind fun y7 =>
 (k ((y7, ()), ())))) else none))
noncomputable def f91 (a0 : List Bool) : Option ((List Int × Unit) × (Unit)) := f91_k a0 some
noncomputable def f91_sm : Sm := ⟨[.ro (.slc .bool)], [((.slc (.int .u8)), (.own .ro))], fun x => f91 x.1⟩
theorem f91_m (x : ArgT [.ro (.slc .bool)]) : codeS f91_fx f91_code (start [.ro (.slc .bool)] [] x 31) (finK env [.tmp 2] [.ro (.slc .bool)] [((.slc (.int .u8)), (.own .ro))]) = f91_k x.1 (fun r => some (r, [])) := by kernel_rfl
theorem f91_n {R : Type} (a0 : List Bool) (k : (List Int × Unit) × (Unit) → Option R) : f91_k a0 k = (f91 a0).bind k := by
  simp only [f91, f91_k, cond_bind, ite_bind, bind_bind, some_bind, none_bind, elim_bind]
theorem f91_ok : SmOk Try.prog 91 f91_sm :=
  sum_of (c := f91_fx) (fn := Try.f91) (code := f91_code) (sm := f91_sm) mixed (env_ok env_envB) (TabsOk.all trivial) Try.func91 (by kernel_rfl)
   ((LoopsOk.of (l := [f91_l3_b]) (by kernel_rfl) ⟨node_is (by kernel_rfl) f91_l3_ok, trivial⟩))
   (no_tails (by kernel_rfl))
   (fun ks x hl => by
    have hk : ks = [] := List.length_eq_zero_iff.1 hl
    subst hk
    exact (f91_m x).trans (f91_n _ _))
theorem f91_c : CalOk Try.prog 91 f91_sm := .inl ⟨f91_ok, ⟨Try.f91, Try.func91, by kernel_rfl, by kernel_rfl⟩⟩
noncomputable def f92_code : Code := (Try.f92.body).getD .skip
noncomputable def f92_l4_sk : SkS := ⟨12, [(0, .con (.slc .bool)), (0, .con (.slc .bool)), (10, .con (.int .i64)), (0, .con (.int .i64))], []⟩
noncomputable def f92_l4_o0 : SkS := ⟨21, [(4, .con .bool)], []⟩
noncomputable def f92_l4_o1 : SkS := ⟨26, [], []⟩
noncomputable def f92_l4_outs : List Way := [⟨.ret, [], f92_l4_o0⟩, ⟨(.exit 0), [], f92_l4_o1⟩]
abbrev f92_l4_C := (List Bool × List Bool × Int)
abbrev f92_l4_X := Int
abbrev f92_l4_Y := (Unit) ⊕ (Unit)
noncomputable def f92_l4_con (t : f92_l4_sk.T) : f92_l4_C := (t.1.1, t.1.2.1, t.1.2.2.1)
noncomputable def f92_l4_get (t : f92_l4_sk.T) : f92_l4_X := t.1.2.2.2.1
noncomputable def f92_l4_put (c : f92_l4_C) (x : f92_l4_X) : f92_l4_sk.T := ((c.1, (c.2.1, (c.2.2, (x, ())))), ())
theorem f92_l4_pg (t : f92_l4_sk.T) : f92_l4_put (f92_l4_con t) (f92_l4_get t) = t := by kernel_rfl
noncomputable def f92_l4_w0 (c : f92_l4_C) (y : Unit) : f92_l4_o0.T := ((false, ()), ())
noncomputable def f92_l4_w1 (c : f92_l4_C) (y : Unit) : f92_l4_o1.T := ((), ())
noncomputable def f92_l4_out (c : f92_l4_C) (y : f92_l4_Y) : OutV f92_l4_outs := (Sum.elim (fun y => (.inl (f92_l4_w0 c y))) (fun y => (.inr (.inl (f92_l4_w1 c y))))) y
noncomputable def f92_l4_k {R : Type} (a0 : List Bool) (a1 : List Bool) (a2 : Int) (a3 : Int) (kin : f92_l4_X → Option R) (k0 : Unit → Option R) (k1 : Unit → Option R) : Option R :=
 (cond (decide (a3 < a2))
 (if (0 : Int) ≤ a3 ∧ a3 < ((List.length a0 : Nat) : Int) then (if (0 : Int) ≤ a3 ∧ a3 < ((List.length a1 : Nat) : Int) then (cond (!((List.getD a0 (Int.toNat a3) false) == (List.getD a1 (Int.toNat a3) false)))
  (k0 ())
  (let v0 : Int := (IntKind.i64.wrap (a3 + (1 : Int)))
   (kin v0))) else none) else none)
 (k1 ()))
noncomputable def f92_l4_g (a0 : List Bool) (a1 : List Bool) (a2 : Int) (x : f92_l4_X) : Option (f92_l4_X ⊕ f92_l4_Y) := f92_l4_k a0 a1 a2 x (fun x => some (.inl x)) (fun y => some (.inr (.inl y))) (fun y => some (.inr (.inr y)))
noncomputable def f92_l4 (a0 : List Bool) (a1 : List Bool) (a2 : Int) (x : f92_l4_X) : Option f92_l4_Y := loopO (f92_l4_g a0 a1 a2) x
noncomputable def f92_l4_nd : Node := { nils := [], sk := f92_l4_sk, outs := f92_l4_outs, Y := f92_l4_Y, L := fun t => f92_l4 ((f92_l4_con t).1) ((f92_l4_con t).2.1) ((f92_l4_con t).2.2) (f92_l4_get t), out := fun t y => f92_l4_out (f92_l4_con t) y, disp := fun t y K => (Sum.elim (fun y => K .ret (f92_l4_o0.fill (f92_l4_w0 (f92_l4_con t) y))) (fun y => K (.exit 0) (f92_l4_o1.fill (f92_l4_w1 (f92_l4_con t) y)))) y }
noncomputable def f92_fx : Fx := { E := env, T := [], H := [], O := [], nodes := [((true, 4), f92_l4_nd)] }
noncomputable def f92_l4_b : Code := (loops f92_code).getD 0 .skip
theorem f92_l4_r (c : f92_l4_C) (x : f92_l4_X) : roundS f92_fx f92_l4_b f92_l4_nd (f92_l4_put c x) = f92_l4_k c.1 c.2.1 c.2.2 x (fun x => some (.inl (f92_l4_put c x))) (fun y => some (.inr (.inl (f92_l4_w0 c y)))) (fun y => some (.inr (.inr (.inl (f92_l4_w1 c y))))) := by kernel_rfl
theorem f92_l4_n {R : Type} (a0 : List Bool) (a1 : List Bool) (a2 : Int) (a3 : Int) (kin : f92_l4_X → Option R) (k0 : Unit → Option R) (k1 : Unit → Option R) : f92_l4_k a0 a1 a2 a3 kin k0 k1 = (f92_l4_g a0 a1 a2 a3).bind (Sum.elim kin (Sum.elim k0 k1)) := by
  simp only [f92_l4_g, f92_l4_k, cond_bind, ite_bind, bind_bind, some_bind, none_bind, elim_bind, Sum.elim_inl, Sum.elim_inr]
theorem f92_l4_ok : LoopOk f92_fx f92_l4_b f92_l4_nd := loop_ok f92_l4_con f92_l4_get f92_l4_put f92_l4_pg (fun c => f92_l4_g c.1 c.2.1 c.2.2) f92_l4_out (fun t y => rfl) (by intro R t y K; rcases y with y | y <;> rfl) (fun c x => by
  refine (f92_l4_r c x).trans ((f92_l4_n _ _ _ _ _ _ _).trans ?_)
  first
  | rfl
  | congr 1
    funext s
    rcases s with s | s | s <;> rfl) (fun t => rfl)
noncomputable def f92_k {R : Type} (a0 : List Bool) (a1 : List Bool) (k : (Bool × Unit) × (Unit) → Option R) : Option R :=
 (cond (((List.length a0 : Nat) : Int) != ((List.length a1 : Nat) : Int))
 (k ((false, ()), ()))
 ((f92_l4 a0 a1 ((List.length a0 : Nat) : Int) (0 : Int)).bind fun y1 =>
  ((Sum.elim (fun z2 =>
  (k ((false, ()), ())))
  (fun z3 =>
  (k ((true, ()), ())))) y1)))
noncomputable def f92 (a0 : List Bool) (a1 : List Bool) : Option ((Bool × Unit) × (Unit)) := f92_k a0 a1 some
noncomputable def f92_sm : Sm := ⟨[.ro (.slc .bool), .ro (.slc .bool)], [(.bool, .ro)], fun x => f92 x.1 x.2.1⟩
theorem f92_m (x : ArgT [.ro (.slc .bool), .ro (.slc .bool)]) : codeS f92_fx f92_code (start [.ro (.slc .bool), .ro (.slc .bool)] [] x 26) (finK env [.tmp 4] [.ro (.slc .bool), .ro (.slc .bool)] [(.bool, .ro)]) = f92_k x.1 x.2.1 (fun r => some (r, [])) := by kernel_rfl
theorem f92_n {R : Type} (a0 : List Bool) (a1 : List Bool) (k : (Bool × Unit) × (Unit) → Option R) : f92_k a0 a1 k = (f92 a0 a1).bind k := by
  simp only [f92, f92_k, cond_bind, ite_bind, bind_bind, some_bind, none_bind, elim_bind]
theorem f92_ok : SmOk Try.prog 92 f92_sm :=
  sum_of (c := f92_fx) (fn := Try.f92) (code := f92_code) (sm := f92_sm) mixed (env_ok env_envB) (TabsOk.all trivial) Try.func92 (by kernel_rfl)
   ((LoopsOk.of (l := [f92_l4_b]) (by kernel_rfl) ⟨node_is (by kernel_rfl) f92_l4_ok, trivial⟩))
   (no_tails (by kernel_rfl))
   (fun ks x hl => by
    have hk : ks = [] := List.length_eq_zero_iff.1 hl
    subst hk
    exact (f92_m x).trans (f92_n _ _ _))
theorem f92_c : CalOk Try.prog 92 f92_sm := .inl ⟨f92_ok, ⟨Try.f92, Try.func92, by kernel_rfl, by kernel_rfl⟩⟩
noncomputable def f32_code : Code := (Try.f32.body).getD .skip
noncomputable def f32_l9_sk : SkS := ⟨125, [(8, .ref 432 []), (0, .ref 159 []), (0, .con (.int .i64))], [(159, ⟨none, (.slc .bool), (.own .ro), none⟩), (432, ⟨none, (.slc .bool), (.own .ro), none⟩)]⟩
noncomputable def f32_l9_o0 : SkS := ⟨126, [(8, .ref 432 []), (0, .ref 159 [])], [(159, ⟨none, (.slc .bool), (.own .ro), none⟩), (432, ⟨none, (.slc .bool), (.own .ro), none⟩)]⟩
noncomputable def f32_l9_outs : List Way := [⟨(.exit 0), [], f32_l9_o0⟩]
abbrev f32_l9_C := List Bool
abbrev f32_l9_X := (Int × List Bool)
abbrev f32_l9_Y := (List Bool)
noncomputable def f32_l9_con (t : f32_l9_sk.T) : f32_l9_C := t.2.2.1.1
noncomputable def f32_l9_get (t : f32_l9_sk.T) : f32_l9_X := (t.1.1, t.2.1.1)
noncomputable def f32_l9_put (c : f32_l9_C) (x : f32_l9_X) : f32_l9_sk.T := ((x.1, ()), ((x.2, ()), ((c, ()), ())))
theorem f32_l9_pg (t : f32_l9_sk.T) : f32_l9_put (f32_l9_con t) (f32_l9_get t) = t := by kernel_rfl
noncomputable def f32_l9_w0 (c : f32_l9_C) (y : List Bool) : f32_l9_o0.T := ((), ((y, ()), ((c, ()), ())))
noncomputable def f32_l9_out (c : f32_l9_C) (y : f32_l9_Y) : OutV f32_l9_outs := (fun y => (.inl (f32_l9_w0 c y))) y
noncomputable def f32_l9_k {R : Type} (a0 : Int) (a1 : List Bool) (a2 : List Bool) (kin : f32_l9_X → Option R) (k0 : List Bool → Option R) : Option R :=
 (let v3 : Int := (IntKind.i64.wrap (((List.length a2 : Nat) : Int) - (2 : Int)))
 (cond (decide (a0 < v3))
 (if (0 : Int) ≤ a0 ∧ a0 < ((List.length a2 : Nat) : Int) then (if (List.length a1 + 1) * 1 ≤ most ∧ 0 < 1 ∧ 0 < 1 then (let r4 : List Bool := (a1 ++ [(List.getD a2 (Int.toNat a0) false)])
  (let v5 : Int := (IntKind.i64.wrap (a0 + (2 : Int)))
  (kin (v5, r4)))) else none) else none)
 (k0 a1)))
noncomputable def f32_l9_g (a2 : List Bool) (x : f32_l9_X) : Option (f32_l9_X ⊕ f32_l9_Y) := f32_l9_k x.1 x.2 a2 (fun x => some (.inl x)) (fun y => some (.inr y))
noncomputable def f32_l9 (a2 : List Bool) (x : f32_l9_X) : Option f32_l9_Y := loopO (f32_l9_g a2) x
noncomputable def f32_l9_nd : Node := { nils := [(9, 159, .bool, .ro)], sk := f32_l9_sk, outs := f32_l9_outs, Y := f32_l9_Y, L := fun t => f32_l9 ((f32_l9_con t)) (f32_l9_get t), out := fun t y => f32_l9_out (f32_l9_con t) y, disp := fun t y K => (fun y => K (.exit 0) (f32_l9_o0.fill (f32_l9_w0 (f32_l9_con t) y))) y }
noncomputable def f32_t27_sk : SkS := ⟨121, [(8, .ref 432 []), (0, .ref 159 []), (1, .ref 191 []), (0, .con (.int .i64)), (0, .con (.int .i64)), (0, .ref 1088 [])], [(159, ⟨none, (.slc .bool), (.own .ro), none⟩), (191, ⟨none, (.slc (.pair .bool (.pair (.slc (.int .u8)) .unit))), (.own (.pair .ro (.pair (.own .ro) .ro))), none⟩), (432, ⟨none, (.slc .bool), (.own .ro), none⟩), (1088, ⟨none, (.slc (.int .u8)), (.own .ro), none⟩)]⟩
noncomputable def f32_t27_o0 : SkS := ⟨122, [(8, .ref 432 []), (0, .ref 159 []), (1, .ref 191 []), (0, .con (.int .i64)), (0, .con (.int .i64))], [(159, ⟨none, (.slc .bool), (.own .ro), none⟩), (191, ⟨none, (.slc (.pair .bool (.pair (.slc (.int .u8)) .unit))), (.own (.pair .ro (.pair (.own .ro) .ro))), none⟩), (432, ⟨none, (.slc .bool), (.own .ro), none⟩)]⟩
noncomputable def f32_t27_outs : List Way := [⟨.normal, [], f32_t27_o0⟩]
abbrev f32_t27_C := Unit
abbrev f32_t27_X := (Int × Int × List Bool × List (Bool × (List Int × Unit)) × List Bool × List Int)
abbrev f32_t27_Y := (List (Bool × (List Int × Unit)))
noncomputable def f32_t27_con (t : f32_t27_sk.T) : f32_t27_C := ()
noncomputable def f32_t27_get (t : f32_t27_sk.T) : f32_t27_X := (t.1.1, t.1.2.1, t.2.1.1, t.2.2.1.1, t.2.2.2.1.1, t.2.2.2.2.1.1)
noncomputable def f32_t27_put (c : f32_t27_C) (x : f32_t27_X) : f32_t27_sk.T := ((x.1, (x.2.1, ())), ((x.2.2.1, ()), ((x.2.2.2.1, ()), ((x.2.2.2.2.1, ()), ((x.2.2.2.2.2, ()), ())))))
theorem f32_t27_pg (t : f32_t27_sk.T) : f32_t27_put (f32_t27_con t) (f32_t27_get t) = t := by kernel_rfl
noncomputable def f32_t27_w0 (c : f32_t27_C) (x : f32_t27_X) (y : List (Bool × (List Int × Unit))) : f32_t27_o0.T := ((x.1, (x.2.1, ())), ((x.2.2.1, ()), ((y, ()), ((x.2.2.2.2.1, ()), ()))))
noncomputable def f32_t27_out (c : f32_t27_C) (x : f32_t27_X) (y : f32_t27_Y) : OutV f32_t27_outs := (fun y => (.inl (f32_t27_w0 c x y))) y
noncomputable def f32_t27_k {R : Type} (a0 : Int) (a1 : Int) (a2 : List Bool) (a3 : List (Bool × (List Int × Unit))) (a4 : List Bool) (a5 : List Int) (k0 : List (Bool × (List Int × Unit)) → Option R) : Option R :=
 (let v18 : Int := (IntKind.i64.wrap (((List.length a3 : Nat) : Int) - (1 : Int)))
 (let v19 : Int := (IntKind.i64.wrap (((List.length a3 : Nat) : Int) - (1 : Int)))
 (if (0 : Int) ≤ v19 ∧ v19 < ((List.length a3 : Nat) : Int) then (if (0 : Int) ≤ v18 ∧ v18 < ((List.length a3 : Nat) : Int) then (if (Int.toNat v18) = (Int.toNat v19) then (if 0 < List.length a5 ∧ (List.length (List.getD a3 (Int.toNat v19) (false, (([] : List Int), ()))).2.1 + List.length a5) * 1 ≤ most ∧ 0 < 1 then (k0 (List.set a3 (Int.toNat v19) ((List.getD a3 (Int.toNat v19) (false, (([] : List Int), ()))).1, (((List.getD a3 (Int.toNat v19) (false, (([] : List Int), ()))).2.1 ++ a5), (List.getD a3 (Int.toNat v19) (false, (([] : List Int), ()))).2.2)))) else none) else none) else none) else none)))
noncomputable def f32_t27 (a0 : Int) (a1 : Int) (a2 : List Bool) (a3 : List (Bool × (List Int × Unit))) (a4 : List Bool) (a5 : List Int) : Option f32_t27_Y := f32_t27_k a0 a1 a2 a3 a4 a5 (fun y => some y)
noncomputable def f32_t27_nd : Node := { nils := [(11, 191, (.pair .bool (.pair (.slc (.int .u8)) .unit)), (.pair .ro (.pair (.own .ro) .ro)))], sk := f32_t27_sk, outs := f32_t27_outs, Y := f32_t27_Y, L := fun t => f32_t27 ((f32_t27_get t).1) ((f32_t27_get t).2.1) ((f32_t27_get t).2.2.1) ((f32_t27_get t).2.2.2.1) ((f32_t27_get t).2.2.2.2.1) ((f32_t27_get t).2.2.2.2.2), out := fun t y => f32_t27_out (f32_t27_con t) (f32_t27_get t) y, disp := fun t y K => (fun y => K .normal (f32_t27_o0.fill (f32_t27_w0 (f32_t27_con t) (f32_t27_get t) y))) y }
noncomputable def f32_l17_sk : SkS := ⟨122, [(8, .ref 432 []), (0, .ref 159 []), (1, .ref 191 []), (0, .con (.int .i64)), (0, .con (.int .i64))], [(159, ⟨none, (.slc .bool), (.own .ro), none⟩), (191, ⟨none, (.slc (.pair .bool (.pair (.slc (.int .u8)) .unit))), (.own (.pair .ro (.pair (.own .ro) .ro))), none⟩), (432, ⟨none, (.slc .bool), (.own .ro), none⟩)]⟩
noncomputable def f32_l17_o0 : SkS := ⟨130, [(4, .nil), (0, .con (.int .i64))], []⟩
noncomputable def f32_l17_o1 : SkS := ⟨123, [(8, .ref 432 []), (2, .ref 191 []), (0, .con (.int .i64))], [(191, ⟨none, (.slc (.pair .bool (.pair (.slc (.int .u8)) .unit))), (.own (.pair .ro (.pair (.own .ro) .ro))), none⟩), (432, ⟨none, (.slc .bool), (.own .ro), none⟩)]⟩
noncomputable def f32_l17_outs : List Way := [⟨.ret, [], f32_l17_o0⟩, ⟨(.exit 2), [], f32_l17_o1⟩]
abbrev f32_l17_C := (List Bool × List Bool)
abbrev f32_l17_X := (Int × Int × List (Bool × (List Int × Unit)))
abbrev f32_l17_Y := (Unit) ⊕ ((Int × List (Bool × (List Int × Unit))))
noncomputable def f32_l17_con (t : f32_l17_sk.T) : f32_l17_C := (t.2.1.1, t.2.2.2.1.1)
noncomputable def f32_l17_get (t : f32_l17_sk.T) : f32_l17_X := (t.1.1, t.1.2.1, t.2.2.1.1)
noncomputable def f32_l17_put (c : f32_l17_C) (x : f32_l17_X) : f32_l17_sk.T := ((x.1, (x.2.1, ())), ((c.1, ()), ((x.2.2, ()), ((c.2, ()), ()))))
theorem f32_l17_pg (t : f32_l17_sk.T) : f32_l17_put (f32_l17_con t) (f32_l17_get t) = t := by kernel_rfl
noncomputable def f32_l17_w0 (c : f32_l17_C) (y : Unit) : f32_l17_o0.T := (((3 : Int), ()), ())
noncomputable def f32_l17_w1 (c : f32_l17_C) (y : (Int × List (Bool × (List Int × Unit)))) : f32_l17_o1.T := ((y.1, ()), ((y.2, ()), ((c.2, ()), ())))
noncomputable def f32_l17_out (c : f32_l17_C) (y : f32_l17_Y) : OutV f32_l17_outs := (Sum.elim (fun y => (.inl (f32_l17_w0 c y))) (fun y => (.inr (.inl (f32_l17_w1 c y))))) y
noncomputable def f32_l17_k {R : Type} (a0 : Int) (a1 : Int) (a2 : List Bool) (a3 : List (Bool × (List Int × Unit))) (a4 : List Bool) (kin : f32_l17_X → Option R) (k0 : Unit → Option R) (k1 : (Int × List (Bool × (List Int × Unit))) → Option R) : Option R :=
 (cond (decide (a1 < ((List.length a2 : Nat) : Int)))
 (let v8 : Int := (IntKind.i64.wrap (a0 + (1 : Int)))
  (let v9 : Int := (IntKind.i64.wrap (a1 + (8 : Int)))
  (if (0 : Int) ≤ a1 ∧ a1 ≤ v9 ∧ v9 ≤ ((List.length a2 : Nat) : Int) then ((f91 (List.take ((Int.toNat v9) - (Int.toNat a1)) (List.drop (Int.toNat a1) a2))).bind fun r10 =>
  (let v11 : Int := (IntKind.i64.wrap (a1 + (4 : Int)))
  (if (0 : Int) ≤ v11 ∧ v11 < ((List.length a2 : Nat) : Int) then (cond (!(List.getD a2 (Int.toNat v11) false))
  (let v12 : Int := (IntKind.i64.wrap (a1 + (5 : Int)))
   (if (0 : Int) ≤ v12 ∧ v12 < ((List.length a2 : Nat) : Int) then (cond (!(List.getD a2 (Int.toNat v12) false))
   (let v13 : Int := (IntKind.i64.wrap (a1 + (5 : Int)))
    (let v14 : Int := (IntKind.i64.wrap ((2 : Int) * v13))
    (if (0 : Int) ≤ v14 ∧ v14 < ((List.length a4 : Nat) : Int) then (cond (!(List.getD a4 (Int.toNat v14) false))
    (if (0 : Int) ≤ (0 : Int) ∧ (0 : Int) < ((List.length r10.1.1 : Nat) : Int) then (cond ((List.getD r10.1.1 0 (0 : Int)) != (161 : Int))
     (k0 ())
     (if (List.length a3 + 1) * 32 ≤ most ∧ 0 < 32 ∧ 0 < 2 then (let r15 : List (Bool × (List Int × Unit)) := (a3 ++ [(true, ([], ()))])
      (let v16 : Int := (IntKind.i64.wrap (a1 + (8 : Int)))
      (kin (v8, v16, r15)))) else none)) else none)
    (cond (((List.length a3 : Nat) : Int) == (0 : Int))
     (if (List.length a3 + 1) * 32 ≤ most ∧ 0 < 32 ∧ 0 < 2 then (let r17 : List (Bool × (List Int × Unit)) := (a3 ++ [(false, ([], ()))])
      ((f32_t27 v8 a1 a2 r17 a4 r10.1.1).bind fun y20 =>
      (let v21 : Int := (IntKind.i64.wrap (a1 + (8 : Int)))
      (kin (v8, v21, y20))))) else none)
     ((f32_t27 v8 a1 a2 a3 a4 r10.1.1).bind fun y22 =>
      (let v23 : Int := (IntKind.i64.wrap (a1 + (8 : Int)))
      (kin (v8, v23, y22)))))) else none)))
   (cond (((List.length a3 : Nat) : Int) == (0 : Int))
    (if (List.length a3 + 1) * 32 ≤ most ∧ 0 < 32 ∧ 0 < 2 then (let r24 : List (Bool × (List Int × Unit)) := (a3 ++ [(false, ([], ()))])
     ((f32_t27 v8 a1 a2 r24 a4 r10.1.1).bind fun y25 =>
     (let v26 : Int := (IntKind.i64.wrap (a1 + (8 : Int)))
     (kin (v8, v26, y25))))) else none)
    ((f32_t27 v8 a1 a2 a3 a4 r10.1.1).bind fun y27 =>
     (let v28 : Int := (IntKind.i64.wrap (a1 + (8 : Int)))
     (kin (v8, v28, y27)))))) else none))
  (cond (((List.length a3 : Nat) : Int) == (0 : Int))
   (if (List.length a3 + 1) * 32 ≤ most ∧ 0 < 32 ∧ 0 < 2 then (let r29 : List (Bool × (List Int × Unit)) := (a3 ++ [(false, ([], ()))])
    ((f32_t27 v8 a1 a2 r29 a4 r10.1.1).bind fun y30 =>
    (let v31 : Int := (IntKind.i64.wrap (a1 + (8 : Int)))
    (kin (v8, v31, y30))))) else none)
   ((f32_t27 v8 a1 a2 a3 a4 r10.1.1).bind fun y32 =>
    (let v33 : Int := (IntKind.i64.wrap (a1 + (8 : Int)))
    (kin (v8, v33, y32)))))) else none))) else none)))
 (k1 (a0, a3)))
noncomputable def f32_l17_g (a2 : List Bool) (a4 : List Bool) (x : f32_l17_X) : Option (f32_l17_X ⊕ f32_l17_Y) := f32_l17_k x.1 x.2.1 a2 x.2.2 a4 (fun x => some (.inl x)) (fun y => some (.inr (.inl y))) (fun y => some (.inr (.inr y)))
noncomputable def f32_l17 (a2 : List Bool) (a4 : List Bool) (x : f32_l17_X) : Option f32_l17_Y := loopO (f32_l17_g a2 a4) x
noncomputable def f32_l17_nd : Node := { nils := [(11, 191, (.pair .bool (.pair (.slc (.int .u8)) .unit)), (.pair .ro (.pair (.own .ro) .ro)))], sk := f32_l17_sk, outs := f32_l17_outs, Y := f32_l17_Y, L := fun t => f32_l17 ((f32_l17_con t).1) ((f32_l17_con t).2) (f32_l17_get t), out := fun t y => f32_l17_out (f32_l17_con t) y, disp := fun t y K => (Sum.elim (fun y => K .ret (f32_l17_o0.fill (f32_l17_w0 (f32_l17_con t) y))) (fun y => K (.exit 2) (f32_l17_o1.fill (f32_l17_w1 (f32_l17_con t) y)))) y }
noncomputable def f32_fx : Fx := { E := env, T := [(89, f89_sm), (90, f90_sm), (91, f91_sm), (86, f86_sm), (88, f88_sm), (92, f92_sm)], H := [(98, (.own (.pair .ro (.pair (.own .ro) .ro)))), (99, (.own (.pair .ro (.pair (.own .ro) .ro)))), (105, (.own (.pair .ro (.pair (.own .ro) .ro)))), (106, (.own (.pair .ro (.pair (.own .ro) .ro))))], O := [], nodes := [((true, 9), f32_l9_nd), ((false, 27), f32_t27_nd), ((true, 17), f32_l17_nd)] }
noncomputable def f32_l9_b : Code := (loops f32_code).getD 0 .skip
theorem f32_l9_r (c : f32_l9_C) (x : f32_l9_X) : roundS f32_fx f32_l9_b f32_l9_nd (f32_l9_put c x) = f32_l9_k x.1 x.2 c (fun x => some (.inl (f32_l9_put c x))) (fun y => some (.inr (.inl (f32_l9_w0 c y)))) := by kernel_rfl
theorem f32_l9_n {R : Type} (a0 : Int) (a1 : List Bool) (a2 : List Bool) (kin : f32_l9_X → Option R) (k0 : List Bool → Option R) : f32_l9_k a0 a1 a2 kin k0 = (f32_l9_g a2 (a0, a1)).bind (Sum.elim kin k0) := by
  simp only [f32_l9_g, f32_l9_k, cond_bind, ite_bind, bind_bind, some_bind, none_bind, elim_bind, Sum.elim_inl, Sum.elim_inr]
theorem f32_l9_ok : LoopOk f32_fx f32_l9_b f32_l9_nd := loop_ok f32_l9_con f32_l9_get f32_l9_put f32_l9_pg (fun c => f32_l9_g c) f32_l9_out (fun t y => rfl) (fun t y K => rfl) (fun c x => by
  refine (f32_l9_r c x).trans ((f32_l9_n _ _ _ _ _).trans ?_)
  first
  | rfl
  | congr 1
    funext s
    rcases s with s | s <;> rfl) (fun t => rfl)
noncomputable def f32_t27_b : Code := (tails f32_code).getD 33 .skip
theorem f32_t27_r (c : f32_t27_C) (x : f32_t27_X) : tailS f32_fx f32_t27_b f32_t27_nd (f32_t27_put c x) = f32_t27_k x.1 x.2.1 x.2.2.1 x.2.2.2.1 x.2.2.2.2.1 x.2.2.2.2.2 (fun y => some (.inl (f32_t27_w0 c x y))) := by kernel_rfl
theorem f32_t27_n {R : Type} (a0 : Int) (a1 : Int) (a2 : List Bool) (a3 : List (Bool × (List Int × Unit))) (a4 : List Bool) (a5 : List Int) (k0 : List (Bool × (List Int × Unit)) → Option R) : f32_t27_k a0 a1 a2 a3 a4 a5 k0 = (f32_t27 a0 a1 a2 a3 a4 a5).bind k0 := by
  simp only [f32_t27, f32_t27_k, cond_bind, ite_bind, bind_bind, some_bind, none_bind, elim_bind, Sum.elim_inl, Sum.elim_inr]
theorem f32_t27_ok : TailOk f32_fx f32_t27_b f32_t27_nd := tail_ok f32_t27_con f32_t27_get f32_t27_put f32_t27_pg (fun x => f32_t27 x.1 x.2.1 x.2.2.1 x.2.2.2.1 x.2.2.2.2.1 x.2.2.2.2.2) f32_t27_out (fun t y => rfl) (fun t y K => rfl) (fun c x => by
  refine (f32_t27_r c x).trans ((f32_t27_n _ _ _ _ _ _ _).trans ?_)
  first
  | rfl
  | congr 1
    funext s
    rfl) (fun t => rfl)
noncomputable def f32_l17_b : Code := (loops f32_code).getD 1 .skip
theorem f32_l17_r (c : f32_l17_C) (x : f32_l17_X) : roundS f32_fx f32_l17_b f32_l17_nd (f32_l17_put c x) = f32_l17_k x.1 x.2.1 c.1 x.2.2 c.2 (fun x => some (.inl (f32_l17_put c x))) (fun y => some (.inr (.inl (f32_l17_w0 c y)))) (fun y => some (.inr (.inr (.inl (f32_l17_w1 c y))))) := by kernel_rfl
theorem f32_l17_n {R : Type} (a0 : Int) (a1 : Int) (a2 : List Bool) (a3 : List (Bool × (List Int × Unit))) (a4 : List Bool) (kin : f32_l17_X → Option R) (k0 : Unit → Option R) (k1 : (Int × List (Bool × (List Int × Unit))) → Option R) : f32_l17_k a0 a1 a2 a3 a4 kin k0 k1 = (f32_l17_g a2 a4 (a0, a1, a3)).bind (Sum.elim kin (Sum.elim k0 k1)) := by
  simp only [f32_l17_g, f32_l17_k, cond_bind, ite_bind, bind_bind, some_bind, none_bind, elim_bind, Sum.elim_inl, Sum.elim_inr]
theorem f32_l17_ok : LoopOk f32_fx f32_l17_b f32_l17_nd := loop_ok f32_l17_con f32_l17_get f32_l17_put f32_l17_pg (fun c => f32_l17_g c.1 c.2) f32_l17_out (fun t y => rfl) (by intro R t y K; rcases y with y | y <;> rfl) (fun c x => by
  refine (f32_l17_r c x).trans ((f32_l17_n _ _ _ _ _ _ _ _).trans ?_)
  first
  | rfl
  | congr 1
    funext s
    rcases s with s | s | s <;> rfl) (fun t => rfl)
noncomputable def f32_k {R : Type} (a0 : List Int) (a1 : Int) (k : (List (Bool × (List Int × Unit)) × Int × Unit) × (Unit) → Option R) : Option R :=
 ((f89 a0 a1 (4 : Int)).bind fun r0 =>
 (cond (r0.1.2.1 != (0 : Int))
 (k (([], (r0.1.2.1, ())), ()))
 ((f90 r0.1.1).bind fun r1 =>
  (let v2 : Int := (Int.tmod ((List.length r1.1.1 : Nat) : Int) (2 : Int))
  (cond (v2 == (1 : Int))
  (k (([], ((3 : Int), ())), ()))
  (cond (((List.length r1.1.1 : Nat) : Int) == (0 : Int))
   (k (([], ((3 : Int), ())), ()))
   ((f32_l9 r1.1.1 ((1 : Int), [])).bind fun y6 =>
    (let v7 : Int := (Int.tmod ((List.length y6 : Nat) : Int) (8 : Int))
    (cond (v7 != (0 : Int))
    (k (([], ((13 : Int), ())), ()))
    ((f32_l17 y6 r1.1.1 ((0 : Int), (0 : Int), [])).bind fun y34 =>
     ((Sum.elim (fun z35 =>
     (k (([], ((3 : Int), ())), ())))
     (fun z36 =>
     ((f86 z36.2).bind fun r37 =>
      ((f88 r37.1.1 r37.1.2.1).bind fun r38 =>
      ((f92 r38.1.1 r1.1.1).bind fun r39 =>
      (cond (!r39.1.1)
      (k (([], ((3 : Int), ())), ()))
      (cond (decide (z36.1 > (2400 : Int)))
       (k (([], ((2 : Int), ())), ()))
       (k ((z36.2, ((0 : Int), ())), ()))))))))) y34)))))))))))
noncomputable def f32 (a0 : List Int) (a1 : Int) : Option ((List (Bool × (List Int × Unit)) × Int × Unit) × (Unit)) := f32_k a0 a1 some
noncomputable def f32_sm : Sm := ⟨[.ro (.slc (.int .i64)), .ro (.int .i64)], [((.slc (.pair .bool (.pair (.slc (.int .u8)) .unit))), .ro), ((.int .i64), .ro)], fun x => f32 x.1 x.2.1⟩
theorem f32_m (x : ArgT [.ro (.slc (.int .i64)), .ro (.int .i64)]) : codeS f32_fx f32_code (start [.ro (.slc (.int .i64)), .ro (.int .i64)] [] x 136) (finK env [.tmp 4, .tmp 5] [.ro (.slc (.int .i64)), .ro (.int .i64)] [((.slc (.pair .bool (.pair (.slc (.int .u8)) .unit))), .ro), ((.int .i64), .ro)]) = f32_k x.1 x.2.1 (fun r => some (r, [])) := by kernel_rfl
theorem f32_n {R : Type} (a0 : List Int) (a1 : Int) (k : (List (Bool × (List Int × Unit)) × Int × Unit) × (Unit) → Option R) : f32_k a0 a1 k = (f32 a0 a1).bind k := by
  simp only [f32, f32_k, cond_bind, ite_bind, bind_bind, some_bind, none_bind, elim_bind]
theorem f32_ok : SmOk Try.prog 32 f32_sm :=
  sum_of (c := f32_fx) (fn := Try.f32) (code := f32_code) (sm := f32_sm) mixed (env_ok env_envB) (TabsOk.all ⟨f89_c, f90_c, f91_c, f86_c, f88_c, f92_c, trivial⟩) Try.func32 (by kernel_rfl)
   ((LoopsOk.of (l := [f32_l9_b, f32_l17_b]) (by kernel_rfl) ⟨node_is (by kernel_rfl) f32_l9_ok, node_is (by kernel_rfl) f32_l17_ok, trivial⟩))
   ((TailsOk.of (l := [((tails f32_code).getD 0 .skip), ((tails f32_code).getD 1 .skip), ((tails f32_code).getD 2 .skip), ((tails f32_code).getD 3 .skip), ((tails f32_code).getD 4 .skip), ((tails f32_code).getD 5 .skip), ((tails f32_code).getD 6 .skip), ((tails f32_code).getD 7 .skip), ((tails f32_code).getD 8 .skip), ((tails f32_code).getD 9 .skip), ((tails f32_code).getD 10 .skip), ((tails f32_code).getD 11 .skip), ((tails f32_code).getD 12 .skip), ((tails f32_code).getD 13 .skip), ((tails f32_code).getD 14 .skip), ((tails f32_code).getD 15 .skip), ((tails f32_code).getD 16 .skip), ((tails f32_code).getD 17 .skip), ((tails f32_code).getD 18 .skip), ((tails f32_code).getD 19 .skip), ((tails f32_code).getD 20 .skip), ((tails f32_code).getD 21 .skip), ((tails f32_code).getD 22 .skip), ((tails f32_code).getD 23 .skip), ((tails f32_code).getD 24 .skip), ((tails f32_code).getD 25 .skip), ((tails f32_code).getD 26 .skip), ((tails f32_code).getD 27 .skip), ((tails f32_code).getD 28 .skip), ((tails f32_code).getD 29 .skip), ((tails f32_code).getD 30 .skip), ((tails f32_code).getD 31 .skip), ((tails f32_code).getD 32 .skip), f32_t27_b, ((tails f32_code).getD 34 .skip), ((tails f32_code).getD 35 .skip), ((tails f32_code).getD 36 .skip), ((tails f32_code).getD 37 .skip), ((tails f32_code).getD 38 .skip), ((tails f32_code).getD 39 .skip), ((tails f32_code).getD 40 .skip), ((tails f32_code).getD 41 .skip), ((tails f32_code).getD 42 .skip)]) (by kernel_rfl) ⟨node_no (by kernel_rfl), node_no (by kernel_rfl), node_no (by kernel_rfl), node_no (by kernel_rfl), node_no (by kernel_rfl), node_no (by kernel_rfl), node_no (by kernel_rfl), node_no (by kernel_rfl), node_no (by kernel_rfl), node_no (by kernel_rfl), node_no (by kernel_rfl), node_no (by kernel_rfl), node_no (by kernel_rfl), node_no (by kernel_rfl), node_no (by kernel_rfl), node_no (by kernel_rfl), node_no (by kernel_rfl), node_no (by kernel_rfl), node_no (by kernel_rfl), node_no (by kernel_rfl), node_no (by kernel_rfl), node_no (by kernel_rfl), node_no (by kernel_rfl), node_no (by kernel_rfl), node_no (by kernel_rfl), node_no (by kernel_rfl), node_no (by kernel_rfl), node_no (by kernel_rfl), node_no (by kernel_rfl), node_no (by kernel_rfl), node_no (by kernel_rfl), node_no (by kernel_rfl), node_no (by kernel_rfl), node_is (by kernel_rfl) f32_t27_ok, node_no (by kernel_rfl), node_no (by kernel_rfl), node_no (by kernel_rfl), node_no (by kernel_rfl), node_no (by kernel_rfl), node_no (by kernel_rfl), node_no (by kernel_rfl), node_no (by kernel_rfl), node_no (by kernel_rfl), trivial⟩))
   (fun ks x hl => by
    have hk : ks = [] := List.length_eq_zero_iff.1 hl
    subst hk
    exact (f32_m x).trans (f32_n _ _ _))
theorem f32_c : CalOk Try.prog 32 f32_sm := .inl ⟨f32_ok, ⟨Try.f32, Try.func32, by kernel_rfl, by kernel_rfl⟩⟩
abbrev f33_l4_X := Int
abbrev f33_l4_Y := (Unit) ⊕ (Unit)
noncomputable def f33_l4_k {R : Type} (a0 : List Int) (a1 : List Int) (a2 : Int) (a3 : Int) (kin : f33_l4_X → Option R) (k0 : Unit → Option R) (k1 : Unit → Option R) : Option R :=
 (cond (decide (a3 < a2))
 (if (0 : Int) ≤ a3 ∧ a3 < ((List.length a0 : Nat) : Int) then (if (0 : Int) ≤ a3 ∧ a3 < ((List.length a1 : Nat) : Int) then (cond ((List.getD a0 (Int.toNat a3) (0 : Int)) != (List.getD a1 (Int.toNat a3) (0 : Int)))
  (k0 ())
  (let v0 : Int := (IntKind.i64.wrap (a3 + (1 : Int)))
   (kin v0))) else none) else none)
 (k1 ()))
noncomputable def f33_l4_g (a0 : List Int) (a1 : List Int) (a2 : Int) (x : f33_l4_X) : Option (f33_l4_X ⊕ f33_l4_Y) := f33_l4_k a0 a1 a2 x (fun x => some (.inl x)) (fun y => some (.inr (.inl y))) (fun y => some (.inr (.inr y)))
noncomputable def f33_l4 (a0 : List Int) (a1 : List Int) (a2 : Int) (x : f33_l4_X) : Option f33_l4_Y := loopO (f33_l4_g a0 a1 a2) x
noncomputable def f33_k {R : Type} (a0 : List Int) (a1 : List Int) (k : (Bool × Unit) × (Unit) → Option R) : Option R :=
 (cond (((List.length a0 : Nat) : Int) != ((List.length a1 : Nat) : Int))
 (k ((false, ()), ()))
 ((f33_l4 a0 a1 ((List.length a0 : Nat) : Int) (0 : Int)).bind fun y1 =>
  ((Sum.elim (fun z2 =>
  (k ((false, ()), ())))
  (fun z3 =>
  (k ((true, ()), ())))) y1)))
noncomputable def f33 (a0 : List Int) (a1 : List Int) : Option ((Bool × Unit) × (Unit)) := f33_k a0 a1 some
noncomputable def f24_code : Code := (Try.f24.body).getD .skip
noncomputable def f24_l4_sk : SkS := ⟨12, [(0, .con (.slc (.int .u8))), (0, .con (.slc (.int .u8))), (10, .con (.int .i64)), (0, .con (.int .i64))], []⟩
noncomputable def f24_l4_o0 : SkS := ⟨21, [(4, .con .bool)], []⟩
noncomputable def f24_l4_o1 : SkS := ⟨26, [], []⟩
noncomputable def f24_l4_outs : List Way := [⟨.ret, [], f24_l4_o0⟩, ⟨(.exit 0), [], f24_l4_o1⟩]
abbrev f24_l4_C := (List Int × List Int × Int)
abbrev f24_l4_X := Int
abbrev f24_l4_Y := (Unit) ⊕ (Unit)
noncomputable def f24_l4_con (t : f24_l4_sk.T) : f24_l4_C := (t.1.1, t.1.2.1, t.1.2.2.1)
noncomputable def f24_l4_get (t : f24_l4_sk.T) : f24_l4_X := t.1.2.2.2.1
noncomputable def f24_l4_put (c : f24_l4_C) (x : f24_l4_X) : f24_l4_sk.T := ((c.1, (c.2.1, (c.2.2, (x, ())))), ())
theorem f24_l4_pg (t : f24_l4_sk.T) : f24_l4_put (f24_l4_con t) (f24_l4_get t) = t := by kernel_rfl
noncomputable def f24_l4_w0 (c : f24_l4_C) (y : Unit) : f24_l4_o0.T := ((false, ()), ())
noncomputable def f24_l4_w1 (c : f24_l4_C) (y : Unit) : f24_l4_o1.T := ((), ())
noncomputable def f24_l4_out (c : f24_l4_C) (y : f24_l4_Y) : OutV f24_l4_outs := (Sum.elim (fun y => (.inl (f24_l4_w0 c y))) (fun y => (.inr (.inl (f24_l4_w1 c y))))) y
noncomputable def f24_l4_k {R : Type} (a0 : List Int) (a1 : List Int) (a2 : Int) (a3 : Int) (kin : f24_l4_X → Option R) (k0 : Unit → Option R) (k1 : Unit → Option R) : Option R :=
 (cond (decide (a3 < a2))
 (if (0 : Int) ≤ a3 ∧ a3 < ((List.length a0 : Nat) : Int) then (if (0 : Int) ≤ a3 ∧ a3 < ((List.length a1 : Nat) : Int) then (cond ((List.getD a0 (Int.toNat a3) (0 : Int)) != (List.getD a1 (Int.toNat a3) (0 : Int)))
  (k0 ())
  (let v0 : Int := (IntKind.i64.wrap (a3 + (1 : Int)))
   (kin v0))) else none) else none)
 (k1 ()))
noncomputable def f24_l4_g (a0 : List Int) (a1 : List Int) (a2 : Int) (x : f24_l4_X) : Option (f24_l4_X ⊕ f24_l4_Y) := f24_l4_k a0 a1 a2 x (fun x => some (.inl x)) (fun y => some (.inr (.inl y))) (fun y => some (.inr (.inr y)))
noncomputable def f24_l4 (a0 : List Int) (a1 : List Int) (a2 : Int) (x : f24_l4_X) : Option f24_l4_Y := loopO (f24_l4_g a0 a1 a2) x
noncomputable def f24_l4_nd : Node := { nils := [], sk := f24_l4_sk, outs := f24_l4_outs, Y := f24_l4_Y, L := fun t => f24_l4 ((f24_l4_con t).1) ((f24_l4_con t).2.1) ((f24_l4_con t).2.2) (f24_l4_get t), out := fun t y => f24_l4_out (f24_l4_con t) y, disp := fun t y K => (Sum.elim (fun y => K .ret (f24_l4_o0.fill (f24_l4_w0 (f24_l4_con t) y))) (fun y => K (.exit 0) (f24_l4_o1.fill (f24_l4_w1 (f24_l4_con t) y)))) y }
noncomputable def f24_fx : Fx := { E := env, T := [], H := [], O := [], nodes := [((true, 4), f24_l4_nd)] }
noncomputable def f24_l4_b : Code := (loops f24_code).getD 0 .skip
theorem f24_l4_r (c : f24_l4_C) (x : f24_l4_X) : roundS f24_fx f24_l4_b f24_l4_nd (f24_l4_put c x) = f24_l4_k c.1 c.2.1 c.2.2 x (fun x => some (.inl (f24_l4_put c x))) (fun y => some (.inr (.inl (f24_l4_w0 c y)))) (fun y => some (.inr (.inr (.inl (f24_l4_w1 c y))))) := by kernel_rfl
theorem f24_l4_n {R : Type} (a0 : List Int) (a1 : List Int) (a2 : Int) (a3 : Int) (kin : f24_l4_X → Option R) (k0 : Unit → Option R) (k1 : Unit → Option R) : f24_l4_k a0 a1 a2 a3 kin k0 k1 = (f24_l4_g a0 a1 a2 a3).bind (Sum.elim kin (Sum.elim k0 k1)) := by
  simp only [f24_l4_g, f24_l4_k, cond_bind, ite_bind, bind_bind, some_bind, none_bind, elim_bind, Sum.elim_inl, Sum.elim_inr]
theorem f24_l4_ok : LoopOk f24_fx f24_l4_b f24_l4_nd := loop_ok f24_l4_con f24_l4_get f24_l4_put f24_l4_pg (fun c => f24_l4_g c.1 c.2.1 c.2.2) f24_l4_out (fun t y => rfl) (by intro R t y K; rcases y with y | y <;> rfl) (fun c x => by
  refine (f24_l4_r c x).trans ((f24_l4_n _ _ _ _ _ _ _).trans ?_)
  first
  | rfl
  | congr 1
    funext s
    rcases s with s | s | s <;> rfl) (fun t => rfl)
noncomputable def f24_k {R : Type} (a0 : List Int) (a1 : List Int) (k : (Bool × Unit) × (Unit) → Option R) : Option R :=
 (cond (((List.length a0 : Nat) : Int) != ((List.length a1 : Nat) : Int))
 (k ((false, ()), ()))
 ((f24_l4 a0 a1 ((List.length a0 : Nat) : Int) (0 : Int)).bind fun y1 =>
  ((Sum.elim (fun z2 =>
  (k ((false, ()), ())))
  (fun z3 =>
  (k ((true, ()), ())))) y1)))
noncomputable def f24 (a0 : List Int) (a1 : List Int) : Option ((Bool × Unit) × (Unit)) := f24_k a0 a1 some
noncomputable def f24_sm : Sm := ⟨[.ro (.slc (.int .u8)), .ro (.slc (.int .u8))], [(.bool, .ro)], fun x => f24 x.1 x.2.1⟩
theorem f24_m (x : ArgT [.ro (.slc (.int .u8)), .ro (.slc (.int .u8))]) : codeS f24_fx f24_code (start [.ro (.slc (.int .u8)), .ro (.slc (.int .u8))] [] x 26) (finK env [.tmp 4] [.ro (.slc (.int .u8)), .ro (.slc (.int .u8))] [(.bool, .ro)]) = f24_k x.1 x.2.1 (fun r => some (r, [])) := by kernel_rfl
theorem f24_n {R : Type} (a0 : List Int) (a1 : List Int) (k : (Bool × Unit) × (Unit) → Option R) : f24_k a0 a1 k = (f24 a0 a1).bind k := by
  simp only [f24, f24_k, cond_bind, ite_bind, bind_bind, some_bind, none_bind, elim_bind]
theorem f24_ok : SmOk Try.prog 24 f24_sm :=
  sum_of (c := f24_fx) (fn := Try.f24) (code := f24_code) (sm := f24_sm) mixed (env_ok env_envB) (TabsOk.all trivial) Try.func24 (by kernel_rfl)
   ((LoopsOk.of (l := [f24_l4_b]) (by kernel_rfl) ⟨node_is (by kernel_rfl) f24_l4_ok, trivial⟩))
   (no_tails (by kernel_rfl))
   (fun ks x hl => by
    have hk : ks = [] := List.length_eq_zero_iff.1 hl
    subst hk
    exact (f24_m x).trans (f24_n _ _ _))
theorem f24_c : CalOk Try.prog 24 f24_sm := .inl ⟨f24_ok, ⟨Try.f24, Try.func24, by kernel_rfl, by kernel_rfl⟩⟩
noncomputable def f94_k {R : Type} (a0 : (Bool × (List Int × Unit))) (a1 : (Bool × (List Int × Unit))) (k : (Bool × Unit) × (Unit) → Option R) : Option R :=
 (cond (a0.1 == a1.1)
 ((f24 a0.2.1 a1.2.1).bind fun r0 =>
  (k ((r0.1.1, ()), ())))
 (k ((false, ()), ())))
noncomputable def f94 (a0 : (Bool × (List Int × Unit))) (a1 : (Bool × (List Int × Unit))) : Option ((Bool × Unit) × (Unit)) := f94_k a0 a1 some
abbrev f93_l4_X := Int
abbrev f93_l4_Y := (Unit) ⊕ (Unit)
noncomputable def f93_l4_k {R : Type} (a0 : List (Bool × (List Int × Unit))) (a1 : List (Bool × (List Int × Unit))) (a2 : Int) (a3 : Int) (kin : f93_l4_X → Option R) (k0 : Unit → Option R) (k1 : Unit → Option R) : Option R :=
 (cond (decide (a3 < a2))
 (if (0 : Int) ≤ a3 ∧ a3 < ((List.length a1 : Nat) : Int) then (if (0 : Int) ≤ a3 ∧ a3 < ((List.length a0 : Nat) : Int) then ((f94 (List.getD a1 (Int.toNat a3) (false, (([] : List Int), ()))) (List.getD a0 (Int.toNat a3) (false, (([] : List Int), ())))).bind fun r0 =>
  (cond (!r0.1.1)
  (k0 ())
  (let v1 : Int := (IntKind.i64.wrap (a3 + (1 : Int)))
   (kin v1)))) else none) else none)
 (k1 ()))
noncomputable def f93_l4_g (a0 : List (Bool × (List Int × Unit))) (a1 : List (Bool × (List Int × Unit))) (a2 : Int) (x : f93_l4_X) : Option (f93_l4_X ⊕ f93_l4_Y) := f93_l4_k a0 a1 a2 x (fun x => some (.inl x)) (fun y => some (.inr (.inl y))) (fun y => some (.inr (.inr y)))
noncomputable def f93_l4 (a0 : List (Bool × (List Int × Unit))) (a1 : List (Bool × (List Int × Unit))) (a2 : Int) (x : f93_l4_X) : Option f93_l4_Y := loopO (f93_l4_g a0 a1 a2) x
noncomputable def f93_k {R : Type} (a0 : List (Bool × (List Int × Unit))) (a1 : List (Bool × (List Int × Unit))) (a2 : (Unit)) (k : (Bool × Unit) × (Unit) → Option R) : Option R :=
 (cond (((List.length a0 : Nat) : Int) != ((List.length a1 : Nat) : Int))
 (k ((false, ()), ()))
 ((f93_l4 a1 a0 ((List.length a0 : Nat) : Int) (0 : Int)).bind fun y2 =>
  ((Sum.elim (fun z3 =>
  (k ((false, ()), ())))
  (fun z4 =>
  (k ((true, ()), ())))) y2)))
noncomputable def f93 (a0 : List (Bool × (List Int × Unit))) (a1 : List (Bool × (List Int × Unit))) (a2 : (Unit)) : Option ((Bool × Unit) × (Unit)) := f93_k a0 a1 a2 some
noncomputable def f34_k {R : Type} (a0 : List (Bool × (List Int × Unit))) (a1 : List (Bool × (List Int × Unit))) (k : (Bool × Unit) × (Unit) → Option R) : Option R :=
 ((f93 a0 a1 ()).bind fun r0 =>
 (k ((r0.1.1, ()), ())))
noncomputable def f34 (a0 : List (Bool × (List Int × Unit))) (a1 : List (Bool × (List Int × Unit))) : Option ((Bool × Unit) × (Unit)) := f34_k a0 a1 some
noncomputable def f4_k {R : Type} (a0 : List (Bool × (List Int × Unit))) (a1 : List Int) (a2 : Int) (k : (Bool × Unit) × (Unit) → Option R) : Option R :=
 ((f28 [(255 : Int)] (10 : Int)).bind fun r0 =>
 (cond (r0.1.2.1 != (0 : Int))
 (k ((false, ()), ()))
 (cond (((List.length r0.1.1 : Nat) : Int) != (9 : Int))
  (k ((false, ()), ()))
  (if (0 : Int) ≤ (0 : Int) ∧ (0 : Int) < ((List.length r0.1.1 : Nat) : Int) then (cond ((List.getD r0.1.1 0 (0 : Int)) != (20 : Int))
   (k ((false, ()), ()))
   ((f29 a0 a2).bind fun r1 =>
    ((f30 a1 a2).bind fun r2 =>
    ((f31 a0 a2).bind fun r3 =>
    ((f32 a1 a2).bind fun r4 =>
    (cond (r1.1.2.1 == r3.1.2.1)
    (cond (r2.1.2.1 == r4.1.2.1)
     ((f33 r1.1.1 r3.1.1).bind fun r5 =>
      (cond r5.1.1
      ((f34 r2.1.1 r4.1.1).bind fun r6 =>
       (k ((r6.1.1, ()), ())))
      (k ((false, ()), ()))))
     (k ((false, ()), ())))
    (k ((false, ()), ())))))))) else none))))
noncomputable def f4 (a0 : List (Bool × (List Int × Unit))) (a1 : List Int) (a2 : Int) : Option ((Bool × Unit) × (Unit)) := f4_k a0 a1 a2 some
noncomputable def f35_k {R : Type} (a0 : List Int) (a1 : Int) (k : (List Int × Int × Unit) × (Unit) → Option R) : Option R :=
 ((f30 a0 a1).bind fun r0 =>
 (cond (r0.1.2.1 != (0 : Int))
 (k (([], (r0.1.2.1, ())), ()))
 (cond (((List.length r0.1.1 : Nat) : Int) == (0 : Int))
  (k (([], ((0 : Int), ())), ()))
  (cond (decide (((List.length r0.1.1 : Nat) : Int) > (1 : Int)))
   (k (([], ((20 : Int), ())), ()))
   (if (0 : Int) ≤ (0 : Int) ∧ (0 : Int) < ((List.length r0.1.1 : Nat) : Int) then (cond (List.getD r0.1.1 0 (false, (([] : List Int), ()))).1
    (k (([], ((20 : Int), ())), ()))
    (if (0 : Int) ≤ (0 : Int) ∧ (0 : Int) < ((List.length r0.1.1 : Nat) : Int) then (k (((List.getD r0.1.1 0 (false, (([] : List Int), ()))).2.1, ((0 : Int), ())), ())) else none)) else none)))))
noncomputable def f35 (a0 : List Int) (a1 : Int) : Option ((List Int × Int × Unit) × (Unit)) := f35_k a0 a1 some
abbrev f5_l10_X := (Int × Int)
abbrev f5_l10_Y := (Int)
noncomputable def f5_l10_k {R : Type} (a0 : Int) (a1 : Int) (a2 : List Int) (a3 : Int) (a4 : List (Bool × (List Int × Unit))) (a5 : Int) (a6 : List (Bool × (List Int × Unit))) (a7 : Int) (a8 : Int) (a9 : List Int) (a10 : List Int) (kin : f5_l10_X → Option R) (k0 : Int → Option R) : Option R :=
 (cond (decide (a8 < a7))
 (if (0 : Int) ≤ a8 ∧ a8 < ((List.length a6 : Nat) : Int) then (cond (List.getD a6 (Int.toNat a8) (false, (([] : List Int), ()))).1
  (let v5 : Int := (IntKind.i64.wrap (a8 + (1 : Int)))
   (kin ((20 : Int), v5)))
  (let v6 : Int := (IntKind.i64.wrap (a8 + (1 : Int)))
   (kin (a5, v6)))) else none)
 (k0 a5))
noncomputable def f5_l10_g (a0 : Int) (a1 : Int) (a2 : List Int) (a3 : Int) (a4 : List (Bool × (List Int × Unit))) (a6 : List (Bool × (List Int × Unit))) (a7 : Int) (a9 : List Int) (a10 : List Int) (x : f5_l10_X) : Option (f5_l10_X ⊕ f5_l10_Y) := f5_l10_k a0 a1 a2 a3 a4 x.1 a6 a7 x.2 a9 a10 (fun x => some (.inl x)) (fun y => some (.inr y))
noncomputable def f5_l10 (a0 : Int) (a1 : Int) (a2 : List Int) (a3 : Int) (a4 : List (Bool × (List Int × Unit))) (a6 : List (Bool × (List Int × Unit))) (a7 : Int) (a9 : List Int) (a10 : List Int) (x : f5_l10_X) : Option f5_l10_Y := loopO (f5_l10_g a0 a1 a2 a3 a4 a6 a7 a9 a10) x
noncomputable def f5_k {R : Type} (a0 : List Int) (a1 : List Int) (a2 : Int) (k : (Bool × Unit) × (Unit) → Option R) : Option R :=
 ((f28 [(255 : Int)] (10 : Int)).bind fun r0 =>
 (cond (r0.1.2.1 != (0 : Int))
 (k ((false, ()), ()))
 (cond (((List.length r0.1.1 : Nat) : Int) != (9 : Int))
  (k ((false, ()), ()))
  (if (0 : Int) ≤ (0 : Int) ∧ (0 : Int) < ((List.length r0.1.1 : Nat) : Int) then (cond ((List.getD r0.1.1 0 (0 : Int)) != (20 : Int))
   (k ((false, ()), ()))
   ((f28 a0 a2).bind fun r1 =>
    ((f31 [(false, (a0, ()))] a2).bind fun r2 =>
    ((f35 a1 a2).bind fun r3 =>
    ((f32 a1 a2).bind fun r4 =>
    ((f5_l10 r1.1.2.1 r2.1.2.1 r3.1.1 r3.1.2.1 r4.1.1 r4.1.1 ((List.length r4.1.1 : Nat) : Int) r1.1.1 r2.1.1 (r4.1.2.1, (0 : Int))).bind fun y7 =>
    (cond (y7 == (0 : Int))
    (cond (decide (((List.length r4.1.1 : Nat) : Int) > (0 : Int)))
     (if (0 : Int) ≤ (0 : Int) ∧ (0 : Int) < ((List.length r4.1.1 : Nat) : Int) then (cond (r1.1.2.1 == r2.1.2.1)
      ((f33 r1.1.1 r2.1.1).bind fun r8 =>
       (cond r8.1.1
       (cond (r3.1.2.1 == y7)
        ((f24 r3.1.1 (List.getD r4.1.1 0 (false, (([] : List Int), ()))).2.1).bind fun r9 =>
         (k ((r9.1.1, ()), ())))
        (k ((false, ()), ())))
       (k ((false, ()), ()))))
      (k ((false, ()), ()))) else none)
     (cond (r1.1.2.1 == r2.1.2.1)
      ((f33 r1.1.1 r2.1.1).bind fun r10 =>
       (cond r10.1.1
       (cond (r3.1.2.1 == y7)
        ((f24 r3.1.1 []).bind fun r11 =>
         (k ((r11.1.1, ()), ())))
        (k ((false, ()), ())))
       (k ((false, ()), ()))))
      (k ((false, ()), ()))))
    (cond (r1.1.2.1 == r2.1.2.1)
     ((f33 r1.1.1 r2.1.1).bind fun r12 =>
      (cond r12.1.1
      (cond (r3.1.2.1 == y7)
       ((f24 r3.1.1 []).bind fun r13 =>
        (k ((r13.1.1, ()), ())))
       (k ((false, ()), ())))
      (k ((false, ()), ()))))
     (k ((false, ()), ())))))))))) else none))))
noncomputable def f5 (a0 : List Int) (a1 : List Int) (a2 : Int) : Option ((Bool × Unit) × (Unit)) := f5_k a0 a1 a2 some
end Go.Proofs.Ytlgbhaigpecdoaa.V
