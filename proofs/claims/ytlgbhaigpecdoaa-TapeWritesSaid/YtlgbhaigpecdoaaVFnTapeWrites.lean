/- Printed. -/
import Derived.Test.YtlgbhaigpecdoaaVEok
set_option linter.unusedVariables false
set_option linter.unusedSimpArgs false
set_option maxRecDepth 100000
namespace Go.Proofs.Ytlgbhaigpecdoaa.V
open Go
/-! bakelite/tape.Check -/
noncomputable def f43_code : Code := (Try.f43.body).getD .skip
noncomputable def f43_l4_sk : SkS := ⟨[.undef, .undef, .undef, .undef, .undef, .undef, .undef, .undef, .con (.slc (.pair (.int .i64) (.pair (.slc (.int .u8)) .unit))), .con (.int .i64), .con (.int .i64), .undef, .undef, .undef, .undef, .undef, .undef, .undef, .undef, .undef, .undef, .undef, .undef, .undef, .undef, .undef, .undef], []⟩
noncomputable def f43_l4_o0 : SkS := ⟨[.undef, .undef, .con (.int .i64), .undef, .undef, .undef, .undef, .undef, .undef, .undef, .undef, .undef, .undef, .undef, .undef, .undef, .undef, .undef, .undef, .undef, .undef, .undef, .undef, .undef, .undef, .undef, .undef], []⟩
noncomputable def f43_l4_o1 : SkS := ⟨[.undef, .undef, .undef, .undef, .undef, .undef, .undef, .undef, .undef, .undef, .undef, .undef, .undef, .undef, .undef, .undef, .undef, .undef, .undef, .undef, .undef, .undef, .undef, .undef, .undef, .undef, .undef], []⟩
noncomputable def f43_l4_outs : List Way := [⟨.ret, [], f43_l4_o0⟩, ⟨(.exit 0), [], f43_l4_o1⟩]
abbrev f43_l4_C := (List (Int × (List Int × Unit)) × Int)
abbrev f43_l4_X := Int
abbrev f43_l4_Y := (Int) ⊕ (Unit)
noncomputable def f43_l4_con (t : f43_l4_sk.T) : f43_l4_C := (t.1.2.2.2.2.2.2.2.2.1, t.1.2.2.2.2.2.2.2.2.2.1)
noncomputable def f43_l4_get (t : f43_l4_sk.T) : f43_l4_X := t.1.2.2.2.2.2.2.2.2.2.2.1
noncomputable def f43_l4_put (c : f43_l4_C) (x : f43_l4_X) : f43_l4_sk.T := (((), ((), ((), ((), ((), ((), ((), ((), (c.1, (c.2, (x, ((), ((), ((), ((), ((), ((), ((), ((), ((), ((), ((), ((), ((), ((), ((), ((), ()))))))))))))))))))))))))))), ())
theorem f43_l4_pg (t : f43_l4_sk.T) : f43_l4_put (f43_l4_con t) (f43_l4_get t) = t := by kernel_rfl
noncomputable def f43_l4_w0 (c : f43_l4_C) (y : Int) : f43_l4_o0.T := (((), ((), (y, ((), ((), ((), ((), ((), ((), ((), ((), ((), ((), ((), ((), ((), ((), ((), ((), ((), ((), ((), ((), ((), ((), ((), ((), ()))))))))))))))))))))))))))), ())
noncomputable def f43_l4_w1 (c : f43_l4_C) (y : Unit) : f43_l4_o1.T := (((), ((), ((), ((), ((), ((), ((), ((), ((), ((), ((), ((), ((), ((), ((), ((), ((), ((), ((), ((), ((), ((), ((), ((), ((), ((), ((), ()))))))))))))))))))))))))))), ())
noncomputable def f43_l4_out (c : f43_l4_C) (y : f43_l4_Y) : OutV f43_l4_outs := (Sum.elim (fun y => (.inl (f43_l4_w0 c y))) (fun y => (.inr (.inl (f43_l4_w1 c y))))) y
noncomputable def f43_l4_k {R : Type} (a0 : List (Int × (List Int × Unit))) (a1 : Int) (a2 : Int) (kin : f43_l4_X → Option R) (k0 : Int → Option R) (k1 : Unit → Option R) : Option R :=
 (cond (decide (a2 < a1))
 (if (0 : Int) ≤ a2 ∧ a2 < ((List.length a0 : Nat) : Int) then (cond (decide (((List.length (List.getD a0 (Int.toNat a2) ((0 : Int), (([] : List Int), ()))).2.1 : Nat) : Int) > (256 : Int)))
  (k0 (2 : Int))
  (cond (decide ((List.getD a0 (Int.toNat a2) ((0 : Int), (([] : List Int), ()))).1 < (4 : Int)))
   (k0 (1 : Int))
   (cond (decide ((List.getD a0 (Int.toNat a2) ((0 : Int), (([] : List Int), ()))).1 > (1000 : Int)))
    (k0 (1 : Int))
    (let v0 : Int := (IntKind.i64.wrap (a2 + (1 : Int)))
     (kin v0))))) else none)
 (k1 ()))
noncomputable def f43_l4_g (a0 : List (Int × (List Int × Unit))) (a1 : Int) (x : f43_l4_X) : Option (f43_l4_X ⊕ f43_l4_Y) := f43_l4_k a0 a1 x (fun x => some (.inl x)) (fun y => some (.inr (.inl y))) (fun y => some (.inr (.inr y)))
noncomputable def f43_l4 (a0 : List (Int × (List Int × Unit))) (a1 : Int) (x : f43_l4_X) : Option f43_l4_Y := loopO (f43_l4_g a0 a1) x
noncomputable def f43_l4_nd : Node := { nils := [], sk := f43_l4_sk, outs := f43_l4_outs, Y := f43_l4_Y, L := fun t => f43_l4 ((f43_l4_con t).1) ((f43_l4_con t).2) (f43_l4_get t), out := fun t y => f43_l4_out (f43_l4_con t) y, disp := fun t y K => (Sum.elim (fun y => K .ret (f43_l4_o0.fill (f43_l4_w0 (f43_l4_con t) y))) (fun y => K (.exit 0) (f43_l4_o1.fill (f43_l4_w1 (f43_l4_con t) y)))) y }
noncomputable def f43_fx : Fx := { E := env, T := [], H := [], O := [], nodes := [((true, 4), f43_l4_nd)] }
noncomputable def f43_l4_b : Code := (loops f43_code).getD 0 .skip
theorem f43_l4_r (c : f43_l4_C) (x : f43_l4_X) : roundS f43_fx f43_l4_b f43_l4_nd (f43_l4_put c x) = f43_l4_k c.1 c.2 x (fun x => some (.inl (f43_l4_put c x))) (fun y => some (.inr (.inl (f43_l4_w0 c y)))) (fun y => some (.inr (.inr (.inl (f43_l4_w1 c y))))) := by kernel_rfl
theorem f43_l4_n {R : Type} (a0 : List (Int × (List Int × Unit))) (a1 : Int) (a2 : Int) (kin : f43_l4_X → Option R) (k0 : Int → Option R) (k1 : Unit → Option R) : f43_l4_k a0 a1 a2 kin k0 k1 = (f43_l4_g a0 a1 a2).bind (Sum.elim kin (Sum.elim k0 k1)) := by
  simp only [f43_l4_g, f43_l4_k, cond_bind, ite_bind, bind_bind, some_bind, none_bind, elim_bind, Sum.elim_inl, Sum.elim_inr]
theorem f43_l4_ok : LoopOk f43_fx f43_l4_b f43_l4_nd := loop_ok f43_l4_con f43_l4_get f43_l4_put f43_l4_pg (fun c => f43_l4_g c.1 c.2) f43_l4_out (fun t y => rfl) (by intro R t y K; rcases y with y | y <;> rfl) (fun c x => by
  refine (f43_l4_r c x).trans ((f43_l4_n _ _ _ _ _ _).trans ?_)
  first
  | rfl
  | congr 1
    funext s
    rcases s with s | s | s <;> rfl) (fun t => rfl)
noncomputable def f43_k {R : Type} (a0 : List (Int × (List Int × Unit))) (k : (Int × Unit) × (Unit) → Option R) : Option R :=
 (cond (decide (((List.length a0 : Nat) : Int) > (8 : Int)))
 (k (((2 : Int), ()), ()))
 ((f43_l4 a0 ((List.length a0 : Nat) : Int) (0 : Int)).bind fun y1 =>
  ((Sum.elim (fun z2 =>
  (k ((z2, ()), ())))
  (fun z3 =>
  (k (((0 : Int), ()), ())))) y1)))
noncomputable def f43 (a0 : List (Int × (List Int × Unit))) : Option ((Int × Unit) × (Unit)) := f43_k a0 some
noncomputable def f43_sm : Sm := ⟨[.ro (.slc (.pair (.int .i64) (.pair (.slc (.int .u8)) .unit)))], [((.int .i64), .ro)], fun x => f43 x.1⟩
theorem f43_m (x : ArgT [.ro (.slc (.pair (.int .i64) (.pair (.slc (.int .u8)) .unit)))]) : codeS f43_fx f43_code (start [.ro (.slc (.pair (.int .i64) (.pair (.slc (.int .u8)) .unit)))] [] x 27) (finK env [.tmp 2] [.ro (.slc (.pair (.int .i64) (.pair (.slc (.int .u8)) .unit)))] [((.int .i64), .ro)]) = f43_k x.1 (fun r => some (r, [])) := by kernel_rfl
theorem f43_n {R : Type} (a0 : List (Int × (List Int × Unit))) (k : (Int × Unit) × (Unit) → Option R) : f43_k a0 k = (f43 a0).bind k := by
  simp only [f43, f43_k, cond_bind, ite_bind, bind_bind, some_bind, none_bind, elim_bind]
theorem f43_f : FnOk Try.prog 43 := ⟨Try.f43, Try.func43, by kernel_rfl, by kernel_rfl⟩
theorem f43_ok : SmOk Try.prog 43 f43_sm :=
  sum_of (c := f43_fx) (fn := Try.f43) (code := f43_code) (sm := f43_sm) mixed (env_ok env_envB) (TabsOk.all trivial) Try.func43 (by kernel_rfl)
   ((LoopsOk.of (l := [f43_l4_b]) (by kernel_rfl) ⟨node_is (by kernel_rfl) f43_l4_ok, trivial⟩))
   (no_tails (by kernel_rfl))
   (fun ks x hl => by
    have hk : ks = [] := List.length_eq_zero_iff.1 hl
    subst hk
    exact (f43_m x).trans (f43_n _ _))
/-! bakelite/crc.Xor -/
noncomputable def f99_code : Code := (Try.f99.body).getD .skip
noncomputable def f99_l3_sk : SkS := ⟨[.undef, .undef, .undef, .con (.int .i64), .undef, .undef, .con (.slc (.int .u8)), .con (.int .i64), .con (.int .i64), .undef, .undef, .undef, .undef, .undef, .undef, .undef, .undef, .undef], []⟩
noncomputable def f99_l3_o0 : SkS := ⟨[.undef, .undef, .undef, .con (.int .i64), .undef, .undef, .undef, .undef, .undef, .undef, .undef, .undef, .undef, .undef, .undef, .undef, .undef, .undef], []⟩
noncomputable def f99_l3_outs : List Way := [⟨(.exit 0), [], f99_l3_o0⟩]
abbrev f99_l3_C := (List Int × Int)
abbrev f99_l3_X := (Int × Int)
abbrev f99_l3_Y := (Int)
noncomputable def f99_l3_con (t : f99_l3_sk.T) : f99_l3_C := (t.1.2.2.2.2.2.2.1, t.1.2.2.2.2.2.2.2.1)
noncomputable def f99_l3_get (t : f99_l3_sk.T) : f99_l3_X := (t.1.2.2.2.1, t.1.2.2.2.2.2.2.2.2.1)
noncomputable def f99_l3_put (c : f99_l3_C) (x : f99_l3_X) : f99_l3_sk.T := (((), ((), ((), (x.1, ((), ((), (c.1, (c.2, (x.2, ((), ((), ((), ((), ((), ((), ((), ((), ((), ())))))))))))))))))), ())
theorem f99_l3_pg (t : f99_l3_sk.T) : f99_l3_put (f99_l3_con t) (f99_l3_get t) = t := by kernel_rfl
noncomputable def f99_l3_w0 (c : f99_l3_C) (y : Int) : f99_l3_o0.T := (((), ((), ((), (y, ((), ((), ((), ((), ((), ((), ((), ((), ((), ((), ((), ((), ((), ((), ())))))))))))))))))), ())
noncomputable def f99_l3_out (c : f99_l3_C) (y : f99_l3_Y) : OutV f99_l3_outs := (fun y => (.inl (f99_l3_w0 c y))) y
noncomputable def f99_l3_k {R : Type} (a0 : Int) (a1 : List Int) (a2 : Int) (a3 : Int) (kin : f99_l3_X → Option R) (k0 : Int → Option R) : Option R :=
 (cond (decide (a3 < a2))
 (if (0 : Int) ≤ a3 ∧ a3 < ((List.length a1 : Nat) : Int) then (let v0 : Int := (IntKind.i64.wrap (List.getD a1 (Int.toNat a3) (0 : Int)))
  (let v1 : Int := (bitop IntKind.i64 .xor a0 v0)
  (let v2 : Int := (IntKind.i64.wrap (a3 + (1 : Int)))
  (kin (v1, v2))))) else none)
 (k0 a0))
noncomputable def f99_l3_g (a1 : List Int) (a2 : Int) (x : f99_l3_X) : Option (f99_l3_X ⊕ f99_l3_Y) := f99_l3_k x.1 a1 a2 x.2 (fun x => some (.inl x)) (fun y => some (.inr y))
noncomputable def f99_l3 (a1 : List Int) (a2 : Int) (x : f99_l3_X) : Option f99_l3_Y := loopO (f99_l3_g a1 a2) x
noncomputable def f99_l3_nd : Node := { nils := [], sk := f99_l3_sk, outs := f99_l3_outs, Y := f99_l3_Y, L := fun t => f99_l3 ((f99_l3_con t).1) ((f99_l3_con t).2) (f99_l3_get t), out := fun t y => f99_l3_out (f99_l3_con t) y, disp := fun t y K => (fun y => K (.exit 0) (f99_l3_o0.fill (f99_l3_w0 (f99_l3_con t) y))) y }
noncomputable def f99_fx : Fx := { E := env, T := [], H := [], O := [], nodes := [((true, 3), f99_l3_nd)] }
noncomputable def f99_l3_b : Code := (loops f99_code).getD 0 .skip
theorem f99_l3_r (c : f99_l3_C) (x : f99_l3_X) : roundS f99_fx f99_l3_b f99_l3_nd (f99_l3_put c x) = f99_l3_k x.1 c.1 c.2 x.2 (fun x => some (.inl (f99_l3_put c x))) (fun y => some (.inr (.inl (f99_l3_w0 c y)))) := by kernel_rfl
theorem f99_l3_n {R : Type} (a0 : Int) (a1 : List Int) (a2 : Int) (a3 : Int) (kin : f99_l3_X → Option R) (k0 : Int → Option R) : f99_l3_k a0 a1 a2 a3 kin k0 = (f99_l3_g a1 a2 (a0, a3)).bind (Sum.elim kin k0) := by
  simp only [f99_l3_g, f99_l3_k, cond_bind, ite_bind, bind_bind, some_bind, none_bind, elim_bind, Sum.elim_inl, Sum.elim_inr]
theorem f99_l3_ok : LoopOk f99_fx f99_l3_b f99_l3_nd := loop_ok f99_l3_con f99_l3_get f99_l3_put f99_l3_pg (fun c => f99_l3_g c.1 c.2) f99_l3_out (fun t y => rfl) (fun t y K => rfl) (fun c x => by
  refine (f99_l3_r c x).trans ((f99_l3_n _ _ _ _ _ _).trans ?_)
  first
  | rfl
  | congr 1
    funext s
    rcases s with s | s <;> rfl) (fun t => rfl)
noncomputable def f99_k {R : Type} (a0 : List Int) (k : (Int × Unit) × (Unit) → Option R) : Option R :=
 ((f99_l3 a0 ((List.length a0 : Nat) : Int) ((0 : Int), (0 : Int))).bind fun y3 =>
 (k ((y3, ()), ())))
noncomputable def f99 (a0 : List Int) : Option ((Int × Unit) × (Unit)) := f99_k a0 some
noncomputable def f99_sm : Sm := ⟨[.ro (.slc (.int .u8))], [((.int .i64), .ro)], fun x => f99 x.1⟩
theorem f99_m (x : ArgT [.ro (.slc (.int .u8))]) : codeS f99_fx f99_code (start [.ro (.slc (.int .u8))] [] x 18) (finK env [.tmp 2] [.ro (.slc (.int .u8))] [((.int .i64), .ro)]) = f99_k x.1 (fun r => some (r, [])) := by kernel_rfl
theorem f99_n {R : Type} (a0 : List Int) (k : (Int × Unit) × (Unit) → Option R) : f99_k a0 k = (f99 a0).bind k := by
  simp only [f99, f99_k, cond_bind, ite_bind, bind_bind, some_bind, none_bind, elim_bind]
theorem f99_f : FnOk Try.prog 99 := ⟨Try.f99, Try.func99, by kernel_rfl, by kernel_rfl⟩
theorem f99_ok : SmOk Try.prog 99 f99_sm :=
  sum_of (c := f99_fx) (fn := Try.f99) (code := f99_code) (sm := f99_sm) mixed (env_ok env_envB) (TabsOk.all trivial) Try.func99 (by kernel_rfl)
   ((LoopsOk.of (l := [f99_l3_b]) (by kernel_rfl) ⟨node_is (by kernel_rfl) f99_l3_ok, trivial⟩))
   (no_tails (by kernel_rfl))
   (fun ks x hl => by
    have hk : ks = [] := List.length_eq_zero_iff.1 hl
    subst hk
    exact (f99_m x).trans (f99_n _ _))
/-! bakelite/tape.Write -/
noncomputable def f41_code : Code := (Try.f41.body).getD .skip
noncomputable def f41_l9_sk : SkS := ⟨[.undef, .undef, .undef, .undef, .undef, .ref 95 [], .undef, .ptr 112 [], .undef, .undef, .undef, .undef, .undef, .undef, .undef, .undef, .undef, .con (.slc (.pair (.int .i64) (.pair (.slc (.int .u8)) .unit))), .con (.int .i64), .con (.int .i64), .undef, .undef, .undef, .con (.int .i64), .undef, .undef, .undef, .undef, .undef, .undef, .undef, .undef, .undef, .undef, .undef, .undef, .undef, .undef, .undef, .undef, .undef, .undef, .undef, .undef, .undef, .undef, .undef, .undef, .undef, .undef, .undef, .undef, .undef, .undef, .undef, .undef, .undef, .undef, .undef, .undef, .undef, .undef, .undef, .undef, .undef, .undef, .undef, .undef, .undef, .undef, .undef, .undef, .undef, .undef, .undef, .undef, .undef, .undef, .undef, .undef, .undef, .undef, .undef, .undef, .undef], [(95, ⟨none, (.slc (.int .i64)), (.own .ro)⟩), (112, ⟨some 61, (.pair (.int .i64) (.pair (.slc (.int .u8)) .unit)), .ro⟩)]⟩
noncomputable def f41_l9_o0 : SkS := ⟨[.undef, .undef, .undef, .undef, .undef, .ref 95 [], .undef, .ptr 112 [], .undef, .undef, .undef, .undef, .undef, .undef, .undef, .undef, .undef, .con (.slc (.pair (.int .i64) (.pair (.slc (.int .u8)) .unit))), .con (.int .i64), .con (.int .i64), .undef, .undef, .undef, .undef, .undef, .undef, .undef, .undef, .undef, .undef, .undef, .undef, .undef, .undef, .undef, .undef, .undef, .undef, .undef, .undef, .undef, .undef, .undef, .undef, .undef, .undef, .undef, .undef, .undef, .undef, .undef, .undef, .undef, .undef, .undef, .undef, .undef, .undef, .undef, .undef, .undef, .undef, .undef, .undef, .undef, .undef, .undef, .undef, .undef, .undef, .undef, .undef, .undef, .undef, .undef, .undef, .undef, .undef, .undef, .undef, .undef, .undef, .undef, .undef, .undef], [(95, ⟨none, (.slc (.int .i64)), (.own .ro)⟩), (112, ⟨some 61, (.pair (.int .i64) (.pair (.slc (.int .u8)) .unit)), .ro⟩)]⟩
noncomputable def f41_l9_outs : List Way := [⟨(.exit 2), [], f41_l9_o0⟩]
abbrev f41_l9_C := (List (Int × (List Int × Unit)) × Int × Int × (Int × (List Int × Unit)) × (Option Nat))
abbrev f41_l9_X := (Int × List Int)
abbrev f41_l9_Y := (List Int)
noncomputable def f41_l9_con (t : f41_l9_sk.T) : f41_l9_C := (t.1.2.2.2.2.2.2.2.2.2.2.2.2.2.2.2.2.2.1, t.1.2.2.2.2.2.2.2.2.2.2.2.2.2.2.2.2.2.2.1, t.1.2.2.2.2.2.2.2.2.2.2.2.2.2.2.2.2.2.2.2.1, t.2.2.1.1, t.2.2.1.2)
noncomputable def f41_l9_get (t : f41_l9_sk.T) : f41_l9_X := (t.1.2.2.2.2.2.2.2.2.2.2.2.2.2.2.2.2.2.2.2.2.2.2.2.1, t.2.1.1)
noncomputable def f41_l9_put (c : f41_l9_C) (x : f41_l9_X) : f41_l9_sk.T := (((), ((), ((), ((), ((), ((), ((), ((), ((), ((), ((), ((), ((), ((), ((), ((), ((), (c.1, (c.2.1, (c.2.2.1, ((), ((), ((), (x.1, ((), ((), ((), ((), ((), ((), ((), ((), ((), ((), ((), ((), ((), ((), ((), ((), ((), ((), ((), ((), ((), ((), ((), ((), ((), ((), ((), ((), ((), ((), ((), ((), ((), ((), ((), ((), ((), ((), ((), ((), ((), ((), ((), ((), ((), ((), ((), ((), ((), ((), ((), ((), ((), ((), ((), ((), ((), ((), ((), ((), ((), ()))))))))))))))))))))))))))))))))))))))))))))))))))))))))))))))))))))))))))))))))))))), ((x.2, ()), ((c.2.2.2.1, c.2.2.2.2), ())))
theorem f41_l9_pg (t : f41_l9_sk.T) : f41_l9_put (f41_l9_con t) (f41_l9_get t) = t := by kernel_rfl
noncomputable def f41_l9_w0 (c : f41_l9_C) (y : List Int) : f41_l9_o0.T := (((), ((), ((), ((), ((), ((), ((), ((), ((), ((), ((), ((), ((), ((), ((), ((), ((), (c.1, (c.2.1, (c.2.2.1, ((), ((), ((), ((), ((), ((), ((), ((), ((), ((), ((), ((), ((), ((), ((), ((), ((), ((), ((), ((), ((), ((), ((), ((), ((), ((), ((), ((), ((), ((), ((), ((), ((), ((), ((), ((), ((), ((), ((), ((), ((), ((), ((), ((), ((), ((), ((), ((), ((), ((), ((), ((), ((), ((), ((), ((), ((), ((), ((), ((), ((), ((), ((), ((), ((), ()))))))))))))))))))))))))))))))))))))))))))))))))))))))))))))))))))))))))))))))))))))), ((y, ()), ((c.2.2.2.1, c.2.2.2.2), ())))
noncomputable def f41_l9_out (c : f41_l9_C) (y : f41_l9_Y) : OutV f41_l9_outs := (fun y => (.inl (f41_l9_w0 c y))) y
noncomputable def f41_l9_k {R : Type} (a0 : List (Int × (List Int × Unit))) (a1 : Int) (a2 : Int) (a3 : Int) (a4 : List Int) (a5 : (Int × (List Int × Unit))) (kin : f41_l9_X → Option R) (k0 : List Int → Option R) : Option R :=
 (cond (decide (a3 < (16 : Int)))
 (let v1 : Int := (IntKind.i64.wrap ((8 : Int) * a5.1))
  (if (List.length a4 + 1) * 8 ≤ most ∧ 0 < 8 ∧ 0 < 1 then (let r2 : List Int := (a4 ++ [v1])
  (let v3 : Int := (IntKind.i64.wrap (a3 + (1 : Int)))
  (kin (v3, r2)))) else none))
 (k0 a4))
noncomputable def f41_l9_g (a0 : List (Int × (List Int × Unit))) (a1 : Int) (a2 : Int) (a5 : (Int × (List Int × Unit))) (x : f41_l9_X) : Option (f41_l9_X ⊕ f41_l9_Y) := f41_l9_k a0 a1 a2 x.1 x.2 a5 (fun x => some (.inl x)) (fun y => some (.inr y))
noncomputable def f41_l9 (a0 : List (Int × (List Int × Unit))) (a1 : Int) (a2 : Int) (a5 : (Int × (List Int × Unit))) (x : f41_l9_X) : Option f41_l9_Y := loopO (f41_l9_g a0 a1 a2 a5) x
noncomputable def f41_l9_nd : Node := { nils := [(5, 95, (.int .i64), .ro)], sk := f41_l9_sk, outs := f41_l9_outs, Y := f41_l9_Y, L := fun t => f41_l9 ((f41_l9_con t).1) ((f41_l9_con t).2.1) ((f41_l9_con t).2.2.1) ((f41_l9_con t).2.2.2.1) (f41_l9_get t), out := fun t y => f41_l9_out (f41_l9_con t) y, disp := fun t y K => (fun y => K (.exit 2) (f41_l9_o0.fill (f41_l9_w0 (f41_l9_con t) y))) y }
noncomputable def f41_l17_sk : SkS := ⟨[.undef, .undef, .undef, .undef, .undef, .ref 95 [], .undef, .ptr 112 [], .undef, .con (.int .u8), .con (.int .i64), .undef, .undef, .undef, .undef, .undef, .undef, .con (.slc (.pair (.int .i64) (.pair (.slc (.int .u8)) .unit))), .con (.int .i64), .con (.int .i64), .undef, .undef, .undef, .undef, .undef, .undef, .undef, .undef, .undef, .undef, .undef, .undef, .undef, .undef, .undef, .undef, .undef, .undef, .undef, .undef, .undef, .undef, .undef, .undef, .undef, .undef, .undef, .undef, .undef, .undef, .undef, .undef, .undef, .undef, .undef, .undef, .ref 896 [], .con (.int .i64), .con (.int .i64), .undef, .undef, .undef, .undef, .undef, .undef, .undef, .undef, .undef, .undef, .undef, .undef, .undef, .undef, .undef, .undef, .undef, .undef, .undef, .undef, .undef, .undef, .undef, .undef, .undef, .undef], [(95, ⟨none, (.slc (.int .i64)), (.own .ro)⟩), (112, ⟨some 61, (.pair (.int .i64) (.pair (.slc (.int .u8)) .unit)), .ro⟩), (896, ⟨none, (.slc (.int .u8)), (.own .ro)⟩)]⟩
noncomputable def f41_l17_o0 : SkS := ⟨[.undef, .undef, .undef, .undef, .undef, .ref 95 [], .undef, .ptr 112 [], .undef, .undef, .undef, .undef, .undef, .undef, .undef, .undef, .undef, .con (.slc (.pair (.int .i64) (.pair (.slc (.int .u8)) .unit))), .con (.int .i64), .con (.int .i64), .undef, .undef, .undef, .undef, .undef, .undef, .undef, .undef, .undef, .undef, .undef, .undef, .undef, .undef, .undef, .undef, .undef, .undef, .undef, .undef, .undef, .undef, .undef, .undef, .undef, .undef, .undef, .undef, .undef, .undef, .undef, .undef, .undef, .undef, .undef, .undef, .ref 896 [], .con (.int .i64), .con (.int .i64), .undef, .undef, .undef, .undef, .undef, .undef, .undef, .undef, .undef, .undef, .undef, .undef, .undef, .undef, .undef, .undef, .undef, .undef, .undef, .undef, .undef, .undef, .undef, .undef, .undef, .undef], [(95, ⟨none, (.slc (.int .i64)), (.own .ro)⟩), (112, ⟨some 61, (.pair (.int .i64) (.pair (.slc (.int .u8)) .unit)), .ro⟩), (896, ⟨none, (.slc (.int .u8)), (.own .ro)⟩)]⟩
noncomputable def f41_l17_outs : List Way := [⟨(.exit 6), [], f41_l17_o0⟩]
abbrev f41_l17_C := (Int × List (Int × (List Int × Unit)) × Int × Int × Int × Int × (Int × (List Int × Unit)) × List Int × (Option Nat))
abbrev f41_l17_X := (Int × List Int)
abbrev f41_l17_Y := (List Int)
noncomputable def f41_l17_con (t : f41_l17_sk.T) : f41_l17_C := (t.1.2.2.2.2.2.2.2.2.2.1, t.1.2.2.2.2.2.2.2.2.2.2.2.2.2.2.2.2.2.1, t.1.2.2.2.2.2.2.2.2.2.2.2.2.2.2.2.2.2.2.1, t.1.2.2.2.2.2.2.2.2.2.2.2.2.2.2.2.2.2.2.2.1, t.1.2.2.2.2.2.2.2.2.2.2.2.2.2.2.2.2.2.2.2.2.2.2.2.2.2.2.2.2.2.2.2.2.2.2.2.2.2.2.2.2.2.2.2.2.2.2.2.2.2.2.2.2.2.2.2.2.2.1, t.1.2.2.2.2.2.2.2.2.2.2.2.2.2.2.2.2.2.2.2.2.2.2.2.2.2.2.2.2.2.2.2.2.2.2.2.2.2.2.2.2.2.2.2.2.2.2.2.2.2.2.2.2.2.2.2.2.2.2.1, t.2.2.1.1, t.2.2.2.1.1, t.2.2.1.2)
noncomputable def f41_l17_get (t : f41_l17_sk.T) : f41_l17_X := (t.1.2.2.2.2.2.2.2.2.2.2.1, t.2.1.1)
noncomputable def f41_l17_put (c : f41_l17_C) (x : f41_l17_X) : f41_l17_sk.T := (((), ((), ((), ((), ((), ((), ((), ((), ((), (c.1, (x.1, ((), ((), ((), ((), ((), ((), (c.2.1, (c.2.2.1, (c.2.2.2.1, ((), ((), ((), ((), ((), ((), ((), ((), ((), ((), ((), ((), ((), ((), ((), ((), ((), ((), ((), ((), ((), ((), ((), ((), ((), ((), ((), ((), ((), ((), ((), ((), ((), ((), ((), ((), ((), (c.2.2.2.2.1, (c.2.2.2.2.2.1, ((), ((), ((), ((), ((), ((), ((), ((), ((), ((), ((), ((), ((), ((), ((), ((), ((), ((), ((), ((), ((), ((), ((), ((), ((), ((), ()))))))))))))))))))))))))))))))))))))))))))))))))))))))))))))))))))))))))))))))))))))), ((x.2, ()), ((c.2.2.2.2.2.2.1, c.2.2.2.2.2.2.2.2), ((c.2.2.2.2.2.2.2.1, ()), ()))))
theorem f41_l17_pg (t : f41_l17_sk.T) : f41_l17_put (f41_l17_con t) (f41_l17_get t) = t := by kernel_rfl
noncomputable def f41_l17_w0 (c : f41_l17_C) (y : List Int) : f41_l17_o0.T := (((), ((), ((), ((), ((), ((), ((), ((), ((), ((), ((), ((), ((), ((), ((), ((), ((), (c.2.1, (c.2.2.1, (c.2.2.2.1, ((), ((), ((), ((), ((), ((), ((), ((), ((), ((), ((), ((), ((), ((), ((), ((), ((), ((), ((), ((), ((), ((), ((), ((), ((), ((), ((), ((), ((), ((), ((), ((), ((), ((), ((), ((), ((), (c.2.2.2.2.1, (c.2.2.2.2.2.1, ((), ((), ((), ((), ((), ((), ((), ((), ((), ((), ((), ((), ((), ((), ((), ((), ((), ((), ((), ((), ((), ((), ((), ((), ((), ((), ()))))))))))))))))))))))))))))))))))))))))))))))))))))))))))))))))))))))))))))))))))))), ((y, ()), ((c.2.2.2.2.2.2.1, c.2.2.2.2.2.2.2.2), ((c.2.2.2.2.2.2.2.1, ()), ()))))
noncomputable def f41_l17_out (c : f41_l17_C) (y : f41_l17_Y) : OutV f41_l17_outs := (fun y => (.inl (f41_l17_w0 c y))) y
noncomputable def f41_l17_k {R : Type} (a0 : Int) (a1 : Int) (a2 : List (Int × (List Int × Unit))) (a3 : Int) (a4 : Int) (a5 : Int) (a6 : Int) (a7 : List Int) (a8 : (Int × (List Int × Unit))) (a9 : List Int) (kin : f41_l17_X → Option R) (k0 : List Int → Option R) : Option R :=
 (cond (decide (a1 ≥ (0 : Int)))
 (let v13 : Int := (IntKind.i64.wrap ((2 : Int) * a8.1))
  (if a1 < 0 then none else (let v14 : Int := (Int.fdiv a0 (2 ^ (min (Int.toNat a1) 8)))
  (let v15 : Int := (bitop IntKind.u8 .and v14 (1 : Int))
  (cond (v15 == (1 : Int))
  (let v16 : Int := (IntKind.i64.wrap ((4 : Int) * a8.1))
   (if (List.length a7 + 2) * 8 ≤ most ∧ 0 < 8 ∧ 0 < 1 then (let r17 : List Int := (a7 ++ [v16, v16])
   (let v18 : Int := (IntKind.i64.wrap (a1 - (1 : Int)))
   (kin (v18, r17)))) else none))
  (if (List.length a7 + 2) * 8 ≤ most ∧ 0 < 8 ∧ 0 < 1 then (let r19 : List Int := (a7 ++ [v13, v13])
   (let v20 : Int := (IntKind.i64.wrap (a1 - (1 : Int)))
   (kin (v20, r19)))) else none))))))
 (k0 a7))
noncomputable def f41_l17_g (a0 : Int) (a2 : List (Int × (List Int × Unit))) (a3 : Int) (a4 : Int) (a5 : Int) (a6 : Int) (a8 : (Int × (List Int × Unit))) (a9 : List Int) (x : f41_l17_X) : Option (f41_l17_X ⊕ f41_l17_Y) := f41_l17_k a0 x.1 a2 a3 a4 a5 a6 x.2 a8 a9 (fun x => some (.inl x)) (fun y => some (.inr y))
noncomputable def f41_l17 (a0 : Int) (a2 : List (Int × (List Int × Unit))) (a3 : Int) (a4 : Int) (a5 : Int) (a6 : Int) (a8 : (Int × (List Int × Unit))) (a9 : List Int) (x : f41_l17_X) : Option f41_l17_Y := loopO (f41_l17_g a0 a2 a3 a4 a5 a6 a8 a9) x
noncomputable def f41_l17_nd : Node := { nils := [(5, 95, (.int .i64), .ro)], sk := f41_l17_sk, outs := f41_l17_outs, Y := f41_l17_Y, L := fun t => f41_l17 ((f41_l17_con t).1) ((f41_l17_con t).2.1) ((f41_l17_con t).2.2.1) ((f41_l17_con t).2.2.2.1) ((f41_l17_con t).2.2.2.2.1) ((f41_l17_con t).2.2.2.2.2.1) ((f41_l17_con t).2.2.2.2.2.2.1) ((f41_l17_con t).2.2.2.2.2.2.2.1) (f41_l17_get t), out := fun t y => f41_l17_out (f41_l17_con t) y, disp := fun t y K => (fun y => K (.exit 6) (f41_l17_o0.fill (f41_l17_w0 (f41_l17_con t) y))) y }
noncomputable def f41_l14_sk : SkS := ⟨[.undef, .undef, .undef, .undef, .undef, .ref 95 [], .undef, .ptr 112 [], .undef, .undef, .undef, .undef, .undef, .undef, .undef, .undef, .undef, .con (.slc (.pair (.int .i64) (.pair (.slc (.int .u8)) .unit))), .con (.int .i64), .con (.int .i64), .undef, .undef, .undef, .undef, .undef, .undef, .undef, .undef, .undef, .undef, .undef, .undef, .undef, .undef, .undef, .undef, .undef, .undef, .undef, .undef, .undef, .undef, .undef, .undef, .undef, .undef, .undef, .undef, .undef, .undef, .undef, .undef, .undef, .undef, .undef, .undef, .ref 896 [], .con (.int .i64), .con (.int .i64), .undef, .undef, .undef, .undef, .undef, .undef, .undef, .undef, .undef, .undef, .undef, .undef, .undef, .undef, .undef, .undef, .undef, .undef, .undef, .undef, .undef, .undef, .undef, .undef, .undef, .undef], [(95, ⟨none, (.slc (.int .i64)), (.own .ro)⟩), (112, ⟨some 61, (.pair (.int .i64) (.pair (.slc (.int .u8)) .unit)), .ro⟩), (896, ⟨none, (.slc (.int .u8)), (.own .ro)⟩)]⟩
noncomputable def f41_l14_o0 : SkS := ⟨[.undef, .undef, .undef, .undef, .undef, .ref 95 [], .undef, .undef, .undef, .undef, .undef, .undef, .undef, .undef, .undef, .undef, .undef, .con (.slc (.pair (.int .i64) (.pair (.slc (.int .u8)) .unit))), .con (.int .i64), .con (.int .i64), .undef, .undef, .undef, .undef, .undef, .undef, .undef, .undef, .undef, .undef, .undef, .undef, .undef, .undef, .undef, .undef, .undef, .undef, .undef, .undef, .undef, .undef, .undef, .undef, .undef, .undef, .undef, .undef, .undef, .undef, .undef, .undef, .undef, .undef, .undef, .undef, .undef, .undef, .undef, .undef, .undef, .undef, .undef, .undef, .undef, .undef, .undef, .undef, .undef, .undef, .undef, .undef, .undef, .undef, .undef, .undef, .undef, .undef, .undef, .undef, .undef, .undef, .undef, .undef, .undef], [(95, ⟨none, (.slc (.int .i64)), (.own .ro)⟩)]⟩
noncomputable def f41_l14_outs : List Way := [⟨(.exit 4), [], f41_l14_o0⟩]
abbrev f41_l14_C := (List (Int × (List Int × Unit)) × Int × Int × Int × (Int × (List Int × Unit)) × List Int × (Option Nat))
abbrev f41_l14_X := (Int × List Int)
abbrev f41_l14_Y := (List Int)
noncomputable def f41_l14_con (t : f41_l14_sk.T) : f41_l14_C := (t.1.2.2.2.2.2.2.2.2.2.2.2.2.2.2.2.2.2.1, t.1.2.2.2.2.2.2.2.2.2.2.2.2.2.2.2.2.2.2.1, t.1.2.2.2.2.2.2.2.2.2.2.2.2.2.2.2.2.2.2.2.1, t.1.2.2.2.2.2.2.2.2.2.2.2.2.2.2.2.2.2.2.2.2.2.2.2.2.2.2.2.2.2.2.2.2.2.2.2.2.2.2.2.2.2.2.2.2.2.2.2.2.2.2.2.2.2.2.2.2.2.1, t.2.2.1.1, t.2.2.2.1.1, t.2.2.1.2)
noncomputable def f41_l14_get (t : f41_l14_sk.T) : f41_l14_X := (t.1.2.2.2.2.2.2.2.2.2.2.2.2.2.2.2.2.2.2.2.2.2.2.2.2.2.2.2.2.2.2.2.2.2.2.2.2.2.2.2.2.2.2.2.2.2.2.2.2.2.2.2.2.2.2.2.2.2.2.1, t.2.1.1)
noncomputable def f41_l14_put (c : f41_l14_C) (x : f41_l14_X) : f41_l14_sk.T := (((), ((), ((), ((), ((), ((), ((), ((), ((), ((), ((), ((), ((), ((), ((), ((), ((), (c.1, (c.2.1, (c.2.2.1, ((), ((), ((), ((), ((), ((), ((), ((), ((), ((), ((), ((), ((), ((), ((), ((), ((), ((), ((), ((), ((), ((), ((), ((), ((), ((), ((), ((), ((), ((), ((), ((), ((), ((), ((), ((), ((), (c.2.2.2.1, (x.1, ((), ((), ((), ((), ((), ((), ((), ((), ((), ((), ((), ((), ((), ((), ((), ((), ((), ((), ((), ((), ((), ((), ((), ((), ((), ((), ()))))))))))))))))))))))))))))))))))))))))))))))))))))))))))))))))))))))))))))))))))))), ((x.2, ()), ((c.2.2.2.2.1, c.2.2.2.2.2.2), ((c.2.2.2.2.2.1, ()), ()))))
theorem f41_l14_pg (t : f41_l14_sk.T) : f41_l14_put (f41_l14_con t) (f41_l14_get t) = t := by kernel_rfl
noncomputable def f41_l14_w0 (c : f41_l14_C) (y : List Int) : f41_l14_o0.T := (((), ((), ((), ((), ((), ((), ((), ((), ((), ((), ((), ((), ((), ((), ((), ((), ((), (c.1, (c.2.1, (c.2.2.1, ((), ((), ((), ((), ((), ((), ((), ((), ((), ((), ((), ((), ((), ((), ((), ((), ((), ((), ((), ((), ((), ((), ((), ((), ((), ((), ((), ((), ((), ((), ((), ((), ((), ((), ((), ((), ((), ((), ((), ((), ((), ((), ((), ((), ((), ((), ((), ((), ((), ((), ((), ((), ((), ((), ((), ((), ((), ((), ((), ((), ((), ((), ((), ((), ((), ()))))))))))))))))))))))))))))))))))))))))))))))))))))))))))))))))))))))))))))))))))))), ((y, ()), ()))
noncomputable def f41_l14_out (c : f41_l14_C) (y : f41_l14_Y) : OutV f41_l14_outs := (fun y => (.inl (f41_l14_w0 c y))) y
noncomputable def f41_l14_k {R : Type} (a0 : List (Int × (List Int × Unit))) (a1 : Int) (a2 : Int) (a3 : Int) (a4 : Int) (a5 : List Int) (a6 : (Int × (List Int × Unit))) (a7 : List Int) (kin : f41_l14_X → Option R) (k0 : List Int → Option R) : Option R :=
 (cond (decide (a4 < a3))
 (if (0 : Int) ≤ a4 ∧ a4 < ((List.length a7 : Nat) : Int) then ((f41_l17 (List.getD a7 (Int.toNat a4) (0 : Int)) a0 a1 a2 a3 a4 a6 a7 ((7 : Int), a5)).bind fun y21 =>
  (let v22 : Int := (IntKind.i64.wrap (a4 + (1 : Int)))
  (kin (v22, y21)))) else none)
 (k0 a5))
noncomputable def f41_l14_g (a0 : List (Int × (List Int × Unit))) (a1 : Int) (a2 : Int) (a3 : Int) (a6 : (Int × (List Int × Unit))) (a7 : List Int) (x : f41_l14_X) : Option (f41_l14_X ⊕ f41_l14_Y) := f41_l14_k a0 a1 a2 a3 x.1 x.2 a6 a7 (fun x => some (.inl x)) (fun y => some (.inr y))
noncomputable def f41_l14 (a0 : List (Int × (List Int × Unit))) (a1 : Int) (a2 : Int) (a3 : Int) (a6 : (Int × (List Int × Unit))) (a7 : List Int) (x : f41_l14_X) : Option f41_l14_Y := loopO (f41_l14_g a0 a1 a2 a3 a6 a7) x
noncomputable def f41_l14_nd : Node := { nils := [(5, 95, (.int .i64), .ro)], sk := f41_l14_sk, outs := f41_l14_outs, Y := f41_l14_Y, L := fun t => f41_l14 ((f41_l14_con t).1) ((f41_l14_con t).2.1) ((f41_l14_con t).2.2.1) ((f41_l14_con t).2.2.2.1) ((f41_l14_con t).2.2.2.2.1) ((f41_l14_con t).2.2.2.2.2.1) (f41_l14_get t), out := fun t y => f41_l14_out (f41_l14_con t) y, disp := fun t y K => (fun y => K (.exit 4) (f41_l14_o0.fill (f41_l14_w0 (f41_l14_con t) y))) y }
noncomputable def f41_l6_sk : SkS := ⟨[.undef, .undef, .undef, .undef, .undef, .ref 95 [], .undef, .undef, .undef, .undef, .undef, .undef, .undef, .undef, .undef, .undef, .undef, .con (.slc (.pair (.int .i64) (.pair (.slc (.int .u8)) .unit))), .con (.int .i64), .con (.int .i64), .undef, .undef, .undef, .undef, .undef, .undef, .undef, .undef, .undef, .undef, .undef, .undef, .undef, .undef, .undef, .undef, .undef, .undef, .undef, .undef, .undef, .undef, .undef, .undef, .undef, .undef, .undef, .undef, .undef, .undef, .undef, .undef, .undef, .undef, .undef, .undef, .undef, .undef, .undef, .undef, .undef, .undef, .undef, .undef, .undef, .undef, .undef, .undef, .undef, .undef, .undef, .undef, .undef, .undef, .undef, .undef, .undef, .undef, .undef, .undef, .undef, .undef, .undef, .undef, .undef], [(95, ⟨none, (.slc (.int .i64)), (.own .ro)⟩)]⟩
noncomputable def f41_l6_o0 : SkS := ⟨[.undef, .undef, .undef, .undef, .undef, .ref 95 [], .undef, .undef, .undef, .undef, .undef, .undef, .undef, .undef, .undef, .undef, .undef, .undef, .undef, .undef, .undef, .undef, .undef, .undef, .undef, .undef, .undef, .undef, .undef, .undef, .undef, .undef, .undef, .undef, .undef, .undef, .undef, .undef, .undef, .undef, .undef, .undef, .undef, .undef, .undef, .undef, .undef, .undef, .undef, .undef, .undef, .undef, .undef, .undef, .undef, .undef, .undef, .undef, .undef, .undef, .undef, .undef, .undef, .undef, .undef, .undef, .undef, .undef, .undef, .undef, .undef, .undef, .undef, .undef, .undef, .undef, .undef, .undef, .undef, .undef, .undef, .undef, .undef, .undef, .undef], [(95, ⟨none, (.slc (.int .i64)), (.own .ro)⟩)]⟩
noncomputable def f41_l6_outs : List Way := [⟨(.exit 0), [], f41_l6_o0⟩]
abbrev f41_l6_C := (List (Int × (List Int × Unit)) × Int)
abbrev f41_l6_X := (Int × List Int)
abbrev f41_l6_Y := (List Int)
noncomputable def f41_l6_con (t : f41_l6_sk.T) : f41_l6_C := (t.1.2.2.2.2.2.2.2.2.2.2.2.2.2.2.2.2.2.1, t.1.2.2.2.2.2.2.2.2.2.2.2.2.2.2.2.2.2.2.1)
noncomputable def f41_l6_get (t : f41_l6_sk.T) : f41_l6_X := (t.1.2.2.2.2.2.2.2.2.2.2.2.2.2.2.2.2.2.2.2.1, t.2.1.1)
noncomputable def f41_l6_put (c : f41_l6_C) (x : f41_l6_X) : f41_l6_sk.T := (((), ((), ((), ((), ((), ((), ((), ((), ((), ((), ((), ((), ((), ((), ((), ((), ((), (c.1, (c.2, (x.1, ((), ((), ((), ((), ((), ((), ((), ((), ((), ((), ((), ((), ((), ((), ((), ((), ((), ((), ((), ((), ((), ((), ((), ((), ((), ((), ((), ((), ((), ((), ((), ((), ((), ((), ((), ((), ((), ((), ((), ((), ((), ((), ((), ((), ((), ((), ((), ((), ((), ((), ((), ((), ((), ((), ((), ((), ((), ((), ((), ((), ((), ((), ((), ((), ((), ()))))))))))))))))))))))))))))))))))))))))))))))))))))))))))))))))))))))))))))))))))))), ((x.2, ()), ()))
theorem f41_l6_pg (t : f41_l6_sk.T) : f41_l6_put (f41_l6_con t) (f41_l6_get t) = t := by kernel_rfl
noncomputable def f41_l6_w0 (c : f41_l6_C) (y : List Int) : f41_l6_o0.T := (((), ((), ((), ((), ((), ((), ((), ((), ((), ((), ((), ((), ((), ((), ((), ((), ((), ((), ((), ((), ((), ((), ((), ((), ((), ((), ((), ((), ((), ((), ((), ((), ((), ((), ((), ((), ((), ((), ((), ((), ((), ((), ((), ((), ((), ((), ((), ((), ((), ((), ((), ((), ((), ((), ((), ((), ((), ((), ((), ((), ((), ((), ((), ((), ((), ((), ((), ((), ((), ((), ((), ((), ((), ((), ((), ((), ((), ((), ((), ((), ((), ((), ((), ((), ((), ()))))))))))))))))))))))))))))))))))))))))))))))))))))))))))))))))))))))))))))))))))))), ((y, ()), ()))
noncomputable def f41_l6_out (c : f41_l6_C) (y : f41_l6_Y) : OutV f41_l6_outs := (fun y => (.inl (f41_l6_w0 c y))) y
noncomputable def f41_l6_k {R : Type} (a0 : List (Int × (List Int × Unit))) (a1 : Int) (a2 : Int) (a3 : List Int) (kin : f41_l6_X → Option R) (k0 : List Int → Option R) : Option R :=
 (cond (decide (a2 < a1))
 (if (0 : Int) ≤ a2 ∧ a2 < ((List.length a0 : Nat) : Int) then ((f41_l9 a0 a1 a2 (List.getD a0 (Int.toNat a2) ((0 : Int), (([] : List Int), ()))) ((0 : Int), a3)).bind fun y4 =>
  (let v5 : Int := (IntKind.i64.wrap ((16 : Int) * (List.getD a0 (Int.toNat a2) ((0 : Int), (([] : List Int), ()))).1))
  (if (List.length y4 + 1) * 8 ≤ most ∧ 0 < 8 ∧ 0 < 1 then (let r6 : List Int := (y4 ++ [v5])
  (let v7 : Int := (Int.fdiv ((List.length (List.getD a0 (Int.toNat a2) ((0 : Int), (([] : List Int), ()))).2.1 : Nat) : Int) (2 ^ (min 8 64)))
  (let v8 : Int := (IntKind.u8.wrap ((List.length (List.getD a0 (Int.toNat a2) ((0 : Int), (([] : List Int), ()))).2.1 : Nat) : Int))
  (if (2 + List.length (List.getD a0 (Int.toNat a2) ((0 : Int), (([] : List Int), ()))).2.1) * 1 ≤ most ∧ 0 < 1 ∧ 0 < 1 then (let r9 : List Int := ([(IntKind.u8.wrap v7), v8] ++ (List.getD a0 (Int.toNat a2) ((0 : Int), (([] : List Int), ()))).2.1)
  ((f99 (List.getD a0 (Int.toNat a2) ((0 : Int), (([] : List Int), ()))).2.1).bind fun r10 =>
  (let v11 : Int := (IntKind.u8.wrap r10.1.1)
  (if (List.length r9 + 1) * 1 ≤ most ∧ 0 < 1 ∧ 0 < 1 then (let r12 : List Int := (r9 ++ [v11])
  ((f41_l14 a0 a1 a2 ((List.length r12 : Nat) : Int) (List.getD a0 (Int.toNat a2) ((0 : Int), (([] : List Int), ()))) r12 ((0 : Int), r6)).bind fun y23 =>
  (let v24 : Int := (IntKind.i64.wrap (a2 + (1 : Int)))
  (kin (v24, y23))))) else none)))) else none)))) else none))) else none)
 (k0 a3))
noncomputable def f41_l6_g (a0 : List (Int × (List Int × Unit))) (a1 : Int) (x : f41_l6_X) : Option (f41_l6_X ⊕ f41_l6_Y) := f41_l6_k a0 a1 x.1 x.2 (fun x => some (.inl x)) (fun y => some (.inr y))
noncomputable def f41_l6 (a0 : List (Int × (List Int × Unit))) (a1 : Int) (x : f41_l6_X) : Option f41_l6_Y := loopO (f41_l6_g a0 a1) x
noncomputable def f41_l6_nd : Node := { nils := [(5, 95, (.int .i64), .ro)], sk := f41_l6_sk, outs := f41_l6_outs, Y := f41_l6_Y, L := fun t => f41_l6 ((f41_l6_con t).1) ((f41_l6_con t).2) (f41_l6_get t), out := fun t y => f41_l6_out (f41_l6_con t) y, disp := fun t y K => (fun y => K (.exit 0) (f41_l6_o0.fill (f41_l6_w0 (f41_l6_con t) y))) y }
noncomputable def f41_fx : Fx := { E := env, T := [(43, f43_sm), (99, f99_sm)], H := [], O := [], nodes := [((true, 9), f41_l9_nd), ((true, 17), f41_l17_nd), ((true, 14), f41_l14_nd), ((true, 6), f41_l6_nd)] }
noncomputable def f41_l9_b : Code := (loops f41_code).getD 1 .skip
theorem f41_l9_r (c : f41_l9_C) (x : f41_l9_X) : roundS f41_fx f41_l9_b f41_l9_nd (f41_l9_put c x) = f41_l9_k c.1 c.2.1 c.2.2.1 x.1 x.2 c.2.2.2.1 (fun x => some (.inl (f41_l9_put c x))) (fun y => some (.inr (.inl (f41_l9_w0 c y)))) := by kernel_rfl
theorem f41_l9_n {R : Type} (a0 : List (Int × (List Int × Unit))) (a1 : Int) (a2 : Int) (a3 : Int) (a4 : List Int) (a5 : (Int × (List Int × Unit))) (kin : f41_l9_X → Option R) (k0 : List Int → Option R) : f41_l9_k a0 a1 a2 a3 a4 a5 kin k0 = (f41_l9_g a0 a1 a2 a5 (a3, a4)).bind (Sum.elim kin k0) := by
  simp only [f41_l9_g, f41_l9_k, cond_bind, ite_bind, bind_bind, some_bind, none_bind, elim_bind, Sum.elim_inl, Sum.elim_inr]
theorem f41_l9_ok : LoopOk f41_fx f41_l9_b f41_l9_nd := loop_ok f41_l9_con f41_l9_get f41_l9_put f41_l9_pg (fun c => f41_l9_g c.1 c.2.1 c.2.2.1 c.2.2.2.1) f41_l9_out (fun t y => rfl) (fun t y K => rfl) (fun c x => by
  refine (f41_l9_r c x).trans ((f41_l9_n _ _ _ _ _ _ _ _).trans ?_)
  first
  | rfl
  | congr 1
    funext s
    rcases s with s | s <;> rfl) (fun t => rfl)
noncomputable def f41_l17_b : Code := (loops f41_code).getD 3 .skip
theorem f41_l17_r (c : f41_l17_C) (x : f41_l17_X) : roundS f41_fx f41_l17_b f41_l17_nd (f41_l17_put c x) = f41_l17_k c.1 x.1 c.2.1 c.2.2.1 c.2.2.2.1 c.2.2.2.2.1 c.2.2.2.2.2.1 x.2 c.2.2.2.2.2.2.1 c.2.2.2.2.2.2.2.1 (fun x => some (.inl (f41_l17_put c x))) (fun y => some (.inr (.inl (f41_l17_w0 c y)))) := by kernel_rfl
theorem f41_l17_n {R : Type} (a0 : Int) (a1 : Int) (a2 : List (Int × (List Int × Unit))) (a3 : Int) (a4 : Int) (a5 : Int) (a6 : Int) (a7 : List Int) (a8 : (Int × (List Int × Unit))) (a9 : List Int) (kin : f41_l17_X → Option R) (k0 : List Int → Option R) : f41_l17_k a0 a1 a2 a3 a4 a5 a6 a7 a8 a9 kin k0 = (f41_l17_g a0 a2 a3 a4 a5 a6 a8 a9 (a1, a7)).bind (Sum.elim kin k0) := by
  simp only [f41_l17_g, f41_l17_k, cond_bind, ite_bind, bind_bind, some_bind, none_bind, elim_bind, Sum.elim_inl, Sum.elim_inr]
theorem f41_l17_ok : LoopOk f41_fx f41_l17_b f41_l17_nd := loop_ok f41_l17_con f41_l17_get f41_l17_put f41_l17_pg (fun c => f41_l17_g c.1 c.2.1 c.2.2.1 c.2.2.2.1 c.2.2.2.2.1 c.2.2.2.2.2.1 c.2.2.2.2.2.2.1 c.2.2.2.2.2.2.2.1) f41_l17_out (fun t y => rfl) (fun t y K => rfl) (fun c x => by
  refine (f41_l17_r c x).trans ((f41_l17_n _ _ _ _ _ _ _ _ _ _ _ _).trans ?_)
  first
  | rfl
  | congr 1
    funext s
    rcases s with s | s <;> rfl) (fun t => rfl)
noncomputable def f41_l14_b : Code := (loops f41_code).getD 2 .skip
theorem f41_l14_r (c : f41_l14_C) (x : f41_l14_X) : roundS f41_fx f41_l14_b f41_l14_nd (f41_l14_put c x) = f41_l14_k c.1 c.2.1 c.2.2.1 c.2.2.2.1 x.1 x.2 c.2.2.2.2.1 c.2.2.2.2.2.1 (fun x => some (.inl (f41_l14_put c x))) (fun y => some (.inr (.inl (f41_l14_w0 c y)))) := by kernel_rfl
theorem f41_l14_n {R : Type} (a0 : List (Int × (List Int × Unit))) (a1 : Int) (a2 : Int) (a3 : Int) (a4 : Int) (a5 : List Int) (a6 : (Int × (List Int × Unit))) (a7 : List Int) (kin : f41_l14_X → Option R) (k0 : List Int → Option R) : f41_l14_k a0 a1 a2 a3 a4 a5 a6 a7 kin k0 = (f41_l14_g a0 a1 a2 a3 a6 a7 (a4, a5)).bind (Sum.elim kin k0) := by
  simp only [f41_l14_g, f41_l14_k, cond_bind, ite_bind, bind_bind, some_bind, none_bind, elim_bind, Sum.elim_inl, Sum.elim_inr]
theorem f41_l14_ok : LoopOk f41_fx f41_l14_b f41_l14_nd := loop_ok f41_l14_con f41_l14_get f41_l14_put f41_l14_pg (fun c => f41_l14_g c.1 c.2.1 c.2.2.1 c.2.2.2.1 c.2.2.2.2.1 c.2.2.2.2.2.1) f41_l14_out (fun t y => rfl) (fun t y K => rfl) (fun c x => by
  refine (f41_l14_r c x).trans ((f41_l14_n _ _ _ _ _ _ _ _ _ _).trans ?_)
  first
  | rfl
  | congr 1
    funext s
    rcases s with s | s <;> rfl) (fun t => rfl)
noncomputable def f41_l6_b : Code := (loops f41_code).getD 0 .skip
theorem f41_l6_r (c : f41_l6_C) (x : f41_l6_X) : roundS f41_fx f41_l6_b f41_l6_nd (f41_l6_put c x) = f41_l6_k c.1 c.2 x.1 x.2 (fun x => some (.inl (f41_l6_put c x))) (fun y => some (.inr (.inl (f41_l6_w0 c y)))) := by kernel_rfl
theorem f41_l6_n {R : Type} (a0 : List (Int × (List Int × Unit))) (a1 : Int) (a2 : Int) (a3 : List Int) (kin : f41_l6_X → Option R) (k0 : List Int → Option R) : f41_l6_k a0 a1 a2 a3 kin k0 = (f41_l6_g a0 a1 (a2, a3)).bind (Sum.elim kin k0) := by
  simp only [f41_l6_g, f41_l6_k, cond_bind, ite_bind, bind_bind, some_bind, none_bind, elim_bind, Sum.elim_inl, Sum.elim_inr]
theorem f41_l6_ok : LoopOk f41_fx f41_l6_b f41_l6_nd := loop_ok f41_l6_con f41_l6_get f41_l6_put f41_l6_pg (fun c => f41_l6_g c.1 c.2) f41_l6_out (fun t y => rfl) (fun t y K => rfl) (fun c x => by
  refine (f41_l6_r c x).trans ((f41_l6_n _ _ _ _ _ _).trans ?_)
  first
  | rfl
  | congr 1
    funext s
    rcases s with s | s <;> rfl) (fun t => rfl)
noncomputable def f41_k {R : Type} (a0 : List (Int × (List Int × Unit))) (k : (List Int × Int × Unit) × (Unit) → Option R) : Option R :=
 ((f43 a0).bind fun r0 =>
 (cond (r0.1.1 != (0 : Int))
 (k (([], (r0.1.1, ())), ()))
 ((f41_l6 a0 ((List.length a0 : Nat) : Int) ((0 : Int), [])).bind fun y25 =>
  (k ((y25, ((0 : Int), ())), ())))))
noncomputable def f41 (a0 : List (Int × (List Int × Unit))) : Option ((List Int × Int × Unit) × (Unit)) := f41_k a0 some
noncomputable def f41_sm : Sm := ⟨[.ro (.slc (.pair (.int .i64) (.pair (.slc (.int .u8)) .unit)))], [((.slc (.int .i64)), (.own .ro)), ((.int .i64), .ro)], fun x => f41 x.1⟩
theorem f41_m (x : ArgT [.ro (.slc (.pair (.int .i64) (.pair (.slc (.int .u8)) .unit)))]) : codeS f41_fx f41_code (start [.ro (.slc (.pair (.int .i64) (.pair (.slc (.int .u8)) .unit)))] [] x 85) (finK env [.tmp 2, .tmp 3] [.ro (.slc (.pair (.int .i64) (.pair (.slc (.int .u8)) .unit)))] [((.slc (.int .i64)), (.own .ro)), ((.int .i64), .ro)]) = f41_k x.1 (fun r => some (r, [])) := by kernel_rfl
theorem f41_n {R : Type} (a0 : List (Int × (List Int × Unit))) (k : (List Int × Int × Unit) × (Unit) → Option R) : f41_k a0 k = (f41 a0).bind k := by
  simp only [f41, f41_k, cond_bind, ite_bind, bind_bind, some_bind, none_bind, elim_bind]
theorem f41_f : FnOk Try.prog 41 := ⟨Try.f41, Try.func41, by kernel_rfl, by kernel_rfl⟩
theorem f41_ok : SmOk Try.prog 41 f41_sm :=
  sum_of (c := f41_fx) (fn := Try.f41) (code := f41_code) (sm := f41_sm) mixed (env_ok env_envB) (TabsOk.all ⟨⟨f43_ok, f43_f⟩, ⟨f99_ok, f99_f⟩, trivial⟩) Try.func41 (by kernel_rfl)
   ((LoopsOk.of (l := [f41_l6_b, f41_l9_b, f41_l14_b, f41_l17_b]) (by kernel_rfl) ⟨node_is (by kernel_rfl) f41_l6_ok, node_is (by kernel_rfl) f41_l9_ok, node_is (by kernel_rfl) f41_l14_ok, node_is (by kernel_rfl) f41_l17_ok, trivial⟩))
   (no_tails (by kernel_rfl))
   (fun ks x hl => by
    have hk : ks = [] := List.length_eq_zero_iff.1 hl
    subst hk
    exact (f41_m x).trans (f41_n _ _))
/-! bakelite/bakeref2.BlocksErr -/
noncomputable def f42_code : Code := (Try.f42.body).getD .skip
noncomputable def f42_l4_sk : SkS := ⟨[.undef, .undef, .undef, .undef, .undef, .undef, .undef, .undef, .con (.slc (.pair (.int .i64) (.pair (.slc (.int .u8)) .unit))), .con (.int .i64), .con (.int .i64), .undef, .undef, .undef, .undef, .undef, .undef, .undef, .undef, .undef, .undef, .undef, .undef, .undef, .undef, .undef, .undef], []⟩
noncomputable def f42_l4_o0 : SkS := ⟨[.undef, .undef, .con (.int .i64), .undef, .undef, .undef, .undef, .undef, .undef, .undef, .undef, .undef, .undef, .undef, .undef, .undef, .undef, .undef, .undef, .undef, .undef, .undef, .undef, .undef, .undef, .undef, .undef], []⟩
noncomputable def f42_l4_o1 : SkS := ⟨[.undef, .undef, .undef, .undef, .undef, .undef, .undef, .undef, .undef, .undef, .undef, .undef, .undef, .undef, .undef, .undef, .undef, .undef, .undef, .undef, .undef, .undef, .undef, .undef, .undef, .undef, .undef], []⟩
noncomputable def f42_l4_outs : List Way := [⟨.ret, [], f42_l4_o0⟩, ⟨(.exit 0), [], f42_l4_o1⟩]
abbrev f42_l4_C := (List (Int × (List Int × Unit)) × Int)
abbrev f42_l4_X := Int
abbrev f42_l4_Y := (Int) ⊕ (Unit)
noncomputable def f42_l4_con (t : f42_l4_sk.T) : f42_l4_C := (t.1.2.2.2.2.2.2.2.2.1, t.1.2.2.2.2.2.2.2.2.2.1)
noncomputable def f42_l4_get (t : f42_l4_sk.T) : f42_l4_X := t.1.2.2.2.2.2.2.2.2.2.2.1
noncomputable def f42_l4_put (c : f42_l4_C) (x : f42_l4_X) : f42_l4_sk.T := (((), ((), ((), ((), ((), ((), ((), ((), (c.1, (c.2, (x, ((), ((), ((), ((), ((), ((), ((), ((), ((), ((), ((), ((), ((), ((), ((), ((), ()))))))))))))))))))))))))))), ())
theorem f42_l4_pg (t : f42_l4_sk.T) : f42_l4_put (f42_l4_con t) (f42_l4_get t) = t := by kernel_rfl
noncomputable def f42_l4_w0 (c : f42_l4_C) (y : Int) : f42_l4_o0.T := (((), ((), (y, ((), ((), ((), ((), ((), ((), ((), ((), ((), ((), ((), ((), ((), ((), ((), ((), ((), ((), ((), ((), ((), ((), ((), ((), ()))))))))))))))))))))))))))), ())
noncomputable def f42_l4_w1 (c : f42_l4_C) (y : Unit) : f42_l4_o1.T := (((), ((), ((), ((), ((), ((), ((), ((), ((), ((), ((), ((), ((), ((), ((), ((), ((), ((), ((), ((), ((), ((), ((), ((), ((), ((), ((), ()))))))))))))))))))))))))))), ())
noncomputable def f42_l4_out (c : f42_l4_C) (y : f42_l4_Y) : OutV f42_l4_outs := (Sum.elim (fun y => (.inl (f42_l4_w0 c y))) (fun y => (.inr (.inl (f42_l4_w1 c y))))) y
noncomputable def f42_l4_k {R : Type} (a0 : List (Int × (List Int × Unit))) (a1 : Int) (a2 : Int) (kin : f42_l4_X → Option R) (k0 : Int → Option R) (k1 : Unit → Option R) : Option R :=
 (cond (decide (a2 < a1))
 (if (0 : Int) ≤ a2 ∧ a2 < ((List.length a0 : Nat) : Int) then (cond (decide (((List.length (List.getD a0 (Int.toNat a2) ((0 : Int), (([] : List Int), ()))).2.1 : Nat) : Int) > (256 : Int)))
  (k0 (2 : Int))
  (cond (decide ((List.getD a0 (Int.toNat a2) ((0 : Int), (([] : List Int), ()))).1 < (4 : Int)))
   (k0 (1 : Int))
   (cond (decide ((List.getD a0 (Int.toNat a2) ((0 : Int), (([] : List Int), ()))).1 > (1000 : Int)))
    (k0 (1 : Int))
    (let v0 : Int := (IntKind.i64.wrap (a2 + (1 : Int)))
     (kin v0))))) else none)
 (k1 ()))
noncomputable def f42_l4_g (a0 : List (Int × (List Int × Unit))) (a1 : Int) (x : f42_l4_X) : Option (f42_l4_X ⊕ f42_l4_Y) := f42_l4_k a0 a1 x (fun x => some (.inl x)) (fun y => some (.inr (.inl y))) (fun y => some (.inr (.inr y)))
noncomputable def f42_l4 (a0 : List (Int × (List Int × Unit))) (a1 : Int) (x : f42_l4_X) : Option f42_l4_Y := loopO (f42_l4_g a0 a1) x
noncomputable def f42_l4_nd : Node := { nils := [], sk := f42_l4_sk, outs := f42_l4_outs, Y := f42_l4_Y, L := fun t => f42_l4 ((f42_l4_con t).1) ((f42_l4_con t).2) (f42_l4_get t), out := fun t y => f42_l4_out (f42_l4_con t) y, disp := fun t y K => (Sum.elim (fun y => K .ret (f42_l4_o0.fill (f42_l4_w0 (f42_l4_con t) y))) (fun y => K (.exit 0) (f42_l4_o1.fill (f42_l4_w1 (f42_l4_con t) y)))) y }
noncomputable def f42_fx : Fx := { E := env, T := [], H := [], O := [], nodes := [((true, 4), f42_l4_nd)] }
noncomputable def f42_l4_b : Code := (loops f42_code).getD 0 .skip
theorem f42_l4_r (c : f42_l4_C) (x : f42_l4_X) : roundS f42_fx f42_l4_b f42_l4_nd (f42_l4_put c x) = f42_l4_k c.1 c.2 x (fun x => some (.inl (f42_l4_put c x))) (fun y => some (.inr (.inl (f42_l4_w0 c y)))) (fun y => some (.inr (.inr (.inl (f42_l4_w1 c y))))) := by kernel_rfl
theorem f42_l4_n {R : Type} (a0 : List (Int × (List Int × Unit))) (a1 : Int) (a2 : Int) (kin : f42_l4_X → Option R) (k0 : Int → Option R) (k1 : Unit → Option R) : f42_l4_k a0 a1 a2 kin k0 k1 = (f42_l4_g a0 a1 a2).bind (Sum.elim kin (Sum.elim k0 k1)) := by
  simp only [f42_l4_g, f42_l4_k, cond_bind, ite_bind, bind_bind, some_bind, none_bind, elim_bind, Sum.elim_inl, Sum.elim_inr]
theorem f42_l4_ok : LoopOk f42_fx f42_l4_b f42_l4_nd := loop_ok f42_l4_con f42_l4_get f42_l4_put f42_l4_pg (fun c => f42_l4_g c.1 c.2) f42_l4_out (fun t y => rfl) (by intro R t y K; rcases y with y | y <;> rfl) (fun c x => by
  refine (f42_l4_r c x).trans ((f42_l4_n _ _ _ _ _ _).trans ?_)
  first
  | rfl
  | congr 1
    funext s
    rcases s with s | s | s <;> rfl) (fun t => rfl)
noncomputable def f42_k {R : Type} (a0 : List (Int × (List Int × Unit))) (k : (Int × Unit) × (Unit) → Option R) : Option R :=
 (cond (decide (((List.length a0 : Nat) : Int) > (8 : Int)))
 (k (((2 : Int), ()), ()))
 ((f42_l4 a0 ((List.length a0 : Nat) : Int) (0 : Int)).bind fun y1 =>
  ((Sum.elim (fun z2 =>
  (k ((z2, ()), ())))
  (fun z3 =>
  (k (((0 : Int), ()), ())))) y1)))
noncomputable def f42 (a0 : List (Int × (List Int × Unit))) : Option ((Int × Unit) × (Unit)) := f42_k a0 some
noncomputable def f42_sm : Sm := ⟨[.ro (.slc (.pair (.int .i64) (.pair (.slc (.int .u8)) .unit)))], [((.int .i64), .ro)], fun x => f42 x.1⟩
theorem f42_m (x : ArgT [.ro (.slc (.pair (.int .i64) (.pair (.slc (.int .u8)) .unit)))]) : codeS f42_fx f42_code (start [.ro (.slc (.pair (.int .i64) (.pair (.slc (.int .u8)) .unit)))] [] x 27) (finK env [.tmp 2] [.ro (.slc (.pair (.int .i64) (.pair (.slc (.int .u8)) .unit)))] [((.int .i64), .ro)]) = f42_k x.1 (fun r => some (r, [])) := by kernel_rfl
theorem f42_n {R : Type} (a0 : List (Int × (List Int × Unit))) (k : (Int × Unit) × (Unit) → Option R) : f42_k a0 k = (f42 a0).bind k := by
  simp only [f42, f42_k, cond_bind, ite_bind, bind_bind, some_bind, none_bind, elim_bind]
theorem f42_f : FnOk Try.prog 42 := ⟨Try.f42, Try.func42, by kernel_rfl, by kernel_rfl⟩
theorem f42_ok : SmOk Try.prog 42 f42_sm :=
  sum_of (c := f42_fx) (fn := Try.f42) (code := f42_code) (sm := f42_sm) mixed (env_ok env_envB) (TabsOk.all trivial) Try.func42 (by kernel_rfl)
   ((LoopsOk.of (l := [f42_l4_b]) (by kernel_rfl) ⟨node_is (by kernel_rfl) f42_l4_ok, trivial⟩))
   (no_tails (by kernel_rfl))
   (fun ks x hl => by
    have hk : ks = [] := List.length_eq_zero_iff.1 hl
    subst hk
    exact (f42_m x).trans (f42_n _ _))
/-! math/bits.Mul64 -/
noncomputable def f153_code : Code := (Try.f153.body).getD .skip
noncomputable def f153_fx : Fx := { E := env, T := [], H := [], O := [], nodes := [] }
noncomputable def f153_k {R : Type} (a0 : Int) (a1 : Int) (k : (Int × Int × Unit) × (Unit) → Option R) : Option R :=
 (let v0 : Int := (bitop IntKind.u64 .and a0 (4294967295 : Int))
 (let v1 : Int := (Int.fdiv a0 (2 ^ (min 32 64)))
 (let v2 : Int := (bitop IntKind.u64 .and a1 (4294967295 : Int))
 (let v3 : Int := (Int.fdiv a1 (2 ^ (min 32 64)))
 (let v4 : Int := (IntKind.u64.wrap (v0 * v2))
 (let v5 : Int := (IntKind.u64.wrap (v1 * v2))
 (let v6 : Int := (Int.fdiv v4 (2 ^ (min 32 64)))
 (let v7 : Int := (IntKind.u64.wrap (v5 + v6))
 (let v8 : Int := (bitop IntKind.u64 .and v7 (4294967295 : Int))
 (let v9 : Int := (Int.fdiv v7 (2 ^ (min 32 64)))
 (let v10 : Int := (IntKind.u64.wrap (v0 * v3))
 (let v11 : Int := (IntKind.u64.wrap (v8 + v10))
 (let v12 : Int := (IntKind.u64.wrap (v1 * v3))
 (let v13 : Int := (IntKind.u64.wrap (v12 + v9))
 (let v14 : Int := (Int.fdiv v11 (2 ^ (min 32 64)))
 (let v15 : Int := (IntKind.u64.wrap (v13 + v14))
 (let v16 : Int := (IntKind.u64.wrap (a0 * a1))
 (k ((v15, (v16, ())), ())))))))))))))))))))
noncomputable def f153 (a0 : Int) (a1 : Int) : Option ((Int × Int × Unit) × (Unit)) := f153_k a0 a1 some
noncomputable def f153_sm : Sm := ⟨[.ro (.int .u64), .ro (.int .u64)], [((.int .u64), .ro), ((.int .u64), .ro)], fun x => f153 x.1 x.2.1⟩
theorem f153_m (x : ArgT [.ro (.int .u64), .ro (.int .u64)]) : codeS f153_fx f153_code (start [.ro (.int .u64), .ro (.int .u64)] [] x 51) (finK env [.tmp 4, .tmp 5] [.ro (.int .u64), .ro (.int .u64)] [((.int .u64), .ro), ((.int .u64), .ro)]) = f153_k x.1 x.2.1 (fun r => some (r, [])) := by kernel_rfl
theorem f153_n {R : Type} (a0 : Int) (a1 : Int) (k : (Int × Int × Unit) × (Unit) → Option R) : f153_k a0 a1 k = (f153 a0 a1).bind k := by
  simp only [f153, f153_k, cond_bind, ite_bind, bind_bind, some_bind, none_bind, elim_bind]
theorem f153_f : FnOk Try.prog 153 := ⟨Try.f153, Try.func153, by kernel_rfl, by kernel_rfl⟩
theorem f153_ok : SmOk Try.prog 153 f153_sm :=
  sum_of (c := f153_fx) (fn := Try.f153) (code := f153_code) (sm := f153_sm) mixed (env_ok env_envB) (TabsOk.all trivial) Try.func153 (by kernel_rfl)
   ((LoopsOk.of (l := []) (by kernel_rfl) trivial))
   (no_tails (by kernel_rfl))
   (fun ks x hl => by
    have hk : ks = [] := List.length_eq_zero_iff.1 hl
    subst hk
    exact (f153_m x).trans (f153_n _ _ _))
/-! math/bits.Mul -/
noncomputable def f131_code : Code := (Try.f131.body).getD .skip
noncomputable def f131_fx : Fx := { E := env, T := [(153, f153_sm)], H := [], O := [], nodes := [] }
noncomputable def f131_k {R : Type} (a0 : Int) (a1 : Int) (k : (Int × Int × Unit) × (Unit) → Option R) : Option R :=
 ((f153 a0 a1).bind fun r0 =>
 (k ((r0.1.1, (r0.1.2.1, ())), ())))
noncomputable def f131 (a0 : Int) (a1 : Int) : Option ((Int × Int × Unit) × (Unit)) := f131_k a0 a1 some
noncomputable def f131_sm : Sm := ⟨[.ro (.int .u64), .ro (.int .u64)], [((.int .u64), .ro), ((.int .u64), .ro)], fun x => f131 x.1 x.2.1⟩
theorem f131_m (x : ArgT [.ro (.int .u64), .ro (.int .u64)]) : codeS f131_fx f131_code (start [.ro (.int .u64), .ro (.int .u64)] [] x 30) (finK env [.tmp 4, .tmp 5] [.ro (.int .u64), .ro (.int .u64)] [((.int .u64), .ro), ((.int .u64), .ro)]) = f131_k x.1 x.2.1 (fun r => some (r, [])) := by kernel_rfl
theorem f131_n {R : Type} (a0 : Int) (a1 : Int) (k : (Int × Int × Unit) × (Unit) → Option R) : f131_k a0 a1 k = (f131 a0 a1).bind k := by
  simp only [f131, f131_k, cond_bind, ite_bind, bind_bind, some_bind, none_bind, elim_bind]
theorem f131_f : FnOk Try.prog 131 := ⟨Try.f131, Try.func131, by kernel_rfl, by kernel_rfl⟩
theorem f131_ok : SmOk Try.prog 131 f131_sm :=
  sum_of (c := f131_fx) (fn := Try.f131) (code := f131_code) (sm := f131_sm) mixed (env_ok env_envB) (TabsOk.all ⟨⟨f153_ok, f153_f⟩, trivial⟩) Try.func131 (by kernel_rfl)
   ((LoopsOk.of (l := []) (by kernel_rfl) trivial))
   (no_tails (by kernel_rfl))
   (fun ks x hl => by
    have hk : ks = [] := List.length_eq_zero_iff.1 hl
    subst hk
    exact (f131_m x).trans (f131_n _ _ _))
/-! slices.Repeat[bakelite/api.Track,int] -/
noncomputable def f100_code : Code := (Try.f100.body).getD .skip
noncomputable def f100_l8_sk : SkS := ⟨[.undef, .undef, .undef, .undef, .undef, .undef, .undef, .ref 480 [], .con (.int .i64), .undef, .undef, .undef, .undef, .undef, .undef, .undef, .undef, .undef, .undef, .undef, .undef, .undef, .undef, .undef, .undef, .undef, .undef, .undef, .undef, .undef, .undef, .undef, .undef, .undef, .undef, .undef, .undef, .undef, .undef, .undef, .undef, .undef, .undef, .undef, .undef, .undef, .undef, .undef], [(480, ⟨none, (.slc (.int .i64)), (.own .ro)⟩)]⟩
noncomputable def f100_l8_o0 : SkS := ⟨[.undef, .undef, .undef, .undef, .undef, .undef, .undef, .ref 480 [], .undef, .undef, .undef, .undef, .undef, .undef, .undef, .undef, .undef, .undef, .undef, .undef, .undef, .undef, .undef, .undef, .undef, .undef, .undef, .undef, .undef, .undef, .undef, .undef, .undef, .undef, .undef, .undef, .undef, .undef, .undef, .undef, .undef, .undef, .undef, .undef, .undef, .undef, .undef, .undef], [(480, ⟨none, (.slc (.int .i64)), (.own .ro)⟩)]⟩
noncomputable def f100_l8_outs : List Way := [⟨(.exit 0), [], f100_l8_o0⟩]
abbrev f100_l8_C := Unit
abbrev f100_l8_X := (Int × List Int)
abbrev f100_l8_Y := (List Int)
noncomputable def f100_l8_con (t : f100_l8_sk.T) : f100_l8_C := ()
noncomputable def f100_l8_get (t : f100_l8_sk.T) : f100_l8_X := (t.1.2.2.2.2.2.2.2.2.1, t.2.1.1)
noncomputable def f100_l8_put (c : f100_l8_C) (x : f100_l8_X) : f100_l8_sk.T := (((), ((), ((), ((), ((), ((), ((), ((), (x.1, ((), ((), ((), ((), ((), ((), ((), ((), ((), ((), ((), ((), ((), ((), ((), ((), ((), ((), ((), ((), ((), ((), ((), ((), ((), ((), ((), ((), ((), ((), ((), ((), ((), ((), ((), ((), ((), ((), ((), ())))))))))))))))))))))))))))))))))))))))))))))))), ((x.2, ()), ()))
theorem f100_l8_pg (t : f100_l8_sk.T) : f100_l8_put (f100_l8_con t) (f100_l8_get t) = t := by kernel_rfl
noncomputable def f100_l8_w0 (c : f100_l8_C) (y : List Int) : f100_l8_o0.T := (((), ((), ((), ((), ((), ((), ((), ((), ((), ((), ((), ((), ((), ((), ((), ((), ((), ((), ((), ((), ((), ((), ((), ((), ((), ((), ((), ((), ((), ((), ((), ((), ((), ((), ((), ((), ((), ((), ((), ((), ((), ((), ((), ((), ((), ((), ((), ((), ())))))))))))))))))))))))))))))))))))))))))))))))), ((y, ()), ()))
noncomputable def f100_l8_out (c : f100_l8_C) (y : f100_l8_Y) : OutV f100_l8_outs := (fun y => (.inl (f100_l8_w0 c y))) y
noncomputable def f100_l8_k {R : Type} (a0 : Int) (a1 : List Int) (kin : f100_l8_X → Option R) (k0 : List Int → Option R) : Option R :=
 (cond (decide (a0 < ((List.length a1 : Nat) : Int)))
 (if (0 : Int) ≤ a0 ∧ a0 ≤ ((List.length a1 : Nat) : Int) ∧ ((List.length a1 : Nat) : Int) ≤ ((List.length a1 : Nat) : Int) then (if (0 : Int) ≤ (0 : Int) ∧ (0 : Int) ≤ a0 ∧ a0 ≤ ((List.length a1 : Nat) : Int) then (if 0 < List.length (List.take ((Int.toNat a0) - 0) (List.drop 0 a1)) ∧ 0 < ((Int.toNat ((List.length a1 : Nat) : Int)) - (Int.toNat a0)) then (let v3 : Nat := min (List.length (List.take ((Int.toNat a0) - 0) (List.drop 0 a1))) ((Int.toNat ((List.length a1 : Nat) : Int)) - (Int.toNat a0))
  (let v4 : Int := (IntKind.i64.wrap (a0 + ((v3 : Nat) : Int)))
  (kin (v4, (spl a1 (Int.toNat a0) v3 (List.take ((Int.toNat a0) - 0) (List.drop 0 a1))))))) else none) else none) else none)
 (k0 a1))
noncomputable def f100_l8_g (x : f100_l8_X) : Option (f100_l8_X ⊕ f100_l8_Y) := f100_l8_k x.1 x.2 (fun x => some (.inl x)) (fun y => some (.inr y))
noncomputable def f100_l8 (x : f100_l8_X) : Option f100_l8_Y := loopO (f100_l8_g) x
noncomputable def f100_l8_nd : Node := { nils := [], sk := f100_l8_sk, outs := f100_l8_outs, Y := f100_l8_Y, L := fun t => f100_l8 (f100_l8_get t), out := fun t y => f100_l8_out (f100_l8_con t) y, disp := fun t y K => (fun y => K (.exit 0) (f100_l8_o0.fill (f100_l8_w0 (f100_l8_con t) y))) y }
noncomputable def f100_t6_sk : SkS := ⟨[.con (.slc (.int .i64)), .undef, .undef, .undef, .undef, .undef, .con (.int .u64), .undef, .undef, .undef, .undef, .undef, .undef, .undef, .undef, .undef, .undef, .undef, .undef, .undef, .undef, .undef, .undef, .undef, .undef, .undef, .undef, .undef, .undef, .undef, .undef, .undef, .undef, .undef, .undef, .undef, .undef, .undef, .undef, .undef, .undef, .undef, .undef, .undef, .undef, .undef, .undef, .undef], []⟩
noncomputable def f100_t6_o0 : SkS := ⟨[.undef, .undef, .undef, .undef, .ref 480 [], .undef, .undef, .undef, .undef, .undef, .undef, .undef, .undef, .undef, .undef, .undef, .undef, .undef, .undef, .undef, .undef, .undef, .undef, .undef, .undef, .undef, .undef, .undef, .undef, .undef, .undef, .undef, .undef, .undef, .undef, .undef, .undef, .undef, .undef, .undef, .undef, .undef, .undef, .undef, .undef, .undef, .undef, .undef], [(480, ⟨none, (.slc (.int .i64)), (.own .ro)⟩)]⟩
noncomputable def f100_t6_outs : List Way := [⟨.ret, [], f100_t6_o0⟩]
abbrev f100_t6_C := Unit
abbrev f100_t6_X := (List Int × Int)
abbrev f100_t6_Y := (List Int)
noncomputable def f100_t6_con (t : f100_t6_sk.T) : f100_t6_C := ()
noncomputable def f100_t6_get (t : f100_t6_sk.T) : f100_t6_X := (t.1.1, t.1.2.2.2.2.2.2.1)
noncomputable def f100_t6_put (c : f100_t6_C) (x : f100_t6_X) : f100_t6_sk.T := ((x.1, ((), ((), ((), ((), ((), (x.2, ((), ((), ((), ((), ((), ((), ((), ((), ((), ((), ((), ((), ((), ((), ((), ((), ((), ((), ((), ((), ((), ((), ((), ((), ((), ((), ((), ((), ((), ((), ((), ((), ((), ((), ((), ((), ((), ((), ((), ((), ((), ())))))))))))))))))))))))))))))))))))))))))))))))), ())
theorem f100_t6_pg (t : f100_t6_sk.T) : f100_t6_put (f100_t6_con t) (f100_t6_get t) = t := by kernel_rfl
noncomputable def f100_t6_w0 (c : f100_t6_C) (x : f100_t6_X) (y : List Int) : f100_t6_o0.T := (((), ((), ((), ((), ((), ((), ((), ((), ((), ((), ((), ((), ((), ((), ((), ((), ((), ((), ((), ((), ((), ((), ((), ((), ((), ((), ((), ((), ((), ((), ((), ((), ((), ((), ((), ((), ((), ((), ((), ((), ((), ((), ((), ((), ((), ((), ((), ((), ())))))))))))))))))))))))))))))))))))))))))))))))), ((y, ()), ()))
noncomputable def f100_t6_out (c : f100_t6_C) (x : f100_t6_X) (y : f100_t6_Y) : OutV f100_t6_outs := (fun y => (.inl (f100_t6_w0 c x y))) y
noncomputable def f100_t6_k {R : Type} (a0 : List Int) (a1 : Int) (k0 : List Int → Option R) : Option R :=
 (if (0 : Int) ≤ (IntKind.i64.wrap a1) ∧ (IntKind.i64.wrap a1) ≤ (IntKind.i64.wrap a1) ∧ (IntKind.i64.wrap a1) * 8 ≤ (most : Int) ∧ 0 < 1 ∧ 0 < 8 then (if 0 < List.length a0 ∧ 0 < (List.length (List.replicate (Int.toNat (IntKind.i64.wrap a1)) (0 : Int))) then (let v2 : Nat := min (List.length a0) (List.length (List.replicate (Int.toNat (IntKind.i64.wrap a1)) (0 : Int)))
 ((f100_l8 (((v2 : Nat) : Int), (spl (List.replicate (Int.toNat (IntKind.i64.wrap a1)) (0 : Int)) 0 v2 a0))).bind fun y5 =>
 (k0 y5))) else none) else none)
noncomputable def f100_t6 (a0 : List Int) (a1 : Int) : Option f100_t6_Y := f100_t6_k a0 a1 (fun y => some y)
noncomputable def f100_t6_nd : Node := { nils := [], sk := f100_t6_sk, outs := f100_t6_outs, Y := f100_t6_Y, L := fun t => f100_t6 ((f100_t6_get t).1) ((f100_t6_get t).2), out := fun t y => f100_t6_out (f100_t6_con t) (f100_t6_get t) y, disp := fun t y K => (fun y => K .ret (f100_t6_o0.fill (f100_t6_w0 (f100_t6_con t) (f100_t6_get t) y))) y }
noncomputable def f100_t3_sk : SkS := ⟨[.con (.slc (.int .i64)), .con (.int .i64), .undef, .undef, .undef, .undef, .undef, .undef, .undef, .undef, .undef, .undef, .undef, .undef, .undef, .undef, .undef, .undef, .undef, .undef, .undef, .undef, .undef, .undef, .undef, .undef, .undef, .undef, .undef, .undef, .undef, .undef, .undef, .undef, .undef, .undef, .undef, .undef, .undef, .undef, .undef, .undef, .undef, .undef, .undef, .undef, .undef, .undef], []⟩
noncomputable def f100_t3_o0 : SkS := ⟨[.undef, .undef, .undef, .undef, .ref 480 [], .undef, .undef, .undef, .undef, .undef, .undef, .undef, .undef, .undef, .undef, .undef, .undef, .undef, .undef, .undef, .undef, .undef, .undef, .undef, .undef, .undef, .undef, .undef, .undef, .undef, .undef, .undef, .undef, .undef, .undef, .undef, .undef, .undef, .undef, .undef, .undef, .undef, .undef, .undef, .undef, .undef, .undef, .undef], [(480, ⟨none, (.slc (.int .i64)), (.own .ro)⟩)]⟩
noncomputable def f100_t3_outs : List Way := [⟨.ret, [], f100_t3_o0⟩]
abbrev f100_t3_C := Unit
abbrev f100_t3_X := (List Int × Int)
abbrev f100_t3_Y := (List Int)
noncomputable def f100_t3_con (t : f100_t3_sk.T) : f100_t3_C := ()
noncomputable def f100_t3_get (t : f100_t3_sk.T) : f100_t3_X := (t.1.1, t.1.2.1)
noncomputable def f100_t3_put (c : f100_t3_C) (x : f100_t3_X) : f100_t3_sk.T := ((x.1, (x.2, ((), ((), ((), ((), ((), ((), ((), ((), ((), ((), ((), ((), ((), ((), ((), ((), ((), ((), ((), ((), ((), ((), ((), ((), ((), ((), ((), ((), ((), ((), ((), ((), ((), ((), ((), ((), ((), ((), ((), ((), ((), ((), ((), ((), ((), ((), ())))))))))))))))))))))))))))))))))))))))))))))))), ())
theorem f100_t3_pg (t : f100_t3_sk.T) : f100_t3_put (f100_t3_con t) (f100_t3_get t) = t := by kernel_rfl
noncomputable def f100_t3_w0 (c : f100_t3_C) (x : f100_t3_X) (y : List Int) : f100_t3_o0.T := (((), ((), ((), ((), ((), ((), ((), ((), ((), ((), ((), ((), ((), ((), ((), ((), ((), ((), ((), ((), ((), ((), ((), ((), ((), ((), ((), ((), ((), ((), ((), ((), ((), ((), ((), ((), ((), ((), ((), ((), ((), ((), ((), ((), ((), ((), ((), ((), ())))))))))))))))))))))))))))))))))))))))))))))))), ((y, ()), ()))
noncomputable def f100_t3_out (c : f100_t3_C) (x : f100_t3_X) (y : f100_t3_Y) : OutV f100_t3_outs := (fun y => (.inl (f100_t3_w0 c x y))) y
noncomputable def f100_t3_k {R : Type} (a0 : List Int) (a1 : Int) (k0 : List Int → Option R) : Option R :=
 (let v0 : Int := (IntKind.u64.wrap ((List.length a0 : Nat) : Int))
 ((f131 v0 (IntKind.u64.wrap a1)).bind fun r1 =>
 (cond (decide (r1.1.1 > (0 : Int)))
 none
 (cond (decide (r1.1.2.1 > (9223372036854775807 : Int)))
  none
  ((f100_t6 a0 r1.1.2.1).bind fun y6 =>
   (k0 y6))))))
noncomputable def f100_t3 (a0 : List Int) (a1 : Int) : Option f100_t3_Y := f100_t3_k a0 a1 (fun y => some y)
noncomputable def f100_t3_nd : Node := { nils := [], sk := f100_t3_sk, outs := f100_t3_outs, Y := f100_t3_Y, L := fun t => f100_t3 ((f100_t3_get t).1) ((f100_t3_get t).2), out := fun t y => f100_t3_out (f100_t3_con t) (f100_t3_get t) y, disp := fun t y K => (fun y => K .ret (f100_t3_o0.fill (f100_t3_w0 (f100_t3_con t) (f100_t3_get t) y))) y }
noncomputable def f100_fx : Fx := { E := env, T := [(131, f131_sm)], H := [], O := [(45, [30])], nodes := [((true, 8), f100_l8_nd), ((false, 6), f100_t6_nd), ((false, 3), f100_t3_nd)] }
noncomputable def f100_l8_b : Code := (loops f100_code).getD 0 .skip
theorem f100_l8_r (c : f100_l8_C) (x : f100_l8_X) : roundS f100_fx f100_l8_b f100_l8_nd (f100_l8_put c x) = f100_l8_k x.1 x.2 (fun x => some (.inl (f100_l8_put c x))) (fun y => some (.inr (.inl (f100_l8_w0 c y)))) := by kernel_rfl
theorem f100_l8_n {R : Type} (a0 : Int) (a1 : List Int) (kin : f100_l8_X → Option R) (k0 : List Int → Option R) : f100_l8_k a0 a1 kin k0 = (f100_l8_g (a0, a1)).bind (Sum.elim kin k0) := by
  simp only [f100_l8_g, f100_l8_k, cond_bind, ite_bind, bind_bind, some_bind, none_bind, elim_bind, Sum.elim_inl, Sum.elim_inr]
theorem f100_l8_ok : LoopOk f100_fx f100_l8_b f100_l8_nd := loop_ok f100_l8_con f100_l8_get f100_l8_put f100_l8_pg (fun c => f100_l8_g) f100_l8_out (fun t y => rfl) (fun t y K => rfl) (fun c x => by
  refine (f100_l8_r c x).trans ((f100_l8_n _ _ _ _).trans ?_)
  first
  | rfl
  | congr 1
    funext s
    rcases s with s | s <;> rfl) (fun t => rfl)
noncomputable def f100_t6_b : Code := (tails f100_code).getD 4 .skip
theorem f100_t6_r (c : f100_t6_C) (x : f100_t6_X) : tailS f100_fx f100_t6_b f100_t6_nd (f100_t6_put c x) = f100_t6_k x.1 x.2 (fun y => some (.inl (f100_t6_w0 c x y))) := by kernel_rfl
theorem f100_t6_n {R : Type} (a0 : List Int) (a1 : Int) (k0 : List Int → Option R) : f100_t6_k a0 a1 k0 = (f100_t6 a0 a1).bind k0 := by
  simp only [f100_t6, f100_t6_k, cond_bind, ite_bind, bind_bind, some_bind, none_bind, elim_bind, Sum.elim_inl, Sum.elim_inr]
theorem f100_t6_ok : TailOk f100_fx f100_t6_b f100_t6_nd := tail_ok f100_t6_con f100_t6_get f100_t6_put f100_t6_pg (fun x => f100_t6 x.1 x.2) f100_t6_out (fun t y => rfl) (fun t y K => rfl) (fun c x => by
  refine (f100_t6_r c x).trans ((f100_t6_n _ _ _).trans ?_)
  first
  | rfl
  | congr 1
    funext s
    rfl) (fun t => rfl)
noncomputable def f100_t3_b : Code := (tails f100_code).getD 1 .skip
theorem f100_t3_r (c : f100_t3_C) (x : f100_t3_X) : tailS f100_fx f100_t3_b f100_t3_nd (f100_t3_put c x) = f100_t3_k x.1 x.2 (fun y => some (.inl (f100_t3_w0 c x y))) := by kernel_rfl
theorem f100_t3_n {R : Type} (a0 : List Int) (a1 : Int) (k0 : List Int → Option R) : f100_t3_k a0 a1 k0 = (f100_t3 a0 a1).bind k0 := by
  simp only [f100_t3, f100_t3_k, cond_bind, ite_bind, bind_bind, some_bind, none_bind, elim_bind, Sum.elim_inl, Sum.elim_inr]
theorem f100_t3_ok : TailOk f100_fx f100_t3_b f100_t3_nd := tail_ok f100_t3_con f100_t3_get f100_t3_put f100_t3_pg (fun x => f100_t3 x.1 x.2) f100_t3_out (fun t y => rfl) (fun t y K => rfl) (fun c x => by
  refine (f100_t3_r c x).trans ((f100_t3_n _ _ _).trans ?_)
  first
  | rfl
  | congr 1
    funext s
    rfl) (fun t => rfl)
noncomputable def f100_k {R : Type} (a0 : List Int) (a1 : Int) (k : (List Int × Unit) × (Unit) → Option R) : Option R :=
 (cond (decide (a1 < (0 : Int)))
 none
 ((f100_t3 a0 a1).bind fun y7 =>
  (k ((y7, ()), ()))))
noncomputable def f100 (a0 : List Int) (a1 : Int) : Option ((List Int × Unit) × (Unit)) := f100_k a0 a1 some
noncomputable def f100_sm : Sm := ⟨[.ro (.slc (.int .i64)), .ro (.int .i64)], [((.slc (.int .i64)), (.own .ro))], fun x => f100 x.1 x.2.1⟩
theorem f100_m (x : ArgT [.ro (.slc (.int .i64)), .ro (.int .i64)]) : codeS f100_fx f100_code (start [.ro (.slc (.int .i64)), .ro (.int .i64)] [] x 48) (finK env [.tmp 4] [.ro (.slc (.int .i64)), .ro (.int .i64)] [((.slc (.int .i64)), (.own .ro))]) = f100_k x.1 x.2.1 (fun r => some (r, [])) := by kernel_rfl
theorem f100_n {R : Type} (a0 : List Int) (a1 : Int) (k : (List Int × Unit) × (Unit) → Option R) : f100_k a0 a1 k = (f100 a0 a1).bind k := by
  simp only [f100, f100_k, cond_bind, ite_bind, bind_bind, some_bind, none_bind, elim_bind]
theorem f100_f : FnOk Try.prog 100 := ⟨Try.f100, Try.func100, by kernel_rfl, by kernel_rfl⟩
theorem f100_ok : SmOk Try.prog 100 f100_sm :=
  sum_of (c := f100_fx) (fn := Try.f100) (code := f100_code) (sm := f100_sm) mixed (env_ok env_envB) (TabsOk.all ⟨⟨f131_ok, f131_f⟩, trivial⟩) Try.func100 (by kernel_rfl)
   ((LoopsOk.of (l := [f100_l8_b]) (by kernel_rfl) ⟨node_is (by kernel_rfl) f100_l8_ok, trivial⟩))
   ((TailsOk.of (l := [((tails f100_code).getD 0 .skip), f100_t3_b, ((tails f100_code).getD 2 .skip), ((tails f100_code).getD 3 .skip), f100_t6_b, ((tails f100_code).getD 5 .skip), ((tails f100_code).getD 6 .skip), ((tails f100_code).getD 7 .skip), ((tails f100_code).getD 8 .skip), ((tails f100_code).getD 9 .skip), ((tails f100_code).getD 10 .skip), ((tails f100_code).getD 11 .skip)]) (by kernel_rfl) ⟨node_no (by kernel_rfl), node_is (by kernel_rfl) f100_t3_ok, node_no (by kernel_rfl), node_no (by kernel_rfl), node_is (by kernel_rfl) f100_t6_ok, node_no (by kernel_rfl), node_no (by kernel_rfl), node_no (by kernel_rfl), node_no (by kernel_rfl), node_no (by kernel_rfl), node_no (by kernel_rfl), node_no (by kernel_rfl), trivial⟩))
   (fun ks x hl => by
    have hk : ks = [] := List.length_eq_zero_iff.1 hl
    subst hk
    exact (f100_m x).trans (f100_n _ _ _))
/-! bakelite/bakeref2.exclusive -/
noncomputable def f103_code : Code := (Try.f103.body).getD .skip
noncomputable def f103_l3_sk : SkS := ⟨[.undef, .undef, .undef, .con (.int .u8), .undef, .undef, .con (.slc (.int .u8)), .con (.int .i64), .con (.int .i64), .undef, .undef, .undef, .undef, .undef, .undef, .undef, .undef], []⟩
noncomputable def f103_l3_o0 : SkS := ⟨[.undef, .undef, .undef, .con (.int .u8), .undef, .undef, .undef, .undef, .undef, .undef, .undef, .undef, .undef, .undef, .undef, .undef, .undef], []⟩
noncomputable def f103_l3_outs : List Way := [⟨(.exit 0), [], f103_l3_o0⟩]
abbrev f103_l3_C := (List Int × Int)
abbrev f103_l3_X := (Int × Int)
abbrev f103_l3_Y := (Int)
noncomputable def f103_l3_con (t : f103_l3_sk.T) : f103_l3_C := (t.1.2.2.2.2.2.2.1, t.1.2.2.2.2.2.2.2.1)
noncomputable def f103_l3_get (t : f103_l3_sk.T) : f103_l3_X := (t.1.2.2.2.1, t.1.2.2.2.2.2.2.2.2.1)
noncomputable def f103_l3_put (c : f103_l3_C) (x : f103_l3_X) : f103_l3_sk.T := (((), ((), ((), (x.1, ((), ((), (c.1, (c.2, (x.2, ((), ((), ((), ((), ((), ((), ((), ((), ()))))))))))))))))), ())
theorem f103_l3_pg (t : f103_l3_sk.T) : f103_l3_put (f103_l3_con t) (f103_l3_get t) = t := by kernel_rfl
noncomputable def f103_l3_w0 (c : f103_l3_C) (y : Int) : f103_l3_o0.T := (((), ((), ((), (y, ((), ((), ((), ((), ((), ((), ((), ((), ((), ((), ((), ((), ((), ()))))))))))))))))), ())
noncomputable def f103_l3_out (c : f103_l3_C) (y : f103_l3_Y) : OutV f103_l3_outs := (fun y => (.inl (f103_l3_w0 c y))) y
noncomputable def f103_l3_k {R : Type} (a0 : Int) (a1 : List Int) (a2 : Int) (a3 : Int) (kin : f103_l3_X → Option R) (k0 : Int → Option R) : Option R :=
 (cond (decide (a3 < a2))
 (if (0 : Int) ≤ a3 ∧ a3 < ((List.length a1 : Nat) : Int) then (let v0 : Int := (bitop IntKind.u8 .xor a0 (List.getD a1 (Int.toNat a3) (0 : Int)))
  (let v1 : Int := (IntKind.i64.wrap (a3 + (1 : Int)))
  (kin (v0, v1)))) else none)
 (k0 a0))
noncomputable def f103_l3_g (a1 : List Int) (a2 : Int) (x : f103_l3_X) : Option (f103_l3_X ⊕ f103_l3_Y) := f103_l3_k x.1 a1 a2 x.2 (fun x => some (.inl x)) (fun y => some (.inr y))
noncomputable def f103_l3 (a1 : List Int) (a2 : Int) (x : f103_l3_X) : Option f103_l3_Y := loopO (f103_l3_g a1 a2) x
noncomputable def f103_l3_nd : Node := { nils := [], sk := f103_l3_sk, outs := f103_l3_outs, Y := f103_l3_Y, L := fun t => f103_l3 ((f103_l3_con t).1) ((f103_l3_con t).2) (f103_l3_get t), out := fun t y => f103_l3_out (f103_l3_con t) y, disp := fun t y K => (fun y => K (.exit 0) (f103_l3_o0.fill (f103_l3_w0 (f103_l3_con t) y))) y }
noncomputable def f103_fx : Fx := { E := env, T := [], H := [], O := [], nodes := [((true, 3), f103_l3_nd)] }
noncomputable def f103_l3_b : Code := (loops f103_code).getD 0 .skip
theorem f103_l3_r (c : f103_l3_C) (x : f103_l3_X) : roundS f103_fx f103_l3_b f103_l3_nd (f103_l3_put c x) = f103_l3_k x.1 c.1 c.2 x.2 (fun x => some (.inl (f103_l3_put c x))) (fun y => some (.inr (.inl (f103_l3_w0 c y)))) := by kernel_rfl
theorem f103_l3_n {R : Type} (a0 : Int) (a1 : List Int) (a2 : Int) (a3 : Int) (kin : f103_l3_X → Option R) (k0 : Int → Option R) : f103_l3_k a0 a1 a2 a3 kin k0 = (f103_l3_g a1 a2 (a0, a3)).bind (Sum.elim kin k0) := by
  simp only [f103_l3_g, f103_l3_k, cond_bind, ite_bind, bind_bind, some_bind, none_bind, elim_bind, Sum.elim_inl, Sum.elim_inr]
theorem f103_l3_ok : LoopOk f103_fx f103_l3_b f103_l3_nd := loop_ok f103_l3_con f103_l3_get f103_l3_put f103_l3_pg (fun c => f103_l3_g c.1 c.2) f103_l3_out (fun t y => rfl) (fun t y K => rfl) (fun c x => by
  refine (f103_l3_r c x).trans ((f103_l3_n _ _ _ _ _ _).trans ?_)
  first
  | rfl
  | congr 1
    funext s
    rcases s with s | s <;> rfl) (fun t => rfl)
noncomputable def f103_k {R : Type} (a0 : List Int) (k : (Int × Unit) × (Unit) → Option R) : Option R :=
 ((f103_l3 a0 ((List.length a0 : Nat) : Int) ((0 : Int), (0 : Int))).bind fun y2 =>
 (k ((y2, ()), ())))
noncomputable def f103 (a0 : List Int) : Option ((Int × Unit) × (Unit)) := f103_k a0 some
noncomputable def f103_sm : Sm := ⟨[.ro (.slc (.int .u8))], [((.int .u8), .ro)], fun x => f103 x.1⟩
theorem f103_m (x : ArgT [.ro (.slc (.int .u8))]) : codeS f103_fx f103_code (start [.ro (.slc (.int .u8))] [] x 17) (finK env [.tmp 2] [.ro (.slc (.int .u8))] [((.int .u8), .ro)]) = f103_k x.1 (fun r => some (r, [])) := by kernel_rfl
theorem f103_n {R : Type} (a0 : List Int) (k : (Int × Unit) × (Unit) → Option R) : f103_k a0 k = (f103 a0).bind k := by
  simp only [f103, f103_k, cond_bind, ite_bind, bind_bind, some_bind, none_bind, elim_bind]
theorem f103_f : FnOk Try.prog 103 := ⟨Try.f103, Try.func103, by kernel_rfl, by kernel_rfl⟩
theorem f103_ok : SmOk Try.prog 103 f103_sm :=
  sum_of (c := f103_fx) (fn := Try.f103) (code := f103_code) (sm := f103_sm) mixed (env_ok env_envB) (TabsOk.all trivial) Try.func103 (by kernel_rfl)
   ((LoopsOk.of (l := [f103_l3_b]) (by kernel_rfl) ⟨node_is (by kernel_rfl) f103_l3_ok, trivial⟩))
   (no_tails (by kernel_rfl))
   (fun ks x hl => by
    have hk : ks = [] := List.length_eq_zero_iff.1 hl
    subst hk
    exact (f103_m x).trans (f103_n _ _))
/-! slices.Grow[[]byte,byte] -/
noncomputable def f133_code : Code := (Try.f133.body).getD .skip
noncomputable def f133_fx : Fx := { E := env, T := [], H := [], O := [], nodes := [] }
noncomputable def f133_k {R : Type} (a0 : Unit) (a1 : Int) (k : (List Int × Unit) × (Unit) → Option R) : Option R :=
 (cond (decide (a1 < (0 : Int)))
 none
 (let v0 : Int := (IntKind.i64.wrap (a1 - (0 : Int)))
  (cond (decide (v0 > (0 : Int)))
  (if (0 : Int) < v0 ∧ v0 * 1 ≤ (most : Int) ∧ 0 < 1 ∧ 0 < 1 then (if (0 : Int) ≤ (0 : Int) ∧ (0 : Int) ≤ (0 : Int) ∧ (0 : Int) ≤ ((List.length (List.replicate (Int.toNat v0) (0 : Int)) : Nat) : Int) then (k (((List.take 0 (List.drop 0 (List.replicate (Int.toNat v0) (0 : Int)))), ()), ())) else none) else none)
  (k (([], ()), ())))))
noncomputable def f133 (a0 : Unit) (a1 : Int) : Option ((List Int × Unit) × (Unit)) := f133_k a0 a1 some
noncomputable def f133_sm : Sm := ⟨[.nil, .ro (.int .i64)], [((.slc (.int .u8)), (.own .ro))], fun x => f133 x.1 x.2.1⟩
theorem f133_m (x : ArgT [.nil, .ro (.int .i64)]) : codeS f133_fx f133_code (start [.nil, .ro (.int .i64)] [] x 27) (finK env [.tmp 4] [.nil, .ro (.int .i64)] [((.slc (.int .u8)), (.own .ro))]) = f133_k x.1 x.2.1 (fun r => some (r, [])) := by kernel_rfl
theorem f133_n {R : Type} (a0 : Unit) (a1 : Int) (k : (List Int × Unit) × (Unit) → Option R) : f133_k a0 a1 k = (f133 a0 a1).bind k := by
  simp only [f133, f133_k, cond_bind, ite_bind, bind_bind, some_bind, none_bind, elim_bind]
theorem f133_f : FnOk Try.prog 133 := ⟨Try.f133, Try.func133, by kernel_rfl, by kernel_rfl⟩
theorem f133_ok : SmOk Try.prog 133 f133_sm :=
  sum_of (c := f133_fx) (fn := Try.f133) (code := f133_code) (sm := f133_sm) mixed (env_ok env_envB) (TabsOk.all trivial) Try.func133 (by kernel_rfl)
   ((LoopsOk.of (l := []) (by kernel_rfl) trivial))
   (no_tails (by kernel_rfl))
   (fun ks x hl => by
    have hk : ks = [] := List.length_eq_zero_iff.1 hl
    subst hk
    exact (f133_m x).trans (f133_n _ _ _))
/-! slices.Concat[[]byte,byte] -/
noncomputable def f102_code : Code := (Try.f102.body).getD .skip
noncomputable def f102_l3_sk : SkS := ⟨[.con (.slc (.slc (.int .u8))), .undef, .undef, .con (.int .i64), .undef, .undef, .undef, .undef, .undef, .con (.slc (.slc (.int .u8))), .con (.int .i64), .con (.int .i64), .undef, .undef, .undef, .undef, .undef, .undef, .undef, .undef, .undef, .undef, .undef, .undef, .undef, .undef, .undef, .undef, .undef, .undef, .undef, .undef, .undef, .undef, .undef, .undef], []⟩
noncomputable def f102_l3_o0 : SkS := ⟨[.con (.slc (.slc (.int .u8))), .undef, .undef, .con (.int .i64), .undef, .undef, .undef, .undef, .undef, .undef, .undef, .undef, .undef, .undef, .undef, .undef, .undef, .undef, .undef, .undef, .undef, .undef, .undef, .undef, .undef, .undef, .undef, .undef, .undef, .undef, .undef, .undef, .undef, .undef, .undef, .undef], []⟩
noncomputable def f102_l3_outs : List Way := [⟨(.exit 0), [], f102_l3_o0⟩]
abbrev f102_l3_C := (List (List Int) × List (List Int) × Int)
abbrev f102_l3_X := (Int × Int)
abbrev f102_l3_Y := (Int)
noncomputable def f102_l3_con (t : f102_l3_sk.T) : f102_l3_C := (t.1.1, t.1.2.2.2.2.2.2.2.2.2.1, t.1.2.2.2.2.2.2.2.2.2.2.1)
noncomputable def f102_l3_get (t : f102_l3_sk.T) : f102_l3_X := (t.1.2.2.2.1, t.1.2.2.2.2.2.2.2.2.2.2.2.1)
noncomputable def f102_l3_put (c : f102_l3_C) (x : f102_l3_X) : f102_l3_sk.T := ((c.1, ((), ((), (x.1, ((), ((), ((), ((), ((), (c.2.1, (c.2.2, (x.2, ((), ((), ((), ((), ((), ((), ((), ((), ((), ((), ((), ((), ((), ((), ((), ((), ((), ((), ((), ((), ((), ((), ((), ((), ())))))))))))))))))))))))))))))))))))), ())
theorem f102_l3_pg (t : f102_l3_sk.T) : f102_l3_put (f102_l3_con t) (f102_l3_get t) = t := by kernel_rfl
noncomputable def f102_l3_w0 (c : f102_l3_C) (y : Int) : f102_l3_o0.T := ((c.1, ((), ((), (y, ((), ((), ((), ((), ((), ((), ((), ((), ((), ((), ((), ((), ((), ((), ((), ((), ((), ((), ((), ((), ((), ((), ((), ((), ((), ((), ((), ((), ((), ((), ((), ((), ())))))))))))))))))))))))))))))))))))), ())
noncomputable def f102_l3_out (c : f102_l3_C) (y : f102_l3_Y) : OutV f102_l3_outs := (fun y => (.inl (f102_l3_w0 c y))) y
noncomputable def f102_l3_k {R : Type} (a0 : List (List Int)) (a1 : Int) (a2 : List (List Int)) (a3 : Int) (a4 : Int) (kin : f102_l3_X → Option R) (k0 : Int → Option R) : Option R :=
 (cond (decide (a4 < a3))
 (if (0 : Int) ≤ a4 ∧ a4 < ((List.length a2 : Nat) : Int) then (let v0 : Int := (IntKind.i64.wrap (a1 + ((List.length (List.getD a2 (Int.toNat a4) ([] : List Int)) : Nat) : Int)))
  (cond (decide (v0 < (0 : Int)))
  none
  (let v1 : Int := (IntKind.i64.wrap (a4 + (1 : Int)))
   (kin (v0, v1))))) else none)
 (k0 a1))
noncomputable def f102_l3_g (a0 : List (List Int)) (a2 : List (List Int)) (a3 : Int) (x : f102_l3_X) : Option (f102_l3_X ⊕ f102_l3_Y) := f102_l3_k a0 x.1 a2 a3 x.2 (fun x => some (.inl x)) (fun y => some (.inr y))
noncomputable def f102_l3 (a0 : List (List Int)) (a2 : List (List Int)) (a3 : Int) (x : f102_l3_X) : Option f102_l3_Y := loopO (f102_l3_g a0 a2 a3) x
noncomputable def f102_l3_nd : Node := { nils := [], sk := f102_l3_sk, outs := f102_l3_outs, Y := f102_l3_Y, L := fun t => f102_l3 ((f102_l3_con t).1) ((f102_l3_con t).2.1) ((f102_l3_con t).2.2) (f102_l3_get t), out := fun t y => f102_l3_out (f102_l3_con t) y, disp := fun t y K => (fun y => K (.exit 0) (f102_l3_o0.fill (f102_l3_w0 (f102_l3_con t) y))) y }
noncomputable def f102_l11_sk : SkS := ⟨[.undef, .undef, .undef, .undef, .undef, .undef, .ref 111 [], .undef, .undef, .undef, .undef, .undef, .undef, .undef, .undef, .undef, .undef, .undef, .undef, .undef, .undef, .undef, .undef, .undef, .undef, .con (.slc (.slc (.int .u8))), .con (.int .i64), .con (.int .i64), .undef, .undef, .undef, .undef, .undef, .undef, .undef, .undef], [(111, ⟨none, (.slc (.int .u8)), (.own .ro)⟩)]⟩
noncomputable def f102_l11_o0 : SkS := ⟨[.undef, .undef, .undef, .undef, .undef, .undef, .ref 111 [], .undef, .undef, .undef, .undef, .undef, .undef, .undef, .undef, .undef, .undef, .undef, .undef, .undef, .undef, .undef, .undef, .undef, .undef, .undef, .undef, .undef, .undef, .undef, .undef, .undef, .undef, .undef, .undef, .undef], [(111, ⟨none, (.slc (.int .u8)), (.own .ro)⟩)]⟩
noncomputable def f102_l11_outs : List Way := [⟨(.exit 2), [], f102_l11_o0⟩]
abbrev f102_l11_C := (List (List Int) × Int)
abbrev f102_l11_X := (Int × List Int)
abbrev f102_l11_Y := (List Int)
noncomputable def f102_l11_con (t : f102_l11_sk.T) : f102_l11_C := (t.1.2.2.2.2.2.2.2.2.2.2.2.2.2.2.2.2.2.2.2.2.2.2.2.2.2.1, t.1.2.2.2.2.2.2.2.2.2.2.2.2.2.2.2.2.2.2.2.2.2.2.2.2.2.2.1)
noncomputable def f102_l11_get (t : f102_l11_sk.T) : f102_l11_X := (t.1.2.2.2.2.2.2.2.2.2.2.2.2.2.2.2.2.2.2.2.2.2.2.2.2.2.2.2.1, t.2.1.1)
noncomputable def f102_l11_put (c : f102_l11_C) (x : f102_l11_X) : f102_l11_sk.T := (((), ((), ((), ((), ((), ((), ((), ((), ((), ((), ((), ((), ((), ((), ((), ((), ((), ((), ((), ((), ((), ((), ((), ((), ((), (c.1, (c.2, (x.1, ((), ((), ((), ((), ((), ((), ((), ((), ())))))))))))))))))))))))))))))))))))), ((x.2, ()), ()))
theorem f102_l11_pg (t : f102_l11_sk.T) : f102_l11_put (f102_l11_con t) (f102_l11_get t) = t := by kernel_rfl
noncomputable def f102_l11_w0 (c : f102_l11_C) (y : List Int) : f102_l11_o0.T := (((), ((), ((), ((), ((), ((), ((), ((), ((), ((), ((), ((), ((), ((), ((), ((), ((), ((), ((), ((), ((), ((), ((), ((), ((), ((), ((), ((), ((), ((), ((), ((), ((), ((), ((), ((), ())))))))))))))))))))))))))))))))))))), ((y, ()), ()))
noncomputable def f102_l11_out (c : f102_l11_C) (y : f102_l11_Y) : OutV f102_l11_outs := (fun y => (.inl (f102_l11_w0 c y))) y
noncomputable def f102_l11_k {R : Type} (a0 : List (List Int)) (a1 : Int) (a2 : Int) (a3 : List Int) (kin : f102_l11_X → Option R) (k0 : List Int → Option R) : Option R :=
 (cond (decide (a2 < a1))
 (if (0 : Int) ≤ a2 ∧ a2 < ((List.length a0 : Nat) : Int) then (if (List.length a3 + List.length (List.getD a0 (Int.toNat a2) ([] : List Int))) * 1 ≤ most ∧ 0 < 1 ∧ 0 < 1 then (let r4 : List Int := (a3 ++ (List.getD a0 (Int.toNat a2) ([] : List Int)))
  (let v5 : Int := (IntKind.i64.wrap (a2 + (1 : Int)))
  (kin (v5, r4)))) else none) else none)
 (k0 a3))
noncomputable def f102_l11_g (a0 : List (List Int)) (a1 : Int) (x : f102_l11_X) : Option (f102_l11_X ⊕ f102_l11_Y) := f102_l11_k a0 a1 x.1 x.2 (fun x => some (.inl x)) (fun y => some (.inr y))
noncomputable def f102_l11 (a0 : List (List Int)) (a1 : Int) (x : f102_l11_X) : Option f102_l11_Y := loopO (f102_l11_g a0 a1) x
noncomputable def f102_l11_nd : Node := { nils := [(6, 111, (.int .u8), .ro)], sk := f102_l11_sk, outs := f102_l11_outs, Y := f102_l11_Y, L := fun t => f102_l11 ((f102_l11_con t).1) ((f102_l11_con t).2) (f102_l11_get t), out := fun t y => f102_l11_out (f102_l11_con t) y, disp := fun t y K => (fun y => K (.exit 2) (f102_l11_o0.fill (f102_l11_w0 (f102_l11_con t) y))) y }
noncomputable def f102_fx : Fx := { E := env, T := [(133, f133_sm)], H := [], O := [], nodes := [((true, 3), f102_l3_nd), ((true, 11), f102_l11_nd)] }
noncomputable def f102_l3_b : Code := (loops f102_code).getD 0 .skip
theorem f102_l3_r (c : f102_l3_C) (x : f102_l3_X) : roundS f102_fx f102_l3_b f102_l3_nd (f102_l3_put c x) = f102_l3_k c.1 x.1 c.2.1 c.2.2 x.2 (fun x => some (.inl (f102_l3_put c x))) (fun y => some (.inr (.inl (f102_l3_w0 c y)))) := by kernel_rfl
theorem f102_l3_n {R : Type} (a0 : List (List Int)) (a1 : Int) (a2 : List (List Int)) (a3 : Int) (a4 : Int) (kin : f102_l3_X → Option R) (k0 : Int → Option R) : f102_l3_k a0 a1 a2 a3 a4 kin k0 = (f102_l3_g a0 a2 a3 (a1, a4)).bind (Sum.elim kin k0) := by
  simp only [f102_l3_g, f102_l3_k, cond_bind, ite_bind, bind_bind, some_bind, none_bind, elim_bind, Sum.elim_inl, Sum.elim_inr]
theorem f102_l3_ok : LoopOk f102_fx f102_l3_b f102_l3_nd := loop_ok f102_l3_con f102_l3_get f102_l3_put f102_l3_pg (fun c => f102_l3_g c.1 c.2.1 c.2.2) f102_l3_out (fun t y => rfl) (fun t y K => rfl) (fun c x => by
  refine (f102_l3_r c x).trans ((f102_l3_n _ _ _ _ _ _ _).trans ?_)
  first
  | rfl
  | congr 1
    funext s
    rcases s with s | s <;> rfl) (fun t => rfl)
noncomputable def f102_l11_b : Code := (loops f102_code).getD 1 .skip
theorem f102_l11_r (c : f102_l11_C) (x : f102_l11_X) : roundS f102_fx f102_l11_b f102_l11_nd (f102_l11_put c x) = f102_l11_k c.1 c.2 x.1 x.2 (fun x => some (.inl (f102_l11_put c x))) (fun y => some (.inr (.inl (f102_l11_w0 c y)))) := by kernel_rfl
theorem f102_l11_n {R : Type} (a0 : List (List Int)) (a1 : Int) (a2 : Int) (a3 : List Int) (kin : f102_l11_X → Option R) (k0 : List Int → Option R) : f102_l11_k a0 a1 a2 a3 kin k0 = (f102_l11_g a0 a1 (a2, a3)).bind (Sum.elim kin k0) := by
  simp only [f102_l11_g, f102_l11_k, cond_bind, ite_bind, bind_bind, some_bind, none_bind, elim_bind, Sum.elim_inl, Sum.elim_inr]
theorem f102_l11_ok : LoopOk f102_fx f102_l11_b f102_l11_nd := loop_ok f102_l11_con f102_l11_get f102_l11_put f102_l11_pg (fun c => f102_l11_g c.1 c.2) f102_l11_out (fun t y => rfl) (fun t y K => rfl) (fun c x => by
  refine (f102_l11_r c x).trans ((f102_l11_n _ _ _ _ _ _).trans ?_)
  first
  | rfl
  | congr 1
    funext s
    rcases s with s | s <;> rfl) (fun t => rfl)
noncomputable def f102_k {R : Type} (a0 : List (List Int)) (k : (List Int × Unit) × (Unit) → Option R) : Option R :=
 ((f102_l3 a0 a0 ((List.length a0 : Nat) : Int) ((0 : Int), (0 : Int))).bind fun y2 =>
 ((f133 () y2).bind fun r3 =>
 ((f102_l11 a0 ((List.length a0 : Nat) : Int) ((0 : Int), r3.1.1)).bind fun y6 =>
 (k ((y6, ()), ())))))
noncomputable def f102 (a0 : List (List Int)) : Option ((List Int × Unit) × (Unit)) := f102_k a0 some
noncomputable def f102_sm : Sm := ⟨[.ro (.slc (.slc (.int .u8)))], [((.slc (.int .u8)), (.own .ro))], fun x => f102 x.1⟩
theorem f102_m (x : ArgT [.ro (.slc (.slc (.int .u8)))]) : codeS f102_fx f102_code (start [.ro (.slc (.slc (.int .u8)))] [] x 36) (finK env [.tmp 2] [.ro (.slc (.slc (.int .u8)))] [((.slc (.int .u8)), (.own .ro))]) = f102_k x.1 (fun r => some (r, [])) := by kernel_rfl
theorem f102_n {R : Type} (a0 : List (List Int)) (k : (List Int × Unit) × (Unit) → Option R) : f102_k a0 k = (f102 a0).bind k := by
  simp only [f102, f102_k, cond_bind, ite_bind, bind_bind, some_bind, none_bind, elim_bind]
theorem f102_f : FnOk Try.prog 102 := ⟨Try.f102, Try.func102, by kernel_rfl, by kernel_rfl⟩
theorem f102_ok : SmOk Try.prog 102 f102_sm :=
  sum_of (c := f102_fx) (fn := Try.f102) (code := f102_code) (sm := f102_sm) mixed (env_ok env_envB) (TabsOk.all ⟨⟨f133_ok, f133_f⟩, trivial⟩) Try.func102 (by kernel_rfl)
   ((LoopsOk.of (l := [f102_l3_b, f102_l11_b]) (by kernel_rfl) ⟨node_is (by kernel_rfl) f102_l3_ok, node_is (by kernel_rfl) f102_l11_ok, trivial⟩))
   (no_tails (by kernel_rfl))
   (fun ks x hl => by
    have hk : ks = [] := List.length_eq_zero_iff.1 hl
    subst hk
    exact (f102_m x).trans (f102_n _ _))
/-! bakelite/bakeref2.Bits -/
noncomputable def f101_code : Code := (Try.f101.body).getD .skip
noncomputable def f101_l6_sk : SkS := ⟨[.undef, .undef, .undef, .ref 63 [], .undef, .con (.int .u8), .undef, .con (.slc (.int .u8)), .con (.int .i64), .con (.int .i64), .undef, .undef, .undef, .con (.int .i64), .undef, .undef, .undef, .undef, .undef, .undef, .undef, .undef, .undef, .undef, .undef, .undef], [(63, ⟨none, (.slc .bool), (.own .ro)⟩)]⟩
noncomputable def f101_l6_o0 : SkS := ⟨[.undef, .undef, .undef, .ref 63 [], .undef, .undef, .undef, .con (.slc (.int .u8)), .con (.int .i64), .con (.int .i64), .undef, .undef, .undef, .undef, .undef, .undef, .undef, .undef, .undef, .undef, .undef, .undef, .undef, .undef, .undef, .undef], [(63, ⟨none, (.slc .bool), (.own .ro)⟩)]⟩
noncomputable def f101_l6_outs : List Way := [⟨(.exit 2), [], f101_l6_o0⟩]
abbrev f101_l6_C := (Int × List Int × Int × Int)
abbrev f101_l6_X := (Int × List Bool)
abbrev f101_l6_Y := (List Bool)
noncomputable def f101_l6_con (t : f101_l6_sk.T) : f101_l6_C := (t.1.2.2.2.2.2.1, t.1.2.2.2.2.2.2.2.1, t.1.2.2.2.2.2.2.2.2.1, t.1.2.2.2.2.2.2.2.2.2.1)
noncomputable def f101_l6_get (t : f101_l6_sk.T) : f101_l6_X := (t.1.2.2.2.2.2.2.2.2.2.2.2.2.2.1, t.2.1.1)
noncomputable def f101_l6_put (c : f101_l6_C) (x : f101_l6_X) : f101_l6_sk.T := (((), ((), ((), ((), ((), (c.1, ((), (c.2.1, (c.2.2.1, (c.2.2.2, ((), ((), ((), (x.1, ((), ((), ((), ((), ((), ((), ((), ((), ((), ((), ((), ((), ())))))))))))))))))))))))))), ((x.2, ()), ()))
theorem f101_l6_pg (t : f101_l6_sk.T) : f101_l6_put (f101_l6_con t) (f101_l6_get t) = t := by kernel_rfl
noncomputable def f101_l6_w0 (c : f101_l6_C) (y : List Bool) : f101_l6_o0.T := (((), ((), ((), ((), ((), ((), ((), (c.2.1, (c.2.2.1, (c.2.2.2, ((), ((), ((), ((), ((), ((), ((), ((), ((), ((), ((), ((), ((), ((), ((), ((), ())))))))))))))))))))))))))), ((y, ()), ()))
noncomputable def f101_l6_out (c : f101_l6_C) (y : f101_l6_Y) : OutV f101_l6_outs := (fun y => (.inl (f101_l6_w0 c y))) y
noncomputable def f101_l6_k {R : Type} (a0 : Int) (a1 : List Int) (a2 : Int) (a3 : Int) (a4 : Int) (a5 : List Bool) (kin : f101_l6_X → Option R) (k0 : List Bool → Option R) : Option R :=
 (cond (decide (a4 < (8 : Int)))
 (if a4 < 0 then none else (let v0 : Int := (IntKind.u8.wrap (a0 * 2 ^ (min (Int.toNat a4) 8)))
  (if (List.length a5 + 1) * 1 ≤ most ∧ 0 < 1 ∧ 0 < 1 then (let r1 : List Bool := (a5 ++ [(decide (v0 ≥ (128 : Int)))])
  (let v2 : Int := (IntKind.i64.wrap (a4 + (1 : Int)))
  (kin (v2, r1)))) else none)))
 (k0 a5))
noncomputable def f101_l6_g (a0 : Int) (a1 : List Int) (a2 : Int) (a3 : Int) (x : f101_l6_X) : Option (f101_l6_X ⊕ f101_l6_Y) := f101_l6_k a0 a1 a2 a3 x.1 x.2 (fun x => some (.inl x)) (fun y => some (.inr y))
noncomputable def f101_l6 (a0 : Int) (a1 : List Int) (a2 : Int) (a3 : Int) (x : f101_l6_X) : Option f101_l6_Y := loopO (f101_l6_g a0 a1 a2 a3) x
noncomputable def f101_l6_nd : Node := { nils := [(3, 63, .bool, .ro)], sk := f101_l6_sk, outs := f101_l6_outs, Y := f101_l6_Y, L := fun t => f101_l6 ((f101_l6_con t).1) ((f101_l6_con t).2.1) ((f101_l6_con t).2.2.1) ((f101_l6_con t).2.2.2) (f101_l6_get t), out := fun t y => f101_l6_out (f101_l6_con t) y, disp := fun t y K => (fun y => K (.exit 2) (f101_l6_o0.fill (f101_l6_w0 (f101_l6_con t) y))) y }
noncomputable def f101_l3_sk : SkS := ⟨[.undef, .undef, .undef, .ref 63 [], .undef, .undef, .undef, .con (.slc (.int .u8)), .con (.int .i64), .con (.int .i64), .undef, .undef, .undef, .undef, .undef, .undef, .undef, .undef, .undef, .undef, .undef, .undef, .undef, .undef, .undef, .undef], [(63, ⟨none, (.slc .bool), (.own .ro)⟩)]⟩
noncomputable def f101_l3_o0 : SkS := ⟨[.undef, .undef, .undef, .ref 63 [], .undef, .undef, .undef, .undef, .undef, .undef, .undef, .undef, .undef, .undef, .undef, .undef, .undef, .undef, .undef, .undef, .undef, .undef, .undef, .undef, .undef, .undef], [(63, ⟨none, (.slc .bool), (.own .ro)⟩)]⟩
noncomputable def f101_l3_outs : List Way := [⟨(.exit 0), [], f101_l3_o0⟩]
abbrev f101_l3_C := (List Int × Int)
abbrev f101_l3_X := (Int × List Bool)
abbrev f101_l3_Y := (List Bool)
noncomputable def f101_l3_con (t : f101_l3_sk.T) : f101_l3_C := (t.1.2.2.2.2.2.2.2.1, t.1.2.2.2.2.2.2.2.2.1)
noncomputable def f101_l3_get (t : f101_l3_sk.T) : f101_l3_X := (t.1.2.2.2.2.2.2.2.2.2.1, t.2.1.1)
noncomputable def f101_l3_put (c : f101_l3_C) (x : f101_l3_X) : f101_l3_sk.T := (((), ((), ((), ((), ((), ((), ((), (c.1, (c.2, (x.1, ((), ((), ((), ((), ((), ((), ((), ((), ((), ((), ((), ((), ((), ((), ((), ((), ())))))))))))))))))))))))))), ((x.2, ()), ()))
theorem f101_l3_pg (t : f101_l3_sk.T) : f101_l3_put (f101_l3_con t) (f101_l3_get t) = t := by kernel_rfl
noncomputable def f101_l3_w0 (c : f101_l3_C) (y : List Bool) : f101_l3_o0.T := (((), ((), ((), ((), ((), ((), ((), ((), ((), ((), ((), ((), ((), ((), ((), ((), ((), ((), ((), ((), ((), ((), ((), ((), ((), ((), ())))))))))))))))))))))))))), ((y, ()), ()))
noncomputable def f101_l3_out (c : f101_l3_C) (y : f101_l3_Y) : OutV f101_l3_outs := (fun y => (.inl (f101_l3_w0 c y))) y
noncomputable def f101_l3_k {R : Type} (a0 : List Int) (a1 : Int) (a2 : Int) (a3 : List Bool) (kin : f101_l3_X → Option R) (k0 : List Bool → Option R) : Option R :=
 (cond (decide (a2 < a1))
 (if (0 : Int) ≤ a2 ∧ a2 < ((List.length a0 : Nat) : Int) then ((f101_l6 (List.getD a0 (Int.toNat a2) (0 : Int)) a0 a1 a2 ((0 : Int), a3)).bind fun y3 =>
  (let v4 : Int := (IntKind.i64.wrap (a2 + (1 : Int)))
  (kin (v4, y3)))) else none)
 (k0 a3))
noncomputable def f101_l3_g (a0 : List Int) (a1 : Int) (x : f101_l3_X) : Option (f101_l3_X ⊕ f101_l3_Y) := f101_l3_k a0 a1 x.1 x.2 (fun x => some (.inl x)) (fun y => some (.inr y))
noncomputable def f101_l3 (a0 : List Int) (a1 : Int) (x : f101_l3_X) : Option f101_l3_Y := loopO (f101_l3_g a0 a1) x
noncomputable def f101_l3_nd : Node := { nils := [(3, 63, .bool, .ro)], sk := f101_l3_sk, outs := f101_l3_outs, Y := f101_l3_Y, L := fun t => f101_l3 ((f101_l3_con t).1) ((f101_l3_con t).2) (f101_l3_get t), out := fun t y => f101_l3_out (f101_l3_con t) y, disp := fun t y K => (fun y => K (.exit 0) (f101_l3_o0.fill (f101_l3_w0 (f101_l3_con t) y))) y }
noncomputable def f101_fx : Fx := { E := env, T := [], H := [], O := [], nodes := [((true, 6), f101_l6_nd), ((true, 3), f101_l3_nd)] }
noncomputable def f101_l6_b : Code := (loops f101_code).getD 1 .skip
theorem f101_l6_r (c : f101_l6_C) (x : f101_l6_X) : roundS f101_fx f101_l6_b f101_l6_nd (f101_l6_put c x) = f101_l6_k c.1 c.2.1 c.2.2.1 c.2.2.2 x.1 x.2 (fun x => some (.inl (f101_l6_put c x))) (fun y => some (.inr (.inl (f101_l6_w0 c y)))) := by kernel_rfl
theorem f101_l6_n {R : Type} (a0 : Int) (a1 : List Int) (a2 : Int) (a3 : Int) (a4 : Int) (a5 : List Bool) (kin : f101_l6_X → Option R) (k0 : List Bool → Option R) : f101_l6_k a0 a1 a2 a3 a4 a5 kin k0 = (f101_l6_g a0 a1 a2 a3 (a4, a5)).bind (Sum.elim kin k0) := by
  simp only [f101_l6_g, f101_l6_k, cond_bind, ite_bind, bind_bind, some_bind, none_bind, elim_bind, Sum.elim_inl, Sum.elim_inr]
theorem f101_l6_ok : LoopOk f101_fx f101_l6_b f101_l6_nd := loop_ok f101_l6_con f101_l6_get f101_l6_put f101_l6_pg (fun c => f101_l6_g c.1 c.2.1 c.2.2.1 c.2.2.2) f101_l6_out (fun t y => rfl) (fun t y K => rfl) (fun c x => by
  refine (f101_l6_r c x).trans ((f101_l6_n _ _ _ _ _ _ _ _).trans ?_)
  first
  | rfl
  | congr 1
    funext s
    rcases s with s | s <;> rfl) (fun t => rfl)
noncomputable def f101_l3_b : Code := (loops f101_code).getD 0 .skip
theorem f101_l3_r (c : f101_l3_C) (x : f101_l3_X) : roundS f101_fx f101_l3_b f101_l3_nd (f101_l3_put c x) = f101_l3_k c.1 c.2 x.1 x.2 (fun x => some (.inl (f101_l3_put c x))) (fun y => some (.inr (.inl (f101_l3_w0 c y)))) := by kernel_rfl
theorem f101_l3_n {R : Type} (a0 : List Int) (a1 : Int) (a2 : Int) (a3 : List Bool) (kin : f101_l3_X → Option R) (k0 : List Bool → Option R) : f101_l3_k a0 a1 a2 a3 kin k0 = (f101_l3_g a0 a1 (a2, a3)).bind (Sum.elim kin k0) := by
  simp only [f101_l3_g, f101_l3_k, cond_bind, ite_bind, bind_bind, some_bind, none_bind, elim_bind, Sum.elim_inl, Sum.elim_inr]
theorem f101_l3_ok : LoopOk f101_fx f101_l3_b f101_l3_nd := loop_ok f101_l3_con f101_l3_get f101_l3_put f101_l3_pg (fun c => f101_l3_g c.1 c.2) f101_l3_out (fun t y => rfl) (fun t y K => rfl) (fun c x => by
  refine (f101_l3_r c x).trans ((f101_l3_n _ _ _ _ _ _).trans ?_)
  first
  | rfl
  | congr 1
    funext s
    rcases s with s | s <;> rfl) (fun t => rfl)
noncomputable def f101_k {R : Type} (a0 : List Int) (k : (List Bool × Unit) × (Unit) → Option R) : Option R :=
 ((f101_l3 a0 ((List.length a0 : Nat) : Int) ((0 : Int), [])).bind fun y5 =>
 (k ((y5, ()), ())))
noncomputable def f101 (a0 : List Int) : Option ((List Bool × Unit) × (Unit)) := f101_k a0 some
noncomputable def f101_sm : Sm := ⟨[.ro (.slc (.int .u8))], [((.slc .bool), (.own .ro))], fun x => f101 x.1⟩
theorem f101_m (x : ArgT [.ro (.slc (.int .u8))]) : codeS f101_fx f101_code (start [.ro (.slc (.int .u8))] [] x 26) (finK env [.tmp 2] [.ro (.slc (.int .u8))] [((.slc .bool), (.own .ro))]) = f101_k x.1 (fun r => some (r, [])) := by kernel_rfl
theorem f101_n {R : Type} (a0 : List Int) (k : (List Bool × Unit) × (Unit) → Option R) : f101_k a0 k = (f101 a0).bind k := by
  simp only [f101, f101_k, cond_bind, ite_bind, bind_bind, some_bind, none_bind, elim_bind]
theorem f101_f : FnOk Try.prog 101 := ⟨Try.f101, Try.func101, by kernel_rfl, by kernel_rfl⟩
theorem f101_ok : SmOk Try.prog 101 f101_sm :=
  sum_of (c := f101_fx) (fn := Try.f101) (code := f101_code) (sm := f101_sm) mixed (env_ok env_envB) (TabsOk.all trivial) Try.func101 (by kernel_rfl)
   ((LoopsOk.of (l := [f101_l3_b, f101_l6_b]) (by kernel_rfl) ⟨node_is (by kernel_rfl) f101_l3_ok, node_is (by kernel_rfl) f101_l6_ok, trivial⟩))
   (no_tails (by kernel_rfl))
   (fun ks x hl => by
    have hk : ks = [] := List.length_eq_zero_iff.1 hl
    subst hk
    exact (f101_m x).trans (f101_n _ _))
/-! bakelite/bakeref2.Taped -/
noncomputable def f44_code : Code := (Try.f44.body).getD .skip
noncomputable def f44_l9_sk : SkS := ⟨[.undef, .undef, .undef, .ref 63 [], .undef, .ptr 80 [], .undef, .undef, .undef, .undef, .con (.slc (.pair (.int .i64) (.pair (.slc (.int .u8)) .unit))), .con (.int .i64), .con (.int .i64), .undef, .undef, .undef, .undef, .undef, .undef, .undef, .undef, .undef, .undef, .undef, .undef, .undef, .undef, .undef, .undef, .undef, .undef, .undef, .undef, .undef, .undef, .undef, .undef, .undef, .undef, .undef, .undef, .undef, .undef, .undef, .undef, .undef, .undef, .ref 752 [], .con (.int .i64), .con (.int .i64), .undef, .undef, .undef, .undef, .undef, .undef, .undef, .undef, .undef, .undef, .undef, .undef, .undef, .undef, .undef, .undef, .undef], [(63, ⟨none, (.slc (.int .i64)), (.own .ro)⟩), (80, ⟨some 61, (.pair (.int .i64) (.pair (.slc (.int .u8)) .unit)), .ro⟩), (752, ⟨none, (.slc .bool), (.own .ro)⟩)]⟩
noncomputable def f44_l9_o0 : SkS := ⟨[.undef, .undef, .undef, .ref 63 [], .undef, .undef, .undef, .undef, .undef, .undef, .con (.slc (.pair (.int .i64) (.pair (.slc (.int .u8)) .unit))), .con (.int .i64), .con (.int .i64), .undef, .undef, .undef, .undef, .undef, .undef, .undef, .undef, .undef, .undef, .undef, .undef, .undef, .undef, .undef, .undef, .undef, .undef, .undef, .undef, .undef, .undef, .undef, .undef, .undef, .undef, .undef, .undef, .undef, .undef, .undef, .undef, .undef, .undef, .undef, .undef, .undef, .undef, .undef, .undef, .undef, .undef, .undef, .undef, .undef, .undef, .undef, .undef, .undef, .undef, .undef, .undef, .undef, .undef], [(63, ⟨none, (.slc (.int .i64)), (.own .ro)⟩)]⟩
noncomputable def f44_l9_outs : List Way := [⟨(.exit 2), [], f44_l9_o0⟩]
abbrev f44_l9_C := (List (Int × (List Int × Unit)) × Int × Int × Int × (Int × (List Int × Unit)) × List Bool × (Option Nat))
abbrev f44_l9_X := (Int × List Int)
abbrev f44_l9_Y := (List Int)
noncomputable def f44_l9_con (t : f44_l9_sk.T) : f44_l9_C := (t.1.2.2.2.2.2.2.2.2.2.2.1, t.1.2.2.2.2.2.2.2.2.2.2.2.1, t.1.2.2.2.2.2.2.2.2.2.2.2.2.1, t.1.2.2.2.2.2.2.2.2.2.2.2.2.2.2.2.2.2.2.2.2.2.2.2.2.2.2.2.2.2.2.2.2.2.2.2.2.2.2.2.2.2.2.2.2.2.2.2.2.1, t.2.2.1.1, t.2.2.2.1.1, t.2.2.1.2)
noncomputable def f44_l9_get (t : f44_l9_sk.T) : f44_l9_X := (t.1.2.2.2.2.2.2.2.2.2.2.2.2.2.2.2.2.2.2.2.2.2.2.2.2.2.2.2.2.2.2.2.2.2.2.2.2.2.2.2.2.2.2.2.2.2.2.2.2.2.1, t.2.1.1)
noncomputable def f44_l9_put (c : f44_l9_C) (x : f44_l9_X) : f44_l9_sk.T := (((), ((), ((), ((), ((), ((), ((), ((), ((), ((), (c.1, (c.2.1, (c.2.2.1, ((), ((), ((), ((), ((), ((), ((), ((), ((), ((), ((), ((), ((), ((), ((), ((), ((), ((), ((), ((), ((), ((), ((), ((), ((), ((), ((), ((), ((), ((), ((), ((), ((), ((), ((), (c.2.2.2.1, (x.1, ((), ((), ((), ((), ((), ((), ((), ((), ((), ((), ((), ((), ((), ((), ((), ((), ((), ()))))))))))))))))))))))))))))))))))))))))))))))))))))))))))))))))))), ((x.2, ()), ((c.2.2.2.2.1, c.2.2.2.2.2.2), ((c.2.2.2.2.2.1, ()), ()))))
theorem f44_l9_pg (t : f44_l9_sk.T) : f44_l9_put (f44_l9_con t) (f44_l9_get t) = t := by kernel_rfl
noncomputable def f44_l9_w0 (c : f44_l9_C) (y : List Int) : f44_l9_o0.T := (((), ((), ((), ((), ((), ((), ((), ((), ((), ((), (c.1, (c.2.1, (c.2.2.1, ((), ((), ((), ((), ((), ((), ((), ((), ((), ((), ((), ((), ((), ((), ((), ((), ((), ((), ((), ((), ((), ((), ((), ((), ((), ((), ((), ((), ((), ((), ((), ((), ((), ((), ((), ((), ((), ((), ((), ((), ((), ((), ((), ((), ((), ((), ((), ((), ((), ((), ((), ((), ((), ((), ()))))))))))))))))))))))))))))))))))))))))))))))))))))))))))))))))))), ((y, ()), ()))
noncomputable def f44_l9_out (c : f44_l9_C) (y : f44_l9_Y) : OutV f44_l9_outs := (fun y => (.inl (f44_l9_w0 c y))) y
noncomputable def f44_l9_k {R : Type} (a0 : List (Int × (List Int × Unit))) (a1 : Int) (a2 : Int) (a3 : Int) (a4 : Int) (a5 : List Int) (a6 : (Int × (List Int × Unit))) (a7 : List Bool) (kin : f44_l9_X → Option R) (k0 : List Int → Option R) : Option R :=
 (cond (decide (a4 < a3))
 (if (0 : Int) ≤ a4 ∧ a4 < ((List.length a7 : Nat) : Int) then (let v10 : Int := (IntKind.i64.wrap ((2 : Int) * a6.1))
  (cond (List.getD a7 (Int.toNat a4) false)
  (let v11 : Int := (IntKind.i64.wrap (v10 * (2 : Int)))
   (if (List.length a5 + 2) * 8 ≤ most ∧ 0 < 8 ∧ 0 < 1 then (let r12 : List Int := (a5 ++ [v11, v11])
   (let v13 : Int := (IntKind.i64.wrap (a4 + (1 : Int)))
   (kin (v13, r12)))) else none))
  (if (List.length a5 + 2) * 8 ≤ most ∧ 0 < 8 ∧ 0 < 1 then (let r14 : List Int := (a5 ++ [v10, v10])
   (let v15 : Int := (IntKind.i64.wrap (a4 + (1 : Int)))
   (kin (v15, r14)))) else none))) else none)
 (k0 a5))
noncomputable def f44_l9_g (a0 : List (Int × (List Int × Unit))) (a1 : Int) (a2 : Int) (a3 : Int) (a6 : (Int × (List Int × Unit))) (a7 : List Bool) (x : f44_l9_X) : Option (f44_l9_X ⊕ f44_l9_Y) := f44_l9_k a0 a1 a2 a3 x.1 x.2 a6 a7 (fun x => some (.inl x)) (fun y => some (.inr y))
noncomputable def f44_l9 (a0 : List (Int × (List Int × Unit))) (a1 : Int) (a2 : Int) (a3 : Int) (a6 : (Int × (List Int × Unit))) (a7 : List Bool) (x : f44_l9_X) : Option f44_l9_Y := loopO (f44_l9_g a0 a1 a2 a3 a6 a7) x
noncomputable def f44_l9_nd : Node := { nils := [(3, 63, (.int .i64), .ro)], sk := f44_l9_sk, outs := f44_l9_outs, Y := f44_l9_Y, L := fun t => f44_l9 ((f44_l9_con t).1) ((f44_l9_con t).2.1) ((f44_l9_con t).2.2.1) ((f44_l9_con t).2.2.2.1) ((f44_l9_con t).2.2.2.2.1) ((f44_l9_con t).2.2.2.2.2.1) (f44_l9_get t), out := fun t y => f44_l9_out (f44_l9_con t) y, disp := fun t y K => (fun y => K (.exit 2) (f44_l9_o0.fill (f44_l9_w0 (f44_l9_con t) y))) y }
noncomputable def f44_l3_sk : SkS := ⟨[.undef, .undef, .undef, .ref 63 [], .undef, .undef, .undef, .undef, .undef, .undef, .con (.slc (.pair (.int .i64) (.pair (.slc (.int .u8)) .unit))), .con (.int .i64), .con (.int .i64), .undef, .undef, .undef, .undef, .undef, .undef, .undef, .undef, .undef, .undef, .undef, .undef, .undef, .undef, .undef, .undef, .undef, .undef, .undef, .undef, .undef, .undef, .undef, .undef, .undef, .undef, .undef, .undef, .undef, .undef, .undef, .undef, .undef, .undef, .undef, .undef, .undef, .undef, .undef, .undef, .undef, .undef, .undef, .undef, .undef, .undef, .undef, .undef, .undef, .undef, .undef, .undef, .undef, .undef], [(63, ⟨none, (.slc (.int .i64)), (.own .ro)⟩)]⟩
noncomputable def f44_l3_o0 : SkS := ⟨[.undef, .undef, .undef, .ref 63 [], .undef, .undef, .undef, .undef, .undef, .undef, .undef, .undef, .undef, .undef, .undef, .undef, .undef, .undef, .undef, .undef, .undef, .undef, .undef, .undef, .undef, .undef, .undef, .undef, .undef, .undef, .undef, .undef, .undef, .undef, .undef, .undef, .undef, .undef, .undef, .undef, .undef, .undef, .undef, .undef, .undef, .undef, .undef, .undef, .undef, .undef, .undef, .undef, .undef, .undef, .undef, .undef, .undef, .undef, .undef, .undef, .undef, .undef, .undef, .undef, .undef, .undef, .undef], [(63, ⟨none, (.slc (.int .i64)), (.own .ro)⟩)]⟩
noncomputable def f44_l3_outs : List Way := [⟨(.exit 0), [], f44_l3_o0⟩]
abbrev f44_l3_C := (List (Int × (List Int × Unit)) × Int)
abbrev f44_l3_X := (Int × List Int)
abbrev f44_l3_Y := (List Int)
noncomputable def f44_l3_con (t : f44_l3_sk.T) : f44_l3_C := (t.1.2.2.2.2.2.2.2.2.2.2.1, t.1.2.2.2.2.2.2.2.2.2.2.2.1)
noncomputable def f44_l3_get (t : f44_l3_sk.T) : f44_l3_X := (t.1.2.2.2.2.2.2.2.2.2.2.2.2.1, t.2.1.1)
noncomputable def f44_l3_put (c : f44_l3_C) (x : f44_l3_X) : f44_l3_sk.T := (((), ((), ((), ((), ((), ((), ((), ((), ((), ((), (c.1, (c.2, (x.1, ((), ((), ((), ((), ((), ((), ((), ((), ((), ((), ((), ((), ((), ((), ((), ((), ((), ((), ((), ((), ((), ((), ((), ((), ((), ((), ((), ((), ((), ((), ((), ((), ((), ((), ((), ((), ((), ((), ((), ((), ((), ((), ((), ((), ((), ((), ((), ((), ((), ((), ((), ((), ((), ((), ()))))))))))))))))))))))))))))))))))))))))))))))))))))))))))))))))))), ((x.2, ()), ()))
theorem f44_l3_pg (t : f44_l3_sk.T) : f44_l3_put (f44_l3_con t) (f44_l3_get t) = t := by kernel_rfl
noncomputable def f44_l3_w0 (c : f44_l3_C) (y : List Int) : f44_l3_o0.T := (((), ((), ((), ((), ((), ((), ((), ((), ((), ((), ((), ((), ((), ((), ((), ((), ((), ((), ((), ((), ((), ((), ((), ((), ((), ((), ((), ((), ((), ((), ((), ((), ((), ((), ((), ((), ((), ((), ((), ((), ((), ((), ((), ((), ((), ((), ((), ((), ((), ((), ((), ((), ((), ((), ((), ((), ((), ((), ((), ((), ((), ((), ((), ((), ((), ((), ((), ()))))))))))))))))))))))))))))))))))))))))))))))))))))))))))))))))))), ((y, ()), ()))
noncomputable def f44_l3_out (c : f44_l3_C) (y : f44_l3_Y) : OutV f44_l3_outs := (fun y => (.inl (f44_l3_w0 c y))) y
noncomputable def f44_l3_k {R : Type} (a0 : List (Int × (List Int × Unit))) (a1 : Int) (a2 : Int) (a3 : List Int) (kin : f44_l3_X → Option R) (k0 : List Int → Option R) : Option R :=
 (cond (decide (a2 < a1))
 (if (0 : Int) ≤ a2 ∧ a2 < ((List.length a0 : Nat) : Int) then (let v0 : Int := (IntKind.i64.wrap ((8 : Int) * (List.getD a0 (Int.toNat a2) ((0 : Int), (([] : List Int), ()))).1))
  ((f100 [v0] (16 : Int)).bind fun r1 =>
  (if (List.length a3 + List.length r1.1.1) * 8 ≤ most ∧ 0 < 8 ∧ 0 < 1 then (let r2 : List Int := (a3 ++ r1.1.1)
  (let v3 : Int := (IntKind.i64.wrap ((16 : Int) * (List.getD a0 (Int.toNat a2) ((0 : Int), (([] : List Int), ()))).1))
  (if (List.length r2 + 1) * 8 ≤ most ∧ 0 < 8 ∧ 0 < 1 then (let r4 : List Int := (r2 ++ [v3])
  (let v5 : Int := (IntKind.i64.wrap (Int.tdiv ((List.length (List.getD a0 (Int.toNat a2) ((0 : Int), (([] : List Int), ()))).2.1 : Nat) : Int) (256 : Int)))
  (let v6 : Int := (Int.tmod ((List.length (List.getD a0 (Int.toNat a2) ((0 : Int), (([] : List Int), ()))).2.1 : Nat) : Int) (256 : Int))
  ((f103 (List.getD a0 (Int.toNat a2) ((0 : Int), (([] : List Int), ()))).2.1).bind fun r7 =>
  ((f102 [[(IntKind.u8.wrap v5), (IntKind.u8.wrap v6)], (List.getD a0 (Int.toNat a2) ((0 : Int), (([] : List Int), ()))).2.1, [r7.1.1]]).bind fun r8 =>
  ((f101 r8.1.1).bind fun r9 =>
  ((f44_l9 a0 a1 a2 ((List.length r9.1.1 : Nat) : Int) (List.getD a0 (Int.toNat a2) ((0 : Int), (([] : List Int), ()))) r9.1.1 ((0 : Int), r4)).bind fun y16 =>
  (let v17 : Int := (IntKind.i64.wrap (a2 + (1 : Int)))
  (kin (v17, y16)))))))))) else none))) else none))) else none)
 (k0 a3))
noncomputable def f44_l3_g (a0 : List (Int × (List Int × Unit))) (a1 : Int) (x : f44_l3_X) : Option (f44_l3_X ⊕ f44_l3_Y) := f44_l3_k a0 a1 x.1 x.2 (fun x => some (.inl x)) (fun y => some (.inr y))
noncomputable def f44_l3 (a0 : List (Int × (List Int × Unit))) (a1 : Int) (x : f44_l3_X) : Option f44_l3_Y := loopO (f44_l3_g a0 a1) x
noncomputable def f44_l3_nd : Node := { nils := [(3, 63, (.int .i64), .ro)], sk := f44_l3_sk, outs := f44_l3_outs, Y := f44_l3_Y, L := fun t => f44_l3 ((f44_l3_con t).1) ((f44_l3_con t).2) (f44_l3_get t), out := fun t y => f44_l3_out (f44_l3_con t) y, disp := fun t y K => (fun y => K (.exit 0) (f44_l3_o0.fill (f44_l3_w0 (f44_l3_con t) y))) y }
noncomputable def f44_fx : Fx := { E := env, T := [(100, f100_sm), (103, f103_sm), (102, f102_sm), (101, f101_sm)], H := [], O := [], nodes := [((true, 9), f44_l9_nd), ((true, 3), f44_l3_nd)] }
noncomputable def f44_l9_b : Code := (loops f44_code).getD 1 .skip
theorem f44_l9_r (c : f44_l9_C) (x : f44_l9_X) : roundS f44_fx f44_l9_b f44_l9_nd (f44_l9_put c x) = f44_l9_k c.1 c.2.1 c.2.2.1 c.2.2.2.1 x.1 x.2 c.2.2.2.2.1 c.2.2.2.2.2.1 (fun x => some (.inl (f44_l9_put c x))) (fun y => some (.inr (.inl (f44_l9_w0 c y)))) := by kernel_rfl
theorem f44_l9_n {R : Type} (a0 : List (Int × (List Int × Unit))) (a1 : Int) (a2 : Int) (a3 : Int) (a4 : Int) (a5 : List Int) (a6 : (Int × (List Int × Unit))) (a7 : List Bool) (kin : f44_l9_X → Option R) (k0 : List Int → Option R) : f44_l9_k a0 a1 a2 a3 a4 a5 a6 a7 kin k0 = (f44_l9_g a0 a1 a2 a3 a6 a7 (a4, a5)).bind (Sum.elim kin k0) := by
  simp only [f44_l9_g, f44_l9_k, cond_bind, ite_bind, bind_bind, some_bind, none_bind, elim_bind, Sum.elim_inl, Sum.elim_inr]
theorem f44_l9_ok : LoopOk f44_fx f44_l9_b f44_l9_nd := loop_ok f44_l9_con f44_l9_get f44_l9_put f44_l9_pg (fun c => f44_l9_g c.1 c.2.1 c.2.2.1 c.2.2.2.1 c.2.2.2.2.1 c.2.2.2.2.2.1) f44_l9_out (fun t y => rfl) (fun t y K => rfl) (fun c x => by
  refine (f44_l9_r c x).trans ((f44_l9_n _ _ _ _ _ _ _ _ _ _).trans ?_)
  first
  | rfl
  | congr 1
    funext s
    rcases s with s | s <;> rfl) (fun t => rfl)
noncomputable def f44_l3_b : Code := (loops f44_code).getD 0 .skip
theorem f44_l3_r (c : f44_l3_C) (x : f44_l3_X) : roundS f44_fx f44_l3_b f44_l3_nd (f44_l3_put c x) = f44_l3_k c.1 c.2 x.1 x.2 (fun x => some (.inl (f44_l3_put c x))) (fun y => some (.inr (.inl (f44_l3_w0 c y)))) := by kernel_rfl
theorem f44_l3_n {R : Type} (a0 : List (Int × (List Int × Unit))) (a1 : Int) (a2 : Int) (a3 : List Int) (kin : f44_l3_X → Option R) (k0 : List Int → Option R) : f44_l3_k a0 a1 a2 a3 kin k0 = (f44_l3_g a0 a1 (a2, a3)).bind (Sum.elim kin k0) := by
  simp only [f44_l3_g, f44_l3_k, cond_bind, ite_bind, bind_bind, some_bind, none_bind, elim_bind, Sum.elim_inl, Sum.elim_inr]
theorem f44_l3_ok : LoopOk f44_fx f44_l3_b f44_l3_nd := loop_ok f44_l3_con f44_l3_get f44_l3_put f44_l3_pg (fun c => f44_l3_g c.1 c.2) f44_l3_out (fun t y => rfl) (fun t y K => rfl) (fun c x => by
  refine (f44_l3_r c x).trans ((f44_l3_n _ _ _ _ _ _).trans ?_)
  first
  | rfl
  | congr 1
    funext s
    rcases s with s | s <;> rfl) (fun t => rfl)
noncomputable def f44_k {R : Type} (a0 : List (Int × (List Int × Unit))) (k : (List Int × Unit) × (Unit) → Option R) : Option R :=
 ((f44_l3 a0 ((List.length a0 : Nat) : Int) ((0 : Int), [])).bind fun y18 =>
 (k ((y18, ()), ())))
noncomputable def f44 (a0 : List (Int × (List Int × Unit))) : Option ((List Int × Unit) × (Unit)) := f44_k a0 some
noncomputable def f44_sm : Sm := ⟨[.ro (.slc (.pair (.int .i64) (.pair (.slc (.int .u8)) .unit)))], [((.slc (.int .i64)), (.own .ro))], fun x => f44 x.1⟩
theorem f44_m (x : ArgT [.ro (.slc (.pair (.int .i64) (.pair (.slc (.int .u8)) .unit)))]) : codeS f44_fx f44_code (start [.ro (.slc (.pair (.int .i64) (.pair (.slc (.int .u8)) .unit)))] [] x 67) (finK env [.tmp 2] [.ro (.slc (.pair (.int .i64) (.pair (.slc (.int .u8)) .unit)))] [((.slc (.int .i64)), (.own .ro))]) = f44_k x.1 (fun r => some (r, [])) := by kernel_rfl
theorem f44_n {R : Type} (a0 : List (Int × (List Int × Unit))) (k : (List Int × Unit) × (Unit) → Option R) : f44_k a0 k = (f44 a0).bind k := by
  simp only [f44, f44_k, cond_bind, ite_bind, bind_bind, some_bind, none_bind, elim_bind]
theorem f44_f : FnOk Try.prog 44 := ⟨Try.f44, Try.func44, by kernel_rfl, by kernel_rfl⟩
theorem f44_ok : SmOk Try.prog 44 f44_sm :=
  sum_of (c := f44_fx) (fn := Try.f44) (code := f44_code) (sm := f44_sm) mixed (env_ok env_envB) (TabsOk.all ⟨⟨f100_ok, f100_f⟩, ⟨f103_ok, f103_f⟩, ⟨f102_ok, f102_f⟩, ⟨f101_ok, f101_f⟩, trivial⟩) Try.func44 (by kernel_rfl)
   ((LoopsOk.of (l := [f44_l3_b, f44_l9_b]) (by kernel_rfl) ⟨node_is (by kernel_rfl) f44_l3_ok, node_is (by kernel_rfl) f44_l9_ok, trivial⟩))
   (no_tails (by kernel_rfl))
   (fun ks x hl => by
    have hk : ks = [] := List.length_eq_zero_iff.1 hl
    subst hk
    exact (f44_m x).trans (f44_n _ _))
/-! bakelite/flux.Check -/
noncomputable def f104_code : Code := (Try.f104.body).getD .skip
noncomputable def f104_l4_sk : SkS := ⟨[.undef, .undef, .undef, .undef, .undef, .undef, .undef, .undef, .con (.slc (.int .i64)), .con (.int .i64), .con (.int .i64), .undef, .undef, .undef, .undef, .undef, .undef, .undef, .undef, .undef, .undef], []⟩
noncomputable def f104_l4_o0 : SkS := ⟨[.undef, .undef, .con (.int .i64), .undef, .undef, .undef, .undef, .undef, .undef, .undef, .undef, .undef, .undef, .undef, .undef, .undef, .undef, .undef, .undef, .undef, .undef], []⟩
noncomputable def f104_l4_o1 : SkS := ⟨[.undef, .undef, .undef, .undef, .undef, .undef, .undef, .undef, .undef, .undef, .undef, .undef, .undef, .undef, .undef, .undef, .undef, .undef, .undef, .undef, .undef], []⟩
noncomputable def f104_l4_outs : List Way := [⟨.ret, [], f104_l4_o0⟩, ⟨(.exit 0), [], f104_l4_o1⟩]
abbrev f104_l4_C := (List Int × Int)
abbrev f104_l4_X := Int
abbrev f104_l4_Y := (Unit) ⊕ (Unit)
noncomputable def f104_l4_con (t : f104_l4_sk.T) : f104_l4_C := (t.1.2.2.2.2.2.2.2.2.1, t.1.2.2.2.2.2.2.2.2.2.1)
noncomputable def f104_l4_get (t : f104_l4_sk.T) : f104_l4_X := t.1.2.2.2.2.2.2.2.2.2.2.1
noncomputable def f104_l4_put (c : f104_l4_C) (x : f104_l4_X) : f104_l4_sk.T := (((), ((), ((), ((), ((), ((), ((), ((), (c.1, (c.2, (x, ((), ((), ((), ((), ((), ((), ((), ((), ((), ((), ()))))))))))))))))))))), ())
theorem f104_l4_pg (t : f104_l4_sk.T) : f104_l4_put (f104_l4_con t) (f104_l4_get t) = t := by kernel_rfl
noncomputable def f104_l4_w0 (c : f104_l4_C) (y : Unit) : f104_l4_o0.T := (((), ((), ((1 : Int), ((), ((), ((), ((), ((), ((), ((), ((), ((), ((), ((), ((), ((), ((), ((), ((), ((), ((), ()))))))))))))))))))))), ())
noncomputable def f104_l4_w1 (c : f104_l4_C) (y : Unit) : f104_l4_o1.T := (((), ((), ((), ((), ((), ((), ((), ((), ((), ((), ((), ((), ((), ((), ((), ((), ((), ((), ((), ((), ((), ()))))))))))))))))))))), ())
noncomputable def f104_l4_out (c : f104_l4_C) (y : f104_l4_Y) : OutV f104_l4_outs := (Sum.elim (fun y => (.inl (f104_l4_w0 c y))) (fun y => (.inr (.inl (f104_l4_w1 c y))))) y
noncomputable def f104_l4_k {R : Type} (a0 : List Int) (a1 : Int) (a2 : Int) (kin : f104_l4_X → Option R) (k0 : Unit → Option R) (k1 : Unit → Option R) : Option R :=
 (cond (decide (a2 < a1))
 (if (0 : Int) ≤ a2 ∧ a2 < ((List.length a0 : Nat) : Int) then (cond (decide ((List.getD a0 (Int.toNat a2) (0 : Int)) < (1 : Int)))
  (k0 ())
  (cond (decide ((List.getD a0 (Int.toNat a2) (0 : Int)) > (100000 : Int)))
   (k0 ())
   (let v0 : Int := (IntKind.i64.wrap (a2 + (1 : Int)))
    (kin v0)))) else none)
 (k1 ()))
noncomputable def f104_l4_g (a0 : List Int) (a1 : Int) (x : f104_l4_X) : Option (f104_l4_X ⊕ f104_l4_Y) := f104_l4_k a0 a1 x (fun x => some (.inl x)) (fun y => some (.inr (.inl y))) (fun y => some (.inr (.inr y)))
noncomputable def f104_l4 (a0 : List Int) (a1 : Int) (x : f104_l4_X) : Option f104_l4_Y := loopO (f104_l4_g a0 a1) x
noncomputable def f104_l4_nd : Node := { nils := [], sk := f104_l4_sk, outs := f104_l4_outs, Y := f104_l4_Y, L := fun t => f104_l4 ((f104_l4_con t).1) ((f104_l4_con t).2) (f104_l4_get t), out := fun t y => f104_l4_out (f104_l4_con t) y, disp := fun t y K => (Sum.elim (fun y => K .ret (f104_l4_o0.fill (f104_l4_w0 (f104_l4_con t) y))) (fun y => K (.exit 0) (f104_l4_o1.fill (f104_l4_w1 (f104_l4_con t) y)))) y }
noncomputable def f104_fx : Fx := { E := env, T := [], H := [], O := [], nodes := [((true, 4), f104_l4_nd)] }
noncomputable def f104_l4_b : Code := (loops f104_code).getD 0 .skip
theorem f104_l4_r (c : f104_l4_C) (x : f104_l4_X) : roundS f104_fx f104_l4_b f104_l4_nd (f104_l4_put c x) = f104_l4_k c.1 c.2 x (fun x => some (.inl (f104_l4_put c x))) (fun y => some (.inr (.inl (f104_l4_w0 c y)))) (fun y => some (.inr (.inr (.inl (f104_l4_w1 c y))))) := by kernel_rfl
theorem f104_l4_n {R : Type} (a0 : List Int) (a1 : Int) (a2 : Int) (kin : f104_l4_X → Option R) (k0 : Unit → Option R) (k1 : Unit → Option R) : f104_l4_k a0 a1 a2 kin k0 k1 = (f104_l4_g a0 a1 a2).bind (Sum.elim kin (Sum.elim k0 k1)) := by
  simp only [f104_l4_g, f104_l4_k, cond_bind, ite_bind, bind_bind, some_bind, none_bind, elim_bind, Sum.elim_inl, Sum.elim_inr]
theorem f104_l4_ok : LoopOk f104_fx f104_l4_b f104_l4_nd := loop_ok f104_l4_con f104_l4_get f104_l4_put f104_l4_pg (fun c => f104_l4_g c.1 c.2) f104_l4_out (fun t y => rfl) (by intro R t y K; rcases y with y | y <;> rfl) (fun c x => by
  refine (f104_l4_r c x).trans ((f104_l4_n _ _ _ _ _ _).trans ?_)
  first
  | rfl
  | congr 1
    funext s
    rcases s with s | s | s <;> rfl) (fun t => rfl)
noncomputable def f104_k {R : Type} (a0 : List Int) (k : (Int × Unit) × (Unit) → Option R) : Option R :=
 (cond (decide (((List.length a0 : Nat) : Int) > (40000 : Int)))
 (k (((2 : Int), ()), ()))
 ((f104_l4 a0 ((List.length a0 : Nat) : Int) (0 : Int)).bind fun y1 =>
  ((Sum.elim (fun z2 =>
  (k (((1 : Int), ()), ())))
  (fun z3 =>
  (k (((0 : Int), ()), ())))) y1)))
noncomputable def f104 (a0 : List Int) : Option ((Int × Unit) × (Unit)) := f104_k a0 some
noncomputable def f104_sm : Sm := ⟨[.ro (.slc (.int .i64))], [((.int .i64), .ro)], fun x => f104 x.1⟩
theorem f104_m (x : ArgT [.ro (.slc (.int .i64))]) : codeS f104_fx f104_code (start [.ro (.slc (.int .i64))] [] x 21) (finK env [.tmp 2] [.ro (.slc (.int .i64))] [((.int .i64), .ro)]) = f104_k x.1 (fun r => some (r, [])) := by kernel_rfl
theorem f104_n {R : Type} (a0 : List Int) (k : (Int × Unit) × (Unit) → Option R) : f104_k a0 k = (f104 a0).bind k := by
  simp only [f104, f104_k, cond_bind, ite_bind, bind_bind, some_bind, none_bind, elim_bind]
theorem f104_f : FnOk Try.prog 104 := ⟨Try.f104, Try.func104, by kernel_rfl, by kernel_rfl⟩
theorem f104_ok : SmOk Try.prog 104 f104_sm :=
  sum_of (c := f104_fx) (fn := Try.f104) (code := f104_code) (sm := f104_sm) mixed (env_ok env_envB) (TabsOk.all trivial) Try.func104 (by kernel_rfl)
   ((LoopsOk.of (l := [f104_l4_b]) (by kernel_rfl) ⟨node_is (by kernel_rfl) f104_l4_ok, trivial⟩))
   (no_tails (by kernel_rfl))
   (fun ks x hl => by
    have hk : ks = [] := List.length_eq_zero_iff.1 hl
    subst hk
    exact (f104_m x).trans (f104_n _ _))
/-! (*bakelite/tape.reader).pulse -/
noncomputable def f135_code : Code := (Try.f135.body).getD .skip
noncomputable def f135_fx : Fx := { E := env, T := [], H := [], O := [], nodes := [] }
noncomputable def f135_k {R : Type} (a0 : (List Int × (Int × (Int × Unit)))) (k : (Int × Unit) × ((List Int × (Int × (Int × Unit))) × Unit) → Option R) : Option R :=
 (let v0 : Int := (IntKind.i64.wrap (a0.2.1 + (1 : Int)))
 (let v1 : Int := (IntKind.i64.wrap (v0 - (1 : Int)))
 (if (0 : Int) ≤ v1 ∧ v1 < ((List.length a0.1 : Nat) : Int) then (let v2 : Int := (IntKind.i64.wrap ((2 : Int) * (List.getD a0.1 (Int.toNat v1) (0 : Int))))
 (let v3 : Int := (IntKind.i64.wrap (v2 + a0.2.2.1))
 (let v4 : Int := (IntKind.i64.wrap ((2 : Int) * a0.2.2.1))
 (if v4 = 0 then none else (let v5 : Int := (IntKind.i64.wrap (Int.tdiv v3 v4))
 (k ((v5, ()), ((a0.1, (v0, a0.2.2)), ())))))))) else none)))
noncomputable def f135 (a0 : (List Int × (Int × (Int × Unit)))) : Option ((Int × Unit) × ((List Int × (Int × (Int × Unit))) × Unit)) := f135_k a0 some
noncomputable def f135_sm : Sm := ⟨[.io 143 (.pair (.slc (.int .i64)) (.pair (.int .i64) (.pair (.int .i64) .unit))) .ro], [((.int .i64), .ro)], fun x => f135 x.1⟩
theorem f135_m (k0 : Nat) (x : ArgT [.io 143 (.pair (.slc (.int .i64)) (.pair (.int .i64) (.pair (.int .i64) .unit))) .ro]) : codeS f135_fx f135_code (start [.io 143 (.pair (.slc (.int .i64)) (.pair (.int .i64) (.pair (.int .i64) .unit))) .ro] [k0] x 33) (finK env [.tmp 2] [.io 143 (.pair (.slc (.int .i64)) (.pair (.int .i64) (.pair (.int .i64) .unit))) .ro] [((.int .i64), .ro)]) = f135_k x.1 (fun r => some (r, [some k0])) := by kernel_rfl
theorem f135_n {R : Type} (a0 : (List Int × (Int × (Int × Unit)))) (k : (Int × Unit) × ((List Int × (Int × (Int × Unit))) × Unit) → Option R) : f135_k a0 k = (f135 a0).bind k := by
  simp only [f135, f135_k, cond_bind, ite_bind, bind_bind, some_bind, none_bind, elim_bind]
theorem f135_f : FnOk Try.prog 135 := ⟨Try.f135, Try.func135, by kernel_rfl, by kernel_rfl⟩
theorem f135_ok : SmOk Try.prog 135 f135_sm :=
  sum_of (c := f135_fx) (fn := Try.f135) (code := f135_code) (sm := f135_sm) mixed (env_ok env_envB) (TabsOk.all trivial) Try.func135 (by kernel_rfl)
   ((LoopsOk.of (l := []) (by kernel_rfl) trivial))
   (no_tails (by kernel_rfl))
   (fun ks x hl => by
    match ks, hl with
    | [k0], _ =>
      exact (f135_m k0 x).trans (f135_n _ _))
/-! bakelite/tape.is -/
noncomputable def f134_code : Code := (Try.f134.body).getD .skip
noncomputable def f134_fx : Fx := { E := env, T := [], H := [], O := [], nodes := [] }
noncomputable def f134_k {R : Type} (a0 : Int) (a1 : Int) (k : (Bool × Unit) × (Unit) → Option R) : Option R :=
 (let v0 : Int := (IntKind.i64.wrap ((4 : Int) * a0))
 (let v1 : Int := (IntKind.i64.wrap ((3 : Int) * a1))
 (cond (decide (v0 ≥ v1))
 (let v2 : Int := (IntKind.i64.wrap ((4 : Int) * a0))
  (let v3 : Int := (IntKind.i64.wrap ((5 : Int) * a1))
  (k (((decide (v2 ≤ v3)), ()), ()))))
 (k ((false, ()), ())))))
noncomputable def f134 (a0 : Int) (a1 : Int) : Option ((Bool × Unit) × (Unit)) := f134_k a0 a1 some
noncomputable def f134_sm : Sm := ⟨[.ro (.int .i64), .ro (.int .i64)], [(.bool, .ro)], fun x => f134 x.1 x.2.1⟩
theorem f134_m (x : ArgT [.ro (.int .i64), .ro (.int .i64)]) : codeS f134_fx f134_code (start [.ro (.int .i64), .ro (.int .i64)] [] x 17) (finK env [.tmp 4] [.ro (.int .i64), .ro (.int .i64)] [(.bool, .ro)]) = f134_k x.1 x.2.1 (fun r => some (r, [])) := by kernel_rfl
theorem f134_n {R : Type} (a0 : Int) (a1 : Int) (k : (Bool × Unit) × (Unit) → Option R) : f134_k a0 a1 k = (f134 a0 a1).bind k := by
  simp only [f134, f134_k, cond_bind, ite_bind, bind_bind, some_bind, none_bind, elim_bind]
theorem f134_f : FnOk Try.prog 134 := ⟨Try.f134, Try.func134, by kernel_rfl, by kernel_rfl⟩
theorem f134_ok : SmOk Try.prog 134 f134_sm :=
  sum_of (c := f134_fx) (fn := Try.f134) (code := f134_code) (sm := f134_sm) mixed (env_ok env_envB) (TabsOk.all trivial) Try.func134 (by kernel_rfl)
   ((LoopsOk.of (l := []) (by kernel_rfl) trivial))
   (no_tails (by kernel_rfl))
   (fun ks x hl => by
    have hk : ks = [] := List.length_eq_zero_iff.1 hl
    subst hk
    exact (f134_m x).trans (f134_n _ _ _))
/-! (*bakelite/tape.reader).bit -/
noncomputable def f155_code : Code := (Try.f155.body).getD .skip
noncomputable def f155_fx : Fx := { E := env, T := [(135, f135_sm), (134, f134_sm)], H := [], O := [], nodes := [] }
noncomputable def f155_k {R : Type} (a0 : (List Int × (Int × (Int × Unit)))) (k : (Int × Int × Unit) × ((List Int × (Int × (Int × Unit))) × Unit) → Option R) : Option R :=
 (let v0 : Int := (IntKind.i64.wrap (((List.length a0.1 : Nat) : Int) - a0.2.1))
 (cond (decide (v0 < (2 : Int)))
 (k (((0 : Int), ((13 : Int), ())), (a0, ())))
 ((f135 a0).bind fun r1 =>
  ((f135 r1.2.1).bind fun r2 =>
  ((f134 r1.1.1 (2 : Int)).bind fun r3 =>
  (cond r3.1.1
  ((f134 r2.1.1 (2 : Int)).bind fun r4 =>
   (cond r4.1.1
   (k (((0 : Int), ((0 : Int), ())), (r2.2.1, ())))
   ((f134 r1.1.1 (4 : Int)).bind fun r5 =>
    (cond r5.1.1
    ((f134 r2.1.1 (4 : Int)).bind fun r6 =>
     (cond r6.1.1
     (k (((1 : Int), ((0 : Int), ())), (r2.2.1, ())))
     (k (((0 : Int), ((18 : Int), ())), (r2.2.1, ())))))
    (k (((0 : Int), ((18 : Int), ())), (r2.2.1, ())))))))
  ((f134 r1.1.1 (4 : Int)).bind fun r7 =>
   (cond r7.1.1
   ((f134 r2.1.1 (4 : Int)).bind fun r8 =>
    (cond r8.1.1
    (k (((1 : Int), ((0 : Int), ())), (r2.2.1, ())))
    (k (((0 : Int), ((18 : Int), ())), (r2.2.1, ())))))
   (k (((0 : Int), ((18 : Int), ())), (r2.2.1, ())))))))))))
noncomputable def f155 (a0 : (List Int × (Int × (Int × Unit)))) : Option ((Int × Int × Unit) × ((List Int × (Int × (Int × Unit))) × Unit)) := f155_k a0 some
noncomputable def f155_sm : Sm := ⟨[.io 143 (.pair (.slc (.int .i64)) (.pair (.int .i64) (.pair (.int .i64) .unit))) .ro], [((.int .i64), .ro), ((.int .i64), .ro)], fun x => f155 x.1⟩
theorem f155_m (k0 : Nat) (x : ArgT [.io 143 (.pair (.slc (.int .i64)) (.pair (.int .i64) (.pair (.int .i64) .unit))) .ro]) : codeS f155_fx f155_code (start [.io 143 (.pair (.slc (.int .i64)) (.pair (.int .i64) (.pair (.int .i64) .unit))) .ro] [k0] x 35) (finK env [.tmp 2, .tmp 3] [.io 143 (.pair (.slc (.int .i64)) (.pair (.int .i64) (.pair (.int .i64) .unit))) .ro] [((.int .i64), .ro), ((.int .i64), .ro)]) = f155_k x.1 (fun r => some (r, [some k0])) := by kernel_rfl
theorem f155_n {R : Type} (a0 : (List Int × (Int × (Int × Unit)))) (k : (Int × Int × Unit) × ((List Int × (Int × (Int × Unit))) × Unit) → Option R) : f155_k a0 k = (f155 a0).bind k := by
  simp only [f155, f155_k, cond_bind, ite_bind, bind_bind, some_bind, none_bind, elim_bind]
theorem f155_f : FnOk Try.prog 155 := ⟨Try.f155, Try.func155, by kernel_rfl, by kernel_rfl⟩
theorem f155_ok : SmOk Try.prog 155 f155_sm :=
  sum_of (c := f155_fx) (fn := Try.f155) (code := f155_code) (sm := f155_sm) mixed (env_ok env_envB) (TabsOk.all ⟨⟨f135_ok, f135_f⟩, ⟨f134_ok, f134_f⟩, trivial⟩) Try.func155 (by kernel_rfl)
   ((LoopsOk.of (l := []) (by kernel_rfl) trivial))
   (no_tails (by kernel_rfl))
   (fun ks x hl => by
    match ks, hl with
    | [k0], _ =>
      exact (f155_m k0 x).trans (f155_n _ _))
/-! (*bakelite/tape.reader).byte -/
noncomputable def f136_code : Code := (Try.f136.body).getD .skip
noncomputable def f136_l3_sk : SkS := ⟨[.ptr 0 [], .undef, .undef, .undef, .con (.int .i64), .undef, .undef, .con (.int .i64), .undef, .undef, .undef, .undef, .undef, .undef, .undef, .undef, .undef, .undef, .undef, .undef, .undef, .undef, .undef], [(0, ⟨some 143, (.pair (.slc (.int .i64)) (.pair (.int .i64) (.pair (.int .i64) .unit))), .ro⟩)]⟩
noncomputable def f136_l3_o0 : SkS := ⟨[.undef, .undef, .con (.int .i64), .con (.int .i64), .undef, .undef, .undef, .undef, .undef, .undef, .undef, .undef, .undef, .undef, .undef, .undef, .undef, .undef, .undef, .undef, .undef, .undef, .undef], [(0, ⟨some 143, (.pair (.slc (.int .i64)) (.pair (.int .i64) (.pair (.int .i64) .unit))), .ro⟩)]⟩
noncomputable def f136_l3_o1 : SkS := ⟨[.undef, .undef, .undef, .undef, .con (.int .i64), .undef, .undef, .undef, .undef, .undef, .undef, .undef, .undef, .undef, .undef, .undef, .undef, .undef, .undef, .undef, .undef, .undef, .undef], [(0, ⟨some 143, (.pair (.slc (.int .i64)) (.pair (.int .i64) (.pair (.int .i64) .unit))), .ro⟩)]⟩
noncomputable def f136_l3_outs : List Way := [⟨.ret, [], f136_l3_o0⟩, ⟨(.exit 0), [], f136_l3_o1⟩]
abbrev f136_l3_C := (Option Nat)
abbrev f136_l3_X := (Int × Int × (List Int × (Int × (Int × Unit))))
abbrev f136_l3_Y := ((Int × (List Int × (Int × (Int × Unit))))) ⊕ ((Int × (List Int × (Int × (Int × Unit)))))
noncomputable def f136_l3_con (t : f136_l3_sk.T) : f136_l3_C := t.2.1.2
noncomputable def f136_l3_get (t : f136_l3_sk.T) : f136_l3_X := (t.1.2.2.2.2.1, t.1.2.2.2.2.2.2.2.1, t.2.1.1)
noncomputable def f136_l3_put (c : f136_l3_C) (x : f136_l3_X) : f136_l3_sk.T := (((), ((), ((), ((), (x.1, ((), ((), (x.2.1, ((), ((), ((), ((), ((), ((), ((), ((), ((), ((), ((), ((), ((), ((), ((), ()))))))))))))))))))))))), ((x.2.2, c), ()))
theorem f136_l3_pg (t : f136_l3_sk.T) : f136_l3_put (f136_l3_con t) (f136_l3_get t) = t := by kernel_rfl
noncomputable def f136_l3_w0 (c : f136_l3_C) (y : (Int × (List Int × (Int × (Int × Unit))))) : f136_l3_o0.T := (((), ((), ((0 : Int), (y.1, ((), ((), ((), ((), ((), ((), ((), ((), ((), ((), ((), ((), ((), ((), ((), ((), ((), ((), ((), ()))))))))))))))))))))))), ((y.2, c), ()))
noncomputable def f136_l3_w1 (c : f136_l3_C) (y : (Int × (List Int × (Int × (Int × Unit))))) : f136_l3_o1.T := (((), ((), ((), ((), (y.1, ((), ((), ((), ((), ((), ((), ((), ((), ((), ((), ((), ((), ((), ((), ((), ((), ((), ((), ()))))))))))))))))))))))), ((y.2, c), ()))
noncomputable def f136_l3_out (c : f136_l3_C) (y : f136_l3_Y) : OutV f136_l3_outs := (Sum.elim (fun y => (.inl (f136_l3_w0 c y))) (fun y => (.inr (.inl (f136_l3_w1 c y))))) y
noncomputable def f136_l3_k {R : Type} (a0 : Int) (a1 : Int) (a2 : (List Int × (Int × (Int × Unit)))) (kin : f136_l3_X → Option R) (k0 : (Int × (List Int × (Int × (Int × Unit)))) → Option R) (k1 : (Int × (List Int × (Int × (Int × Unit)))) → Option R) : Option R :=
 (cond (decide (a1 < (8 : Int)))
 ((f155 a2).bind fun r0 =>
  (cond (r0.1.2.1 != (0 : Int))
  (k0 (r0.1.2.1, r0.2.1))
  (let v1 : Int := (IntKind.i64.wrap ((2 : Int) * a0))
   (let v2 : Int := (IntKind.i64.wrap (v1 + r0.1.1))
   (let v3 : Int := (IntKind.i64.wrap (a1 + (1 : Int)))
   (kin (v2, v3, r0.2.1)))))))
 (k1 (a0, a2)))
noncomputable def f136_l3_g (x : f136_l3_X) : Option (f136_l3_X ⊕ f136_l3_Y) := f136_l3_k x.1 x.2.1 x.2.2 (fun x => some (.inl x)) (fun y => some (.inr (.inl y))) (fun y => some (.inr (.inr y)))
noncomputable def f136_l3 (x : f136_l3_X) : Option f136_l3_Y := loopO (f136_l3_g) x
noncomputable def f136_l3_nd : Node := { nils := [], sk := f136_l3_sk, outs := f136_l3_outs, Y := f136_l3_Y, L := fun t => f136_l3 (f136_l3_get t), out := fun t y => f136_l3_out (f136_l3_con t) y, disp := fun t y K => (Sum.elim (fun y => K .ret (f136_l3_o0.fill (f136_l3_w0 (f136_l3_con t) y))) (fun y => K (.exit 0) (f136_l3_o1.fill (f136_l3_w1 (f136_l3_con t) y)))) y }
noncomputable def f136_fx : Fx := { E := env, T := [(155, f155_sm)], H := [], O := [], nodes := [((true, 3), f136_l3_nd)] }
noncomputable def f136_l3_b : Code := (loops f136_code).getD 0 .skip
theorem f136_l3_r (c : f136_l3_C) (x : f136_l3_X) : roundS f136_fx f136_l3_b f136_l3_nd (f136_l3_put c x) = f136_l3_k x.1 x.2.1 x.2.2 (fun x => some (.inl (f136_l3_put c x))) (fun y => some (.inr (.inl (f136_l3_w0 c y)))) (fun y => some (.inr (.inr (.inl (f136_l3_w1 c y))))) := by kernel_rfl
theorem f136_l3_n {R : Type} (a0 : Int) (a1 : Int) (a2 : (List Int × (Int × (Int × Unit)))) (kin : f136_l3_X → Option R) (k0 : (Int × (List Int × (Int × (Int × Unit)))) → Option R) (k1 : (Int × (List Int × (Int × (Int × Unit)))) → Option R) : f136_l3_k a0 a1 a2 kin k0 k1 = (f136_l3_g (a0, a1, a2)).bind (Sum.elim kin (Sum.elim k0 k1)) := by
  simp only [f136_l3_g, f136_l3_k, cond_bind, ite_bind, bind_bind, some_bind, none_bind, elim_bind, Sum.elim_inl, Sum.elim_inr]
theorem f136_l3_ok : LoopOk f136_fx f136_l3_b f136_l3_nd := loop_ok f136_l3_con f136_l3_get f136_l3_put f136_l3_pg (fun c => f136_l3_g) f136_l3_out (fun t y => rfl) (by intro R t y K; rcases y with y | y <;> rfl) (fun c x => by
  refine (f136_l3_r c x).trans ((f136_l3_n _ _ _ _ _ _).trans ?_)
  first
  | rfl
  | congr 1
    funext s
    rcases s with s | s | s <;> rfl) (fun t => rfl)
noncomputable def f136_k {R : Type} (a0 : (List Int × (Int × (Int × Unit)))) (k : (Int × Int × Unit) × ((List Int × (Int × (Int × Unit))) × Unit) → Option R) : Option R :=
 ((f136_l3 ((0 : Int), (0 : Int), a0)).bind fun y4 =>
 ((Sum.elim (fun z5 =>
 (k (((0 : Int), (z5.1, ())), (z5.2, ()))))
 (fun z6 =>
 (k ((z6.1, ((0 : Int), ())), (z6.2, ()))))) y4))
noncomputable def f136 (a0 : (List Int × (Int × (Int × Unit)))) : Option ((Int × Int × Unit) × ((List Int × (Int × (Int × Unit))) × Unit)) := f136_k a0 some
noncomputable def f136_sm : Sm := ⟨[.io 143 (.pair (.slc (.int .i64)) (.pair (.int .i64) (.pair (.int .i64) .unit))) .ro], [((.int .i64), .ro), ((.int .i64), .ro)], fun x => f136 x.1⟩
theorem f136_m (k0 : Nat) (x : ArgT [.io 143 (.pair (.slc (.int .i64)) (.pair (.int .i64) (.pair (.int .i64) .unit))) .ro]) : codeS f136_fx f136_code (start [.io 143 (.pair (.slc (.int .i64)) (.pair (.int .i64) (.pair (.int .i64) .unit))) .ro] [k0] x 23) (finK env [.tmp 2, .tmp 3] [.io 143 (.pair (.slc (.int .i64)) (.pair (.int .i64) (.pair (.int .i64) .unit))) .ro] [((.int .i64), .ro), ((.int .i64), .ro)]) = f136_k x.1 (fun r => some (r, [some k0])) := by kernel_rfl
theorem f136_n {R : Type} (a0 : (List Int × (Int × (Int × Unit)))) (k : (Int × Int × Unit) × ((List Int × (Int × (Int × Unit))) × Unit) → Option R) : f136_k a0 k = (f136 a0).bind k := by
  simp only [f136, f136_k, cond_bind, ite_bind, bind_bind, some_bind, none_bind, elim_bind]
theorem f136_f : FnOk Try.prog 136 := ⟨Try.f136, Try.func136, by kernel_rfl, by kernel_rfl⟩
theorem f136_ok : SmOk Try.prog 136 f136_sm :=
  sum_of (c := f136_fx) (fn := Try.f136) (code := f136_code) (sm := f136_sm) mixed (env_ok env_envB) (TabsOk.all ⟨⟨f155_ok, f155_f⟩, trivial⟩) Try.func136 (by kernel_rfl)
   ((LoopsOk.of (l := [f136_l3_b]) (by kernel_rfl) ⟨node_is (by kernel_rfl) f136_l3_ok, trivial⟩))
   (no_tails (by kernel_rfl))
   (fun ks x hl => by
    match ks, hl with
    | [k0], _ =>
      exact (f136_m k0 x).trans (f136_n _ _))
/-! (*bakelite/tape.reader).block -/
noncomputable def f105_code : Code := (Try.f105.body).getD .skip
noncomputable def f105_l5_sk : SkS := ⟨[.ptr 0 [], .undef, .ptr 32 [], .undef, .con (.int .i64), .undef, .undef, .undef, .undef, .undef, .undef, .undef, .undef, .undef, .undef, .undef, .undef, .undef, .undef, .undef, .undef, .undef, .undef, .undef, .undef, .undef, .undef, .undef, .undef, .undef, .undef, .undef, .undef, .undef, .undef, .undef, .undef, .undef, .con (.slc (.int .i64)), .con (.int .i64), .con (.int .i64), .undef, .undef, .undef, .undef, .undef, .undef, .undef, .undef, .undef, .undef, .undef, .undef, .undef, .undef, .undef, .undef, .undef, .undef, .undef, .undef, .undef, .undef, .undef, .undef, .undef, .undef, .undef, .undef, .undef, .undef, .undef, .undef, .undef, .undef, .undef, .undef, .undef, .undef, .undef, .undef, .undef, .undef, .undef, .undef, .undef, .undef, .undef, .undef, .undef, .undef, .undef, .undef, .undef, .undef, .undef, .undef, .undef, .undef, .undef, .undef, .undef, .undef, .undef, .undef, .undef, .undef, .undef, .undef, .undef, .undef, .undef, .undef, .undef, .undef, .undef, .undef, .undef, .undef, .undef, .undef, .undef, .undef, .undef, .undef, .undef, .undef, .undef, .undef, .undef, .undef, .undef, .undef, .undef, .undef, .undef, .undef, .undef, .undef, .undef], [(0, ⟨some 143, (.pair (.slc (.int .i64)) (.pair (.int .i64) (.pair (.int .i64) .unit))), .ro⟩), (32, ⟨some 61, (.pair (.int .i64) (.pair (.slc (.int .u8)) .unit)), (.pair .ro (.pair (.own .ro) .ro))⟩)]⟩
noncomputable def f105_l5_o0 : SkS := ⟨[.ptr 0 [], .undef, .ptr 32 [], .undef, .con (.int .i64), .undef, .undef, .undef, .undef, .undef, .undef, .undef, .undef, .undef, .undef, .undef, .undef, .undef, .undef, .undef, .undef, .undef, .undef, .undef, .undef, .undef, .undef, .undef, .undef, .undef, .undef, .undef, .undef, .undef, .undef, .undef, .undef, .undef, .undef, .undef, .undef, .undef, .undef, .undef, .undef, .undef, .undef, .undef, .undef, .undef, .undef, .undef, .undef, .undef, .undef, .undef, .undef, .undef, .undef, .undef, .undef, .undef, .undef, .undef, .undef, .undef, .undef, .undef, .undef, .undef, .undef, .undef, .undef, .undef, .undef, .undef, .undef, .undef, .undef, .undef, .undef, .undef, .undef, .undef, .undef, .undef, .undef, .undef, .undef, .undef, .undef, .undef, .undef, .undef, .undef, .undef, .undef, .undef, .undef, .undef, .undef, .undef, .undef, .undef, .undef, .undef, .undef, .undef, .undef, .undef, .undef, .undef, .undef, .undef, .undef, .undef, .undef, .undef, .undef, .undef, .undef, .undef, .undef, .undef, .undef, .undef, .undef, .undef, .undef, .undef, .undef, .undef, .undef, .undef, .undef, .undef, .undef, .undef, .undef, .undef], [(0, ⟨some 143, (.pair (.slc (.int .i64)) (.pair (.int .i64) (.pair (.int .i64) .unit))), .ro⟩), (32, ⟨some 61, (.pair (.int .i64) (.pair (.slc (.int .u8)) .unit)), (.pair .ro (.pair (.own .ro) .ro))⟩)]⟩
noncomputable def f105_l5_outs : List Way := [⟨(.exit 0), [], f105_l5_o0⟩]
abbrev f105_l5_C := (List Int × Int × (List Int × (Int × (Int × Unit))) × (Int × (List Int × Unit)) × (Option Nat) × (Option Nat))
abbrev f105_l5_X := (Int × Int)
abbrev f105_l5_Y := (Int)
noncomputable def f105_l5_con (t : f105_l5_sk.T) : f105_l5_C := (t.1.2.2.2.2.2.2.2.2.2.2.2.2.2.2.2.2.2.2.2.2.2.2.2.2.2.2.2.2.2.2.2.2.2.2.2.2.2.2.1, t.1.2.2.2.2.2.2.2.2.2.2.2.2.2.2.2.2.2.2.2.2.2.2.2.2.2.2.2.2.2.2.2.2.2.2.2.2.2.2.2.1, t.2.1.1, t.2.2.1.1, t.2.1.2, t.2.2.1.2)
noncomputable def f105_l5_get (t : f105_l5_sk.T) : f105_l5_X := (t.1.2.2.2.2.1, t.1.2.2.2.2.2.2.2.2.2.2.2.2.2.2.2.2.2.2.2.2.2.2.2.2.2.2.2.2.2.2.2.2.2.2.2.2.2.2.2.2.1)
noncomputable def f105_l5_put (c : f105_l5_C) (x : f105_l5_X) : f105_l5_sk.T := (((), ((), ((), ((), (x.1, ((), ((), ((), ((), ((), ((), ((), ((), ((), ((), ((), ((), ((), ((), ((), ((), ((), ((), ((), ((), ((), ((), ((), ((), ((), ((), ((), ((), ((), ((), ((), ((), ((), (c.1, (c.2.1, (x.2, ((), ((), ((), ((), ((), ((), ((), ((), ((), ((), ((), ((), ((), ((), ((), ((), ((), ((), ((), ((), ((), ((), ((), ((), ((), ((), ((), ((), ((), ((), ((), ((), ((), ((), ((), ((), ((), ((), ((), ((), ((), ((), ((), ((), ((), ((), ((), ((), ((), ((), ((), ((), ((), ((), ((), ((), ((), ((), ((), ((), ((), ((), ((), ((), ((), ((), ((), ((), ((), ((), ((), ((), ((), ((), ((), ((), ((), ((), ((), ((), ((), ((), ((), ((), ((), ((), ((), ((), ((), ((), ((), ((), ((), ((), ((), ((), ((), ((), ((), ())))))))))))))))))))))))))))))))))))))))))))))))))))))))))))))))))))))))))))))))))))))))))))))))))))))))))))))))))))))))))))))))))))))))))))), ((c.2.2.1, c.2.2.2.2.1), ((c.2.2.2.1, c.2.2.2.2.2), ())))
theorem f105_l5_pg (t : f105_l5_sk.T) : f105_l5_put (f105_l5_con t) (f105_l5_get t) = t := by kernel_rfl
noncomputable def f105_l5_w0 (c : f105_l5_C) (y : Int) : f105_l5_o0.T := (((), ((), ((), ((), (y, ((), ((), ((), ((), ((), ((), ((), ((), ((), ((), ((), ((), ((), ((), ((), ((), ((), ((), ((), ((), ((), ((), ((), ((), ((), ((), ((), ((), ((), ((), ((), ((), ((), ((), ((), ((), ((), ((), ((), ((), ((), ((), ((), ((), ((), ((), ((), ((), ((), ((), ((), ((), ((), ((), ((), ((), ((), ((), ((), ((), ((), ((), ((), ((), ((), ((), ((), ((), ((), ((), ((), ((), ((), ((), ((), ((), ((), ((), ((), ((), ((), ((), ((), ((), ((), ((), ((), ((), ((), ((), ((), ((), ((), ((), ((), ((), ((), ((), ((), ((), ((), ((), ((), ((), ((), ((), ((), ((), ((), ((), ((), ((), ((), ((), ((), ((), ((), ((), ((), ((), ((), ((), ((), ((), ((), ((), ((), ((), ((), ((), ((), ((), ((), ((), ((), ())))))))))))))))))))))))))))))))))))))))))))))))))))))))))))))))))))))))))))))))))))))))))))))))))))))))))))))))))))))))))))))))))))))))))))), ((c.2.2.1, c.2.2.2.2.1), ((c.2.2.2.1, c.2.2.2.2.2), ())))
noncomputable def f105_l5_out (c : f105_l5_C) (y : f105_l5_Y) : OutV f105_l5_outs := (fun y => (.inl (f105_l5_w0 c y))) y
noncomputable def f105_l5_k {R : Type} (a0 : Int) (a1 : List Int) (a2 : Int) (a3 : Int) (a4 : (List Int × (Int × (Int × Unit)))) (a5 : (Int × (List Int × Unit))) (kin : f105_l5_X → Option R) (k0 : Int → Option R) : Option R :=
 (cond (decide (a3 < a2))
 (if (0 : Int) ≤ a3 ∧ a3 < ((List.length a1 : Nat) : Int) then (let v2 : Int := (IntKind.i64.wrap (a0 + (List.getD a1 (Int.toNat a3) (0 : Int))))
  (let v3 : Int := (IntKind.i64.wrap (a3 + (1 : Int)))
  (kin (v2, v3)))) else none)
 (k0 a0))
noncomputable def f105_l5_g (a1 : List Int) (a2 : Int) (a4 : (List Int × (Int × (Int × Unit)))) (a5 : (Int × (List Int × Unit))) (x : f105_l5_X) : Option (f105_l5_X ⊕ f105_l5_Y) := f105_l5_k x.1 a1 a2 x.2 a4 a5 (fun x => some (.inl x)) (fun y => some (.inr y))
noncomputable def f105_l5 (a1 : List Int) (a2 : Int) (a4 : (List Int × (Int × (Int × Unit)))) (a5 : (Int × (List Int × Unit))) (x : f105_l5_X) : Option f105_l5_Y := loopO (f105_l5_g a1 a2 a4 a5) x
noncomputable def f105_l5_nd : Node := { nils := [], sk := f105_l5_sk, outs := f105_l5_outs, Y := f105_l5_Y, L := fun t => f105_l5 ((f105_l5_con t).1) ((f105_l5_con t).2.1) ((f105_l5_con t).2.2.1) ((f105_l5_con t).2.2.2.1) (f105_l5_get t), out := fun t y => f105_l5_out (f105_l5_con t) y, disp := fun t y K => (fun y => K (.exit 0) (f105_l5_o0.fill (f105_l5_w0 (f105_l5_con t) y))) y }
noncomputable def f105_l13_sk : SkS := ⟨[.ptr 0 [], .undef, .ptr 32 [], .undef, .undef, .undef, .undef, .undef, .undef, .undef, .undef, .undef, .undef, .undef, .undef, .undef, .undef, .undef, .undef, .undef, .undef, .undef, .undef, .undef, .undef, .undef, .undef, .undef, .undef, .undef, .undef, .undef, .undef, .undef, .undef, .undef, .undef, .undef, .undef, .undef, .undef, .undef, .undef, .undef, .undef, .undef, .undef, .undef, .undef, .undef, .undef, .undef, .undef, .undef, .undef, .undef, .undef, .undef, .undef, .undef, .undef, .undef, .undef, .undef, .undef, .undef, .undef, .undef, .con (.int .i64), .undef, .undef, .undef, .undef, .undef, .undef, .undef, .undef, .undef, .undef, .undef, .undef, .undef, .undef, .undef, .undef, .undef, .undef, .undef, .undef, .undef, .undef, .undef, .undef, .undef, .undef, .undef, .undef, .undef, .undef, .undef, .undef, .undef, .undef, .undef, .undef, .undef, .undef, .undef, .undef, .undef, .undef, .undef, .undef, .undef, .undef, .undef, .undef, .undef, .undef, .undef, .undef, .undef, .undef, .undef, .undef, .undef, .undef, .undef, .undef, .undef, .undef, .undef, .undef, .undef, .undef, .undef, .undef, .undef, .undef, .undef], [(0, ⟨some 143, (.pair (.slc (.int .i64)) (.pair (.int .i64) (.pair (.int .i64) .unit))), .ro⟩), (32, ⟨some 61, (.pair (.int .i64) (.pair (.slc (.int .u8)) .unit)), (.pair .ro (.pair (.own .ro) .ro))⟩)]⟩
noncomputable def f105_l13_o0 : SkS := ⟨[.undef, .undef, .ptr 32 [], .con (.int .i64), .undef, .undef, .undef, .undef, .undef, .undef, .undef, .undef, .undef, .undef, .undef, .undef, .undef, .undef, .undef, .undef, .undef, .undef, .undef, .undef, .undef, .undef, .undef, .undef, .undef, .undef, .undef, .undef, .undef, .undef, .undef, .undef, .undef, .undef, .undef, .undef, .undef, .undef, .undef, .undef, .undef, .undef, .undef, .undef, .undef, .undef, .undef, .undef, .undef, .undef, .undef, .undef, .undef, .undef, .undef, .undef, .undef, .undef, .undef, .undef, .undef, .undef, .undef, .undef, .undef, .undef, .undef, .undef, .undef, .undef, .undef, .undef, .undef, .undef, .undef, .undef, .undef, .undef, .undef, .undef, .undef, .undef, .undef, .undef, .undef, .undef, .undef, .undef, .undef, .undef, .undef, .undef, .undef, .undef, .undef, .undef, .undef, .undef, .undef, .undef, .undef, .undef, .undef, .undef, .undef, .undef, .undef, .undef, .undef, .undef, .undef, .undef, .undef, .undef, .undef, .undef, .undef, .undef, .undef, .undef, .undef, .undef, .undef, .undef, .undef, .undef, .undef, .undef, .undef, .undef, .undef, .undef, .undef, .undef, .undef, .undef], [(0, ⟨some 143, (.pair (.slc (.int .i64)) (.pair (.int .i64) (.pair (.int .i64) .unit))), .ro⟩), (32, ⟨some 61, (.pair (.int .i64) (.pair (.slc (.int .u8)) .unit)), (.pair .ro (.pair (.own .ro) .ro))⟩)]⟩
noncomputable def f105_l13_o1 : SkS := ⟨[.ptr 0 [], .undef, .ptr 32 [], .undef, .undef, .undef, .undef, .undef, .undef, .undef, .undef, .undef, .undef, .undef, .undef, .undef, .undef, .undef, .undef, .undef, .undef, .undef, .undef, .undef, .undef, .undef, .undef, .undef, .undef, .undef, .undef, .undef, .undef, .undef, .undef, .undef, .undef, .undef, .undef, .undef, .undef, .undef, .undef, .undef, .undef, .undef, .undef, .undef, .undef, .undef, .undef, .undef, .undef, .undef, .undef, .undef, .undef, .undef, .undef, .undef, .undef, .undef, .undef, .undef, .undef, .undef, .undef, .undef, .undef, .undef, .undef, .undef, .undef, .undef, .undef, .undef, .undef, .undef, .undef, .undef, .undef, .undef, .undef, .undef, .undef, .undef, .undef, .undef, .undef, .undef, .undef, .undef, .undef, .undef, .undef, .undef, .undef, .undef, .undef, .undef, .undef, .undef, .undef, .undef, .undef, .undef, .undef, .undef, .undef, .undef, .undef, .undef, .undef, .undef, .undef, .undef, .undef, .undef, .undef, .undef, .undef, .undef, .undef, .undef, .undef, .undef, .undef, .undef, .undef, .undef, .undef, .undef, .undef, .undef, .undef, .undef, .undef, .undef, .undef, .undef], [(0, ⟨some 143, (.pair (.slc (.int .i64)) (.pair (.int .i64) (.pair (.int .i64) .unit))), .ro⟩), (32, ⟨some 61, (.pair (.int .i64) (.pair (.slc (.int .u8)) .unit)), (.pair .ro (.pair (.own .ro) .ro))⟩)]⟩
noncomputable def f105_l13_outs : List Way := [⟨.ret, [], f105_l13_o0⟩, ⟨(.exit 2), [], f105_l13_o1⟩]
abbrev f105_l13_C := ((Int × (List Int × Unit)) × (Option Nat) × (Option Nat))
abbrev f105_l13_X := (Int × (List Int × (Int × (Int × Unit))))
abbrev f105_l13_Y := (((List Int × (Int × (Int × Unit))) × (Int × (List Int × Unit)))) ⊕ ((List Int × (Int × (Int × Unit))))
noncomputable def f105_l13_con (t : f105_l13_sk.T) : f105_l13_C := (t.2.2.1.1, t.2.1.2, t.2.2.1.2)
noncomputable def f105_l13_get (t : f105_l13_sk.T) : f105_l13_X := (t.1.2.2.2.2.2.2.2.2.2.2.2.2.2.2.2.2.2.2.2.2.2.2.2.2.2.2.2.2.2.2.2.2.2.2.2.2.2.2.2.2.2.2.2.2.2.2.2.2.2.2.2.2.2.2.2.2.2.2.2.2.2.2.2.2.2.2.2.2.1, t.2.1.1)
noncomputable def f105_l13_put (c : f105_l13_C) (x : f105_l13_X) : f105_l13_sk.T := (((), ((), ((), ((), ((), ((), ((), ((), ((), ((), ((), ((), ((), ((), ((), ((), ((), ((), ((), ((), ((), ((), ((), ((), ((), ((), ((), ((), ((), ((), ((), ((), ((), ((), ((), ((), ((), ((), ((), ((), ((), ((), ((), ((), ((), ((), ((), ((), ((), ((), ((), ((), ((), ((), ((), ((), ((), ((), ((), ((), ((), ((), ((), ((), ((), ((), ((), ((), (x.1, ((), ((), ((), ((), ((), ((), ((), ((), ((), ((), ((), ((), ((), ((), ((), ((), ((), ((), ((), ((), ((), ((), ((), ((), ((), ((), ((), ((), ((), ((), ((), ((), ((), ((), ((), ((), ((), ((), ((), ((), ((), ((), ((), ((), ((), ((), ((), ((), ((), ((), ((), ((), ((), ((), ((), ((), ((), ((), ((), ((), ((), ((), ((), ((), ((), ((), ((), ((), ((), ((), ((), ())))))))))))))))))))))))))))))))))))))))))))))))))))))))))))))))))))))))))))))))))))))))))))))))))))))))))))))))))))))))))))))))))))))))))))), ((x.2, c.2.1), ((c.1, c.2.2), ())))
theorem f105_l13_pg (t : f105_l13_sk.T) : f105_l13_put (f105_l13_con t) (f105_l13_get t) = t := by kernel_rfl
noncomputable def f105_l13_w0 (c : f105_l13_C) (y : ((List Int × (Int × (Int × Unit))) × (Int × (List Int × Unit)))) : f105_l13_o0.T := (((), ((), ((), ((3 : Int), ((), ((), ((), ((), ((), ((), ((), ((), ((), ((), ((), ((), ((), ((), ((), ((), ((), ((), ((), ((), ((), ((), ((), ((), ((), ((), ((), ((), ((), ((), ((), ((), ((), ((), ((), ((), ((), ((), ((), ((), ((), ((), ((), ((), ((), ((), ((), ((), ((), ((), ((), ((), ((), ((), ((), ((), ((), ((), ((), ((), ((), ((), ((), ((), ((), ((), ((), ((), ((), ((), ((), ((), ((), ((), ((), ((), ((), ((), ((), ((), ((), ((), ((), ((), ((), ((), ((), ((), ((), ((), ((), ((), ((), ((), ((), ((), ((), ((), ((), ((), ((), ((), ((), ((), ((), ((), ((), ((), ((), ((), ((), ((), ((), ((), ((), ((), ((), ((), ((), ((), ((), ((), ((), ((), ((), ((), ((), ((), ((), ((), ((), ((), ((), ((), ((), ((), ())))))))))))))))))))))))))))))))))))))))))))))))))))))))))))))))))))))))))))))))))))))))))))))))))))))))))))))))))))))))))))))))))))))))))))), ((y.1, c.2.1), ((y.2, c.2.2), ())))
noncomputable def f105_l13_w1 (c : f105_l13_C) (y : (List Int × (Int × (Int × Unit)))) : f105_l13_o1.T := (((), ((), ((), ((), ((), ((), ((), ((), ((), ((), ((), ((), ((), ((), ((), ((), ((), ((), ((), ((), ((), ((), ((), ((), ((), ((), ((), ((), ((), ((), ((), ((), ((), ((), ((), ((), ((), ((), ((), ((), ((), ((), ((), ((), ((), ((), ((), ((), ((), ((), ((), ((), ((), ((), ((), ((), ((), ((), ((), ((), ((), ((), ((), ((), ((), ((), ((), ((), ((), ((), ((), ((), ((), ((), ((), ((), ((), ((), ((), ((), ((), ((), ((), ((), ((), ((), ((), ((), ((), ((), ((), ((), ((), ((), ((), ((), ((), ((), ((), ((), ((), ((), ((), ((), ((), ((), ((), ((), ((), ((), ((), ((), ((), ((), ((), ((), ((), ((), ((), ((), ((), ((), ((), ((), ((), ((), ((), ((), ((), ((), ((), ((), ((), ((), ((), ((), ((), ((), ((), ((), ())))))))))))))))))))))))))))))))))))))))))))))))))))))))))))))))))))))))))))))))))))))))))))))))))))))))))))))))))))))))))))))))))))))))))))), ((y, c.2.1), ((c.1, c.2.2), ())))
noncomputable def f105_l13_out (c : f105_l13_C) (y : f105_l13_Y) : OutV f105_l13_outs := (Sum.elim (fun y => (.inl (f105_l13_w0 c y))) (fun y => (.inr (.inl (f105_l13_w1 c y))))) y
noncomputable def f105_l13_k {R : Type} (a0 : Int) (a1 : (List Int × (Int × (Int × Unit)))) (a2 : (Int × (List Int × Unit))) (kin : f105_l13_X → Option R) (k0 : ((List Int × (Int × (Int × Unit))) × (Int × (List Int × Unit))) → Option R) (k1 : (List Int × (Int × (Int × Unit))) → Option R) : Option R :=
 (cond (decide (a0 < (16 : Int)))
 ((f135 a1).bind fun r8 =>
  ((f134 r8.1.1 (8 : Int)).bind fun r9 =>
  (cond (!r9.1.1)
  (k0 (r8.2.1, ((0 : Int), ([], ()))))
  (let v10 : Int := (IntKind.i64.wrap (a0 + (1 : Int)))
   (kin (v10, r8.2.1))))))
 (k1 a1))
noncomputable def f105_l13_g (a2 : (Int × (List Int × Unit))) (x : f105_l13_X) : Option (f105_l13_X ⊕ f105_l13_Y) := f105_l13_k x.1 x.2 a2 (fun x => some (.inl x)) (fun y => some (.inr (.inl y))) (fun y => some (.inr (.inr y)))
noncomputable def f105_l13 (a2 : (Int × (List Int × Unit))) (x : f105_l13_X) : Option f105_l13_Y := loopO (f105_l13_g a2) x
noncomputable def f105_l13_nd : Node := { nils := [], sk := f105_l13_sk, outs := f105_l13_outs, Y := f105_l13_Y, L := fun t => f105_l13 ((f105_l13_con t).1) (f105_l13_get t), out := fun t y => f105_l13_out (f105_l13_con t) y, disp := fun t y K => (Sum.elim (fun y => K .ret (f105_l13_o0.fill (f105_l13_w0 (f105_l13_con t) y))) (fun y => K (.exit 2) (f105_l13_o1.fill (f105_l13_w1 (f105_l13_con t) y)))) y }
noncomputable def f105_l21_sk : SkS := ⟨[.ptr 0 [], .undef, .ptr 32 [], .undef, .undef, .undef, .undef, .ref 127 [], .con (.int .i64), .con (.int .i64), .undef, .undef, .undef, .undef, .undef, .undef, .undef, .undef, .undef, .undef, .undef, .undef, .undef, .undef, .undef, .undef, .undef, .undef, .undef, .undef, .undef, .undef, .undef, .undef, .undef, .undef, .undef, .undef, .undef, .undef, .undef, .undef, .undef, .undef, .undef, .undef, .undef, .undef, .undef, .undef, .undef, .undef, .undef, .undef, .undef, .undef, .undef, .undef, .undef, .undef, .undef, .undef, .undef, .undef, .undef, .undef, .undef, .undef, .undef, .undef, .undef, .undef, .undef, .undef, .undef, .undef, .undef, .undef, .undef, .undef, .undef, .undef, .undef, .undef, .undef, .undef, .undef, .undef, .undef, .undef, .undef, .undef, .undef, .undef, .undef, .undef, .undef, .undef, .undef, .undef, .undef, .undef, .undef, .undef, .undef, .undef, .undef, .undef, .undef, .undef, .undef, .undef, .undef, .undef, .undef, .undef, .undef, .undef, .undef, .undef, .undef, .undef, .undef, .undef, .undef, .undef, .undef, .undef, .undef, .undef, .undef, .undef, .undef, .undef, .undef, .undef, .undef, .undef, .undef, .undef], [(0, ⟨some 143, (.pair (.slc (.int .i64)) (.pair (.int .i64) (.pair (.int .i64) .unit))), .ro⟩), (32, ⟨some 61, (.pair (.int .i64) (.pair (.slc (.int .u8)) .unit)), (.pair .ro (.pair (.own .ro) .ro))⟩), (127, ⟨none, (.slc (.int .u8)), (.own .ro)⟩)]⟩
noncomputable def f105_l21_o0 : SkS := ⟨[.undef, .undef, .ptr 32 [], .con (.int .i64), .undef, .undef, .undef, .undef, .undef, .undef, .undef, .undef, .undef, .undef, .undef, .undef, .undef, .undef, .undef, .undef, .undef, .undef, .undef, .undef, .undef, .undef, .undef, .undef, .undef, .undef, .undef, .undef, .undef, .undef, .undef, .undef, .undef, .undef, .undef, .undef, .undef, .undef, .undef, .undef, .undef, .undef, .undef, .undef, .undef, .undef, .undef, .undef, .undef, .undef, .undef, .undef, .undef, .undef, .undef, .undef, .undef, .undef, .undef, .undef, .undef, .undef, .undef, .undef, .undef, .undef, .undef, .undef, .undef, .undef, .undef, .undef, .undef, .undef, .undef, .undef, .undef, .undef, .undef, .undef, .undef, .undef, .undef, .undef, .undef, .undef, .undef, .undef, .undef, .undef, .undef, .undef, .undef, .undef, .undef, .undef, .undef, .undef, .undef, .undef, .undef, .undef, .undef, .undef, .undef, .undef, .undef, .undef, .undef, .undef, .undef, .undef, .undef, .undef, .undef, .undef, .undef, .undef, .undef, .undef, .undef, .undef, .undef, .undef, .undef, .undef, .undef, .undef, .undef, .undef, .undef, .undef, .undef, .undef, .undef, .undef], [(0, ⟨some 143, (.pair (.slc (.int .i64)) (.pair (.int .i64) (.pair (.int .i64) .unit))), .ro⟩), (32, ⟨some 61, (.pair (.int .i64) (.pair (.slc (.int .u8)) .unit)), (.pair .ro (.pair (.own .ro) .ro))⟩)]⟩
noncomputable def f105_l21_o1 : SkS := ⟨[.ptr 0 [], .undef, .ptr 32 [], .undef, .undef, .undef, .undef, .ref 127 [], .undef, .undef, .undef, .undef, .undef, .undef, .undef, .undef, .undef, .undef, .undef, .undef, .undef, .undef, .undef, .undef, .undef, .undef, .undef, .undef, .undef, .undef, .undef, .undef, .undef, .undef, .undef, .undef, .undef, .undef, .undef, .undef, .undef, .undef, .undef, .undef, .undef, .undef, .undef, .undef, .undef, .undef, .undef, .undef, .undef, .undef, .undef, .undef, .undef, .undef, .undef, .undef, .undef, .undef, .undef, .undef, .undef, .undef, .undef, .undef, .undef, .undef, .undef, .undef, .undef, .undef, .undef, .undef, .undef, .undef, .undef, .undef, .undef, .undef, .undef, .undef, .undef, .undef, .undef, .undef, .undef, .undef, .undef, .undef, .undef, .undef, .undef, .undef, .undef, .undef, .undef, .undef, .undef, .undef, .undef, .undef, .undef, .undef, .undef, .undef, .undef, .undef, .undef, .undef, .undef, .undef, .undef, .undef, .undef, .undef, .undef, .undef, .undef, .undef, .undef, .undef, .undef, .undef, .undef, .undef, .undef, .undef, .undef, .undef, .undef, .undef, .undef, .undef, .undef, .undef, .undef, .undef], [(0, ⟨some 143, (.pair (.slc (.int .i64)) (.pair (.int .i64) (.pair (.int .i64) .unit))), .ro⟩), (32, ⟨some 61, (.pair (.int .i64) (.pair (.slc (.int .u8)) .unit)), (.pair .ro (.pair (.own .ro) .ro))⟩), (127, ⟨none, (.slc (.int .u8)), (.own .ro)⟩)]⟩
noncomputable def f105_l21_outs : List Way := [⟨.ret, [], f105_l21_o0⟩, ⟨(.exit 4), [], f105_l21_o1⟩]
abbrev f105_l21_C := ((Int × (List Int × Unit)) × (Option Nat) × (Option Nat))
abbrev f105_l21_X := (Int × Int × (List Int × (Int × (Int × Unit))) × List Int)
abbrev f105_l21_Y := ((Int × (List Int × (Int × (Int × Unit))) × (Int × (List Int × Unit)))) ⊕ (((List Int × (Int × (Int × Unit))) × List Int))
noncomputable def f105_l21_con (t : f105_l21_sk.T) : f105_l21_C := (t.2.2.1.1, t.2.1.2, t.2.2.1.2)
noncomputable def f105_l21_get (t : f105_l21_sk.T) : f105_l21_X := (t.1.2.2.2.2.2.2.2.2.1, t.1.2.2.2.2.2.2.2.2.2.1, t.2.1.1, t.2.2.2.1.1)
noncomputable def f105_l21_put (c : f105_l21_C) (x : f105_l21_X) : f105_l21_sk.T := (((), ((), ((), ((), ((), ((), ((), ((), (x.1, (x.2.1, ((), ((), ((), ((), ((), ((), ((), ((), ((), ((), ((), ((), ((), ((), ((), ((), ((), ((), ((), ((), ((), ((), ((), ((), ((), ((), ((), ((), ((), ((), ((), ((), ((), ((), ((), ((), ((), ((), ((), ((), ((), ((), ((), ((), ((), ((), ((), ((), ((), ((), ((), ((), ((), ((), ((), ((), ((), ((), ((), ((), ((), ((), ((), ((), ((), ((), ((), ((), ((), ((), ((), ((), ((), ((), ((), ((), ((), ((), ((), ((), ((), ((), ((), ((), ((), ((), ((), ((), ((), ((), ((), ((), ((), ((), ((), ((), ((), ((), ((), ((), ((), ((), ((), ((), ((), ((), ((), ((), ((), ((), ((), ((), ((), ((), ((), ((), ((), ((), ((), ((), ((), ((), ((), ((), ((), ((), ((), ((), ((), ((), ())))))))))))))))))))))))))))))))))))))))))))))))))))))))))))))))))))))))))))))))))))))))))))))))))))))))))))))))))))))))))))))))))))))))))))), ((x.2.2.1, c.2.1), ((c.1, c.2.2), ((x.2.2.2, ()), ()))))
theorem f105_l21_pg (t : f105_l21_sk.T) : f105_l21_put (f105_l21_con t) (f105_l21_get t) = t := by kernel_rfl
noncomputable def f105_l21_w0 (c : f105_l21_C) (y : (Int × (List Int × (Int × (Int × Unit))) × (Int × (List Int × Unit)))) : f105_l21_o0.T := (((), ((), ((), (y.1, ((), ((), ((), ((), ((), ((), ((), ((), ((), ((), ((), ((), ((), ((), ((), ((), ((), ((), ((), ((), ((), ((), ((), ((), ((), ((), ((), ((), ((), ((), ((), ((), ((), ((), ((), ((), ((), ((), ((), ((), ((), ((), ((), ((), ((), ((), ((), ((), ((), ((), ((), ((), ((), ((), ((), ((), ((), ((), ((), ((), ((), ((), ((), ((), ((), ((), ((), ((), ((), ((), ((), ((), ((), ((), ((), ((), ((), ((), ((), ((), ((), ((), ((), ((), ((), ((), ((), ((), ((), ((), ((), ((), ((), ((), ((), ((), ((), ((), ((), ((), ((), ((), ((), ((), ((), ((), ((), ((), ((), ((), ((), ((), ((), ((), ((), ((), ((), ((), ((), ((), ((), ((), ((), ((), ((), ((), ((), ((), ((), ((), ((), ((), ((), ((), ((), ((), ())))))))))))))))))))))))))))))))))))))))))))))))))))))))))))))))))))))))))))))))))))))))))))))))))))))))))))))))))))))))))))))))))))))))))))), ((y.2.1, c.2.1), ((y.2.2, c.2.2), ())))
noncomputable def f105_l21_w1 (c : f105_l21_C) (y : ((List Int × (Int × (Int × Unit))) × List Int)) : f105_l21_o1.T := (((), ((), ((), ((), ((), ((), ((), ((), ((), ((), ((), ((), ((), ((), ((), ((), ((), ((), ((), ((), ((), ((), ((), ((), ((), ((), ((), ((), ((), ((), ((), ((), ((), ((), ((), ((), ((), ((), ((), ((), ((), ((), ((), ((), ((), ((), ((), ((), ((), ((), ((), ((), ((), ((), ((), ((), ((), ((), ((), ((), ((), ((), ((), ((), ((), ((), ((), ((), ((), ((), ((), ((), ((), ((), ((), ((), ((), ((), ((), ((), ((), ((), ((), ((), ((), ((), ((), ((), ((), ((), ((), ((), ((), ((), ((), ((), ((), ((), ((), ((), ((), ((), ((), ((), ((), ((), ((), ((), ((), ((), ((), ((), ((), ((), ((), ((), ((), ((), ((), ((), ((), ((), ((), ((), ((), ((), ((), ((), ((), ((), ((), ((), ((), ((), ((), ((), ((), ((), ((), ((), ())))))))))))))))))))))))))))))))))))))))))))))))))))))))))))))))))))))))))))))))))))))))))))))))))))))))))))))))))))))))))))))))))))))))))))), ((y.1, c.2.1), ((c.1, c.2.2), ((y.2, ()), ()))))
noncomputable def f105_l21_out (c : f105_l21_C) (y : f105_l21_Y) : OutV f105_l21_outs := (Sum.elim (fun y => (.inl (f105_l21_w0 c y))) (fun y => (.inr (.inl (f105_l21_w1 c y))))) y
noncomputable def f105_l21_k {R : Type} (a0 : Int) (a1 : Int) (a2 : (List Int × (Int × (Int × Unit)))) (a3 : (Int × (List Int × Unit))) (a4 : List Int) (kin : f105_l21_X → Option R) (k0 : (Int × (List Int × (Int × (Int × Unit))) × (Int × (List Int × Unit))) → Option R) (k1 : ((List Int × (Int × (Int × Unit))) × List Int) → Option R) : Option R :=
 (cond (decide (a0 < a1))
 ((f136 a2).bind fun r16 =>
  (cond (r16.1.2.1 != (0 : Int))
  (k0 (r16.1.2.1, r16.2.1, ((0 : Int), ([], ()))))
  (let v17 : Int := (IntKind.u8.wrap r16.1.1)
   (if (List.length a4 + 1) * 1 ≤ most ∧ 0 < 1 ∧ 0 < 1 then (let r18 : List Int := (a4 ++ [v17])
   (cond (a0 == (1 : Int))
   (if (0 : Int) ≤ (0 : Int) ∧ (0 : Int) < ((List.length r18 : Nat) : Int) then (let v19 : Int := (IntKind.i64.wrap (List.getD r18 0 (0 : Int)))
    (let v20 : Int := (IntKind.i64.wrap (v19 * 2 ^ (min 8 64)))
    (if (0 : Int) ≤ (1 : Int) ∧ (1 : Int) < ((List.length r18 : Nat) : Int) then (let v21 : Int := (IntKind.i64.wrap (List.getD r18 1 (0 : Int)))
    (let v22 : Int := (IntKind.i64.wrap (v20 + v21))
    (let v23 : Int := (IntKind.i64.wrap (v22 + (3 : Int)))
    (cond (decide (v23 > (259 : Int)))
    (k0 ((2 : Int), r16.2.1, ((0 : Int), ([], ()))))
    (let v24 : Int := (IntKind.i64.wrap (a0 + (1 : Int)))
     (kin (v24, v23, r16.2.1, r18))))))) else none))) else none)
   (let v25 : Int := (IntKind.i64.wrap (a0 + (1 : Int)))
    (kin (v25, a1, r16.2.1, r18))))) else none))))
 (k1 (a2, a4)))
noncomputable def f105_l21_g (a3 : (Int × (List Int × Unit))) (x : f105_l21_X) : Option (f105_l21_X ⊕ f105_l21_Y) := f105_l21_k x.1 x.2.1 x.2.2.1 a3 x.2.2.2 (fun x => some (.inl x)) (fun y => some (.inr (.inl y))) (fun y => some (.inr (.inr y)))
noncomputable def f105_l21 (a3 : (Int × (List Int × Unit))) (x : f105_l21_X) : Option f105_l21_Y := loopO (f105_l21_g a3) x
noncomputable def f105_l21_nd : Node := { nils := [(7, 127, (.int .u8), .ro)], sk := f105_l21_sk, outs := f105_l21_outs, Y := f105_l21_Y, L := fun t => f105_l21 ((f105_l21_con t).1) (f105_l21_get t), out := fun t y => f105_l21_out (f105_l21_con t) y, disp := fun t y K => (Sum.elim (fun y => K .ret (f105_l21_o0.fill (f105_l21_w0 (f105_l21_con t) y))) (fun y => K (.exit 4) (f105_l21_o1.fill (f105_l21_w1 (f105_l21_con t) y)))) y }
noncomputable def f105_fx : Fx := { E := env, T := [(135, f135_sm), (134, f134_sm), (136, f136_sm), (99, f99_sm)], H := [], O := [], nodes := [((true, 5), f105_l5_nd), ((true, 13), f105_l13_nd), ((true, 21), f105_l21_nd)] }
noncomputable def f105_l5_b : Code := (loops f105_code).getD 0 .skip
theorem f105_l5_r (c : f105_l5_C) (x : f105_l5_X) : roundS f105_fx f105_l5_b f105_l5_nd (f105_l5_put c x) = f105_l5_k x.1 c.1 c.2.1 x.2 c.2.2.1 c.2.2.2.1 (fun x => some (.inl (f105_l5_put c x))) (fun y => some (.inr (.inl (f105_l5_w0 c y)))) := by kernel_rfl
theorem f105_l5_n {R : Type} (a0 : Int) (a1 : List Int) (a2 : Int) (a3 : Int) (a4 : (List Int × (Int × (Int × Unit)))) (a5 : (Int × (List Int × Unit))) (kin : f105_l5_X → Option R) (k0 : Int → Option R) : f105_l5_k a0 a1 a2 a3 a4 a5 kin k0 = (f105_l5_g a1 a2 a4 a5 (a0, a3)).bind (Sum.elim kin k0) := by
  simp only [f105_l5_g, f105_l5_k, cond_bind, ite_bind, bind_bind, some_bind, none_bind, elim_bind, Sum.elim_inl, Sum.elim_inr]
theorem f105_l5_ok : LoopOk f105_fx f105_l5_b f105_l5_nd := loop_ok f105_l5_con f105_l5_get f105_l5_put f105_l5_pg (fun c => f105_l5_g c.1 c.2.1 c.2.2.1 c.2.2.2.1) f105_l5_out (fun t y => rfl) (fun t y K => rfl) (fun c x => by
  refine (f105_l5_r c x).trans ((f105_l5_n _ _ _ _ _ _ _ _).trans ?_)
  first
  | rfl
  | congr 1
    funext s
    rcases s with s | s <;> rfl) (fun t => rfl)
noncomputable def f105_l13_b : Code := (loops f105_code).getD 1 .skip
theorem f105_l13_r (c : f105_l13_C) (x : f105_l13_X) : roundS f105_fx f105_l13_b f105_l13_nd (f105_l13_put c x) = f105_l13_k x.1 x.2 c.1 (fun x => some (.inl (f105_l13_put c x))) (fun y => some (.inr (.inl (f105_l13_w0 c y)))) (fun y => some (.inr (.inr (.inl (f105_l13_w1 c y))))) := by kernel_rfl
theorem f105_l13_n {R : Type} (a0 : Int) (a1 : (List Int × (Int × (Int × Unit)))) (a2 : (Int × (List Int × Unit))) (kin : f105_l13_X → Option R) (k0 : ((List Int × (Int × (Int × Unit))) × (Int × (List Int × Unit))) → Option R) (k1 : (List Int × (Int × (Int × Unit))) → Option R) : f105_l13_k a0 a1 a2 kin k0 k1 = (f105_l13_g a2 (a0, a1)).bind (Sum.elim kin (Sum.elim k0 k1)) := by
  simp only [f105_l13_g, f105_l13_k, cond_bind, ite_bind, bind_bind, some_bind, none_bind, elim_bind, Sum.elim_inl, Sum.elim_inr]
theorem f105_l13_ok : LoopOk f105_fx f105_l13_b f105_l13_nd := loop_ok f105_l13_con f105_l13_get f105_l13_put f105_l13_pg (fun c => f105_l13_g c.1) f105_l13_out (fun t y => rfl) (by intro R t y K; rcases y with y | y <;> rfl) (fun c x => by
  refine (f105_l13_r c x).trans ((f105_l13_n _ _ _ _ _ _).trans ?_)
  first
  | rfl
  | congr 1
    funext s
    rcases s with s | s | s <;> rfl) (fun t => rfl)
noncomputable def f105_l21_b : Code := (loops f105_code).getD 2 .skip
theorem f105_l21_r (c : f105_l21_C) (x : f105_l21_X) : roundS f105_fx f105_l21_b f105_l21_nd (f105_l21_put c x) = f105_l21_k x.1 x.2.1 x.2.2.1 c.1 x.2.2.2 (fun x => some (.inl (f105_l21_put c x))) (fun y => some (.inr (.inl (f105_l21_w0 c y)))) (fun y => some (.inr (.inr (.inl (f105_l21_w1 c y))))) := by kernel_rfl
theorem f105_l21_n {R : Type} (a0 : Int) (a1 : Int) (a2 : (List Int × (Int × (Int × Unit)))) (a3 : (Int × (List Int × Unit))) (a4 : List Int) (kin : f105_l21_X → Option R) (k0 : (Int × (List Int × (Int × (Int × Unit))) × (Int × (List Int × Unit))) → Option R) (k1 : ((List Int × (Int × (Int × Unit))) × List Int) → Option R) : f105_l21_k a0 a1 a2 a3 a4 kin k0 k1 = (f105_l21_g a3 (a0, a1, a2, a4)).bind (Sum.elim kin (Sum.elim k0 k1)) := by
  simp only [f105_l21_g, f105_l21_k, cond_bind, ite_bind, bind_bind, some_bind, none_bind, elim_bind, Sum.elim_inl, Sum.elim_inr]
theorem f105_l21_ok : LoopOk f105_fx f105_l21_b f105_l21_nd := loop_ok f105_l21_con f105_l21_get f105_l21_put f105_l21_pg (fun c => f105_l21_g c.1) f105_l21_out (fun t y => rfl) (by intro R t y K; rcases y with y | y <;> rfl) (fun c x => by
  refine (f105_l21_r c x).trans ((f105_l21_n _ _ _ _ _ _ _ _).trans ?_)
  first
  | rfl
  | congr 1
    funext s
    rcases s with s | s | s <;> rfl) (fun t => rfl)
noncomputable def f105_k {R : Type} (a0 : (List Int × (Int × (Int × Unit)))) (k : ((Int × (List Int × Unit)) × Int × Unit) × ((List Int × (Int × (Int × Unit))) × Unit) → Option R) : Option R :=
 (let v0 : Int := (IntKind.i64.wrap (((List.length a0.1 : Nat) : Int) - a0.2.1))
 (cond (decide (v0 < (17 : Int)))
 (k ((((0 : Int), ([], ())), ((13 : Int), ())), (a0, ())))
 (let v1 : Int := (IntKind.i64.wrap (a0.2.1 + (16 : Int)))
  (if (0 : Int) ≤ a0.2.1 ∧ a0.2.1 ≤ v1 ∧ v1 ≤ ((List.length a0.1 : Nat) : Int) then ((f105_l5 (List.take ((Int.toNat v1) - (Int.toNat a0.2.1)) (List.drop (Int.toNat a0.2.1) a0.1)) ((List.length (List.take ((Int.toNat v1) - (Int.toNat a0.2.1)) (List.drop (Int.toNat a0.2.1) a0.1)) : Nat) : Int) a0 ((0 : Int), (([] : List Int), ())) ((0 : Int), (0 : Int))).bind fun y4 =>
  (let v5 : Int := (IntKind.i64.wrap ((2 : Int) * y4))
  (let v6 : Int := (IntKind.i64.wrap (v5 + (128 : Int)))
  (let v7 : Int := (IntKind.i64.wrap (Int.tdiv v6 (256 : Int)))
  (cond (decide (v7 < (4 : Int)))
  (k ((((0 : Int), ([], ())), ((3 : Int), ())), ((a0.1, (a0.2.1, (v7, a0.2.2.2))), ())))
  (cond (decide (v7 > (1000 : Int)))
   (k ((((0 : Int), ([], ())), ((3 : Int), ())), ((a0.1, (a0.2.1, (v7, a0.2.2.2))), ())))
   ((f105_l13 ((0 : Int), (([] : List Int), ())) ((0 : Int), (a0.1, (a0.2.1, (v7, a0.2.2.2))))).bind fun y11 =>
    ((Sum.elim (fun z12 =>
    (k ((z12.2, ((3 : Int), ())), (z12.1, ()))))
    (fun z13 =>
    ((f135 z13).bind fun r14 =>
     ((f134 r14.1.1 (16 : Int)).bind fun r15 =>
     (cond (!r15.1.1)
     (k ((((0 : Int), ([], ())), ((3 : Int), ())), (r14.2.1, ())))
     ((f105_l21 ((0 : Int), (([] : List Int), ())) ((0 : Int), (3 : Int), r14.2.1, [])).bind fun y26 =>
      ((Sum.elim (fun z27 =>
      (k ((z27.2.2, (z27.1, ())), (z27.2.1, ()))))
      (fun z28 =>
      (let v29 : Int := (IntKind.i64.wrap (((List.length z28.2 : Nat) : Int) - (1 : Int)))
       (if (0 : Int) ≤ (2 : Int) ∧ (2 : Int) ≤ v29 ∧ v29 ≤ ((List.length z28.2 : Nat) : Int) then (if (0 + List.length (List.take ((Int.toNat v29) - 2) (List.drop 2 z28.2))) * 1 ≤ most ∧ 0 < 1 ∧ 0 < 1 then (let r30 : List Int := ([] ++ (List.take ((Int.toNat v29) - 2) (List.drop 2 z28.2)))
       ((f99 r30).bind fun r31 =>
       (let v32 : Int := (IntKind.i64.wrap (((List.length z28.2 : Nat) : Int) - (1 : Int)))
       (if (0 : Int) ≤ v32 ∧ v32 < ((List.length z28.2 : Nat) : Int) then (let v33 : Int := (IntKind.i64.wrap (List.getD z28.2 (Int.toNat v32) (0 : Int)))
       (cond (r31.1.1 != v33)
       (k ((((0 : Int), ([], ())), ((12 : Int), ())), (z28.1, ())))
       (k (((z28.1.2.2.1, (r30, ())), ((0 : Int), ())), (z28.1, ()))))) else none)))) else none) else none)))) y26))))))) y11)))))))) else none))))
noncomputable def f105 (a0 : (List Int × (Int × (Int × Unit)))) : Option (((Int × (List Int × Unit)) × Int × Unit) × ((List Int × (Int × (Int × Unit))) × Unit)) := f105_k a0 some
noncomputable def f105_sm : Sm := ⟨[.io 143 (.pair (.slc (.int .i64)) (.pair (.int .i64) (.pair (.int .i64) .unit))) .ro], [((.pair (.int .i64) (.pair (.slc (.int .u8)) .unit)), (.pair .ro (.pair (.own .ro) .ro))), ((.int .i64), .ro)], fun x => f105 x.1⟩
theorem f105_m (k0 : Nat) (x : ArgT [.io 143 (.pair (.slc (.int .i64)) (.pair (.int .i64) (.pair (.int .i64) .unit))) .ro]) : codeS f105_fx f105_code (start [.io 143 (.pair (.slc (.int .i64)) (.pair (.int .i64) (.pair (.int .i64) .unit))) .ro] [k0] x 140) (finK env [.cell 2 61, .tmp 3] [.io 143 (.pair (.slc (.int .i64)) (.pair (.int .i64) (.pair (.int .i64) .unit))) .ro] [((.pair (.int .i64) (.pair (.slc (.int .u8)) .unit)), (.pair .ro (.pair (.own .ro) .ro))), ((.int .i64), .ro)]) = f105_k x.1 (fun r => some (r, [some k0])) := by kernel_rfl
theorem f105_n {R : Type} (a0 : (List Int × (Int × (Int × Unit)))) (k : ((Int × (List Int × Unit)) × Int × Unit) × ((List Int × (Int × (Int × Unit))) × Unit) → Option R) : f105_k a0 k = (f105 a0).bind k := by
  simp only [f105, f105_k, cond_bind, ite_bind, bind_bind, some_bind, none_bind, elim_bind]
theorem f105_f : FnOk Try.prog 105 := ⟨Try.f105, Try.func105, by kernel_rfl, by kernel_rfl⟩
theorem f105_ok : SmOk Try.prog 105 f105_sm :=
  sum_of (c := f105_fx) (fn := Try.f105) (code := f105_code) (sm := f105_sm) mixed (env_ok env_envB) (TabsOk.all ⟨⟨f135_ok, f135_f⟩, ⟨f134_ok, f134_f⟩, ⟨f136_ok, f136_f⟩, ⟨f99_ok, f99_f⟩, trivial⟩) Try.func105 (by kernel_rfl)
   ((LoopsOk.of (l := [f105_l5_b, f105_l13_b, f105_l21_b]) (by kernel_rfl) ⟨node_is (by kernel_rfl) f105_l5_ok, node_is (by kernel_rfl) f105_l13_ok, node_is (by kernel_rfl) f105_l21_ok, trivial⟩))
   (no_tails (by kernel_rfl))
   (fun ks x hl => by
    match ks, hl with
    | [k0], _ =>
      exact (f105_m k0 x).trans (f105_n _ _))
/-! bakelite/tape.Read -/
noncomputable def f45_code : Code := (Try.f45.body).getD .skip
noncomputable def f45_l6_sk : SkS := ⟨[.con (.slc (.int .i64)), .undef, .undef, .undef, .undef, .undef, .ptr 272 [], .ref 127 [], .undef, .undef, .undef, .undef, .undef, .undef, .undef, .undef, .undef, .undef, .undef, .undef, .undef, .undef, .undef, .undef, .undef, .undef, .undef, .undef, .undef, .undef, .undef, .undef, .undef, .undef, .undef, .undef, .undef, .undef, .undef, .undef, .undef, .undef], [(127, ⟨none, (.slc (.pair (.int .i64) (.pair (.slc (.int .u8)) .unit))), (.own .ro)⟩), (272, ⟨some 143, (.pair (.slc (.int .i64)) (.pair (.int .i64) (.pair (.int .i64) .unit))), .ro⟩)]⟩
noncomputable def f45_l6_o0 : SkS := ⟨[.undef, .undef, .ref 47 [], .con (.int .i64), .con (.int .i64), .undef, .undef, .undef, .undef, .undef, .undef, .undef, .undef, .undef, .undef, .undef, .undef, .undef, .undef, .undef, .undef, .undef, .undef, .undef, .undef, .undef, .undef, .undef, .undef, .undef, .undef, .undef, .undef, .undef, .undef, .undef, .undef, .undef, .undef, .undef, .undef, .undef], [(47, ⟨none, (.slc (.pair (.int .i64) (.pair (.slc (.int .u8)) .unit))), (.own .ro)⟩)]⟩
noncomputable def f45_l6_o1 : SkS := ⟨[.undef, .undef, .undef, .undef, .undef, .undef, .undef, .ref 127 [], .undef, .undef, .undef, .undef, .undef, .undef, .undef, .undef, .undef, .undef, .undef, .undef, .undef, .undef, .undef, .undef, .undef, .undef, .undef, .undef, .undef, .undef, .undef, .undef, .undef, .undef, .undef, .undef, .undef, .undef, .undef, .undef, .undef, .undef], [(127, ⟨none, (.slc (.pair (.int .i64) (.pair (.slc (.int .u8)) .unit))), (.own .ro)⟩)]⟩
noncomputable def f45_l6_outs : List Way := [⟨.ret, [(2, 47, (.pair (.int .i64) (.pair (.slc (.int .u8)) .unit)), .ro)], f45_l6_o0⟩, ⟨(.exit 0), [], f45_l6_o1⟩]
abbrev f45_l6_C := (List Int × (Option Nat))
abbrev f45_l6_X := (List (Int × (List Int × Unit)) × (List Int × (Int × (Int × Unit))))
abbrev f45_l6_Y := ((Int × Int × List (Int × (List Int × Unit)))) ⊕ (List (Int × (List Int × Unit)))
noncomputable def f45_l6_con (t : f45_l6_sk.T) : f45_l6_C := (t.1.1, t.2.2.1.2)
noncomputable def f45_l6_get (t : f45_l6_sk.T) : f45_l6_X := (t.2.1.1, t.2.2.1.1)
noncomputable def f45_l6_put (c : f45_l6_C) (x : f45_l6_X) : f45_l6_sk.T := ((c.1, ((), ((), ((), ((), ((), ((), ((), ((), ((), ((), ((), ((), ((), ((), ((), ((), ((), ((), ((), ((), ((), ((), ((), ((), ((), ((), ((), ((), ((), ((), ((), ((), ((), ((), ((), ((), ((), ((), ((), ((), ((), ())))))))))))))))))))))))))))))))))))))))))), ((x.1, ()), ((x.2, c.2), ())))
theorem f45_l6_pg (t : f45_l6_sk.T) : f45_l6_put (f45_l6_con t) (f45_l6_get t) = t := by kernel_rfl
noncomputable def f45_l6_w0 (c : f45_l6_C) (y : (Int × Int × List (Int × (List Int × Unit)))) : f45_l6_o0.T := (((), ((), ((), (y.1, (y.2.1, ((), ((), ((), ((), ((), ((), ((), ((), ((), ((), ((), ((), ((), ((), ((), ((), ((), ((), ((), ((), ((), ((), ((), ((), ((), ((), ((), ((), ((), ((), ((), ((), ((), ((), ((), ((), ((), ())))))))))))))))))))))))))))))))))))))))))), ((y.2.2, ()), ()))
noncomputable def f45_l6_w1 (c : f45_l6_C) (y : List (Int × (List Int × Unit))) : f45_l6_o1.T := (((), ((), ((), ((), ((), ((), ((), ((), ((), ((), ((), ((), ((), ((), ((), ((), ((), ((), ((), ((), ((), ((), ((), ((), ((), ((), ((), ((), ((), ((), ((), ((), ((), ((), ((), ((), ((), ((), ((), ((), ((), ((), ())))))))))))))))))))))))))))))))))))))))))), ((y, ()), ()))
noncomputable def f45_l6_out (c : f45_l6_C) (y : f45_l6_Y) : OutV f45_l6_outs := (Sum.elim (fun y => (.inl (f45_l6_w0 c y))) (fun y => (.inr (.inl (f45_l6_w1 c y))))) y
noncomputable def f45_l6_k {R : Type} (a0 : List Int) (a1 : List (Int × (List Int × Unit))) (a2 : (List Int × (Int × (Int × Unit)))) (kin : f45_l6_X → Option R) (k0 : (Int × Int × List (Int × (List Int × Unit))) → Option R) (k1 : List (Int × (List Int × Unit)) → Option R) : Option R :=
 (cond (decide (a2.2.1 < ((List.length a0 : Nat) : Int)))
 ((f105 a2).bind fun r1 =>
  (cond (r1.1.2.1 != (0 : Int))
  (k0 (r1.1.2.1, (0 : Int), a1))
  (if (List.length a1 + 1) * 32 ≤ most ∧ 0 < 32 ∧ 0 < 2 then (let r2 : List (Int × (List Int × Unit)) := (a1 ++ [r1.1.1])
   (cond (decide (((List.length r2 : Nat) : Int) > (8 : Int)))
   (k0 ((0 : Int), (2 : Int), []))
   (kin (r2, r1.2.1)))) else none)))
 (k1 a1))
noncomputable def f45_l6_g (a0 : List Int) (x : f45_l6_X) : Option (f45_l6_X ⊕ f45_l6_Y) := f45_l6_k a0 x.1 x.2 (fun x => some (.inl x)) (fun y => some (.inr (.inl y))) (fun y => some (.inr (.inr y)))
noncomputable def f45_l6 (a0 : List Int) (x : f45_l6_X) : Option f45_l6_Y := loopO (f45_l6_g a0) x
noncomputable def f45_l6_nd : Node := { nils := [(7, 127, (.pair (.int .i64) (.pair (.slc (.int .u8)) .unit)), .ro)], sk := f45_l6_sk, outs := f45_l6_outs, Y := f45_l6_Y, L := fun t => f45_l6 ((f45_l6_con t).1) (f45_l6_get t), out := fun t y => f45_l6_out (f45_l6_con t) y, disp := fun t y K => (Sum.elim (fun y => K .ret (f45_l6_o0.fill (f45_l6_w0 (f45_l6_con t) y))) (fun y => K (.exit 0) (f45_l6_o1.fill (f45_l6_w1 (f45_l6_con t) y)))) y }
noncomputable def f45_fx : Fx := { E := env, T := [(104, f104_sm), (105, f105_sm)], H := [], O := [], nodes := [((true, 6), f45_l6_nd)] }
noncomputable def f45_l6_b : Code := (loops f45_code).getD 0 .skip
theorem f45_l6_r (c : f45_l6_C) (x : f45_l6_X) : roundS f45_fx f45_l6_b f45_l6_nd (f45_l6_put c x) = f45_l6_k c.1 x.1 x.2 (fun x => some (.inl (f45_l6_put c x))) (fun y => some (.inr (.inl (f45_l6_w0 c y)))) (fun y => some (.inr (.inr (.inl (f45_l6_w1 c y))))) := by kernel_rfl
theorem f45_l6_n {R : Type} (a0 : List Int) (a1 : List (Int × (List Int × Unit))) (a2 : (List Int × (Int × (Int × Unit)))) (kin : f45_l6_X → Option R) (k0 : (Int × Int × List (Int × (List Int × Unit))) → Option R) (k1 : List (Int × (List Int × Unit)) → Option R) : f45_l6_k a0 a1 a2 kin k0 k1 = (f45_l6_g a0 (a1, a2)).bind (Sum.elim kin (Sum.elim k0 k1)) := by
  simp only [f45_l6_g, f45_l6_k, cond_bind, ite_bind, bind_bind, some_bind, none_bind, elim_bind, Sum.elim_inl, Sum.elim_inr]
theorem f45_l6_ok : LoopOk f45_fx f45_l6_b f45_l6_nd := loop_ok f45_l6_con f45_l6_get f45_l6_put f45_l6_pg (fun c => f45_l6_g c.1) f45_l6_out (fun t y => rfl) (by intro R t y K; rcases y with y | y <;> rfl) (fun c x => by
  refine (f45_l6_r c x).trans ((f45_l6_n _ _ _ _ _ _).trans ?_)
  first
  | rfl
  | congr 1
    funext s
    rcases s with s | s | s <;> rfl) (fun t => rfl)
noncomputable def f45_k {R : Type} (a0 : List Int) (k : (List (Int × (List Int × Unit)) × Int × Int × Unit) × (Unit) → Option R) : Option R :=
 ((f104 a0).bind fun r0 =>
 (cond (r0.1.1 != (0 : Int))
 (k (([], ((0 : Int), (r0.1.1, ()))), ()))
 ((f45_l6 a0 ([], (a0, ((0 : Int), ((0 : Int), ()))))).bind fun y3 =>
  ((Sum.elim (fun z4 =>
  (k ((z4.2.2, (z4.1, (z4.2.1, ()))), ())))
  (fun z5 =>
  (k ((z5, ((0 : Int), ((0 : Int), ()))), ())))) y3))))
noncomputable def f45 (a0 : List Int) : Option ((List (Int × (List Int × Unit)) × Int × Int × Unit) × (Unit)) := f45_k a0 some
noncomputable def f45_sm : Sm := ⟨[.ro (.slc (.int .i64))], [((.slc (.pair (.int .i64) (.pair (.slc (.int .u8)) .unit))), (.own .ro)), ((.int .i64), .ro), ((.int .i64), .ro)], fun x => f45 x.1⟩
theorem f45_m (x : ArgT [.ro (.slc (.int .i64))]) : codeS f45_fx f45_code (start [.ro (.slc (.int .i64))] [] x 42) (finK env [.tmp 2, .tmp 3, .tmp 4] [.ro (.slc (.int .i64))] [((.slc (.pair (.int .i64) (.pair (.slc (.int .u8)) .unit))), (.own .ro)), ((.int .i64), .ro), ((.int .i64), .ro)]) = f45_k x.1 (fun r => some (r, [])) := by kernel_rfl
theorem f45_n {R : Type} (a0 : List Int) (k : (List (Int × (List Int × Unit)) × Int × Int × Unit) × (Unit) → Option R) : f45_k a0 k = (f45 a0).bind k := by
  simp only [f45, f45_k, cond_bind, ite_bind, bind_bind, some_bind, none_bind, elim_bind]
theorem f45_f : FnOk Try.prog 45 := ⟨Try.f45, Try.func45, by kernel_rfl, by kernel_rfl⟩
theorem f45_ok : SmOk Try.prog 45 f45_sm :=
  sum_of (c := f45_fx) (fn := Try.f45) (code := f45_code) (sm := f45_sm) mixed (env_ok env_envB) (TabsOk.all ⟨⟨f104_ok, f104_f⟩, ⟨f105_ok, f105_f⟩, trivial⟩) Try.func45 (by kernel_rfl)
   ((LoopsOk.of (l := [f45_l6_b]) (by kernel_rfl) ⟨node_is (by kernel_rfl) f45_l6_ok, trivial⟩))
   (no_tails (by kernel_rfl))
   (fun ks x hl => by
    have hk : ks = [] := List.length_eq_zero_iff.1 hl
    subst hk
    exact (f45_m x).trans (f45_n _ _))
/-! slices.Equal[bakelite/api.Track,int] -/
noncomputable def f33_code : Code := (Try.f33.body).getD .skip
noncomputable def f33_l4_sk : SkS := ⟨[.con (.slc (.int .i64)), .con (.slc (.int .i64)), .undef, .undef, .undef, .undef, .undef, .undef, .undef, .undef, .undef, .undef, .con (.int .i64), .con (.int .i64), .undef, .undef, .undef, .undef, .undef, .undef, .undef, .undef, .undef, .undef, .undef, .undef], []⟩
noncomputable def f33_l4_o0 : SkS := ⟨[.undef, .undef, .undef, .undef, .con .bool, .undef, .undef, .undef, .undef, .undef, .undef, .undef, .undef, .undef, .undef, .undef, .undef, .undef, .undef, .undef, .undef, .undef, .undef, .undef, .undef, .undef], []⟩
noncomputable def f33_l4_o1 : SkS := ⟨[.undef, .undef, .undef, .undef, .undef, .undef, .undef, .undef, .undef, .undef, .undef, .undef, .undef, .undef, .undef, .undef, .undef, .undef, .undef, .undef, .undef, .undef, .undef, .undef, .undef, .undef], []⟩
noncomputable def f33_l4_outs : List Way := [⟨.ret, [], f33_l4_o0⟩, ⟨(.exit 0), [], f33_l4_o1⟩]
abbrev f33_l4_C := (List Int × List Int × Int)
abbrev f33_l4_X := Int
abbrev f33_l4_Y := (Unit) ⊕ (Unit)
noncomputable def f33_l4_con (t : f33_l4_sk.T) : f33_l4_C := (t.1.1, t.1.2.1, t.1.2.2.2.2.2.2.2.2.2.2.2.2.1)
noncomputable def f33_l4_get (t : f33_l4_sk.T) : f33_l4_X := t.1.2.2.2.2.2.2.2.2.2.2.2.2.2.1
noncomputable def f33_l4_put (c : f33_l4_C) (x : f33_l4_X) : f33_l4_sk.T := ((c.1, (c.2.1, ((), ((), ((), ((), ((), ((), ((), ((), ((), ((), (c.2.2, (x, ((), ((), ((), ((), ((), ((), ((), ((), ((), ((), ((), ((), ())))))))))))))))))))))))))), ())
theorem f33_l4_pg (t : f33_l4_sk.T) : f33_l4_put (f33_l4_con t) (f33_l4_get t) = t := by kernel_rfl
noncomputable def f33_l4_w0 (c : f33_l4_C) (y : Unit) : f33_l4_o0.T := (((), ((), ((), ((), (false, ((), ((), ((), ((), ((), ((), ((), ((), ((), ((), ((), ((), ((), ((), ((), ((), ((), ((), ((), ((), ((), ())))))))))))))))))))))))))), ())
noncomputable def f33_l4_w1 (c : f33_l4_C) (y : Unit) : f33_l4_o1.T := (((), ((), ((), ((), ((), ((), ((), ((), ((), ((), ((), ((), ((), ((), ((), ((), ((), ((), ((), ((), ((), ((), ((), ((), ((), ((), ())))))))))))))))))))))))))), ())
noncomputable def f33_l4_out (c : f33_l4_C) (y : f33_l4_Y) : OutV f33_l4_outs := (Sum.elim (fun y => (.inl (f33_l4_w0 c y))) (fun y => (.inr (.inl (f33_l4_w1 c y))))) y
noncomputable def f33_l4_k {R : Type} (a0 : List Int) (a1 : List Int) (a2 : Int) (a3 : Int) (kin : f33_l4_X → Option R) (k0 : Unit → Option R) (k1 : Unit → Option R) : Option R :=
 (cond (decide (a3 < a2))
 (if (0 : Int) ≤ a3 ∧ a3 < ((List.length a0 : Nat) : Int) then (if (0 : Int) ≤ a3 ∧ a3 < ((List.length a1 : Nat) : Int) then (cond ((List.getD a0 (Int.toNat a3) (0 : Int)) != (List.getD a1 (Int.toNat a3) (0 : Int)))
  (k0 ())
  (let v0 : Int := (IntKind.i64.wrap (a3 + (1 : Int)))
   (kin v0))) else none) else none)
 (k1 ()))
noncomputable def f33_l4_g (a0 : List Int) (a1 : List Int) (a2 : Int) (x : f33_l4_X) : Option (f33_l4_X ⊕ f33_l4_Y) := f33_l4_k a0 a1 a2 x (fun x => some (.inl x)) (fun y => some (.inr (.inl y))) (fun y => some (.inr (.inr y)))
noncomputable def f33_l4 (a0 : List Int) (a1 : List Int) (a2 : Int) (x : f33_l4_X) : Option f33_l4_Y := loopO (f33_l4_g a0 a1 a2) x
noncomputable def f33_l4_nd : Node := { nils := [], sk := f33_l4_sk, outs := f33_l4_outs, Y := f33_l4_Y, L := fun t => f33_l4 ((f33_l4_con t).1) ((f33_l4_con t).2.1) ((f33_l4_con t).2.2) (f33_l4_get t), out := fun t y => f33_l4_out (f33_l4_con t) y, disp := fun t y K => (Sum.elim (fun y => K .ret (f33_l4_o0.fill (f33_l4_w0 (f33_l4_con t) y))) (fun y => K (.exit 0) (f33_l4_o1.fill (f33_l4_w1 (f33_l4_con t) y)))) y }
noncomputable def f33_fx : Fx := { E := env, T := [], H := [], O := [], nodes := [((true, 4), f33_l4_nd)] }
noncomputable def f33_l4_b : Code := (loops f33_code).getD 0 .skip
theorem f33_l4_r (c : f33_l4_C) (x : f33_l4_X) : roundS f33_fx f33_l4_b f33_l4_nd (f33_l4_put c x) = f33_l4_k c.1 c.2.1 c.2.2 x (fun x => some (.inl (f33_l4_put c x))) (fun y => some (.inr (.inl (f33_l4_w0 c y)))) (fun y => some (.inr (.inr (.inl (f33_l4_w1 c y))))) := by kernel_rfl
theorem f33_l4_n {R : Type} (a0 : List Int) (a1 : List Int) (a2 : Int) (a3 : Int) (kin : f33_l4_X → Option R) (k0 : Unit → Option R) (k1 : Unit → Option R) : f33_l4_k a0 a1 a2 a3 kin k0 k1 = (f33_l4_g a0 a1 a2 a3).bind (Sum.elim kin (Sum.elim k0 k1)) := by
  simp only [f33_l4_g, f33_l4_k, cond_bind, ite_bind, bind_bind, some_bind, none_bind, elim_bind, Sum.elim_inl, Sum.elim_inr]
theorem f33_l4_ok : LoopOk f33_fx f33_l4_b f33_l4_nd := loop_ok f33_l4_con f33_l4_get f33_l4_put f33_l4_pg (fun c => f33_l4_g c.1 c.2.1 c.2.2) f33_l4_out (fun t y => rfl) (by intro R t y K; rcases y with y | y <;> rfl) (fun c x => by
  refine (f33_l4_r c x).trans ((f33_l4_n _ _ _ _ _ _ _).trans ?_)
  first
  | rfl
  | congr 1
    funext s
    rcases s with s | s | s <;> rfl) (fun t => rfl)
noncomputable def f33_k {R : Type} (a0 : List Int) (a1 : List Int) (k : (Bool × Unit) × (Unit) → Option R) : Option R :=
 (cond (((List.length a0 : Nat) : Int) != ((List.length a1 : Nat) : Int))
 (k ((false, ()), ()))
 ((f33_l4 a0 a1 ((List.length a0 : Nat) : Int) (0 : Int)).bind fun y1 =>
  ((Sum.elim (fun z2 =>
  (k ((false, ()), ())))
  (fun z3 =>
  (k ((true, ()), ())))) y1)))
noncomputable def f33 (a0 : List Int) (a1 : List Int) : Option ((Bool × Unit) × (Unit)) := f33_k a0 a1 some
noncomputable def f33_sm : Sm := ⟨[.ro (.slc (.int .i64)), .ro (.slc (.int .i64))], [(.bool, .ro)], fun x => f33 x.1 x.2.1⟩
theorem f33_m (x : ArgT [.ro (.slc (.int .i64)), .ro (.slc (.int .i64))]) : codeS f33_fx f33_code (start [.ro (.slc (.int .i64)), .ro (.slc (.int .i64))] [] x 26) (finK env [.tmp 4] [.ro (.slc (.int .i64)), .ro (.slc (.int .i64))] [(.bool, .ro)]) = f33_k x.1 x.2.1 (fun r => some (r, [])) := by kernel_rfl
theorem f33_n {R : Type} (a0 : List Int) (a1 : List Int) (k : (Bool × Unit) × (Unit) → Option R) : f33_k a0 a1 k = (f33 a0 a1).bind k := by
  simp only [f33, f33_k, cond_bind, ite_bind, bind_bind, some_bind, none_bind, elim_bind]
theorem f33_f : FnOk Try.prog 33 := ⟨Try.f33, Try.func33, by kernel_rfl, by kernel_rfl⟩
theorem f33_ok : SmOk Try.prog 33 f33_sm :=
  sum_of (c := f33_fx) (fn := Try.f33) (code := f33_code) (sm := f33_sm) mixed (env_ok env_envB) (TabsOk.all trivial) Try.func33 (by kernel_rfl)
   ((LoopsOk.of (l := [f33_l4_b]) (by kernel_rfl) ⟨node_is (by kernel_rfl) f33_l4_ok, trivial⟩))
   (no_tails (by kernel_rfl))
   (fun ks x hl => by
    have hk : ks = [] := List.length_eq_zero_iff.1 hl
    subst hk
    exact (f33_m x).trans (f33_n _ _ _))
/-! bakelite/bakeref2.TrackErr$1 -/
noncomputable def f138_code : Code := (Try.f138.body).getD .skip
noncomputable def f138_fx : Fx := { E := env, T := [], H := [], O := [], nodes := [] }
noncomputable def f138_k {R : Type} (a0 : Int) (k : (Bool × Unit) × (Unit) → Option R) : Option R :=
 (cond (decide (a0 ≤ (0 : Int)))
 (k ((true, ()), ()))
 (k (((decide (a0 > (100000 : Int))), ()), ())))
noncomputable def f138 (a0 : Int) : Option ((Bool × Unit) × (Unit)) := f138_k a0 some
noncomputable def f138_sm : Sm := ⟨[.ro (.int .i64)], [(.bool, .ro)], fun x => f138 x.1⟩
theorem f138_m (x : ArgT [.ro (.int .i64)]) : codeS f138_fx f138_code (start [.ro (.int .i64)] [] x 9) (finK env [.tmp 2] [.ro (.int .i64)] [(.bool, .ro)]) = f138_k x.1 (fun r => some (r, [])) := by kernel_rfl
theorem f138_n {R : Type} (a0 : Int) (k : (Bool × Unit) × (Unit) → Option R) : f138_k a0 k = (f138 a0).bind k := by
  simp only [f138, f138_k, cond_bind, ite_bind, bind_bind, some_bind, none_bind, elim_bind]
theorem f138_f : FnOk Try.prog 138 := ⟨Try.f138, Try.func138, by kernel_rfl, by kernel_rfl⟩
theorem f138_ok : SmOk Try.prog 138 f138_sm :=
  sum_of (c := f138_fx) (fn := Try.f138) (code := f138_code) (sm := f138_sm) mixed (env_ok env_envB) (TabsOk.all trivial) Try.func138 (by kernel_rfl)
   ((LoopsOk.of (l := []) (by kernel_rfl) trivial))
   (no_tails (by kernel_rfl))
   (fun ks x hl => by
    have hk : ks = [] := List.length_eq_zero_iff.1 hl
    subst hk
    exact (f138_m x).trans (f138_n _ _))
/-! slices.IndexFunc[bakelite/api.Track,int] -/
noncomputable def f156_code : Code := (Try.f156.body).getD .skip
noncomputable def f156_l2_sk : SkS := ⟨[.con (.slc (.int .i64)), .fn 138 (.tnil), .undef, .undef, .undef, .undef, .undef, .con (.int .i64), .con (.int .i64), .undef, .undef, .undef, .undef, .undef, .undef, .undef, .undef, .undef, .undef], []⟩
noncomputable def f156_l2_o0 : SkS := ⟨[.undef, .undef, .undef, .undef, .con (.int .i64), .undef, .undef, .undef, .undef, .undef, .undef, .undef, .undef, .undef, .undef, .undef, .undef, .undef, .undef], []⟩
noncomputable def f156_l2_o1 : SkS := ⟨[.undef, .undef, .undef, .undef, .undef, .undef, .undef, .undef, .undef, .undef, .undef, .undef, .undef, .undef, .undef, .undef, .undef, .undef, .undef], []⟩
noncomputable def f156_l2_outs : List Way := [⟨.ret, [], f156_l2_o0⟩, ⟨(.exit 0), [], f156_l2_o1⟩]
abbrev f156_l2_C := (List Int × Int)
abbrev f156_l2_X := Int
abbrev f156_l2_Y := (Int) ⊕ (Unit)
noncomputable def f156_l2_con (t : f156_l2_sk.T) : f156_l2_C := (t.1.1, t.1.2.2.2.2.2.2.2.1)
noncomputable def f156_l2_get (t : f156_l2_sk.T) : f156_l2_X := t.1.2.2.2.2.2.2.2.2.1
noncomputable def f156_l2_put (c : f156_l2_C) (x : f156_l2_X) : f156_l2_sk.T := ((c.1, ((), ((), ((), ((), ((), ((), (c.2, (x, ((), ((), ((), ((), ((), ((), ((), ((), ((), ((), ()))))))))))))))))))), ())
theorem f156_l2_pg (t : f156_l2_sk.T) : f156_l2_put (f156_l2_con t) (f156_l2_get t) = t := by kernel_rfl
noncomputable def f156_l2_w0 (c : f156_l2_C) (y : Int) : f156_l2_o0.T := (((), ((), ((), ((), (y, ((), ((), ((), ((), ((), ((), ((), ((), ((), ((), ((), ((), ((), ((), ()))))))))))))))))))), ())
noncomputable def f156_l2_w1 (c : f156_l2_C) (y : Unit) : f156_l2_o1.T := (((), ((), ((), ((), ((), ((), ((), ((), ((), ((), ((), ((), ((), ((), ((), ((), ((), ((), ((), ()))))))))))))))))))), ())
noncomputable def f156_l2_out (c : f156_l2_C) (y : f156_l2_Y) : OutV f156_l2_outs := (Sum.elim (fun y => (.inl (f156_l2_w0 c y))) (fun y => (.inr (.inl (f156_l2_w1 c y))))) y
noncomputable def f156_l2_k {R : Type} (a0 : List Int) (a1 : Int) (a2 : Int) (kin : f156_l2_X → Option R) (k0 : Int → Option R) (k1 : Unit → Option R) : Option R :=
 (cond (decide (a2 < a1))
 (if (0 : Int) ≤ a2 ∧ a2 < ((List.length a0 : Nat) : Int) then ((f138 (List.getD a0 (Int.toNat a2) (0 : Int))).bind fun r0 =>
  (cond r0.1.1
  (k0 a2)
  (let v1 : Int := (IntKind.i64.wrap (a2 + (1 : Int)))
   (kin v1)))) else none)
 (k1 ()))
noncomputable def f156_l2_g (a0 : List Int) (a1 : Int) (x : f156_l2_X) : Option (f156_l2_X ⊕ f156_l2_Y) := f156_l2_k a0 a1 x (fun x => some (.inl x)) (fun y => some (.inr (.inl y))) (fun y => some (.inr (.inr y)))
noncomputable def f156_l2 (a0 : List Int) (a1 : Int) (x : f156_l2_X) : Option f156_l2_Y := loopO (f156_l2_g a0 a1) x
noncomputable def f156_l2_nd : Node := { nils := [], sk := f156_l2_sk, outs := f156_l2_outs, Y := f156_l2_Y, L := fun t => f156_l2 ((f156_l2_con t).1) ((f156_l2_con t).2) (f156_l2_get t), out := fun t y => f156_l2_out (f156_l2_con t) y, disp := fun t y K => (Sum.elim (fun y => K .ret (f156_l2_o0.fill (f156_l2_w0 (f156_l2_con t) y))) (fun y => K (.exit 0) (f156_l2_o1.fill (f156_l2_w1 (f156_l2_con t) y)))) y }
noncomputable def f156_fx : Fx := { E := env, T := [(138, f138_sm)], H := [], O := [], nodes := [((true, 2), f156_l2_nd)] }
noncomputable def f156_l2_b : Code := (loops f156_code).getD 0 .skip
theorem f156_l2_r (c : f156_l2_C) (x : f156_l2_X) : roundS f156_fx f156_l2_b f156_l2_nd (f156_l2_put c x) = f156_l2_k c.1 c.2 x (fun x => some (.inl (f156_l2_put c x))) (fun y => some (.inr (.inl (f156_l2_w0 c y)))) (fun y => some (.inr (.inr (.inl (f156_l2_w1 c y))))) := by kernel_rfl
theorem f156_l2_n {R : Type} (a0 : List Int) (a1 : Int) (a2 : Int) (kin : f156_l2_X → Option R) (k0 : Int → Option R) (k1 : Unit → Option R) : f156_l2_k a0 a1 a2 kin k0 k1 = (f156_l2_g a0 a1 a2).bind (Sum.elim kin (Sum.elim k0 k1)) := by
  simp only [f156_l2_g, f156_l2_k, cond_bind, ite_bind, bind_bind, some_bind, none_bind, elim_bind, Sum.elim_inl, Sum.elim_inr]
theorem f156_l2_ok : LoopOk f156_fx f156_l2_b f156_l2_nd := loop_ok f156_l2_con f156_l2_get f156_l2_put f156_l2_pg (fun c => f156_l2_g c.1 c.2) f156_l2_out (fun t y => rfl) (by intro R t y K; rcases y with y | y <;> rfl) (fun c x => by
  refine (f156_l2_r c x).trans ((f156_l2_n _ _ _ _ _ _).trans ?_)
  first
  | rfl
  | congr 1
    funext s
    rcases s with s | s | s <;> rfl) (fun t => rfl)
noncomputable def f156_k {R : Type} (a0 : List Int) (a1 : (Unit)) (k : (Int × Unit) × (Unit) → Option R) : Option R :=
 ((f156_l2 a0 ((List.length a0 : Nat) : Int) (0 : Int)).bind fun y2 =>
 ((Sum.elim (fun z3 =>
 (k ((z3, ()), ())))
 (fun z4 =>
 (k (((-1 : Int), ()), ())))) y2))
noncomputable def f156 (a0 : List Int) (a1 : (Unit)) : Option ((Int × Unit) × (Unit)) := f156_k a0 a1 some
noncomputable def f156_sm : Sm := ⟨[.ro (.slc (.int .i64)), .fn 138 []], [((.int .i64), .ro)], fun x => f156 x.1 x.2.1⟩
theorem f156_m (x : ArgT [.ro (.slc (.int .i64)), .fn 138 []]) : codeS f156_fx f156_code (start [.ro (.slc (.int .i64)), .fn 138 []] [] x 19) (finK env [.tmp 4] [.ro (.slc (.int .i64)), .fn 138 []] [((.int .i64), .ro)]) = f156_k x.1 x.2.1 (fun r => some (r, [])) := by kernel_rfl
theorem f156_n {R : Type} (a0 : List Int) (a1 : (Unit)) (k : (Int × Unit) × (Unit) → Option R) : f156_k a0 a1 k = (f156 a0 a1).bind k := by
  simp only [f156, f156_k, cond_bind, ite_bind, bind_bind, some_bind, none_bind, elim_bind]
theorem f156_f : FnOk Try.prog 156 := ⟨Try.f156, Try.func156, by kernel_rfl, by kernel_rfl⟩
theorem f156_ok : SmOk Try.prog 156 f156_sm :=
  sum_of (c := f156_fx) (fn := Try.f156) (code := f156_code) (sm := f156_sm) mixed (env_ok env_envB) (TabsOk.all ⟨⟨f138_ok, f138_f⟩, trivial⟩) Try.func156 (by kernel_rfl)
   ((LoopsOk.of (l := [f156_l2_b]) (by kernel_rfl) ⟨node_is (by kernel_rfl) f156_l2_ok, trivial⟩))
   (no_tails (by kernel_rfl))
   (fun ks x hl => by
    have hk : ks = [] := List.length_eq_zero_iff.1 hl
    subst hk
    exact (f156_m x).trans (f156_n _ _ _))
/-! slices.ContainsFunc[bakelite/api.Track,int] -/
noncomputable def f137_code : Code := (Try.f137.body).getD .skip
noncomputable def f137_fx : Fx := { E := env, T := [(156, f156_sm)], H := [], O := [], nodes := [] }
noncomputable def f137_k {R : Type} (a0 : List Int) (a1 : (Unit)) (k : (Bool × Unit) × (Unit) → Option R) : Option R :=
 ((f156 a0 ()).bind fun r0 =>
 (k (((decide (r0.1.1 ≥ (0 : Int))), ()), ())))
noncomputable def f137 (a0 : List Int) (a1 : (Unit)) : Option ((Bool × Unit) × (Unit)) := f137_k a0 a1 some
noncomputable def f137_sm : Sm := ⟨[.ro (.slc (.int .i64)), .fn 138 []], [(.bool, .ro)], fun x => f137 x.1 x.2.1⟩
theorem f137_m (x : ArgT [.ro (.slc (.int .i64)), .fn 138 []]) : codeS f137_fx f137_code (start [.ro (.slc (.int .i64)), .fn 138 []] [] x 9) (finK env [.tmp 4] [.ro (.slc (.int .i64)), .fn 138 []] [(.bool, .ro)]) = f137_k x.1 x.2.1 (fun r => some (r, [])) := by kernel_rfl
theorem f137_n {R : Type} (a0 : List Int) (a1 : (Unit)) (k : (Bool × Unit) × (Unit) → Option R) : f137_k a0 a1 k = (f137 a0 a1).bind k := by
  simp only [f137, f137_k, cond_bind, ite_bind, bind_bind, some_bind, none_bind, elim_bind]
theorem f137_f : FnOk Try.prog 137 := ⟨Try.f137, Try.func137, by kernel_rfl, by kernel_rfl⟩
theorem f137_ok : SmOk Try.prog 137 f137_sm :=
  sum_of (c := f137_fx) (fn := Try.f137) (code := f137_code) (sm := f137_sm) mixed (env_ok env_envB) (TabsOk.all ⟨⟨f156_ok, f156_f⟩, trivial⟩) Try.func137 (by kernel_rfl)
   ((LoopsOk.of (l := []) (by kernel_rfl) trivial))
   (no_tails (by kernel_rfl))
   (fun ks x hl => by
    have hk : ks = [] := List.length_eq_zero_iff.1 hl
    subst hk
    exact (f137_m x).trans (f137_n _ _ _))
/-! bakelite/bakeref2.TrackErr -/
noncomputable def f106_code : Code := (Try.f106.body).getD .skip
noncomputable def f106_fx : Fx := { E := env, T := [(137, f137_sm)], H := [], O := [], nodes := [] }
noncomputable def f106_k {R : Type} (a0 : List Int) (k : (Int × Unit) × (Unit) → Option R) : Option R :=
 (cond (decide (((List.length a0 : Nat) : Int) > (40000 : Int)))
 (k (((2 : Int), ()), ()))
 ((f137 a0 ()).bind fun r0 =>
  (cond r0.1.1
  (k (((1 : Int), ()), ()))
  (k (((0 : Int), ()), ())))))
noncomputable def f106 (a0 : List Int) : Option ((Int × Unit) × (Unit)) := f106_k a0 some
noncomputable def f106_sm : Sm := ⟨[.ro (.slc (.int .i64))], [((.int .i64), .ro)], fun x => f106 x.1⟩
theorem f106_m (x : ArgT [.ro (.slc (.int .i64))]) : codeS f106_fx f106_code (start [.ro (.slc (.int .i64))] [] x 8) (finK env [.tmp 2] [.ro (.slc (.int .i64))] [((.int .i64), .ro)]) = f106_k x.1 (fun r => some (r, [])) := by kernel_rfl
theorem f106_n {R : Type} (a0 : List Int) (k : (Int × Unit) × (Unit) → Option R) : f106_k a0 k = (f106 a0).bind k := by
  simp only [f106, f106_k, cond_bind, ite_bind, bind_bind, some_bind, none_bind, elim_bind]
theorem f106_f : FnOk Try.prog 106 := ⟨Try.f106, Try.func106, by kernel_rfl, by kernel_rfl⟩
theorem f106_ok : SmOk Try.prog 106 f106_sm :=
  sum_of (c := f106_fx) (fn := Try.f106) (code := f106_code) (sm := f106_sm) mixed (env_ok env_envB) (TabsOk.all ⟨⟨f137_ok, f137_f⟩, trivial⟩) Try.func106 (by kernel_rfl)
   ((LoopsOk.of (l := []) (by kernel_rfl) trivial))
   (no_tails (by kernel_rfl))
   (fun ks x hl => by
    have hk : ks = [] := List.length_eq_zero_iff.1 hl
    subst hk
    exact (f106_m x).trans (f106_n _ _))
/-! bakelite/bakeref2.about -/
noncomputable def f139_code : Code := (Try.f139.body).getD .skip
noncomputable def f139_t4_sk : SkS := ⟨[.undef, .undef, .con (.int .i64), .undef, .undef, .undef, .undef, .con (.int .i64), .undef, .undef, .undef, .undef, .undef, .undef, .undef, .undef, .undef, .undef, .undef, .undef, .undef, .undef, .undef, .undef, .undef, .undef, .undef, .undef, .undef, .undef, .undef], []⟩
noncomputable def f139_t4_o0 : SkS := ⟨[.undef, .undef, .undef, .undef, .undef, .undef, .con .bool, .undef, .undef, .undef, .undef, .undef, .undef, .undef, .undef, .undef, .undef, .undef, .undef, .undef, .undef, .undef, .undef, .undef, .undef, .undef, .undef, .undef, .undef, .undef, .undef], []⟩
noncomputable def f139_t4_outs : List Way := [⟨.ret, [], f139_t4_o0⟩]
abbrev f139_t4_C := Unit
abbrev f139_t4_X := (Int × Int)
abbrev f139_t4_Y := (Bool)
noncomputable def f139_t4_con (t : f139_t4_sk.T) : f139_t4_C := ()
noncomputable def f139_t4_get (t : f139_t4_sk.T) : f139_t4_X := (t.1.2.2.1, t.1.2.2.2.2.2.2.2.1)
noncomputable def f139_t4_put (c : f139_t4_C) (x : f139_t4_X) : f139_t4_sk.T := (((), ((), (x.1, ((), ((), ((), ((), (x.2, ((), ((), ((), ((), ((), ((), ((), ((), ((), ((), ((), ((), ((), ((), ((), ((), ((), ((), ((), ((), ((), ((), ((), ()))))))))))))))))))))))))))))))), ())
theorem f139_t4_pg (t : f139_t4_sk.T) : f139_t4_put (f139_t4_con t) (f139_t4_get t) = t := by kernel_rfl
noncomputable def f139_t4_w0 (c : f139_t4_C) (x : f139_t4_X) (y : Bool) : f139_t4_o0.T := (((), ((), ((), ((), ((), ((), (y, ((), ((), ((), ((), ((), ((), ((), ((), ((), ((), ((), ((), ((), ((), ((), ((), ((), ((), ((), ((), ((), ((), ((), ((), ()))))))))))))))))))))))))))))))), ())
noncomputable def f139_t4_out (c : f139_t4_C) (x : f139_t4_X) (y : f139_t4_Y) : OutV f139_t4_outs := (fun y => (.inl (f139_t4_w0 c x y))) y
noncomputable def f139_t4_k {R : Type} (a0 : Int) (a1 : Int) (k0 : Bool → Option R) : Option R :=
 (let v3 : Int := (IntKind.i64.wrap ((4 : Int) * a1))
 (let v4 : Int := (IntKind.i64.wrap ((3 : Int) * a0))
 (cond (decide (v3 ≥ v4))
 (let v5 : Int := (IntKind.i64.wrap ((4 : Int) * a1))
  (let v6 : Int := (IntKind.i64.wrap ((5 : Int) * a0))
  (k0 (decide (v5 ≤ v6)))))
 (k0 false))))
noncomputable def f139_t4 (a0 : Int) (a1 : Int) : Option f139_t4_Y := f139_t4_k a0 a1 (fun y => some y)
noncomputable def f139_t4_nd : Node := { nils := [], sk := f139_t4_sk, outs := f139_t4_outs, Y := f139_t4_Y, L := fun t => f139_t4 ((f139_t4_get t).1) ((f139_t4_get t).2), out := fun t y => f139_t4_out (f139_t4_con t) (f139_t4_get t) y, disp := fun t y K => (fun y => K .ret (f139_t4_o0.fill (f139_t4_w0 (f139_t4_con t) (f139_t4_get t) y))) y }
noncomputable def f139_fx : Fx := { E := env, T := [], H := [], O := [], nodes := [((false, 4), f139_t4_nd)] }
noncomputable def f139_t4_b : Code := (tails f139_code).getD 2 .skip
theorem f139_t4_r (c : f139_t4_C) (x : f139_t4_X) : tailS f139_fx f139_t4_b f139_t4_nd (f139_t4_put c x) = f139_t4_k x.1 x.2 (fun y => some (.inl (f139_t4_w0 c x y))) := by kernel_rfl
theorem f139_t4_n {R : Type} (a0 : Int) (a1 : Int) (k0 : Bool → Option R) : f139_t4_k a0 a1 k0 = (f139_t4 a0 a1).bind k0 := by
  simp only [f139_t4, f139_t4_k, cond_bind, ite_bind, bind_bind, some_bind, none_bind, elim_bind, Sum.elim_inl, Sum.elim_inr]
theorem f139_t4_ok : TailOk f139_fx f139_t4_b f139_t4_nd := tail_ok f139_t4_con f139_t4_get f139_t4_put f139_t4_pg (fun x => f139_t4 x.1 x.2) f139_t4_out (fun t y => rfl) (fun t y K => rfl) (fun c x => by
  refine (f139_t4_r c x).trans ((f139_t4_n _ _ _).trans ?_)
  first
  | rfl
  | congr 1
    funext s
    rfl) (fun t => rfl)
noncomputable def f139_k {R : Type} (a0 : Int) (a1 : Int) (a2 : Int) (k : (Bool × Unit) × (Unit) → Option R) : Option R :=
 (if a1 = 0 then none else (let v0 : Int := (IntKind.i64.wrap (Int.tdiv a0 a1))
 (if a1 = 0 then none else (let v1 : Int := (IntKind.i64.wrap ((2 : Int) * (Int.tmod a0 a1)))
 (cond (decide (v1 ≥ a1))
 (let v2 : Int := (IntKind.i64.wrap (v0 + (1 : Int)))
  ((f139_t4 a2 v2).bind fun y7 =>
  (k ((y7, ()), ()))))
 ((f139_t4 a2 v0).bind fun y8 =>
  (k ((y8, ()), ()))))))))
noncomputable def f139 (a0 : Int) (a1 : Int) (a2 : Int) : Option ((Bool × Unit) × (Unit)) := f139_k a0 a1 a2 some
noncomputable def f139_sm : Sm := ⟨[.ro (.int .i64), .ro (.int .i64), .ro (.int .i64)], [(.bool, .ro)], fun x => f139 x.1 x.2.1 x.2.2.1⟩
theorem f139_m (x : ArgT [.ro (.int .i64), .ro (.int .i64), .ro (.int .i64)]) : codeS f139_fx f139_code (start [.ro (.int .i64), .ro (.int .i64), .ro (.int .i64)] [] x 31) (finK env [.tmp 6] [.ro (.int .i64), .ro (.int .i64), .ro (.int .i64)] [(.bool, .ro)]) = f139_k x.1 x.2.1 x.2.2.1 (fun r => some (r, [])) := by kernel_rfl
theorem f139_n {R : Type} (a0 : Int) (a1 : Int) (a2 : Int) (k : (Bool × Unit) × (Unit) → Option R) : f139_k a0 a1 a2 k = (f139 a0 a1 a2).bind k := by
  simp only [f139, f139_k, cond_bind, ite_bind, bind_bind, some_bind, none_bind, elim_bind]
theorem f139_f : FnOk Try.prog 139 := ⟨Try.f139, Try.func139, by kernel_rfl, by kernel_rfl⟩
theorem f139_ok : SmOk Try.prog 139 f139_sm :=
  sum_of (c := f139_fx) (fn := Try.f139) (code := f139_code) (sm := f139_sm) mixed (env_ok env_envB) (TabsOk.all trivial) Try.func139 (by kernel_rfl)
   ((LoopsOk.of (l := []) (by kernel_rfl) trivial))
   ((TailsOk.of (l := [((tails f139_code).getD 0 .skip), ((tails f139_code).getD 1 .skip), f139_t4_b, ((tails f139_code).getD 3 .skip), ((tails f139_code).getD 4 .skip)]) (by kernel_rfl) ⟨node_no (by kernel_rfl), node_no (by kernel_rfl), node_is (by kernel_rfl) f139_t4_ok, node_no (by kernel_rfl), node_no (by kernel_rfl), trivial⟩))
   (fun ks x hl => by
    have hk : ks = [] := List.length_eq_zero_iff.1 hl
    subst hk
    exact (f139_m x).trans (f139_n _ _ _ _))
/-! slices.Clone[[]byte,byte] -/
noncomputable def f76_code : Code := (Try.f76.body).getD .skip
noncomputable def f76_fx : Fx := { E := env, T := [], H := [], O := [], nodes := [] }
noncomputable def f76_k {R : Type} (a0 : List Int) (k : (List Int × Unit) × (Unit) → Option R) : Option R :=
 (nilT (List.isEmpty a0)
 (k (([], ()), ()))
 (if (0 + List.length a0) * 1 ≤ most ∧ 0 < 1 ∧ 0 < 1 then (let r0 : List Int := ([] ++ a0)
  (k ((r0, ()), ()))) else none))
noncomputable def f76 (a0 : List Int) : Option ((List Int × Unit) × (Unit)) := f76_k a0 some
noncomputable def f76_sm : Sm := ⟨[.ro (.slc (.int .u8))], [((.slc (.int .u8)), (.own .ro))], fun x => f76 x.1⟩
theorem f76_m (x : ArgT [.ro (.slc (.int .u8))]) : codeS f76_fx f76_code (start [.ro (.slc (.int .u8))] [] x 8) (finK env [.tmp 2] [.ro (.slc (.int .u8))] [((.slc (.int .u8)), (.own .ro))]) = f76_k x.1 (fun r => some (r, [])) := by kernel_rfl
theorem f76_n {R : Type} (a0 : List Int) (k : (List Int × Unit) × (Unit) → Option R) : f76_k a0 k = (f76 a0).bind k := by
  simp only [f76, f76_k, cond_bind, ite_bind, bind_bind, some_bind, none_bind, elim_bind]
  rcases a0 with _ | ⟨x, l⟩ <;> simp [nilT, ite_bind, most]
theorem f76_f : FnOk Try.prog 76 := ⟨Try.f76, Try.func76, by kernel_rfl, by kernel_rfl⟩
theorem f76_ok : SmOk Try.prog 76 f76_sm :=
  sum_of (c := f76_fx) (fn := Try.f76) (code := f76_code) (sm := f76_sm) mixed (env_ok env_envB) (TabsOk.all trivial) Try.func76 (by kernel_rfl)
   ((LoopsOk.of (l := []) (by kernel_rfl) trivial))
   (no_tails (by kernel_rfl))
   (fun ks x hl => by
    have hk : ks = [] := List.length_eq_zero_iff.1 hl
    subst hk
    exact (f76_m x).trans (f76_n _ _))
/-! bakelite/bakeref2.untape -/
noncomputable def f107_code : Code := (Try.f107.body).getD .skip
noncomputable def f107_l5_sk : SkS := ⟨[.con (.slc (.int .i64)), .undef, .ptr 32 [], .undef, .undef, .con (.int .i64), .undef, .undef, .undef, .undef, .undef, .undef, .undef, .undef, .undef, .undef, .undef, .undef, .undef, .undef, .con (.slc (.int .i64)), .con (.int .i64), .con (.int .i64), .undef, .undef, .undef, .undef, .undef, .undef, .undef, .undef, .undef, .undef, .undef, .undef, .undef, .undef, .undef, .undef, .undef, .undef, .undef, .undef, .undef, .undef, .undef, .undef, .undef, .undef, .undef, .undef, .undef, .undef, .undef, .undef, .undef, .undef, .undef, .undef, .undef, .undef, .undef, .undef, .undef, .undef, .undef, .undef, .undef, .undef, .undef, .undef, .undef, .undef, .undef, .undef, .undef, .undef, .undef, .undef, .undef, .undef, .undef, .undef, .undef, .undef, .undef, .undef, .undef, .undef, .undef, .undef, .undef, .undef, .undef, .undef, .undef, .undef, .undef, .undef, .undef, .undef, .undef, .undef, .undef, .undef, .undef, .undef, .undef, .undef, .undef, .undef, .undef, .undef, .undef, .undef, .undef, .undef, .undef, .undef, .undef, .undef, .undef, .undef, .undef, .undef, .undef, .undef, .undef, .undef, .undef, .undef, .undef, .undef, .undef, .undef, .undef, .undef, .undef, .undef, .undef, .undef, .undef, .undef, .undef], [(32, ⟨some 61, (.pair (.int .i64) (.pair (.slc (.int .u8)) .unit)), (.pair .ro (.pair (.own .ro) .ro))⟩)]⟩
noncomputable def f107_l5_o0 : SkS := ⟨[.con (.slc (.int .i64)), .undef, .ptr 32 [], .undef, .undef, .con (.int .i64), .undef, .undef, .undef, .undef, .undef, .undef, .undef, .undef, .undef, .undef, .undef, .undef, .undef, .undef, .undef, .undef, .undef, .undef, .undef, .undef, .undef, .undef, .undef, .undef, .undef, .undef, .undef, .undef, .undef, .undef, .undef, .undef, .undef, .undef, .undef, .undef, .undef, .undef, .undef, .undef, .undef, .undef, .undef, .undef, .undef, .undef, .undef, .undef, .undef, .undef, .undef, .undef, .undef, .undef, .undef, .undef, .undef, .undef, .undef, .undef, .undef, .undef, .undef, .undef, .undef, .undef, .undef, .undef, .undef, .undef, .undef, .undef, .undef, .undef, .undef, .undef, .undef, .undef, .undef, .undef, .undef, .undef, .undef, .undef, .undef, .undef, .undef, .undef, .undef, .undef, .undef, .undef, .undef, .undef, .undef, .undef, .undef, .undef, .undef, .undef, .undef, .undef, .undef, .undef, .undef, .undef, .undef, .undef, .undef, .undef, .undef, .undef, .undef, .undef, .undef, .undef, .undef, .undef, .undef, .undef, .undef, .undef, .undef, .undef, .undef, .undef, .undef, .undef, .undef, .undef, .undef, .undef, .undef, .undef, .undef, .undef, .undef, .undef], [(32, ⟨some 61, (.pair (.int .i64) (.pair (.slc (.int .u8)) .unit)), (.pair .ro (.pair (.own .ro) .ro))⟩)]⟩
noncomputable def f107_l5_outs : List Way := [⟨(.exit 0), [], f107_l5_o0⟩]
abbrev f107_l5_C := (List Int × List Int × Int × (Int × (List Int × Unit)) × (Option Nat))
abbrev f107_l5_X := (Int × Int)
abbrev f107_l5_Y := (Int)
noncomputable def f107_l5_con (t : f107_l5_sk.T) : f107_l5_C := (t.1.1, t.1.2.2.2.2.2.2.2.2.2.2.2.2.2.2.2.2.2.2.2.2.1, t.1.2.2.2.2.2.2.2.2.2.2.2.2.2.2.2.2.2.2.2.2.2.1, t.2.1.1, t.2.1.2)
noncomputable def f107_l5_get (t : f107_l5_sk.T) : f107_l5_X := (t.1.2.2.2.2.2.1, t.1.2.2.2.2.2.2.2.2.2.2.2.2.2.2.2.2.2.2.2.2.2.2.1)
noncomputable def f107_l5_put (c : f107_l5_C) (x : f107_l5_X) : f107_l5_sk.T := ((c.1, ((), ((), ((), ((), (x.1, ((), ((), ((), ((), ((), ((), ((), ((), ((), ((), ((), ((), ((), ((), (c.2.1, (c.2.2.1, (x.2, ((), ((), ((), ((), ((), ((), ((), ((), ((), ((), ((), ((), ((), ((), ((), ((), ((), ((), ((), ((), ((), ((), ((), ((), ((), ((), ((), ((), ((), ((), ((), ((), ((), ((), ((), ((), ((), ((), ((), ((), ((), ((), ((), ((), ((), ((), ((), ((), ((), ((), ((), ((), ((), ((), ((), ((), ((), ((), ((), ((), ((), ((), ((), ((), ((), ((), ((), ((), ((), ((), ((), ((), ((), ((), ((), ((), ((), ((), ((), ((), ((), ((), ((), ((), ((), ((), ((), ((), ((), ((), ((), ((), ((), ((), ((), ((), ((), ((), ((), ((), ((), ((), ((), ((), ((), ((), ((), ((), ((), ((), ((), ((), ((), ((), ((), ((), ((), ((), ((), ((), ((), ())))))))))))))))))))))))))))))))))))))))))))))))))))))))))))))))))))))))))))))))))))))))))))))))))))))))))))))))))))))))))))))))))))))))))))))))), ((c.2.2.2.1, c.2.2.2.2), ()))
theorem f107_l5_pg (t : f107_l5_sk.T) : f107_l5_put (f107_l5_con t) (f107_l5_get t) = t := by kernel_rfl
noncomputable def f107_l5_w0 (c : f107_l5_C) (y : Int) : f107_l5_o0.T := ((c.1, ((), ((), ((), ((), (y, ((), ((), ((), ((), ((), ((), ((), ((), ((), ((), ((), ((), ((), ((), ((), ((), ((), ((), ((), ((), ((), ((), ((), ((), ((), ((), ((), ((), ((), ((), ((), ((), ((), ((), ((), ((), ((), ((), ((), ((), ((), ((), ((), ((), ((), ((), ((), ((), ((), ((), ((), ((), ((), ((), ((), ((), ((), ((), ((), ((), ((), ((), ((), ((), ((), ((), ((), ((), ((), ((), ((), ((), ((), ((), ((), ((), ((), ((), ((), ((), ((), ((), ((), ((), ((), ((), ((), ((), ((), ((), ((), ((), ((), ((), ((), ((), ((), ((), ((), ((), ((), ((), ((), ((), ((), ((), ((), ((), ((), ((), ((), ((), ((), ((), ((), ((), ((), ((), ((), ((), ((), ((), ((), ((), ((), ((), ((), ((), ((), ((), ((), ((), ((), ((), ((), ((), ((), ((), ())))))))))))))))))))))))))))))))))))))))))))))))))))))))))))))))))))))))))))))))))))))))))))))))))))))))))))))))))))))))))))))))))))))))))))))))), ((c.2.2.2.1, c.2.2.2.2), ()))
noncomputable def f107_l5_out (c : f107_l5_C) (y : f107_l5_Y) : OutV f107_l5_outs := (fun y => (.inl (f107_l5_w0 c y))) y
noncomputable def f107_l5_k {R : Type} (a0 : List Int) (a1 : Int) (a2 : List Int) (a3 : Int) (a4 : Int) (a5 : (Int × (List Int × Unit))) (kin : f107_l5_X → Option R) (k0 : Int → Option R) : Option R :=
 (cond (decide (a4 < a3))
 (if (0 : Int) ≤ a4 ∧ a4 < ((List.length a2 : Nat) : Int) then (let v0 : Int := (IntKind.i64.wrap (a1 + (List.getD a2 (Int.toNat a4) (0 : Int))))
  (let v1 : Int := (IntKind.i64.wrap (a4 + (1 : Int)))
  (kin (v0, v1)))) else none)
 (k0 a1))
noncomputable def f107_l5_g (a0 : List Int) (a2 : List Int) (a3 : Int) (a5 : (Int × (List Int × Unit))) (x : f107_l5_X) : Option (f107_l5_X ⊕ f107_l5_Y) := f107_l5_k a0 x.1 a2 a3 x.2 a5 (fun x => some (.inl x)) (fun y => some (.inr y))
noncomputable def f107_l5 (a0 : List Int) (a2 : List Int) (a3 : Int) (a5 : (Int × (List Int × Unit))) (x : f107_l5_X) : Option f107_l5_Y := loopO (f107_l5_g a0 a2 a3 a5) x
noncomputable def f107_l5_nd : Node := { nils := [], sk := f107_l5_sk, outs := f107_l5_outs, Y := f107_l5_Y, L := fun t => f107_l5 ((f107_l5_con t).1) ((f107_l5_con t).2.1) ((f107_l5_con t).2.2.1) ((f107_l5_con t).2.2.2.1) (f107_l5_get t), out := fun t y => f107_l5_out (f107_l5_con t) y, disp := fun t y K => (fun y => K (.exit 0) (f107_l5_o0.fill (f107_l5_w0 (f107_l5_con t) y))) y }
noncomputable def f107_l13_sk : SkS := ⟨[.con (.slc (.int .i64)), .undef, .ptr 32 [], .undef, .undef, .undef, .undef, .undef, .con (.int .i64), .undef, .undef, .undef, .undef, .undef, .undef, .undef, .undef, .undef, .undef, .undef, .undef, .undef, .undef, .undef, .undef, .undef, .undef, .undef, .undef, .undef, .undef, .undef, .undef, .undef, .undef, .undef, .undef, .undef, .undef, .undef, .undef, .con (.slc (.int .i64)), .con (.int .i64), .con (.int .i64), .undef, .undef, .undef, .undef, .undef, .undef, .undef, .undef, .undef, .undef, .undef, .undef, .undef, .undef, .undef, .undef, .undef, .undef, .undef, .undef, .undef, .undef, .undef, .undef, .undef, .undef, .undef, .undef, .undef, .undef, .undef, .undef, .undef, .undef, .undef, .undef, .undef, .undef, .undef, .undef, .undef, .undef, .undef, .undef, .undef, .undef, .undef, .undef, .undef, .undef, .undef, .undef, .undef, .undef, .undef, .undef, .undef, .undef, .undef, .undef, .undef, .undef, .undef, .undef, .undef, .undef, .undef, .undef, .undef, .undef, .undef, .undef, .undef, .undef, .undef, .undef, .undef, .undef, .undef, .undef, .undef, .undef, .undef, .undef, .undef, .undef, .undef, .undef, .undef, .undef, .undef, .undef, .undef, .undef, .undef, .undef, .undef, .undef, .undef, .undef], [(32, ⟨some 61, (.pair (.int .i64) (.pair (.slc (.int .u8)) .unit)), (.pair .ro (.pair (.own .ro) .ro))⟩)]⟩
noncomputable def f107_l13_o0 : SkS := ⟨[.undef, .undef, .ptr 32 [], .nil, .con (.int .i64), .undef, .undef, .undef, .undef, .undef, .undef, .undef, .undef, .undef, .undef, .undef, .undef, .undef, .undef, .undef, .undef, .undef, .undef, .undef, .undef, .undef, .undef, .undef, .undef, .undef, .undef, .undef, .undef, .undef, .undef, .undef, .undef, .undef, .undef, .undef, .undef, .undef, .undef, .undef, .undef, .undef, .undef, .undef, .undef, .undef, .undef, .undef, .undef, .undef, .undef, .undef, .undef, .undef, .undef, .undef, .undef, .undef, .undef, .undef, .undef, .undef, .undef, .undef, .undef, .undef, .undef, .undef, .undef, .undef, .undef, .undef, .undef, .undef, .undef, .undef, .undef, .undef, .undef, .undef, .undef, .undef, .undef, .undef, .undef, .undef, .undef, .undef, .undef, .undef, .undef, .undef, .undef, .undef, .undef, .undef, .undef, .undef, .undef, .undef, .undef, .undef, .undef, .undef, .undef, .undef, .undef, .undef, .undef, .undef, .undef, .undef, .undef, .undef, .undef, .undef, .undef, .undef, .undef, .undef, .undef, .undef, .undef, .undef, .undef, .undef, .undef, .undef, .undef, .undef, .undef, .undef, .undef, .undef, .undef, .undef, .undef, .undef, .undef, .undef], [(32, ⟨some 61, (.pair (.int .i64) (.pair (.slc (.int .u8)) .unit)), (.pair .ro (.pair (.own .ro) .ro))⟩)]⟩
noncomputable def f107_l13_o1 : SkS := ⟨[.con (.slc (.int .i64)), .undef, .ptr 32 [], .undef, .undef, .undef, .undef, .undef, .con (.int .i64), .undef, .undef, .undef, .undef, .undef, .undef, .undef, .undef, .undef, .undef, .undef, .undef, .undef, .undef, .undef, .undef, .undef, .undef, .undef, .undef, .undef, .undef, .undef, .undef, .undef, .undef, .undef, .undef, .undef, .undef, .undef, .undef, .undef, .undef, .undef, .undef, .undef, .undef, .undef, .undef, .undef, .undef, .undef, .undef, .undef, .undef, .undef, .undef, .undef, .undef, .undef, .undef, .undef, .undef, .undef, .undef, .undef, .undef, .undef, .undef, .undef, .undef, .undef, .undef, .undef, .undef, .undef, .undef, .undef, .undef, .undef, .undef, .undef, .undef, .undef, .undef, .undef, .undef, .undef, .undef, .undef, .undef, .undef, .undef, .undef, .undef, .undef, .undef, .undef, .undef, .undef, .undef, .undef, .undef, .undef, .undef, .undef, .undef, .undef, .undef, .undef, .undef, .undef, .undef, .undef, .undef, .undef, .undef, .undef, .undef, .undef, .undef, .undef, .undef, .undef, .undef, .undef, .undef, .undef, .undef, .undef, .undef, .undef, .undef, .undef, .undef, .undef, .undef, .undef, .undef, .undef, .undef, .undef, .undef, .undef], [(32, ⟨some 61, (.pair (.int .i64) (.pair (.slc (.int .u8)) .unit)), (.pair .ro (.pair (.own .ro) .ro))⟩)]⟩
noncomputable def f107_l13_outs : List Way := [⟨.ret, [], f107_l13_o0⟩, ⟨(.exit 2), [], f107_l13_o1⟩]
abbrev f107_l13_C := (List Int × Int × List Int × Int × (Int × (List Int × Unit)) × (Option Nat))
abbrev f107_l13_X := Int
abbrev f107_l13_Y := ((Int × (List Int × Unit))) ⊕ (Unit)
noncomputable def f107_l13_con (t : f107_l13_sk.T) : f107_l13_C := (t.1.1, t.1.2.2.2.2.2.2.2.2.1, t.1.2.2.2.2.2.2.2.2.2.2.2.2.2.2.2.2.2.2.2.2.2.2.2.2.2.2.2.2.2.2.2.2.2.2.2.2.2.2.2.2.2.1, t.1.2.2.2.2.2.2.2.2.2.2.2.2.2.2.2.2.2.2.2.2.2.2.2.2.2.2.2.2.2.2.2.2.2.2.2.2.2.2.2.2.2.2.1, t.2.1.1, t.2.1.2)
noncomputable def f107_l13_get (t : f107_l13_sk.T) : f107_l13_X := t.1.2.2.2.2.2.2.2.2.2.2.2.2.2.2.2.2.2.2.2.2.2.2.2.2.2.2.2.2.2.2.2.2.2.2.2.2.2.2.2.2.2.2.2.1
noncomputable def f107_l13_put (c : f107_l13_C) (x : f107_l13_X) : f107_l13_sk.T := ((c.1, ((), ((), ((), ((), ((), ((), ((), (c.2.1, ((), ((), ((), ((), ((), ((), ((), ((), ((), ((), ((), ((), ((), ((), ((), ((), ((), ((), ((), ((), ((), ((), ((), ((), ((), ((), ((), ((), ((), ((), ((), ((), (c.2.2.1, (c.2.2.2.1, (x, ((), ((), ((), ((), ((), ((), ((), ((), ((), ((), ((), ((), ((), ((), ((), ((), ((), ((), ((), ((), ((), ((), ((), ((), ((), ((), ((), ((), ((), ((), ((), ((), ((), ((), ((), ((), ((), ((), ((), ((), ((), ((), ((), ((), ((), ((), ((), ((), ((), ((), ((), ((), ((), ((), ((), ((), ((), ((), ((), ((), ((), ((), ((), ((), ((), ((), ((), ((), ((), ((), ((), ((), ((), ((), ((), ((), ((), ((), ((), ((), ((), ((), ((), ((), ((), ((), ((), ((), ((), ((), ((), ((), ((), ((), ((), ((), ((), ((), ((), ((), ())))))))))))))))))))))))))))))))))))))))))))))))))))))))))))))))))))))))))))))))))))))))))))))))))))))))))))))))))))))))))))))))))))))))))))))))), ((c.2.2.2.2.1, c.2.2.2.2.2), ()))
theorem f107_l13_pg (t : f107_l13_sk.T) : f107_l13_put (f107_l13_con t) (f107_l13_get t) = t := by kernel_rfl
noncomputable def f107_l13_w0 (c : f107_l13_C) (y : (Int × (List Int × Unit))) : f107_l13_o0.T := (((), ((), ((), ((), ((3 : Int), ((), ((), ((), ((), ((), ((), ((), ((), ((), ((), ((), ((), ((), ((), ((), ((), ((), ((), ((), ((), ((), ((), ((), ((), ((), ((), ((), ((), ((), ((), ((), ((), ((), ((), ((), ((), ((), ((), ((), ((), ((), ((), ((), ((), ((), ((), ((), ((), ((), ((), ((), ((), ((), ((), ((), ((), ((), ((), ((), ((), ((), ((), ((), ((), ((), ((), ((), ((), ((), ((), ((), ((), ((), ((), ((), ((), ((), ((), ((), ((), ((), ((), ((), ((), ((), ((), ((), ((), ((), ((), ((), ((), ((), ((), ((), ((), ((), ((), ((), ((), ((), ((), ((), ((), ((), ((), ((), ((), ((), ((), ((), ((), ((), ((), ((), ((), ((), ((), ((), ((), ((), ((), ((), ((), ((), ((), ((), ((), ((), ((), ((), ((), ((), ((), ((), ((), ((), ((), ((), ())))))))))))))))))))))))))))))))))))))))))))))))))))))))))))))))))))))))))))))))))))))))))))))))))))))))))))))))))))))))))))))))))))))))))))))))), ((y, c.2.2.2.2.2), ()))
noncomputable def f107_l13_w1 (c : f107_l13_C) (y : Unit) : f107_l13_o1.T := ((c.1, ((), ((), ((), ((), ((), ((), ((), (c.2.1, ((), ((), ((), ((), ((), ((), ((), ((), ((), ((), ((), ((), ((), ((), ((), ((), ((), ((), ((), ((), ((), ((), ((), ((), ((), ((), ((), ((), ((), ((), ((), ((), ((), ((), ((), ((), ((), ((), ((), ((), ((), ((), ((), ((), ((), ((), ((), ((), ((), ((), ((), ((), ((), ((), ((), ((), ((), ((), ((), ((), ((), ((), ((), ((), ((), ((), ((), ((), ((), ((), ((), ((), ((), ((), ((), ((), ((), ((), ((), ((), ((), ((), ((), ((), ((), ((), ((), ((), ((), ((), ((), ((), ((), ((), ((), ((), ((), ((), ((), ((), ((), ((), ((), ((), ((), ((), ((), ((), ((), ((), ((), ((), ((), ((), ((), ((), ((), ((), ((), ((), ((), ((), ((), ((), ((), ((), ((), ((), ((), ((), ((), ((), ((), ((), ((), ())))))))))))))))))))))))))))))))))))))))))))))))))))))))))))))))))))))))))))))))))))))))))))))))))))))))))))))))))))))))))))))))))))))))))))))))), ((c.2.2.2.2.1, c.2.2.2.2.2), ()))
noncomputable def f107_l13_out (c : f107_l13_C) (y : f107_l13_Y) : OutV f107_l13_outs := (Sum.elim (fun y => (.inl (f107_l13_w0 c y))) (fun y => (.inr (.inl (f107_l13_w1 c y))))) y
noncomputable def f107_l13_k {R : Type} (a0 : List Int) (a1 : Int) (a2 : List Int) (a3 : Int) (a4 : Int) (a5 : (Int × (List Int × Unit))) (kin : f107_l13_X → Option R) (k0 : (Int × (List Int × Unit)) → Option R) (k1 : Unit → Option R) : Option R :=
 (cond (decide (a4 < a3))
 (if (0 : Int) ≤ a4 ∧ a4 < ((List.length a2 : Nat) : Int) then (let v5 : Int := (IntKind.i64.wrap (Int.tdiv a4 (16 : Int)))
  (if (0 : Int) ≤ v5 ∧ v5 < (2 : Int) then ((f139 (List.getD a2 (Int.toNat a4) (0 : Int)) a1 (List.getD [(8 : Int), (16 : Int)] (Int.toNat v5) (0 : Int))).bind fun r6 =>
  (cond (!r6.1.1)
  (k0 ((0 : Int), ([], ())))
  (let v7 : Int := (IntKind.i64.wrap (a4 + (1 : Int)))
   (kin v7)))) else none)) else none)
 (k1 ()))
noncomputable def f107_l13_g (a0 : List Int) (a1 : Int) (a2 : List Int) (a3 : Int) (a5 : (Int × (List Int × Unit))) (x : f107_l13_X) : Option (f107_l13_X ⊕ f107_l13_Y) := f107_l13_k a0 a1 a2 a3 x a5 (fun x => some (.inl x)) (fun y => some (.inr (.inl y))) (fun y => some (.inr (.inr y)))
noncomputable def f107_l13 (a0 : List Int) (a1 : Int) (a2 : List Int) (a3 : Int) (a5 : (Int × (List Int × Unit))) (x : f107_l13_X) : Option f107_l13_Y := loopO (f107_l13_g a0 a1 a2 a3 a5) x
noncomputable def f107_l13_nd : Node := { nils := [], sk := f107_l13_sk, outs := f107_l13_outs, Y := f107_l13_Y, L := fun t => f107_l13 ((f107_l13_con t).1) ((f107_l13_con t).2.1) ((f107_l13_con t).2.2.1) ((f107_l13_con t).2.2.2.1) ((f107_l13_con t).2.2.2.2.1) (f107_l13_get t), out := fun t y => f107_l13_out (f107_l13_con t) y, disp := fun t y K => (Sum.elim (fun y => K .ret (f107_l13_o0.fill (f107_l13_w0 (f107_l13_con t) y))) (fun y => K (.exit 2) (f107_l13_o1.fill (f107_l13_w1 (f107_l13_con t) y)))) y }
noncomputable def f107_l24_sk : SkS := ⟨[.con (.slc (.int .i64)), .undef, .ptr 32 [], .undef, .undef, .undef, .undef, .undef, .con (.int .i64), .undef, .undef, .ref 191 [], .con (.int .i64), .con (.int .i64), .undef, .undef, .undef, .undef, .undef, .undef, .undef, .undef, .undef, .undef, .undef, .undef, .undef, .undef, .undef, .undef, .undef, .undef, .undef, .undef, .undef, .undef, .undef, .undef, .undef, .undef, .undef, .undef, .undef, .undef, .undef, .undef, .undef, .undef, .undef, .undef, .undef, .undef, .undef, .undef, .undef, .undef, .undef, .undef, .undef, .undef, .undef, .undef, .undef, .undef, .undef, .con (.int .i64), .undef, .undef, .undef, .undef, .undef, .undef, .undef, .undef, .undef, .undef, .undef, .undef, .undef, .undef, .undef, .undef, .undef, .undef, .undef, .undef, .undef, .undef, .undef, .undef, .undef, .undef, .undef, .undef, .undef, .undef, .undef, .undef, .undef, .undef, .undef, .undef, .undef, .undef, .undef, .undef, .undef, .undef, .undef, .undef, .undef, .undef, .undef, .undef, .undef, .undef, .undef, .undef, .undef, .undef, .undef, .undef, .undef, .undef, .undef, .undef, .undef, .undef, .undef, .undef, .undef, .undef, .undef, .undef, .undef, .undef, .undef, .undef, .undef, .undef, .undef, .undef, .undef, .undef], [(32, ⟨some 61, (.pair (.int .i64) (.pair (.slc (.int .u8)) .unit)), (.pair .ro (.pair (.own .ro) .ro))⟩), (191, ⟨none, (.slc (.int .u8)), (.own .ro)⟩)]⟩
noncomputable def f107_l24_o0 : SkS := ⟨[.undef, .undef, .ptr 32 [], .nil, .con (.int .i64), .undef, .undef, .undef, .undef, .undef, .undef, .undef, .undef, .undef, .undef, .undef, .undef, .undef, .undef, .undef, .undef, .undef, .undef, .undef, .undef, .undef, .undef, .undef, .undef, .undef, .undef, .undef, .undef, .undef, .undef, .undef, .undef, .undef, .undef, .undef, .undef, .undef, .undef, .undef, .undef, .undef, .undef, .undef, .undef, .undef, .undef, .undef, .undef, .undef, .undef, .undef, .undef, .undef, .undef, .undef, .undef, .undef, .undef, .undef, .undef, .undef, .undef, .undef, .undef, .undef, .undef, .undef, .undef, .undef, .undef, .undef, .undef, .undef, .undef, .undef, .undef, .undef, .undef, .undef, .undef, .undef, .undef, .undef, .undef, .undef, .undef, .undef, .undef, .undef, .undef, .undef, .undef, .undef, .undef, .undef, .undef, .undef, .undef, .undef, .undef, .undef, .undef, .undef, .undef, .undef, .undef, .undef, .undef, .undef, .undef, .undef, .undef, .undef, .undef, .undef, .undef, .undef, .undef, .undef, .undef, .undef, .undef, .undef, .undef, .undef, .undef, .undef, .undef, .undef, .undef, .undef, .undef, .undef, .undef, .undef, .undef, .undef, .undef, .undef], [(32, ⟨some 61, (.pair (.int .i64) (.pair (.slc (.int .u8)) .unit)), (.pair .ro (.pair (.own .ro) .ro))⟩)]⟩
noncomputable def f107_l24_o1 : SkS := ⟨[.con (.slc (.int .i64)), .undef, .ptr 32 [], .undef, .undef, .undef, .undef, .undef, .con (.int .i64), .undef, .undef, .ref 191 [], .con (.int .i64), .con (.int .i64), .undef, .undef, .undef, .undef, .undef, .undef, .undef, .undef, .undef, .undef, .undef, .undef, .undef, .undef, .undef, .undef, .undef, .undef, .undef, .undef, .undef, .undef, .undef, .undef, .undef, .undef, .undef, .undef, .undef, .undef, .undef, .undef, .undef, .undef, .undef, .undef, .undef, .undef, .undef, .undef, .undef, .undef, .undef, .undef, .undef, .undef, .undef, .undef, .undef, .undef, .undef, .undef, .undef, .undef, .undef, .undef, .undef, .undef, .undef, .undef, .undef, .undef, .undef, .undef, .undef, .undef, .undef, .undef, .undef, .undef, .undef, .undef, .undef, .undef, .undef, .undef, .undef, .undef, .undef, .undef, .undef, .undef, .undef, .undef, .undef, .undef, .undef, .undef, .undef, .undef, .undef, .undef, .undef, .undef, .undef, .undef, .undef, .undef, .undef, .undef, .undef, .undef, .undef, .undef, .undef, .undef, .undef, .undef, .undef, .undef, .undef, .undef, .undef, .undef, .undef, .undef, .undef, .undef, .undef, .undef, .undef, .undef, .undef, .undef, .undef, .undef, .undef, .undef, .undef, .undef], [(32, ⟨some 61, (.pair (.int .i64) (.pair (.slc (.int .u8)) .unit)), (.pair .ro (.pair (.own .ro) .ro))⟩), (191, ⟨none, (.slc (.int .u8)), (.own .ro)⟩)]⟩
noncomputable def f107_l24_outs : List Way := [⟨.ret, [], f107_l24_o0⟩, ⟨(.exit 6), [], f107_l24_o1⟩]
abbrev f107_l24_C := (Int × Int × (Int × (List Int × Unit)) × List Int × (Option Nat))
abbrev f107_l24_X := (List Int × Int × Int)
abbrev f107_l24_Y := ((Int × (Int × (List Int × Unit)))) ⊕ ((List Int × Int))
noncomputable def f107_l24_con (t : f107_l24_sk.T) : f107_l24_C := (t.1.2.2.2.2.2.2.2.2.1, t.1.2.2.2.2.2.2.2.2.2.2.2.2.1, t.2.1.1, t.2.2.1.1, t.2.1.2)
noncomputable def f107_l24_get (t : f107_l24_sk.T) : f107_l24_X := (t.1.1, t.1.2.2.2.2.2.2.2.2.2.2.2.2.2.1, t.1.2.2.2.2.2.2.2.2.2.2.2.2.2.2.2.2.2.2.2.2.2.2.2.2.2.2.2.2.2.2.2.2.2.2.2.2.2.2.2.2.2.2.2.2.2.2.2.2.2.2.2.2.2.2.2.2.2.2.2.2.2.2.2.2.2.1)
noncomputable def f107_l24_put (c : f107_l24_C) (x : f107_l24_X) : f107_l24_sk.T := ((x.1, ((), ((), ((), ((), ((), ((), ((), (c.1, ((), ((), ((), (c.2.1, (x.2.1, ((), ((), ((), ((), ((), ((), ((), ((), ((), ((), ((), ((), ((), ((), ((), ((), ((), ((), ((), ((), ((), ((), ((), ((), ((), ((), ((), ((), ((), ((), ((), ((), ((), ((), ((), ((), ((), ((), ((), ((), ((), ((), ((), ((), ((), ((), ((), ((), ((), ((), ((), (x.2.2, ((), ((), ((), ((), ((), ((), ((), ((), ((), ((), ((), ((), ((), ((), ((), ((), ((), ((), ((), ((), ((), ((), ((), ((), ((), ((), ((), ((), ((), ((), ((), ((), ((), ((), ((), ((), ((), ((), ((), ((), ((), ((), ((), ((), ((), ((), ((), ((), ((), ((), ((), ((), ((), ((), ((), ((), ((), ((), ((), ((), ((), ((), ((), ((), ((), ((), ((), ((), ((), ((), ((), ((), ((), ((), ((), ((), ((), ((), ())))))))))))))))))))))))))))))))))))))))))))))))))))))))))))))))))))))))))))))))))))))))))))))))))))))))))))))))))))))))))))))))))))))))))))))))), ((c.2.2.1, c.2.2.2.2), ((c.2.2.2.1, ()), ())))
theorem f107_l24_pg (t : f107_l24_sk.T) : f107_l24_put (f107_l24_con t) (f107_l24_get t) = t := by kernel_rfl
noncomputable def f107_l24_w0 (c : f107_l24_C) (y : (Int × (Int × (List Int × Unit)))) : f107_l24_o0.T := (((), ((), ((), ((), (y.1, ((), ((), ((), ((), ((), ((), ((), ((), ((), ((), ((), ((), ((), ((), ((), ((), ((), ((), ((), ((), ((), ((), ((), ((), ((), ((), ((), ((), ((), ((), ((), ((), ((), ((), ((), ((), ((), ((), ((), ((), ((), ((), ((), ((), ((), ((), ((), ((), ((), ((), ((), ((), ((), ((), ((), ((), ((), ((), ((), ((), ((), ((), ((), ((), ((), ((), ((), ((), ((), ((), ((), ((), ((), ((), ((), ((), ((), ((), ((), ((), ((), ((), ((), ((), ((), ((), ((), ((), ((), ((), ((), ((), ((), ((), ((), ((), ((), ((), ((), ((), ((), ((), ((), ((), ((), ((), ((), ((), ((), ((), ((), ((), ((), ((), ((), ((), ((), ((), ((), ((), ((), ((), ((), ((), ((), ((), ((), ((), ((), ((), ((), ((), ((), ((), ((), ((), ((), ((), ((), ())))))))))))))))))))))))))))))))))))))))))))))))))))))))))))))))))))))))))))))))))))))))))))))))))))))))))))))))))))))))))))))))))))))))))))))))), ((y.2, c.2.2.2.2), ()))
noncomputable def f107_l24_w1 (c : f107_l24_C) (y : (List Int × Int)) : f107_l24_o1.T := ((y.1, ((), ((), ((), ((), ((), ((), ((), (c.1, ((), ((), ((), (c.2.1, (y.2, ((), ((), ((), ((), ((), ((), ((), ((), ((), ((), ((), ((), ((), ((), ((), ((), ((), ((), ((), ((), ((), ((), ((), ((), ((), ((), ((), ((), ((), ((), ((), ((), ((), ((), ((), ((), ((), ((), ((), ((), ((), ((), ((), ((), ((), ((), ((), ((), ((), ((), ((), ((), ((), ((), ((), ((), ((), ((), ((), ((), ((), ((), ((), ((), ((), ((), ((), ((), ((), ((), ((), ((), ((), ((), ((), ((), ((), ((), ((), ((), ((), ((), ((), ((), ((), ((), ((), ((), ((), ((), ((), ((), ((), ((), ((), ((), ((), ((), ((), ((), ((), ((), ((), ((), ((), ((), ((), ((), ((), ((), ((), ((), ((), ((), ((), ((), ((), ((), ((), ((), ((), ((), ((), ((), ((), ((), ((), ((), ((), ((), ())))))))))))))))))))))))))))))))))))))))))))))))))))))))))))))))))))))))))))))))))))))))))))))))))))))))))))))))))))))))))))))))))))))))))))))))), ((c.2.2.1, c.2.2.2.2), ((c.2.2.2.1, ()), ())))
noncomputable def f107_l24_out (c : f107_l24_C) (y : f107_l24_Y) : OutV f107_l24_outs := (Sum.elim (fun y => (.inl (f107_l24_w0 c y))) (fun y => (.inr (.inl (f107_l24_w1 c y))))) y
noncomputable def f107_l24_k {R : Type} (a0 : List Int) (a1 : Int) (a2 : Int) (a3 : Int) (a4 : Int) (a5 : (Int × (List Int × Unit))) (a6 : List Int) (kin : f107_l24_X → Option R) (k0 : (Int × (Int × (List Int × Unit))) → Option R) (k1 : (List Int × Int) → Option R) : Option R :=
 (cond (decide (a4 < (8 : Int)))
 (cond (decide (((List.length a0 : Nat) : Int) < (2 : Int)))
  (k0 ((13 : Int), ((0 : Int), ([], ()))))
  (if (0 : Int) ≤ (0 : Int) ∧ (0 : Int) < ((List.length a0 : Nat) : Int) then ((f139 (List.getD a0 0 (0 : Int)) a1 (4 : Int)).bind fun r11 =>
   (cond r11.1.1
   (if (0 : Int) ≤ (1 : Int) ∧ (1 : Int) < ((List.length a0 : Nat) : Int) then ((f139 (List.getD a0 1 (0 : Int)) a1 (4 : Int)).bind fun r12 =>
    (cond r12.1.1
    (let v13 : Int := (IntKind.i64.wrap ((2 : Int) * a3))
     (let v14 : Int := (IntKind.i64.wrap (v13 + (1 : Int)))
     (if (0 : Int) ≤ (2 : Int) ∧ (2 : Int) ≤ ((List.length a0 : Nat) : Int) ∧ ((List.length a0 : Nat) : Int) ≤ ((List.length a0 : Nat) : Int) then (let v15 : Int := (IntKind.i64.wrap (a4 + (1 : Int)))
     (kin ((List.take ((Int.toNat ((List.length a0 : Nat) : Int)) - 2) (List.drop 2 a0)), v14, v15))) else none)))
    (if (0 : Int) ≤ (0 : Int) ∧ (0 : Int) < ((List.length a0 : Nat) : Int) then ((f139 (List.getD a0 0 (0 : Int)) a1 (2 : Int)).bind fun r16 =>
     (cond r16.1.1
     (if (0 : Int) ≤ (1 : Int) ∧ (1 : Int) < ((List.length a0 : Nat) : Int) then ((f139 (List.getD a0 1 (0 : Int)) a1 (2 : Int)).bind fun r17 =>
      (cond r17.1.1
      (let v18 : Int := (IntKind.i64.wrap ((2 : Int) * a3))
       (if (0 : Int) ≤ (2 : Int) ∧ (2 : Int) ≤ ((List.length a0 : Nat) : Int) ∧ ((List.length a0 : Nat) : Int) ≤ ((List.length a0 : Nat) : Int) then (let v19 : Int := (IntKind.i64.wrap (a4 + (1 : Int)))
       (kin ((List.take ((Int.toNat ((List.length a0 : Nat) : Int)) - 2) (List.drop 2 a0)), v18, v19))) else none))
      (k0 ((18 : Int), ((0 : Int), ([], ())))))) else none)
     (k0 ((18 : Int), ((0 : Int), ([], ())))))) else none))) else none)
   (if (0 : Int) ≤ (0 : Int) ∧ (0 : Int) < ((List.length a0 : Nat) : Int) then ((f139 (List.getD a0 0 (0 : Int)) a1 (2 : Int)).bind fun r20 =>
    (cond r20.1.1
    (if (0 : Int) ≤ (1 : Int) ∧ (1 : Int) < ((List.length a0 : Nat) : Int) then ((f139 (List.getD a0 1 (0 : Int)) a1 (2 : Int)).bind fun r21 =>
     (cond r21.1.1
     (let v22 : Int := (IntKind.i64.wrap ((2 : Int) * a3))
      (if (0 : Int) ≤ (2 : Int) ∧ (2 : Int) ≤ ((List.length a0 : Nat) : Int) ∧ ((List.length a0 : Nat) : Int) ≤ ((List.length a0 : Nat) : Int) then (let v23 : Int := (IntKind.i64.wrap (a4 + (1 : Int)))
      (kin ((List.take ((Int.toNat ((List.length a0 : Nat) : Int)) - 2) (List.drop 2 a0)), v22, v23))) else none))
     (k0 ((18 : Int), ((0 : Int), ([], ())))))) else none)
    (k0 ((18 : Int), ((0 : Int), ([], ())))))) else none))) else none))
 (k1 (a0, a3)))
noncomputable def f107_l24_g (a1 : Int) (a2 : Int) (a5 : (Int × (List Int × Unit))) (a6 : List Int) (x : f107_l24_X) : Option (f107_l24_X ⊕ f107_l24_Y) := f107_l24_k x.1 a1 a2 x.2.1 x.2.2 a5 a6 (fun x => some (.inl x)) (fun y => some (.inr (.inl y))) (fun y => some (.inr (.inr y)))
noncomputable def f107_l24 (a1 : Int) (a2 : Int) (a5 : (Int × (List Int × Unit))) (a6 : List Int) (x : f107_l24_X) : Option f107_l24_Y := loopO (f107_l24_g a1 a2 a5 a6) x
noncomputable def f107_l24_nd : Node := { nils := [], sk := f107_l24_sk, outs := f107_l24_outs, Y := f107_l24_Y, L := fun t => f107_l24 ((f107_l24_con t).1) ((f107_l24_con t).2.1) ((f107_l24_con t).2.2.1) ((f107_l24_con t).2.2.2.1) (f107_l24_get t), out := fun t y => f107_l24_out (f107_l24_con t) y, disp := fun t y K => (Sum.elim (fun y => K .ret (f107_l24_o0.fill (f107_l24_w0 (f107_l24_con t) y))) (fun y => K (.exit 6) (f107_l24_o1.fill (f107_l24_w1 (f107_l24_con t) y)))) y }
noncomputable def f107_l21_sk : SkS := ⟨[.con (.slc (.int .i64)), .undef, .ptr 32 [], .undef, .undef, .undef, .undef, .undef, .con (.int .i64), .undef, .undef, .ref 191 [], .con (.int .i64), .undef, .undef, .undef, .undef, .undef, .undef, .undef, .undef, .undef, .undef, .undef, .undef, .undef, .undef, .undef, .undef, .undef, .undef, .undef, .undef, .undef, .undef, .undef, .undef, .undef, .undef, .undef, .undef, .undef, .undef, .undef, .undef, .undef, .undef, .undef, .undef, .undef, .undef, .undef, .undef, .undef, .undef, .undef, .undef, .undef, .undef, .undef, .undef, .undef, .undef, .undef, .undef, .undef, .undef, .undef, .undef, .undef, .undef, .undef, .undef, .undef, .undef, .undef, .undef, .undef, .undef, .undef, .undef, .undef, .undef, .undef, .undef, .undef, .undef, .undef, .undef, .undef, .undef, .undef, .undef, .undef, .undef, .undef, .undef, .undef, .undef, .undef, .undef, .undef, .undef, .undef, .undef, .undef, .undef, .undef, .undef, .undef, .undef, .undef, .undef, .undef, .undef, .undef, .undef, .undef, .undef, .undef, .undef, .undef, .undef, .undef, .undef, .undef, .undef, .undef, .undef, .undef, .undef, .undef, .undef, .undef, .undef, .undef, .undef, .undef, .undef, .undef, .undef, .undef, .undef, .undef], [(32, ⟨some 61, (.pair (.int .i64) (.pair (.slc (.int .u8)) .unit)), (.pair .ro (.pair (.own .ro) .ro))⟩), (191, ⟨none, (.slc (.int .u8)), (.own .ro)⟩)]⟩
noncomputable def f107_l21_o0 : SkS := ⟨[.undef, .undef, .ptr 32 [], .nil, .con (.int .i64), .undef, .undef, .undef, .undef, .undef, .undef, .undef, .undef, .undef, .undef, .undef, .undef, .undef, .undef, .undef, .undef, .undef, .undef, .undef, .undef, .undef, .undef, .undef, .undef, .undef, .undef, .undef, .undef, .undef, .undef, .undef, .undef, .undef, .undef, .undef, .undef, .undef, .undef, .undef, .undef, .undef, .undef, .undef, .undef, .undef, .undef, .undef, .undef, .undef, .undef, .undef, .undef, .undef, .undef, .undef, .undef, .undef, .undef, .undef, .undef, .undef, .undef, .undef, .undef, .undef, .undef, .undef, .undef, .undef, .undef, .undef, .undef, .undef, .undef, .undef, .undef, .undef, .undef, .undef, .undef, .undef, .undef, .undef, .undef, .undef, .undef, .undef, .undef, .undef, .undef, .undef, .undef, .undef, .undef, .undef, .undef, .undef, .undef, .undef, .undef, .undef, .undef, .undef, .undef, .undef, .undef, .undef, .undef, .undef, .undef, .undef, .undef, .undef, .undef, .undef, .undef, .undef, .undef, .undef, .undef, .undef, .undef, .undef, .undef, .undef, .undef, .undef, .undef, .undef, .undef, .undef, .undef, .undef, .undef, .undef, .undef, .undef, .undef, .undef], [(32, ⟨some 61, (.pair (.int .i64) (.pair (.slc (.int .u8)) .unit)), (.pair .ro (.pair (.own .ro) .ro))⟩)]⟩
noncomputable def f107_l21_o1 : SkS := ⟨[.con (.slc (.int .i64)), .undef, .ptr 32 [], .undef, .undef, .undef, .undef, .undef, .con (.int .i64), .undef, .undef, .ref 191 [], .undef, .undef, .undef, .undef, .undef, .undef, .undef, .undef, .undef, .undef, .undef, .undef, .undef, .undef, .undef, .undef, .undef, .undef, .undef, .undef, .undef, .undef, .undef, .undef, .undef, .undef, .undef, .undef, .undef, .undef, .undef, .undef, .undef, .undef, .undef, .undef, .undef, .undef, .undef, .undef, .undef, .undef, .undef, .undef, .undef, .undef, .undef, .undef, .undef, .undef, .undef, .undef, .undef, .undef, .undef, .undef, .undef, .undef, .undef, .undef, .undef, .undef, .undef, .undef, .undef, .undef, .undef, .undef, .undef, .undef, .undef, .undef, .undef, .undef, .undef, .undef, .undef, .undef, .undef, .undef, .undef, .undef, .undef, .undef, .undef, .undef, .undef, .undef, .undef, .undef, .undef, .undef, .undef, .undef, .undef, .undef, .undef, .undef, .undef, .undef, .undef, .undef, .undef, .undef, .undef, .undef, .undef, .undef, .undef, .undef, .undef, .undef, .undef, .undef, .undef, .undef, .undef, .undef, .undef, .undef, .undef, .undef, .undef, .undef, .undef, .undef, .undef, .undef, .undef, .undef, .undef, .undef], [(32, ⟨some 61, (.pair (.int .i64) (.pair (.slc (.int .u8)) .unit)), (.pair .ro (.pair (.own .ro) .ro))⟩), (191, ⟨none, (.slc (.int .u8)), (.own .ro)⟩)]⟩
noncomputable def f107_l21_outs : List Way := [⟨.ret, [], f107_l21_o0⟩, ⟨(.exit 4), [], f107_l21_o1⟩]
abbrev f107_l21_C := (Int × (Int × (List Int × Unit)) × (Option Nat))
abbrev f107_l21_X := (List Int × Int × List Int)
abbrev f107_l21_Y := ((Int × (Int × (List Int × Unit)))) ⊕ ((List Int × List Int))
noncomputable def f107_l21_con (t : f107_l21_sk.T) : f107_l21_C := (t.1.2.2.2.2.2.2.2.2.1, t.2.1.1, t.2.1.2)
noncomputable def f107_l21_get (t : f107_l21_sk.T) : f107_l21_X := (t.1.1, t.1.2.2.2.2.2.2.2.2.2.2.2.2.1, t.2.2.1.1)
noncomputable def f107_l21_put (c : f107_l21_C) (x : f107_l21_X) : f107_l21_sk.T := ((x.1, ((), ((), ((), ((), ((), ((), ((), (c.1, ((), ((), ((), (x.2.1, ((), ((), ((), ((), ((), ((), ((), ((), ((), ((), ((), ((), ((), ((), ((), ((), ((), ((), ((), ((), ((), ((), ((), ((), ((), ((), ((), ((), ((), ((), ((), ((), ((), ((), ((), ((), ((), ((), ((), ((), ((), ((), ((), ((), ((), ((), ((), ((), ((), ((), ((), ((), ((), ((), ((), ((), ((), ((), ((), ((), ((), ((), ((), ((), ((), ((), ((), ((), ((), ((), ((), ((), ((), ((), ((), ((), ((), ((), ((), ((), ((), ((), ((), ((), ((), ((), ((), ((), ((), ((), ((), ((), ((), ((), ((), ((), ((), ((), ((), ((), ((), ((), ((), ((), ((), ((), ((), ((), ((), ((), ((), ((), ((), ((), ((), ((), ((), ((), ((), ((), ((), ((), ((), ((), ((), ((), ((), ((), ((), ((), ((), ())))))))))))))))))))))))))))))))))))))))))))))))))))))))))))))))))))))))))))))))))))))))))))))))))))))))))))))))))))))))))))))))))))))))))))))))), ((c.2.1, c.2.2), ((x.2.2, ()), ())))
theorem f107_l21_pg (t : f107_l21_sk.T) : f107_l21_put (f107_l21_con t) (f107_l21_get t) = t := by kernel_rfl
noncomputable def f107_l21_w0 (c : f107_l21_C) (y : (Int × (Int × (List Int × Unit)))) : f107_l21_o0.T := (((), ((), ((), ((), (y.1, ((), ((), ((), ((), ((), ((), ((), ((), ((), ((), ((), ((), ((), ((), ((), ((), ((), ((), ((), ((), ((), ((), ((), ((), ((), ((), ((), ((), ((), ((), ((), ((), ((), ((), ((), ((), ((), ((), ((), ((), ((), ((), ((), ((), ((), ((), ((), ((), ((), ((), ((), ((), ((), ((), ((), ((), ((), ((), ((), ((), ((), ((), ((), ((), ((), ((), ((), ((), ((), ((), ((), ((), ((), ((), ((), ((), ((), ((), ((), ((), ((), ((), ((), ((), ((), ((), ((), ((), ((), ((), ((), ((), ((), ((), ((), ((), ((), ((), ((), ((), ((), ((), ((), ((), ((), ((), ((), ((), ((), ((), ((), ((), ((), ((), ((), ((), ((), ((), ((), ((), ((), ((), ((), ((), ((), ((), ((), ((), ((), ((), ((), ((), ((), ((), ((), ((), ((), ((), ((), ())))))))))))))))))))))))))))))))))))))))))))))))))))))))))))))))))))))))))))))))))))))))))))))))))))))))))))))))))))))))))))))))))))))))))))))))), ((y.2, c.2.2), ()))
noncomputable def f107_l21_w1 (c : f107_l21_C) (y : (List Int × List Int)) : f107_l21_o1.T := ((y.1, ((), ((), ((), ((), ((), ((), ((), (c.1, ((), ((), ((), ((), ((), ((), ((), ((), ((), ((), ((), ((), ((), ((), ((), ((), ((), ((), ((), ((), ((), ((), ((), ((), ((), ((), ((), ((), ((), ((), ((), ((), ((), ((), ((), ((), ((), ((), ((), ((), ((), ((), ((), ((), ((), ((), ((), ((), ((), ((), ((), ((), ((), ((), ((), ((), ((), ((), ((), ((), ((), ((), ((), ((), ((), ((), ((), ((), ((), ((), ((), ((), ((), ((), ((), ((), ((), ((), ((), ((), ((), ((), ((), ((), ((), ((), ((), ((), ((), ((), ((), ((), ((), ((), ((), ((), ((), ((), ((), ((), ((), ((), ((), ((), ((), ((), ((), ((), ((), ((), ((), ((), ((), ((), ((), ((), ((), ((), ((), ((), ((), ((), ((), ((), ((), ((), ((), ((), ((), ((), ((), ((), ((), ((), ((), ())))))))))))))))))))))))))))))))))))))))))))))))))))))))))))))))))))))))))))))))))))))))))))))))))))))))))))))))))))))))))))))))))))))))))))))))), ((c.2.1, c.2.2), ((y.2, ()), ())))
noncomputable def f107_l21_out (c : f107_l21_C) (y : f107_l21_Y) : OutV f107_l21_outs := (Sum.elim (fun y => (.inl (f107_l21_w0 c y))) (fun y => (.inr (.inl (f107_l21_w1 c y))))) y
noncomputable def f107_l21_k {R : Type} (a0 : List Int) (a1 : Int) (a2 : Int) (a3 : (Int × (List Int × Unit))) (a4 : List Int) (kin : f107_l21_X → Option R) (k0 : (Int × (Int × (List Int × Unit))) → Option R) (k1 : (List Int × List Int) → Option R) : Option R :=
 (cond (decide (((List.length a4 : Nat) : Int) < a2))
 ((f107_l24 a1 a2 a3 a4 (a0, (0 : Int), (0 : Int))).bind fun y24 =>
  ((Sum.elim (fun z25 =>
  (k0 (z25.1, z25.2)))
  (fun z26 =>
  (if (List.length a4 + 1) * 1 ≤ most ∧ 0 < 1 ∧ 0 < 1 then (let r27 : List Int := (a4 ++ [(IntKind.u8.wrap z26.2)])
   (cond (((List.length r27 : Nat) : Int) == (2 : Int))
   (if (0 : Int) ≤ (0 : Int) ∧ (0 : Int) < ((List.length r27 : Nat) : Int) then (let v28 : Int := (IntKind.i64.wrap (List.getD r27 0 (0 : Int)))
    (let v29 : Int := (IntKind.i64.wrap ((256 : Int) * v28))
    (if (0 : Int) ≤ (1 : Int) ∧ (1 : Int) < ((List.length r27 : Nat) : Int) then (let v30 : Int := (IntKind.i64.wrap (List.getD r27 1 (0 : Int)))
    (let v31 : Int := (IntKind.i64.wrap (v29 + v30))
    (let v32 : Int := (IntKind.i64.wrap (v31 + (3 : Int)))
    (cond (decide (v32 > (259 : Int)))
    (k0 ((2 : Int), ((0 : Int), ([], ()))))
    (kin (z26.1, v32, r27)))))) else none))) else none)
   (kin (z26.1, a2, r27)))) else none))) y24))
 (k1 (a0, a4)))
noncomputable def f107_l21_g (a1 : Int) (a3 : (Int × (List Int × Unit))) (x : f107_l21_X) : Option (f107_l21_X ⊕ f107_l21_Y) := f107_l21_k x.1 a1 x.2.1 a3 x.2.2 (fun x => some (.inl x)) (fun y => some (.inr (.inl y))) (fun y => some (.inr (.inr y)))
noncomputable def f107_l21 (a1 : Int) (a3 : (Int × (List Int × Unit))) (x : f107_l21_X) : Option f107_l21_Y := loopO (f107_l21_g a1 a3) x
noncomputable def f107_l21_nd : Node := { nils := [(11, 191, (.int .u8), .ro)], sk := f107_l21_sk, outs := f107_l21_outs, Y := f107_l21_Y, L := fun t => f107_l21 ((f107_l21_con t).1) ((f107_l21_con t).2.1) (f107_l21_get t), out := fun t y => f107_l21_out (f107_l21_con t) y, disp := fun t y K => (Sum.elim (fun y => K .ret (f107_l21_o0.fill (f107_l21_w0 (f107_l21_con t) y))) (fun y => K (.exit 4) (f107_l21_o1.fill (f107_l21_w1 (f107_l21_con t) y)))) y }
noncomputable def f107_fx : Fx := { E := env, T := [(139, f139_sm), (103, f103_sm), (76, f76_sm)], H := [], O := [], nodes := [((true, 5), f107_l5_nd), ((true, 13), f107_l13_nd), ((true, 24), f107_l24_nd), ((true, 21), f107_l21_nd)] }
noncomputable def f107_l5_b : Code := (loops f107_code).getD 0 .skip
theorem f107_l5_r (c : f107_l5_C) (x : f107_l5_X) : roundS f107_fx f107_l5_b f107_l5_nd (f107_l5_put c x) = f107_l5_k c.1 x.1 c.2.1 c.2.2.1 x.2 c.2.2.2.1 (fun x => some (.inl (f107_l5_put c x))) (fun y => some (.inr (.inl (f107_l5_w0 c y)))) := by kernel_rfl
theorem f107_l5_n {R : Type} (a0 : List Int) (a1 : Int) (a2 : List Int) (a3 : Int) (a4 : Int) (a5 : (Int × (List Int × Unit))) (kin : f107_l5_X → Option R) (k0 : Int → Option R) : f107_l5_k a0 a1 a2 a3 a4 a5 kin k0 = (f107_l5_g a0 a2 a3 a5 (a1, a4)).bind (Sum.elim kin k0) := by
  simp only [f107_l5_g, f107_l5_k, cond_bind, ite_bind, bind_bind, some_bind, none_bind, elim_bind, Sum.elim_inl, Sum.elim_inr]
theorem f107_l5_ok : LoopOk f107_fx f107_l5_b f107_l5_nd := loop_ok f107_l5_con f107_l5_get f107_l5_put f107_l5_pg (fun c => f107_l5_g c.1 c.2.1 c.2.2.1 c.2.2.2.1) f107_l5_out (fun t y => rfl) (fun t y K => rfl) (fun c x => by
  refine (f107_l5_r c x).trans ((f107_l5_n _ _ _ _ _ _ _ _).trans ?_)
  first
  | rfl
  | congr 1
    funext s
    rcases s with s | s <;> rfl) (fun t => rfl)
noncomputable def f107_l13_b : Code := (loops f107_code).getD 1 .skip
theorem f107_l13_r (c : f107_l13_C) (x : f107_l13_X) : roundS f107_fx f107_l13_b f107_l13_nd (f107_l13_put c x) = f107_l13_k c.1 c.2.1 c.2.2.1 c.2.2.2.1 x c.2.2.2.2.1 (fun x => some (.inl (f107_l13_put c x))) (fun y => some (.inr (.inl (f107_l13_w0 c y)))) (fun y => some (.inr (.inr (.inl (f107_l13_w1 c y))))) := by kernel_rfl
theorem f107_l13_n {R : Type} (a0 : List Int) (a1 : Int) (a2 : List Int) (a3 : Int) (a4 : Int) (a5 : (Int × (List Int × Unit))) (kin : f107_l13_X → Option R) (k0 : (Int × (List Int × Unit)) → Option R) (k1 : Unit → Option R) : f107_l13_k a0 a1 a2 a3 a4 a5 kin k0 k1 = (f107_l13_g a0 a1 a2 a3 a5 a4).bind (Sum.elim kin (Sum.elim k0 k1)) := by
  simp only [f107_l13_g, f107_l13_k, cond_bind, ite_bind, bind_bind, some_bind, none_bind, elim_bind, Sum.elim_inl, Sum.elim_inr]
theorem f107_l13_ok : LoopOk f107_fx f107_l13_b f107_l13_nd := loop_ok f107_l13_con f107_l13_get f107_l13_put f107_l13_pg (fun c => f107_l13_g c.1 c.2.1 c.2.2.1 c.2.2.2.1 c.2.2.2.2.1) f107_l13_out (fun t y => rfl) (by intro R t y K; rcases y with y | y <;> rfl) (fun c x => by
  refine (f107_l13_r c x).trans ((f107_l13_n _ _ _ _ _ _ _ _ _).trans ?_)
  first
  | rfl
  | congr 1
    funext s
    rcases s with s | s | s <;> rfl) (fun t => rfl)
noncomputable def f107_l24_b : Code := (loops f107_code).getD 3 .skip
theorem f107_l24_r (c : f107_l24_C) (x : f107_l24_X) : roundS f107_fx f107_l24_b f107_l24_nd (f107_l24_put c x) = f107_l24_k x.1 c.1 c.2.1 x.2.1 x.2.2 c.2.2.1 c.2.2.2.1 (fun x => some (.inl (f107_l24_put c x))) (fun y => some (.inr (.inl (f107_l24_w0 c y)))) (fun y => some (.inr (.inr (.inl (f107_l24_w1 c y))))) := by kernel_rfl
theorem f107_l24_n {R : Type} (a0 : List Int) (a1 : Int) (a2 : Int) (a3 : Int) (a4 : Int) (a5 : (Int × (List Int × Unit))) (a6 : List Int) (kin : f107_l24_X → Option R) (k0 : (Int × (Int × (List Int × Unit))) → Option R) (k1 : (List Int × Int) → Option R) : f107_l24_k a0 a1 a2 a3 a4 a5 a6 kin k0 k1 = (f107_l24_g a1 a2 a5 a6 (a0, a3, a4)).bind (Sum.elim kin (Sum.elim k0 k1)) := by
  simp only [f107_l24_g, f107_l24_k, cond_bind, ite_bind, bind_bind, some_bind, none_bind, elim_bind, Sum.elim_inl, Sum.elim_inr]
theorem f107_l24_ok : LoopOk f107_fx f107_l24_b f107_l24_nd := loop_ok f107_l24_con f107_l24_get f107_l24_put f107_l24_pg (fun c => f107_l24_g c.1 c.2.1 c.2.2.1 c.2.2.2.1) f107_l24_out (fun t y => rfl) (by intro R t y K; rcases y with y | y <;> rfl) (fun c x => by
  refine (f107_l24_r c x).trans ((f107_l24_n _ _ _ _ _ _ _ _ _ _).trans ?_)
  first
  | rfl
  | congr 1
    funext s
    rcases s with s | s | s <;> rfl) (fun t => rfl)
noncomputable def f107_l21_b : Code := (loops f107_code).getD 2 .skip
theorem f107_l21_r (c : f107_l21_C) (x : f107_l21_X) : roundS f107_fx f107_l21_b f107_l21_nd (f107_l21_put c x) = f107_l21_k x.1 c.1 x.2.1 c.2.1 x.2.2 (fun x => some (.inl (f107_l21_put c x))) (fun y => some (.inr (.inl (f107_l21_w0 c y)))) (fun y => some (.inr (.inr (.inl (f107_l21_w1 c y))))) := by kernel_rfl
theorem f107_l21_n {R : Type} (a0 : List Int) (a1 : Int) (a2 : Int) (a3 : (Int × (List Int × Unit))) (a4 : List Int) (kin : f107_l21_X → Option R) (k0 : (Int × (Int × (List Int × Unit))) → Option R) (k1 : (List Int × List Int) → Option R) : f107_l21_k a0 a1 a2 a3 a4 kin k0 k1 = (f107_l21_g a1 a3 (a0, a2, a4)).bind (Sum.elim kin (Sum.elim k0 k1)) := by
  simp only [f107_l21_g, f107_l21_k, cond_bind, ite_bind, bind_bind, some_bind, none_bind, elim_bind, Sum.elim_inl, Sum.elim_inr]
theorem f107_l21_ok : LoopOk f107_fx f107_l21_b f107_l21_nd := loop_ok f107_l21_con f107_l21_get f107_l21_put f107_l21_pg (fun c => f107_l21_g c.1 c.2.1) f107_l21_out (fun t y => rfl) (by intro R t y K; rcases y with y | y <;> rfl) (fun c x => by
  refine (f107_l21_r c x).trans ((f107_l21_n _ _ _ _ _ _ _ _).trans ?_)
  first
  | rfl
  | congr 1
    funext s
    rcases s with s | s | s <;> rfl) (fun t => rfl)
noncomputable def f107_k {R : Type} (a0 : List Int) (k : ((Int × (List Int × Unit)) × List Int × Int × Unit) × (Unit) → Option R) : Option R :=
 (cond (decide (((List.length a0 : Nat) : Int) < (17 : Int)))
 (k ((((0 : Int), ([], ())), ([], ((13 : Int), ()))), ()))
 (if (0 : Int) ≤ (0 : Int) ∧ (0 : Int) ≤ (16 : Int) ∧ (16 : Int) ≤ ((List.length a0 : Nat) : Int) then ((f107_l5 a0 (List.take 16 (List.drop 0 a0)) ((List.length (List.take 16 (List.drop 0 a0)) : Nat) : Int) ((0 : Int), (([] : List Int), ())) ((0 : Int), (0 : Int))).bind fun y2 =>
  (let v3 : Int := (IntKind.i64.wrap (y2 + (64 : Int)))
  (let v4 : Int := (IntKind.i64.wrap (Int.tdiv v3 (128 : Int)))
  (cond (decide (v4 < (4 : Int)))
  (k ((((0 : Int), ([], ())), ([], ((3 : Int), ()))), ()))
  (cond (decide (v4 > (1000 : Int)))
   (k ((((0 : Int), ([], ())), ([], ((3 : Int), ()))), ()))
   (if (0 : Int) ≤ (0 : Int) ∧ (0 : Int) ≤ (17 : Int) ∧ (17 : Int) ≤ ((List.length a0 : Nat) : Int) then ((f107_l13 a0 v4 (List.take 17 (List.drop 0 a0)) ((List.length (List.take 17 (List.drop 0 a0)) : Nat) : Int) ((0 : Int), (([] : List Int), ())) (0 : Int)).bind fun y8 =>
    ((Sum.elim (fun z9 =>
    (k ((z9, ([], ((3 : Int), ()))), ())))
    (fun z10 =>
    (if (0 : Int) ≤ (17 : Int) ∧ (17 : Int) ≤ ((List.length a0 : Nat) : Int) ∧ ((List.length a0 : Nat) : Int) ≤ ((List.length a0 : Nat) : Int) then ((f107_l21 v4 ((0 : Int), (([] : List Int), ())) ((List.take ((Int.toNat ((List.length a0 : Nat) : Int)) - 17) (List.drop 17 a0)), (3 : Int), [])).bind fun y33 =>
     ((Sum.elim (fun z34 =>
     (k ((z34.2, ([], (z34.1, ()))), ())))
     (fun z35 =>
     (let v36 : Int := (IntKind.i64.wrap (((List.length z35.2 : Nat) : Int) - (1 : Int)))
      (if (0 : Int) ≤ (2 : Int) ∧ (2 : Int) ≤ v36 ∧ v36 ≤ ((List.length z35.2 : Nat) : Int) then (if (0 : Int) ≤ (2 : Int) ∧ (2 : Int) ≤ ((List.length z35.2 : Nat) : Int) ∧ ((List.length z35.2 : Nat) : Int) ≤ ((List.length z35.2 : Nat) : Int) then ((f103 (List.take ((Int.toNat ((List.length z35.2 : Nat) : Int)) - 2) (List.drop 2 z35.2))).bind fun r37 =>
      (cond (r37.1.1 != (0 : Int))
      (k ((((0 : Int), ([], ())), ([], ((12 : Int), ()))), ()))
      ((f76 (List.take ((Int.toNat v36) - 2) (List.drop 2 z35.2))).bind fun r38 =>
       (k (((v4, (r38.1.1, ())), (z35.1, ((0 : Int), ()))), ()))))) else none) else none)))) y33)) else none))) y8)) else none)))))) else none))
noncomputable def f107 (a0 : List Int) : Option (((Int × (List Int × Unit)) × List Int × Int × Unit) × (Unit)) := f107_k a0 some
noncomputable def f107_sm : Sm := ⟨[.ro (.slc (.int .i64))], [((.pair (.int .i64) (.pair (.slc (.int .u8)) .unit)), (.pair .ro (.pair (.own .ro) .ro))), ((.slc (.int .i64)), .ro), ((.int .i64), .ro)], fun x => f107 x.1⟩
theorem f107_m (x : ArgT [.ro (.slc (.int .i64))]) : codeS f107_fx f107_code (start [.ro (.slc (.int .i64))] [] x 144) (finK env [.cell 2 61, .tmp 3, .tmp 4] [.ro (.slc (.int .i64))] [((.pair (.int .i64) (.pair (.slc (.int .u8)) .unit)), (.pair .ro (.pair (.own .ro) .ro))), ((.slc (.int .i64)), .ro), ((.int .i64), .ro)]) = f107_k x.1 (fun r => some (r, [])) := by kernel_rfl
theorem f107_n {R : Type} (a0 : List Int) (k : ((Int × (List Int × Unit)) × List Int × Int × Unit) × (Unit) → Option R) : f107_k a0 k = (f107 a0).bind k := by
  simp only [f107, f107_k, cond_bind, ite_bind, bind_bind, some_bind, none_bind, elim_bind]
theorem f107_f : FnOk Try.prog 107 := ⟨Try.f107, Try.func107, by kernel_rfl, by kernel_rfl⟩
theorem f107_ok : SmOk Try.prog 107 f107_sm :=
  sum_of (c := f107_fx) (fn := Try.f107) (code := f107_code) (sm := f107_sm) mixed (env_ok env_envB) (TabsOk.all ⟨⟨f139_ok, f139_f⟩, ⟨f103_ok, f103_f⟩, ⟨f76_ok, f76_f⟩, trivial⟩) Try.func107 (by kernel_rfl)
   ((LoopsOk.of (l := [f107_l5_b, f107_l13_b, f107_l21_b, f107_l24_b]) (by kernel_rfl) ⟨node_is (by kernel_rfl) f107_l5_ok, node_is (by kernel_rfl) f107_l13_ok, node_is (by kernel_rfl) f107_l21_ok, node_is (by kernel_rfl) f107_l24_ok, trivial⟩))
   (no_tails (by kernel_rfl))
   (fun ks x hl => by
    have hk : ks = [] := List.length_eq_zero_iff.1 hl
    subst hk
    exact (f107_m x).trans (f107_n _ _))
/-! bakelite/bakeref2.Untaped -/
noncomputable def f46_code : Code := (Try.f46.body).getD .skip
noncomputable def f46_l5_sk : SkS := ⟨[.con (.slc (.int .i64)), .undef, .undef, .undef, .undef, .undef, .ref 111 [], .undef, .undef, .undef, .undef, .undef, .undef, .undef, .undef, .undef, .undef, .undef, .undef, .undef, .undef, .undef, .undef, .undef, .undef, .undef, .undef, .undef, .undef, .undef, .undef, .undef, .undef, .undef, .undef, .undef, .undef, .undef, .undef, .undef], [(111, ⟨none, (.slc (.pair (.int .i64) (.pair (.slc (.int .u8)) .unit))), (.own .ro)⟩)]⟩
noncomputable def f46_l5_o0 : SkS := ⟨[.undef, .undef, .ref 47 [], .con (.int .i64), .con (.int .i64), .undef, .undef, .undef, .undef, .undef, .undef, .undef, .undef, .undef, .undef, .undef, .undef, .undef, .undef, .undef, .undef, .undef, .undef, .undef, .undef, .undef, .undef, .undef, .undef, .undef, .undef, .undef, .undef, .undef, .undef, .undef, .undef, .undef, .undef, .undef], [(47, ⟨none, (.slc (.pair (.int .i64) (.pair (.slc (.int .u8)) .unit))), (.own .ro)⟩)]⟩
noncomputable def f46_l5_o1 : SkS := ⟨[.undef, .undef, .undef, .undef, .undef, .undef, .ref 111 [], .undef, .undef, .undef, .undef, .undef, .undef, .undef, .undef, .undef, .undef, .undef, .undef, .undef, .undef, .undef, .undef, .undef, .undef, .undef, .undef, .undef, .undef, .undef, .undef, .undef, .undef, .undef, .undef, .undef, .undef, .undef, .undef, .undef], [(111, ⟨none, (.slc (.pair (.int .i64) (.pair (.slc (.int .u8)) .unit))), (.own .ro)⟩)]⟩
noncomputable def f46_l5_outs : List Way := [⟨.ret, [(2, 47, (.pair (.int .i64) (.pair (.slc (.int .u8)) .unit)), .ro)], f46_l5_o0⟩, ⟨(.exit 0), [], f46_l5_o1⟩]
abbrev f46_l5_C := Unit
abbrev f46_l5_X := (List Int × List (Int × (List Int × Unit)))
abbrev f46_l5_Y := ((Int × Int × List (Int × (List Int × Unit)))) ⊕ (List (Int × (List Int × Unit)))
noncomputable def f46_l5_con (t : f46_l5_sk.T) : f46_l5_C := ()
noncomputable def f46_l5_get (t : f46_l5_sk.T) : f46_l5_X := (t.1.1, t.2.1.1)
noncomputable def f46_l5_put (c : f46_l5_C) (x : f46_l5_X) : f46_l5_sk.T := ((x.1, ((), ((), ((), ((), ((), ((), ((), ((), ((), ((), ((), ((), ((), ((), ((), ((), ((), ((), ((), ((), ((), ((), ((), ((), ((), ((), ((), ((), ((), ((), ((), ((), ((), ((), ((), ((), ((), ((), ((), ())))))))))))))))))))))))))))))))))))))))), ((x.2, ()), ()))
theorem f46_l5_pg (t : f46_l5_sk.T) : f46_l5_put (f46_l5_con t) (f46_l5_get t) = t := by kernel_rfl
noncomputable def f46_l5_w0 (c : f46_l5_C) (y : (Int × Int × List (Int × (List Int × Unit)))) : f46_l5_o0.T := (((), ((), ((), (y.1, (y.2.1, ((), ((), ((), ((), ((), ((), ((), ((), ((), ((), ((), ((), ((), ((), ((), ((), ((), ((), ((), ((), ((), ((), ((), ((), ((), ((), ((), ((), ((), ((), ((), ((), ((), ((), ((), ())))))))))))))))))))))))))))))))))))))))), ((y.2.2, ()), ()))
noncomputable def f46_l5_w1 (c : f46_l5_C) (y : List (Int × (List Int × Unit))) : f46_l5_o1.T := (((), ((), ((), ((), ((), ((), ((), ((), ((), ((), ((), ((), ((), ((), ((), ((), ((), ((), ((), ((), ((), ((), ((), ((), ((), ((), ((), ((), ((), ((), ((), ((), ((), ((), ((), ((), ((), ((), ((), ((), ())))))))))))))))))))))))))))))))))))))))), ((y, ()), ()))
noncomputable def f46_l5_out (c : f46_l5_C) (y : f46_l5_Y) : OutV f46_l5_outs := (Sum.elim (fun y => (.inl (f46_l5_w0 c y))) (fun y => (.inr (.inl (f46_l5_w1 c y))))) y
noncomputable def f46_l5_k {R : Type} (a0 : List Int) (a1 : List (Int × (List Int × Unit))) (kin : f46_l5_X → Option R) (k0 : (Int × Int × List (Int × (List Int × Unit))) → Option R) (k1 : List (Int × (List Int × Unit)) → Option R) : Option R :=
 (cond (decide (((List.length a0 : Nat) : Int) > (0 : Int)))
 ((f107 a0).bind fun r1 =>
  (cond (r1.1.2.2.1 != (0 : Int))
  (cond (decide (((List.length a1 : Nat) : Int) > (8 : Int)))
   (k0 ((0 : Int), (2 : Int), []))
   (k0 (r1.1.2.2.1, (0 : Int), a1)))
  (if (List.length a1 + 1) * 32 ≤ most ∧ 0 < 32 ∧ 0 < 2 then (let r2 : List (Int × (List Int × Unit)) := (a1 ++ [r1.1.1])
   (kin (r1.1.2.1, r2))) else none)))
 (k1 a1))
noncomputable def f46_l5_g (x : f46_l5_X) : Option (f46_l5_X ⊕ f46_l5_Y) := f46_l5_k x.1 x.2 (fun x => some (.inl x)) (fun y => some (.inr (.inl y))) (fun y => some (.inr (.inr y)))
noncomputable def f46_l5 (x : f46_l5_X) : Option f46_l5_Y := loopO (f46_l5_g) x
noncomputable def f46_l5_nd : Node := { nils := [(6, 111, (.pair (.int .i64) (.pair (.slc (.int .u8)) .unit)), .ro)], sk := f46_l5_sk, outs := f46_l5_outs, Y := f46_l5_Y, L := fun t => f46_l5 (f46_l5_get t), out := fun t y => f46_l5_out (f46_l5_con t) y, disp := fun t y K => (Sum.elim (fun y => K .ret (f46_l5_o0.fill (f46_l5_w0 (f46_l5_con t) y))) (fun y => K (.exit 0) (f46_l5_o1.fill (f46_l5_w1 (f46_l5_con t) y)))) y }
noncomputable def f46_fx : Fx := { E := env, T := [(106, f106_sm), (107, f107_sm)], H := [], O := [], nodes := [((true, 5), f46_l5_nd)] }
noncomputable def f46_l5_b : Code := (loops f46_code).getD 0 .skip
theorem f46_l5_r (c : f46_l5_C) (x : f46_l5_X) : roundS f46_fx f46_l5_b f46_l5_nd (f46_l5_put c x) = f46_l5_k x.1 x.2 (fun x => some (.inl (f46_l5_put c x))) (fun y => some (.inr (.inl (f46_l5_w0 c y)))) (fun y => some (.inr (.inr (.inl (f46_l5_w1 c y))))) := by kernel_rfl
theorem f46_l5_n {R : Type} (a0 : List Int) (a1 : List (Int × (List Int × Unit))) (kin : f46_l5_X → Option R) (k0 : (Int × Int × List (Int × (List Int × Unit))) → Option R) (k1 : List (Int × (List Int × Unit)) → Option R) : f46_l5_k a0 a1 kin k0 k1 = (f46_l5_g (a0, a1)).bind (Sum.elim kin (Sum.elim k0 k1)) := by
  simp only [f46_l5_g, f46_l5_k, cond_bind, ite_bind, bind_bind, some_bind, none_bind, elim_bind, Sum.elim_inl, Sum.elim_inr]
theorem f46_l5_ok : LoopOk f46_fx f46_l5_b f46_l5_nd := loop_ok f46_l5_con f46_l5_get f46_l5_put f46_l5_pg (fun c => f46_l5_g) f46_l5_out (fun t y => rfl) (by intro R t y K; rcases y with y | y <;> rfl) (fun c x => by
  refine (f46_l5_r c x).trans ((f46_l5_n _ _ _ _ _).trans ?_)
  first
  | rfl
  | congr 1
    funext s
    rcases s with s | s | s <;> rfl) (fun t => rfl)
noncomputable def f46_k {R : Type} (a0 : List Int) (k : (List (Int × (List Int × Unit)) × Int × Int × Unit) × (Unit) → Option R) : Option R :=
 ((f106 a0).bind fun r0 =>
 (cond (r0.1.1 != (0 : Int))
 (k (([], ((0 : Int), (r0.1.1, ()))), ()))
 ((f46_l5 (a0, [])).bind fun y3 =>
  ((Sum.elim (fun z4 =>
  (k ((z4.2.2, (z4.1, (z4.2.1, ()))), ())))
  (fun z5 =>
  (cond (decide (((List.length z5 : Nat) : Int) > (8 : Int)))
   (k (([], ((0 : Int), ((2 : Int), ()))), ()))
   (k ((z5, ((0 : Int), ((0 : Int), ()))), ()))))) y3))))
noncomputable def f46 (a0 : List Int) : Option ((List (Int × (List Int × Unit)) × Int × Int × Unit) × (Unit)) := f46_k a0 some
noncomputable def f46_sm : Sm := ⟨[.ro (.slc (.int .i64))], [((.slc (.pair (.int .i64) (.pair (.slc (.int .u8)) .unit))), (.own .ro)), ((.int .i64), .ro), ((.int .i64), .ro)], fun x => f46 x.1⟩
theorem f46_m (x : ArgT [.ro (.slc (.int .i64))]) : codeS f46_fx f46_code (start [.ro (.slc (.int .i64))] [] x 40) (finK env [.tmp 2, .tmp 3, .tmp 4] [.ro (.slc (.int .i64))] [((.slc (.pair (.int .i64) (.pair (.slc (.int .u8)) .unit))), (.own .ro)), ((.int .i64), .ro), ((.int .i64), .ro)]) = f46_k x.1 (fun r => some (r, [])) := by kernel_rfl
theorem f46_n {R : Type} (a0 : List Int) (k : (List (Int × (List Int × Unit)) × Int × Int × Unit) × (Unit) → Option R) : f46_k a0 k = (f46 a0).bind k := by
  simp only [f46, f46_k, cond_bind, ite_bind, bind_bind, some_bind, none_bind, elim_bind]
theorem f46_f : FnOk Try.prog 46 := ⟨Try.f46, Try.func46, by kernel_rfl, by kernel_rfl⟩
theorem f46_ok : SmOk Try.prog 46 f46_sm :=
  sum_of (c := f46_fx) (fn := Try.f46) (code := f46_code) (sm := f46_sm) mixed (env_ok env_envB) (TabsOk.all ⟨⟨f106_ok, f106_f⟩, ⟨f107_ok, f107_f⟩, trivial⟩) Try.func46 (by kernel_rfl)
   ((LoopsOk.of (l := [f46_l5_b]) (by kernel_rfl) ⟨node_is (by kernel_rfl) f46_l5_ok, trivial⟩))
   (no_tails (by kernel_rfl))
   (fun ks x hl => by
    have hk : ks = [] := List.length_eq_zero_iff.1 hl
    subst hk
    exact (f46_m x).trans (f46_n _ _))
/-! slices.Equal[[]byte,byte] -/
noncomputable def f24_code : Code := (Try.f24.body).getD .skip
noncomputable def f24_l4_sk : SkS := ⟨[.con (.slc (.int .u8)), .con (.slc (.int .u8)), .undef, .undef, .undef, .undef, .undef, .undef, .undef, .undef, .undef, .undef, .con (.int .i64), .con (.int .i64), .undef, .undef, .undef, .undef, .undef, .undef, .undef, .undef, .undef, .undef, .undef, .undef], []⟩
noncomputable def f24_l4_o0 : SkS := ⟨[.undef, .undef, .undef, .undef, .con .bool, .undef, .undef, .undef, .undef, .undef, .undef, .undef, .undef, .undef, .undef, .undef, .undef, .undef, .undef, .undef, .undef, .undef, .undef, .undef, .undef, .undef], []⟩
noncomputable def f24_l4_o1 : SkS := ⟨[.undef, .undef, .undef, .undef, .undef, .undef, .undef, .undef, .undef, .undef, .undef, .undef, .undef, .undef, .undef, .undef, .undef, .undef, .undef, .undef, .undef, .undef, .undef, .undef, .undef, .undef], []⟩
noncomputable def f24_l4_outs : List Way := [⟨.ret, [], f24_l4_o0⟩, ⟨(.exit 0), [], f24_l4_o1⟩]
abbrev f24_l4_C := (List Int × List Int × Int)
abbrev f24_l4_X := Int
abbrev f24_l4_Y := (Unit) ⊕ (Unit)
noncomputable def f24_l4_con (t : f24_l4_sk.T) : f24_l4_C := (t.1.1, t.1.2.1, t.1.2.2.2.2.2.2.2.2.2.2.2.2.1)
noncomputable def f24_l4_get (t : f24_l4_sk.T) : f24_l4_X := t.1.2.2.2.2.2.2.2.2.2.2.2.2.2.1
noncomputable def f24_l4_put (c : f24_l4_C) (x : f24_l4_X) : f24_l4_sk.T := ((c.1, (c.2.1, ((), ((), ((), ((), ((), ((), ((), ((), ((), ((), (c.2.2, (x, ((), ((), ((), ((), ((), ((), ((), ((), ((), ((), ((), ((), ())))))))))))))))))))))))))), ())
theorem f24_l4_pg (t : f24_l4_sk.T) : f24_l4_put (f24_l4_con t) (f24_l4_get t) = t := by kernel_rfl
noncomputable def f24_l4_w0 (c : f24_l4_C) (y : Unit) : f24_l4_o0.T := (((), ((), ((), ((), (false, ((), ((), ((), ((), ((), ((), ((), ((), ((), ((), ((), ((), ((), ((), ((), ((), ((), ((), ((), ((), ((), ())))))))))))))))))))))))))), ())
noncomputable def f24_l4_w1 (c : f24_l4_C) (y : Unit) : f24_l4_o1.T := (((), ((), ((), ((), ((), ((), ((), ((), ((), ((), ((), ((), ((), ((), ((), ((), ((), ((), ((), ((), ((), ((), ((), ((), ((), ((), ())))))))))))))))))))))))))), ())
noncomputable def f24_l4_out (c : f24_l4_C) (y : f24_l4_Y) : OutV f24_l4_outs := (Sum.elim (fun y => (.inl (f24_l4_w0 c y))) (fun y => (.inr (.inl (f24_l4_w1 c y))))) y
noncomputable def f24_l4_k {R : Type} (a0 : List Int) (a1 : List Int) (a2 : Int) (a3 : Int) (kin : f24_l4_X → Option R) (k0 : Unit → Option R) (k1 : Unit → Option R) : Option R :=
 (cond (decide (a3 < a2))
 (if (0 : Int) ≤ a3 ∧ a3 < ((List.length a0 : Nat) : Int) then (if (0 : Int) ≤ a3 ∧ a3 < ((List.length a1 : Nat) : Int) then (cond ((List.getD a0 (Int.toNat a3) (0 : Int)) != (List.getD a1 (Int.toNat a3) (0 : Int)))
  (k0 ())
  (let v0 : Int := (IntKind.i64.wrap (a3 + (1 : Int)))
   (kin v0))) else none) else none)
 (k1 ()))
noncomputable def f24_l4_g (a0 : List Int) (a1 : List Int) (a2 : Int) (x : f24_l4_X) : Option (f24_l4_X ⊕ f24_l4_Y) := f24_l4_k a0 a1 a2 x (fun x => some (.inl x)) (fun y => some (.inr (.inl y))) (fun y => some (.inr (.inr y)))
noncomputable def f24_l4 (a0 : List Int) (a1 : List Int) (a2 : Int) (x : f24_l4_X) : Option f24_l4_Y := loopO (f24_l4_g a0 a1 a2) x
noncomputable def f24_l4_nd : Node := { nils := [], sk := f24_l4_sk, outs := f24_l4_outs, Y := f24_l4_Y, L := fun t => f24_l4 ((f24_l4_con t).1) ((f24_l4_con t).2.1) ((f24_l4_con t).2.2) (f24_l4_get t), out := fun t y => f24_l4_out (f24_l4_con t) y, disp := fun t y K => (Sum.elim (fun y => K .ret (f24_l4_o0.fill (f24_l4_w0 (f24_l4_con t) y))) (fun y => K (.exit 0) (f24_l4_o1.fill (f24_l4_w1 (f24_l4_con t) y)))) y }
noncomputable def f24_fx : Fx := { E := env, T := [], H := [], O := [], nodes := [((true, 4), f24_l4_nd)] }
noncomputable def f24_l4_b : Code := (loops f24_code).getD 0 .skip
theorem f24_l4_r (c : f24_l4_C) (x : f24_l4_X) : roundS f24_fx f24_l4_b f24_l4_nd (f24_l4_put c x) = f24_l4_k c.1 c.2.1 c.2.2 x (fun x => some (.inl (f24_l4_put c x))) (fun y => some (.inr (.inl (f24_l4_w0 c y)))) (fun y => some (.inr (.inr (.inl (f24_l4_w1 c y))))) := by kernel_rfl
theorem f24_l4_n {R : Type} (a0 : List Int) (a1 : List Int) (a2 : Int) (a3 : Int) (kin : f24_l4_X → Option R) (k0 : Unit → Option R) (k1 : Unit → Option R) : f24_l4_k a0 a1 a2 a3 kin k0 k1 = (f24_l4_g a0 a1 a2 a3).bind (Sum.elim kin (Sum.elim k0 k1)) := by
  simp only [f24_l4_g, f24_l4_k, cond_bind, ite_bind, bind_bind, some_bind, none_bind, elim_bind, Sum.elim_inl, Sum.elim_inr]
theorem f24_l4_ok : LoopOk f24_fx f24_l4_b f24_l4_nd := loop_ok f24_l4_con f24_l4_get f24_l4_put f24_l4_pg (fun c => f24_l4_g c.1 c.2.1 c.2.2) f24_l4_out (fun t y => rfl) (by intro R t y K; rcases y with y | y <;> rfl) (fun c x => by
  refine (f24_l4_r c x).trans ((f24_l4_n _ _ _ _ _ _ _).trans ?_)
  first
  | rfl
  | congr 1
    funext s
    rcases s with s | s | s <;> rfl) (fun t => rfl)
noncomputable def f24_k {R : Type} (a0 : List Int) (a1 : List Int) (k : (Bool × Unit) × (Unit) → Option R) : Option R :=
 (cond (((List.length a0 : Nat) : Int) != ((List.length a1 : Nat) : Int))
 (k ((false, ()), ()))
 ((f24_l4 a0 a1 ((List.length a0 : Nat) : Int) (0 : Int)).bind fun y1 =>
  ((Sum.elim (fun z2 =>
  (k ((false, ()), ())))
  (fun z3 =>
  (k ((true, ()), ())))) y1)))
noncomputable def f24 (a0 : List Int) (a1 : List Int) : Option ((Bool × Unit) × (Unit)) := f24_k a0 a1 some
noncomputable def f24_sm : Sm := ⟨[.ro (.slc (.int .u8)), .ro (.slc (.int .u8))], [(.bool, .ro)], fun x => f24 x.1 x.2.1⟩
theorem f24_m (x : ArgT [.ro (.slc (.int .u8)), .ro (.slc (.int .u8))]) : codeS f24_fx f24_code (start [.ro (.slc (.int .u8)), .ro (.slc (.int .u8))] [] x 26) (finK env [.tmp 4] [.ro (.slc (.int .u8)), .ro (.slc (.int .u8))] [(.bool, .ro)]) = f24_k x.1 x.2.1 (fun r => some (r, [])) := by kernel_rfl
theorem f24_n {R : Type} (a0 : List Int) (a1 : List Int) (k : (Bool × Unit) × (Unit) → Option R) : f24_k a0 a1 k = (f24 a0 a1).bind k := by
  simp only [f24, f24_k, cond_bind, ite_bind, bind_bind, some_bind, none_bind, elim_bind]
theorem f24_f : FnOk Try.prog 24 := ⟨Try.f24, Try.func24, by kernel_rfl, by kernel_rfl⟩
theorem f24_ok : SmOk Try.prog 24 f24_sm :=
  sum_of (c := f24_fx) (fn := Try.f24) (code := f24_code) (sm := f24_sm) mixed (env_ok env_envB) (TabsOk.all trivial) Try.func24 (by kernel_rfl)
   ((LoopsOk.of (l := [f24_l4_b]) (by kernel_rfl) ⟨node_is (by kernel_rfl) f24_l4_ok, trivial⟩))
   (no_tails (by kernel_rfl))
   (fun ks x hl => by
    have hk : ks = [] := List.length_eq_zero_iff.1 hl
    subst hk
    exact (f24_m x).trans (f24_n _ _ _))
/-! bakelite/bakelaw2.TapeWrites$1 -/
noncomputable def f48_code : Code := (Try.f48.body).getD .skip
noncomputable def f48_fx : Fx := { E := env, T := [(24, f24_sm)], H := [], O := [], nodes := [] }
noncomputable def f48_k {R : Type} (a0 : (Int × (List Int × Unit))) (a1 : (Int × (List Int × Unit))) (k : (Bool × Unit) × (Unit) → Option R) : Option R :=
 (cond (a0.1 == a1.1)
 ((f24 a0.2.1 a1.2.1).bind fun r0 =>
  (k ((r0.1.1, ()), ())))
 (k ((false, ()), ())))
noncomputable def f48 (a0 : (Int × (List Int × Unit))) (a1 : (Int × (List Int × Unit))) : Option ((Bool × Unit) × (Unit)) := f48_k a0 a1 some
noncomputable def f48_sm : Sm := ⟨[.ro (.pair (.int .i64) (.pair (.slc (.int .u8)) .unit)), .ro (.pair (.int .i64) (.pair (.slc (.int .u8)) .unit))], [(.bool, .ro)], fun x => f48 x.1 x.2.1⟩
theorem f48_m (x : ArgT [.ro (.pair (.int .i64) (.pair (.slc (.int .u8)) .unit)), .ro (.pair (.int .i64) (.pair (.slc (.int .u8)) .unit))]) : codeS f48_fx f48_code (start [.ro (.pair (.int .i64) (.pair (.slc (.int .u8)) .unit)), .ro (.pair (.int .i64) (.pair (.slc (.int .u8)) .unit))] [] x 17) (finK env [.tmp 4] [.ro (.pair (.int .i64) (.pair (.slc (.int .u8)) .unit)), .ro (.pair (.int .i64) (.pair (.slc (.int .u8)) .unit))] [(.bool, .ro)]) = f48_k x.1 x.2.1 (fun r => some (r, [])) := by kernel_rfl
theorem f48_n {R : Type} (a0 : (Int × (List Int × Unit))) (a1 : (Int × (List Int × Unit))) (k : (Bool × Unit) × (Unit) → Option R) : f48_k a0 a1 k = (f48 a0 a1).bind k := by
  simp only [f48, f48_k, cond_bind, ite_bind, bind_bind, some_bind, none_bind, elim_bind]
theorem f48_f : FnOk Try.prog 48 := ⟨Try.f48, Try.func48, by kernel_rfl, by kernel_rfl⟩
theorem f48_ok : SmOk Try.prog 48 f48_sm :=
  sum_of (c := f48_fx) (fn := Try.f48) (code := f48_code) (sm := f48_sm) mixed (env_ok env_envB) (TabsOk.all ⟨⟨f24_ok, f24_f⟩, trivial⟩) Try.func48 (by kernel_rfl)
   ((LoopsOk.of (l := []) (by kernel_rfl) trivial))
   (no_tails (by kernel_rfl))
   (fun ks x hl => by
    have hk : ks = [] := List.length_eq_zero_iff.1 hl
    subst hk
    exact (f48_m x).trans (f48_n _ _ _))
/-! slices.EqualFunc[[]bakelite/tape.Block,[]bakelite/tape.Block,bakelite/tape.Block,bakelite/tape.Block] -/
noncomputable def f47_code : Code := (Try.f47.body).getD .skip
noncomputable def f47_l4_sk : SkS := ⟨[.undef, .con (.slc (.pair (.int .i64) (.pair (.slc (.int .u8)) .unit))), .fn 48 (.tnil), .undef, .undef, .undef, .undef, .undef, .undef, .undef, .undef, .undef, .undef, .undef, .undef, .con (.slc (.pair (.int .i64) (.pair (.slc (.int .u8)) .unit))), .con (.int .i64), .con (.int .i64), .undef, .undef, .undef, .undef, .undef, .undef, .undef, .undef, .undef, .undef, .undef, .undef, .undef, .undef], []⟩
noncomputable def f47_l4_o0 : SkS := ⟨[.undef, .undef, .undef, .undef, .undef, .undef, .con .bool, .undef, .undef, .undef, .undef, .undef, .undef, .undef, .undef, .undef, .undef, .undef, .undef, .undef, .undef, .undef, .undef, .undef, .undef, .undef, .undef, .undef, .undef, .undef, .undef, .undef], []⟩
noncomputable def f47_l4_o1 : SkS := ⟨[.undef, .undef, .undef, .undef, .undef, .undef, .undef, .undef, .undef, .undef, .undef, .undef, .undef, .undef, .undef, .undef, .undef, .undef, .undef, .undef, .undef, .undef, .undef, .undef, .undef, .undef, .undef, .undef, .undef, .undef, .undef, .undef], []⟩
noncomputable def f47_l4_outs : List Way := [⟨.ret, [], f47_l4_o0⟩, ⟨(.exit 0), [], f47_l4_o1⟩]
abbrev f47_l4_C := (List (Int × (List Int × Unit)) × List (Int × (List Int × Unit)) × Int)
abbrev f47_l4_X := Int
abbrev f47_l4_Y := (Unit) ⊕ (Unit)
noncomputable def f47_l4_con (t : f47_l4_sk.T) : f47_l4_C := (t.1.2.1, t.1.2.2.2.2.2.2.2.2.2.2.2.2.2.2.2.1, t.1.2.2.2.2.2.2.2.2.2.2.2.2.2.2.2.2.1)
noncomputable def f47_l4_get (t : f47_l4_sk.T) : f47_l4_X := t.1.2.2.2.2.2.2.2.2.2.2.2.2.2.2.2.2.2.1
noncomputable def f47_l4_put (c : f47_l4_C) (x : f47_l4_X) : f47_l4_sk.T := (((), (c.1, ((), ((), ((), ((), ((), ((), ((), ((), ((), ((), ((), ((), ((), (c.2.1, (c.2.2, (x, ((), ((), ((), ((), ((), ((), ((), ((), ((), ((), ((), ((), ((), ((), ())))))))))))))))))))))))))))))))), ())
theorem f47_l4_pg (t : f47_l4_sk.T) : f47_l4_put (f47_l4_con t) (f47_l4_get t) = t := by kernel_rfl
noncomputable def f47_l4_w0 (c : f47_l4_C) (y : Unit) : f47_l4_o0.T := (((), ((), ((), ((), ((), ((), (false, ((), ((), ((), ((), ((), ((), ((), ((), ((), ((), ((), ((), ((), ((), ((), ((), ((), ((), ((), ((), ((), ((), ((), ((), ((), ())))))))))))))))))))))))))))))))), ())
noncomputable def f47_l4_w1 (c : f47_l4_C) (y : Unit) : f47_l4_o1.T := (((), ((), ((), ((), ((), ((), ((), ((), ((), ((), ((), ((), ((), ((), ((), ((), ((), ((), ((), ((), ((), ((), ((), ((), ((), ((), ((), ((), ((), ((), ((), ((), ())))))))))))))))))))))))))))))))), ())
noncomputable def f47_l4_out (c : f47_l4_C) (y : f47_l4_Y) : OutV f47_l4_outs := (Sum.elim (fun y => (.inl (f47_l4_w0 c y))) (fun y => (.inr (.inl (f47_l4_w1 c y))))) y
noncomputable def f47_l4_k {R : Type} (a0 : List (Int × (List Int × Unit))) (a1 : List (Int × (List Int × Unit))) (a2 : Int) (a3 : Int) (kin : f47_l4_X → Option R) (k0 : Unit → Option R) (k1 : Unit → Option R) : Option R :=
 (cond (decide (a3 < a2))
 (if (0 : Int) ≤ a3 ∧ a3 < ((List.length a1 : Nat) : Int) then (if (0 : Int) ≤ a3 ∧ a3 < ((List.length a0 : Nat) : Int) then ((f48 (List.getD a1 (Int.toNat a3) ((0 : Int), (([] : List Int), ()))) (List.getD a0 (Int.toNat a3) ((0 : Int), (([] : List Int), ())))).bind fun r0 =>
  (cond (!r0.1.1)
  (k0 ())
  (let v1 : Int := (IntKind.i64.wrap (a3 + (1 : Int)))
   (kin v1)))) else none) else none)
 (k1 ()))
noncomputable def f47_l4_g (a0 : List (Int × (List Int × Unit))) (a1 : List (Int × (List Int × Unit))) (a2 : Int) (x : f47_l4_X) : Option (f47_l4_X ⊕ f47_l4_Y) := f47_l4_k a0 a1 a2 x (fun x => some (.inl x)) (fun y => some (.inr (.inl y))) (fun y => some (.inr (.inr y)))
noncomputable def f47_l4 (a0 : List (Int × (List Int × Unit))) (a1 : List (Int × (List Int × Unit))) (a2 : Int) (x : f47_l4_X) : Option f47_l4_Y := loopO (f47_l4_g a0 a1 a2) x
noncomputable def f47_l4_nd : Node := { nils := [], sk := f47_l4_sk, outs := f47_l4_outs, Y := f47_l4_Y, L := fun t => f47_l4 ((f47_l4_con t).1) ((f47_l4_con t).2.1) ((f47_l4_con t).2.2) (f47_l4_get t), out := fun t y => f47_l4_out (f47_l4_con t) y, disp := fun t y K => (Sum.elim (fun y => K .ret (f47_l4_o0.fill (f47_l4_w0 (f47_l4_con t) y))) (fun y => K (.exit 0) (f47_l4_o1.fill (f47_l4_w1 (f47_l4_con t) y)))) y }
noncomputable def f47_fx : Fx := { E := env, T := [(48, f48_sm)], H := [], O := [], nodes := [((true, 4), f47_l4_nd)] }
noncomputable def f47_l4_b : Code := (loops f47_code).getD 0 .skip
theorem f47_l4_r (c : f47_l4_C) (x : f47_l4_X) : roundS f47_fx f47_l4_b f47_l4_nd (f47_l4_put c x) = f47_l4_k c.1 c.2.1 c.2.2 x (fun x => some (.inl (f47_l4_put c x))) (fun y => some (.inr (.inl (f47_l4_w0 c y)))) (fun y => some (.inr (.inr (.inl (f47_l4_w1 c y))))) := by kernel_rfl
theorem f47_l4_n {R : Type} (a0 : List (Int × (List Int × Unit))) (a1 : List (Int × (List Int × Unit))) (a2 : Int) (a3 : Int) (kin : f47_l4_X → Option R) (k0 : Unit → Option R) (k1 : Unit → Option R) : f47_l4_k a0 a1 a2 a3 kin k0 k1 = (f47_l4_g a0 a1 a2 a3).bind (Sum.elim kin (Sum.elim k0 k1)) := by
  simp only [f47_l4_g, f47_l4_k, cond_bind, ite_bind, bind_bind, some_bind, none_bind, elim_bind, Sum.elim_inl, Sum.elim_inr]
theorem f47_l4_ok : LoopOk f47_fx f47_l4_b f47_l4_nd := loop_ok f47_l4_con f47_l4_get f47_l4_put f47_l4_pg (fun c => f47_l4_g c.1 c.2.1 c.2.2) f47_l4_out (fun t y => rfl) (by intro R t y K; rcases y with y | y <;> rfl) (fun c x => by
  refine (f47_l4_r c x).trans ((f47_l4_n _ _ _ _ _ _ _).trans ?_)
  first
  | rfl
  | congr 1
    funext s
    rcases s with s | s | s <;> rfl) (fun t => rfl)
noncomputable def f47_k {R : Type} (a0 : List (Int × (List Int × Unit))) (a1 : List (Int × (List Int × Unit))) (a2 : (Unit)) (k : (Bool × Unit) × (Unit) → Option R) : Option R :=
 (cond (((List.length a0 : Nat) : Int) != ((List.length a1 : Nat) : Int))
 (k ((false, ()), ()))
 ((f47_l4 a1 a0 ((List.length a0 : Nat) : Int) (0 : Int)).bind fun y2 =>
  ((Sum.elim (fun z3 =>
  (k ((false, ()), ())))
  (fun z4 =>
  (k ((true, ()), ())))) y2)))
noncomputable def f47 (a0 : List (Int × (List Int × Unit))) (a1 : List (Int × (List Int × Unit))) (a2 : (Unit)) : Option ((Bool × Unit) × (Unit)) := f47_k a0 a1 a2 some
noncomputable def f47_sm : Sm := ⟨[.ro (.slc (.pair (.int .i64) (.pair (.slc (.int .u8)) .unit))), .ro (.slc (.pair (.int .i64) (.pair (.slc (.int .u8)) .unit))), .fn 48 []], [(.bool, .ro)], fun x => f47 x.1 x.2.1 x.2.2.1⟩
theorem f47_m (x : ArgT [.ro (.slc (.pair (.int .i64) (.pair (.slc (.int .u8)) .unit))), .ro (.slc (.pair (.int .i64) (.pair (.slc (.int .u8)) .unit))), .fn 48 []]) : codeS f47_fx f47_code (start [.ro (.slc (.pair (.int .i64) (.pair (.slc (.int .u8)) .unit))), .ro (.slc (.pair (.int .i64) (.pair (.slc (.int .u8)) .unit))), .fn 48 []] [] x 32) (finK env [.tmp 6] [.ro (.slc (.pair (.int .i64) (.pair (.slc (.int .u8)) .unit))), .ro (.slc (.pair (.int .i64) (.pair (.slc (.int .u8)) .unit))), .fn 48 []] [(.bool, .ro)]) = f47_k x.1 x.2.1 x.2.2.1 (fun r => some (r, [])) := by kernel_rfl
theorem f47_n {R : Type} (a0 : List (Int × (List Int × Unit))) (a1 : List (Int × (List Int × Unit))) (a2 : (Unit)) (k : (Bool × Unit) × (Unit) → Option R) : f47_k a0 a1 a2 k = (f47 a0 a1 a2).bind k := by
  simp only [f47, f47_k, cond_bind, ite_bind, bind_bind, some_bind, none_bind, elim_bind]
theorem f47_f : FnOk Try.prog 47 := ⟨Try.f47, Try.func47, by kernel_rfl, by kernel_rfl⟩
theorem f47_ok : SmOk Try.prog 47 f47_sm :=
  sum_of (c := f47_fx) (fn := Try.f47) (code := f47_code) (sm := f47_sm) mixed (env_ok env_envB) (TabsOk.all ⟨⟨f48_ok, f48_f⟩, trivial⟩) Try.func47 (by kernel_rfl)
   ((LoopsOk.of (l := [f47_l4_b]) (by kernel_rfl) ⟨node_is (by kernel_rfl) f47_l4_ok, trivial⟩))
   (no_tails (by kernel_rfl))
   (fun ks x hl => by
    have hk : ks = [] := List.length_eq_zero_iff.1 hl
    subst hk
    exact (f47_m x).trans (f47_n _ _ _ _))
/-! bakelite/bakelaw2.TapeWrites -/
noncomputable def f7_code : Code := (Try.f7.body).getD .skip
noncomputable def f7_fx : Fx := { E := env, T := [(41, f41_sm), (42, f42_sm), (43, f43_sm), (44, f44_sm), (33, f33_sm), (45, f45_sm), (46, f46_sm), (47, f47_sm)], H := [], O := [], nodes := [] }
noncomputable def f7_k {R : Type} (a0 : List (Int × (List Int × Unit))) (a1 : List Int) (k : (Bool × Unit) × (Unit) → Option R) : Option R :=
 ((f41 [((4 : Int), ([], ()))]).bind fun r0 =>
 (cond (r0.1.2.1 != (0 : Int))
 (k ((false, ()), ()))
 (cond (((List.length r0.1.1 : Nat) : Int) != (65 : Int))
  (k ((false, ()), ()))
  ((f42 a0).bind fun r1 =>
   ((f41 a0).bind fun r2 =>
   ((f43 a0).bind fun r3 =>
   (cond (r3.1.1 != r1.1.1)
   (k ((false, ()), ()))
   (cond (r2.1.2.1 != r1.1.1)
    (k ((false, ()), ()))
    (cond (r1.1.1 != (0 : Int))
     (cond (decide (((List.length r2.1.1 : Nat) : Int) > (0 : Int)))
      (k ((false, ()), ()))
      (cond (r1.1.1 == (0 : Int))
       ((f44 a0).bind fun r4 =>
        ((f33 r2.1.1 r4.1.1).bind fun r5 =>
        (cond (!r5.1.1)
        (k ((false, ()), ()))
        ((f45 a1).bind fun r6 =>
         ((f46 a1).bind fun r7 =>
         (cond (r6.1.2.1 == r7.1.2.1)
         (cond (r6.1.2.2.1 == r7.1.2.2.1)
          ((f47 r6.1.1 r7.1.1 ()).bind fun r8 =>
           (k ((r8.1.1, ()), ())))
          (k ((false, ()), ())))
         (k ((false, ()), ()))))))))
       ((f45 a1).bind fun r9 =>
        ((f46 a1).bind fun r10 =>
        (cond (r9.1.2.1 == r10.1.2.1)
        (cond (r9.1.2.2.1 == r10.1.2.2.1)
         ((f47 r9.1.1 r10.1.1 ()).bind fun r11 =>
          (k ((r11.1.1, ()), ())))
         (k ((false, ()), ())))
        (k ((false, ()), ())))))))
     (cond (r1.1.1 == (0 : Int))
      ((f44 a0).bind fun r12 =>
       ((f33 r2.1.1 r12.1.1).bind fun r13 =>
       (cond (!r13.1.1)
       (k ((false, ()), ()))
       ((f45 a1).bind fun r14 =>
        ((f46 a1).bind fun r15 =>
        (cond (r14.1.2.1 == r15.1.2.1)
        (cond (r14.1.2.2.1 == r15.1.2.2.1)
         ((f47 r14.1.1 r15.1.1 ()).bind fun r16 =>
          (k ((r16.1.1, ()), ())))
         (k ((false, ()), ())))
        (k ((false, ()), ()))))))))
      ((f45 a1).bind fun r17 =>
       ((f46 a1).bind fun r18 =>
       (cond (r17.1.2.1 == r18.1.2.1)
       (cond (r17.1.2.2.1 == r18.1.2.2.1)
        ((f47 r17.1.1 r18.1.1 ()).bind fun r19 =>
         (k ((r19.1.1, ()), ())))
        (k ((false, ()), ())))
       (k ((false, ()), ())))))))))))))))
noncomputable def f7 (a0 : List (Int × (List Int × Unit))) (a1 : List Int) : Option ((Bool × Unit) × (Unit)) := f7_k a0 a1 some
noncomputable def f7_sm : Sm := ⟨[.ro (.slc (.pair (.int .i64) (.pair (.slc (.int .u8)) .unit))), .ro (.slc (.int .i64))], [(.bool, .ro)], fun x => f7 x.1 x.2.1⟩
theorem f7_m (x : ArgT [.ro (.slc (.pair (.int .i64) (.pair (.slc (.int .u8)) .unit))), .ro (.slc (.int .i64))]) : codeS f7_fx f7_code (start [.ro (.slc (.pair (.int .i64) (.pair (.slc (.int .u8)) .unit))), .ro (.slc (.int .i64))] [] x 90) (finK env [.tmp 4] [.ro (.slc (.pair (.int .i64) (.pair (.slc (.int .u8)) .unit))), .ro (.slc (.int .i64))] [(.bool, .ro)]) = f7_k x.1 x.2.1 (fun r => some (r, [])) := by kernel_rfl
theorem f7_n {R : Type} (a0 : List (Int × (List Int × Unit))) (a1 : List Int) (k : (Bool × Unit) × (Unit) → Option R) : f7_k a0 a1 k = (f7 a0 a1).bind k := by
  simp only [f7, f7_k, cond_bind, ite_bind, bind_bind, some_bind, none_bind, elim_bind]
theorem f7_f : FnOk Try.prog 7 := ⟨Try.f7, Try.func7, by kernel_rfl, by kernel_rfl⟩
theorem f7_ok : SmOk Try.prog 7 f7_sm :=
  sum_of (c := f7_fx) (fn := Try.f7) (code := f7_code) (sm := f7_sm) mixed (env_ok env_envB) (TabsOk.all ⟨⟨f41_ok, f41_f⟩, ⟨f42_ok, f42_f⟩, ⟨f43_ok, f43_f⟩, ⟨f44_ok, f44_f⟩, ⟨f33_ok, f33_f⟩, ⟨f45_ok, f45_f⟩, ⟨f46_ok, f46_f⟩, ⟨f47_ok, f47_f⟩, trivial⟩) Try.func7 (by kernel_rfl)
   ((LoopsOk.of (l := []) (by kernel_rfl) trivial))
   (no_tails (by kernel_rfl))
   (fun ks x hl => by
    have hk : ks = [] := List.length_eq_zero_iff.1 hl
    subst hk
    exact (f7_m x).trans (f7_n _ _ _))
end Go.Proofs.Ytlgbhaigpecdoaa.V
