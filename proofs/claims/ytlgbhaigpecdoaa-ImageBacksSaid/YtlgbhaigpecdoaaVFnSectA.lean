/- Printed. -/
import Derived.Test.YtlgbhaigpecdoaaVFnMfm
set_option linter.unusedVariables false
set_option linter.unusedSimpArgs false
set_option maxRecDepth 100000
namespace Go.Proofs.Ytlgbhaigpecdoaa.V
open Go
noncomputable def f157_code : Code := (Try.f157.body).getD .skip
noncomputable def f157_l3_sk : SkS := ⟨9, [(0, .con (.int .i64)), (10, .con (.int .i64))], []⟩
noncomputable def f157_l3_o0 : SkS := ⟨20, [(0, .con (.int .i64))], []⟩
noncomputable def f157_l3_outs : List Way := [⟨(.exit 0), [], f157_l3_o0⟩]
abbrev f157_l3_C := Unit
abbrev f157_l3_X := (Int × Int)
abbrev f157_l3_Y := (Int)
noncomputable def f157_l3_con (t : f157_l3_sk.T) : f157_l3_C := ()
noncomputable def f157_l3_get (t : f157_l3_sk.T) : f157_l3_X := (t.1.1, t.1.2.1)
noncomputable def f157_l3_put (c : f157_l3_C) (x : f157_l3_X) : f157_l3_sk.T := ((x.1, (x.2, ())), ())
theorem f157_l3_pg (t : f157_l3_sk.T) : f157_l3_put (f157_l3_con t) (f157_l3_get t) = t := by kernel_rfl
noncomputable def f157_l3_w0 (c : f157_l3_C) (y : Int) : f157_l3_o0.T := ((y, ()), ())
noncomputable def f157_l3_out (c : f157_l3_C) (y : f157_l3_Y) : OutV f157_l3_outs := (fun y => (.inl (f157_l3_w0 c y))) y
noncomputable def f157_l3_k {R : Type} (a0 : Int) (a1 : Int) (kin : f157_l3_X → Option R) (k0 : Int → Option R) : Option R :=
 (cond (decide (a1 < (8 : Int)))
 (let v3 : Int := (IntKind.i64.wrap (a0 * 2 ^ (min 1 64)))
  (cond (decide (v3 > (65535 : Int)))
  (let v4 : Int := (bitop IntKind.i64 .xor v3 (69665 : Int))
   (let v5 : Int := (IntKind.i64.wrap (a1 + (1 : Int)))
   (kin (v4, v5))))
  (let v6 : Int := (IntKind.i64.wrap (a1 + (1 : Int)))
   (kin (v3, v6)))))
 (k0 a0))
noncomputable def f157_l3_g (x : f157_l3_X) : Option (f157_l3_X ⊕ f157_l3_Y) := f157_l3_k x.1 x.2 (fun x => some (.inl x)) (fun y => some (.inr y))
noncomputable def f157_l3 (x : f157_l3_X) : Option f157_l3_Y := loopO (f157_l3_g) x
noncomputable def f157_l3_nd : Node := { nils := [], sk := f157_l3_sk, outs := f157_l3_outs, Y := f157_l3_Y, L := fun t => f157_l3 (f157_l3_get t), out := fun t y => f157_l3_out (f157_l3_con t) y, disp := fun t y K => (fun y => K (.exit 0) (f157_l3_o0.fill (f157_l3_w0 (f157_l3_con t) y))) y }
noncomputable def f157_fx : Fx := { E := env, T := [], H := [], O := [], nodes := [((true, 3), f157_l3_nd)] }
noncomputable def f157_l3_b : Code := (loops f157_code).getD 0 .skip
theorem f157_l3_r (c : f157_l3_C) (x : f157_l3_X) : roundS f157_fx f157_l3_b f157_l3_nd (f157_l3_put c x) = f157_l3_k x.1 x.2 (fun x => some (.inl (f157_l3_put c x))) (fun y => some (.inr (.inl (f157_l3_w0 c y)))) := by kernel_rfl
theorem f157_l3_n {R : Type} (a0 : Int) (a1 : Int) (kin : f157_l3_X → Option R) (k0 : Int → Option R) : f157_l3_k a0 a1 kin k0 = (f157_l3_g (a0, a1)).bind (Sum.elim kin k0) := by
  simp only [f157_l3_g, f157_l3_k, cond_bind, ite_bind, bind_bind, some_bind, none_bind, elim_bind, Sum.elim_inl, Sum.elim_inr]
theorem f157_l3_ok : LoopOk f157_fx f157_l3_b f157_l3_nd := loop_ok f157_l3_con f157_l3_get f157_l3_put f157_l3_pg (fun c => f157_l3_g) f157_l3_out (fun t y => rfl) (fun t y K => rfl) (fun c x => by
  refine (f157_l3_r c x).trans ((f157_l3_n _ _ _ _).trans ?_)
  first
  | rfl
  | congr 1
    funext s
    rcases s with s | s <;> rfl) (fun t => rfl)
noncomputable def f157_k {R : Type} (a0 : Int) (a1 : Int) (k : (Int × Unit) × (Unit) → Option R) : Option R :=
 (let v0 : Int := (bitop IntKind.i64 .and a0 (65535 : Int))
 (let v1 : Int := (IntKind.i64.wrap ((IntKind.i64.wrap a1) * 2 ^ (min 8 64)))
 (let v2 : Int := (bitop IntKind.i64 .xor v0 v1)
 ((f157_l3 (v2, (0 : Int))).bind fun y7 =>
 (k ((y7, ()), ()))))))
noncomputable def f157 (a0 : Int) (a1 : Int) : Option ((Int × Unit) × (Unit)) := f157_k a0 a1 some
noncomputable def f157_sm : Sm := ⟨[.ro (.int .i64), .ro (.int .u8)], [((.int .i64), .ro)], fun x => f157 x.1 x.2.1⟩
theorem f157_m (x : ArgT [.ro (.int .i64), .ro (.int .u8)]) : codeS f157_fx f157_code (start [.ro (.int .i64), .ro (.int .u8)] [] x 21) (finK env [.tmp 4] [.ro (.int .i64), .ro (.int .u8)] [((.int .i64), .ro)]) = f157_k x.1 x.2.1 (fun r => some (r, [])) := by kernel_rfl
theorem f157_n {R : Type} (a0 : Int) (a1 : Int) (k : (Int × Unit) × (Unit) → Option R) : f157_k a0 a1 k = (f157 a0 a1).bind k := by
  simp only [f157, f157_k, cond_bind, ite_bind, bind_bind, some_bind, none_bind, elim_bind]
theorem f157_ok : SmOk Try.prog 157 f157_sm :=
  sum_of (c := f157_fx) (fn := Try.f157) (code := f157_code) (sm := f157_sm) mixed (env_ok env_envB) (TabsOk.all trivial) Try.func157 (by kernel_rfl)
   ((LoopsOk.of (l := [f157_l3_b]) (by kernel_rfl) ⟨node_is (by kernel_rfl) f157_l3_ok, trivial⟩))
   (no_tails (by kernel_rfl))
   (fun ks x hl => by
    have hk : ks = [] := List.length_eq_zero_iff.1 hl
    subst hk
    exact (f157_m x).trans (f157_n _ _ _))
theorem f157_c : CalOk Try.prog 157 f157_sm := .inl ⟨f157_ok, ⟨Try.f157, Try.func157, by kernel_rfl, by kernel_rfl⟩⟩
noncomputable def f141_code : Code := (Try.f141.body).getD .skip
noncomputable def f141_l3_sk : SkS := ⟨8, [(3, .con (.int .i64)), (2, .con (.slc (.int .u8))), (0, .con (.int .i64)), (0, .con (.int .i64))], []⟩
noncomputable def f141_l3_o0 : SkS := ⟨13, [(3, .con (.int .i64))], []⟩
noncomputable def f141_l3_outs : List Way := [⟨(.exit 0), [], f141_l3_o0⟩]
abbrev f141_l3_C := (List Int × Int)
abbrev f141_l3_X := (Int × Int)
abbrev f141_l3_Y := (Int)
noncomputable def f141_l3_con (t : f141_l3_sk.T) : f141_l3_C := (t.1.2.1, t.1.2.2.1)
noncomputable def f141_l3_get (t : f141_l3_sk.T) : f141_l3_X := (t.1.1, t.1.2.2.2.1)
noncomputable def f141_l3_put (c : f141_l3_C) (x : f141_l3_X) : f141_l3_sk.T := ((x.1, (c.1, (c.2, (x.2, ())))), ())
theorem f141_l3_pg (t : f141_l3_sk.T) : f141_l3_put (f141_l3_con t) (f141_l3_get t) = t := by kernel_rfl
noncomputable def f141_l3_w0 (c : f141_l3_C) (y : Int) : f141_l3_o0.T := ((y, ()), ())
noncomputable def f141_l3_out (c : f141_l3_C) (y : f141_l3_Y) : OutV f141_l3_outs := (fun y => (.inl (f141_l3_w0 c y))) y
noncomputable def f141_l3_k {R : Type} (a0 : Int) (a1 : List Int) (a2 : Int) (a3 : Int) (kin : f141_l3_X → Option R) (k0 : Int → Option R) : Option R :=
 (cond (decide (a3 < a2))
 (if (0 : Int) ≤ a3 ∧ a3 < ((List.length a1 : Nat) : Int) then ((f157 a0 (List.getD a1 (Int.toNat a3) (0 : Int))).bind fun r0 =>
  (let v1 : Int := (IntKind.i64.wrap (a3 + (1 : Int)))
  (kin (r0.1.1, v1)))) else none)
 (k0 a0))
noncomputable def f141_l3_g (a1 : List Int) (a2 : Int) (x : f141_l3_X) : Option (f141_l3_X ⊕ f141_l3_Y) := f141_l3_k x.1 a1 a2 x.2 (fun x => some (.inl x)) (fun y => some (.inr y))
noncomputable def f141_l3 (a1 : List Int) (a2 : Int) (x : f141_l3_X) : Option f141_l3_Y := loopO (f141_l3_g a1 a2) x
noncomputable def f141_l3_nd : Node := { nils := [], sk := f141_l3_sk, outs := f141_l3_outs, Y := f141_l3_Y, L := fun t => f141_l3 ((f141_l3_con t).1) ((f141_l3_con t).2) (f141_l3_get t), out := fun t y => f141_l3_out (f141_l3_con t) y, disp := fun t y K => (fun y => K (.exit 0) (f141_l3_o0.fill (f141_l3_w0 (f141_l3_con t) y))) y }
noncomputable def f141_fx : Fx := { E := env, T := [(157, f157_sm)], H := [], O := [], nodes := [((true, 3), f141_l3_nd)] }
noncomputable def f141_l3_b : Code := (loops f141_code).getD 0 .skip
theorem f141_l3_r (c : f141_l3_C) (x : f141_l3_X) : roundS f141_fx f141_l3_b f141_l3_nd (f141_l3_put c x) = f141_l3_k x.1 c.1 c.2 x.2 (fun x => some (.inl (f141_l3_put c x))) (fun y => some (.inr (.inl (f141_l3_w0 c y)))) := by kernel_rfl
theorem f141_l3_n {R : Type} (a0 : Int) (a1 : List Int) (a2 : Int) (a3 : Int) (kin : f141_l3_X → Option R) (k0 : Int → Option R) : f141_l3_k a0 a1 a2 a3 kin k0 = (f141_l3_g a1 a2 (a0, a3)).bind (Sum.elim kin k0) := by
  simp only [f141_l3_g, f141_l3_k, cond_bind, ite_bind, bind_bind, some_bind, none_bind, elim_bind, Sum.elim_inl, Sum.elim_inr]
theorem f141_l3_ok : LoopOk f141_fx f141_l3_b f141_l3_nd := loop_ok f141_l3_con f141_l3_get f141_l3_put f141_l3_pg (fun c => f141_l3_g c.1 c.2) f141_l3_out (fun t y => rfl) (fun t y K => rfl) (fun c x => by
  refine (f141_l3_r c x).trans ((f141_l3_n _ _ _ _ _ _).trans ?_)
  first
  | rfl
  | congr 1
    funext s
    rcases s with s | s <;> rfl) (fun t => rfl)
noncomputable def f141_k {R : Type} (a0 : List Int) (k : (Int × Unit) × (Unit) → Option R) : Option R :=
 ((f141_l3 a0 ((List.length a0 : Nat) : Int) ((65535 : Int), (0 : Int))).bind fun y2 =>
 (k ((y2, ()), ())))
noncomputable def f141 (a0 : List Int) : Option ((Int × Unit) × (Unit)) := f141_k a0 some
noncomputable def f141_sm : Sm := ⟨[.ro (.slc (.int .u8))], [((.int .i64), .ro)], fun x => f141 x.1⟩
theorem f141_m (x : ArgT [.ro (.slc (.int .u8))]) : codeS f141_fx f141_code (start [.ro (.slc (.int .u8))] [] x 17) (finK env [.tmp 2] [.ro (.slc (.int .u8))] [((.int .i64), .ro)]) = f141_k x.1 (fun r => some (r, [])) := by kernel_rfl
theorem f141_n {R : Type} (a0 : List Int) (k : (Int × Unit) × (Unit) → Option R) : f141_k a0 k = (f141 a0).bind k := by
  simp only [f141, f141_k, cond_bind, ite_bind, bind_bind, some_bind, none_bind, elim_bind]
theorem f141_ok : SmOk Try.prog 141 f141_sm :=
  sum_of (c := f141_fx) (fn := Try.f141) (code := f141_code) (sm := f141_sm) mixed (env_ok env_envB) (TabsOk.all ⟨f157_c, trivial⟩) Try.func141 (by kernel_rfl)
   ((LoopsOk.of (l := [f141_l3_b]) (by kernel_rfl) ⟨node_is (by kernel_rfl) f141_l3_ok, trivial⟩))
   (no_tails (by kernel_rfl))
   (fun ks x hl => by
    have hk : ks = [] := List.length_eq_zero_iff.1 hl
    subst hk
    exact (f141_m x).trans (f141_n _ _))
theorem f141_c : CalOk Try.prog 141 f141_sm := .inl ⟨f141_ok, ⟨Try.f141, Try.func141, by kernel_rfl, by kernel_rfl⟩⟩
noncomputable def f140_code : Code := (Try.f140.body).getD .skip
noncomputable def f140_l6_sk : SkS := ⟨25, [(5, .con (.int .i64)), (1, .con (.int .u8)), (0, .con (.int .i64)), (4, .con (.slc (.int .u8))), (0, .con (.int .i64)), (0, .con (.int .i64))], []⟩
noncomputable def f140_l6_o0 : SkS := ⟨25, [(5, .con (.int .i64)), (7, .con (.slc (.int .u8))), (0, .con (.int .i64)), (0, .con (.int .i64))], []⟩
noncomputable def f140_l6_outs : List Way := [⟨(.exit 2), [], f140_l6_o0⟩]
abbrev f140_l6_C := (Int × List Int × Int × Int)
abbrev f140_l6_X := (Int × Int)
abbrev f140_l6_Y := (Int)
noncomputable def f140_l6_con (t : f140_l6_sk.T) : f140_l6_C := (t.1.2.1, t.1.2.2.2.1, t.1.2.2.2.2.1, t.1.2.2.2.2.2.1)
noncomputable def f140_l6_get (t : f140_l6_sk.T) : f140_l6_X := (t.1.1, t.1.2.2.1)
noncomputable def f140_l6_put (c : f140_l6_C) (x : f140_l6_X) : f140_l6_sk.T := ((x.1, (c.1, (x.2, (c.2.1, (c.2.2.1, (c.2.2.2, ())))))), ())
theorem f140_l6_pg (t : f140_l6_sk.T) : f140_l6_put (f140_l6_con t) (f140_l6_get t) = t := by kernel_rfl
noncomputable def f140_l6_w0 (c : f140_l6_C) (y : Int) : f140_l6_o0.T := ((y, (c.2.1, (c.2.2.1, (c.2.2.2, ())))), ())
noncomputable def f140_l6_out (c : f140_l6_C) (y : f140_l6_Y) : OutV f140_l6_outs := (fun y => (.inl (f140_l6_w0 c y))) y
noncomputable def f140_l6_k {R : Type} (a0 : Int) (a1 : Int) (a2 : Int) (a3 : List Int) (a4 : Int) (a5 : Int) (kin : f140_l6_X → Option R) (k0 : Int → Option R) : Option R :=
 (cond (decide (a2 ≥ (0 : Int)))
 (if a2 < 0 then none else (let v1 : Int := (Int.fdiv a1 (2 ^ (min (Int.toNat a2) 8)))
  (let v2 : Int := (bitop IntKind.i64 .and (IntKind.i64.wrap v1) (1 : Int))
  (let v3 : Int := (Int.fdiv a0 (2 ^ (min 15 64)))
  (let v4 : Int := (bitop IntKind.i64 .and v3 (1 : Int))
  (let v5 : Int := (IntKind.i64.wrap (a0 * 2 ^ (min 1 64)))
  (let v6 : Int := (bitop IntKind.i64 .and v5 (65535 : Int))
  (cond (v4 != v2)
  (let v7 : Int := (bitop IntKind.i64 .xor v6 (4129 : Int))
   (let v8 : Int := (IntKind.i64.wrap (a2 - (1 : Int)))
   (kin (v7, v8))))
  (let v9 : Int := (IntKind.i64.wrap (a2 - (1 : Int)))
   (kin (v6, v9)))))))))))
 (k0 a0))
noncomputable def f140_l6_g (a1 : Int) (a3 : List Int) (a4 : Int) (a5 : Int) (x : f140_l6_X) : Option (f140_l6_X ⊕ f140_l6_Y) := f140_l6_k x.1 a1 x.2 a3 a4 a5 (fun x => some (.inl x)) (fun y => some (.inr y))
noncomputable def f140_l6 (a1 : Int) (a3 : List Int) (a4 : Int) (a5 : Int) (x : f140_l6_X) : Option f140_l6_Y := loopO (f140_l6_g a1 a3 a4 a5) x
noncomputable def f140_l6_nd : Node := { nils := [], sk := f140_l6_sk, outs := f140_l6_outs, Y := f140_l6_Y, L := fun t => f140_l6 ((f140_l6_con t).1) ((f140_l6_con t).2.1) ((f140_l6_con t).2.2.1) ((f140_l6_con t).2.2.2) (f140_l6_get t), out := fun t y => f140_l6_out (f140_l6_con t) y, disp := fun t y K => (fun y => K (.exit 2) (f140_l6_o0.fill (f140_l6_w0 (f140_l6_con t) y))) y }
noncomputable def f140_l3_sk : SkS := ⟨25, [(5, .con (.int .i64)), (7, .con (.slc (.int .u8))), (0, .con (.int .i64)), (0, .con (.int .i64))], []⟩
noncomputable def f140_l3_o0 : SkS := ⟨35, [(5, .con (.int .i64))], []⟩
noncomputable def f140_l3_outs : List Way := [⟨(.exit 0), [], f140_l3_o0⟩]
abbrev f140_l3_C := (List Int × Int)
abbrev f140_l3_X := (Int × Int)
abbrev f140_l3_Y := (Int)
noncomputable def f140_l3_con (t : f140_l3_sk.T) : f140_l3_C := (t.1.2.1, t.1.2.2.1)
noncomputable def f140_l3_get (t : f140_l3_sk.T) : f140_l3_X := (t.1.1, t.1.2.2.2.1)
noncomputable def f140_l3_put (c : f140_l3_C) (x : f140_l3_X) : f140_l3_sk.T := ((x.1, (c.1, (c.2, (x.2, ())))), ())
theorem f140_l3_pg (t : f140_l3_sk.T) : f140_l3_put (f140_l3_con t) (f140_l3_get t) = t := by kernel_rfl
noncomputable def f140_l3_w0 (c : f140_l3_C) (y : Int) : f140_l3_o0.T := ((y, ()), ())
noncomputable def f140_l3_out (c : f140_l3_C) (y : f140_l3_Y) : OutV f140_l3_outs := (fun y => (.inl (f140_l3_w0 c y))) y
noncomputable def f140_l3_k {R : Type} (a0 : Int) (a1 : List Int) (a2 : Int) (a3 : Int) (kin : f140_l3_X → Option R) (k0 : Int → Option R) : Option R :=
 (cond (decide (a3 < a2))
 (if (0 : Int) ≤ a3 ∧ a3 < ((List.length a1 : Nat) : Int) then ((f140_l6 (List.getD a1 (Int.toNat a3) (0 : Int)) a1 a2 a3 (a0, (7 : Int))).bind fun y10 =>
  (let v11 : Int := (IntKind.i64.wrap (a3 + (1 : Int)))
  (kin (y10, v11)))) else none)
 (k0 a0))
noncomputable def f140_l3_g (a1 : List Int) (a2 : Int) (x : f140_l3_X) : Option (f140_l3_X ⊕ f140_l3_Y) := f140_l3_k x.1 a1 a2 x.2 (fun x => some (.inl x)) (fun y => some (.inr y))
noncomputable def f140_l3 (a1 : List Int) (a2 : Int) (x : f140_l3_X) : Option f140_l3_Y := loopO (f140_l3_g a1 a2) x
noncomputable def f140_l3_nd : Node := { nils := [], sk := f140_l3_sk, outs := f140_l3_outs, Y := f140_l3_Y, L := fun t => f140_l3 ((f140_l3_con t).1) ((f140_l3_con t).2) (f140_l3_get t), out := fun t y => f140_l3_out (f140_l3_con t) y, disp := fun t y K => (fun y => K (.exit 0) (f140_l3_o0.fill (f140_l3_w0 (f140_l3_con t) y))) y }
noncomputable def f140_fx : Fx := { E := env, T := [], H := [], O := [], nodes := [((true, 6), f140_l6_nd), ((true, 3), f140_l3_nd)] }
noncomputable def f140_l6_b : Code := (loops f140_code).getD 1 .skip
theorem f140_l6_r (c : f140_l6_C) (x : f140_l6_X) : roundS f140_fx f140_l6_b f140_l6_nd (f140_l6_put c x) = f140_l6_k x.1 c.1 x.2 c.2.1 c.2.2.1 c.2.2.2 (fun x => some (.inl (f140_l6_put c x))) (fun y => some (.inr (.inl (f140_l6_w0 c y)))) := by kernel_rfl
theorem f140_l6_n {R : Type} (a0 : Int) (a1 : Int) (a2 : Int) (a3 : List Int) (a4 : Int) (a5 : Int) (kin : f140_l6_X → Option R) (k0 : Int → Option R) : f140_l6_k a0 a1 a2 a3 a4 a5 kin k0 = (f140_l6_g a1 a3 a4 a5 (a0, a2)).bind (Sum.elim kin k0) := by
  simp only [f140_l6_g, f140_l6_k, cond_bind, ite_bind, bind_bind, some_bind, none_bind, elim_bind, Sum.elim_inl, Sum.elim_inr]
theorem f140_l6_ok : LoopOk f140_fx f140_l6_b f140_l6_nd := loop_ok f140_l6_con f140_l6_get f140_l6_put f140_l6_pg (fun c => f140_l6_g c.1 c.2.1 c.2.2.1 c.2.2.2) f140_l6_out (fun t y => rfl) (fun t y K => rfl) (fun c x => by
  refine (f140_l6_r c x).trans ((f140_l6_n _ _ _ _ _ _ _ _).trans ?_)
  first
  | rfl
  | congr 1
    funext s
    rcases s with s | s <;> rfl) (fun t => rfl)
noncomputable def f140_l3_b : Code := (loops f140_code).getD 0 .skip
theorem f140_l3_r (c : f140_l3_C) (x : f140_l3_X) : roundS f140_fx f140_l3_b f140_l3_nd (f140_l3_put c x) = f140_l3_k x.1 c.1 c.2 x.2 (fun x => some (.inl (f140_l3_put c x))) (fun y => some (.inr (.inl (f140_l3_w0 c y)))) := by kernel_rfl
theorem f140_l3_n {R : Type} (a0 : Int) (a1 : List Int) (a2 : Int) (a3 : Int) (kin : f140_l3_X → Option R) (k0 : Int → Option R) : f140_l3_k a0 a1 a2 a3 kin k0 = (f140_l3_g a1 a2 (a0, a3)).bind (Sum.elim kin k0) := by
  simp only [f140_l3_g, f140_l3_k, cond_bind, ite_bind, bind_bind, some_bind, none_bind, elim_bind, Sum.elim_inl, Sum.elim_inr]
theorem f140_l3_ok : LoopOk f140_fx f140_l3_b f140_l3_nd := loop_ok f140_l3_con f140_l3_get f140_l3_put f140_l3_pg (fun c => f140_l3_g c.1 c.2) f140_l3_out (fun t y => rfl) (fun t y K => rfl) (fun c x => by
  refine (f140_l3_r c x).trans ((f140_l3_n _ _ _ _ _ _).trans ?_)
  first
  | rfl
  | congr 1
    funext s
    rcases s with s | s <;> rfl) (fun t => rfl)
noncomputable def f140_k {R : Type} (a0 : Int) (a1 : List Int) (k : (Int × Unit) × (Unit) → Option R) : Option R :=
 (let v0 : Int := (bitop IntKind.i64 .and a0 (65535 : Int))
 ((f140_l3 a1 ((List.length a1 : Nat) : Int) (v0, (0 : Int))).bind fun y12 =>
 (k ((y12, ()), ()))))
noncomputable def f140 (a0 : Int) (a1 : List Int) : Option ((Int × Unit) × (Unit)) := f140_k a0 a1 some
noncomputable def f140_sm : Sm := ⟨[.ro (.int .i64), .ro (.slc (.int .u8))], [((.int .i64), .ro)], fun x => f140 x.1 x.2.1⟩
theorem f140_m (x : ArgT [.ro (.int .i64), .ro (.slc (.int .u8))]) : codeS f140_fx f140_code (start [.ro (.int .i64), .ro (.slc (.int .u8))] [] x 41) (finK env [.tmp 4] [.ro (.int .i64), .ro (.slc (.int .u8))] [((.int .i64), .ro)]) = f140_k x.1 x.2.1 (fun r => some (r, [])) := by kernel_rfl
theorem f140_n {R : Type} (a0 : Int) (a1 : List Int) (k : (Int × Unit) × (Unit) → Option R) : f140_k a0 a1 k = (f140 a0 a1).bind k := by
  simp only [f140, f140_k, cond_bind, ite_bind, bind_bind, some_bind, none_bind, elim_bind]
theorem f140_ok : SmOk Try.prog 140 f140_sm :=
  sum_of (c := f140_fx) (fn := Try.f140) (code := f140_code) (sm := f140_sm) mixed (env_ok env_envB) (TabsOk.all trivial) Try.func140 (by kernel_rfl)
   ((LoopsOk.of (l := [f140_l3_b, f140_l6_b]) (by kernel_rfl) ⟨node_is (by kernel_rfl) f140_l3_ok, node_is (by kernel_rfl) f140_l6_ok, trivial⟩))
   (no_tails (by kernel_rfl))
   (fun ks x hl => by
    have hk : ks = [] := List.length_eq_zero_iff.1 hl
    subst hk
    exact (f140_m x).trans (f140_n _ _ _))
theorem f140_c : CalOk Try.prog 140 f140_sm := .inl ⟨f140_ok, ⟨Try.f140, Try.func140, by kernel_rfl, by kernel_rfl⟩⟩
noncomputable def f76_code : Code := (Try.f76.body).getD .skip
noncomputable def f76_fx : Fx := { E := env, T := [], H := [], O := [], nodes := [] }
noncomputable def f76_k {R : Type} (a0 : List Int) (k : (List Int × Unit) × (Unit) → Option R) : Option R :=
 (nilT (List.isEmpty a0)
 (k (([], ()), ()))
 (if (0 + List.length a0) * 1 ≤ most ∧ 0 < 1 ∧ 0 < 1 then (let r0 : List Int := ([] ++ a0)
  (k ((r0, ()), ()))) else none))
noncomputable def f76 (a0 : List Int) : Option ((List Int × Unit) × (Unit)) := f76_k a0 some
noncomputable def f76_sm : Sm := ⟨[.ro (.slc (.int .u8))], [((.slc (.int .u8)), (.own .ro))], fun x => f76 x.1⟩
theorem f76_m (x : ArgT [.ro (.slc (.int .u8))]) : codeS f76_fx f76_code (start [.ro (.slc (.int .u8))] [] x 8) (finK env [.tmp 2] [.ro (.slc (.int .u8))] [((.slc (.int .u8)), (.own .ro))]) = f76_k x.1 (fun r => some (r, [])) := by kernel_rfl
theorem f76_n {R : Type} (a0 : List Int) (k : (List Int × Unit) × (Unit) → Option R) : f76_k a0 k = (f76 a0).bind k := by
  simp only [f76, f76_k, cond_bind, ite_bind, bind_bind, some_bind, none_bind, elim_bind]
  rcases a0 with _ | ⟨x, l⟩ <;> simp [nilT, ite_bind, most]
theorem f76_ok : SmOk Try.prog 76 f76_sm :=
  sum_of (c := f76_fx) (fn := Try.f76) (code := f76_code) (sm := f76_sm) mixed (env_ok env_envB) (TabsOk.all trivial) Try.func76 (by kernel_rfl)
   ((LoopsOk.of (l := []) (by kernel_rfl) trivial))
   (no_tails (by kernel_rfl))
   (fun ks x hl => by
    have hk : ks = [] := List.length_eq_zero_iff.1 hl
    subst hk
    exact (f76_m x).trans (f76_n _ _))
theorem f76_c : CalOk Try.prog 76 f76_sm := .inl ⟨f76_ok, ⟨Try.f76, Try.func76, by kernel_rfl, by kernel_rfl⟩⟩
noncomputable def f109_code : Code := (Try.f109.body).getD .skip
noncomputable def f109_fx : Fx := { E := env, T := [(140, f140_sm), (76, f76_sm)], H := [], O := [], nodes := [] }
noncomputable def f109_k {R : Type} (a0 : List Int) (k : (List Int × Unit) × (Unit) → Option R) : Option R :=
 ((f140 (65535 : Int) a0).bind fun r0 =>
 ((f76 a0).bind fun r1 =>
 (let v2 : Int := (IntKind.i64.wrap (Int.tdiv r0.1.1 (256 : Int)))
 (let v3 : Int := (Int.tmod r0.1.1 (256 : Int))
 (if (List.length r1.1.1 + 2) * 1 ≤ most ∧ 0 < 1 ∧ 0 < 1 then (let r4 : List Int := (r1.1.1 ++ [(IntKind.u8.wrap v2), (IntKind.u8.wrap v3)])
 (k ((r4, ()), ()))) else none)))))
noncomputable def f109 (a0 : List Int) : Option ((List Int × Unit) × (Unit)) := f109_k a0 some
noncomputable def f109_sm : Sm := ⟨[.ro (.slc (.int .u8))], [((.slc (.int .u8)), (.own .ro))], fun x => f109 x.1⟩
theorem f109_m (x : ArgT [.ro (.slc (.int .u8))]) : codeS f109_fx f109_code (start [.ro (.slc (.int .u8))] [] x 16) (finK env [.tmp 2] [.ro (.slc (.int .u8))] [((.slc (.int .u8)), (.own .ro))]) = f109_k x.1 (fun r => some (r, [])) := by kernel_rfl
theorem f109_n {R : Type} (a0 : List Int) (k : (List Int × Unit) × (Unit) → Option R) : f109_k a0 k = (f109 a0).bind k := by
  simp only [f109, f109_k, cond_bind, ite_bind, bind_bind, some_bind, none_bind, elim_bind]
theorem f109_ok : SmOk Try.prog 109 f109_sm :=
  sum_of (c := f109_fx) (fn := Try.f109) (code := f109_code) (sm := f109_sm) mixed (env_ok env_envB) (TabsOk.all ⟨f140_c, f76_c, trivial⟩) Try.func109 (by kernel_rfl)
   ((LoopsOk.of (l := []) (by kernel_rfl) trivial))
   (no_tails (by kernel_rfl))
   (fun ks x hl => by
    have hk : ks = [] := List.length_eq_zero_iff.1 hl
    subst hk
    exact (f109_m x).trans (f109_n _ _))
theorem f109_c : CalOk Try.prog 109 f109_sm := .inl ⟨f109_ok, ⟨Try.f109, Try.func109, by kernel_rfl, by kernel_rfl⟩⟩
end Go.Proofs.Ytlgbhaigpecdoaa.V
