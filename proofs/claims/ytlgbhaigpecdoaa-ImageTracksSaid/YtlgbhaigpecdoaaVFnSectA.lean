/- Printed. -/
import Derived.Test.YtlgbhaigpecdoaaVFnMfm
set_option linter.unusedVariables false
set_option linter.unusedSimpArgs false
set_option maxRecDepth 100000
namespace Go.Proofs.Ytlgbhaigpecdoaa.V
open Go
/-! bakelite/sect.Check -/
noncomputable def f58_code : Code := (Try.f58.body).getD .skip
noncomputable def f58_l6_sk : SkS := ⟨26, [(16, .con (.slc (.pair (.int .i64) (.pair (.int .i64) (.pair (.slc (.int .u8)) (.pair .bool .unit)))))), (0, .con (.int .i64)), (0, .con (.int .i64))], []⟩
noncomputable def f58_l6_o0 : SkS := ⟨40, [(4, .con (.int .i64))], []⟩
noncomputable def f58_l6_o1 : SkS := ⟨45, [], []⟩
noncomputable def f58_l6_outs : List Way := [⟨.ret, [], f58_l6_o0⟩, ⟨(.exit 0), [], f58_l6_o1⟩]
abbrev f58_l6_C := (List (Int × (Int × (List Int × (Bool × Unit)))) × Int)
abbrev f58_l6_X := Int
abbrev f58_l6_Y := (Int) ⊕ (Unit)
noncomputable def f58_l6_con (t : f58_l6_sk.T) : f58_l6_C := (t.1.1, t.1.2.1)
noncomputable def f58_l6_get (t : f58_l6_sk.T) : f58_l6_X := t.1.2.2.1
noncomputable def f58_l6_put (c : f58_l6_C) (x : f58_l6_X) : f58_l6_sk.T := ((c.1, (c.2, (x, ()))), ())
theorem f58_l6_pg (t : f58_l6_sk.T) : f58_l6_put (f58_l6_con t) (f58_l6_get t) = t := by kernel_rfl
noncomputable def f58_l6_w0 (c : f58_l6_C) (y : Int) : f58_l6_o0.T := ((y, ()), ())
noncomputable def f58_l6_w1 (c : f58_l6_C) (y : Unit) : f58_l6_o1.T := ((), ())
noncomputable def f58_l6_out (c : f58_l6_C) (y : f58_l6_Y) : OutV f58_l6_outs := (Sum.elim (fun y => (.inl (f58_l6_w0 c y))) (fun y => (.inr (.inl (f58_l6_w1 c y))))) y
noncomputable def f58_l6_k {R : Type} (a0 : List (Int × (Int × (List Int × (Bool × Unit))))) (a1 : Int) (a2 : Int) (kin : f58_l6_X → Option R) (k0 : Int → Option R) (k1 : Unit → Option R) : Option R :=
 (cond (decide (a2 < a1))
 (if (0 : Int) ≤ a2 ∧ a2 < ((List.length a0 : Nat) : Int) then (cond (decide ((List.getD a0 (Int.toNat a2) ((0 : Int), ((0 : Int), (([] : List Int), (false, ()))))).1 < (0 : Int)))
  (k0 (1 : Int))
  (cond (decide ((List.getD a0 (Int.toNat a2) ((0 : Int), ((0 : Int), (([] : List Int), (false, ()))))).1 > (255 : Int)))
   (k0 (1 : Int))
   (cond (decide ((List.getD a0 (Int.toNat a2) ((0 : Int), ((0 : Int), (([] : List Int), (false, ()))))).2.1 < (0 : Int)))
    (k0 (1 : Int))
    (cond (decide ((List.getD a0 (Int.toNat a2) ((0 : Int), ((0 : Int), (([] : List Int), (false, ()))))).2.1 > (255 : Int)))
     (k0 (1 : Int))
     (cond (((List.length (List.getD a0 (Int.toNat a2) ((0 : Int), ((0 : Int), (([] : List Int), (false, ()))))).2.2.1 : Nat) : Int) != (128 : Int))
      (k0 (3 : Int))
      (let v0 : Int := (IntKind.i64.wrap (a2 + (1 : Int)))
       (kin v0))))))) else none)
 (k1 ()))
noncomputable def f58_l6_g (a0 : List (Int × (Int × (List Int × (Bool × Unit))))) (a1 : Int) (x : f58_l6_X) : Option (f58_l6_X ⊕ f58_l6_Y) := f58_l6_k a0 a1 x (fun x => some (.inl x)) (fun y => some (.inr (.inl y))) (fun y => some (.inr (.inr y)))
noncomputable def f58_l6 (a0 : List (Int × (Int × (List Int × (Bool × Unit))))) (a1 : Int) (x : f58_l6_X) : Option f58_l6_Y := loopO (f58_l6_g a0 a1) x
noncomputable def f58_l6_nd : Node := { nils := [], sk := f58_l6_sk, outs := f58_l6_outs, Y := f58_l6_Y, L := fun t => f58_l6 ((f58_l6_con t).1) ((f58_l6_con t).2) (f58_l6_get t), out := fun t y => f58_l6_out (f58_l6_con t) y, disp := fun t y K => (Sum.elim (fun y => K .ret (f58_l6_o0.fill (f58_l6_w0 (f58_l6_con t) y))) (fun y => K (.exit 0) (f58_l6_o1.fill (f58_l6_w1 (f58_l6_con t) y)))) y }
noncomputable def f58_fx : Fx := { E := env, T := [], H := [], O := [], nodes := [((true, 6), f58_l6_nd)] }
noncomputable def f58_l6_b : Code := (loops f58_code).getD 0 .skip
theorem f58_l6_r (c : f58_l6_C) (x : f58_l6_X) : roundS f58_fx f58_l6_b f58_l6_nd (f58_l6_put c x) = f58_l6_k c.1 c.2 x (fun x => some (.inl (f58_l6_put c x))) (fun y => some (.inr (.inl (f58_l6_w0 c y)))) (fun y => some (.inr (.inr (.inl (f58_l6_w1 c y))))) := by kernel_rfl
theorem f58_l6_n {R : Type} (a0 : List (Int × (Int × (List Int × (Bool × Unit))))) (a1 : Int) (a2 : Int) (kin : f58_l6_X → Option R) (k0 : Int → Option R) (k1 : Unit → Option R) : f58_l6_k a0 a1 a2 kin k0 k1 = (f58_l6_g a0 a1 a2).bind (Sum.elim kin (Sum.elim k0 k1)) := by
  simp only [f58_l6_g, f58_l6_k, cond_bind, ite_bind, bind_bind, some_bind, none_bind, elim_bind, Sum.elim_inl, Sum.elim_inr]
theorem f58_l6_ok : LoopOk f58_fx f58_l6_b f58_l6_nd := loop_ok f58_l6_con f58_l6_get f58_l6_put f58_l6_pg (fun c => f58_l6_g c.1 c.2) f58_l6_out (fun t y => rfl) (by intro R t y K; rcases y with y | y <;> rfl) (fun c x => by
  refine (f58_l6_r c x).trans ((f58_l6_n _ _ _ _ _ _).trans ?_)
  first
  | rfl
  | congr 1
    funext s
    rcases s with s | s | s <;> rfl) (fun t => rfl)
noncomputable def f58_k {R : Type} (a0 : Int) (a1 : List (Int × (Int × (List Int × (Bool × Unit))))) (k : (Int × Unit) × (Unit) → Option R) : Option R :=
 (cond (decide (a0 < (0 : Int)))
 (k (((1 : Int), ()), ()))
 (cond (decide (a0 ≥ (20 : Int)))
  (k (((1 : Int), ()), ()))
  (cond (decide (((List.length a1 : Nat) : Int) > (12 : Int)))
   (k (((2 : Int), ()), ()))
   ((f58_l6 a1 ((List.length a1 : Nat) : Int) (0 : Int)).bind fun y1 =>
    ((Sum.elim (fun z2 =>
    (k ((z2, ()), ())))
    (fun z3 =>
    (k (((0 : Int), ()), ())))) y1)))))
noncomputable def f58 (a0 : Int) (a1 : List (Int × (Int × (List Int × (Bool × Unit))))) : Option ((Int × Unit) × (Unit)) := f58_k a0 a1 some
noncomputable def f58_sm : Sm := ⟨[.ro (.int .i64), .ro (.slc (.pair (.int .i64) (.pair (.int .i64) (.pair (.slc (.int .u8)) (.pair .bool .unit)))))], [((.int .i64), .ro)], fun x => f58 x.1 x.2.1⟩
theorem f58_m (x : ArgT [.ro (.int .i64), .ro (.slc (.pair (.int .i64) (.pair (.int .i64) (.pair (.slc (.int .u8)) (.pair .bool .unit)))))]) : codeS f58_fx f58_code (start [.ro (.int .i64), .ro (.slc (.pair (.int .i64) (.pair (.int .i64) (.pair (.slc (.int .u8)) (.pair .bool .unit)))))] [] x 45) (finK env [.tmp 4] [.ro (.int .i64), .ro (.slc (.pair (.int .i64) (.pair (.int .i64) (.pair (.slc (.int .u8)) (.pair .bool .unit)))))] [((.int .i64), .ro)]) = f58_k x.1 x.2.1 (fun r => some (r, [])) := by kernel_rfl
theorem f58_n {R : Type} (a0 : Int) (a1 : List (Int × (Int × (List Int × (Bool × Unit))))) (k : (Int × Unit) × (Unit) → Option R) : f58_k a0 a1 k = (f58 a0 a1).bind k := by
  simp only [f58, f58_k, cond_bind, ite_bind, bind_bind, some_bind, none_bind, elim_bind]
theorem f58_f : FnOk Try.prog 58 := ⟨Try.f58, Try.func58, by kernel_rfl, by kernel_rfl⟩
theorem f58_ok : SmOk Try.prog 58 f58_sm :=
  sum_of (c := f58_fx) (fn := Try.f58) (code := f58_code) (sm := f58_sm) mixed (env_ok env_envB) (TabsOk.all trivial) Try.func58 (by kernel_rfl)
   ((LoopsOk.of (l := [f58_l6_b]) (by kernel_rfl) ⟨node_is (by kernel_rfl) f58_l6_ok, trivial⟩))
   (no_tails (by kernel_rfl))
   (fun ks x hl => by
    have hk : ks = [] := List.length_eq_zero_iff.1 hl
    subst hk
    exact (f58_m x).trans (f58_n _ _ _))
/-! bakelite/sect.gap -/
noncomputable def f114_code : Code := (Try.f114.body).getD .skip
noncomputable def f114_l3_sk : SkS := ⟨7, [(1, .ref 48 []), (3, .con (.int .i64)), (0, .con (.int .i64))], [(48, ⟨none, (.slc (.int .u8)), (.own .ro)⟩)]⟩
noncomputable def f114_l3_o0 : SkS := ⟨12, [(1, .ref 48 [])], [(48, ⟨none, (.slc (.int .u8)), (.own .ro)⟩)]⟩
noncomputable def f114_l3_outs : List Way := [⟨(.exit 0), [], f114_l3_o0⟩]
abbrev f114_l3_C := Int
abbrev f114_l3_X := (Int × List Int)
abbrev f114_l3_Y := (List Int)
noncomputable def f114_l3_con (t : f114_l3_sk.T) : f114_l3_C := t.1.1
noncomputable def f114_l3_get (t : f114_l3_sk.T) : f114_l3_X := (t.1.2.1, t.2.1.1)
noncomputable def f114_l3_put (c : f114_l3_C) (x : f114_l3_X) : f114_l3_sk.T := ((c, (x.1, ())), ((x.2, ()), ()))
theorem f114_l3_pg (t : f114_l3_sk.T) : f114_l3_put (f114_l3_con t) (f114_l3_get t) = t := by kernel_rfl
noncomputable def f114_l3_w0 (c : f114_l3_C) (y : List Int) : f114_l3_o0.T := ((), ((y, ()), ()))
noncomputable def f114_l3_out (c : f114_l3_C) (y : f114_l3_Y) : OutV f114_l3_outs := (fun y => (.inl (f114_l3_w0 c y))) y
noncomputable def f114_l3_k {R : Type} (a0 : Int) (a1 : Int) (a2 : List Int) (kin : f114_l3_X → Option R) (k0 : List Int → Option R) : Option R :=
 (cond (decide (a1 < a0))
 (if (0 : Int) ≤ a1 ∧ a1 < ((List.length a2 : Nat) : Int) then (let v0 : Int := (IntKind.i64.wrap (a1 + (1 : Int)))
  (kin (v0, (List.set a2 (Int.toNat a1) (78 : Int))))) else none)
 (k0 a2))
noncomputable def f114_l3_g (a0 : Int) (x : f114_l3_X) : Option (f114_l3_X ⊕ f114_l3_Y) := f114_l3_k a0 x.1 x.2 (fun x => some (.inl x)) (fun y => some (.inr y))
noncomputable def f114_l3 (a0 : Int) (x : f114_l3_X) : Option f114_l3_Y := loopO (f114_l3_g a0) x
noncomputable def f114_l3_nd : Node := { nils := [], sk := f114_l3_sk, outs := f114_l3_outs, Y := f114_l3_Y, L := fun t => f114_l3 ((f114_l3_con t)) (f114_l3_get t), out := fun t y => f114_l3_out (f114_l3_con t) y, disp := fun t y K => (fun y => K (.exit 0) (f114_l3_o0.fill (f114_l3_w0 (f114_l3_con t) y))) y }
noncomputable def f114_fx : Fx := { E := env, T := [], H := [], O := [], nodes := [((true, 3), f114_l3_nd)] }
noncomputable def f114_l3_b : Code := (loops f114_code).getD 0 .skip
theorem f114_l3_r (c : f114_l3_C) (x : f114_l3_X) : roundS f114_fx f114_l3_b f114_l3_nd (f114_l3_put c x) = f114_l3_k c x.1 x.2 (fun x => some (.inl (f114_l3_put c x))) (fun y => some (.inr (.inl (f114_l3_w0 c y)))) := by kernel_rfl
theorem f114_l3_n {R : Type} (a0 : Int) (a1 : Int) (a2 : List Int) (kin : f114_l3_X → Option R) (k0 : List Int → Option R) : f114_l3_k a0 a1 a2 kin k0 = (f114_l3_g a0 (a1, a2)).bind (Sum.elim kin k0) := by
  simp only [f114_l3_g, f114_l3_k, cond_bind, ite_bind, bind_bind, some_bind, none_bind, elim_bind, Sum.elim_inl, Sum.elim_inr]
theorem f114_l3_ok : LoopOk f114_fx f114_l3_b f114_l3_nd := loop_ok f114_l3_con f114_l3_get f114_l3_put f114_l3_pg (fun c => f114_l3_g c) f114_l3_out (fun t y => rfl) (fun t y K => rfl) (fun c x => by
  refine (f114_l3_r c x).trans ((f114_l3_n _ _ _ _ _).trans ?_)
  first
  | rfl
  | congr 1
    funext s
    rcases s with s | s <;> rfl) (fun t => rfl)
noncomputable def f114_k {R : Type} (k : (List Int × Unit) × (Unit) → Option R) : Option R :=
 ((f114_l3 ((List.length (List.replicate 8 (0 : Int)) : Nat) : Int) ((0 : Int), (List.replicate 8 (0 : Int)))).bind fun y1 =>
 (k ((y1, ()), ())))
noncomputable def f114 : Option ((List Int × Unit) × (Unit)) := f114_k some
noncomputable def f114_sm : Sm := ⟨[], [((.slc (.int .u8)), (.own .ro))], fun x => f114⟩
theorem f114_m (x : ArgT []) : codeS f114_fx f114_code (start [] [] x 14) (finK env [.tmp 0] [] [((.slc (.int .u8)), (.own .ro))]) = f114_k (fun r => some (r, [])) := by kernel_rfl
theorem f114_n {R : Type} (k : (List Int × Unit) × (Unit) → Option R) : f114_k k = (f114).bind k := by
  simp only [f114, f114_k, cond_bind, ite_bind, bind_bind, some_bind, none_bind, elim_bind]
theorem f114_f : FnOk Try.prog 114 := ⟨Try.f114, Try.func114, by kernel_rfl, by kernel_rfl⟩
theorem f114_ok : SmOk Try.prog 114 f114_sm :=
  sum_of (c := f114_fx) (fn := Try.f114) (code := f114_code) (sm := f114_sm) mixed (env_ok env_envB) (TabsOk.all trivial) Try.func114 (by kernel_rfl)
   ((LoopsOk.of (l := [f114_l3_b]) (by kernel_rfl) ⟨node_is (by kernel_rfl) f114_l3_ok, trivial⟩))
   (no_tails (by kernel_rfl))
   (fun ks x hl => by
    have hk : ks = [] := List.length_eq_zero_iff.1 hl
    subst hk
    exact (f114_m x).trans (f114_n _))
/-! bakelite/crc.Next -/
noncomputable def f157_code : Code := (Try.f157.body).getD .skip
noncomputable def f157_l3_sk : SkS := ⟨9, [(0, .con (.int .i64)), (10, .con (.int .i64))], []⟩
noncomputable def f157_l3_o0 : SkS := ⟨20, [(0, .con (.int .i64))], []⟩
noncomputable def f157_l3_outs : List Way := [⟨(.exit 0), [], f157_l3_o0⟩]
abbrev f157_l3_C := Unit
abbrev f157_l3_X := (Int × Int)
abbrev f157_l3_Y := (Int)
noncomputable def f157_l3_con (t : f157_l3_sk.T) : f157_l3_C := ()
noncomputable def f157_l3_get (t : f157_l3_sk.T) : f157_l3_X := (t.1.1, t.1.2.1)
noncomputable def f157_l3_put (c : f157_l3_C) (x : f157_l3_X) : f157_l3_sk.T := ((x.1, (x.2, ())), ())
theorem f157_l3_pg (t : f157_l3_sk.T) : f157_l3_put (f157_l3_con t) (f157_l3_get t) = t := by kernel_rfl
noncomputable def f157_l3_w0 (c : f157_l3_C) (y : Int) : f157_l3_o0.T := ((y, ()), ())
noncomputable def f157_l3_out (c : f157_l3_C) (y : f157_l3_Y) : OutV f157_l3_outs := (fun y => (.inl (f157_l3_w0 c y))) y
noncomputable def f157_l3_k {R : Type} (a0 : Int) (a1 : Int) (kin : f157_l3_X → Option R) (k0 : Int → Option R) : Option R :=
 (cond (decide (a1 < (8 : Int)))
 (let v3 : Int := (IntKind.i64.wrap (a0 * 2 ^ (min 1 64)))
  (cond (decide (v3 > (65535 : Int)))
  (let v4 : Int := (bitop IntKind.i64 .xor v3 (69665 : Int))
   (let v5 : Int := (IntKind.i64.wrap (a1 + (1 : Int)))
   (kin (v4, v5))))
  (let v6 : Int := (IntKind.i64.wrap (a1 + (1 : Int)))
   (kin (v3, v6)))))
 (k0 a0))
noncomputable def f157_l3_g (x : f157_l3_X) : Option (f157_l3_X ⊕ f157_l3_Y) := f157_l3_k x.1 x.2 (fun x => some (.inl x)) (fun y => some (.inr y))
noncomputable def f157_l3 (x : f157_l3_X) : Option f157_l3_Y := loopO (f157_l3_g) x
noncomputable def f157_l3_nd : Node := { nils := [], sk := f157_l3_sk, outs := f157_l3_outs, Y := f157_l3_Y, L := fun t => f157_l3 (f157_l3_get t), out := fun t y => f157_l3_out (f157_l3_con t) y, disp := fun t y K => (fun y => K (.exit 0) (f157_l3_o0.fill (f157_l3_w0 (f157_l3_con t) y))) y }
noncomputable def f157_fx : Fx := { E := env, T := [], H := [], O := [], nodes := [((true, 3), f157_l3_nd)] }
noncomputable def f157_l3_b : Code := (loops f157_code).getD 0 .skip
theorem f157_l3_r (c : f157_l3_C) (x : f157_l3_X) : roundS f157_fx f157_l3_b f157_l3_nd (f157_l3_put c x) = f157_l3_k x.1 x.2 (fun x => some (.inl (f157_l3_put c x))) (fun y => some (.inr (.inl (f157_l3_w0 c y)))) := by kernel_rfl
theorem f157_l3_n {R : Type} (a0 : Int) (a1 : Int) (kin : f157_l3_X → Option R) (k0 : Int → Option R) : f157_l3_k a0 a1 kin k0 = (f157_l3_g (a0, a1)).bind (Sum.elim kin k0) := by
  simp only [f157_l3_g, f157_l3_k, cond_bind, ite_bind, bind_bind, some_bind, none_bind, elim_bind, Sum.elim_inl, Sum.elim_inr]
theorem f157_l3_ok : LoopOk f157_fx f157_l3_b f157_l3_nd := loop_ok f157_l3_con f157_l3_get f157_l3_put f157_l3_pg (fun c => f157_l3_g) f157_l3_out (fun t y => rfl) (fun t y K => rfl) (fun c x => by
  refine (f157_l3_r c x).trans ((f157_l3_n _ _ _ _).trans ?_)
  first
  | rfl
  | congr 1
    funext s
    rcases s with s | s <;> rfl) (fun t => rfl)
noncomputable def f157_k {R : Type} (a0 : Int) (a1 : Int) (k : (Int × Unit) × (Unit) → Option R) : Option R :=
 (let v0 : Int := (bitop IntKind.i64 .and a0 (65535 : Int))
 (let v1 : Int := (IntKind.i64.wrap ((IntKind.i64.wrap a1) * 2 ^ (min 8 64)))
 (let v2 : Int := (bitop IntKind.i64 .xor v0 v1)
 ((f157_l3 (v2, (0 : Int))).bind fun y7 =>
 (k ((y7, ()), ()))))))
noncomputable def f157 (a0 : Int) (a1 : Int) : Option ((Int × Unit) × (Unit)) := f157_k a0 a1 some
noncomputable def f157_sm : Sm := ⟨[.ro (.int .i64), .ro (.int .u8)], [((.int .i64), .ro)], fun x => f157 x.1 x.2.1⟩
theorem f157_m (x : ArgT [.ro (.int .i64), .ro (.int .u8)]) : codeS f157_fx f157_code (start [.ro (.int .i64), .ro (.int .u8)] [] x 21) (finK env [.tmp 4] [.ro (.int .i64), .ro (.int .u8)] [((.int .i64), .ro)]) = f157_k x.1 x.2.1 (fun r => some (r, [])) := by kernel_rfl
theorem f157_n {R : Type} (a0 : Int) (a1 : Int) (k : (Int × Unit) × (Unit) → Option R) : f157_k a0 a1 k = (f157 a0 a1).bind k := by
  simp only [f157, f157_k, cond_bind, ite_bind, bind_bind, some_bind, none_bind, elim_bind]
theorem f157_f : FnOk Try.prog 157 := ⟨Try.f157, Try.func157, by kernel_rfl, by kernel_rfl⟩
theorem f157_ok : SmOk Try.prog 157 f157_sm :=
  sum_of (c := f157_fx) (fn := Try.f157) (code := f157_code) (sm := f157_sm) mixed (env_ok env_envB) (TabsOk.all trivial) Try.func157 (by kernel_rfl)
   ((LoopsOk.of (l := [f157_l3_b]) (by kernel_rfl) ⟨node_is (by kernel_rfl) f157_l3_ok, trivial⟩))
   (no_tails (by kernel_rfl))
   (fun ks x hl => by
    have hk : ks = [] := List.length_eq_zero_iff.1 hl
    subst hk
    exact (f157_m x).trans (f157_n _ _ _))
/-! bakelite/crc.Sum16 -/
noncomputable def f141_code : Code := (Try.f141.body).getD .skip
noncomputable def f141_l3_sk : SkS := ⟨8, [(3, .con (.int .i64)), (2, .con (.slc (.int .u8))), (0, .con (.int .i64)), (0, .con (.int .i64))], []⟩
noncomputable def f141_l3_o0 : SkS := ⟨13, [(3, .con (.int .i64))], []⟩
noncomputable def f141_l3_outs : List Way := [⟨(.exit 0), [], f141_l3_o0⟩]
abbrev f141_l3_C := (List Int × Int)
abbrev f141_l3_X := (Int × Int)
abbrev f141_l3_Y := (Int)
noncomputable def f141_l3_con (t : f141_l3_sk.T) : f141_l3_C := (t.1.2.1, t.1.2.2.1)
noncomputable def f141_l3_get (t : f141_l3_sk.T) : f141_l3_X := (t.1.1, t.1.2.2.2.1)
noncomputable def f141_l3_put (c : f141_l3_C) (x : f141_l3_X) : f141_l3_sk.T := ((x.1, (c.1, (c.2, (x.2, ())))), ())
theorem f141_l3_pg (t : f141_l3_sk.T) : f141_l3_put (f141_l3_con t) (f141_l3_get t) = t := by kernel_rfl
noncomputable def f141_l3_w0 (c : f141_l3_C) (y : Int) : f141_l3_o0.T := ((y, ()), ())
noncomputable def f141_l3_out (c : f141_l3_C) (y : f141_l3_Y) : OutV f141_l3_outs := (fun y => (.inl (f141_l3_w0 c y))) y
noncomputable def f141_l3_k {R : Type} (a0 : Int) (a1 : List Int) (a2 : Int) (a3 : Int) (kin : f141_l3_X → Option R) (k0 : Int → Option R) : Option R :=
 (cond (decide (a3 < a2))
 (if (0 : Int) ≤ a3 ∧ a3 < ((List.length a1 : Nat) : Int) then ((f157 a0 (List.getD a1 (Int.toNat a3) (0 : Int))).bind fun r0 =>
  (let v1 : Int := (IntKind.i64.wrap (a3 + (1 : Int)))
  (kin (r0.1.1, v1)))) else none)
 (k0 a0))
noncomputable def f141_l3_g (a1 : List Int) (a2 : Int) (x : f141_l3_X) : Option (f141_l3_X ⊕ f141_l3_Y) := f141_l3_k x.1 a1 a2 x.2 (fun x => some (.inl x)) (fun y => some (.inr y))
noncomputable def f141_l3 (a1 : List Int) (a2 : Int) (x : f141_l3_X) : Option f141_l3_Y := loopO (f141_l3_g a1 a2) x
noncomputable def f141_l3_nd : Node := { nils := [], sk := f141_l3_sk, outs := f141_l3_outs, Y := f141_l3_Y, L := fun t => f141_l3 ((f141_l3_con t).1) ((f141_l3_con t).2) (f141_l3_get t), out := fun t y => f141_l3_out (f141_l3_con t) y, disp := fun t y K => (fun y => K (.exit 0) (f141_l3_o0.fill (f141_l3_w0 (f141_l3_con t) y))) y }
noncomputable def f141_fx : Fx := { E := env, T := [(157, f157_sm)], H := [], O := [], nodes := [((true, 3), f141_l3_nd)] }
noncomputable def f141_l3_b : Code := (loops f141_code).getD 0 .skip
theorem f141_l3_r (c : f141_l3_C) (x : f141_l3_X) : roundS f141_fx f141_l3_b f141_l3_nd (f141_l3_put c x) = f141_l3_k x.1 c.1 c.2 x.2 (fun x => some (.inl (f141_l3_put c x))) (fun y => some (.inr (.inl (f141_l3_w0 c y)))) := by kernel_rfl
theorem f141_l3_n {R : Type} (a0 : Int) (a1 : List Int) (a2 : Int) (a3 : Int) (kin : f141_l3_X → Option R) (k0 : Int → Option R) : f141_l3_k a0 a1 a2 a3 kin k0 = (f141_l3_g a1 a2 (a0, a3)).bind (Sum.elim kin k0) := by
  simp only [f141_l3_g, f141_l3_k, cond_bind, ite_bind, bind_bind, some_bind, none_bind, elim_bind, Sum.elim_inl, Sum.elim_inr]
theorem f141_l3_ok : LoopOk f141_fx f141_l3_b f141_l3_nd := loop_ok f141_l3_con f141_l3_get f141_l3_put f141_l3_pg (fun c => f141_l3_g c.1 c.2) f141_l3_out (fun t y => rfl) (fun t y K => rfl) (fun c x => by
  refine (f141_l3_r c x).trans ((f141_l3_n _ _ _ _ _ _).trans ?_)
  first
  | rfl
  | congr 1
    funext s
    rcases s with s | s <;> rfl) (fun t => rfl)
noncomputable def f141_k {R : Type} (a0 : List Int) (k : (Int × Unit) × (Unit) → Option R) : Option R :=
 ((f141_l3 a0 ((List.length a0 : Nat) : Int) ((65535 : Int), (0 : Int))).bind fun y2 =>
 (k ((y2, ()), ())))
noncomputable def f141 (a0 : List Int) : Option ((Int × Unit) × (Unit)) := f141_k a0 some
noncomputable def f141_sm : Sm := ⟨[.ro (.slc (.int .u8))], [((.int .i64), .ro)], fun x => f141 x.1⟩
theorem f141_m (x : ArgT [.ro (.slc (.int .u8))]) : codeS f141_fx f141_code (start [.ro (.slc (.int .u8))] [] x 17) (finK env [.tmp 2] [.ro (.slc (.int .u8))] [((.int .i64), .ro)]) = f141_k x.1 (fun r => some (r, [])) := by kernel_rfl
theorem f141_n {R : Type} (a0 : List Int) (k : (Int × Unit) × (Unit) → Option R) : f141_k a0 k = (f141 a0).bind k := by
  simp only [f141, f141_k, cond_bind, ite_bind, bind_bind, some_bind, none_bind, elim_bind]
theorem f141_f : FnOk Try.prog 141 := ⟨Try.f141, Try.func141, by kernel_rfl, by kernel_rfl⟩
theorem f141_ok : SmOk Try.prog 141 f141_sm :=
  sum_of (c := f141_fx) (fn := Try.f141) (code := f141_code) (sm := f141_sm) mixed (env_ok env_envB) (TabsOk.all ⟨⟨f157_ok, f157_f⟩, trivial⟩) Try.func141 (by kernel_rfl)
   ((LoopsOk.of (l := [f141_l3_b]) (by kernel_rfl) ⟨node_is (by kernel_rfl) f141_l3_ok, trivial⟩))
   (no_tails (by kernel_rfl))
   (fun ks x hl => by
    have hk : ks = [] := List.length_eq_zero_iff.1 hl
    subst hk
    exact (f141_m x).trans (f141_n _ _))
/-! bakelite/crc.Seal -/
noncomputable def f115_code : Code := (Try.f115.body).getD .skip
noncomputable def f115_fx : Fx := { E := env, T := [(141, f141_sm)], H := [], O := [], nodes := [] }
noncomputable def f115_k {R : Type} (a0 : List Int) (k : (List Int × Unit) × (Unit) → Option R) : Option R :=
 ((f141 a0).bind fun r0 =>
 (if (0 + List.length a0) * 1 ≤ most ∧ 0 < 1 ∧ 0 < 1 then (let r1 : List Int := ([] ++ a0)
 (let v2 : Int := (Int.fdiv r0.1.1 (2 ^ (min 8 64)))
 (if (List.length r1 + 2) * 1 ≤ most ∧ 0 < 1 ∧ 0 < 1 then (let r3 : List Int := (r1 ++ [(IntKind.u8.wrap v2), (IntKind.u8.wrap r0.1.1)])
 (k ((r3, ()), ()))) else none))) else none))
noncomputable def f115 (a0 : List Int) : Option ((List Int × Unit) × (Unit)) := f115_k a0 some
noncomputable def f115_sm : Sm := ⟨[.ro (.slc (.int .u8))], [((.slc (.int .u8)), (.own .ro))], fun x => f115 x.1⟩
theorem f115_m (x : ArgT [.ro (.slc (.int .u8))]) : codeS f115_fx f115_code (start [.ro (.slc (.int .u8))] [] x 16) (finK env [.tmp 2] [.ro (.slc (.int .u8))] [((.slc (.int .u8)), (.own .ro))]) = f115_k x.1 (fun r => some (r, [])) := by kernel_rfl
theorem f115_n {R : Type} (a0 : List Int) (k : (List Int × Unit) × (Unit) → Option R) : f115_k a0 k = (f115 a0).bind k := by
  simp only [f115, f115_k, cond_bind, ite_bind, bind_bind, some_bind, none_bind, elim_bind]
theorem f115_f : FnOk Try.prog 115 := ⟨Try.f115, Try.func115, by kernel_rfl, by kernel_rfl⟩
theorem f115_ok : SmOk Try.prog 115 f115_sm :=
  sum_of (c := f115_fx) (fn := Try.f115) (code := f115_code) (sm := f115_sm) mixed (env_ok env_envB) (TabsOk.all ⟨⟨f141_ok, f141_f⟩, trivial⟩) Try.func115 (by kernel_rfl)
   ((LoopsOk.of (l := []) (by kernel_rfl) trivial))
   (no_tails (by kernel_rfl))
   (fun ks x hl => by
    have hk : ks = [] := List.length_eq_zero_iff.1 hl
    subst hk
    exact (f115_m x).trans (f115_n _ _))
/-! bakelite/bakeref2.SectorsErr -/
noncomputable def f59_code : Code := (Try.f59.body).getD .skip
noncomputable def f59_l6_sk : SkS := ⟨22, [(16, .con (.slc (.pair (.int .i64) (.pair (.int .i64) (.pair (.slc (.int .u8)) (.pair .bool .unit)))))), (0, .con (.int .i64)), (0, .con (.int .i64))], []⟩
noncomputable def f59_l6_o0 : SkS := ⟨36, [(4, .con (.int .i64))], []⟩
noncomputable def f59_l6_o1 : SkS := ⟨41, [], []⟩
noncomputable def f59_l6_outs : List Way := [⟨.ret, [], f59_l6_o0⟩, ⟨(.exit 0), [], f59_l6_o1⟩]
abbrev f59_l6_C := (List (Int × (Int × (List Int × (Bool × Unit)))) × Int)
abbrev f59_l6_X := Int
abbrev f59_l6_Y := (Int) ⊕ (Unit)
noncomputable def f59_l6_con (t : f59_l6_sk.T) : f59_l6_C := (t.1.1, t.1.2.1)
noncomputable def f59_l6_get (t : f59_l6_sk.T) : f59_l6_X := t.1.2.2.1
noncomputable def f59_l6_put (c : f59_l6_C) (x : f59_l6_X) : f59_l6_sk.T := ((c.1, (c.2, (x, ()))), ())
theorem f59_l6_pg (t : f59_l6_sk.T) : f59_l6_put (f59_l6_con t) (f59_l6_get t) = t := by kernel_rfl
noncomputable def f59_l6_w0 (c : f59_l6_C) (y : Int) : f59_l6_o0.T := ((y, ()), ())
noncomputable def f59_l6_w1 (c : f59_l6_C) (y : Unit) : f59_l6_o1.T := ((), ())
noncomputable def f59_l6_out (c : f59_l6_C) (y : f59_l6_Y) : OutV f59_l6_outs := (Sum.elim (fun y => (.inl (f59_l6_w0 c y))) (fun y => (.inr (.inl (f59_l6_w1 c y))))) y
noncomputable def f59_l6_k {R : Type} (a0 : List (Int × (Int × (List Int × (Bool × Unit))))) (a1 : Int) (a2 : Int) (kin : f59_l6_X → Option R) (k0 : Int → Option R) (k1 : Unit → Option R) : Option R :=
 (cond (decide (a2 < a1))
 (if (0 : Int) ≤ a2 ∧ a2 < ((List.length a0 : Nat) : Int) then (let v0 : Int := (if (List.getD a0 (Int.toNat a2) ((0 : Int), ((0 : Int), (([] : List Int), (false, ()))))).2.1 < (List.getD a0 (Int.toNat a2) ((0 : Int), ((0 : Int), (([] : List Int), (false, ()))))).1 then (List.getD a0 (Int.toNat a2) ((0 : Int), ((0 : Int), (([] : List Int), (false, ()))))).2.1 else (List.getD a0 (Int.toNat a2) ((0 : Int), ((0 : Int), (([] : List Int), (false, ()))))).1)
  (cond (decide (v0 < (0 : Int)))
  (k0 (1 : Int))
  (let v1 : Int := (if (List.getD a0 (Int.toNat a2) ((0 : Int), ((0 : Int), (([] : List Int), (false, ()))))).2.1 > (List.getD a0 (Int.toNat a2) ((0 : Int), ((0 : Int), (([] : List Int), (false, ()))))).1 then (List.getD a0 (Int.toNat a2) ((0 : Int), ((0 : Int), (([] : List Int), (false, ()))))).2.1 else (List.getD a0 (Int.toNat a2) ((0 : Int), ((0 : Int), (([] : List Int), (false, ()))))).1)
   (cond (decide (v1 > (255 : Int)))
   (k0 (1 : Int))
   (cond (((List.length (List.getD a0 (Int.toNat a2) ((0 : Int), ((0 : Int), (([] : List Int), (false, ()))))).2.2.1 : Nat) : Int) != (128 : Int))
    (k0 (3 : Int))
    (let v2 : Int := (IntKind.i64.wrap (a2 + (1 : Int)))
     (kin v2))))))) else none)
 (k1 ()))
noncomputable def f59_l6_g (a0 : List (Int × (Int × (List Int × (Bool × Unit))))) (a1 : Int) (x : f59_l6_X) : Option (f59_l6_X ⊕ f59_l6_Y) := f59_l6_k a0 a1 x (fun x => some (.inl x)) (fun y => some (.inr (.inl y))) (fun y => some (.inr (.inr y)))
noncomputable def f59_l6 (a0 : List (Int × (Int × (List Int × (Bool × Unit))))) (a1 : Int) (x : f59_l6_X) : Option f59_l6_Y := loopO (f59_l6_g a0 a1) x
noncomputable def f59_l6_nd : Node := { nils := [], sk := f59_l6_sk, outs := f59_l6_outs, Y := f59_l6_Y, L := fun t => f59_l6 ((f59_l6_con t).1) ((f59_l6_con t).2) (f59_l6_get t), out := fun t y => f59_l6_out (f59_l6_con t) y, disp := fun t y K => (Sum.elim (fun y => K .ret (f59_l6_o0.fill (f59_l6_w0 (f59_l6_con t) y))) (fun y => K (.exit 0) (f59_l6_o1.fill (f59_l6_w1 (f59_l6_con t) y)))) y }
noncomputable def f59_fx : Fx := { E := env, T := [], H := [], O := [], nodes := [((true, 6), f59_l6_nd)] }
noncomputable def f59_l6_b : Code := (loops f59_code).getD 0 .skip
theorem f59_l6_r (c : f59_l6_C) (x : f59_l6_X) : roundS f59_fx f59_l6_b f59_l6_nd (f59_l6_put c x) = f59_l6_k c.1 c.2 x (fun x => some (.inl (f59_l6_put c x))) (fun y => some (.inr (.inl (f59_l6_w0 c y)))) (fun y => some (.inr (.inr (.inl (f59_l6_w1 c y))))) := by kernel_rfl
theorem f59_l6_n {R : Type} (a0 : List (Int × (Int × (List Int × (Bool × Unit))))) (a1 : Int) (a2 : Int) (kin : f59_l6_X → Option R) (k0 : Int → Option R) (k1 : Unit → Option R) : f59_l6_k a0 a1 a2 kin k0 k1 = (f59_l6_g a0 a1 a2).bind (Sum.elim kin (Sum.elim k0 k1)) := by
  simp only [f59_l6_g, f59_l6_k, cond_bind, ite_bind, bind_bind, some_bind, none_bind, elim_bind, Sum.elim_inl, Sum.elim_inr]
theorem f59_l6_ok : LoopOk f59_fx f59_l6_b f59_l6_nd := loop_ok f59_l6_con f59_l6_get f59_l6_put f59_l6_pg (fun c => f59_l6_g c.1 c.2) f59_l6_out (fun t y => rfl) (by intro R t y K; rcases y with y | y <;> rfl) (fun c x => by
  refine (f59_l6_r c x).trans ((f59_l6_n _ _ _ _ _ _).trans ?_)
  first
  | rfl
  | congr 1
    funext s
    rcases s with s | s | s <;> rfl) (fun t => rfl)
noncomputable def f59_k {R : Type} (a0 : Int) (a1 : List (Int × (Int × (List Int × (Bool × Unit))))) (k : (Int × Unit) × (Unit) → Option R) : Option R :=
 (cond (decide (a0 < (0 : Int)))
 (k (((1 : Int), ()), ()))
 (cond (decide (a0 > (19 : Int)))
  (k (((1 : Int), ()), ()))
  (cond (decide (((List.length a1 : Nat) : Int) > (12 : Int)))
   (k (((2 : Int), ()), ()))
   ((f59_l6 a1 ((List.length a1 : Nat) : Int) (0 : Int)).bind fun y3 =>
    ((Sum.elim (fun z4 =>
    (k ((z4, ()), ())))
    (fun z5 =>
    (k (((0 : Int), ()), ())))) y3)))))
noncomputable def f59 (a0 : Int) (a1 : List (Int × (Int × (List Int × (Bool × Unit))))) : Option ((Int × Unit) × (Unit)) := f59_k a0 a1 some
noncomputable def f59_sm : Sm := ⟨[.ro (.int .i64), .ro (.slc (.pair (.int .i64) (.pair (.int .i64) (.pair (.slc (.int .u8)) (.pair .bool .unit)))))], [((.int .i64), .ro)], fun x => f59 x.1 x.2.1⟩
theorem f59_m (x : ArgT [.ro (.int .i64), .ro (.slc (.pair (.int .i64) (.pair (.int .i64) (.pair (.slc (.int .u8)) (.pair .bool .unit)))))]) : codeS f59_fx f59_code (start [.ro (.int .i64), .ro (.slc (.pair (.int .i64) (.pair (.int .i64) (.pair (.slc (.int .u8)) (.pair .bool .unit)))))] [] x 41) (finK env [.tmp 4] [.ro (.int .i64), .ro (.slc (.pair (.int .i64) (.pair (.int .i64) (.pair (.slc (.int .u8)) (.pair .bool .unit)))))] [((.int .i64), .ro)]) = f59_k x.1 x.2.1 (fun r => some (r, [])) := by kernel_rfl
theorem f59_n {R : Type} (a0 : Int) (a1 : List (Int × (Int × (List Int × (Bool × Unit))))) (k : (Int × Unit) × (Unit) → Option R) : f59_k a0 a1 k = (f59 a0 a1).bind k := by
  simp only [f59, f59_k, cond_bind, ite_bind, bind_bind, some_bind, none_bind, elim_bind]
theorem f59_f : FnOk Try.prog 59 := ⟨Try.f59, Try.func59, by kernel_rfl, by kernel_rfl⟩
theorem f59_ok : SmOk Try.prog 59 f59_sm :=
  sum_of (c := f59_fx) (fn := Try.f59) (code := f59_code) (sm := f59_sm) mixed (env_ok env_envB) (TabsOk.all trivial) Try.func59 (by kernel_rfl)
   ((LoopsOk.of (l := [f59_l6_b]) (by kernel_rfl) ⟨node_is (by kernel_rfl) f59_l6_ok, trivial⟩))
   (no_tails (by kernel_rfl))
   (fun ks x hl => by
    have hk : ks = [] := List.length_eq_zero_iff.1 hl
    subst hk
    exact (f59_m x).trans (f59_n _ _ _))
/-! math/bits.Mul64 -/
noncomputable def f153_code : Code := (Try.f153.body).getD .skip
noncomputable def f153_fx : Fx := { E := env, T := [], H := [], O := [], nodes := [] }
noncomputable def f153_k {R : Type} (a0 : Int) (a1 : Int) (k : (Int × Int × Unit) × (Unit) → Option R) : Option R :=
 (let v0 : Int := (bitop IntKind.u64 .and a0 (4294967295 : Int))
 (let v1 : Int := (Int.fdiv a0 (2 ^ (min 32 64)))
 (let v2 : Int := (bitop IntKind.u64 .and a1 (4294967295 : Int))
 (let v3 : Int := (Int.fdiv a1 (2 ^ (min 32 64)))
 (let v4 : Int := (IntKind.u64.wrap (v0 * v2))
 (let v5 : Int := (IntKind.u64.wrap (v1 * v2))
 (let v6 : Int := (Int.fdiv v4 (2 ^ (min 32 64)))
 (let v7 : Int := (IntKind.u64.wrap (v5 + v6))
 (let v8 : Int := (bitop IntKind.u64 .and v7 (4294967295 : Int))
 (let v9 : Int := (Int.fdiv v7 (2 ^ (min 32 64)))
 (let v10 : Int := (IntKind.u64.wrap (v0 * v3))
 (let v11 : Int := (IntKind.u64.wrap (v8 + v10))
 (let v12 : Int := (IntKind.u64.wrap (v1 * v3))
 (let v13 : Int := (IntKind.u64.wrap (v12 + v9))
 (let v14 : Int := (Int.fdiv v11 (2 ^ (min 32 64)))
 (let v15 : Int := (IntKind.u64.wrap (v13 + v14))
 (let v16 : Int := (IntKind.u64.wrap (a0 * a1))
 (k ((v15, (v16, ())), ())))))))))))))))))))
noncomputable def f153 (a0 : Int) (a1 : Int) : Option ((Int × Int × Unit) × (Unit)) := f153_k a0 a1 some
noncomputable def f153_sm : Sm := ⟨[.ro (.int .u64), .ro (.int .u64)], [((.int .u64), .ro), ((.int .u64), .ro)], fun x => f153 x.1 x.2.1⟩
theorem f153_m (x : ArgT [.ro (.int .u64), .ro (.int .u64)]) : codeS f153_fx f153_code (start [.ro (.int .u64), .ro (.int .u64)] [] x 51) (finK env [.tmp 4, .tmp 5] [.ro (.int .u64), .ro (.int .u64)] [((.int .u64), .ro), ((.int .u64), .ro)]) = f153_k x.1 x.2.1 (fun r => some (r, [])) := by kernel_rfl
theorem f153_n {R : Type} (a0 : Int) (a1 : Int) (k : (Int × Int × Unit) × (Unit) → Option R) : f153_k a0 a1 k = (f153 a0 a1).bind k := by
  simp only [f153, f153_k, cond_bind, ite_bind, bind_bind, some_bind, none_bind, elim_bind]
theorem f153_f : FnOk Try.prog 153 := ⟨Try.f153, Try.func153, by kernel_rfl, by kernel_rfl⟩
theorem f153_ok : SmOk Try.prog 153 f153_sm :=
  sum_of (c := f153_fx) (fn := Try.f153) (code := f153_code) (sm := f153_sm) mixed (env_ok env_envB) (TabsOk.all trivial) Try.func153 (by kernel_rfl)
   ((LoopsOk.of (l := []) (by kernel_rfl) trivial))
   (no_tails (by kernel_rfl))
   (fun ks x hl => by
    have hk : ks = [] := List.length_eq_zero_iff.1 hl
    subst hk
    exact (f153_m x).trans (f153_n _ _ _))
/-! math/bits.Mul -/
noncomputable def f131_code : Code := (Try.f131.body).getD .skip
noncomputable def f131_fx : Fx := { E := env, T := [(153, f153_sm)], H := [], O := [], nodes := [] }
noncomputable def f131_k {R : Type} (a0 : Int) (a1 : Int) (k : (Int × Int × Unit) × (Unit) → Option R) : Option R :=
 ((f153 a0 a1).bind fun r0 =>
 (k ((r0.1.1, (r0.1.2.1, ())), ())))
noncomputable def f131 (a0 : Int) (a1 : Int) : Option ((Int × Int × Unit) × (Unit)) := f131_k a0 a1 some
noncomputable def f131_sm : Sm := ⟨[.ro (.int .u64), .ro (.int .u64)], [((.int .u64), .ro), ((.int .u64), .ro)], fun x => f131 x.1 x.2.1⟩
theorem f131_m (x : ArgT [.ro (.int .u64), .ro (.int .u64)]) : codeS f131_fx f131_code (start [.ro (.int .u64), .ro (.int .u64)] [] x 30) (finK env [.tmp 4, .tmp 5] [.ro (.int .u64), .ro (.int .u64)] [((.int .u64), .ro), ((.int .u64), .ro)]) = f131_k x.1 x.2.1 (fun r => some (r, [])) := by kernel_rfl
theorem f131_n {R : Type} (a0 : Int) (a1 : Int) (k : (Int × Int × Unit) × (Unit) → Option R) : f131_k a0 a1 k = (f131 a0 a1).bind k := by
  simp only [f131, f131_k, cond_bind, ite_bind, bind_bind, some_bind, none_bind, elim_bind]
theorem f131_f : FnOk Try.prog 131 := ⟨Try.f131, Try.func131, by kernel_rfl, by kernel_rfl⟩
theorem f131_ok : SmOk Try.prog 131 f131_sm :=
  sum_of (c := f131_fx) (fn := Try.f131) (code := f131_code) (sm := f131_sm) mixed (env_ok env_envB) (TabsOk.all ⟨⟨f153_ok, f153_f⟩, trivial⟩) Try.func131 (by kernel_rfl)
   ((LoopsOk.of (l := []) (by kernel_rfl) trivial))
   (no_tails (by kernel_rfl))
   (fun ks x hl => by
    have hk : ks = [] := List.length_eq_zero_iff.1 hl
    subst hk
    exact (f131_m x).trans (f131_n _ _ _))
/-! slices.Repeat[[]byte,byte] -/
noncomputable def f97_code : Code := (Try.f97.body).getD .skip
noncomputable def f97_l8_sk : SkS := ⟨39, [(7, .ref 480 []), (0, .con (.int .i64))], [(480, ⟨none, (.slc (.int .u8)), (.own .ro)⟩)]⟩
noncomputable def f97_l8_o0 : SkS := ⟨40, [(7, .ref 480 [])], [(480, ⟨none, (.slc (.int .u8)), (.own .ro)⟩)]⟩
noncomputable def f97_l8_outs : List Way := [⟨(.exit 0), [], f97_l8_o0⟩]
abbrev f97_l8_C := Unit
abbrev f97_l8_X := (Int × List Int)
abbrev f97_l8_Y := (List Int)
noncomputable def f97_l8_con (t : f97_l8_sk.T) : f97_l8_C := ()
noncomputable def f97_l8_get (t : f97_l8_sk.T) : f97_l8_X := (t.1.1, t.2.1.1)
noncomputable def f97_l8_put (c : f97_l8_C) (x : f97_l8_X) : f97_l8_sk.T := ((x.1, ()), ((x.2, ()), ()))
theorem f97_l8_pg (t : f97_l8_sk.T) : f97_l8_put (f97_l8_con t) (f97_l8_get t) = t := by kernel_rfl
noncomputable def f97_l8_w0 (c : f97_l8_C) (y : List Int) : f97_l8_o0.T := ((), ((y, ()), ()))
noncomputable def f97_l8_out (c : f97_l8_C) (y : f97_l8_Y) : OutV f97_l8_outs := (fun y => (.inl (f97_l8_w0 c y))) y
noncomputable def f97_l8_k {R : Type} (a0 : Int) (a1 : List Int) (kin : f97_l8_X → Option R) (k0 : List Int → Option R) : Option R :=
 (cond (decide (a0 < ((List.length a1 : Nat) : Int)))
 (if (0 : Int) ≤ a0 ∧ a0 ≤ ((List.length a1 : Nat) : Int) ∧ ((List.length a1 : Nat) : Int) ≤ ((List.length a1 : Nat) : Int) then (if (0 : Int) ≤ (0 : Int) ∧ (0 : Int) ≤ a0 ∧ a0 ≤ ((List.length a1 : Nat) : Int) then (if 0 < List.length (List.take ((Int.toNat a0) - 0) (List.drop 0 a1)) ∧ 0 < ((Int.toNat ((List.length a1 : Nat) : Int)) - (Int.toNat a0)) then (let v3 : Nat := min (List.length (List.take ((Int.toNat a0) - 0) (List.drop 0 a1))) ((Int.toNat ((List.length a1 : Nat) : Int)) - (Int.toNat a0))
  (let v4 : Int := (IntKind.i64.wrap (a0 + ((v3 : Nat) : Int)))
  (kin (v4, (spl a1 (Int.toNat a0) v3 (List.take ((Int.toNat a0) - 0) (List.drop 0 a1))))))) else none) else none) else none)
 (k0 a1))
noncomputable def f97_l8_g (x : f97_l8_X) : Option (f97_l8_X ⊕ f97_l8_Y) := f97_l8_k x.1 x.2 (fun x => some (.inl x)) (fun y => some (.inr y))
noncomputable def f97_l8 (x : f97_l8_X) : Option f97_l8_Y := loopO (f97_l8_g) x
noncomputable def f97_l8_nd : Node := { nils := [], sk := f97_l8_sk, outs := f97_l8_outs, Y := f97_l8_Y, L := fun t => f97_l8 (f97_l8_get t), out := fun t y => f97_l8_out (f97_l8_con t) y, disp := fun t y K => (fun y => K (.exit 0) (f97_l8_o0.fill (f97_l8_w0 (f97_l8_con t) y))) y }
noncomputable def f97_t6_sk : SkS := ⟨41, [(0, .con (.slc (.int .u8))), (5, .con (.int .u64))], []⟩
noncomputable def f97_t6_o0 : SkS := ⟨43, [(4, .ref 480 [])], [(480, ⟨none, (.slc (.int .u8)), (.own .ro)⟩)]⟩
noncomputable def f97_t6_outs : List Way := [⟨.ret, [], f97_t6_o0⟩]
abbrev f97_t6_C := Unit
abbrev f97_t6_X := (List Int × Int)
abbrev f97_t6_Y := (List Int)
noncomputable def f97_t6_con (t : f97_t6_sk.T) : f97_t6_C := ()
noncomputable def f97_t6_get (t : f97_t6_sk.T) : f97_t6_X := (t.1.1, t.1.2.1)
noncomputable def f97_t6_put (c : f97_t6_C) (x : f97_t6_X) : f97_t6_sk.T := ((x.1, (x.2, ())), ())
theorem f97_t6_pg (t : f97_t6_sk.T) : f97_t6_put (f97_t6_con t) (f97_t6_get t) = t := by kernel_rfl
noncomputable def f97_t6_w0 (c : f97_t6_C) (x : f97_t6_X) (y : List Int) : f97_t6_o0.T := ((), ((y, ()), ()))
noncomputable def f97_t6_out (c : f97_t6_C) (x : f97_t6_X) (y : f97_t6_Y) : OutV f97_t6_outs := (fun y => (.inl (f97_t6_w0 c x y))) y
noncomputable def f97_t6_k {R : Type} (a0 : List Int) (a1 : Int) (k0 : List Int → Option R) : Option R :=
 (if (0 : Int) ≤ (IntKind.i64.wrap a1) ∧ (IntKind.i64.wrap a1) ≤ (IntKind.i64.wrap a1) ∧ (IntKind.i64.wrap a1) * 1 ≤ (most : Int) ∧ 0 < 1 ∧ 0 < 1 then (if 0 < List.length a0 ∧ 0 < (List.length (List.replicate (Int.toNat (IntKind.i64.wrap a1)) (0 : Int))) then (let v2 : Nat := min (List.length a0) (List.length (List.replicate (Int.toNat (IntKind.i64.wrap a1)) (0 : Int)))
 ((f97_l8 (((v2 : Nat) : Int), (spl (List.replicate (Int.toNat (IntKind.i64.wrap a1)) (0 : Int)) 0 v2 a0))).bind fun y5 =>
 (k0 y5))) else none) else none)
noncomputable def f97_t6 (a0 : List Int) (a1 : Int) : Option f97_t6_Y := f97_t6_k a0 a1 (fun y => some y)
noncomputable def f97_t6_nd : Node := { nils := [], sk := f97_t6_sk, outs := f97_t6_outs, Y := f97_t6_Y, L := fun t => f97_t6 ((f97_t6_get t).1) ((f97_t6_get t).2), out := fun t y => f97_t6_out (f97_t6_con t) (f97_t6_get t) y, disp := fun t y K => (fun y => K .ret (f97_t6_o0.fill (f97_t6_w0 (f97_t6_con t) (f97_t6_get t) y))) y }
noncomputable def f97_t3_sk : SkS := ⟨46, [(0, .con (.slc (.int .u8))), (0, .con (.int .i64))], []⟩
noncomputable def f97_t3_o0 : SkS := ⟨43, [(4, .ref 480 [])], [(480, ⟨none, (.slc (.int .u8)), (.own .ro)⟩)]⟩
noncomputable def f97_t3_outs : List Way := [⟨.ret, [], f97_t3_o0⟩]
abbrev f97_t3_C := Unit
abbrev f97_t3_X := (List Int × Int)
abbrev f97_t3_Y := (List Int)
noncomputable def f97_t3_con (t : f97_t3_sk.T) : f97_t3_C := ()
noncomputable def f97_t3_get (t : f97_t3_sk.T) : f97_t3_X := (t.1.1, t.1.2.1)
noncomputable def f97_t3_put (c : f97_t3_C) (x : f97_t3_X) : f97_t3_sk.T := ((x.1, (x.2, ())), ())
theorem f97_t3_pg (t : f97_t3_sk.T) : f97_t3_put (f97_t3_con t) (f97_t3_get t) = t := by kernel_rfl
noncomputable def f97_t3_w0 (c : f97_t3_C) (x : f97_t3_X) (y : List Int) : f97_t3_o0.T := ((), ((y, ()), ()))
noncomputable def f97_t3_out (c : f97_t3_C) (x : f97_t3_X) (y : f97_t3_Y) : OutV f97_t3_outs := (fun y => (.inl (f97_t3_w0 c x y))) y
noncomputable def f97_t3_k {R : Type} (a0 : List Int) (a1 : Int) (k0 : List Int → Option R) : Option R :=
 (let v0 : Int := (IntKind.u64.wrap ((List.length a0 : Nat) : Int))
 ((f131 v0 (IntKind.u64.wrap a1)).bind fun r1 =>
 (cond (decide (r1.1.1 > (0 : Int)))
 none
 (cond (decide (r1.1.2.1 > (9223372036854775807 : Int)))
  none
  ((f97_t6 a0 r1.1.2.1).bind fun y6 =>
   (k0 y6))))))
noncomputable def f97_t3 (a0 : List Int) (a1 : Int) : Option f97_t3_Y := f97_t3_k a0 a1 (fun y => some y)
noncomputable def f97_t3_nd : Node := { nils := [], sk := f97_t3_sk, outs := f97_t3_outs, Y := f97_t3_Y, L := fun t => f97_t3 ((f97_t3_get t).1) ((f97_t3_get t).2), out := fun t y => f97_t3_out (f97_t3_con t) (f97_t3_get t) y, disp := fun t y K => (fun y => K .ret (f97_t3_o0.fill (f97_t3_w0 (f97_t3_con t) (f97_t3_get t) y))) y }
noncomputable def f97_fx : Fx := { E := env, T := [(131, f131_sm)], H := [], O := [(45, [30])], nodes := [((true, 8), f97_l8_nd), ((false, 6), f97_t6_nd), ((false, 3), f97_t3_nd)] }
noncomputable def f97_l8_b : Code := (loops f97_code).getD 0 .skip
theorem f97_l8_r (c : f97_l8_C) (x : f97_l8_X) : roundS f97_fx f97_l8_b f97_l8_nd (f97_l8_put c x) = f97_l8_k x.1 x.2 (fun x => some (.inl (f97_l8_put c x))) (fun y => some (.inr (.inl (f97_l8_w0 c y)))) := by kernel_rfl
theorem f97_l8_n {R : Type} (a0 : Int) (a1 : List Int) (kin : f97_l8_X → Option R) (k0 : List Int → Option R) : f97_l8_k a0 a1 kin k0 = (f97_l8_g (a0, a1)).bind (Sum.elim kin k0) := by
  simp only [f97_l8_g, f97_l8_k, cond_bind, ite_bind, bind_bind, some_bind, none_bind, elim_bind, Sum.elim_inl, Sum.elim_inr]
theorem f97_l8_ok : LoopOk f97_fx f97_l8_b f97_l8_nd := loop_ok f97_l8_con f97_l8_get f97_l8_put f97_l8_pg (fun c => f97_l8_g) f97_l8_out (fun t y => rfl) (fun t y K => rfl) (fun c x => by
  refine (f97_l8_r c x).trans ((f97_l8_n _ _ _ _).trans ?_)
  first
  | rfl
  | congr 1
    funext s
    rcases s with s | s <;> rfl) (fun t => rfl)
noncomputable def f97_t6_b : Code := (tails f97_code).getD 4 .skip
theorem f97_t6_r (c : f97_t6_C) (x : f97_t6_X) : tailS f97_fx f97_t6_b f97_t6_nd (f97_t6_put c x) = f97_t6_k x.1 x.2 (fun y => some (.inl (f97_t6_w0 c x y))) := by kernel_rfl
theorem f97_t6_n {R : Type} (a0 : List Int) (a1 : Int) (k0 : List Int → Option R) : f97_t6_k a0 a1 k0 = (f97_t6 a0 a1).bind k0 := by
  simp only [f97_t6, f97_t6_k, cond_bind, ite_bind, bind_bind, some_bind, none_bind, elim_bind, Sum.elim_inl, Sum.elim_inr]
theorem f97_t6_ok : TailOk f97_fx f97_t6_b f97_t6_nd := tail_ok f97_t6_con f97_t6_get f97_t6_put f97_t6_pg (fun x => f97_t6 x.1 x.2) f97_t6_out (fun t y => rfl) (fun t y K => rfl) (fun c x => by
  refine (f97_t6_r c x).trans ((f97_t6_n _ _ _).trans ?_)
  first
  | rfl
  | congr 1
    funext s
    rfl) (fun t => rfl)
noncomputable def f97_t3_b : Code := (tails f97_code).getD 1 .skip
theorem f97_t3_r (c : f97_t3_C) (x : f97_t3_X) : tailS f97_fx f97_t3_b f97_t3_nd (f97_t3_put c x) = f97_t3_k x.1 x.2 (fun y => some (.inl (f97_t3_w0 c x y))) := by kernel_rfl
theorem f97_t3_n {R : Type} (a0 : List Int) (a1 : Int) (k0 : List Int → Option R) : f97_t3_k a0 a1 k0 = (f97_t3 a0 a1).bind k0 := by
  simp only [f97_t3, f97_t3_k, cond_bind, ite_bind, bind_bind, some_bind, none_bind, elim_bind, Sum.elim_inl, Sum.elim_inr]
theorem f97_t3_ok : TailOk f97_fx f97_t3_b f97_t3_nd := tail_ok f97_t3_con f97_t3_get f97_t3_put f97_t3_pg (fun x => f97_t3 x.1 x.2) f97_t3_out (fun t y => rfl) (fun t y K => rfl) (fun c x => by
  refine (f97_t3_r c x).trans ((f97_t3_n _ _ _).trans ?_)
  first
  | rfl
  | congr 1
    funext s
    rfl) (fun t => rfl)
noncomputable def f97_k {R : Type} (a0 : List Int) (a1 : Int) (k : (List Int × Unit) × (Unit) → Option R) : Option R :=
 (cond (decide (a1 < (0 : Int)))
 none
 ((f97_t3 a0 a1).bind fun y7 =>
  (k ((y7, ()), ()))))
noncomputable def f97 (a0 : List Int) (a1 : Int) : Option ((List Int × Unit) × (Unit)) := f97_k a0 a1 some
noncomputable def f97_sm : Sm := ⟨[.ro (.slc (.int .u8)), .ro (.int .i64)], [((.slc (.int .u8)), .ro)], fun x => f97 x.1 x.2.1⟩
theorem f97_m (x : ArgT [.ro (.slc (.int .u8)), .ro (.int .i64)]) : codeS f97_fx f97_code (start [.ro (.slc (.int .u8)), .ro (.int .i64)] [] x 48) (finK env [.tmp 4] [.ro (.slc (.int .u8)), .ro (.int .i64)] [((.slc (.int .u8)), .ro)]) = f97_k x.1 x.2.1 (fun r => some (r, [])) := by kernel_rfl
theorem f97_n {R : Type} (a0 : List Int) (a1 : Int) (k : (List Int × Unit) × (Unit) → Option R) : f97_k a0 a1 k = (f97 a0 a1).bind k := by
  simp only [f97, f97_k, cond_bind, ite_bind, bind_bind, some_bind, none_bind, elim_bind]
theorem f97_f : FnOk Try.prog 97 := ⟨Try.f97, Try.func97, by kernel_rfl, by kernel_rfl⟩
theorem f97_ok : SmOk Try.prog 97 f97_sm :=
  sum_of (c := f97_fx) (fn := Try.f97) (code := f97_code) (sm := f97_sm) mixed (env_ok env_envB) (TabsOk.all ⟨⟨f131_ok, f131_f⟩, trivial⟩) Try.func97 (by kernel_rfl)
   ((LoopsOk.of (l := [f97_l8_b]) (by kernel_rfl) ⟨node_is (by kernel_rfl) f97_l8_ok, trivial⟩))
   ((TailsOk.of (l := [((tails f97_code).getD 0 .skip), f97_t3_b, ((tails f97_code).getD 2 .skip), ((tails f97_code).getD 3 .skip), f97_t6_b, ((tails f97_code).getD 5 .skip), ((tails f97_code).getD 6 .skip), ((tails f97_code).getD 7 .skip), ((tails f97_code).getD 8 .skip), ((tails f97_code).getD 9 .skip), ((tails f97_code).getD 10 .skip), ((tails f97_code).getD 11 .skip)]) (by kernel_rfl) ⟨node_no (by kernel_rfl), node_is (by kernel_rfl) f97_t3_ok, node_no (by kernel_rfl), node_no (by kernel_rfl), node_is (by kernel_rfl) f97_t6_ok, node_no (by kernel_rfl), node_no (by kernel_rfl), node_no (by kernel_rfl), node_no (by kernel_rfl), node_no (by kernel_rfl), node_no (by kernel_rfl), node_no (by kernel_rfl), trivial⟩))
   (fun ks x hl => by
    have hk : ks = [] := List.length_eq_zero_iff.1 hl
    subst hk
    exact (f97_m x).trans (f97_n _ _ _))
/-! bakelite/bakeref2.Remainder -/
noncomputable def f140_code : Code := (Try.f140.body).getD .skip
noncomputable def f140_l6_sk : SkS := ⟨25, [(5, .con (.int .i64)), (1, .con (.int .u8)), (0, .con (.int .i64)), (4, .con (.slc (.int .u8))), (0, .con (.int .i64)), (0, .con (.int .i64))], []⟩
noncomputable def f140_l6_o0 : SkS := ⟨25, [(5, .con (.int .i64)), (7, .con (.slc (.int .u8))), (0, .con (.int .i64)), (0, .con (.int .i64))], []⟩
noncomputable def f140_l6_outs : List Way := [⟨(.exit 2), [], f140_l6_o0⟩]
abbrev f140_l6_C := (Int × List Int × Int × Int)
abbrev f140_l6_X := (Int × Int)
abbrev f140_l6_Y := (Int)
noncomputable def f140_l6_con (t : f140_l6_sk.T) : f140_l6_C := (t.1.2.1, t.1.2.2.2.1, t.1.2.2.2.2.1, t.1.2.2.2.2.2.1)
noncomputable def f140_l6_get (t : f140_l6_sk.T) : f140_l6_X := (t.1.1, t.1.2.2.1)
noncomputable def f140_l6_put (c : f140_l6_C) (x : f140_l6_X) : f140_l6_sk.T := ((x.1, (c.1, (x.2, (c.2.1, (c.2.2.1, (c.2.2.2, ())))))), ())
theorem f140_l6_pg (t : f140_l6_sk.T) : f140_l6_put (f140_l6_con t) (f140_l6_get t) = t := by kernel_rfl
noncomputable def f140_l6_w0 (c : f140_l6_C) (y : Int) : f140_l6_o0.T := ((y, (c.2.1, (c.2.2.1, (c.2.2.2, ())))), ())
noncomputable def f140_l6_out (c : f140_l6_C) (y : f140_l6_Y) : OutV f140_l6_outs := (fun y => (.inl (f140_l6_w0 c y))) y
noncomputable def f140_l6_k {R : Type} (a0 : Int) (a1 : Int) (a2 : Int) (a3 : List Int) (a4 : Int) (a5 : Int) (kin : f140_l6_X → Option R) (k0 : Int → Option R) : Option R :=
 (cond (decide (a2 ≥ (0 : Int)))
 (if a2 < 0 then none else (let v1 : Int := (Int.fdiv a1 (2 ^ (min (Int.toNat a2) 8)))
  (let v2 : Int := (bitop IntKind.i64 .and (IntKind.i64.wrap v1) (1 : Int))
  (let v3 : Int := (Int.fdiv a0 (2 ^ (min 15 64)))
  (let v4 : Int := (bitop IntKind.i64 .and v3 (1 : Int))
  (let v5 : Int := (IntKind.i64.wrap (a0 * 2 ^ (min 1 64)))
  (let v6 : Int := (bitop IntKind.i64 .and v5 (65535 : Int))
  (cond (v4 != v2)
  (let v7 : Int := (bitop IntKind.i64 .xor v6 (4129 : Int))
   (let v8 : Int := (IntKind.i64.wrap (a2 - (1 : Int)))
   (kin (v7, v8))))
  (let v9 : Int := (IntKind.i64.wrap (a2 - (1 : Int)))
   (kin (v6, v9)))))))))))
 (k0 a0))
noncomputable def f140_l6_g (a1 : Int) (a3 : List Int) (a4 : Int) (a5 : Int) (x : f140_l6_X) : Option (f140_l6_X ⊕ f140_l6_Y) := f140_l6_k x.1 a1 x.2 a3 a4 a5 (fun x => some (.inl x)) (fun y => some (.inr y))
noncomputable def f140_l6 (a1 : Int) (a3 : List Int) (a4 : Int) (a5 : Int) (x : f140_l6_X) : Option f140_l6_Y := loopO (f140_l6_g a1 a3 a4 a5) x
noncomputable def f140_l6_nd : Node := { nils := [], sk := f140_l6_sk, outs := f140_l6_outs, Y := f140_l6_Y, L := fun t => f140_l6 ((f140_l6_con t).1) ((f140_l6_con t).2.1) ((f140_l6_con t).2.2.1) ((f140_l6_con t).2.2.2) (f140_l6_get t), out := fun t y => f140_l6_out (f140_l6_con t) y, disp := fun t y K => (fun y => K (.exit 2) (f140_l6_o0.fill (f140_l6_w0 (f140_l6_con t) y))) y }
noncomputable def f140_l3_sk : SkS := ⟨25, [(5, .con (.int .i64)), (7, .con (.slc (.int .u8))), (0, .con (.int .i64)), (0, .con (.int .i64))], []⟩
noncomputable def f140_l3_o0 : SkS := ⟨35, [(5, .con (.int .i64))], []⟩
noncomputable def f140_l3_outs : List Way := [⟨(.exit 0), [], f140_l3_o0⟩]
abbrev f140_l3_C := (List Int × Int)
abbrev f140_l3_X := (Int × Int)
abbrev f140_l3_Y := (Int)
noncomputable def f140_l3_con (t : f140_l3_sk.T) : f140_l3_C := (t.1.2.1, t.1.2.2.1)
noncomputable def f140_l3_get (t : f140_l3_sk.T) : f140_l3_X := (t.1.1, t.1.2.2.2.1)
noncomputable def f140_l3_put (c : f140_l3_C) (x : f140_l3_X) : f140_l3_sk.T := ((x.1, (c.1, (c.2, (x.2, ())))), ())
theorem f140_l3_pg (t : f140_l3_sk.T) : f140_l3_put (f140_l3_con t) (f140_l3_get t) = t := by kernel_rfl
noncomputable def f140_l3_w0 (c : f140_l3_C) (y : Int) : f140_l3_o0.T := ((y, ()), ())
noncomputable def f140_l3_out (c : f140_l3_C) (y : f140_l3_Y) : OutV f140_l3_outs := (fun y => (.inl (f140_l3_w0 c y))) y
noncomputable def f140_l3_k {R : Type} (a0 : Int) (a1 : List Int) (a2 : Int) (a3 : Int) (kin : f140_l3_X → Option R) (k0 : Int → Option R) : Option R :=
 (cond (decide (a3 < a2))
 (if (0 : Int) ≤ a3 ∧ a3 < ((List.length a1 : Nat) : Int) then ((f140_l6 (List.getD a1 (Int.toNat a3) (0 : Int)) a1 a2 a3 (a0, (7 : Int))).bind fun y10 =>
  (let v11 : Int := (IntKind.i64.wrap (a3 + (1 : Int)))
  (kin (y10, v11)))) else none)
 (k0 a0))
noncomputable def f140_l3_g (a1 : List Int) (a2 : Int) (x : f140_l3_X) : Option (f140_l3_X ⊕ f140_l3_Y) := f140_l3_k x.1 a1 a2 x.2 (fun x => some (.inl x)) (fun y => some (.inr y))
noncomputable def f140_l3 (a1 : List Int) (a2 : Int) (x : f140_l3_X) : Option f140_l3_Y := loopO (f140_l3_g a1 a2) x
noncomputable def f140_l3_nd : Node := { nils := [], sk := f140_l3_sk, outs := f140_l3_outs, Y := f140_l3_Y, L := fun t => f140_l3 ((f140_l3_con t).1) ((f140_l3_con t).2) (f140_l3_get t), out := fun t y => f140_l3_out (f140_l3_con t) y, disp := fun t y K => (fun y => K (.exit 0) (f140_l3_o0.fill (f140_l3_w0 (f140_l3_con t) y))) y }
noncomputable def f140_fx : Fx := { E := env, T := [], H := [], O := [], nodes := [((true, 6), f140_l6_nd), ((true, 3), f140_l3_nd)] }
noncomputable def f140_l6_b : Code := (loops f140_code).getD 1 .skip
theorem f140_l6_r (c : f140_l6_C) (x : f140_l6_X) : roundS f140_fx f140_l6_b f140_l6_nd (f140_l6_put c x) = f140_l6_k x.1 c.1 x.2 c.2.1 c.2.2.1 c.2.2.2 (fun x => some (.inl (f140_l6_put c x))) (fun y => some (.inr (.inl (f140_l6_w0 c y)))) := by kernel_rfl
theorem f140_l6_n {R : Type} (a0 : Int) (a1 : Int) (a2 : Int) (a3 : List Int) (a4 : Int) (a5 : Int) (kin : f140_l6_X → Option R) (k0 : Int → Option R) : f140_l6_k a0 a1 a2 a3 a4 a5 kin k0 = (f140_l6_g a1 a3 a4 a5 (a0, a2)).bind (Sum.elim kin k0) := by
  simp only [f140_l6_g, f140_l6_k, cond_bind, ite_bind, bind_bind, some_bind, none_bind, elim_bind, Sum.elim_inl, Sum.elim_inr]
theorem f140_l6_ok : LoopOk f140_fx f140_l6_b f140_l6_nd := loop_ok f140_l6_con f140_l6_get f140_l6_put f140_l6_pg (fun c => f140_l6_g c.1 c.2.1 c.2.2.1 c.2.2.2) f140_l6_out (fun t y => rfl) (fun t y K => rfl) (fun c x => by
  refine (f140_l6_r c x).trans ((f140_l6_n _ _ _ _ _ _ _ _).trans ?_)
  first
  | rfl
  | congr 1
    funext s
    rcases s with s | s <;> rfl) (fun t => rfl)
noncomputable def f140_l3_b : Code := (loops f140_code).getD 0 .skip
theorem f140_l3_r (c : f140_l3_C) (x : f140_l3_X) : roundS f140_fx f140_l3_b f140_l3_nd (f140_l3_put c x) = f140_l3_k x.1 c.1 c.2 x.2 (fun x => some (.inl (f140_l3_put c x))) (fun y => some (.inr (.inl (f140_l3_w0 c y)))) := by kernel_rfl
theorem f140_l3_n {R : Type} (a0 : Int) (a1 : List Int) (a2 : Int) (a3 : Int) (kin : f140_l3_X → Option R) (k0 : Int → Option R) : f140_l3_k a0 a1 a2 a3 kin k0 = (f140_l3_g a1 a2 (a0, a3)).bind (Sum.elim kin k0) := by
  simp only [f140_l3_g, f140_l3_k, cond_bind, ite_bind, bind_bind, some_bind, none_bind, elim_bind, Sum.elim_inl, Sum.elim_inr]
theorem f140_l3_ok : LoopOk f140_fx f140_l3_b f140_l3_nd := loop_ok f140_l3_con f140_l3_get f140_l3_put f140_l3_pg (fun c => f140_l3_g c.1 c.2) f140_l3_out (fun t y => rfl) (fun t y K => rfl) (fun c x => by
  refine (f140_l3_r c x).trans ((f140_l3_n _ _ _ _ _ _).trans ?_)
  first
  | rfl
  | congr 1
    funext s
    rcases s with s | s <;> rfl) (fun t => rfl)
noncomputable def f140_k {R : Type} (a0 : Int) (a1 : List Int) (k : (Int × Unit) × (Unit) → Option R) : Option R :=
 (let v0 : Int := (bitop IntKind.i64 .and a0 (65535 : Int))
 ((f140_l3 a1 ((List.length a1 : Nat) : Int) (v0, (0 : Int))).bind fun y12 =>
 (k ((y12, ()), ()))))
noncomputable def f140 (a0 : Int) (a1 : List Int) : Option ((Int × Unit) × (Unit)) := f140_k a0 a1 some
noncomputable def f140_sm : Sm := ⟨[.ro (.int .i64), .ro (.slc (.int .u8))], [((.int .i64), .ro)], fun x => f140 x.1 x.2.1⟩
theorem f140_m (x : ArgT [.ro (.int .i64), .ro (.slc (.int .u8))]) : codeS f140_fx f140_code (start [.ro (.int .i64), .ro (.slc (.int .u8))] [] x 41) (finK env [.tmp 4] [.ro (.int .i64), .ro (.slc (.int .u8))] [((.int .i64), .ro)]) = f140_k x.1 x.2.1 (fun r => some (r, [])) := by kernel_rfl
theorem f140_n {R : Type} (a0 : Int) (a1 : List Int) (k : (Int × Unit) × (Unit) → Option R) : f140_k a0 a1 k = (f140 a0 a1).bind k := by
  simp only [f140, f140_k, cond_bind, ite_bind, bind_bind, some_bind, none_bind, elim_bind]
theorem f140_f : FnOk Try.prog 140 := ⟨Try.f140, Try.func140, by kernel_rfl, by kernel_rfl⟩
theorem f140_ok : SmOk Try.prog 140 f140_sm :=
  sum_of (c := f140_fx) (fn := Try.f140) (code := f140_code) (sm := f140_sm) mixed (env_ok env_envB) (TabsOk.all trivial) Try.func140 (by kernel_rfl)
   ((LoopsOk.of (l := [f140_l3_b, f140_l6_b]) (by kernel_rfl) ⟨node_is (by kernel_rfl) f140_l3_ok, node_is (by kernel_rfl) f140_l6_ok, trivial⟩))
   (no_tails (by kernel_rfl))
   (fun ks x hl => by
    have hk : ks = [] := List.length_eq_zero_iff.1 hl
    subst hk
    exact (f140_m x).trans (f140_n _ _ _))
/-! slices.Clone[[]byte,byte] -/
noncomputable def f76_code : Code := (Try.f76.body).getD .skip
noncomputable def f76_fx : Fx := { E := env, T := [], H := [], O := [], nodes := [] }
noncomputable def f76_k {R : Type} (a0 : List Int) (k : (List Int × Unit) × (Unit) → Option R) : Option R :=
 (nilT (List.isEmpty a0)
 (k (([], ()), ()))
 (if (0 + List.length a0) * 1 ≤ most ∧ 0 < 1 ∧ 0 < 1 then (let r0 : List Int := ([] ++ a0)
  (k ((r0, ()), ()))) else none))
noncomputable def f76 (a0 : List Int) : Option ((List Int × Unit) × (Unit)) := f76_k a0 some
noncomputable def f76_sm : Sm := ⟨[.ro (.slc (.int .u8))], [((.slc (.int .u8)), (.own .ro))], fun x => f76 x.1⟩
theorem f76_m (x : ArgT [.ro (.slc (.int .u8))]) : codeS f76_fx f76_code (start [.ro (.slc (.int .u8))] [] x 8) (finK env [.tmp 2] [.ro (.slc (.int .u8))] [((.slc (.int .u8)), (.own .ro))]) = f76_k x.1 (fun r => some (r, [])) := by kernel_rfl
theorem f76_n {R : Type} (a0 : List Int) (k : (List Int × Unit) × (Unit) → Option R) : f76_k a0 k = (f76 a0).bind k := by
  simp only [f76, f76_k, cond_bind, ite_bind, bind_bind, some_bind, none_bind, elim_bind]
  rcases a0 with _ | ⟨x, l⟩ <;> simp [nilT, ite_bind, most]
theorem f76_f : FnOk Try.prog 76 := ⟨Try.f76, Try.func76, by kernel_rfl, by kernel_rfl⟩
theorem f76_ok : SmOk Try.prog 76 f76_sm :=
  sum_of (c := f76_fx) (fn := Try.f76) (code := f76_code) (sm := f76_sm) mixed (env_ok env_envB) (TabsOk.all trivial) Try.func76 (by kernel_rfl)
   ((LoopsOk.of (l := []) (by kernel_rfl) trivial))
   (no_tails (by kernel_rfl))
   (fun ks x hl => by
    have hk : ks = [] := List.length_eq_zero_iff.1 hl
    subst hk
    exact (f76_m x).trans (f76_n _ _))
/-! bakelite/bakeref2.Sealed -/
noncomputable def f109_code : Code := (Try.f109.body).getD .skip
noncomputable def f109_fx : Fx := { E := env, T := [(140, f140_sm), (76, f76_sm)], H := [], O := [], nodes := [] }
noncomputable def f109_k {R : Type} (a0 : List Int) (k : (List Int × Unit) × (Unit) → Option R) : Option R :=
 ((f140 (65535 : Int) a0).bind fun r0 =>
 ((f76 a0).bind fun r1 =>
 (let v2 : Int := (IntKind.i64.wrap (Int.tdiv r0.1.1 (256 : Int)))
 (let v3 : Int := (Int.tmod r0.1.1 (256 : Int))
 (if (List.length r1.1.1 + 2) * 1 ≤ most ∧ 0 < 1 ∧ 0 < 1 then (let r4 : List Int := (r1.1.1 ++ [(IntKind.u8.wrap v2), (IntKind.u8.wrap v3)])
 (k ((r4, ()), ()))) else none)))))
noncomputable def f109 (a0 : List Int) : Option ((List Int × Unit) × (Unit)) := f109_k a0 some
noncomputable def f109_sm : Sm := ⟨[.ro (.slc (.int .u8))], [((.slc (.int .u8)), (.own .ro))], fun x => f109 x.1⟩
theorem f109_m (x : ArgT [.ro (.slc (.int .u8))]) : codeS f109_fx f109_code (start [.ro (.slc (.int .u8))] [] x 16) (finK env [.tmp 2] [.ro (.slc (.int .u8))] [((.slc (.int .u8)), (.own .ro))]) = f109_k x.1 (fun r => some (r, [])) := by kernel_rfl
theorem f109_n {R : Type} (a0 : List Int) (k : (List Int × Unit) × (Unit) → Option R) : f109_k a0 k = (f109 a0).bind k := by
  simp only [f109, f109_k, cond_bind, ite_bind, bind_bind, some_bind, none_bind, elim_bind]
theorem f109_f : FnOk Try.prog 109 := ⟨Try.f109, Try.func109, by kernel_rfl, by kernel_rfl⟩
theorem f109_ok : SmOk Try.prog 109 f109_sm :=
  sum_of (c := f109_fx) (fn := Try.f109) (code := f109_code) (sm := f109_sm) mixed (env_ok env_envB) (TabsOk.all ⟨⟨f140_ok, f140_f⟩, ⟨f76_ok, f76_f⟩, trivial⟩) Try.func109 (by kernel_rfl)
   ((LoopsOk.of (l := []) (by kernel_rfl) trivial))
   (no_tails (by kernel_rfl))
   (fun ks x hl => by
    have hk : ks = [] := List.length_eq_zero_iff.1 hl
    subst hk
    exact (f109_m x).trans (f109_n _ _))
/-! slices.Grow[[]byte,byte] -/
noncomputable def f133_code : Code := (Try.f133.body).getD .skip
noncomputable def f133_fx : Fx := { E := env, T := [], H := [], O := [], nodes := [] }
noncomputable def f133_k {R : Type} (a0 : Unit) (a1 : Int) (k : (List Int × Unit) × (Unit) → Option R) : Option R :=
 (cond (decide (a1 < (0 : Int)))
 none
 (let v0 : Int := (IntKind.i64.wrap (a1 - (0 : Int)))
  (cond (decide (v0 > (0 : Int)))
  (if (0 : Int) < v0 ∧ v0 * 1 ≤ (most : Int) ∧ 0 < 1 ∧ 0 < 1 then (if (0 : Int) ≤ (0 : Int) ∧ (0 : Int) ≤ (0 : Int) ∧ (0 : Int) ≤ ((List.length (List.replicate (Int.toNat v0) (0 : Int)) : Nat) : Int) then (k (((List.take 0 (List.drop 0 (List.replicate (Int.toNat v0) (0 : Int)))), ()), ())) else none) else none)
  (k (([], ()), ())))))
noncomputable def f133 (a0 : Unit) (a1 : Int) : Option ((List Int × Unit) × (Unit)) := f133_k a0 a1 some
noncomputable def f133_sm : Sm := ⟨[.nil, .ro (.int .i64)], [((.slc (.int .u8)), (.own .ro))], fun x => f133 x.1 x.2.1⟩
theorem f133_m (x : ArgT [.nil, .ro (.int .i64)]) : codeS f133_fx f133_code (start [.nil, .ro (.int .i64)] [] x 27) (finK env [.tmp 4] [.nil, .ro (.int .i64)] [((.slc (.int .u8)), (.own .ro))]) = f133_k x.1 x.2.1 (fun r => some (r, [])) := by kernel_rfl
theorem f133_n {R : Type} (a0 : Unit) (a1 : Int) (k : (List Int × Unit) × (Unit) → Option R) : f133_k a0 a1 k = (f133 a0 a1).bind k := by
  simp only [f133, f133_k, cond_bind, ite_bind, bind_bind, some_bind, none_bind, elim_bind]
theorem f133_f : FnOk Try.prog 133 := ⟨Try.f133, Try.func133, by kernel_rfl, by kernel_rfl⟩
theorem f133_ok : SmOk Try.prog 133 f133_sm :=
  sum_of (c := f133_fx) (fn := Try.f133) (code := f133_code) (sm := f133_sm) mixed (env_ok env_envB) (TabsOk.all trivial) Try.func133 (by kernel_rfl)
   ((LoopsOk.of (l := []) (by kernel_rfl) trivial))
   (no_tails (by kernel_rfl))
   (fun ks x hl => by
    have hk : ks = [] := List.length_eq_zero_iff.1 hl
    subst hk
    exact (f133_m x).trans (f133_n _ _ _))
/-! slices.Concat[[]byte,byte] -/
noncomputable def f102_code : Code := (Try.f102.body).getD .skip
noncomputable def f102_l3_sk : SkS := ⟨24, [(0, .con (.slc (.slc (.int .u8)))), (2, .con (.int .i64)), (5, .con (.slc (.slc (.int .u8)))), (0, .con (.int .i64)), (0, .con (.int .i64))], []⟩
noncomputable def f102_l3_o0 : SkS := ⟨32, [(0, .con (.slc (.slc (.int .u8)))), (2, .con (.int .i64))], []⟩
noncomputable def f102_l3_outs : List Way := [⟨(.exit 0), [], f102_l3_o0⟩]
abbrev f102_l3_C := (List (List Int) × List (List Int) × Int)
abbrev f102_l3_X := (Int × Int)
abbrev f102_l3_Y := (Int)
noncomputable def f102_l3_con (t : f102_l3_sk.T) : f102_l3_C := (t.1.1, t.1.2.2.1, t.1.2.2.2.1)
noncomputable def f102_l3_get (t : f102_l3_sk.T) : f102_l3_X := (t.1.2.1, t.1.2.2.2.2.1)
noncomputable def f102_l3_put (c : f102_l3_C) (x : f102_l3_X) : f102_l3_sk.T := ((c.1, (x.1, (c.2.1, (c.2.2, (x.2, ()))))), ())
theorem f102_l3_pg (t : f102_l3_sk.T) : f102_l3_put (f102_l3_con t) (f102_l3_get t) = t := by kernel_rfl
noncomputable def f102_l3_w0 (c : f102_l3_C) (y : Int) : f102_l3_o0.T := ((c.1, (y, ())), ())
noncomputable def f102_l3_out (c : f102_l3_C) (y : f102_l3_Y) : OutV f102_l3_outs := (fun y => (.inl (f102_l3_w0 c y))) y
noncomputable def f102_l3_k {R : Type} (a0 : List (List Int)) (a1 : Int) (a2 : List (List Int)) (a3 : Int) (a4 : Int) (kin : f102_l3_X → Option R) (k0 : Int → Option R) : Option R :=
 (cond (decide (a4 < a3))
 (if (0 : Int) ≤ a4 ∧ a4 < ((List.length a2 : Nat) : Int) then (let v0 : Int := (IntKind.i64.wrap (a1 + ((List.length (List.getD a2 (Int.toNat a4) ([] : List Int)) : Nat) : Int)))
  (cond (decide (v0 < (0 : Int)))
  none
  (let v1 : Int := (IntKind.i64.wrap (a4 + (1 : Int)))
   (kin (v0, v1))))) else none)
 (k0 a1))
noncomputable def f102_l3_g (a0 : List (List Int)) (a2 : List (List Int)) (a3 : Int) (x : f102_l3_X) : Option (f102_l3_X ⊕ f102_l3_Y) := f102_l3_k a0 x.1 a2 a3 x.2 (fun x => some (.inl x)) (fun y => some (.inr y))
noncomputable def f102_l3 (a0 : List (List Int)) (a2 : List (List Int)) (a3 : Int) (x : f102_l3_X) : Option f102_l3_Y := loopO (f102_l3_g a0 a2 a3) x
noncomputable def f102_l3_nd : Node := { nils := [], sk := f102_l3_sk, outs := f102_l3_outs, Y := f102_l3_Y, L := fun t => f102_l3 ((f102_l3_con t).1) ((f102_l3_con t).2.1) ((f102_l3_con t).2.2) (f102_l3_get t), out := fun t y => f102_l3_out (f102_l3_con t) y, disp := fun t y K => (fun y => K (.exit 0) (f102_l3_o0.fill (f102_l3_w0 (f102_l3_con t) y))) y }
noncomputable def f102_l11_sk : SkS := ⟨8, [(6, .ref 111 []), (18, .con (.slc (.slc (.int .u8)))), (0, .con (.int .i64)), (0, .con (.int .i64))], [(111, ⟨none, (.slc (.int .u8)), (.own .ro)⟩)]⟩
noncomputable def f102_l11_o0 : SkS := ⟨29, [(6, .ref 111 [])], [(111, ⟨none, (.slc (.int .u8)), (.own .ro)⟩)]⟩
noncomputable def f102_l11_outs : List Way := [⟨(.exit 2), [], f102_l11_o0⟩]
abbrev f102_l11_C := (List (List Int) × Int)
abbrev f102_l11_X := (Int × List Int)
abbrev f102_l11_Y := (List Int)
noncomputable def f102_l11_con (t : f102_l11_sk.T) : f102_l11_C := (t.1.1, t.1.2.1)
noncomputable def f102_l11_get (t : f102_l11_sk.T) : f102_l11_X := (t.1.2.2.1, t.2.1.1)
noncomputable def f102_l11_put (c : f102_l11_C) (x : f102_l11_X) : f102_l11_sk.T := ((c.1, (c.2, (x.1, ()))), ((x.2, ()), ()))
theorem f102_l11_pg (t : f102_l11_sk.T) : f102_l11_put (f102_l11_con t) (f102_l11_get t) = t := by kernel_rfl
noncomputable def f102_l11_w0 (c : f102_l11_C) (y : List Int) : f102_l11_o0.T := ((), ((y, ()), ()))
noncomputable def f102_l11_out (c : f102_l11_C) (y : f102_l11_Y) : OutV f102_l11_outs := (fun y => (.inl (f102_l11_w0 c y))) y
noncomputable def f102_l11_k {R : Type} (a0 : List (List Int)) (a1 : Int) (a2 : Int) (a3 : List Int) (kin : f102_l11_X → Option R) (k0 : List Int → Option R) : Option R :=
 (cond (decide (a2 < a1))
 (if (0 : Int) ≤ a2 ∧ a2 < ((List.length a0 : Nat) : Int) then (if (List.length a3 + List.length (List.getD a0 (Int.toNat a2) ([] : List Int))) * 1 ≤ most ∧ 0 < 1 ∧ 0 < 1 then (let r4 : List Int := (a3 ++ (List.getD a0 (Int.toNat a2) ([] : List Int)))
  (let v5 : Int := (IntKind.i64.wrap (a2 + (1 : Int)))
  (kin (v5, r4)))) else none) else none)
 (k0 a3))
noncomputable def f102_l11_g (a0 : List (List Int)) (a1 : Int) (x : f102_l11_X) : Option (f102_l11_X ⊕ f102_l11_Y) := f102_l11_k a0 a1 x.1 x.2 (fun x => some (.inl x)) (fun y => some (.inr y))
noncomputable def f102_l11 (a0 : List (List Int)) (a1 : Int) (x : f102_l11_X) : Option f102_l11_Y := loopO (f102_l11_g a0 a1) x
noncomputable def f102_l11_nd : Node := { nils := [(6, 111, (.int .u8), .ro)], sk := f102_l11_sk, outs := f102_l11_outs, Y := f102_l11_Y, L := fun t => f102_l11 ((f102_l11_con t).1) ((f102_l11_con t).2) (f102_l11_get t), out := fun t y => f102_l11_out (f102_l11_con t) y, disp := fun t y K => (fun y => K (.exit 2) (f102_l11_o0.fill (f102_l11_w0 (f102_l11_con t) y))) y }
noncomputable def f102_fx : Fx := { E := env, T := [(133, f133_sm)], H := [], O := [], nodes := [((true, 3), f102_l3_nd), ((true, 11), f102_l11_nd)] }
noncomputable def f102_l3_b : Code := (loops f102_code).getD 0 .skip
theorem f102_l3_r (c : f102_l3_C) (x : f102_l3_X) : roundS f102_fx f102_l3_b f102_l3_nd (f102_l3_put c x) = f102_l3_k c.1 x.1 c.2.1 c.2.2 x.2 (fun x => some (.inl (f102_l3_put c x))) (fun y => some (.inr (.inl (f102_l3_w0 c y)))) := by kernel_rfl
theorem f102_l3_n {R : Type} (a0 : List (List Int)) (a1 : Int) (a2 : List (List Int)) (a3 : Int) (a4 : Int) (kin : f102_l3_X → Option R) (k0 : Int → Option R) : f102_l3_k a0 a1 a2 a3 a4 kin k0 = (f102_l3_g a0 a2 a3 (a1, a4)).bind (Sum.elim kin k0) := by
  simp only [f102_l3_g, f102_l3_k, cond_bind, ite_bind, bind_bind, some_bind, none_bind, elim_bind, Sum.elim_inl, Sum.elim_inr]
theorem f102_l3_ok : LoopOk f102_fx f102_l3_b f102_l3_nd := loop_ok f102_l3_con f102_l3_get f102_l3_put f102_l3_pg (fun c => f102_l3_g c.1 c.2.1 c.2.2) f102_l3_out (fun t y => rfl) (fun t y K => rfl) (fun c x => by
  refine (f102_l3_r c x).trans ((f102_l3_n _ _ _ _ _ _ _).trans ?_)
  first
  | rfl
  | congr 1
    funext s
    rcases s with s | s <;> rfl) (fun t => rfl)
noncomputable def f102_l11_b : Code := (loops f102_code).getD 1 .skip
theorem f102_l11_r (c : f102_l11_C) (x : f102_l11_X) : roundS f102_fx f102_l11_b f102_l11_nd (f102_l11_put c x) = f102_l11_k c.1 c.2 x.1 x.2 (fun x => some (.inl (f102_l11_put c x))) (fun y => some (.inr (.inl (f102_l11_w0 c y)))) := by kernel_rfl
theorem f102_l11_n {R : Type} (a0 : List (List Int)) (a1 : Int) (a2 : Int) (a3 : List Int) (kin : f102_l11_X → Option R) (k0 : List Int → Option R) : f102_l11_k a0 a1 a2 a3 kin k0 = (f102_l11_g a0 a1 (a2, a3)).bind (Sum.elim kin k0) := by
  simp only [f102_l11_g, f102_l11_k, cond_bind, ite_bind, bind_bind, some_bind, none_bind, elim_bind, Sum.elim_inl, Sum.elim_inr]
theorem f102_l11_ok : LoopOk f102_fx f102_l11_b f102_l11_nd := loop_ok f102_l11_con f102_l11_get f102_l11_put f102_l11_pg (fun c => f102_l11_g c.1 c.2) f102_l11_out (fun t y => rfl) (fun t y K => rfl) (fun c x => by
  refine (f102_l11_r c x).trans ((f102_l11_n _ _ _ _ _ _).trans ?_)
  first
  | rfl
  | congr 1
    funext s
    rcases s with s | s <;> rfl) (fun t => rfl)
noncomputable def f102_k {R : Type} (a0 : List (List Int)) (k : (List Int × Unit) × (Unit) → Option R) : Option R :=
 ((f102_l3 a0 a0 ((List.length a0 : Nat) : Int) ((0 : Int), (0 : Int))).bind fun y2 =>
 ((f133 () y2).bind fun r3 =>
 ((f102_l11 a0 ((List.length a0 : Nat) : Int) ((0 : Int), r3.1.1)).bind fun y6 =>
 (k ((y6, ()), ())))))
noncomputable def f102 (a0 : List (List Int)) : Option ((List Int × Unit) × (Unit)) := f102_k a0 some
noncomputable def f102_sm : Sm := ⟨[.ro (.slc (.slc (.int .u8)))], [((.slc (.int .u8)), (.own .ro))], fun x => f102 x.1⟩
theorem f102_m (x : ArgT [.ro (.slc (.slc (.int .u8)))]) : codeS f102_fx f102_code (start [.ro (.slc (.slc (.int .u8)))] [] x 36) (finK env [.tmp 2] [.ro (.slc (.slc (.int .u8)))] [((.slc (.int .u8)), (.own .ro))]) = f102_k x.1 (fun r => some (r, [])) := by kernel_rfl
theorem f102_n {R : Type} (a0 : List (List Int)) (k : (List Int × Unit) × (Unit) → Option R) : f102_k a0 k = (f102 a0).bind k := by
  simp only [f102, f102_k, cond_bind, ite_bind, bind_bind, some_bind, none_bind, elim_bind]
theorem f102_f : FnOk Try.prog 102 := ⟨Try.f102, Try.func102, by kernel_rfl, by kernel_rfl⟩
theorem f102_ok : SmOk Try.prog 102 f102_sm :=
  sum_of (c := f102_fx) (fn := Try.f102) (code := f102_code) (sm := f102_sm) mixed (env_ok env_envB) (TabsOk.all ⟨⟨f133_ok, f133_f⟩, trivial⟩) Try.func102 (by kernel_rfl)
   ((LoopsOk.of (l := [f102_l3_b, f102_l11_b]) (by kernel_rfl) ⟨node_is (by kernel_rfl) f102_l3_ok, node_is (by kernel_rfl) f102_l11_ok, trivial⟩))
   (no_tails (by kernel_rfl))
   (fun ks x hl => by
    have hk : ks = [] := List.length_eq_zero_iff.1 hl
    subst hk
    exact (f102_m x).trans (f102_n _ _))
end Go.Proofs.Ytlgbhaigpecdoaa.V
