/- Printed. -/
import Derived.Test.YtgdaiifhedpffaaDoorVExt
set_option linter.unusedVariables false
set_option linter.unusedSimpArgs false
set_option maxRecDepth 100000
namespace Go.Proofs.YtgdaiifhedpffaaDoor.V
open Go
abbrev Qv0 : Type := Int × (Int × (List (List Int) × Unit))
abbrev Qt1 : Ty := .pair (.int .i64) (.pair (.int .i64) (.pair (.slc (.slc (.int .u8))) .unit))
abbrev Qt2 : Md := .pair .ro (.pair .ro (.pair (.own (.own .ro)) .ro))
noncomputable def f10_code : Code := (Tryd.f10.body).getD .skip
noncomputable def f10_l5_sk : SkS := ⟨9, [(4, .ptr 64 []), (1, .ptr 96 []), (20, .con (.int .i64)), (0, .con (.int .i64))], [(64, ⟨some 24, Qt1, Qt2, none⟩), (96, ⟨some 24, Qt1, Qt2, none⟩)]⟩
noncomputable def f10_l5_o0 : SkS := ⟨31, [(4, .ptr 64 []), (1, .ptr 96 [])], [(64, ⟨some 24, Qt1, Qt2, none⟩), (96, ⟨some 24, Qt1, Qt2, none⟩)]⟩
noncomputable def f10_l5_outs : List Way := [⟨(.exit 0), [], f10_l5_o0⟩]
abbrev f10_l5_C := (Int × Qv0 × (Option Nat) × (Option Nat))
abbrev f10_l5_X := (Int × Qv0)
abbrev f10_l5_Y := (Qv0)
noncomputable def f10_l5_con (t : f10_l5_sk.T) : f10_l5_C := (t.1.1, t.2.1.1, t.2.1.2, t.2.2.1.2)
noncomputable def f10_l5_get (t : f10_l5_sk.T) : f10_l5_X := (t.1.2.1, t.2.2.1.1)
noncomputable def f10_l5_put (c : f10_l5_C) (x : f10_l5_X) : f10_l5_sk.T := ((c.1, (x.1, ())), ((c.2.1, c.2.2.1), ((x.2, c.2.2.2), ())))
theorem f10_l5_pg (t : f10_l5_sk.T) : f10_l5_put (f10_l5_con t) (f10_l5_get t) = t := by kernel_rfl
noncomputable def f10_l5_w0 (c : f10_l5_C) (y : Qv0) : f10_l5_o0.T := ((), ((c.2.1, c.2.2.1), ((y, c.2.2.2), ())))
noncomputable def f10_l5_out (c : f10_l5_C) (y : f10_l5_Y) : OutV f10_l5_outs := (fun y => (.inl (f10_l5_w0 c y))) y
noncomputable def f10_l5_k {R : Type} (a0 : Int) (a1 : Int) (a2 : Qv0) (a3 : Qv0) (kin : f10_l5_X → Option R) (k0 : Qv0 → Option R) : Option R :=
 (cond (decide (a1 < a0))
 (if (List.length a3.2.2.1 + 1) * 24 ≤ most ∧ 0 < 24 ∧ 0 < 1 then (let r1 : List (List Int) := (a3.2.2.1 ++ [(List.replicate 128 (0 : Int))])
  (let v2 : Int := (IntKind.i64.wrap (a1 + (1 : Int)))
  (kin (v2, (a3.1, (a3.2.1, (r1, a3.2.2.2))))))) else none)
 (k0 a3))
noncomputable def f10_l5_g (a0 : Int) (a2 : Qv0) (x : f10_l5_X) : Option (f10_l5_X ⊕ f10_l5_Y) := f10_l5_k a0 x.1 a2 x.2 (fun x => some (.inl x)) (fun y => some (.inr y))
noncomputable def f10_l5 (a0 : Int) (a2 : Qv0) (x : f10_l5_X) : Option f10_l5_Y := loopO (f10_l5_g a0 a2) x
noncomputable def f10_l5_nd : Node := { nils := [], sk := f10_l5_sk, outs := f10_l5_outs, Y := f10_l5_Y, L := fun t => f10_l5 ((f10_l5_con t).1) ((f10_l5_con t).2.1) (f10_l5_get t), out := fun t y => f10_l5_out (f10_l5_con t) y, disp := fun t y K => (fun y => K (.exit 0) (f10_l5_o0.fill (f10_l5_w0 (f10_l5_con t) y))) y }
noncomputable def f10_fx : Fx := { E := env, T := [], H := [(4, Qt2), (6, Qt2), (33, (.own (.own .ro))), (34, (.own (.own .ro)))], O := [], nodes := [((true, 5), f10_l5_nd)] }
noncomputable def f10_l5_b : Code := (loops f10_code).getD 0 .skip
theorem f10_l5_r (c : f10_l5_C) (x : f10_l5_X) : roundS f10_fx f10_l5_b f10_l5_nd (f10_l5_put c x) = f10_l5_k c.1 x.1 c.2.1 x.2 (fun x => some (.inl (f10_l5_put c x))) (fun y => some (.inr (.inl (f10_l5_w0 c y)))) := by kernel_rfl
theorem f10_l5_n {R : Type} (a0 : Int) (a1 : Int) (a2 : Qv0) (a3 : Qv0) (kin : f10_l5_X → Option R) (k0 : Qv0 → Option R) : f10_l5_k a0 a1 a2 a3 kin k0 = (f10_l5_g a0 a2 (a1, a3)).bind (Sum.elim kin k0) := by
  simp only [f10_l5_g, f10_l5_k, cond_bind, ite_bind, bind_bind, some_bind, none_bind, elim_bind, whenS_bind, Sum.elim_inl, Sum.elim_inr]
theorem f10_l5_ok : LoopOk f10_fx f10_l5_b f10_l5_nd := loop_ok f10_l5_con f10_l5_get f10_l5_put f10_l5_pg (fun c => f10_l5_g c.1 c.2.1) f10_l5_out (fun t y => rfl) (fun t y K => rfl) (fun c x => by
  refine (f10_l5_r c x).trans ((f10_l5_n _ _ _ _ _ _).trans ?_)
  first
  | rfl
  | congr 1
    funext s
    rcases s with s | s <;> rfl) (fun t => rfl)
noncomputable def f10_k {R : Type} (a0 : Int) (a1 : Int) (k : (Qv0 × Int × Unit) × (Unit) → Option R) : Option R :=
 (cond (decide (a0 < (1 : Int)))
 (k ((((0 : Int), ((0 : Int), ([], ()))), ((1 : Int), ())), ()))
 (cond (decide (a0 > (20 : Int)))
  (k ((((0 : Int), ((0 : Int), ([], ()))), ((1 : Int), ())), ()))
  (cond (decide (a1 < (1 : Int)))
   (k ((((0 : Int), ((0 : Int), ([], ()))), ((1 : Int), ())), ()))
   (cond (decide (a1 > (12 : Int)))
    (k ((((0 : Int), ((0 : Int), ([], ()))), ((1 : Int), ())), ()))
    (let v0 : Int := (IntKind.i64.wrap (a0 * a1))
     ((f10_l5 v0 ((0 : Int), ((0 : Int), (([] : List (List Int)), ()))) ((0 : Int), (a0, (a1, ([], ()))))).bind fun y3 =>
     (k ((y3, ((0 : Int), ())), ()))))))))
noncomputable def f10 (a0 : Int) (a1 : Int) : Option ((Qv0 × Int × Unit) × (Unit)) := f10_k a0 a1 some
noncomputable def f10_sm : Sm := { ps := [.ro (.int .i64), .ro (.int .i64)], rs := [(Qt1, Qt2), ((.int .i64), .ro)], F := fun x => f10 x.1 x.2.1 }
theorem f10_m (x : ArgT [.ro (.int .i64), .ro (.int .i64)]) : codeS f10_fx f10_code (start [.ro (.int .i64), .ro (.int .i64)] [] x 38) (finK env [.cell 4 24, .tmp 5] [.ro (.int .i64), .ro (.int .i64)] [(Qt1, Qt2), ((.int .i64), .ro)]) = f10_k x.1 x.2.1 (fun r => some (r, [])) := by kernel_rfl
theorem f10_n {R : Type} (a0 : Int) (a1 : Int) (k : (Qv0 × Int × Unit) × (Unit) → Option R) : f10_k a0 a1 k = (f10 a0 a1).bind k := by
  simp only [f10, f10_k, cond_bind, ite_bind, bind_bind, some_bind, none_bind, elim_bind, whenS_bind]
theorem f10_ok : SmOk Tryd.prog 10 f10_sm :=
  sum_of (c := f10_fx) (fn := Tryd.f10) (code := f10_code) (sm := f10_sm) mixed (env_ok env_envB) (TabsOk.all trivial) Tryd.func10 (by kernel_rfl)
   ((LoopsOk.of (l := [f10_l5_b]) (by kernel_rfl) ⟨node_is (by kernel_rfl) f10_l5_ok, trivial⟩))
   (no_tails (by kernel_rfl)) rfl
   (fun ks x hl => by
    have hk : ks = [] := List.length_eq_zero_iff.1 hl
    subst hk
    exact (f10_m x).trans (f10_n _ _ _))
theorem f10_c : CalOk Tryd.prog 10 f10_sm := .inl ⟨f10_ok, ⟨Tryd.f10, Tryd.func10, by kernel_rfl, by kernel_rfl⟩⟩
noncomputable def f11_code : Code := (Tryd.f11.body).getD .skip
noncomputable def f11_fx : Fx := { E := env, T := [], H := [], O := [], nodes := [] }
noncomputable def f11_k {R : Type} (a0 : Qv0) (a1 : Int) (a2 : Bool) (k : (Unit) × ((Unit × (Unit × (List (List Int) × Unit))) × Unit) → Option R) : Option R :=
 (if (0 : Int) ≤ (1 : Int) ∧ (1 : Int) < ((List.length a0.2.2.1 : Nat) : Int) then (let v0 : Int := (IntKind.i64.wrap (Int.tdiv a1 (8 : Int)))
 (if (0 : Int) ≤ v0 ∧ v0 < ((List.length (List.getD a0.2.2.1 1 ([] : List Int)) : Nat) : Int) then (if (Int.tmod a1 (8 : Int)) < 0 then none else (let v1 : Int := (IntKind.u8.wrap ((1 : Int) * 2 ^ (min (Int.toNat (Int.tmod a1 (8 : Int))) 8)))
 (let v2 : Int := (bitop IntKind.u8 .andNot (List.getD (List.getD a0.2.2.1 1 ([] : List Int)) (Int.toNat v0) (0 : Int)) v1)
 (if (0 : Int) ≤ v0 ∧ v0 < ((List.length (List.getD a0.2.2.1 1 ([] : List Int)) : Nat) : Int) then (cond a2
 (if (0 : Int) ≤ (1 : Int) ∧ (1 : Int) < ((List.length (List.set a0.2.2.1 1 (List.set (List.getD a0.2.2.1 1 ([] : List Int)) (Int.toNat v0) v2)) : Nat) : Int) then (let v3 : Int := (IntKind.i64.wrap (Int.tdiv a1 (8 : Int)))
  (if (0 : Int) ≤ v3 ∧ v3 < ((List.length (List.getD (List.set a0.2.2.1 1 (List.set (List.getD a0.2.2.1 1 ([] : List Int)) (Int.toNat v0) v2)) 1 ([] : List Int)) : Nat) : Int) then (if (Int.tmod a1 (8 : Int)) < 0 then none else (let v4 : Int := (IntKind.u8.wrap ((1 : Int) * 2 ^ (min (Int.toNat (Int.tmod a1 (8 : Int))) 8)))
  (let v5 : Int := (bitop IntKind.u8 .or (List.getD (List.getD (List.set a0.2.2.1 1 (List.set (List.getD a0.2.2.1 1 ([] : List Int)) (Int.toNat v0) v2)) 1 ([] : List Int)) (Int.toNat v3) (0 : Int)) v4)
  (if (0 : Int) ≤ v3 ∧ v3 < ((List.length (List.getD (List.set a0.2.2.1 1 (List.set (List.getD a0.2.2.1 1 ([] : List Int)) (Int.toNat v0) v2)) 1 ([] : List Int)) : Nat) : Int) then (k ((), (((), ((), ((List.set (List.set a0.2.2.1 1 (List.set (List.getD a0.2.2.1 1 ([] : List Int)) (Int.toNat v0) v2)) 1 (List.set (List.getD (List.set a0.2.2.1 1 (List.set (List.getD a0.2.2.1 1 ([] : List Int)) (Int.toNat v0) v2)) 1 ([] : List Int)) (Int.toNat v3) v5)), ()))), ()))) else none)))) else none)) else none)
 (k ((), (((), ((), ((List.set a0.2.2.1 1 (List.set (List.getD a0.2.2.1 1 ([] : List Int)) (Int.toNat v0) v2)), ()))), ())))) else none)))) else none)) else none)
noncomputable def f11 (a0 : Qv0) (a1 : Int) (a2 : Bool) : Option ((Unit) × ((Unit × (Unit × (List (List Int) × Unit))) × Unit)) := f11_k a0 a1 a2 some
noncomputable def f11_sm : Sm := { ps := [.row Qt1 Qt2, .ro (.int .i64), .ro .bool], rs := [], F := fun x => f11 x.1 x.2.1 x.2.2.1 }
theorem f11_m (x : ArgT [.row Qt1 Qt2, .ro (.int .i64), .ro .bool]) : codeS f11_fx f11_code (start [.row Qt1 Qt2, .ro (.int .i64), .ro .bool] [] x 33) (finK env [] [.row Qt1 Qt2, .ro (.int .i64), .ro .bool] []) = f11_k x.1 x.2.1 x.2.2.1 (fun r => some (r, [])) := by kernel_rfl
theorem f11_n {R : Type} (a0 : Qv0) (a1 : Int) (a2 : Bool) (k : (Unit) × ((Unit × (Unit × (List (List Int) × Unit))) × Unit) → Option R) : f11_k a0 a1 a2 k = (f11 a0 a1 a2).bind k := by
  simp only [f11, f11_k, cond_bind, ite_bind, bind_bind, some_bind, none_bind, elim_bind, whenS_bind]
theorem f11_ok : SmOk Tryd.prog 11 f11_sm :=
  sum_of (c := f11_fx) (fn := Tryd.f11) (code := f11_code) (sm := f11_sm) mixed (env_ok env_envB) (TabsOk.all trivial) Tryd.func11 (by kernel_rfl)
   ((LoopsOk.of (l := []) (by kernel_rfl) trivial))
   (no_tails (by kernel_rfl)) rfl
   (fun ks x hl => by
    have hk : ks = [] := List.length_eq_zero_iff.1 hl
    subst hk
    exact (f11_m x).trans (f11_n _ _ _ _))
theorem f11_c : CalOk Tryd.prog 11 f11_sm := .inl ⟨f11_ok, ⟨Tryd.f11, Tryd.func11, by kernel_rfl, by kernel_rfl⟩⟩
noncomputable def f12_code : Code := (Tryd.f12.body).getD .skip
noncomputable def f12_fx : Fx := { E := env, T := [], H := [], O := [], nodes := [] }
noncomputable def f12_k {R : Type} (a0 : Qv0) (a1 : Int) (k : (Int × Int × Int × Unit) × ((Unit × (Unit × (List (List Int) × Unit))) × Unit) → Option R) : Option R :=
 (let v0 : Int := (IntKind.i64.wrap (Int.tdiv a1 (8 : Int)))
 (let v1 : Int := (IntKind.i64.wrap ((2 : Int) + v0))
 (if (0 : Int) ≤ v1 ∧ v1 < ((List.length a0.2.2.1 : Nat) : Int) then (let v2 : Int := (IntKind.i64.wrap ((Int.tmod a1 (8 : Int)) * (16 : Int)))
 (let v3 : Int := (IntKind.i64.wrap ((Int.tmod a1 (8 : Int)) * (16 : Int)))
 (let v4 : Int := (IntKind.i64.wrap (v3 + (16 : Int)))
 (if (0 : Int) ≤ v2 ∧ v2 ≤ v4 ∧ v4 ≤ ((List.length (List.getD a0.2.2.1 (Int.toNat v1) ([] : List Int)) : Nat) : Int) then (k ((((((Int.toNat v1)) : Nat) : Int), ((((Int.toNat v2)) : Nat) : Int), (((((Int.toNat v4) - (Int.toNat v2))) : Nat) : Int), ()), (((), ((), (a0.2.2.1, ()))), ()))) else none)))) else none)))
noncomputable def f12 (a0 : Qv0) (a1 : Int) : Option ((Int × Int × Int × Unit) × ((Unit × (Unit × (List (List Int) × Unit))) × Unit)) := f12_k a0 a1 some
noncomputable def f12_sm : Sm := { ps := [.row Qt1 Qt2, .ro (.int .i64)], rs := [((.int .i64), .ro), ((.int .i64), .ro), ((.int .i64), .ro)], F := fun x => f12 x.1 x.2.1, part := true }
theorem f12_m (x : ArgT [.row Qt1 Qt2, .ro (.int .i64)]) : codeS f12_fx f12_code (start [.row Qt1 Qt2, .ro (.int .i64)] [] x 22) (finPK env [.tmp 4] [.row Qt1 Qt2, .ro (.int .i64)] [((.int .i64), .ro), ((.int .i64), .ro), ((.int .i64), .ro)]) = f12_k x.1 x.2.1 (fun r => some (r, [])) := by kernel_rfl
theorem f12_n {R : Type} (a0 : Qv0) (a1 : Int) (k : (Int × Int × Int × Unit) × ((Unit × (Unit × (List (List Int) × Unit))) × Unit) → Option R) : f12_k a0 a1 k = (f12 a0 a1).bind k := by
  simp only [f12, f12_k, cond_bind, ite_bind, bind_bind, some_bind, none_bind, elim_bind, whenS_bind]
theorem f12_ok : SmOk Tryd.prog 12 f12_sm :=
  sumP_of (c := f12_fx) (fn := Tryd.f12) (code := f12_code) (sm := f12_sm) mixed (env_ok env_envB) (TabsOk.all trivial) Tryd.func12 (by kernel_rfl)
   ((LoopsOk.of (l := []) (by kernel_rfl) trivial))
   (no_tails (by kernel_rfl)) rfl
   (fun ks x hl => by
    have hk : ks = [] := List.length_eq_zero_iff.1 hl
    subst hk
    exact (f12_m x).trans (f12_n _ _ _))
theorem f12_c : CalOk Tryd.prog 12 f12_sm := .inl ⟨f12_ok, ⟨Tryd.f12, Tryd.func12, by kernel_rfl, by kernel_rfl⟩⟩
noncomputable def f4_code : Code := (Tryd.f4.body).getD .skip
noncomputable def f4_l8_sk : SkS := ⟨10, [(4, .ptr 64 []), (1, .ptr 96 []), (22, .con (.int .i64))], [(64, ⟨some 24, Qt1, Qt2, none⟩), (96, ⟨some 24, Qt1, Qt2, none⟩)]⟩
noncomputable def f4_l8_o0 : SkS := ⟨33, [(4, .ptr 64 []), (1, .ptr 96 [])], [(64, ⟨some 24, Qt1, Qt2, none⟩), (96, ⟨some 24, Qt1, Qt2, none⟩)]⟩
noncomputable def f4_l8_outs : List Way := [⟨(.exit 0), [], f4_l8_o0⟩]
abbrev f4_l8_C := (Qv0 × (Option Nat) × (Option Nat))
abbrev f4_l8_X := (Int × Qv0)
abbrev f4_l8_Y := (Qv0)
noncomputable def f4_l8_con (t : f4_l8_sk.T) : f4_l8_C := (t.2.1.1, t.2.1.2, t.2.2.1.2)
noncomputable def f4_l8_get (t : f4_l8_sk.T) : f4_l8_X := (t.1.1, t.2.2.1.1)
noncomputable def f4_l8_put (c : f4_l8_C) (x : f4_l8_X) : f4_l8_sk.T := ((x.1, ()), ((c.1, c.2.1), ((x.2, c.2.2), ())))
theorem f4_l8_pg (t : f4_l8_sk.T) : f4_l8_put (f4_l8_con t) (f4_l8_get t) = t := by kernel_rfl
noncomputable def f4_l8_w0 (c : f4_l8_C) (y : Qv0) : f4_l8_o0.T := ((), ((c.1, c.2.1), ((y, c.2.2), ())))
noncomputable def f4_l8_out (c : f4_l8_C) (y : f4_l8_Y) : OutV f4_l8_outs := (fun y => (.inl (f4_l8_w0 c y))) y
noncomputable def f4_l8_k {R : Type} (a0 : Int) (a1 : Qv0) (a2 : Qv0) (kin : f4_l8_X → Option R) (k0 : Qv0 → Option R) : Option R :=
 (cond (decide (a0 < (6 : Int)))
 ((f11 a2 a0 true).bind fun r2 =>
  (let v3 : Int := (IntKind.i64.wrap (a0 + (1 : Int)))
  (kin (v3, (a2.1, (a2.2.1, (r2.2.1.2.2.1, a2.2.2.2)))))))
 (k0 a2))
noncomputable def f4_l8_g (a1 : Qv0) (x : f4_l8_X) : Option (f4_l8_X ⊕ f4_l8_Y) := f4_l8_k x.1 a1 x.2 (fun x => some (.inl x)) (fun y => some (.inr y))
noncomputable def f4_l8 (a1 : Qv0) (x : f4_l8_X) : Option f4_l8_Y := loopO (f4_l8_g a1) x
noncomputable def f4_l8_nd : Node := { nils := [], sk := f4_l8_sk, outs := f4_l8_outs, Y := f4_l8_Y, L := fun t => f4_l8 ((f4_l8_con t).1) (f4_l8_get t), out := fun t y => f4_l8_out (f4_l8_con t) y, disp := fun t y K => (fun y => K (.exit 0) (f4_l8_o0.fill (f4_l8_w0 (f4_l8_con t) y))) y }
noncomputable def f4_fx : Fx := { E := env, T := [(10, f10_sm), (11, f11_sm), (12, f12_sm)], H := [(4, Qt2), (6, Qt2)], O := [], nodes := [((true, 8), f4_l8_nd)] }
noncomputable def f4_l8_b : Code := (loops f4_code).getD 0 .skip
theorem f4_l8_r (c : f4_l8_C) (x : f4_l8_X) : roundS f4_fx f4_l8_b f4_l8_nd (f4_l8_put c x) = f4_l8_k x.1 c.1 x.2 (fun x => some (.inl (f4_l8_put c x))) (fun y => some (.inr (.inl (f4_l8_w0 c y)))) := by kernel_rfl
theorem f4_l8_n {R : Type} (a0 : Int) (a1 : Qv0) (a2 : Qv0) (kin : f4_l8_X → Option R) (k0 : Qv0 → Option R) : f4_l8_k a0 a1 a2 kin k0 = (f4_l8_g a1 (a0, a2)).bind (Sum.elim kin k0) := by
  simp only [f4_l8_g, f4_l8_k, cond_bind, ite_bind, bind_bind, some_bind, none_bind, elim_bind, whenS_bind, Sum.elim_inl, Sum.elim_inr]
theorem f4_l8_ok : LoopOk f4_fx f4_l8_b f4_l8_nd := loop_ok f4_l8_con f4_l8_get f4_l8_put f4_l8_pg (fun c => f4_l8_g c.1) f4_l8_out (fun t y => rfl) (fun t y K => rfl) (fun c x => by
  refine (f4_l8_r c x).trans ((f4_l8_n _ _ _ _ _).trans ?_)
  first
  | rfl
  | congr 1
    funext s
    rcases s with s | s <;> rfl) (fun t => rfl)
noncomputable def f4_k {R : Type} (a0 : Int) (a1 : Int) (k : (Qv0 × Int × Unit) × (Unit) → Option R) : Option R :=
 ((f10 a0 a1).bind fun r0 =>
 (cond (r0.1.2.1 != (0 : Int))
 (k ((((0 : Int), ((0 : Int), ([], ()))), (r0.1.2.1, ())), ()))
 (cond (decide (((List.length r0.1.1.2.2.1 : Nat) : Int) ≤ (6 : Int)))
  (k ((((0 : Int), ((0 : Int), ([], ()))), ((13 : Int), ())), ()))
  (if (0 : Int) ≤ (0 : Int) ∧ (0 : Int) < ((List.length r0.1.1.2.2.1 : Nat) : Int) then (if 0 < (List.length (s2b (⟨#[116, 114, 101, 101, 49]⟩ : ByteArray))) ∧ (List.length (s2b (⟨#[116, 114, 101, 101, 49]⟩ : ByteArray))) ≤ List.length (List.getD r0.1.1.2.2.1 0 ([] : List Int)) then (let r1 : List Int := (spl (List.getD r0.1.1.2.2.1 0 ([] : List Int)) 0 (List.length (s2b (⟨#[116, 114, 101, 101, 49]⟩ : ByteArray))) (s2b (⟨#[116, 114, 101, 101, 49]⟩ : ByteArray)))
   ((f4_l8 ((0 : Int), ((0 : Int), (([] : List (List Int)), ()))) ((0 : Int), (r0.1.1.1, (r0.1.1.2.1, ((List.set r0.1.1.2.2.1 0 r1), r0.1.1.2.2.2))))).bind fun y4 =>
   ((f12 y4 (0 : Int)).bind fun r5 =>
   (whenS (rowsOf (Qt1) (Qt2) y4 = r5.2.1) (if (Int.toNat r5.1.1) < List.length r5.2.1.2.2.1 then (if (0 : Int) ≤ (0 : Int) ∧ (0 : Int) < (((Int.toNat r5.1.2.2.1) : Nat) : Int) then (k (((y4.1, (y4.2.1, ((List.set r5.2.1.2.2.1 (Int.toNat r5.1.1) (List.set (List.getD r5.2.1.2.2.1 (Int.toNat r5.1.1) ([] : List Int)) ((Int.toNat r5.1.2.1) + 0) (2 : Int))), y4.2.2.2))), ((0 : Int), ())), ())) else none) else none))))) else none) else none))))
noncomputable def f4 (a0 : Int) (a1 : Int) : Option ((Qv0 × Int × Unit) × (Unit)) := f4_k a0 a1 some
noncomputable def f4_sm : Sm := { ps := [.ro (.int .i64), .ro (.int .i64)], rs := [(Qt1, Qt2), ((.int .i64), .ro)], F := fun x => f4 x.1 x.2.1 }
theorem f4_m (x : ArgT [.ro (.int .i64), .ro (.int .i64)]) : codeS f4_fx f4_code (start [.ro (.int .i64), .ro (.int .i64)] [] x 40) (finK env [.cell 4 24, .tmp 5] [.ro (.int .i64), .ro (.int .i64)] [(Qt1, Qt2), ((.int .i64), .ro)]) = f4_k x.1 x.2.1 (fun r => some (r, [])) := by kernel_rfl
theorem f4_n {R : Type} (a0 : Int) (a1 : Int) (k : (Qv0 × Int × Unit) × (Unit) → Option R) : f4_k a0 a1 k = (f4 a0 a1).bind k := by
  simp only [f4, f4_k, cond_bind, ite_bind, bind_bind, some_bind, none_bind, elim_bind, whenS_bind]
theorem f4_ok : SmOk Tryd.prog 4 f4_sm :=
  sum_of (c := f4_fx) (fn := Tryd.f4) (code := f4_code) (sm := f4_sm) mixed (env_ok env_envB) (TabsOk.all ⟨f10_c, f11_c, f12_c, trivial⟩) Tryd.func4 (by kernel_rfl)
   ((LoopsOk.of (l := [f4_l8_b]) (by kernel_rfl) ⟨node_is (by kernel_rfl) f4_l8_ok, trivial⟩))
   (no_tails (by kernel_rfl)) rfl
   (fun ks x hl => by
    have hk : ks = [] := List.length_eq_zero_iff.1 hl
    subst hk
    exact (f4_m x).trans (f4_n _ _ _))
theorem f4_c : CalOk Tryd.prog 4 f4_sm := .inl ⟨f4_ok, ⟨Tryd.f4, Tryd.func4, by kernel_rfl, by kernel_rfl⟩⟩
noncomputable def f13_code : Code := (Tryd.f13.body).getD .skip
noncomputable def f13_fx : Fx := { E := env, T := [], H := [], O := [], nodes := [] }
noncomputable def f13_k {R : Type} (a0 : Int) (a1 : Int) (a2 : Int) (k : (Int × Unit) × (Unit) → Option R) : Option R :=
 (let v0 : Int := (if a1 < a0 then a1 else a0)
 (cond (decide (v0 < (1 : Int)))
 (k (((1 : Int), ()), ()))
 (cond (decide (a0 > (20 : Int)))
  (k (((1 : Int), ()), ()))
  (cond (decide (a1 > (12 : Int)))
   (k (((1 : Int), ()), ()))
   (let v1 : Int := (IntKind.i64.wrap (a0 * a1))
    (cond (decide (v1 ≤ a2))
    (k (((13 : Int), ()), ()))
    (k (((0 : Int), ()), ()))))))))
noncomputable def f13 (a0 : Int) (a1 : Int) (a2 : Int) : Option ((Int × Unit) × (Unit)) := f13_k a0 a1 a2 some
noncomputable def f13_sm : Sm := { ps := [.ro (.int .i64), .ro (.int .i64), .ro (.int .i64)], rs := [((.int .i64), .ro)], F := fun x => f13 x.1 x.2.1 x.2.2.1 }
theorem f13_m (x : ArgT [.ro (.int .i64), .ro (.int .i64), .ro (.int .i64)]) : codeS f13_fx f13_code (start [.ro (.int .i64), .ro (.int .i64), .ro (.int .i64)] [] x 24) (finK env [.tmp 6] [.ro (.int .i64), .ro (.int .i64), .ro (.int .i64)] [((.int .i64), .ro)]) = f13_k x.1 x.2.1 x.2.2.1 (fun r => some (r, [])) := by kernel_rfl
theorem f13_n {R : Type} (a0 : Int) (a1 : Int) (a2 : Int) (k : (Int × Unit) × (Unit) → Option R) : f13_k a0 a1 a2 k = (f13 a0 a1 a2).bind k := by
  simp only [f13, f13_k, cond_bind, ite_bind, bind_bind, some_bind, none_bind, elim_bind, whenS_bind]
theorem f13_ok : SmOk Tryd.prog 13 f13_sm :=
  sum_of (c := f13_fx) (fn := Tryd.f13) (code := f13_code) (sm := f13_sm) mixed (env_ok env_envB) (TabsOk.all trivial) Tryd.func13 (by kernel_rfl)
   ((LoopsOk.of (l := []) (by kernel_rfl) trivial))
   (no_tails (by kernel_rfl)) rfl
   (fun ks x hl => by
    have hk : ks = [] := List.length_eq_zero_iff.1 hl
    subst hk
    exact (f13_m x).trans (f13_n _ _ _ _))
theorem f13_c : CalOk Tryd.prog 13 f13_sm := .inl ⟨f13_ok, ⟨Tryd.f13, Tryd.func13, by kernel_rfl, by kernel_rfl⟩⟩
noncomputable def f14_code : Code := (Tryd.f14.body).getD .skip
noncomputable def f14_l3_sk : SkS := ⟨9, [(4, .ptr 64 []), (0, .ptr 80 []), (5, .con (.int .i64)), (0, .con (.int .i64))], [(64, ⟨some 24, Qt1, Qt2, none⟩), (80, ⟨some 24, Qt1, Qt2, none⟩)]⟩
noncomputable def f14_l3_o0 : SkS := ⟨16, [(4, .ptr 64 []), (0, .ptr 80 [])], [(64, ⟨some 24, Qt1, Qt2, none⟩), (80, ⟨some 24, Qt1, Qt2, none⟩)]⟩
noncomputable def f14_l3_outs : List Way := [⟨(.exit 0), [], f14_l3_o0⟩]
abbrev f14_l3_C := (Int × Qv0 × (Option Nat) × (Option Nat))
abbrev f14_l3_X := (Int × Qv0)
abbrev f14_l3_Y := (Qv0)
noncomputable def f14_l3_con (t : f14_l3_sk.T) : f14_l3_C := (t.1.1, t.2.1.1, t.2.1.2, t.2.2.1.2)
noncomputable def f14_l3_get (t : f14_l3_sk.T) : f14_l3_X := (t.1.2.1, t.2.2.1.1)
noncomputable def f14_l3_put (c : f14_l3_C) (x : f14_l3_X) : f14_l3_sk.T := ((c.1, (x.1, ())), ((c.2.1, c.2.2.1), ((x.2, c.2.2.2), ())))
theorem f14_l3_pg (t : f14_l3_sk.T) : f14_l3_put (f14_l3_con t) (f14_l3_get t) = t := by kernel_rfl
noncomputable def f14_l3_w0 (c : f14_l3_C) (y : Qv0) : f14_l3_o0.T := ((), ((c.2.1, c.2.2.1), ((y, c.2.2.2), ())))
noncomputable def f14_l3_out (c : f14_l3_C) (y : f14_l3_Y) : OutV f14_l3_outs := (fun y => (.inl (f14_l3_w0 c y))) y
noncomputable def f14_l3_k {R : Type} (a0 : Int) (a1 : Int) (a2 : Qv0) (a3 : Qv0) (kin : f14_l3_X → Option R) (k0 : Qv0 → Option R) : Option R :=
 (cond (decide (a1 < a0))
 (if (List.length a3.2.2.1 + 1) * 24 ≤ most ∧ 0 < 24 ∧ 0 < 1 then (let r1 : List (List Int) := (a3.2.2.1 ++ [(List.replicate 128 (0 : Int))])
  (let v2 : Int := (IntKind.i64.wrap (a1 + (1 : Int)))
  (kin (v2, (a3.1, (a3.2.1, (r1, a3.2.2.2))))))) else none)
 (k0 a3))
noncomputable def f14_l3_g (a0 : Int) (a2 : Qv0) (x : f14_l3_X) : Option (f14_l3_X ⊕ f14_l3_Y) := f14_l3_k a0 x.1 a2 x.2 (fun x => some (.inl x)) (fun y => some (.inr y))
noncomputable def f14_l3 (a0 : Int) (a2 : Qv0) (x : f14_l3_X) : Option f14_l3_Y := loopO (f14_l3_g a0 a2) x
noncomputable def f14_l3_nd : Node := { nils := [], sk := f14_l3_sk, outs := f14_l3_outs, Y := f14_l3_Y, L := fun t => f14_l3 ((f14_l3_con t).1) ((f14_l3_con t).2.1) (f14_l3_get t), out := fun t y => f14_l3_out (f14_l3_con t) y, disp := fun t y K => (fun y => K (.exit 0) (f14_l3_o0.fill (f14_l3_w0 (f14_l3_con t) y))) y }
noncomputable def f14_fx : Fx := { E := env, T := [], H := [(5, Qt2), (4, Qt2), (17, (.own (.own .ro))), (18, (.own (.own .ro)))], O := [], nodes := [((true, 3), f14_l3_nd)] }
noncomputable def f14_l3_b : Code := (loops f14_code).getD 0 .skip
theorem f14_l3_r (c : f14_l3_C) (x : f14_l3_X) : roundS f14_fx f14_l3_b f14_l3_nd (f14_l3_put c x) = f14_l3_k c.1 x.1 c.2.1 x.2 (fun x => some (.inl (f14_l3_put c x))) (fun y => some (.inr (.inl (f14_l3_w0 c y)))) := by kernel_rfl
theorem f14_l3_n {R : Type} (a0 : Int) (a1 : Int) (a2 : Qv0) (a3 : Qv0) (kin : f14_l3_X → Option R) (k0 : Qv0 → Option R) : f14_l3_k a0 a1 a2 a3 kin k0 = (f14_l3_g a0 a2 (a1, a3)).bind (Sum.elim kin k0) := by
  simp only [f14_l3_g, f14_l3_k, cond_bind, ite_bind, bind_bind, some_bind, none_bind, elim_bind, whenS_bind, Sum.elim_inl, Sum.elim_inr]
theorem f14_l3_ok : LoopOk f14_fx f14_l3_b f14_l3_nd := loop_ok f14_l3_con f14_l3_get f14_l3_put f14_l3_pg (fun c => f14_l3_g c.1 c.2.1) f14_l3_out (fun t y => rfl) (fun t y K => rfl) (fun c x => by
  refine (f14_l3_r c x).trans ((f14_l3_n _ _ _ _ _ _).trans ?_)
  first
  | rfl
  | congr 1
    funext s
    rcases s with s | s <;> rfl) (fun t => rfl)
noncomputable def f14_k {R : Type} (a0 : Int) (a1 : Int) (k : (Qv0 × Unit) × (Unit) → Option R) : Option R :=
 (let v0 : Int := (IntKind.i64.wrap (a0 * a1))
 ((f14_l3 v0 ((0 : Int), ((0 : Int), (([] : List (List Int)), ()))) ((0 : Int), (a0, (a1, ([], ()))))).bind fun y3 =>
 (k ((y3, ()), ()))))
noncomputable def f14 (a0 : Int) (a1 : Int) : Option ((Qv0 × Unit) × (Unit)) := f14_k a0 a1 some
noncomputable def f14_sm : Sm := { ps := [.ro (.int .i64), .ro (.int .i64)], rs := [(Qt1, Qt2)], F := fun x => f14 x.1 x.2.1 }
theorem f14_m (x : ArgT [.ro (.int .i64), .ro (.int .i64)]) : codeS f14_fx f14_code (start [.ro (.int .i64), .ro (.int .i64)] [] x 22) (finK env [.cell 4 24] [.ro (.int .i64), .ro (.int .i64)] [(Qt1, Qt2)]) = f14_k x.1 x.2.1 (fun r => some (r, [])) := by kernel_rfl
theorem f14_n {R : Type} (a0 : Int) (a1 : Int) (k : (Qv0 × Unit) × (Unit) → Option R) : f14_k a0 a1 k = (f14 a0 a1).bind k := by
  simp only [f14, f14_k, cond_bind, ite_bind, bind_bind, some_bind, none_bind, elim_bind, whenS_bind]
theorem f14_ok : SmOk Tryd.prog 14 f14_sm :=
  sum_of (c := f14_fx) (fn := Tryd.f14) (code := f14_code) (sm := f14_sm) mixed (env_ok env_envB) (TabsOk.all trivial) Tryd.func14 (by kernel_rfl)
   ((LoopsOk.of (l := [f14_l3_b]) (by kernel_rfl) ⟨node_is (by kernel_rfl) f14_l3_ok, trivial⟩))
   (no_tails (by kernel_rfl)) rfl
   (fun ks x hl => by
    have hk : ks = [] := List.length_eq_zero_iff.1 hl
    subst hk
    exact (f14_m x).trans (f14_n _ _ _))
theorem f14_c : CalOk Tryd.prog 14 f14_sm := .inl ⟨f14_ok, ⟨Tryd.f14, Tryd.func14, by kernel_rfl, by kernel_rfl⟩⟩
noncomputable def f5_code : Code := (Tryd.f5.body).getD .skip
noncomputable def f5_fx : Fx := { E := env, T := [(13, f13_sm), (14, f14_sm)], H := [(4, Qt2), (6, Qt2)], O := [], nodes := [] }
noncomputable def f5_k {R : Type} (a0 : Int) (a1 : Int) (k : (Qv0 × Int × Unit) × (Unit) → Option R) : Option R :=
 ((f13 a0 a1 (6 : Int)).bind fun r0 =>
 (cond (r0.1.1 != (0 : Int))
 (k ((((0 : Int), ((0 : Int), ([], ()))), (r0.1.1, ())), ()))
 ((f14 a0 a1).bind fun r1 =>
  (if (0 : Int) ≤ (0 : Int) ∧ (0 : Int) < ((List.length r1.1.1.2.2.1 : Nat) : Int) then (if 0 < (List.length (s2b (⟨#[116, 114, 101, 101, 49]⟩ : ByteArray))) ∧ (List.length (s2b (⟨#[116, 114, 101, 101, 49]⟩ : ByteArray))) ≤ List.length (List.getD r1.1.1.2.2.1 0 ([] : List Int)) then (let r2 : List Int := (spl (List.getD r1.1.1.2.2.1 0 ([] : List Int)) 0 (List.length (s2b (⟨#[116, 114, 101, 101, 49]⟩ : ByteArray))) (s2b (⟨#[116, 114, 101, 101, 49]⟩ : ByteArray)))
  (if (0 : Int) ≤ (1 : Int) ∧ (1 : Int) < ((List.length (List.set r1.1.1.2.2.1 0 r2) : Nat) : Int) then (if (0 : Int) ≤ (2 : Int) ∧ (2 : Int) < ((List.length (List.set r1.1.1.2.2.1 0 r2) : Nat) : Int) then (if (0 : Int) ≤ (0 : Int) ∧ (0 : Int) < ((List.length (List.getD (List.set r1.1.1.2.2.1 0 r2) 1 ([] : List Int)) : Nat) : Int) then (if (0 : Int) ≤ (0 : Int) ∧ (0 : Int) < ((List.length (List.getD (List.set (List.set r1.1.1.2.2.1 0 r2) 1 (List.set (List.getD (List.set r1.1.1.2.2.1 0 r2) 1 ([] : List Int)) 0 (63 : Int))) 2 ([] : List Int)) : Nat) : Int) then (k (((r1.1.1.1, (r1.1.1.2.1, ((List.set (List.set (List.set r1.1.1.2.2.1 0 r2) 1 (List.set (List.getD (List.set r1.1.1.2.2.1 0 r2) 1 ([] : List Int)) 0 (63 : Int))) 2 (List.set (List.getD (List.set (List.set r1.1.1.2.2.1 0 r2) 1 (List.set (List.getD (List.set r1.1.1.2.2.1 0 r2) 1 ([] : List Int)) 0 (63 : Int))) 2 ([] : List Int)) 0 (2 : Int))), r1.1.1.2.2.2))), ((0 : Int), ())), ())) else none) else none) else none) else none)) else none) else none))))
noncomputable def f5 (a0 : Int) (a1 : Int) : Option ((Qv0 × Int × Unit) × (Unit)) := f5_k a0 a1 some
noncomputable def f5_sm : Sm := { ps := [.ro (.int .i64), .ro (.int .i64)], rs := [(Qt1, Qt2), ((.int .i64), .ro)], F := fun x => f5 x.1 x.2.1 }
theorem f5_m (x : ArgT [.ro (.int .i64), .ro (.int .i64)]) : codeS f5_fx f5_code (start [.ro (.int .i64), .ro (.int .i64)] [] x 34) (finK env [.cell 4 24, .tmp 5] [.ro (.int .i64), .ro (.int .i64)] [(Qt1, Qt2), ((.int .i64), .ro)]) = f5_k x.1 x.2.1 (fun r => some (r, [])) := by kernel_rfl
theorem f5_n {R : Type} (a0 : Int) (a1 : Int) (k : (Qv0 × Int × Unit) × (Unit) → Option R) : f5_k a0 a1 k = (f5 a0 a1).bind k := by
  simp only [f5, f5_k, cond_bind, ite_bind, bind_bind, some_bind, none_bind, elim_bind, whenS_bind]
theorem f5_ok : SmOk Tryd.prog 5 f5_sm :=
  sum_of (c := f5_fx) (fn := Tryd.f5) (code := f5_code) (sm := f5_sm) mixed (env_ok env_envB) (TabsOk.all ⟨f13_c, f14_c, trivial⟩) Tryd.func5 (by kernel_rfl)
   ((LoopsOk.of (l := []) (by kernel_rfl) trivial))
   (no_tails (by kernel_rfl)) rfl
   (fun ks x hl => by
    have hk : ks = [] := List.length_eq_zero_iff.1 hl
    subst hk
    exact (f5_m x).trans (f5_n _ _ _))
theorem f5_c : CalOk Tryd.prog 5 f5_sm := .inl ⟨f5_ok, ⟨Tryd.f5, Tryd.func5, by kernel_rfl, by kernel_rfl⟩⟩
noncomputable def f35_code : Code := (Tryd.f35.body).getD .skip
noncomputable def f35_l6_sk : SkS := ⟨7, [(33, .con (.slc (.slc (.int .u8)))), (0, .con (.int .i64)), (0, .con (.int .i64))], []⟩
noncomputable def f35_l6_o0 : SkS := ⟨40, [(2, .con (.int .i64))], []⟩
noncomputable def f35_l6_o1 : SkS := ⟨43, [], []⟩
noncomputable def f35_l6_outs : List Way := [⟨.ret, [], f35_l6_o0⟩, ⟨(.exit 0), [], f35_l6_o1⟩]
abbrev f35_l6_C := (List (List Int) × Int)
abbrev f35_l6_X := Int
abbrev f35_l6_Y := (Unit) ⊕ (Unit)
noncomputable def f35_l6_con (t : f35_l6_sk.T) : f35_l6_C := (t.1.1, t.1.2.1)
noncomputable def f35_l6_get (t : f35_l6_sk.T) : f35_l6_X := t.1.2.2.1
noncomputable def f35_l6_put (c : f35_l6_C) (x : f35_l6_X) : f35_l6_sk.T := ((c.1, (c.2, (x, ()))), ())
theorem f35_l6_pg (t : f35_l6_sk.T) : f35_l6_put (f35_l6_con t) (f35_l6_get t) = t := by kernel_rfl
noncomputable def f35_l6_w0 (c : f35_l6_C) (y : Unit) : f35_l6_o0.T := (((3 : Int), ()), ())
noncomputable def f35_l6_w1 (c : f35_l6_C) (y : Unit) : f35_l6_o1.T := ((), ())
noncomputable def f35_l6_out (c : f35_l6_C) (y : f35_l6_Y) : OutV f35_l6_outs := (Sum.elim (fun y => (.inl (f35_l6_w0 c y))) (fun y => (.inr (.inl (f35_l6_w1 c y))))) y
noncomputable def f35_l6_k {R : Type} (a0 : List (List Int)) (a1 : Int) (a2 : Int) (kin : f35_l6_X → Option R) (k0 : Unit → Option R) (k1 : Unit → Option R) : Option R :=
 (cond (decide (a2 < a1))
 (if (0 : Int) ≤ a2 ∧ a2 < ((List.length a0 : Nat) : Int) then (cond (((List.length (List.getD a0 (Int.toNat a2) ([] : List Int)) : Nat) : Int) != (128 : Int))
  (k0 ())
  (let v1 : Int := (IntKind.i64.wrap (a2 + (1 : Int)))
   (kin v1))) else none)
 (k1 ()))
noncomputable def f35_l6_g (a0 : List (List Int)) (a1 : Int) (x : f35_l6_X) : Option (f35_l6_X ⊕ f35_l6_Y) := f35_l6_k a0 a1 x (fun x => some (.inl x)) (fun y => some (.inr (.inl y))) (fun y => some (.inr (.inr y)))
noncomputable def f35_l6 (a0 : List (List Int)) (a1 : Int) (x : f35_l6_X) : Option f35_l6_Y := loopO (f35_l6_g a0 a1) x
noncomputable def f35_l6_nd : Node := { nils := [], sk := f35_l6_sk, outs := f35_l6_outs, Y := f35_l6_Y, L := fun t => f35_l6 ((f35_l6_con t).1) ((f35_l6_con t).2) (f35_l6_get t), out := fun t y => f35_l6_out (f35_l6_con t) y, disp := fun t y K => (Sum.elim (fun y => K .ret (f35_l6_o0.fill (f35_l6_w0 (f35_l6_con t) y))) (fun y => K (.exit 0) (f35_l6_o1.fill (f35_l6_w1 (f35_l6_con t) y)))) y }
noncomputable def f35_fx : Fx := { E := env, T := [], H := [], O := [], nodes := [((true, 6), f35_l6_nd)] }
noncomputable def f35_l6_b : Code := (loops f35_code).getD 0 .skip
theorem f35_l6_r (c : f35_l6_C) (x : f35_l6_X) : roundS f35_fx f35_l6_b f35_l6_nd (f35_l6_put c x) = f35_l6_k c.1 c.2 x (fun x => some (.inl (f35_l6_put c x))) (fun y => some (.inr (.inl (f35_l6_w0 c y)))) (fun y => some (.inr (.inr (.inl (f35_l6_w1 c y))))) := by kernel_rfl
theorem f35_l6_n {R : Type} (a0 : List (List Int)) (a1 : Int) (a2 : Int) (kin : f35_l6_X → Option R) (k0 : Unit → Option R) (k1 : Unit → Option R) : f35_l6_k a0 a1 a2 kin k0 k1 = (f35_l6_g a0 a1 a2).bind (Sum.elim kin (Sum.elim k0 k1)) := by
  simp only [f35_l6_g, f35_l6_k, cond_bind, ite_bind, bind_bind, some_bind, none_bind, elim_bind, whenS_bind, Sum.elim_inl, Sum.elim_inr]
theorem f35_l6_ok : LoopOk f35_fx f35_l6_b f35_l6_nd := loop_ok f35_l6_con f35_l6_get f35_l6_put f35_l6_pg (fun c => f35_l6_g c.1 c.2) f35_l6_out (fun t y => rfl) (by intro R t y K; rcases y with y | y <;> rfl) (fun c x => by
  refine (f35_l6_r c x).trans ((f35_l6_n _ _ _ _ _ _).trans ?_)
  first
  | rfl
  | congr 1
    funext s
    rcases s with s | s | s <;> rfl) (fun t => rfl)
noncomputable def f35_k {R : Type} (a0 : Qv0) (k : (Int × Unit) × (Unit) → Option R) : Option R :=
 (cond (decide (a0.1 < (1 : Int)))
 (k (((1 : Int), ()), ()))
 (cond (decide (a0.1 > (20 : Int)))
  (k (((1 : Int), ()), ()))
  (cond (decide (a0.2.1 < (1 : Int)))
   (k (((1 : Int), ()), ()))
   (cond (decide (a0.2.1 > (12 : Int)))
    (k (((1 : Int), ()), ()))
    (let v0 : Int := (IntKind.i64.wrap (a0.1 * a0.2.1))
     (cond (((List.length a0.2.2.1 : Nat) : Int) != v0)
     (k (((3 : Int), ()), ()))
     ((f35_l6 a0.2.2.1 ((List.length a0.2.2.1 : Nat) : Int) (0 : Int)).bind fun y2 =>
      ((Sum.elim (fun z3 =>
      (k (((3 : Int), ()), ())))
      (fun z4 =>
      (k (((0 : Int), ()), ())))) y2))))))))
noncomputable def f35 (a0 : Qv0) : Option ((Int × Unit) × (Unit)) := f35_k a0 some
noncomputable def f35_sm : Sm := { ps := [.ro Qt1], rs := [((.int .i64), .ro)], F := fun x => f35 x.1 }
theorem f35_m (x : ArgT [.ro Qt1]) : codeS f35_fx f35_code (start [.ro Qt1] [] x 43) (finK env [.tmp 2] [.ro Qt1] [((.int .i64), .ro)]) = f35_k x.1 (fun r => some (r, [])) := by kernel_rfl
theorem f35_n {R : Type} (a0 : Qv0) (k : (Int × Unit) × (Unit) → Option R) : f35_k a0 k = (f35 a0).bind k := by
  simp only [f35, f35_k, cond_bind, ite_bind, bind_bind, some_bind, none_bind, elim_bind, whenS_bind]
theorem f35_ok : SmOk Tryd.prog 35 f35_sm :=
  sum_of (c := f35_fx) (fn := Tryd.f35) (code := f35_code) (sm := f35_sm) mixed (env_ok env_envB) (TabsOk.all trivial) Tryd.func35 (by kernel_rfl)
   ((LoopsOk.of (l := [f35_l6_b]) (by kernel_rfl) ⟨node_is (by kernel_rfl) f35_l6_ok, trivial⟩))
   (no_tails (by kernel_rfl)) rfl
   (fun ks x hl => by
    have hk : ks = [] := List.length_eq_zero_iff.1 hl
    subst hk
    exact (f35_m x).trans (f35_n _ _))
theorem f35_c : CalOk Tryd.prog 35 f35_sm := .inl ⟨f35_ok, ⟨Tryd.f35, Tryd.func35, by kernel_rfl, by kernel_rfl⟩⟩
noncomputable def f12x1_code : Code := (Tryd.f12.body).getD .skip
noncomputable def f12x1_fx : Fx := { E := env, T := [], H := [], O := [], nodes := [] }
noncomputable def f12x1_k {R : Type} (a0 : Qv0) (a1 : Int) (k : (List Int × Unit) × (Unit) → Option R) : Option R :=
 (let v0 : Int := (IntKind.i64.wrap (Int.tdiv a1 (8 : Int)))
 (let v1 : Int := (IntKind.i64.wrap ((2 : Int) + v0))
 (if (0 : Int) ≤ v1 ∧ v1 < ((List.length a0.2.2.1 : Nat) : Int) then (let v2 : Int := (IntKind.i64.wrap ((Int.tmod a1 (8 : Int)) * (16 : Int)))
 (let v3 : Int := (IntKind.i64.wrap ((Int.tmod a1 (8 : Int)) * (16 : Int)))
 (let v4 : Int := (IntKind.i64.wrap (v3 + (16 : Int)))
 (if (0 : Int) ≤ v2 ∧ v2 ≤ v4 ∧ v4 ≤ ((List.length (List.getD a0.2.2.1 (Int.toNat v1) ([] : List Int)) : Nat) : Int) then (k (((List.take ((Int.toNat v4) - (Int.toNat v2)) (List.drop (Int.toNat v2) (List.getD a0.2.2.1 (Int.toNat v1) ([] : List Int)))), ()), ())) else none)))) else none)))
noncomputable def f12x1 (a0 : Qv0) (a1 : Int) : Option ((List Int × Unit) × (Unit)) := f12x1_k a0 a1 some
noncomputable def f12x1_sm : Sm := { ps := [.ro Qt1, .ro (.int .i64)], rs := [((.slc (.int .u8)), .ro)], F := fun x => f12x1 x.1 x.2.1 }
theorem f12x1_m (x : ArgT [.ro Qt1, .ro (.int .i64)]) : codeS f12x1_fx f12x1_code (start [.ro Qt1, .ro (.int .i64)] [] x 22) (finK env [.tmp 4] [.ro Qt1, .ro (.int .i64)] [((.slc (.int .u8)), .ro)]) = f12x1_k x.1 x.2.1 (fun r => some (r, [])) := by kernel_rfl
theorem f12x1_n {R : Type} (a0 : Qv0) (a1 : Int) (k : (List Int × Unit) × (Unit) → Option R) : f12x1_k a0 a1 k = (f12x1 a0 a1).bind k := by
  simp only [f12x1, f12x1_k, cond_bind, ite_bind, bind_bind, some_bind, none_bind, elim_bind, whenS_bind]
theorem f12x1_ok : SmOk Tryd.prog 12 f12x1_sm :=
  sum_of (c := f12x1_fx) (fn := Tryd.f12) (code := f12x1_code) (sm := f12x1_sm) mixed (env_ok env_envB) (TabsOk.all trivial) Tryd.func12 (by kernel_rfl)
   ((LoopsOk.of (l := []) (by kernel_rfl) trivial))
   (no_tails (by kernel_rfl)) rfl
   (fun ks x hl => by
    have hk : ks = [] := List.length_eq_zero_iff.1 hl
    subst hk
    exact (f12x1_m x).trans (f12x1_n _ _ _))
theorem f12x1_c : CalOk Tryd.prog 12 f12x1_sm := .inl ⟨f12x1_ok, ⟨Tryd.f12, Tryd.func12, by kernel_rfl, by kernel_rfl⟩⟩
noncomputable def f37_code : Code := (Tryd.f37.body).getD .skip
noncomputable def f37_fx : Fx := { E := env, T := [], H := [], O := [], nodes := [] }
noncomputable def f37_k {R : Type} (a0 : Int) (k : (Bool × Unit) × (Unit) → Option R) : Option R :=
 (k (((a0 != (0 : Int)), ()), ()))
noncomputable def f37 (a0 : Int) : Option ((Bool × Unit) × (Unit)) := f37_k a0 some
noncomputable def f37_sm : Sm := { ps := [.ro (.int .u8)], rs := [(.bool, .ro)], F := fun x => f37 x.1 }
theorem f37_m (x : ArgT [.ro (.int .u8)]) : codeS f37_fx f37_code (start [.ro (.int .u8)] [] x 5) (finK env [.tmp 2] [.ro (.int .u8)] [(.bool, .ro)]) = f37_k x.1 (fun r => some (r, [])) := by kernel_rfl
theorem f37_n {R : Type} (a0 : Int) (k : (Bool × Unit) × (Unit) → Option R) : f37_k a0 k = (f37 a0).bind k := by
  simp only [f37, f37_k, cond_bind, ite_bind, bind_bind, some_bind, none_bind, elim_bind, whenS_bind]
theorem f37_ok : SmOk Tryd.prog 37 f37_sm :=
  sum_of (c := f37_fx) (fn := Tryd.f37) (code := f37_code) (sm := f37_sm) mixed (env_ok env_envB) (TabsOk.all trivial) Tryd.func37 (by kernel_rfl)
   ((LoopsOk.of (l := []) (by kernel_rfl) trivial))
   (no_tails (by kernel_rfl)) rfl
   (fun ks x hl => by
    have hk : ks = [] := List.length_eq_zero_iff.1 hl
    subst hk
    exact (f37_m x).trans (f37_n _ _))
theorem f37_c : CalOk Tryd.prog 37 f37_sm := .inl ⟨f37_ok, ⟨Tryd.f37, Tryd.func37, by kernel_rfl, by kernel_rfl⟩⟩
noncomputable def f46_code : Code := (Tryd.f46.body).getD .skip
noncomputable def f46_l2_sk : SkS := ⟨10, [(0, .con (.slc (.int .u8))), (0, .fn 37 (.tnil)), (5, .con (.int .i64)), (0, .con (.int .i64))], []⟩
noncomputable def f46_l2_o0 : SkS := ⟨14, [(4, .con (.int .i64))], []⟩
noncomputable def f46_l2_o1 : SkS := ⟨19, [], []⟩
noncomputable def f46_l2_outs : List Way := [⟨.ret, [], f46_l2_o0⟩, ⟨(.exit 0), [], f46_l2_o1⟩]
abbrev f46_l2_C := (List Int × Int)
abbrev f46_l2_X := Int
abbrev f46_l2_Y := (Int) ⊕ (Unit)
noncomputable def f46_l2_con (t : f46_l2_sk.T) : f46_l2_C := (t.1.1, t.1.2.2.1)
noncomputable def f46_l2_get (t : f46_l2_sk.T) : f46_l2_X := t.1.2.2.2.1
noncomputable def f46_l2_put (c : f46_l2_C) (x : f46_l2_X) : f46_l2_sk.T := ((c.1, ((), (c.2, (x, ())))), ())
theorem f46_l2_pg (t : f46_l2_sk.T) : f46_l2_put (f46_l2_con t) (f46_l2_get t) = t := by kernel_rfl
noncomputable def f46_l2_w0 (c : f46_l2_C) (y : Int) : f46_l2_o0.T := ((y, ()), ())
noncomputable def f46_l2_w1 (c : f46_l2_C) (y : Unit) : f46_l2_o1.T := ((), ())
noncomputable def f46_l2_out (c : f46_l2_C) (y : f46_l2_Y) : OutV f46_l2_outs := (Sum.elim (fun y => (.inl (f46_l2_w0 c y))) (fun y => (.inr (.inl (f46_l2_w1 c y))))) y
noncomputable def f46_l2_k {R : Type} (a0 : List Int) (a1 : Int) (a2 : Int) (kin : f46_l2_X → Option R) (k0 : Int → Option R) (k1 : Unit → Option R) : Option R :=
 (cond (decide (a2 < a1))
 (if (0 : Int) ≤ a2 ∧ a2 < ((List.length a0 : Nat) : Int) then ((f37 (List.getD a0 (Int.toNat a2) (0 : Int))).bind fun r0 =>
  (cond r0.1.1
  (k0 a2)
  (let v1 : Int := (IntKind.i64.wrap (a2 + (1 : Int)))
   (kin v1)))) else none)
 (k1 ()))
noncomputable def f46_l2_g (a0 : List Int) (a1 : Int) (x : f46_l2_X) : Option (f46_l2_X ⊕ f46_l2_Y) := f46_l2_k a0 a1 x (fun x => some (.inl x)) (fun y => some (.inr (.inl y))) (fun y => some (.inr (.inr y)))
noncomputable def f46_l2 (a0 : List Int) (a1 : Int) (x : f46_l2_X) : Option f46_l2_Y := loopO (f46_l2_g a0 a1) x
noncomputable def f46_l2_nd : Node := { nils := [], sk := f46_l2_sk, outs := f46_l2_outs, Y := f46_l2_Y, L := fun t => f46_l2 ((f46_l2_con t).1) ((f46_l2_con t).2) (f46_l2_get t), out := fun t y => f46_l2_out (f46_l2_con t) y, disp := fun t y K => (Sum.elim (fun y => K .ret (f46_l2_o0.fill (f46_l2_w0 (f46_l2_con t) y))) (fun y => K (.exit 0) (f46_l2_o1.fill (f46_l2_w1 (f46_l2_con t) y)))) y }
noncomputable def f46_fx : Fx := { E := env, T := [(37, f37_sm)], H := [], O := [], nodes := [((true, 2), f46_l2_nd)] }
noncomputable def f46_l2_b : Code := (loops f46_code).getD 0 .skip
theorem f46_l2_r (c : f46_l2_C) (x : f46_l2_X) : roundS f46_fx f46_l2_b f46_l2_nd (f46_l2_put c x) = f46_l2_k c.1 c.2 x (fun x => some (.inl (f46_l2_put c x))) (fun y => some (.inr (.inl (f46_l2_w0 c y)))) (fun y => some (.inr (.inr (.inl (f46_l2_w1 c y))))) := by kernel_rfl
theorem f46_l2_n {R : Type} (a0 : List Int) (a1 : Int) (a2 : Int) (kin : f46_l2_X → Option R) (k0 : Int → Option R) (k1 : Unit → Option R) : f46_l2_k a0 a1 a2 kin k0 k1 = (f46_l2_g a0 a1 a2).bind (Sum.elim kin (Sum.elim k0 k1)) := by
  simp only [f46_l2_g, f46_l2_k, cond_bind, ite_bind, bind_bind, some_bind, none_bind, elim_bind, whenS_bind, Sum.elim_inl, Sum.elim_inr]
theorem f46_l2_ok : LoopOk f46_fx f46_l2_b f46_l2_nd := loop_ok f46_l2_con f46_l2_get f46_l2_put f46_l2_pg (fun c => f46_l2_g c.1 c.2) f46_l2_out (fun t y => rfl) (by intro R t y K; rcases y with y | y <;> rfl) (fun c x => by
  refine (f46_l2_r c x).trans ((f46_l2_n _ _ _ _ _ _).trans ?_)
  first
  | rfl
  | congr 1
    funext s
    rcases s with s | s | s <;> rfl) (fun t => rfl)
noncomputable def f46_k {R : Type} (a0 : List Int) (a1 : (Unit)) (k : (Int × Unit) × (Unit) → Option R) : Option R :=
 ((f46_l2 a0 ((List.length a0 : Nat) : Int) (0 : Int)).bind fun y2 =>
 ((Sum.elim (fun z3 =>
 (k ((z3, ()), ())))
 (fun z4 =>
 (k (((-1 : Int), ()), ())))) y2))
noncomputable def f46 (a0 : List Int) (a1 : (Unit)) : Option ((Int × Unit) × (Unit)) := f46_k a0 a1 some
noncomputable def f46_sm : Sm := { ps := [.ro (.slc (.int .u8)), .fn 37 []], rs := [((.int .i64), .ro)], F := fun x => f46 x.1 x.2.1 }
theorem f46_m (x : ArgT [.ro (.slc (.int .u8)), .fn 37 []]) : codeS f46_fx f46_code (start [.ro (.slc (.int .u8)), .fn 37 []] [] x 19) (finK env [.tmp 4] [.ro (.slc (.int .u8)), .fn 37 []] [((.int .i64), .ro)]) = f46_k x.1 x.2.1 (fun r => some (r, [])) := by kernel_rfl
theorem f46_n {R : Type} (a0 : List Int) (a1 : (Unit)) (k : (Int × Unit) × (Unit) → Option R) : f46_k a0 a1 k = (f46 a0 a1).bind k := by
  simp only [f46, f46_k, cond_bind, ite_bind, bind_bind, some_bind, none_bind, elim_bind, whenS_bind]
theorem f46_ok : SmOk Tryd.prog 46 f46_sm :=
  sum_of (c := f46_fx) (fn := Tryd.f46) (code := f46_code) (sm := f46_sm) mixed (env_ok env_envB) (TabsOk.all ⟨f37_c, trivial⟩) Tryd.func46 (by kernel_rfl)
   ((LoopsOk.of (l := [f46_l2_b]) (by kernel_rfl) ⟨node_is (by kernel_rfl) f46_l2_ok, trivial⟩))
   (no_tails (by kernel_rfl)) rfl
   (fun ks x hl => by
    have hk : ks = [] := List.length_eq_zero_iff.1 hl
    subst hk
    exact (f46_m x).trans (f46_n _ _ _))
theorem f46_c : CalOk Tryd.prog 46 f46_sm := .inl ⟨f46_ok, ⟨Tryd.f46, Tryd.func46, by kernel_rfl, by kernel_rfl⟩⟩
noncomputable def f36_code : Code := (Tryd.f36.body).getD .skip
noncomputable def f36_fx : Fx := { E := env, T := [(46, f46_sm)], H := [], O := [], nodes := [] }
noncomputable def f36_k {R : Type} (a0 : List Int) (a1 : (Unit)) (k : (Bool × Unit) × (Unit) → Option R) : Option R :=
 ((f46 a0 ()).bind fun r0 =>
 (k (((decide (r0.1.1 ≥ (0 : Int))), ()), ())))
noncomputable def f36 (a0 : List Int) (a1 : (Unit)) : Option ((Bool × Unit) × (Unit)) := f36_k a0 a1 some
noncomputable def f36_sm : Sm := { ps := [.ro (.slc (.int .u8)), .fn 37 []], rs := [(.bool, .ro)], F := fun x => f36 x.1 x.2.1 }
theorem f36_m (x : ArgT [.ro (.slc (.int .u8)), .fn 37 []]) : codeS f36_fx f36_code (start [.ro (.slc (.int .u8)), .fn 37 []] [] x 9) (finK env [.tmp 4] [.ro (.slc (.int .u8)), .fn 37 []] [(.bool, .ro)]) = f36_k x.1 x.2.1 (fun r => some (r, [])) := by kernel_rfl
theorem f36_n {R : Type} (a0 : List Int) (a1 : (Unit)) (k : (Bool × Unit) × (Unit) → Option R) : f36_k a0 a1 k = (f36 a0 a1).bind k := by
  simp only [f36, f36_k, cond_bind, ite_bind, bind_bind, some_bind, none_bind, elim_bind, whenS_bind]
theorem f36_ok : SmOk Tryd.prog 36 f36_sm :=
  sum_of (c := f36_fx) (fn := Tryd.f36) (code := f36_code) (sm := f36_sm) mixed (env_ok env_envB) (TabsOk.all ⟨f46_c, trivial⟩) Tryd.func36 (by kernel_rfl)
   ((LoopsOk.of (l := []) (by kernel_rfl) trivial))
   (no_tails (by kernel_rfl)) rfl
   (fun ks x hl => by
    have hk : ks = [] := List.length_eq_zero_iff.1 hl
    subst hk
    exact (f36_m x).trans (f36_n _ _ _))
theorem f36_c : CalOk Tryd.prog 36 f36_sm := .inl ⟨f36_ok, ⟨Tryd.f36, Tryd.func36, by kernel_rfl, by kernel_rfl⟩⟩
noncomputable def f38_code : Code := (Tryd.f38.body).getD .skip
noncomputable def f38_l14_sk : SkS := ⟨28, [(1, .con (.slc (.int .u8))), (0, .ptr 32 []), (3, .ref 111 []), (0, .con .bool), (1, .con (.int .i64)), (3, .con (.int .i64)), (35, .con (.int .i64)), (0, .con (.int .i64))], [(32, ⟨some 24, Qt1, .ro, none⟩), (111, ⟨none, (.slc (.int .i64)), (.own .ro), none⟩)]⟩
noncomputable def f38_l14_o0 : SkS := ⟨65, [(1, .con (.slc (.int .u8))), (0, .ptr 32 []), (3, .ref 111 []), (0, .con .bool), (5, .con (.int .i64))], [(32, ⟨some 24, Qt1, .ro, none⟩), (111, ⟨none, (.slc (.int .i64)), (.own .ro), none⟩)]⟩
noncomputable def f38_l14_outs : List Way := [⟨(.exit 2), [], f38_l14_o0⟩]
abbrev f38_l14_C := (List Int × Bool × Int × Int × Int × Qv0 × (Option Nat))
abbrev f38_l14_X := (Int × List Int)
abbrev f38_l14_Y := (List Int)
noncomputable def f38_l14_con (t : f38_l14_sk.T) : f38_l14_C := (t.1.1, t.1.2.1, t.1.2.2.1, t.1.2.2.2.1, t.1.2.2.2.2.1, t.2.1.1, t.2.1.2)
noncomputable def f38_l14_get (t : f38_l14_sk.T) : f38_l14_X := (t.1.2.2.2.2.2.1, t.2.2.1.1)
noncomputable def f38_l14_put (c : f38_l14_C) (x : f38_l14_X) : f38_l14_sk.T := ((c.1, (c.2.1, (c.2.2.1, (c.2.2.2.1, (c.2.2.2.2.1, (x.1, ())))))), ((c.2.2.2.2.2.1, c.2.2.2.2.2.2), ((x.2, ()), ())))
theorem f38_l14_pg (t : f38_l14_sk.T) : f38_l14_put (f38_l14_con t) (f38_l14_get t) = t := by kernel_rfl
noncomputable def f38_l14_w0 (c : f38_l14_C) (y : List Int) : f38_l14_o0.T := ((c.1, (c.2.1, (c.2.2.2.1, ()))), ((c.2.2.2.2.2.1, c.2.2.2.2.2.2), ((y, ()), ())))
noncomputable def f38_l14_out (c : f38_l14_C) (y : f38_l14_Y) : OutV f38_l14_outs := (fun y => (.inl (f38_l14_w0 c y))) y
noncomputable def f38_l14_k {R : Type} (a0 : List Int) (a1 : Bool) (a2 : Int) (a3 : Int) (a4 : Int) (a5 : Int) (a6 : Qv0) (a7 : List Int) (kin : f38_l14_X → Option R) (k0 : List Int → Option R) : Option R :=
 (cond (decide (a5 < a4))
 (let v8 : Int := (IntKind.i64.wrap (a2 + a5))
  (if (List.length a7 + 1) * 8 ≤ most ∧ 0 < 8 ∧ 0 < 1 then (let r9 : List Int := (a7 ++ [v8])
  (let v10 : Int := (IntKind.i64.wrap (a5 + (1 : Int)))
  (kin (v10, r9)))) else none))
 (k0 a7))
noncomputable def f38_l14_g (a0 : List Int) (a1 : Bool) (a2 : Int) (a3 : Int) (a4 : Int) (a6 : Qv0) (x : f38_l14_X) : Option (f38_l14_X ⊕ f38_l14_Y) := f38_l14_k a0 a1 a2 a3 a4 x.1 a6 x.2 (fun x => some (.inl x)) (fun y => some (.inr y))
noncomputable def f38_l14 (a0 : List Int) (a1 : Bool) (a2 : Int) (a3 : Int) (a4 : Int) (a6 : Qv0) (x : f38_l14_X) : Option f38_l14_Y := loopO (f38_l14_g a0 a1 a2 a3 a4 a6) x
noncomputable def f38_l14_nd : Node := { nils := [(6, 111, (.int .i64), .ro)], sk := f38_l14_sk, outs := f38_l14_outs, Y := f38_l14_Y, L := fun t => f38_l14 ((f38_l14_con t).1) ((f38_l14_con t).2.1) ((f38_l14_con t).2.2.1) ((f38_l14_con t).2.2.2.1) ((f38_l14_con t).2.2.2.2.1) ((f38_l14_con t).2.2.2.2.2.1) (f38_l14_get t), out := fun t y => f38_l14_out (f38_l14_con t) y, disp := fun t y K => (fun y => K (.exit 2) (f38_l14_o0.fill (f38_l14_w0 (f38_l14_con t) y))) y }
noncomputable def f38_l4_sk : SkS := ⟨65, [(1, .con (.slc (.int .u8))), (0, .ptr 32 []), (3, .ref 111 []), (0, .con .bool), (5, .con (.int .i64))], [(32, ⟨some 24, Qt1, .ro, none⟩), (111, ⟨none, (.slc (.int .i64)), (.own .ro), none⟩)]⟩
noncomputable def f38_l4_o0 : SkS := ⟨73, [(4, .nil), (0, .con .bool)], []⟩
noncomputable def f38_l4_o1 : SkS := ⟨72, [(1, .con (.slc (.int .u8))), (4, .ref 111 [])], [(111, ⟨none, (.slc (.int .i64)), (.own .ro), none⟩)]⟩
noncomputable def f38_l4_outs : List Way := [⟨.ret, [], f38_l4_o0⟩, ⟨(.exit 0), [], f38_l4_o1⟩]
abbrev f38_l4_C := (List Int × Qv0 × (Option Nat))
abbrev f38_l4_X := (Bool × Int × List Int)
abbrev f38_l4_Y := (Unit) ⊕ (List Int)
noncomputable def f38_l4_con (t : f38_l4_sk.T) : f38_l4_C := (t.1.1, t.2.1.1, t.2.1.2)
noncomputable def f38_l4_get (t : f38_l4_sk.T) : f38_l4_X := (t.1.2.1, t.1.2.2.1, t.2.2.1.1)
noncomputable def f38_l4_put (c : f38_l4_C) (x : f38_l4_X) : f38_l4_sk.T := ((c.1, (x.1, (x.2.1, ()))), ((c.2.1, c.2.2), ((x.2.2, ()), ())))
theorem f38_l4_pg (t : f38_l4_sk.T) : f38_l4_put (f38_l4_con t) (f38_l4_get t) = t := by kernel_rfl
noncomputable def f38_l4_w0 (c : f38_l4_C) (y : Unit) : f38_l4_o0.T := ((false, ()), ())
noncomputable def f38_l4_w1 (c : f38_l4_C) (y : List Int) : f38_l4_o1.T := ((c.1, ()), ((y, ()), ()))
noncomputable def f38_l4_out (c : f38_l4_C) (y : f38_l4_Y) : OutV f38_l4_outs := (Sum.elim (fun y => (.inl (f38_l4_w0 c y))) (fun y => (.inr (.inl (f38_l4_w1 c y))))) y
noncomputable def f38_l4_k {R : Type} (a0 : List Int) (a1 : Bool) (a2 : Int) (a3 : Qv0) (a4 : List Int) (kin : f38_l4_X → Option R) (k0 : Unit → Option R) (k1 : List Int → Option R) : Option R :=
 (cond (decide (a2 < (4 : Int)))
 (let v0 : Int := (IntKind.i64.wrap ((2 : Int) * a2))
  (let v1 : Int := (IntKind.i64.wrap ((4 : Int) + v0))
  (if (0 : Int) ≤ v1 ∧ v1 < ((List.length a0 : Nat) : Int) then (let v2 : Int := (IntKind.i64.wrap (List.getD a0 (Int.toNat v1) (0 : Int)))
  (let v3 : Int := (IntKind.i64.wrap ((2 : Int) * a2))
  (let v4 : Int := (IntKind.i64.wrap ((5 : Int) + v3))
  (if (0 : Int) ≤ v4 ∧ v4 < ((List.length a0 : Nat) : Int) then (let v5 : Int := (IntKind.i64.wrap (List.getD a0 (Int.toNat v4) (0 : Int)))
  (cond (v5 == (0 : Int))
  (cond (v2 != (0 : Int))
   (k0 ())
   (let v6 : Int := (IntKind.i64.wrap (a2 + (1 : Int)))
    (kin (false, v6, a4))))
  (cond (!a1)
   (k0 ())
   (cond (decide (v2 < (6 : Int)))
    (k0 ())
    (let v7 : Int := (IntKind.i64.wrap (v2 + v5))
     (cond (decide (v7 > ((List.length a3.2.2.1 : Nat) : Int)))
     (k0 ())
     ((f38_l14 a0 a1 v2 a2 v5 a3 ((0 : Int), a4)).bind fun y11 =>
      (let v12 : Int := (IntKind.i64.wrap (a2 + (1 : Int)))
      (kin (a1, v12, y11)))))))))) else none)))) else none)))
 (k1 a4))
noncomputable def f38_l4_g (a0 : List Int) (a3 : Qv0) (x : f38_l4_X) : Option (f38_l4_X ⊕ f38_l4_Y) := f38_l4_k a0 x.1 x.2.1 a3 x.2.2 (fun x => some (.inl x)) (fun y => some (.inr (.inl y))) (fun y => some (.inr (.inr y)))
noncomputable def f38_l4 (a0 : List Int) (a3 : Qv0) (x : f38_l4_X) : Option f38_l4_Y := loopO (f38_l4_g a0 a3) x
noncomputable def f38_l4_nd : Node := { nils := [(6, 111, (.int .i64), .ro)], sk := f38_l4_sk, outs := f38_l4_outs, Y := f38_l4_Y, L := fun t => f38_l4 ((f38_l4_con t).1) ((f38_l4_con t).2.1) (f38_l4_get t), out := fun t y => f38_l4_out (f38_l4_con t) y, disp := fun t y K => (Sum.elim (fun y => K .ret (f38_l4_o0.fill (f38_l4_w0 (f38_l4_con t) y))) (fun y => K (.exit 0) (f38_l4_o1.fill (f38_l4_w1 (f38_l4_con t) y)))) y }
noncomputable def f38_fx : Fx := { E := env, T := [], H := [], O := [], nodes := [((true, 14), f38_l14_nd), ((true, 4), f38_l4_nd)] }
noncomputable def f38_l14_b : Code := (loops f38_code).getD 1 .skip
theorem f38_l14_r (c : f38_l14_C) (x : f38_l14_X) : roundS f38_fx f38_l14_b f38_l14_nd (f38_l14_put c x) = f38_l14_k c.1 c.2.1 c.2.2.1 c.2.2.2.1 c.2.2.2.2.1 x.1 c.2.2.2.2.2.1 x.2 (fun x => some (.inl (f38_l14_put c x))) (fun y => some (.inr (.inl (f38_l14_w0 c y)))) := by kernel_rfl
theorem f38_l14_n {R : Type} (a0 : List Int) (a1 : Bool) (a2 : Int) (a3 : Int) (a4 : Int) (a5 : Int) (a6 : Qv0) (a7 : List Int) (kin : f38_l14_X → Option R) (k0 : List Int → Option R) : f38_l14_k a0 a1 a2 a3 a4 a5 a6 a7 kin k0 = (f38_l14_g a0 a1 a2 a3 a4 a6 (a5, a7)).bind (Sum.elim kin k0) := by
  simp only [f38_l14_g, f38_l14_k, cond_bind, ite_bind, bind_bind, some_bind, none_bind, elim_bind, whenS_bind, Sum.elim_inl, Sum.elim_inr]
theorem f38_l14_ok : LoopOk f38_fx f38_l14_b f38_l14_nd := loop_ok f38_l14_con f38_l14_get f38_l14_put f38_l14_pg (fun c => f38_l14_g c.1 c.2.1 c.2.2.1 c.2.2.2.1 c.2.2.2.2.1 c.2.2.2.2.2.1) f38_l14_out (fun t y => rfl) (fun t y K => rfl) (fun c x => by
  refine (f38_l14_r c x).trans ((f38_l14_n _ _ _ _ _ _ _ _ _ _).trans ?_)
  first
  | rfl
  | congr 1
    funext s
    rcases s with s | s <;> rfl) (fun t => rfl)
noncomputable def f38_l4_b : Code := (loops f38_code).getD 0 .skip
theorem f38_l4_r (c : f38_l4_C) (x : f38_l4_X) : roundS f38_fx f38_l4_b f38_l4_nd (f38_l4_put c x) = f38_l4_k c.1 x.1 x.2.1 c.2.1 x.2.2 (fun x => some (.inl (f38_l4_put c x))) (fun y => some (.inr (.inl (f38_l4_w0 c y)))) (fun y => some (.inr (.inr (.inl (f38_l4_w1 c y))))) := by kernel_rfl
theorem f38_l4_n {R : Type} (a0 : List Int) (a1 : Bool) (a2 : Int) (a3 : Qv0) (a4 : List Int) (kin : f38_l4_X → Option R) (k0 : Unit → Option R) (k1 : List Int → Option R) : f38_l4_k a0 a1 a2 a3 a4 kin k0 k1 = (f38_l4_g a0 a3 (a1, a2, a4)).bind (Sum.elim kin (Sum.elim k0 k1)) := by
  simp only [f38_l4_g, f38_l4_k, cond_bind, ite_bind, bind_bind, some_bind, none_bind, elim_bind, whenS_bind, Sum.elim_inl, Sum.elim_inr]
theorem f38_l4_ok : LoopOk f38_fx f38_l4_b f38_l4_nd := loop_ok f38_l4_con f38_l4_get f38_l4_put f38_l4_pg (fun c => f38_l4_g c.1 c.2.1) f38_l4_out (fun t y => rfl) (by intro R t y K; rcases y with y | y <;> rfl) (fun c x => by
  refine (f38_l4_r c x).trans ((f38_l4_n _ _ _ _ _ _ _ _).trans ?_)
  first
  | rfl
  | congr 1
    funext s
    rcases s with s | s | s <;> rfl) (fun t => rfl)
noncomputable def f38_k {R : Type} (a0 : Qv0) (a1 : List Int) (k : (List Int × Bool × Unit) × (Unit) → Option R) : Option R :=
 ((f38_l4 a1 a0 (true, (0 : Int), [])).bind fun y13 =>
 ((Sum.elim (fun z14 =>
 (k (([], (false, ())), ())))
 (fun z15 =>
 (if (0 : Int) ≤ (2 : Int) ∧ (2 : Int) < ((List.length a1 : Nat) : Int) then (let v16 : Int := (IntKind.i64.wrap (List.getD a1 2 (0 : Int)))
  (let v17 : Int := (IntKind.i64.wrap (v16 * 2 ^ (min 8 64)))
  (if (0 : Int) ≤ (3 : Int) ∧ (3 : Int) < ((List.length a1 : Nat) : Int) then (let v18 : Int := (IntKind.i64.wrap (List.getD a1 3 (0 : Int)))
  (let v19 : Int := (IntKind.i64.wrap (v17 + v18))
  (let v20 : Int := (IntKind.i64.wrap (v19 + (128 : Int)))
  (let v21 : Int := (IntKind.i64.wrap (v20 - (1 : Int)))
  (let v22 : Int := (IntKind.i64.wrap (Int.tdiv v21 (128 : Int)))
  (k ((z15, ((((List.length z15 : Nat) : Int) == v22), ())), ()))))))) else none))) else none))) y13))
noncomputable def f38 (a0 : Qv0) (a1 : List Int) : Option ((List Int × Bool × Unit) × (Unit)) := f38_k a0 a1 some
noncomputable def f38_sm : Sm := { ps := [.ro Qt1, .ro (.slc (.int .u8))], rs := [((.slc (.int .i64)), (.own .ro)), (.bool, .ro)], F := fun x => f38 x.1 x.2.1 }
theorem f38_m (x : ArgT [.ro Qt1, .ro (.slc (.int .u8))]) : codeS f38_fx f38_code (start [.ro Qt1, .ro (.slc (.int .u8))] [] x 79) (finK env [.tmp 4, .tmp 5] [.ro Qt1, .ro (.slc (.int .u8))] [((.slc (.int .i64)), (.own .ro)), (.bool, .ro)]) = f38_k x.1 x.2.1 (fun r => some (r, [])) := by kernel_rfl
theorem f38_n {R : Type} (a0 : Qv0) (a1 : List Int) (k : (List Int × Bool × Unit) × (Unit) → Option R) : f38_k a0 a1 k = (f38 a0 a1).bind k := by
  simp only [f38, f38_k, cond_bind, ite_bind, bind_bind, some_bind, none_bind, elim_bind, whenS_bind]
theorem f38_ok : SmOk Tryd.prog 38 f38_sm :=
  sum_of (c := f38_fx) (fn := Tryd.f38) (code := f38_code) (sm := f38_sm) mixed (env_ok env_envB) (TabsOk.all trivial) Tryd.func38 (by kernel_rfl)
   ((LoopsOk.of (l := [f38_l4_b, f38_l14_b]) (by kernel_rfl) ⟨node_is (by kernel_rfl) f38_l4_ok, node_is (by kernel_rfl) f38_l14_ok, trivial⟩))
   (no_tails (by kernel_rfl)) rfl
   (fun ks x hl => by
    have hk : ks = [] := List.length_eq_zero_iff.1 hl
    subst hk
    exact (f38_m x).trans (f38_n _ _ _))
theorem f38_c : CalOk Tryd.prog 38 f38_sm := .inl ⟨f38_ok, ⟨Tryd.f38, Tryd.func38, by kernel_rfl, by kernel_rfl⟩⟩
noncomputable def f30_code : Code := (Tryd.f30.body).getD .skip
noncomputable def f30_fx : Fx := { E := env, T := [], H := [], O := [], nodes := [] }
noncomputable def f30_k {R : Type} (a0 : Qv0) (a1 : Int) (k : (Bool × Unit) × (Unit) → Option R) : Option R :=
 (if (0 : Int) ≤ (1 : Int) ∧ (1 : Int) < ((List.length a0.2.2.1 : Nat) : Int) then (let v0 : Int := (IntKind.i64.wrap (Int.tdiv a1 (8 : Int)))
 (if (0 : Int) ≤ v0 ∧ v0 < ((List.length (List.getD a0.2.2.1 1 ([] : List Int)) : Nat) : Int) then (if (Int.tmod a1 (8 : Int)) < 0 then none else (let v1 : Int := (Int.fdiv (List.getD (List.getD a0.2.2.1 1 ([] : List Int)) (Int.toNat v0) (0 : Int)) (2 ^ (min (Int.toNat (Int.tmod a1 (8 : Int))) 8)))
 (let v2 : Int := (bitop IntKind.u8 .and v1 (1 : Int))
 (k (((v2 == (1 : Int)), ()), ()))))) else none)) else none)
noncomputable def f30 (a0 : Qv0) (a1 : Int) : Option ((Bool × Unit) × (Unit)) := f30_k a0 a1 some
noncomputable def f30_sm : Sm := { ps := [.ro Qt1, .ro (.int .i64)], rs := [(.bool, .ro)], F := fun x => f30 x.1 x.2.1 }
theorem f30_m (x : ArgT [.ro Qt1, .ro (.int .i64)]) : codeS f30_fx f30_code (start [.ro Qt1, .ro (.int .i64)] [] x 18) (finK env [.tmp 4] [.ro Qt1, .ro (.int .i64)] [(.bool, .ro)]) = f30_k x.1 x.2.1 (fun r => some (r, [])) := by kernel_rfl
theorem f30_n {R : Type} (a0 : Qv0) (a1 : Int) (k : (Bool × Unit) × (Unit) → Option R) : f30_k a0 a1 k = (f30 a0 a1).bind k := by
  simp only [f30, f30_k, cond_bind, ite_bind, bind_bind, some_bind, none_bind, elim_bind, whenS_bind]
theorem f30_ok : SmOk Tryd.prog 30 f30_sm :=
  sum_of (c := f30_fx) (fn := Tryd.f30) (code := f30_code) (sm := f30_sm) mixed (env_ok env_envB) (TabsOk.all trivial) Tryd.func30 (by kernel_rfl)
   ((LoopsOk.of (l := []) (by kernel_rfl) trivial))
   (no_tails (by kernel_rfl)) rfl
   (fun ks x hl => by
    have hk : ks = [] := List.length_eq_zero_iff.1 hl
    subst hk
    exact (f30_m x).trans (f30_n _ _ _))
theorem f30_c : CalOk Tryd.prog 30 f30_sm := .inl ⟨f30_ok, ⟨Tryd.f30, Tryd.func30, by kernel_rfl, by kernel_rfl⟩⟩
noncomputable def f28_code : Code := (Tryd.f28.body).getD .skip
noncomputable def f28_l10_sk : SkS := ⟨61, [(1, .ptr 16 []), (2, .ref 688 []), (39, .con (.int .i64))], [(16, ⟨some 24, Qt1, .ro, none⟩), (688, ⟨none, (.slc .bool), (.own .ro), none⟩)]⟩
noncomputable def f28_l10_o0 : SkS := ⟨101, [(1, .ptr 16 []), (2, .ref 688 [])], [(16, ⟨some 24, Qt1, .ro, none⟩), (688, ⟨none, (.slc .bool), (.own .ro), none⟩)]⟩
noncomputable def f28_l10_outs : List Way := [⟨(.exit 0), [], f28_l10_o0⟩]
abbrev f28_l10_C := (Qv0 × (Option Nat))
abbrev f28_l10_X := (Int × List Bool)
abbrev f28_l10_Y := (List Bool)
noncomputable def f28_l10_con (t : f28_l10_sk.T) : f28_l10_C := (t.2.1.1, t.2.1.2)
noncomputable def f28_l10_get (t : f28_l10_sk.T) : f28_l10_X := (t.1.1, t.2.2.1.1)
noncomputable def f28_l10_put (c : f28_l10_C) (x : f28_l10_X) : f28_l10_sk.T := ((x.1, ()), ((c.1, c.2), ((x.2, ()), ())))
theorem f28_l10_pg (t : f28_l10_sk.T) : f28_l10_put (f28_l10_con t) (f28_l10_get t) = t := by kernel_rfl
noncomputable def f28_l10_w0 (c : f28_l10_C) (y : List Bool) : f28_l10_o0.T := ((), ((c.1, c.2), ((y, ()), ())))
noncomputable def f28_l10_out (c : f28_l10_C) (y : f28_l10_Y) : OutV f28_l10_outs := (fun y => (.inl (f28_l10_w0 c y))) y
noncomputable def f28_l10_k {R : Type} (a0 : Int) (a1 : Qv0) (a2 : List Bool) (kin : f28_l10_X → Option R) (k0 : List Bool → Option R) : Option R :=
 (cond (decide (a0 < (6 : Int)))
 (if (0 : Int) ≤ a0 ∧ a0 < ((List.length a2 : Nat) : Int) then (let v3 : Int := (IntKind.i64.wrap (a0 + (1 : Int)))
  (kin (v3, (List.set a2 (Int.toNat a0) true)))) else none)
 (k0 a2))
noncomputable def f28_l10_g (a1 : Qv0) (x : f28_l10_X) : Option (f28_l10_X ⊕ f28_l10_Y) := f28_l10_k x.1 a1 x.2 (fun x => some (.inl x)) (fun y => some (.inr y))
noncomputable def f28_l10 (a1 : Qv0) (x : f28_l10_X) : Option f28_l10_Y := loopO (f28_l10_g a1) x
noncomputable def f28_l10_nd : Node := { nils := [], sk := f28_l10_sk, outs := f28_l10_outs, Y := f28_l10_Y, L := fun t => f28_l10 ((f28_l10_con t).1) (f28_l10_get t), out := fun t y => f28_l10_out (f28_l10_con t) y, disp := fun t y K => (fun y => K (.exit 0) (f28_l10_o0.fill (f28_l10_w0 (f28_l10_con t) y))) y }
noncomputable def f28_l25_sk : SkS := ⟨26, [(1, .ptr 16 []), (2, .ref 688 []), (46, .con (.int .i64)), (25, .ref 1056 []), (0, .con (.int .i64)), (0, .con (.int .i64))], [(16, ⟨some 24, Qt1, .ro, none⟩), (688, ⟨none, (.slc .bool), (.own .ro), none⟩), (1056, ⟨none, (.slc (.int .i64)), (.own .ro), none⟩)]⟩
noncomputable def f28_l25_o0 : SkS := ⟨103, [(2, .con (.int .i64))], []⟩
noncomputable def f28_l25_o1 : SkS := ⟨54, [(1, .ptr 16 []), (2, .ref 688 []), (46, .con (.int .i64))], [(16, ⟨some 24, Qt1, .ro, none⟩), (688, ⟨none, (.slc .bool), (.own .ro), none⟩)]⟩
noncomputable def f28_l25_outs : List Way := [⟨.ret, [], f28_l25_o0⟩, ⟨(.exit 4), [], f28_l25_o1⟩]
abbrev f28_l25_C := (Int × Int × Qv0 × List Int × (Option Nat))
abbrev f28_l25_X := (Int × List Bool)
abbrev f28_l25_Y := (Unit) ⊕ (List Bool)
noncomputable def f28_l25_con (t : f28_l25_sk.T) : f28_l25_C := (t.1.1, t.1.2.1, t.2.1.1, t.2.2.2.1.1, t.2.1.2)
noncomputable def f28_l25_get (t : f28_l25_sk.T) : f28_l25_X := (t.1.2.2.1, t.2.2.1.1)
noncomputable def f28_l25_put (c : f28_l25_C) (x : f28_l25_X) : f28_l25_sk.T := ((c.1, (c.2.1, (x.1, ()))), ((c.2.2.1, c.2.2.2.2), ((x.2, ()), ((c.2.2.2.1, ()), ()))))
theorem f28_l25_pg (t : f28_l25_sk.T) : f28_l25_put (f28_l25_con t) (f28_l25_get t) = t := by kernel_rfl
noncomputable def f28_l25_w0 (c : f28_l25_C) (y : Unit) : f28_l25_o0.T := (((16 : Int), ()), ())
noncomputable def f28_l25_w1 (c : f28_l25_C) (y : List Bool) : f28_l25_o1.T := ((c.1, ()), ((c.2.2.1, c.2.2.2.2), ((y, ()), ())))
noncomputable def f28_l25_out (c : f28_l25_C) (y : f28_l25_Y) : OutV f28_l25_outs := (Sum.elim (fun y => (.inl (f28_l25_w0 c y))) (fun y => (.inr (.inl (f28_l25_w1 c y))))) y
noncomputable def f28_l25_k {R : Type} (a0 : Int) (a1 : Int) (a2 : Int) (a3 : Qv0) (a4 : List Bool) (a5 : List Int) (kin : f28_l25_X → Option R) (k0 : Unit → Option R) (k1 : List Bool → Option R) : Option R :=
 (cond (decide (a2 < a1))
 (if (0 : Int) ≤ a2 ∧ a2 < ((List.length a5 : Nat) : Int) then (if (0 : Int) ≤ (List.getD a5 (Int.toNat a2) (0 : Int)) ∧ (List.getD a5 (Int.toNat a2) (0 : Int)) < ((List.length a4 : Nat) : Int) then (cond (List.getD a4 (Int.toNat (List.getD a5 (Int.toNat a2) (0 : Int))) false)
  (k0 ())
  (if (0 : Int) ≤ (List.getD a5 (Int.toNat a2) (0 : Int)) ∧ (List.getD a5 (Int.toNat a2) (0 : Int)) < ((List.length a4 : Nat) : Int) then (let v9 : Int := (IntKind.i64.wrap (a2 + (1 : Int)))
   (kin (v9, (List.set a4 (Int.toNat (List.getD a5 (Int.toNat a2) (0 : Int))) true)))) else none)) else none) else none)
 (k1 a4))
noncomputable def f28_l25_g (a0 : Int) (a1 : Int) (a3 : Qv0) (a5 : List Int) (x : f28_l25_X) : Option (f28_l25_X ⊕ f28_l25_Y) := f28_l25_k a0 a1 x.1 a3 x.2 a5 (fun x => some (.inl x)) (fun y => some (.inr (.inl y))) (fun y => some (.inr (.inr y)))
noncomputable def f28_l25 (a0 : Int) (a1 : Int) (a3 : Qv0) (a5 : List Int) (x : f28_l25_X) : Option f28_l25_Y := loopO (f28_l25_g a0 a1 a3 a5) x
noncomputable def f28_l25_nd : Node := { nils := [], sk := f28_l25_sk, outs := f28_l25_outs, Y := f28_l25_Y, L := fun t => f28_l25 ((f28_l25_con t).1) ((f28_l25_con t).2.1) ((f28_l25_con t).2.2.1) ((f28_l25_con t).2.2.2.1) (f28_l25_get t), out := fun t y => f28_l25_out (f28_l25_con t) y, disp := fun t y K => (Sum.elim (fun y => K .ret (f28_l25_o0.fill (f28_l25_w0 (f28_l25_con t) y))) (fun y => K (.exit 4) (f28_l25_o1.fill (f28_l25_w1 (f28_l25_con t) y)))) y }
noncomputable def f28_l15_sk : SkS := ⟨54, [(1, .ptr 16 []), (2, .ref 688 []), (46, .con (.int .i64))], [(16, ⟨some 24, Qt1, .ro, none⟩), (688, ⟨none, (.slc .bool), (.own .ro), none⟩)]⟩
noncomputable def f28_l15_o0 : SkS := ⟨103, [(2, .con (.int .i64))], []⟩
noncomputable def f28_l15_o1 : SkS := ⟨101, [(1, .ptr 16 []), (2, .ref 688 [])], [(16, ⟨some 24, Qt1, .ro, none⟩), (688, ⟨none, (.slc .bool), (.own .ro), none⟩)]⟩
noncomputable def f28_l15_outs : List Way := [⟨.ret, [], f28_l15_o0⟩, ⟨(.exit 2), [], f28_l15_o1⟩]
abbrev f28_l15_C := (Qv0 × (Option Nat))
abbrev f28_l15_X := (Int × List Bool)
abbrev f28_l15_Y := (Int) ⊕ (List Bool)
noncomputable def f28_l15_con (t : f28_l15_sk.T) : f28_l15_C := (t.2.1.1, t.2.1.2)
noncomputable def f28_l15_get (t : f28_l15_sk.T) : f28_l15_X := (t.1.1, t.2.2.1.1)
noncomputable def f28_l15_put (c : f28_l15_C) (x : f28_l15_X) : f28_l15_sk.T := ((x.1, ()), ((c.1, c.2), ((x.2, ()), ())))
theorem f28_l15_pg (t : f28_l15_sk.T) : f28_l15_put (f28_l15_con t) (f28_l15_get t) = t := by kernel_rfl
noncomputable def f28_l15_w0 (c : f28_l15_C) (y : Int) : f28_l15_o0.T := ((y, ()), ())
noncomputable def f28_l15_w1 (c : f28_l15_C) (y : List Bool) : f28_l15_o1.T := ((), ((c.1, c.2), ((y, ()), ())))
noncomputable def f28_l15_out (c : f28_l15_C) (y : f28_l15_Y) : OutV f28_l15_outs := (Sum.elim (fun y => (.inl (f28_l15_w0 c y))) (fun y => (.inr (.inl (f28_l15_w1 c y))))) y
noncomputable def f28_l15_k {R : Type} (a0 : Int) (a1 : Qv0) (a2 : List Bool) (kin : f28_l15_X → Option R) (k0 : Int → Option R) (k1 : List Bool → Option R) : Option R :=
 (cond (decide (a0 < (32 : Int)))
 ((f12x1 a1 a0).bind fun r5 =>
  (if (0 : Int) ≤ (0 : Int) ∧ (0 : Int) < ((List.length r5.1.1 : Nat) : Int) then (cond ((List.getD r5.1.1 0 (0 : Int)) == (0 : Int))
  ((f36 r5.1.1 ()).bind fun r6 =>
   (cond r6.1.1
   (k0 (3 : Int))
   (let v7 : Int := (IntKind.i64.wrap (a0 + (1 : Int)))
    (kin (v7, a2)))))
  ((f38 a1 r5.1.1).bind fun r8 =>
   (if (0 : Int) ≤ (0 : Int) ∧ (0 : Int) < ((List.length r5.1.1 : Nat) : Int) then (cond (decide ((List.getD r5.1.1 0 (0 : Int)) > (2 : Int)))
   (k0 (3 : Int))
   (cond (!r8.1.2.1)
    (k0 (3 : Int))
    ((f28_l25 a0 ((List.length r8.1.1 : Nat) : Int) a1 r8.1.1 ((0 : Int), a2)).bind fun y10 =>
     ((Sum.elim (fun z11 =>
     (k0 (16 : Int)))
     (fun z12 =>
     (let v13 : Int := (IntKind.i64.wrap (a0 + (1 : Int)))
      (kin (v13, z12))))) y10)))) else none))) else none))
 (k1 a2))
noncomputable def f28_l15_g (a1 : Qv0) (x : f28_l15_X) : Option (f28_l15_X ⊕ f28_l15_Y) := f28_l15_k x.1 a1 x.2 (fun x => some (.inl x)) (fun y => some (.inr (.inl y))) (fun y => some (.inr (.inr y)))
noncomputable def f28_l15 (a1 : Qv0) (x : f28_l15_X) : Option f28_l15_Y := loopO (f28_l15_g a1) x
noncomputable def f28_l15_nd : Node := { nils := [], sk := f28_l15_sk, outs := f28_l15_outs, Y := f28_l15_Y, L := fun t => f28_l15 ((f28_l15_con t).1) (f28_l15_get t), out := fun t y => f28_l15_out (f28_l15_con t) y, disp := fun t y K => (Sum.elim (fun y => K .ret (f28_l15_o0.fill (f28_l15_w0 (f28_l15_con t) y))) (fun y => K (.exit 2) (f28_l15_o1.fill (f28_l15_w1 (f28_l15_con t) y)))) y }
noncomputable def f28_l33_sk : SkS := ⟨11, [(1, .ptr 16 []), (2, .ref 688 []), (88, .con (.int .i64)), (0, .con (.int .i64))], [(16, ⟨some 24, Qt1, .ro, none⟩), (688, ⟨none, (.slc .bool), (.own .ro), none⟩)]⟩
noncomputable def f28_l33_o0 : SkS := ⟨103, [(2, .con (.int .i64))], []⟩
noncomputable def f28_l33_o1 : SkS := ⟨106, [], []⟩
noncomputable def f28_l33_outs : List Way := [⟨.ret, [], f28_l33_o0⟩, ⟨(.exit 6), [], f28_l33_o1⟩]
abbrev f28_l33_C := (Int × Qv0 × List Bool × (Option Nat))
abbrev f28_l33_X := Int
abbrev f28_l33_Y := (Unit) ⊕ (Unit)
noncomputable def f28_l33_con (t : f28_l33_sk.T) : f28_l33_C := (t.1.1, t.2.1.1, t.2.2.1.1, t.2.1.2)
noncomputable def f28_l33_get (t : f28_l33_sk.T) : f28_l33_X := t.1.2.1
noncomputable def f28_l33_put (c : f28_l33_C) (x : f28_l33_X) : f28_l33_sk.T := ((c.1, (x, ())), ((c.2.1, c.2.2.2), ((c.2.2.1, ()), ())))
theorem f28_l33_pg (t : f28_l33_sk.T) : f28_l33_put (f28_l33_con t) (f28_l33_get t) = t := by kernel_rfl
noncomputable def f28_l33_w0 (c : f28_l33_C) (y : Unit) : f28_l33_o0.T := (((7 : Int), ()), ())
noncomputable def f28_l33_w1 (c : f28_l33_C) (y : Unit) : f28_l33_o1.T := ((), ())
noncomputable def f28_l33_out (c : f28_l33_C) (y : f28_l33_Y) : OutV f28_l33_outs := (Sum.elim (fun y => (.inl (f28_l33_w0 c y))) (fun y => (.inr (.inl (f28_l33_w1 c y))))) y
noncomputable def f28_l33_k {R : Type} (a0 : Int) (a1 : Int) (a2 : Qv0) (a3 : List Bool) (kin : f28_l33_X → Option R) (k0 : Unit → Option R) (k1 : Unit → Option R) : Option R :=
 (cond (decide (a1 < a0))
 (if (0 : Int) ≤ a1 ∧ a1 < ((List.length a3 : Nat) : Int) then ((f30 a2 a1).bind fun r17 =>
  (cond (!((List.getD a3 (Int.toNat a1) false) == r17.1.1))
  (k0 ())
  (let v18 : Int := (IntKind.i64.wrap (a1 + (1 : Int)))
   (kin v18)))) else none)
 (k1 ()))
noncomputable def f28_l33_g (a0 : Int) (a2 : Qv0) (a3 : List Bool) (x : f28_l33_X) : Option (f28_l33_X ⊕ f28_l33_Y) := f28_l33_k a0 x a2 a3 (fun x => some (.inl x)) (fun y => some (.inr (.inl y))) (fun y => some (.inr (.inr y)))
noncomputable def f28_l33 (a0 : Int) (a2 : Qv0) (a3 : List Bool) (x : f28_l33_X) : Option f28_l33_Y := loopO (f28_l33_g a0 a2 a3) x
noncomputable def f28_l33_nd : Node := { nils := [], sk := f28_l33_sk, outs := f28_l33_outs, Y := f28_l33_Y, L := fun t => f28_l33 ((f28_l33_con t).1) ((f28_l33_con t).2.1) ((f28_l33_con t).2.2.1) (f28_l33_get t), out := fun t y => f28_l33_out (f28_l33_con t) y, disp := fun t y K => (Sum.elim (fun y => K .ret (f28_l33_o0.fill (f28_l33_w0 (f28_l33_con t) y))) (fun y => K (.exit 6) (f28_l33_o1.fill (f28_l33_w1 (f28_l33_con t) y)))) y }
noncomputable def f28_fx : Fx := { E := env, T := [(35, f35_sm), (12, f12x1_sm), (36, f36_sm), (38, f38_sm), (30, f30_sm)], H := [], O := [], nodes := [((true, 10), f28_l10_nd), ((true, 25), f28_l25_nd), ((true, 15), f28_l15_nd), ((true, 33), f28_l33_nd)] }
noncomputable def f28_l10_b : Code := (loops f28_code).getD 0 .skip
theorem f28_l10_r (c : f28_l10_C) (x : f28_l10_X) : roundS f28_fx f28_l10_b f28_l10_nd (f28_l10_put c x) = f28_l10_k x.1 c.1 x.2 (fun x => some (.inl (f28_l10_put c x))) (fun y => some (.inr (.inl (f28_l10_w0 c y)))) := by kernel_rfl
theorem f28_l10_n {R : Type} (a0 : Int) (a1 : Qv0) (a2 : List Bool) (kin : f28_l10_X → Option R) (k0 : List Bool → Option R) : f28_l10_k a0 a1 a2 kin k0 = (f28_l10_g a1 (a0, a2)).bind (Sum.elim kin k0) := by
  simp only [f28_l10_g, f28_l10_k, cond_bind, ite_bind, bind_bind, some_bind, none_bind, elim_bind, whenS_bind, Sum.elim_inl, Sum.elim_inr]
theorem f28_l10_ok : LoopOk f28_fx f28_l10_b f28_l10_nd := loop_ok f28_l10_con f28_l10_get f28_l10_put f28_l10_pg (fun c => f28_l10_g c.1) f28_l10_out (fun t y => rfl) (fun t y K => rfl) (fun c x => by
  refine (f28_l10_r c x).trans ((f28_l10_n _ _ _ _ _).trans ?_)
  first
  | rfl
  | congr 1
    funext s
    rcases s with s | s <;> rfl) (fun t => rfl)
noncomputable def f28_l25_b : Code := (loops f28_code).getD 2 .skip
theorem f28_l25_r (c : f28_l25_C) (x : f28_l25_X) : roundS f28_fx f28_l25_b f28_l25_nd (f28_l25_put c x) = f28_l25_k c.1 c.2.1 x.1 c.2.2.1 x.2 c.2.2.2.1 (fun x => some (.inl (f28_l25_put c x))) (fun y => some (.inr (.inl (f28_l25_w0 c y)))) (fun y => some (.inr (.inr (.inl (f28_l25_w1 c y))))) := by kernel_rfl
theorem f28_l25_n {R : Type} (a0 : Int) (a1 : Int) (a2 : Int) (a3 : Qv0) (a4 : List Bool) (a5 : List Int) (kin : f28_l25_X → Option R) (k0 : Unit → Option R) (k1 : List Bool → Option R) : f28_l25_k a0 a1 a2 a3 a4 a5 kin k0 k1 = (f28_l25_g a0 a1 a3 a5 (a2, a4)).bind (Sum.elim kin (Sum.elim k0 k1)) := by
  simp only [f28_l25_g, f28_l25_k, cond_bind, ite_bind, bind_bind, some_bind, none_bind, elim_bind, whenS_bind, Sum.elim_inl, Sum.elim_inr]
theorem f28_l25_ok : LoopOk f28_fx f28_l25_b f28_l25_nd := loop_ok f28_l25_con f28_l25_get f28_l25_put f28_l25_pg (fun c => f28_l25_g c.1 c.2.1 c.2.2.1 c.2.2.2.1) f28_l25_out (fun t y => rfl) (by intro R t y K; rcases y with y | y <;> rfl) (fun c x => by
  refine (f28_l25_r c x).trans ((f28_l25_n _ _ _ _ _ _ _ _ _).trans ?_)
  first
  | rfl
  | congr 1
    funext s
    rcases s with s | s | s <;> rfl) (fun t => rfl)
noncomputable def f28_l15_b : Code := (loops f28_code).getD 1 .skip
theorem f28_l15_r (c : f28_l15_C) (x : f28_l15_X) : roundS f28_fx f28_l15_b f28_l15_nd (f28_l15_put c x) = f28_l15_k x.1 c.1 x.2 (fun x => some (.inl (f28_l15_put c x))) (fun y => some (.inr (.inl (f28_l15_w0 c y)))) (fun y => some (.inr (.inr (.inl (f28_l15_w1 c y))))) := by kernel_rfl
theorem f28_l15_n {R : Type} (a0 : Int) (a1 : Qv0) (a2 : List Bool) (kin : f28_l15_X → Option R) (k0 : Int → Option R) (k1 : List Bool → Option R) : f28_l15_k a0 a1 a2 kin k0 k1 = (f28_l15_g a1 (a0, a2)).bind (Sum.elim kin (Sum.elim k0 k1)) := by
  simp only [f28_l15_g, f28_l15_k, cond_bind, ite_bind, bind_bind, some_bind, none_bind, elim_bind, whenS_bind, Sum.elim_inl, Sum.elim_inr]
theorem f28_l15_ok : LoopOk f28_fx f28_l15_b f28_l15_nd := loop_ok f28_l15_con f28_l15_get f28_l15_put f28_l15_pg (fun c => f28_l15_g c.1) f28_l15_out (fun t y => rfl) (by intro R t y K; rcases y with y | y <;> rfl) (fun c x => by
  refine (f28_l15_r c x).trans ((f28_l15_n _ _ _ _ _ _).trans ?_)
  first
  | rfl
  | congr 1
    funext s
    rcases s with s | s | s <;> rfl) (fun t => rfl)
noncomputable def f28_l33_b : Code := (loops f28_code).getD 3 .skip
theorem f28_l33_r (c : f28_l33_C) (x : f28_l33_X) : roundS f28_fx f28_l33_b f28_l33_nd (f28_l33_put c x) = f28_l33_k c.1 x c.2.1 c.2.2.1 (fun x => some (.inl (f28_l33_put c x))) (fun y => some (.inr (.inl (f28_l33_w0 c y)))) (fun y => some (.inr (.inr (.inl (f28_l33_w1 c y))))) := by kernel_rfl
theorem f28_l33_n {R : Type} (a0 : Int) (a1 : Int) (a2 : Qv0) (a3 : List Bool) (kin : f28_l33_X → Option R) (k0 : Unit → Option R) (k1 : Unit → Option R) : f28_l33_k a0 a1 a2 a3 kin k0 k1 = (f28_l33_g a0 a2 a3 a1).bind (Sum.elim kin (Sum.elim k0 k1)) := by
  simp only [f28_l33_g, f28_l33_k, cond_bind, ite_bind, bind_bind, some_bind, none_bind, elim_bind, whenS_bind, Sum.elim_inl, Sum.elim_inr]
theorem f28_l33_ok : LoopOk f28_fx f28_l33_b f28_l33_nd := loop_ok f28_l33_con f28_l33_get f28_l33_put f28_l33_pg (fun c => f28_l33_g c.1 c.2.1 c.2.2.1) f28_l33_out (fun t y => rfl) (by intro R t y K; rcases y with y | y <;> rfl) (fun c x => by
  refine (f28_l33_r c x).trans ((f28_l33_n _ _ _ _ _ _ _).trans ?_)
  first
  | rfl
  | congr 1
    funext s
    rcases s with s | s | s <;> rfl) (fun t => rfl)
noncomputable def f28_k {R : Type} (a0 : Qv0) (k : (Int × Unit) × (Unit) → Option R) : Option R :=
 ((f35 a0).bind fun r0 =>
 (cond (r0.1.1 != (0 : Int))
 (k ((r0.1.1, ()), ()))
 (cond (decide (((List.length a0.2.2.1 : Nat) : Int) ≤ (6 : Int)))
  (k (((13 : Int), ()), ()))
  (if (0 : Int) ≤ (0 : Int) ∧ (0 : Int) < ((List.length a0.2.2.1 : Nat) : Int) then (if (0 : Int) ≤ (0 : Int) ∧ (0 : Int) ≤ (5 : Int) ∧ (5 : Int) ≤ ((List.length (List.getD a0.2.2.1 0 ([] : List Int)) : Nat) : Int) then (cond (!strEq (b2s (List.take 5 (List.drop 0 (List.getD a0.2.2.1 0 ([] : List Int))))) (⟨#[116, 114, 101, 101, 49]⟩ : ByteArray))
   (k (((3 : Int), ()), ()))
   ((f12x1 a0 (0 : Int)).bind fun r1 =>
    (if (0 : Int) ≤ (0 : Int) ∧ (0 : Int) < ((List.length r1.1.1 : Nat) : Int) then (cond ((List.getD r1.1.1 0 (0 : Int)) != (2 : Int))
    (k (((3 : Int), ()), ()))
    ((f12x1 a0 (0 : Int)).bind fun r2 =>
     (if (0 : Int) ≤ (1 : Int) ∧ (1 : Int) < ((List.length r2.1.1 : Nat) : Int) then (cond ((List.getD r2.1.1 1 (0 : Int)) != (0 : Int))
     (k (((3 : Int), ()), ()))
     ((f28_l10 a0 ((0 : Int), (List.replicate 1024 false))).bind fun y4 =>
      ((f28_l15 a0 ((0 : Int), y4)).bind fun y14 =>
      ((Sum.elim (fun z15 =>
      (k ((z15, ()), ())))
      (fun z16 =>
      ((f28_l33 ((List.length z16 : Nat) : Int) a0 z16 (0 : Int)).bind fun y19 =>
       ((Sum.elim (fun z20 =>
       (k (((7 : Int), ()), ())))
       (fun z21 =>
       (k (((0 : Int), ()), ())))) y19)))) y14)))) else none))) else none))) else none) else none))))
noncomputable def f28 (a0 : Qv0) : Option ((Int × Unit) × (Unit)) := f28_k a0 some
noncomputable def f28_sm : Sm := { ps := [.ro Qt1], rs := [((.int .i64), .ro)], F := fun x => f28 x.1 }
theorem f28_m (x : ArgT [.ro Qt1]) : codeS f28_fx f28_code (start [.ro Qt1] [] x 106) (finK env [.tmp 2] [.ro Qt1] [((.int .i64), .ro)]) = f28_k x.1 (fun r => some (r, [])) := by kernel_rfl
theorem f28_n {R : Type} (a0 : Qv0) (k : (Int × Unit) × (Unit) → Option R) : f28_k a0 k = (f28 a0).bind k := by
  simp only [f28, f28_k, cond_bind, ite_bind, bind_bind, some_bind, none_bind, elim_bind, whenS_bind]
theorem f28_ok : SmOk Tryd.prog 28 f28_sm :=
  sum_of (c := f28_fx) (fn := Tryd.f28) (code := f28_code) (sm := f28_sm) mixed (env_ok env_envB) (TabsOk.all ⟨f35_c, f12x1_c, f36_c, f38_c, f30_c, trivial⟩) Tryd.func28 (by kernel_rfl)
   ((LoopsOk.of (l := [f28_l10_b, f28_l15_b, f28_l25_b, f28_l33_b]) (by kernel_rfl) ⟨node_is (by kernel_rfl) f28_l10_ok, node_is (by kernel_rfl) f28_l15_ok, node_is (by kernel_rfl) f28_l25_ok, node_is (by kernel_rfl) f28_l33_ok, trivial⟩))
   (no_tails (by kernel_rfl)) rfl
   (fun ks x hl => by
    have hk : ks = [] := List.length_eq_zero_iff.1 hl
    subst hk
    exact (f28_m x).trans (f28_n _ _))
theorem f28_c : CalOk Tryd.prog 28 f28_sm := .inl ⟨f28_ok, ⟨Tryd.f28, Tryd.func28, by kernel_rfl, by kernel_rfl⟩⟩
noncomputable def f40_code : Code := (Tryd.f40.body).getD .skip
noncomputable def f40_l5_sk : SkS := ⟨26, [(2, .ptr 32 []), (2, .con (.slc (.int .u8))), (2, .ref 143 []), (11, .ref 272 []), (0, .con (.int .i64)), (0, .con (.int .i64))], [(32, ⟨some 24, Qt1, .ro, none⟩), (143, ⟨none, (.slc (.int .u8)), (.own .ro), none⟩), (272, ⟨none, (.slc (.int .i64)), (.own .ro), none⟩)]⟩
noncomputable def f40_l5_o0 : SkS := ⟨40, [(5, .con (.slc (.int .u8))), (2, .ref 143 [])], [(143, ⟨none, (.slc (.int .u8)), (.own .ro), none⟩)]⟩
noncomputable def f40_l5_outs : List Way := [⟨(.exit 0), [], f40_l5_o0⟩]
abbrev f40_l5_C := (List Int × Int × Qv0 × List Int × (Option Nat))
abbrev f40_l5_X := (Int × List Int)
abbrev f40_l5_Y := (List Int)
noncomputable def f40_l5_con (t : f40_l5_sk.T) : f40_l5_C := (t.1.1, t.1.2.1, t.2.1.1, t.2.2.2.1.1, t.2.1.2)
noncomputable def f40_l5_get (t : f40_l5_sk.T) : f40_l5_X := (t.1.2.2.1, t.2.2.1.1)
noncomputable def f40_l5_put (c : f40_l5_C) (x : f40_l5_X) : f40_l5_sk.T := ((c.1, (c.2.1, (x.1, ()))), ((c.2.2.1, c.2.2.2.2), ((x.2, ()), ((c.2.2.2.1, ()), ()))))
theorem f40_l5_pg (t : f40_l5_sk.T) : f40_l5_put (f40_l5_con t) (f40_l5_get t) = t := by kernel_rfl
noncomputable def f40_l5_w0 (c : f40_l5_C) (y : List Int) : f40_l5_o0.T := ((c.1, ()), ((y, ()), ()))
noncomputable def f40_l5_out (c : f40_l5_C) (y : f40_l5_Y) : OutV f40_l5_outs := (fun y => (.inl (f40_l5_w0 c y))) y
noncomputable def f40_l5_k {R : Type} (a0 : List Int) (a1 : Int) (a2 : Int) (a3 : Qv0) (a4 : List Int) (a5 : List Int) (kin : f40_l5_X → Option R) (k0 : List Int → Option R) : Option R :=
 (cond (decide (a2 < a1))
 (if (0 : Int) ≤ a2 ∧ a2 < ((List.length a5 : Nat) : Int) then (if (0 : Int) ≤ (List.getD a5 (Int.toNat a2) (0 : Int)) ∧ (List.getD a5 (Int.toNat a2) (0 : Int)) < ((List.length a3.2.2.1 : Nat) : Int) then (if (List.length a4 + List.length (List.getD a3.2.2.1 (Int.toNat (List.getD a5 (Int.toNat a2) (0 : Int))) ([] : List Int))) * 1 ≤ most ∧ 0 < 1 ∧ 0 < 1 then (let r2 : List Int := (a4 ++ (List.getD a3.2.2.1 (Int.toNat (List.getD a5 (Int.toNat a2) (0 : Int))) ([] : List Int)))
  (let v3 : Int := (IntKind.i64.wrap (a2 + (1 : Int)))
  (kin (v3, r2)))) else none) else none) else none)
 (k0 a4))
noncomputable def f40_l5_g (a0 : List Int) (a1 : Int) (a3 : Qv0) (a5 : List Int) (x : f40_l5_X) : Option (f40_l5_X ⊕ f40_l5_Y) := f40_l5_k a0 a1 x.1 a3 x.2 a5 (fun x => some (.inl x)) (fun y => some (.inr y))
noncomputable def f40_l5 (a0 : List Int) (a1 : Int) (a3 : Qv0) (a5 : List Int) (x : f40_l5_X) : Option f40_l5_Y := loopO (f40_l5_g a0 a1 a3 a5) x
noncomputable def f40_l5_nd : Node := { nils := [(8, 143, (.int .u8), .ro)], sk := f40_l5_sk, outs := f40_l5_outs, Y := f40_l5_Y, L := fun t => f40_l5 ((f40_l5_con t).1) ((f40_l5_con t).2.1) ((f40_l5_con t).2.2.1) ((f40_l5_con t).2.2.2.1) (f40_l5_get t), out := fun t y => f40_l5_out (f40_l5_con t) y, disp := fun t y K => (fun y => K (.exit 0) (f40_l5_o0.fill (f40_l5_w0 (f40_l5_con t) y))) y }
noncomputable def f40_fx : Fx := { E := env, T := [(12, f12x1_sm), (38, f38_sm)], H := [], O := [], nodes := [((true, 5), f40_l5_nd)] }
noncomputable def f40_l5_b : Code := (loops f40_code).getD 0 .skip
theorem f40_l5_r (c : f40_l5_C) (x : f40_l5_X) : roundS f40_fx f40_l5_b f40_l5_nd (f40_l5_put c x) = f40_l5_k c.1 c.2.1 x.1 c.2.2.1 x.2 c.2.2.2.1 (fun x => some (.inl (f40_l5_put c x))) (fun y => some (.inr (.inl (f40_l5_w0 c y)))) := by kernel_rfl
theorem f40_l5_n {R : Type} (a0 : List Int) (a1 : Int) (a2 : Int) (a3 : Qv0) (a4 : List Int) (a5 : List Int) (kin : f40_l5_X → Option R) (k0 : List Int → Option R) : f40_l5_k a0 a1 a2 a3 a4 a5 kin k0 = (f40_l5_g a0 a1 a3 a5 (a2, a4)).bind (Sum.elim kin k0) := by
  simp only [f40_l5_g, f40_l5_k, cond_bind, ite_bind, bind_bind, some_bind, none_bind, elim_bind, whenS_bind, Sum.elim_inl, Sum.elim_inr]
theorem f40_l5_ok : LoopOk f40_fx f40_l5_b f40_l5_nd := loop_ok f40_l5_con f40_l5_get f40_l5_put f40_l5_pg (fun c => f40_l5_g c.1 c.2.1 c.2.2.1 c.2.2.2.1) f40_l5_out (fun t y => rfl) (fun t y K => rfl) (fun c x => by
  refine (f40_l5_r c x).trans ((f40_l5_n _ _ _ _ _ _ _ _).trans ?_)
  first
  | rfl
  | congr 1
    funext s
    rcases s with s | s <;> rfl) (fun t => rfl)
noncomputable def f40_k {R : Type} (a0 : Qv0) (a1 : Int) (k : (List Int × Unit) × (Unit) → Option R) : Option R :=
 ((f12x1 a0 a1).bind fun r0 =>
 ((f38 a0 r0.1.1).bind fun r1 =>
 ((f40_l5 r0.1.1 ((List.length r1.1.1 : Nat) : Int) a0 r1.1.1 ((0 : Int), [])).bind fun y4 =>
 (if (0 : Int) ≤ (2 : Int) ∧ (2 : Int) < ((List.length r0.1.1 : Nat) : Int) then (let v5 : Int := (IntKind.i64.wrap (List.getD r0.1.1 2 (0 : Int)))
 (let v6 : Int := (IntKind.i64.wrap (v5 * 2 ^ (min 8 64)))
 (if (0 : Int) ≤ (3 : Int) ∧ (3 : Int) < ((List.length r0.1.1 : Nat) : Int) then (let v7 : Int := (IntKind.i64.wrap (List.getD r0.1.1 3 (0 : Int)))
 (let v8 : Int := (IntKind.i64.wrap (v6 + v7))
 (let v9 : Int := (if v8 < ((List.length y4 : Nat) : Int) then v8 else ((List.length y4 : Nat) : Int))
 (if (0 : Int) ≤ (0 : Int) ∧ (0 : Int) ≤ v9 ∧ v9 ≤ ((List.length y4 : Nat) : Int) then (k (((List.take ((Int.toNat v9) - 0) (List.drop 0 y4)), ()), ())) else none)))) else none))) else none))))
noncomputable def f40 (a0 : Qv0) (a1 : Int) : Option ((List Int × Unit) × (Unit)) := f40_k a0 a1 some
noncomputable def f40_sm : Sm := { ps := [.ro Qt1, .ro (.int .i64)], rs := [((.slc (.int .u8)), (.own .ro))], F := fun x => f40 x.1 x.2.1 }
theorem f40_m (x : ArgT [.ro Qt1, .ro (.int .i64)]) : codeS f40_fx f40_code (start [.ro Qt1, .ro (.int .i64)] [] x 49) (finK env [.tmp 4] [.ro Qt1, .ro (.int .i64)] [((.slc (.int .u8)), (.own .ro))]) = f40_k x.1 x.2.1 (fun r => some (r, [])) := by kernel_rfl
theorem f40_n {R : Type} (a0 : Qv0) (a1 : Int) (k : (List Int × Unit) × (Unit) → Option R) : f40_k a0 a1 k = (f40 a0 a1).bind k := by
  simp only [f40, f40_k, cond_bind, ite_bind, bind_bind, some_bind, none_bind, elim_bind, whenS_bind]
theorem f40_ok : SmOk Tryd.prog 40 f40_sm :=
  sum_of (c := f40_fx) (fn := Tryd.f40) (code := f40_code) (sm := f40_sm) mixed (env_ok env_envB) (TabsOk.all ⟨f12x1_c, f38_c, trivial⟩) Tryd.func40 (by kernel_rfl)
   ((LoopsOk.of (l := [f40_l5_b]) (by kernel_rfl) ⟨node_is (by kernel_rfl) f40_l5_ok, trivial⟩))
   (no_tails (by kernel_rfl)) rfl
   (fun ks x hl => by
    have hk : ks = [] := List.length_eq_zero_iff.1 hl
    subst hk
    exact (f40_m x).trans (f40_n _ _ _))
theorem f40_c : CalOk Tryd.prog 40 f40_sm := .inl ⟨f40_ok, ⟨Tryd.f40, Tryd.func40, by kernel_rfl, by kernel_rfl⟩⟩
noncomputable def f39_code : Code := (Tryd.f39.body).getD .skip
noncomputable def f39_l5_sk : SkS := ⟨53, [(0, .con (.slc (.int .u8))), (3, .nil), (0, .con (.int .i64))], []⟩
noncomputable def f39_l5_o0 : SkS := ⟨54, [(4, .nil)], []⟩
noncomputable def f39_l5_outs : List Way := [⟨(.exit 0), [], f39_l5_o0⟩]
abbrev f39_l5_C := (List Int × Int)
abbrev f39_l5_X := Unit
abbrev f39_l5_Y := (Unit)
noncomputable def f39_l5_con (t : f39_l5_sk.T) : f39_l5_C := (t.1.1, t.1.2.1)
noncomputable def f39_l5_get (t : f39_l5_sk.T) : f39_l5_X := ()
noncomputable def f39_l5_put (c : f39_l5_C) (x : f39_l5_X) : f39_l5_sk.T := ((c.1, (c.2, ())), ())
theorem f39_l5_pg (t : f39_l5_sk.T) : f39_l5_put (f39_l5_con t) (f39_l5_get t) = t := by kernel_rfl
noncomputable def f39_l5_w0 (c : f39_l5_C) (y : Unit) : f39_l5_o0.T := ((), ())
noncomputable def f39_l5_out (c : f39_l5_C) (y : f39_l5_Y) : OutV f39_l5_outs := (fun y => (.inl (f39_l5_w0 c y))) y
noncomputable def f39_l5_k {R : Type} (a0 : List Int) (a1 : Int) (kin : f39_l5_X → Option R) (k0 : Unit → Option R) : Option R :=
 (cond (decide (a1 < ((List.length a0 : Nat) : Int)))
 (let v1 : Int := (IntKind.i64.wrap (a1 + (32 : Int)))
  (if (0 : Int) ≤ a1 ∧ a1 ≤ v1 ∧ v1 ≤ ((List.length a0 : Nat) : Int) then (if (0 : Int) ≤ (0 : Int) ∧ (0 : Int) ≤ (20 : Int) ∧ (20 : Int) ≤ ((List.length (List.take ((Int.toNat v1) - (Int.toNat a1)) (List.drop (Int.toNat a1) a0)) : Nat) : Int) then none else none) else none))
 (k0 ()))
noncomputable def f39_l5_g (a0 : List Int) (a1 : Int) (x : f39_l5_X) : Option (f39_l5_X ⊕ f39_l5_Y) := f39_l5_k a0 a1 (fun x => some (.inl x)) (fun y => some (.inr y))
noncomputable def f39_l5 (a0 : List Int) (a1 : Int) (x : f39_l5_X) : Option f39_l5_Y := loopO (f39_l5_g a0 a1) x
noncomputable def f39_l5_nd : Node := { nils := [], sk := f39_l5_sk, outs := f39_l5_outs, Y := f39_l5_Y, L := fun t => f39_l5 ((f39_l5_con t).1) ((f39_l5_con t).2) (f39_l5_get t), out := fun t y => f39_l5_out (f39_l5_con t) y, disp := fun t y K => (fun y => K (.exit 0) (f39_l5_o0.fill (f39_l5_w0 (f39_l5_con t) y))) y }
noncomputable def f39_fx : Fx := { E := env, T := [], H := [], O := [], nodes := [((true, 5), f39_l5_nd)] }
noncomputable def f39_l5_b : Code := (loops f39_code).getD 0 .skip
theorem f39_l5_r (c : f39_l5_C) (x : f39_l5_X) : roundS f39_fx f39_l5_b f39_l5_nd (f39_l5_put c x) = f39_l5_k c.1 c.2 (fun x => some (.inl (f39_l5_put c x))) (fun y => some (.inr (.inl (f39_l5_w0 c y)))) := by kernel_rfl
theorem f39_l5_n {R : Type} (a0 : List Int) (a1 : Int) (kin : f39_l5_X → Option R) (k0 : Unit → Option R) : f39_l5_k a0 a1 kin k0 = (f39_l5_g a0 a1 ()).bind (Sum.elim kin k0) := by
  simp only [f39_l5_g, f39_l5_k, cond_bind, ite_bind, bind_bind, some_bind, none_bind, elim_bind, whenS_bind, Sum.elim_inl, Sum.elim_inr]
theorem f39_l5_ok : LoopOk f39_fx f39_l5_b f39_l5_nd := loop_ok f39_l5_con f39_l5_get f39_l5_put f39_l5_pg (fun c => f39_l5_g c.1 c.2) f39_l5_out (fun t y => rfl) (fun t y K => rfl) (fun c x => by
  refine (f39_l5_r c x).trans ((f39_l5_n _ _ _ _).trans ?_)
  first
  | rfl
  | congr 1
    funext s
    rcases s with s | s <;> rfl) (fun t => rfl)
noncomputable def f39_k {R : Type} (a0 : List Int) (k : (List (ByteArray × (Int × Unit)) × Bool × Unit) × (Unit) → Option R) : Option R :=
 (let v0 : Int := (Int.tmod ((List.length a0 : Nat) : Int) (32 : Int))
 (cond (v0 != (0 : Int))
 (k (([], (false, ())), ()))
 ((f39_l5 a0 (0 : Int) ()).bind fun y2 =>
  (k (([], (true, ())), ())))))
noncomputable def f39 (a0 : List Int) : Option ((List (ByteArray × (Int × Unit)) × Bool × Unit) × (Unit)) := f39_k a0 some
noncomputable def f39_sm : Sm := { ps := [.ro (.slc (.int .u8))], rs := [((.slc (.pair .str (.pair (.int .i64) .unit))), (.own .ro)), (.bool, .ro)], F := fun x => f39 x.1 }
theorem f39_m (x : ArgT [.ro (.slc (.int .u8))]) : codeS f39_fx f39_code (start [.ro (.slc (.int .u8))] [] x 59) (finK env [.tmp 2, .tmp 3] [.ro (.slc (.int .u8))] [((.slc (.pair .str (.pair (.int .i64) .unit))), (.own .ro)), (.bool, .ro)]) = f39_k x.1 (fun r => some (r, [])) := by kernel_rfl
theorem f39_n {R : Type} (a0 : List Int) (k : (List (ByteArray × (Int × Unit)) × Bool × Unit) × (Unit) → Option R) : f39_k a0 k = (f39 a0).bind k := by
  simp only [f39, f39_k, cond_bind, ite_bind, bind_bind, some_bind, none_bind, elim_bind, whenS_bind]
theorem f39_ok : SmOk Tryd.prog 39 f39_sm :=
  sum_of (c := f39_fx) (fn := Tryd.f39) (code := f39_code) (sm := f39_sm) mixed (env_ok env_envB) (TabsOk.all trivial) Tryd.func39 (by kernel_rfl)
   ((LoopsOk.of (l := [f39_l5_b]) (by kernel_rfl) ⟨node_is (by kernel_rfl) f39_l5_ok, trivial⟩))
   (no_tails (by kernel_rfl)) rfl
   (fun ks x hl => by
    have hk : ks = [] := List.length_eq_zero_iff.1 hl
    subst hk
    exact (f39_m x).trans (f39_n _ _))
theorem f39_c : CalOk Tryd.prog 39 f39_sm := .inl ⟨f39_ok, ⟨Tryd.f39, Tryd.func39, by kernel_rfl, by kernel_rfl⟩⟩
noncomputable def f29_code : Code := (Tryd.f29.body).getD .skip
noncomputable def f29_l5_sk : SkS := ⟨55, [(1, .con (.int .i64)), (0, .con (.int .i64)), (0, .ref 48 []), (0, .ptr 64 []), (18, .ref 288 []), (0, .con (.int .i64)), (0, .con (.int .i64))], [(48, ⟨none, (.slc .bool), (.own .ro), some (3, 0)⟩), (64, ⟨some 24, Qt1, .ro, none⟩), (288, ⟨none, (.slc (.pair .str (.pair (.int .i64) .unit))), (.own .ro), none⟩)]⟩
noncomputable def f29_l5_o0 : SkS := ⟨72, [(8, .con (.int .i64))], [(48, ⟨none, (.slc .bool), (.own .ro), some (3, 0)⟩)]⟩
noncomputable def f29_l5_o1 : SkS := ⟨81, [], [(48, ⟨none, (.slc .bool), (.own .ro), some (3, 0)⟩)]⟩
noncomputable def f29_l5_outs : List Way := [⟨.ret, [], f29_l5_o0⟩, ⟨(.exit 0), [], f29_l5_o1⟩]
abbrev f29_l5_C := (Int × Int × Int × Qv0 × List (ByteArray × (Int × Unit)) × (Option Nat))
abbrev f29_l5_X := (Int × List Bool)
abbrev f29_l5_Y := ((Int × List Bool)) ⊕ (List Bool)
noncomputable def f29_l5_con (t : f29_l5_sk.T) : f29_l5_C := (t.1.1, t.1.2.1, t.1.2.2.1, t.2.2.1.1, t.2.2.2.1.1, t.2.2.1.2)
noncomputable def f29_l5_get (t : f29_l5_sk.T) : f29_l5_X := (t.1.2.2.2.1, t.2.1.1)
noncomputable def f29_l5_put (c : f29_l5_C) (x : f29_l5_X) : f29_l5_sk.T := ((c.1, (c.2.1, (c.2.2.1, (x.1, ())))), ((x.2, ()), ((c.2.2.2.1, c.2.2.2.2.2), ((c.2.2.2.2.1, ()), ()))))
theorem f29_l5_pg (t : f29_l5_sk.T) : f29_l5_put (f29_l5_con t) (f29_l5_get t) = t := by kernel_rfl
noncomputable def f29_l5_w0 (c : f29_l5_C) (y : (Int × List Bool)) : f29_l5_o0.T := ((y.1, ()), ((y.2, ()), ()))
noncomputable def f29_l5_w1 (c : f29_l5_C) (y : List Bool) : f29_l5_o1.T := ((), ((y, ()), ()))
noncomputable def f29_l5_out (c : f29_l5_C) (y : f29_l5_Y) : OutV f29_l5_outs := (Sum.elim (fun y => (.inl (f29_l5_w0 c y))) (fun y => (.inr (.inl (f29_l5_w1 c y))))) y
noncomputable def f29_l5_k {R : Type} (a0 : Int) (a1 : Int) (a2 : Int) (a3 : Int) (a4 : List Bool) (a5 : Qv0) (a6 : List (ByteArray × (Int × Unit))) (kin : f29_l5_X → Option R) (k0 : (Int × List Bool) → Option R) (k1 : List Bool → Option R) : Option R :=
 (cond (decide (a3 < a2))
 (if (0 : Int) ≤ a3 ∧ a3 < ((List.length a6 : Nat) : Int) then (cond (decide ((List.getD a6 (Int.toNat a3) (ByteArray.empty, ((0 : Int), ()))).2.1 ≥ (32 : Int)))
  (k0 ((4 : Int), a4))
  ((f12x1 a5 (List.getD a6 (Int.toNat a3) (ByteArray.empty, ((0 : Int), ()))).2.1).bind fun r2 =>
   (if (0 : Int) ≤ (0 : Int) ∧ (0 : Int) < ((List.length r2.1.1 : Nat) : Int) then (cond ((List.getD r2.1.1 0 (0 : Int)) == (0 : Int))
   (k0 ((4 : Int), a4))
   (if (0 : Int) ≤ (List.getD a6 (Int.toNat a3) (ByteArray.empty, ((0 : Int), ()))).2.1 ∧ (List.getD a6 (Int.toNat a3) (ByteArray.empty, ((0 : Int), ()))).2.1 < ((List.length a4 : Nat) : Int) then (cond (List.getD a4 (Int.toNat (List.getD a6 (Int.toNat a3) (ByteArray.empty, ((0 : Int), ()))).2.1) false)
    (k0 ((10 : Int), a4))
    ((f12x1 a5 (List.getD a6 (Int.toNat a3) (ByteArray.empty, ((0 : Int), ()))).2.1).bind fun r3 =>
     (if (0 : Int) ≤ (1 : Int) ∧ (1 : Int) < ((List.length r3.1.1 : Nat) : Int) then (let v4 : Int := (IntKind.i64.wrap (List.getD r3.1.1 1 (0 : Int)))
     (cond (v4 != a0)
     (k0 ((3 : Int), a4))
     (cond (decide (a1 > (8 : Int)))
      (k0 ((3 : Int), a4))
      (if (0 : Int) ≤ (List.getD a6 (Int.toNat a3) (ByteArray.empty, ((0 : Int), ()))).2.1 ∧ (List.getD a6 (Int.toNat a3) (ByteArray.empty, ((0 : Int), ()))).2.1 < ((List.length a4 : Nat) : Int) then ((f12x1 a5 (List.getD a6 (Int.toNat a3) (ByteArray.empty, ((0 : Int), ()))).2.1).bind fun r5 =>
       (if (0 : Int) ≤ (0 : Int) ∧ (0 : Int) < ((List.length r5.1.1 : Nat) : Int) then (cond ((List.getD r5.1.1 0 (0 : Int)) == (2 : Int))
       (let v6 : Int := (IntKind.i64.wrap (a1 + (1 : Int)))
        none)
       (let v7 : Int := (IntKind.i64.wrap (a3 + (1 : Int)))
        (kin (v7, (List.set a4 (Int.toNat (List.getD a6 (Int.toNat a3) (ByteArray.empty, ((0 : Int), ()))).2.1) true))))) else none)) else none)))) else none))) else none)) else none))) else none)
 (k1 a4))
noncomputable def f29_l5_g (a0 : Int) (a1 : Int) (a2 : Int) (a5 : Qv0) (a6 : List (ByteArray × (Int × Unit))) (x : f29_l5_X) : Option (f29_l5_X ⊕ f29_l5_Y) := f29_l5_k a0 a1 a2 x.1 x.2 a5 a6 (fun x => some (.inl x)) (fun y => some (.inr (.inl y))) (fun y => some (.inr (.inr y)))
noncomputable def f29_l5 (a0 : Int) (a1 : Int) (a2 : Int) (a5 : Qv0) (a6 : List (ByteArray × (Int × Unit))) (x : f29_l5_X) : Option f29_l5_Y := loopO (f29_l5_g a0 a1 a2 a5 a6) x
noncomputable def f29_l5_nd : Node := { nils := [], sk := f29_l5_sk, outs := f29_l5_outs, Y := f29_l5_Y, L := fun t => f29_l5 ((f29_l5_con t).1) ((f29_l5_con t).2.1) ((f29_l5_con t).2.2.1) ((f29_l5_con t).2.2.2.1) ((f29_l5_con t).2.2.2.2.1) (f29_l5_get t), out := fun t y => f29_l5_out (f29_l5_con t) y, disp := fun t y K => (Sum.elim (fun y => K .ret (f29_l5_o0.fill (f29_l5_w0 (f29_l5_con t) y))) (fun y => K (.exit 0) (f29_l5_o1.fill (f29_l5_w1 (f29_l5_con t) y)))) y }
noncomputable def f29_fx : Fx := { E := env, T := [(40, f40_sm), (39, f39_sm), (12, f12x1_sm)], H := [], O := [], nodes := [((true, 5), f29_l5_nd)] }
noncomputable def f29_l5_b : Code := (loops f29_code).getD 0 .skip
theorem f29_l5_r (c : f29_l5_C) (x : f29_l5_X) : roundS f29_fx f29_l5_b f29_l5_nd (f29_l5_put c x) = f29_l5_k c.1 c.2.1 c.2.2.1 x.1 x.2 c.2.2.2.1 c.2.2.2.2.1 (fun x => some (.inl (f29_l5_put c x))) (fun y => some (.inr (.inl (f29_l5_w0 c y)))) (fun y => some (.inr (.inr (.inl (f29_l5_w1 c y))))) := by kernel_rfl
theorem f29_l5_n {R : Type} (a0 : Int) (a1 : Int) (a2 : Int) (a3 : Int) (a4 : List Bool) (a5 : Qv0) (a6 : List (ByteArray × (Int × Unit))) (kin : f29_l5_X → Option R) (k0 : (Int × List Bool) → Option R) (k1 : List Bool → Option R) : f29_l5_k a0 a1 a2 a3 a4 a5 a6 kin k0 k1 = (f29_l5_g a0 a1 a2 a5 a6 (a3, a4)).bind (Sum.elim kin (Sum.elim k0 k1)) := by
  simp only [f29_l5_g, f29_l5_k, cond_bind, ite_bind, bind_bind, some_bind, none_bind, elim_bind, whenS_bind, Sum.elim_inl, Sum.elim_inr]
theorem f29_l5_ok : LoopOk f29_fx f29_l5_b f29_l5_nd := loop_ok f29_l5_con f29_l5_get f29_l5_put f29_l5_pg (fun c => f29_l5_g c.1 c.2.1 c.2.2.1 c.2.2.2.1 c.2.2.2.2.1) f29_l5_out (fun t y => rfl) (by intro R t y K; rcases y with y | y <;> rfl) (fun c x => by
  refine (f29_l5_r c x).trans ((f29_l5_n _ _ _ _ _ _ _ _ _ _).trans ?_)
  first
  | rfl
  | congr 1
    funext s
    rcases s with s | s | s <;> rfl) (fun t => rfl)
noncomputable def f29_k {R : Type} (a0 : Qv0) (a1 : Int) (a2 : Int) (a3 : List Bool) (k : (Int × Unit) × (List Bool × Unit) → Option R) : Option R :=
 ((f40 a0 a1).bind fun r0 =>
 ((f39 r0.1.1).bind fun r1 =>
 (cond (!r1.1.2.1)
 (k (((15 : Int), ()), (a3, ())))
 ((f29_l5 a1 a2 ((List.length r1.1.1 : Nat) : Int) a0 r1.1.1 ((0 : Int), a3)).bind fun y8 =>
  ((Sum.elim (fun z9 =>
  (k ((z9.1, ()), (z9.2, ()))))
  (fun z10 =>
  (k (((0 : Int), ()), (z10, ()))))) y8)))))
noncomputable def f29 (a0 : Qv0) (a1 : Int) (a2 : Int) (a3 : List Bool) : Option ((Int × Unit) × (List Bool × Unit)) := f29_k a0 a1 a2 a3 some
noncomputable def f29_sm : Sm := { ps := [.ro Qt1, .ro (.int .i64), .ro (.int .i64), .row (.slc .bool) (.own .ro)], rs := [((.int .i64), .ro)], F := fun x => f29 x.1 x.2.1 x.2.2.1 x.2.2.2.1 }
theorem f29_m (x : ArgT [.ro Qt1, .ro (.int .i64), .ro (.int .i64), .row (.slc .bool) (.own .ro)]) : codeS f29_fx f29_code (start [.ro Qt1, .ro (.int .i64), .ro (.int .i64), .row (.slc .bool) (.own .ro)] [] x 81) (finK env [.tmp 8] [.ro Qt1, .ro (.int .i64), .ro (.int .i64), .row (.slc .bool) (.own .ro)] [((.int .i64), .ro)]) = f29_k x.1 x.2.1 x.2.2.1 x.2.2.2.1 (fun r => some (r, [])) := by kernel_rfl
theorem f29_n {R : Type} (a0 : Qv0) (a1 : Int) (a2 : Int) (a3 : List Bool) (k : (Int × Unit) × (List Bool × Unit) → Option R) : f29_k a0 a1 a2 a3 k = (f29 a0 a1 a2 a3).bind k := by
  simp only [f29, f29_k, cond_bind, ite_bind, bind_bind, some_bind, none_bind, elim_bind, whenS_bind]
theorem f29_ok : SmOk Tryd.prog 29 f29_sm :=
  sum_of (c := f29_fx) (fn := Tryd.f29) (code := f29_code) (sm := f29_sm) mixed (env_ok env_envB) (TabsOk.all ⟨f40_c, f39_c, f12x1_c, trivial⟩) Tryd.func29 (by kernel_rfl)
   ((LoopsOk.of (l := [f29_l5_b]) (by kernel_rfl) ⟨node_is (by kernel_rfl) f29_l5_ok, trivial⟩))
   (no_tails (by kernel_rfl)) rfl
   (fun ks x hl => by
    have hk : ks = [] := List.length_eq_zero_iff.1 hl
    subst hk
    exact (f29_m x).trans (f29_n _ _ _ _ _))
theorem f29_c : CalOk Tryd.prog 29 f29_sm := .inl ⟨f29_ok, ⟨Tryd.f29, Tryd.func29, by kernel_rfl, by kernel_rfl⟩⟩
noncomputable def f23_code : Code := (Tryd.f23.body).getD .skip
noncomputable def f23_l10_sk : SkS := ⟨16, [(1, .ptr 16 []), (2, .ref 192 []), (16, .con (.int .i64))], [(16, ⟨some 24, Qt1, .ro, none⟩), (192, ⟨none, (.slc .bool), (.own .ro), none⟩)]⟩
noncomputable def f23_l10_o0 : SkS := ⟨35, [(2, .con (.int .i64))], []⟩
noncomputable def f23_l10_o1 : SkS := ⟨38, [], []⟩
noncomputable def f23_l10_outs : List Way := [⟨.ret, [], f23_l10_o0⟩, ⟨(.exit 0), [], f23_l10_o1⟩]
abbrev f23_l10_C := (Qv0 × List Bool × (Option Nat))
abbrev f23_l10_X := Int
abbrev f23_l10_Y := (Unit) ⊕ (Unit)
noncomputable def f23_l10_con (t : f23_l10_sk.T) : f23_l10_C := (t.2.1.1, t.2.2.1.1, t.2.1.2)
noncomputable def f23_l10_get (t : f23_l10_sk.T) : f23_l10_X := t.1.1
noncomputable def f23_l10_put (c : f23_l10_C) (x : f23_l10_X) : f23_l10_sk.T := ((x, ()), ((c.1, c.2.2), ((c.2.1, ()), ())))
theorem f23_l10_pg (t : f23_l10_sk.T) : f23_l10_put (f23_l10_con t) (f23_l10_get t) = t := by kernel_rfl
noncomputable def f23_l10_w0 (c : f23_l10_C) (y : Unit) : f23_l10_o0.T := (((13 : Int), ()), ())
noncomputable def f23_l10_w1 (c : f23_l10_C) (y : Unit) : f23_l10_o1.T := ((), ())
noncomputable def f23_l10_out (c : f23_l10_C) (y : f23_l10_Y) : OutV f23_l10_outs := (Sum.elim (fun y => (.inl (f23_l10_w0 c y))) (fun y => (.inr (.inl (f23_l10_w1 c y))))) y
noncomputable def f23_l10_k {R : Type} (a0 : Int) (a1 : Qv0) (a2 : List Bool) (kin : f23_l10_X → Option R) (k0 : Unit → Option R) (k1 : Unit → Option R) : Option R :=
 (cond (decide (a0 < (32 : Int)))
 (if (0 : Int) ≤ a0 ∧ a0 < ((List.length a2 : Nat) : Int) then (cond (!(List.getD a2 (Int.toNat a0) false))
  ((f12x1 a1 a0).bind fun r2 =>
   (if (0 : Int) ≤ (0 : Int) ∧ (0 : Int) < ((List.length r2.1.1 : Nat) : Int) then (cond ((List.getD r2.1.1 0 (0 : Int)) != (0 : Int))
   (k0 ())
   (let v3 : Int := (IntKind.i64.wrap (a0 + (1 : Int)))
    (kin v3))) else none))
  (let v4 : Int := (IntKind.i64.wrap (a0 + (1 : Int)))
   (kin v4))) else none)
 (k1 ()))
noncomputable def f23_l10_g (a1 : Qv0) (a2 : List Bool) (x : f23_l10_X) : Option (f23_l10_X ⊕ f23_l10_Y) := f23_l10_k x a1 a2 (fun x => some (.inl x)) (fun y => some (.inr (.inl y))) (fun y => some (.inr (.inr y)))
noncomputable def f23_l10 (a1 : Qv0) (a2 : List Bool) (x : f23_l10_X) : Option f23_l10_Y := loopO (f23_l10_g a1 a2) x
noncomputable def f23_l10_nd : Node := { nils := [], sk := f23_l10_sk, outs := f23_l10_outs, Y := f23_l10_Y, L := fun t => f23_l10 ((f23_l10_con t).1) ((f23_l10_con t).2.1) (f23_l10_get t), out := fun t y => f23_l10_out (f23_l10_con t) y, disp := fun t y K => (Sum.elim (fun y => K .ret (f23_l10_o0.fill (f23_l10_w0 (f23_l10_con t) y))) (fun y => K (.exit 0) (f23_l10_o1.fill (f23_l10_w1 (f23_l10_con t) y)))) y }
noncomputable def f23_fx : Fx := { E := env, T := [(28, f28_sm), (29, f29_sm), (12, f12x1_sm)], H := [], O := [], nodes := [((true, 10), f23_l10_nd)] }
noncomputable def f23_l10_b : Code := (loops f23_code).getD 0 .skip
theorem f23_l10_r (c : f23_l10_C) (x : f23_l10_X) : roundS f23_fx f23_l10_b f23_l10_nd (f23_l10_put c x) = f23_l10_k x c.1 c.2.1 (fun x => some (.inl (f23_l10_put c x))) (fun y => some (.inr (.inl (f23_l10_w0 c y)))) (fun y => some (.inr (.inr (.inl (f23_l10_w1 c y))))) := by kernel_rfl
theorem f23_l10_n {R : Type} (a0 : Int) (a1 : Qv0) (a2 : List Bool) (kin : f23_l10_X → Option R) (k0 : Unit → Option R) (k1 : Unit → Option R) : f23_l10_k a0 a1 a2 kin k0 k1 = (f23_l10_g a1 a2 a0).bind (Sum.elim kin (Sum.elim k0 k1)) := by
  simp only [f23_l10_g, f23_l10_k, cond_bind, ite_bind, bind_bind, some_bind, none_bind, elim_bind, whenS_bind, Sum.elim_inl, Sum.elim_inr]
theorem f23_l10_ok : LoopOk f23_fx f23_l10_b f23_l10_nd := loop_ok f23_l10_con f23_l10_get f23_l10_put f23_l10_pg (fun c => f23_l10_g c.1 c.2.1) f23_l10_out (fun t y => rfl) (by intro R t y K; rcases y with y | y <;> rfl) (fun c x => by
  refine (f23_l10_r c x).trans ((f23_l10_n _ _ _ _ _ _).trans ?_)
  first
  | rfl
  | congr 1
    funext s
    rcases s with s | s | s <;> rfl) (fun t => rfl)
noncomputable def f23_k {R : Type} (a0 : Qv0) (k : (Int × Unit) × (Unit) → Option R) : Option R :=
 ((f28 a0).bind fun r0 =>
 (cond (r0.1.1 != (0 : Int))
 (k ((r0.1.1, ()), ()))
 (if (0 : Int) ≤ (0 : Int) ∧ (0 : Int) < ((List.length (List.replicate 32 false) : Nat) : Int) then ((f29 a0 (0 : Int) (1 : Int) (List.set (List.replicate 32 false) 0 true)).bind fun r1 =>
  (cond (r1.1.1 != (0 : Int))
  (k ((r1.1.1, ()), ()))
  ((f23_l10 a0 r1.2.1 (0 : Int)).bind fun y5 =>
   ((Sum.elim (fun z6 =>
   (k (((13 : Int), ()), ())))
   (fun z7 =>
   (k (((0 : Int), ()), ())))) y5)))) else none)))
noncomputable def f23 (a0 : Qv0) : Option ((Int × Unit) × (Unit)) := f23_k a0 some
noncomputable def f23_sm : Sm := { ps := [.ro Qt1], rs := [((.int .i64), .ro)], F := fun x => f23 x.1 }
theorem f23_m (x : ArgT [.ro Qt1]) : codeS f23_fx f23_code (start [.ro Qt1] [] x 38) (finK env [.tmp 2] [.ro Qt1] [((.int .i64), .ro)]) = f23_k x.1 (fun r => some (r, [])) := by kernel_rfl
theorem f23_n {R : Type} (a0 : Qv0) (k : (Int × Unit) × (Unit) → Option R) : f23_k a0 k = (f23 a0).bind k := by
  simp only [f23, f23_k, cond_bind, ite_bind, bind_bind, some_bind, none_bind, elim_bind, whenS_bind]
theorem f23_ok : SmOk Tryd.prog 23 f23_sm :=
  sum_of (c := f23_fx) (fn := Tryd.f23) (code := f23_code) (sm := f23_sm) mixed (env_ok env_envB) (TabsOk.all ⟨f28_c, f29_c, f12x1_c, trivial⟩) Tryd.func23 (by kernel_rfl)
   ((LoopsOk.of (l := [f23_l10_b]) (by kernel_rfl) ⟨node_is (by kernel_rfl) f23_l10_ok, trivial⟩))
   (no_tails (by kernel_rfl)) rfl
   (fun ks x hl => by
    have hk : ks = [] := List.length_eq_zero_iff.1 hl
    subst hk
    exact (f23_m x).trans (f23_n _ _))
theorem f23_c : CalOk Tryd.prog 23 f23_sm := .inl ⟨f23_ok, ⟨Tryd.f23, Tryd.func23, by kernel_rfl, by kernel_rfl⟩⟩
noncomputable def f24_code : Code := (Tryd.f24.body).getD .skip
noncomputable def f24_l3_sk : SkS := ⟨47, [(1, .ptr 16 []), (1, .ref 63 []), (0, .con (.int .i64))], [(16, ⟨some 24, Qt1, .ro, none⟩), (63, ⟨none, (.slc (.pair (.int .i64) (.pair (.int .i64) .unit))), (.own .ro), none⟩)]⟩
noncomputable def f24_l3_o0 : SkS := ⟨48, [(3, .ref 63 [])], [(63, ⟨none, (.slc (.pair (.int .i64) (.pair (.int .i64) .unit))), (.own .ro), none⟩)]⟩
noncomputable def f24_l3_outs : List Way := [⟨(.exit 0), [], f24_l3_o0⟩]
abbrev f24_l3_C := (Qv0 × (Option Nat))
abbrev f24_l3_X := (Int × List (Int × (Int × Unit)))
abbrev f24_l3_Y := (List (Int × (Int × Unit)))
noncomputable def f24_l3_con (t : f24_l3_sk.T) : f24_l3_C := (t.2.1.1, t.2.1.2)
noncomputable def f24_l3_get (t : f24_l3_sk.T) : f24_l3_X := (t.1.1, t.2.2.1.1)
noncomputable def f24_l3_put (c : f24_l3_C) (x : f24_l3_X) : f24_l3_sk.T := ((x.1, ()), ((c.1, c.2), ((x.2, ()), ())))
theorem f24_l3_pg (t : f24_l3_sk.T) : f24_l3_put (f24_l3_con t) (f24_l3_get t) = t := by kernel_rfl
noncomputable def f24_l3_w0 (c : f24_l3_C) (y : List (Int × (Int × Unit))) : f24_l3_o0.T := ((), ((y, ()), ()))
noncomputable def f24_l3_out (c : f24_l3_C) (y : f24_l3_Y) : OutV f24_l3_outs := (fun y => (.inl (f24_l3_w0 c y))) y
noncomputable def f24_l3_k {R : Type} (a0 : Int) (a1 : Qv0) (a2 : List (Int × (Int × Unit))) (kin : f24_l3_X → Option R) (k0 : List (Int × (Int × Unit)) → Option R) : Option R :=
 (cond (decide (a0 < ((List.length a1.2.2.1 : Nat) : Int)))
 (let v0 : Int := (IntKind.i64.wrap (((List.length a2 : Nat) : Int) - (1 : Int)))
  ((f30 a1 a0).bind fun r1 =>
  (cond r1.1.1
  (let v2 : Int := (IntKind.i64.wrap (a0 + (1 : Int)))
   (kin (v2, a2)))
  (cond (decide (v0 ≥ (0 : Int)))
   (if (0 : Int) ≤ v0 ∧ v0 < ((List.length a2 : Nat) : Int) then (if (0 : Int) ≤ v0 ∧ v0 < ((List.length a2 : Nat) : Int) then (let v3 : Int := (IntKind.i64.wrap ((List.getD a2 (Int.toNat v0) ((0 : Int), ((0 : Int), ()))).1 + (List.getD a2 (Int.toNat v0) ((0 : Int), ((0 : Int), ()))).2.1))
    (cond (v3 == a0)
    (if (0 : Int) ≤ v0 ∧ v0 < ((List.length a2 : Nat) : Int) then (let v4 : Int := (IntKind.i64.wrap ((List.getD a2 (Int.toNat v0) ((0 : Int), ((0 : Int), ()))).2.1 + (1 : Int)))
     (if (0 : Int) ≤ v0 ∧ v0 < ((List.length a2 : Nat) : Int) then (let v5 : Int := (IntKind.i64.wrap (a0 + (1 : Int)))
     (kin (v5, (List.set a2 (Int.toNat v0) ((List.getD a2 (Int.toNat v0) ((0 : Int), ((0 : Int), ()))).1, (v4, (List.getD a2 (Int.toNat v0) ((0 : Int), ((0 : Int), ()))).2.2)))))) else none)) else none)
    (if (List.length a2 + 1) * 16 ≤ most ∧ 0 < 16 ∧ 0 < 2 then (let r6 : List (Int × (Int × Unit)) := (a2 ++ [(a0, ((1 : Int), ()))])
     (let v7 : Int := (IntKind.i64.wrap (a0 + (1 : Int)))
     (kin (v7, r6)))) else none))) else none) else none)
   (if (List.length a2 + 1) * 16 ≤ most ∧ 0 < 16 ∧ 0 < 2 then (let r8 : List (Int × (Int × Unit)) := (a2 ++ [(a0, ((1 : Int), ()))])
    (let v9 : Int := (IntKind.i64.wrap (a0 + (1 : Int)))
    (kin (v9, r8)))) else none)))))
 (k0 a2))
noncomputable def f24_l3_g (a1 : Qv0) (x : f24_l3_X) : Option (f24_l3_X ⊕ f24_l3_Y) := f24_l3_k x.1 a1 x.2 (fun x => some (.inl x)) (fun y => some (.inr y))
noncomputable def f24_l3 (a1 : Qv0) (x : f24_l3_X) : Option f24_l3_Y := loopO (f24_l3_g a1) x
noncomputable def f24_l3_nd : Node := { nils := [(3, 63, (.pair (.int .i64) (.pair (.int .i64) .unit)), .ro)], sk := f24_l3_sk, outs := f24_l3_outs, Y := f24_l3_Y, L := fun t => f24_l3 ((f24_l3_con t).1) (f24_l3_get t), out := fun t y => f24_l3_out (f24_l3_con t) y, disp := fun t y K => (fun y => K (.exit 0) (f24_l3_o0.fill (f24_l3_w0 (f24_l3_con t) y))) y }
noncomputable def f24_fx : Fx := { E := env, T := [(30, f30_sm)], H := [], O := [], nodes := [((true, 3), f24_l3_nd)] }
noncomputable def f24_l3_b : Code := (loops f24_code).getD 0 .skip
theorem f24_l3_r (c : f24_l3_C) (x : f24_l3_X) : roundS f24_fx f24_l3_b f24_l3_nd (f24_l3_put c x) = f24_l3_k x.1 c.1 x.2 (fun x => some (.inl (f24_l3_put c x))) (fun y => some (.inr (.inl (f24_l3_w0 c y)))) := by kernel_rfl
theorem f24_l3_n {R : Type} (a0 : Int) (a1 : Qv0) (a2 : List (Int × (Int × Unit))) (kin : f24_l3_X → Option R) (k0 : List (Int × (Int × Unit)) → Option R) : f24_l3_k a0 a1 a2 kin k0 = (f24_l3_g a1 (a0, a2)).bind (Sum.elim kin k0) := by
  simp only [f24_l3_g, f24_l3_k, cond_bind, ite_bind, bind_bind, some_bind, none_bind, elim_bind, whenS_bind, Sum.elim_inl, Sum.elim_inr]
theorem f24_l3_ok : LoopOk f24_fx f24_l3_b f24_l3_nd := loop_ok f24_l3_con f24_l3_get f24_l3_put f24_l3_pg (fun c => f24_l3_g c.1) f24_l3_out (fun t y => rfl) (fun t y K => rfl) (fun c x => by
  refine (f24_l3_r c x).trans ((f24_l3_n _ _ _ _ _).trans ?_)
  first
  | rfl
  | congr 1
    funext s
    rcases s with s | s <;> rfl) (fun t => rfl)
noncomputable def f24_k {R : Type} (a0 : Qv0) (k : (List (Int × (Int × Unit)) × Unit) × (Unit) → Option R) : Option R :=
 ((f24_l3 a0 ((6 : Int), [])).bind fun y10 =>
 (k ((y10, ()), ())))
noncomputable def f24 (a0 : Qv0) : Option ((List (Int × (Int × Unit)) × Unit) × (Unit)) := f24_k a0 some
noncomputable def f24_sm : Sm := { ps := [.ro Qt1], rs := [((.slc (.pair (.int .i64) (.pair (.int .i64) .unit))), (.own .ro))], F := fun x => f24 x.1 }
theorem f24_m (x : ArgT [.ro Qt1]) : codeS f24_fx f24_code (start [.ro Qt1] [] x 52) (finK env [.tmp 2] [.ro Qt1] [((.slc (.pair (.int .i64) (.pair (.int .i64) .unit))), (.own .ro))]) = f24_k x.1 (fun r => some (r, [])) := by kernel_rfl
theorem f24_n {R : Type} (a0 : Qv0) (k : (List (Int × (Int × Unit)) × Unit) × (Unit) → Option R) : f24_k a0 k = (f24 a0).bind k := by
  simp only [f24, f24_k, cond_bind, ite_bind, bind_bind, some_bind, none_bind, elim_bind, whenS_bind]
theorem f24_ok : SmOk Tryd.prog 24 f24_sm :=
  sum_of (c := f24_fx) (fn := Tryd.f24) (code := f24_code) (sm := f24_sm) mixed (env_ok env_envB) (TabsOk.all ⟨f30_c, trivial⟩) Tryd.func24 (by kernel_rfl)
   ((LoopsOk.of (l := [f24_l3_b]) (by kernel_rfl) ⟨node_is (by kernel_rfl) f24_l3_ok, trivial⟩))
   (no_tails (by kernel_rfl)) rfl
   (fun ks x hl => by
    have hk : ks = [] := List.length_eq_zero_iff.1 hl
    subst hk
    exact (f24_m x).trans (f24_n _ _))
theorem f24_c : CalOk Tryd.prog 24 f24_sm := .inl ⟨f24_ok, ⟨Tryd.f24, Tryd.func24, by kernel_rfl, by kernel_rfl⟩⟩
noncomputable def f15_code : Code := (Tryd.f15.body).getD .skip
noncomputable def f15_l6_sk : SkS := ⟨9, [(5, .con (.int .i64)), (8, .ref 224 []), (0, .con (.int .i64)), (0, .con (.int .i64))], [(224, ⟨none, (.slc (.pair (.int .i64) (.pair (.int .i64) .unit))), (.own .ro), none⟩)]⟩
noncomputable def f15_l6_o0 : SkS := ⟨20, [(5, .con (.int .i64))], []⟩
noncomputable def f15_l6_outs : List Way := [⟨(.exit 0), [], f15_l6_o0⟩]
abbrev f15_l6_C := (Int × List (Int × (Int × Unit)))
abbrev f15_l6_X := (Int × Int)
abbrev f15_l6_Y := (Int)
noncomputable def f15_l6_con (t : f15_l6_sk.T) : f15_l6_C := (t.1.2.1, t.2.1.1)
noncomputable def f15_l6_get (t : f15_l6_sk.T) : f15_l6_X := (t.1.1, t.1.2.2.1)
noncomputable def f15_l6_put (c : f15_l6_C) (x : f15_l6_X) : f15_l6_sk.T := ((x.1, (c.1, (x.2, ()))), ((c.2, ()), ()))
theorem f15_l6_pg (t : f15_l6_sk.T) : f15_l6_put (f15_l6_con t) (f15_l6_get t) = t := by kernel_rfl
noncomputable def f15_l6_w0 (c : f15_l6_C) (y : Int) : f15_l6_o0.T := ((y, ()), ())
noncomputable def f15_l6_out (c : f15_l6_C) (y : f15_l6_Y) : OutV f15_l6_outs := (fun y => (.inl (f15_l6_w0 c y))) y
noncomputable def f15_l6_k {R : Type} (a0 : Int) (a1 : Int) (a2 : Int) (a3 : List (Int × (Int × Unit))) (kin : f15_l6_X → Option R) (k0 : Int → Option R) : Option R :=
 (cond (decide (a2 < a1))
 (if (0 : Int) ≤ a2 ∧ a2 < ((List.length a3 : Nat) : Int) then (let v2 : Int := (IntKind.i64.wrap (a0 + (List.getD a3 (Int.toNat a2) ((0 : Int), ((0 : Int), ()))).2.1))
  (let v3 : Int := (IntKind.i64.wrap (a2 + (1 : Int)))
  (kin (v2, v3)))) else none)
 (k0 a0))
noncomputable def f15_l6_g (a1 : Int) (a3 : List (Int × (Int × Unit))) (x : f15_l6_X) : Option (f15_l6_X ⊕ f15_l6_Y) := f15_l6_k x.1 a1 x.2 a3 (fun x => some (.inl x)) (fun y => some (.inr y))
noncomputable def f15_l6 (a1 : Int) (a3 : List (Int × (Int × Unit))) (x : f15_l6_X) : Option f15_l6_Y := loopO (f15_l6_g a1 a3) x
noncomputable def f15_l6_nd : Node := { nils := [], sk := f15_l6_sk, outs := f15_l6_outs, Y := f15_l6_Y, L := fun t => f15_l6 ((f15_l6_con t).1) ((f15_l6_con t).2) (f15_l6_get t), out := fun t y => f15_l6_out (f15_l6_con t) y, disp := fun t y K => (fun y => K (.exit 0) (f15_l6_o0.fill (f15_l6_w0 (f15_l6_con t) y))) y }
noncomputable def f15_fx : Fx := { E := env, T := [(23, f23_sm), (24, f24_sm)], H := [], O := [], nodes := [((true, 6), f15_l6_nd)] }
noncomputable def f15_l6_b : Code := (loops f15_code).getD 0 .skip
theorem f15_l6_r (c : f15_l6_C) (x : f15_l6_X) : roundS f15_fx f15_l6_b f15_l6_nd (f15_l6_put c x) = f15_l6_k x.1 c.1 x.2 c.2 (fun x => some (.inl (f15_l6_put c x))) (fun y => some (.inr (.inl (f15_l6_w0 c y)))) := by kernel_rfl
theorem f15_l6_n {R : Type} (a0 : Int) (a1 : Int) (a2 : Int) (a3 : List (Int × (Int × Unit))) (kin : f15_l6_X → Option R) (k0 : Int → Option R) : f15_l6_k a0 a1 a2 a3 kin k0 = (f15_l6_g a1 a3 (a0, a2)).bind (Sum.elim kin k0) := by
  simp only [f15_l6_g, f15_l6_k, cond_bind, ite_bind, bind_bind, some_bind, none_bind, elim_bind, whenS_bind, Sum.elim_inl, Sum.elim_inr]
theorem f15_l6_ok : LoopOk f15_fx f15_l6_b f15_l6_nd := loop_ok f15_l6_con f15_l6_get f15_l6_put f15_l6_pg (fun c => f15_l6_g c.1 c.2) f15_l6_out (fun t y => rfl) (fun t y K => rfl) (fun c x => by
  refine (f15_l6_r c x).trans ((f15_l6_n _ _ _ _ _ _).trans ?_)
  first
  | rfl
  | congr 1
    funext s
    rcases s with s | s <;> rfl) (fun t => rfl)
noncomputable def f15_k {R : Type} (a0 : Qv0) (k : (Int × Int × Unit) × (Unit) → Option R) : Option R :=
 ((f23 a0).bind fun r0 =>
 (cond (r0.1.1 != (0 : Int))
 (k (((0 : Int), (r0.1.1, ())), ()))
 ((f24 a0).bind fun r1 =>
  ((f15_l6 ((List.length r1.1.1 : Nat) : Int) r1.1.1 ((0 : Int), (0 : Int))).bind fun y4 =>
  (k ((y4, ((0 : Int), ())), ()))))))
noncomputable def f15 (a0 : Qv0) : Option ((Int × Int × Unit) × (Unit)) := f15_k a0 some
noncomputable def f15_sm : Sm := { ps := [.ro Qt1], rs := [((.int .i64), .ro), ((.int .i64), .ro)], F := fun x => f15 x.1 }
theorem f15_m (x : ArgT [.ro Qt1]) : codeS f15_fx f15_code (start [.ro Qt1] [] x 26) (finK env [.tmp 2, .tmp 3] [.ro Qt1] [((.int .i64), .ro), ((.int .i64), .ro)]) = f15_k x.1 (fun r => some (r, [])) := by kernel_rfl
theorem f15_n {R : Type} (a0 : Qv0) (k : (Int × Int × Unit) × (Unit) → Option R) : f15_k a0 k = (f15 a0).bind k := by
  simp only [f15, f15_k, cond_bind, ite_bind, bind_bind, some_bind, none_bind, elim_bind, whenS_bind]
theorem f15_ok : SmOk Tryd.prog 15 f15_sm :=
  sum_of (c := f15_fx) (fn := Tryd.f15) (code := f15_code) (sm := f15_sm) mixed (env_ok env_envB) (TabsOk.all ⟨f23_c, f24_c, trivial⟩) Tryd.func15 (by kernel_rfl)
   ((LoopsOk.of (l := [f15_l6_b]) (by kernel_rfl) ⟨node_is (by kernel_rfl) f15_l6_ok, trivial⟩))
   (no_tails (by kernel_rfl)) rfl
   (fun ks x hl => by
    have hk : ks = [] := List.length_eq_zero_iff.1 hl
    subst hk
    exact (f15_m x).trans (f15_n _ _))
theorem f15_c : CalOk Tryd.prog 15 f15_sm := .inl ⟨f15_ok, ⟨Tryd.f15, Tryd.func15, by kernel_rfl, by kernel_rfl⟩⟩
noncomputable def f6_code : Code := (Tryd.f6.body).getD .skip
noncomputable def f6_fx : Fx := { E := env, T := [(4, f4_sm), (15, f15_sm)], H := [], O := [], nodes := [] }
noncomputable def f6_k {R : Type} (k : (Bool × Unit) × (Unit) → Option R) : Option R :=
 ((f4 (4 : Int) (5 : Int)).bind fun r0 =>
 ((f15 r0.1.1).bind fun r1 =>
 (cond (r0.1.2.1 == (0 : Int))
 (cond (r1.1.2.1 == (0 : Int))
  (k (((r1.1.1 == (14 : Int)), ()), ()))
  (k ((false, ()), ())))
 (k ((false, ()), ())))))
noncomputable def f6 : Option ((Bool × Unit) × (Unit)) := f6_k some
noncomputable def f6_sm : Sm := { ps := [], rs := [(.bool, .ro)], F := fun x => f6 }
theorem f6_m (x : ArgT []) : codeS f6_fx f6_code (start [] [] x 24) (finK env [.tmp 0] [] [(.bool, .ro)]) = f6_k (fun r => some (r, [])) := by kernel_rfl
theorem f6_n {R : Type} (k : (Bool × Unit) × (Unit) → Option R) : f6_k k = (f6).bind k := by
  simp only [f6, f6_k, cond_bind, ite_bind, bind_bind, some_bind, none_bind, elim_bind, whenS_bind]
theorem f6_ok : SmOk Tryd.prog 6 f6_sm :=
  sum_of (c := f6_fx) (fn := Tryd.f6) (code := f6_code) (sm := f6_sm) mixed (env_ok env_envB) (TabsOk.all ⟨f4_c, f15_c, trivial⟩) Tryd.func6 (by kernel_rfl)
   ((LoopsOk.of (l := []) (by kernel_rfl) trivial))
   (no_tails (by kernel_rfl)) rfl
   (fun ks x hl => by
    have hk : ks = [] := List.length_eq_zero_iff.1 hl
    subst hk
    exact (f6_m x).trans (f6_n _))
theorem f6_c : CalOk Tryd.prog 6 f6_sm := .inl ⟨f6_ok, ⟨Tryd.f6, Tryd.func6, by kernel_rfl, by kernel_rfl⟩⟩
noncomputable def f34_code : Code := (Tryd.f34.body).getD .skip
noncomputable def f34_fx : Fx := { E := env, T := [(45, eStr_sm)], H := [], O := [], nodes := [] }
noncomputable def f34_k {R : Type} (a0 : ByteArray) (a1 : Int) (k : (Int × Unit) × (Unit) → Option R) : Option R :=
 ((eStr a0 a1).bind fun r0 =>
 (k ((r0.1.1, ()), ())))
noncomputable def f34 (a0 : ByteArray) (a1 : Int) : Option ((Int × Unit) × (Unit)) := f34_k a0 a1 some
noncomputable def f34_sm : Sm := { ps := [.ro .str, .ro (.int .u8)], rs := [((.int .i64), .ro)], F := fun x => f34 x.1 x.2.1 }
theorem f34_m (x : ArgT [.ro .str, .ro (.int .u8)]) : codeS f34_fx f34_code (start [.ro .str, .ro (.int .u8)] [] x 8) (finK env [.tmp 4] [.ro .str, .ro (.int .u8)] [((.int .i64), .ro)]) = f34_k x.1 x.2.1 (fun r => some (r, [])) := by kernel_rfl
theorem f34_n {R : Type} (a0 : ByteArray) (a1 : Int) (k : (Int × Unit) × (Unit) → Option R) : f34_k a0 a1 k = (f34 a0 a1).bind k := by
  simp only [f34, f34_k, cond_bind, ite_bind, bind_bind, some_bind, none_bind, elim_bind, whenS_bind]
theorem f34_ok : SmOk Tryd.prog 34 f34_sm :=
  sum_of (c := f34_fx) (fn := Tryd.f34) (code := f34_code) (sm := f34_sm) mixed (env_ok env_envB) (TabsOk.all ⟨eStr_c, trivial⟩) Tryd.func34 (by kernel_rfl)
   ((LoopsOk.of (l := []) (by kernel_rfl) trivial))
   (no_tails (by kernel_rfl)) rfl
   (fun ks x hl => by
    have hk : ks = [] := List.length_eq_zero_iff.1 hl
    subst hk
    exact (f34_m x).trans (f34_n _ _ _))
theorem f34_c : CalOk Tryd.prog 34 f34_sm := .inl ⟨f34_ok, ⟨Tryd.f34, Tryd.func34, by kernel_rfl, by kernel_rfl⟩⟩
noncomputable def f44_code : Code := (Tryd.f44.body).getD .skip
noncomputable def f44_fx : Fx := { E := env, T := [(34, f34_sm)], H := [], O := [], nodes := [] }
noncomputable def f44_k {R : Type} (a0 : ByteArray) (a1 : ByteArray) (k : (Int × Unit) × (Unit) → Option R) : Option R :=
 (cond (((ByteArray.size a1 : Nat) : Int) == (0 : Int))
 (k (((0 : Int), ()), ()))
 (cond (strEq a1 a0)
  (k (((0 : Int), ()), ()))
  (cond (((ByteArray.size a1 : Nat) : Int) == (1 : Int))
   (if (0 : Int) ≤ (0 : Int) ∧ (0 : Int) < ((ByteArray.size a1 : Nat) : Int) then ((f34 a0 (bt a1 (0 : Int))).bind fun r0 =>
    (k ((r0.1.1, ()), ()))) else none)
   (cond (decide (((ByteArray.size a1 : Nat) : Int) ≥ ((ByteArray.size a0 : Nat) : Int)))
    (k (((-1 : Int), ()), ()))
    none))))
noncomputable def f44 (a0 : ByteArray) (a1 : ByteArray) : Option ((Int × Unit) × (Unit)) := f44_k a0 a1 some
noncomputable def f44_sm : Sm := { ps := [.ro .str, .ro .str], rs := [((.int .i64), .ro)], F := fun x => f44 x.1 x.2.1 }
theorem f44_m (x : ArgT [.ro .str, .ro .str]) : codeS f44_fx f44_code (start [.ro .str, .ro .str] [] x 143) (finK env [.tmp 4] [.ro .str, .ro .str] [((.int .i64), .ro)]) = f44_k x.1 x.2.1 (fun r => some (r, [])) := by kernel_rfl
theorem f44_n {R : Type} (a0 : ByteArray) (a1 : ByteArray) (k : (Int × Unit) × (Unit) → Option R) : f44_k a0 a1 k = (f44 a0 a1).bind k := by
  simp only [f44, f44_k, cond_bind, ite_bind, bind_bind, some_bind, none_bind, elim_bind, whenS_bind]
theorem f44_ok : SmOk Tryd.prog 44 f44_sm :=
  sum_of (c := f44_fx) (fn := Tryd.f44) (code := f44_code) (sm := f44_sm) mixed (env_ok env_envB) (TabsOk.all ⟨f34_c, trivial⟩) Tryd.func44 (by kernel_rfl)
   ((LoopsOk.of (l := [((loops f44_code).getD 0 .skip)]) (by kernel_rfl) ⟨node_no (by kernel_rfl), trivial⟩))
   (no_tails (by kernel_rfl)) rfl
   (fun ks x hl => by
    have hk : ks = [] := List.length_eq_zero_iff.1 hl
    subst hk
    exact (f44_m x).trans (f44_n _ _ _))
theorem f44_c : CalOk Tryd.prog 44 f44_sm := .inl ⟨f44_ok, ⟨Tryd.f44, Tryd.func44, by kernel_rfl, by kernel_rfl⟩⟩
noncomputable def f33_code : Code := (Tryd.f33.body).getD .skip
noncomputable def f33_fx : Fx := { E := env, T := [(44, f44_sm)], H := [], O := [], nodes := [] }
noncomputable def f33_k {R : Type} (a0 : ByteArray) (a1 : ByteArray) (k : (Int × Unit) × (Unit) → Option R) : Option R :=
 ((f44 a0 a1).bind fun r0 =>
 (k ((r0.1.1, ()), ())))
noncomputable def f33 (a0 : ByteArray) (a1 : ByteArray) : Option ((Int × Unit) × (Unit)) := f33_k a0 a1 some
noncomputable def f33_sm : Sm := { ps := [.ro .str, .ro .str], rs := [((.int .i64), .ro)], F := fun x => f33 x.1 x.2.1 }
theorem f33_m (x : ArgT [.ro .str, .ro .str]) : codeS f33_fx f33_code (start [.ro .str, .ro .str] [] x 8) (finK env [.tmp 4] [.ro .str, .ro .str] [((.int .i64), .ro)]) = f33_k x.1 x.2.1 (fun r => some (r, [])) := by kernel_rfl
theorem f33_n {R : Type} (a0 : ByteArray) (a1 : ByteArray) (k : (Int × Unit) × (Unit) → Option R) : f33_k a0 a1 k = (f33 a0 a1).bind k := by
  simp only [f33, f33_k, cond_bind, ite_bind, bind_bind, some_bind, none_bind, elim_bind, whenS_bind]
theorem f33_ok : SmOk Tryd.prog 33 f33_sm :=
  sum_of (c := f33_fx) (fn := Tryd.f33) (code := f33_code) (sm := f33_sm) mixed (env_ok env_envB) (TabsOk.all ⟨f44_c, trivial⟩) Tryd.func33 (by kernel_rfl)
   ((LoopsOk.of (l := []) (by kernel_rfl) trivial))
   (no_tails (by kernel_rfl)) rfl
   (fun ks x hl => by
    have hk : ks = [] := List.length_eq_zero_iff.1 hl
    subst hk
    exact (f33_m x).trans (f33_n _ _ _))
theorem f33_c : CalOk Tryd.prog 33 f33_sm := .inl ⟨f33_ok, ⟨Tryd.f33, Tryd.func33, by kernel_rfl, by kernel_rfl⟩⟩
noncomputable def f32_code : Code := (Tryd.f32.body).getD .skip
noncomputable def f32_l6_sk : SkS := ⟨28, [(0, .con .str), (0, .con .str), (3, .con (.int .i64))], []⟩
noncomputable def f32_l6_o0 : SkS := ⟨29, [(4, .con (.int .i64))], []⟩
noncomputable def f32_l6_outs : List Way := [⟨.ret, [], f32_l6_o0⟩]
abbrev f32_l6_C := ByteArray
abbrev f32_l6_X := (ByteArray × Int)
abbrev f32_l6_Y := (Int)
noncomputable def f32_l6_con (t : f32_l6_sk.T) : f32_l6_C := t.1.2.1
noncomputable def f32_l6_get (t : f32_l6_sk.T) : f32_l6_X := (t.1.1, t.1.2.2.1)
noncomputable def f32_l6_put (c : f32_l6_C) (x : f32_l6_X) : f32_l6_sk.T := ((x.1, (c, (x.2, ()))), ())
theorem f32_l6_pg (t : f32_l6_sk.T) : f32_l6_put (f32_l6_con t) (f32_l6_get t) = t := by kernel_rfl
noncomputable def f32_l6_w0 (c : f32_l6_C) (y : Int) : f32_l6_o0.T := ((y, ()), ())
noncomputable def f32_l6_out (c : f32_l6_C) (y : f32_l6_Y) : OutV f32_l6_outs := (fun y => (.inl (f32_l6_w0 c y))) y
noncomputable def f32_l6_k {R : Type} (a0 : ByteArray) (a1 : ByteArray) (a2 : Int) (kin : f32_l6_X → Option R) (k0 : Int → Option R) : Option R :=
 ((f33 a0 a1).bind fun r1 =>
 (cond (r1.1.1 == (-1 : Int))
 (k0 a2)
 (let v2 : Int := (IntKind.i64.wrap (a2 + (1 : Int)))
  (let v3 : Int := (IntKind.i64.wrap (r1.1.1 + ((ByteArray.size a1 : Nat) : Int)))
  (if (0 : Int) ≤ v3 ∧ v3 ≤ ((ByteArray.size a0 : Nat) : Int) ∧ ((ByteArray.size a0 : Nat) : Int) ≤ ((ByteArray.size a0 : Nat) : Int) then (kin ((ByteArray.extract a0 (Int.toNat v3) (Int.toNat ((ByteArray.size a0 : Nat) : Int))), v2)) else none)))))
noncomputable def f32_l6_g (a1 : ByteArray) (x : f32_l6_X) : Option (f32_l6_X ⊕ f32_l6_Y) := f32_l6_k x.1 a1 x.2 (fun x => some (.inl x)) (fun y => some (.inr y))
noncomputable def f32_l6 (a1 : ByteArray) (x : f32_l6_X) : Option f32_l6_Y := loopO (f32_l6_g a1) x
noncomputable def f32_l6_nd : Node := { nils := [], sk := f32_l6_sk, outs := f32_l6_outs, Y := f32_l6_Y, L := fun t => f32_l6 ((f32_l6_con t)) (f32_l6_get t), out := fun t y => f32_l6_out (f32_l6_con t) y, disp := fun t y K => (fun y => K .ret (f32_l6_o0.fill (f32_l6_w0 (f32_l6_con t) y))) y }
noncomputable def f32_fx : Fx := { E := env, T := [(43, eCntS_sm), (33, f33_sm)], H := [], O := [], nodes := [((true, 6), f32_l6_nd)] }
noncomputable def f32_l6_b : Code := (loops f32_code).getD 0 .skip
theorem f32_l6_r (c : f32_l6_C) (x : f32_l6_X) : roundS f32_fx f32_l6_b f32_l6_nd (f32_l6_put c x) = f32_l6_k x.1 c x.2 (fun x => some (.inl (f32_l6_put c x))) (fun y => some (.inr (.inl (f32_l6_w0 c y)))) := by kernel_rfl
theorem f32_l6_n {R : Type} (a0 : ByteArray) (a1 : ByteArray) (a2 : Int) (kin : f32_l6_X → Option R) (k0 : Int → Option R) : f32_l6_k a0 a1 a2 kin k0 = (f32_l6_g a1 (a0, a2)).bind (Sum.elim kin k0) := by
  simp only [f32_l6_g, f32_l6_k, cond_bind, ite_bind, bind_bind, some_bind, none_bind, elim_bind, whenS_bind, Sum.elim_inl, Sum.elim_inr]
theorem f32_l6_ok : LoopOk f32_fx f32_l6_b f32_l6_nd := loop_ok f32_l6_con f32_l6_get f32_l6_put f32_l6_pg (fun c => f32_l6_g c) f32_l6_out (fun t y => rfl) (fun t y K => rfl) (fun c x => by
  refine (f32_l6_r c x).trans ((f32_l6_n _ _ _ _ _).trans ?_)
  first
  | rfl
  | congr 1
    funext s
    rcases s with s | s <;> rfl) (fun t => rfl)
noncomputable def f32_k {R : Type} (a0 : ByteArray) (a1 : ByteArray) (k : (Int × Unit) × (Unit) → Option R) : Option R :=
 (cond (((ByteArray.size a1 : Nat) : Int) == (0 : Int))
 none
 (cond (((ByteArray.size a1 : Nat) : Int) == (1 : Int))
  (if (0 : Int) ≤ (0 : Int) ∧ (0 : Int) < ((ByteArray.size a1 : Nat) : Int) then ((eCntS a0 (bt a1 (0 : Int))).bind fun r0 =>
   (k ((r0.1.1, ()), ()))) else none)
  ((f32_l6 a1 (a0, (0 : Int))).bind fun y4 =>
   (k ((y4, ()), ())))))
noncomputable def f32 (a0 : ByteArray) (a1 : ByteArray) : Option ((Int × Unit) × (Unit)) := f32_k a0 a1 some
noncomputable def f32_sm : Sm := { ps := [.ro .str, .ro .str], rs := [((.int .i64), .ro)], F := fun x => f32 x.1 x.2.1 }
theorem f32_m (x : ArgT [.ro .str, .ro .str]) : codeS f32_fx f32_code (start [.ro .str, .ro .str] [] x 34) (finK env [.tmp 4] [.ro .str, .ro .str] [((.int .i64), .ro)]) = f32_k x.1 x.2.1 (fun r => some (r, [])) := by kernel_rfl
theorem f32_n {R : Type} (a0 : ByteArray) (a1 : ByteArray) (k : (Int × Unit) × (Unit) → Option R) : f32_k a0 a1 k = (f32 a0 a1).bind k := by
  simp only [f32, f32_k, cond_bind, ite_bind, bind_bind, some_bind, none_bind, elim_bind, whenS_bind]
theorem f32_ok : SmOk Tryd.prog 32 f32_sm :=
  sum_of (c := f32_fx) (fn := Tryd.f32) (code := f32_code) (sm := f32_sm) mixed (env_ok env_envB) (TabsOk.all ⟨eCntS_c, f33_c, trivial⟩) Tryd.func32 (by kernel_rfl)
   ((LoopsOk.of (l := [f32_l6_b]) (by kernel_rfl) ⟨node_is (by kernel_rfl) f32_l6_ok, trivial⟩))
   (no_tails (by kernel_rfl)) rfl
   (fun ks x hl => by
    have hk : ks = [] := List.length_eq_zero_iff.1 hl
    subst hk
    exact (f32_m x).trans (f32_n _ _ _))
theorem f32_c : CalOk Tryd.prog 32 f32_sm := .inl ⟨f32_ok, ⟨Tryd.f32, Tryd.func32, by kernel_rfl, by kernel_rfl⟩⟩
noncomputable def f26_code : Code := (Tryd.f26.body).getD .skip
noncomputable def f26_l11_sk : SkS := ⟨55, [(0, .con .str), (0, .con .str), (0, .con (.int .i64)), (0, .con (.int .i64)), (5, .ref 496 []), (0, .con (.int .i64))], [(496, ⟨none, (.slc .str), (.own .ro), none⟩)]⟩
noncomputable def f26_l11_o0 : SkS := ⟨55, [(0, .con .str), (8, .ref 496 []), (0, .con (.int .i64))], [(496, ⟨none, (.slc .str), (.own .ro), none⟩)]⟩
noncomputable def f26_l11_outs : List Way := [⟨(.exit 0), [], f26_l11_o0⟩]
abbrev f26_l11_C := (ByteArray × Int × Int)
abbrev f26_l11_X := (ByteArray × Int × List ByteArray)
abbrev f26_l11_Y := ((ByteArray × Int × List ByteArray))
noncomputable def f26_l11_con (t : f26_l11_sk.T) : f26_l11_C := (t.1.2.1, t.1.2.2.1, t.1.2.2.2.1)
noncomputable def f26_l11_get (t : f26_l11_sk.T) : f26_l11_X := (t.1.1, t.1.2.2.2.2.1, t.2.1.1)
noncomputable def f26_l11_put (c : f26_l11_C) (x : f26_l11_X) : f26_l11_sk.T := ((x.1, (c.1, (c.2.1, (c.2.2, (x.2.1, ()))))), ((x.2.2, ()), ()))
theorem f26_l11_pg (t : f26_l11_sk.T) : f26_l11_put (f26_l11_con t) (f26_l11_get t) = t := by kernel_rfl
noncomputable def f26_l11_w0 (c : f26_l11_C) (y : (ByteArray × Int × List ByteArray)) : f26_l11_o0.T := ((y.1, (y.2.1, ())), ((y.2.2, ()), ()))
noncomputable def f26_l11_out (c : f26_l11_C) (y : f26_l11_Y) : OutV f26_l11_outs := (fun y => (.inl (f26_l11_w0 c y))) y
noncomputable def f26_l11_k {R : Type} (a0 : ByteArray) (a1 : ByteArray) (a2 : Int) (a3 : Int) (a4 : Int) (a5 : List ByteArray) (kin : f26_l11_X → Option R) (k0 : (ByteArray × Int × List ByteArray) → Option R) : Option R :=
 (cond (decide (a4 < a3))
 ((f33 a0 a1).bind fun r5 =>
  (cond (decide (r5.1.1 < (0 : Int)))
  (k0 (a0, a4, a5))
  (let v6 : Int := (IntKind.i64.wrap (r5.1.1 + a2))
   (if (0 : Int) ≤ (0 : Int) ∧ (0 : Int) ≤ v6 ∧ v6 ≤ ((ByteArray.size a0 : Nat) : Int) then (if (0 : Int) ≤ a4 ∧ a4 < ((List.length a5 : Nat) : Int) then (let v7 : Int := (IntKind.i64.wrap (r5.1.1 + ((ByteArray.size a1 : Nat) : Int)))
   (if (0 : Int) ≤ v7 ∧ v7 ≤ ((ByteArray.size a0 : Nat) : Int) ∧ ((ByteArray.size a0 : Nat) : Int) ≤ ((ByteArray.size a0 : Nat) : Int) then (let v8 : Int := (IntKind.i64.wrap (a4 + (1 : Int)))
   (kin ((ByteArray.extract a0 (Int.toNat v7) (Int.toNat ((ByteArray.size a0 : Nat) : Int))), v8, (List.set a5 (Int.toNat a4) (ByteArray.extract a0 0 (Int.toNat v6)))))) else none)) else none) else none))))
 (k0 (a0, a4, a5)))
noncomputable def f26_l11_g (a1 : ByteArray) (a2 : Int) (a3 : Int) (x : f26_l11_X) : Option (f26_l11_X ⊕ f26_l11_Y) := f26_l11_k x.1 a1 a2 a3 x.2.1 x.2.2 (fun x => some (.inl x)) (fun y => some (.inr y))
noncomputable def f26_l11 (a1 : ByteArray) (a2 : Int) (a3 : Int) (x : f26_l11_X) : Option f26_l11_Y := loopO (f26_l11_g a1 a2 a3) x
noncomputable def f26_l11_nd : Node := { nils := [], sk := f26_l11_sk, outs := f26_l11_outs, Y := f26_l11_Y, L := fun t => f26_l11 ((f26_l11_con t).1) ((f26_l11_con t).2.1) ((f26_l11_con t).2.2) (f26_l11_get t), out := fun t y => f26_l11_out (f26_l11_con t) y, disp := fun t y K => (fun y => K (.exit 0) (f26_l11_o0.fill (f26_l11_w0 (f26_l11_con t) y))) y }
noncomputable def f26_t7_sk : SkS := ⟨62, [(0, .con .str), (0, .con .str), (0, .con (.int .i64)), (0, .con (.int .i64))], []⟩
noncomputable def f26_t7_o0 : SkS := ⟨57, [(8, .sub 496 [])], [(496, ⟨none, (.slc .str), (.own .ro), none⟩)]⟩
noncomputable def f26_t7_outs : List Way := [⟨.ret, [], f26_t7_o0⟩]
abbrev f26_t7_C := Unit
abbrev f26_t7_X := (ByteArray × ByteArray × Int × Int)
abbrev f26_t7_Y := ((Nat × Nat × List ByteArray))
noncomputable def f26_t7_con (t : f26_t7_sk.T) : f26_t7_C := ()
noncomputable def f26_t7_get (t : f26_t7_sk.T) : f26_t7_X := (t.1.1, t.1.2.1, t.1.2.2.1, t.1.2.2.2.1)
noncomputable def f26_t7_put (c : f26_t7_C) (x : f26_t7_X) : f26_t7_sk.T := ((x.1, (x.2.1, (x.2.2.1, (x.2.2.2, ())))), ())
theorem f26_t7_pg (t : f26_t7_sk.T) : f26_t7_put (f26_t7_con t) (f26_t7_get t) = t := by kernel_rfl
noncomputable def f26_t7_w0 (c : f26_t7_C) (x : f26_t7_X) (y : (Nat × Nat × List ByteArray)) : f26_t7_o0.T := (((y.1, y.2.1), ()), ((y.2.2, ()), ()))
noncomputable def f26_t7_out (c : f26_t7_C) (x : f26_t7_X) (y : f26_t7_Y) : OutV f26_t7_outs := (fun y => (.inl (f26_t7_w0 c x y))) y
noncomputable def f26_t7_k {R : Type} (a0 : ByteArray) (a1 : ByteArray) (a2 : Int) (a3 : Int) (k0 : (Nat × Nat × List ByteArray) → Option R) : Option R :=
 (let v2 : Int := (IntKind.i64.wrap (((ByteArray.size a0 : Nat) : Int) + (1 : Int)))
 (let v3 : Int := (if v2 < a3 then v2 else a3)
 (if (0 : Int) ≤ v3 ∧ v3 ≤ v3 ∧ v3 * 16 ≤ (most : Int) ∧ 0 < 1 ∧ 0 < 16 then (let v4 : Int := (IntKind.i64.wrap (v3 - (1 : Int)))
 ((f26_l11 a1 a2 v4 (a0, (0 : Int), (List.replicate (Int.toNat v3) ByteArray.empty))).bind fun y9 =>
 (if (0 : Int) ≤ y9.2.1 ∧ y9.2.1 < ((List.length y9.2.2 : Nat) : Int) then (let v10 : Int := (IntKind.i64.wrap (y9.2.1 + (1 : Int)))
 (if (0 : Int) ≤ (0 : Int) ∧ (0 : Int) ≤ v10 ∧ v10 ≤ ((List.length (List.set y9.2.2 (Int.toNat y9.2.1) y9.1) : Nat) : Int) then (k0 (0, ((Int.toNat v10) - 0), (List.set y9.2.2 (Int.toNat y9.2.1) y9.1))) else none)) else none))) else none)))
noncomputable def f26_t7 (a0 : ByteArray) (a1 : ByteArray) (a2 : Int) (a3 : Int) : Option f26_t7_Y := f26_t7_k a0 a1 a2 a3 (fun y => some y)
noncomputable def f26_t7_nd : Node := { nils := [], sk := f26_t7_sk, outs := f26_t7_outs, Y := f26_t7_Y, L := fun t => f26_t7 ((f26_t7_get t).1) ((f26_t7_get t).2.1) ((f26_t7_get t).2.2.1) ((f26_t7_get t).2.2.2), out := fun t y => f26_t7_out (f26_t7_con t) (f26_t7_get t) y, disp := fun t y K => (fun y => K .ret (f26_t7_o0.fill (f26_t7_w0 (f26_t7_con t) (f26_t7_get t) y))) y }
noncomputable def f26_fx : Fx := { E := env, T := [(32, f32_sm), (33, f33_sm)], H := [], O := [], nodes := [((true, 11), f26_l11_nd), ((false, 7), f26_t7_nd)] }
noncomputable def f26_l11_b : Code := (loops f26_code).getD 0 .skip
theorem f26_l11_r (c : f26_l11_C) (x : f26_l11_X) : roundS f26_fx f26_l11_b f26_l11_nd (f26_l11_put c x) = f26_l11_k x.1 c.1 c.2.1 c.2.2 x.2.1 x.2.2 (fun x => some (.inl (f26_l11_put c x))) (fun y => some (.inr (.inl (f26_l11_w0 c y)))) := by kernel_rfl
theorem f26_l11_n {R : Type} (a0 : ByteArray) (a1 : ByteArray) (a2 : Int) (a3 : Int) (a4 : Int) (a5 : List ByteArray) (kin : f26_l11_X → Option R) (k0 : (ByteArray × Int × List ByteArray) → Option R) : f26_l11_k a0 a1 a2 a3 a4 a5 kin k0 = (f26_l11_g a1 a2 a3 (a0, a4, a5)).bind (Sum.elim kin k0) := by
  simp only [f26_l11_g, f26_l11_k, cond_bind, ite_bind, bind_bind, some_bind, none_bind, elim_bind, whenS_bind, Sum.elim_inl, Sum.elim_inr]
theorem f26_l11_ok : LoopOk f26_fx f26_l11_b f26_l11_nd := loop_ok f26_l11_con f26_l11_get f26_l11_put f26_l11_pg (fun c => f26_l11_g c.1 c.2.1 c.2.2) f26_l11_out (fun t y => rfl) (fun t y K => rfl) (fun c x => by
  refine (f26_l11_r c x).trans ((f26_l11_n _ _ _ _ _ _ _ _).trans ?_)
  first
  | rfl
  | congr 1
    funext s
    rcases s with s | s <;> rfl) (fun t => rfl)
noncomputable def f26_t7_b : Code := (tails f26_code).getD 7 .skip
theorem f26_t7_r (c : f26_t7_C) (x : f26_t7_X) : tailS f26_fx f26_t7_b f26_t7_nd (f26_t7_put c x) = f26_t7_k x.1 x.2.1 x.2.2.1 x.2.2.2 (fun y => some (.inl (f26_t7_w0 c x y))) := by kernel_rfl
theorem f26_t7_n {R : Type} (a0 : ByteArray) (a1 : ByteArray) (a2 : Int) (a3 : Int) (k0 : (Nat × Nat × List ByteArray) → Option R) : f26_t7_k a0 a1 a2 a3 k0 = (f26_t7 a0 a1 a2 a3).bind k0 := by
  simp only [f26_t7, f26_t7_k, cond_bind, ite_bind, bind_bind, some_bind, none_bind, elim_bind, whenS_bind, Sum.elim_inl, Sum.elim_inr]
theorem f26_t7_ok : TailOk f26_fx f26_t7_b f26_t7_nd := tail_ok f26_t7_con f26_t7_get f26_t7_put f26_t7_pg (fun x => f26_t7 x.1 x.2.1 x.2.2.1 x.2.2.2) f26_t7_out (fun t y => rfl) (fun t y K => rfl) (fun c x => by
  refine (f26_t7_r c x).trans ((f26_t7_n _ _ _ _ _).trans ?_)
  first
  | rfl
  | congr 1
    funext s
    rfl) (fun t => rfl)
noncomputable def f26_k {R : Type} (a0 : ByteArray) (a1 : ByteArray) (a2 : Int) (a3 : Int) (k : (List ByteArray × Unit) × (Unit) → Option R) : Option R :=
 (cond (a3 == (0 : Int))
 (k (([], ()), ()))
 (cond (strEq a1 (⟨#[]⟩ : ByteArray))
  none
  (cond (decide (a3 < (0 : Int)))
   ((f32 a0 a1).bind fun r0 =>
    (let v1 : Int := (IntKind.i64.wrap (r0.1.1 + (1 : Int)))
    ((f26_t7 a0 a1 a2 v1).bind fun y11 =>
    (k (((List.take y11.2.1 (List.drop y11.1 y11.2.2)), ()), ())))))
   ((f26_t7 a0 a1 a2 a3).bind fun y12 =>
    (k (((List.take y12.2.1 (List.drop y12.1 y12.2.2)), ()), ()))))))
noncomputable def f26 (a0 : ByteArray) (a1 : ByteArray) (a2 : Int) (a3 : Int) : Option ((List ByteArray × Unit) × (Unit)) := f26_k a0 a1 a2 a3 some
noncomputable def f26_sm : Sm := { ps := [.ro .str, .ro .str, .ro (.int .i64), .ro (.int .i64)], rs := [((.slc .str), (.own .ro))], F := fun x => f26 x.1 x.2.1 x.2.2.1 x.2.2.2.1 }
theorem f26_m (x : ArgT [.ro .str, .ro .str, .ro (.int .i64), .ro (.int .i64)]) : codeS f26_fx f26_code (start [.ro .str, .ro .str, .ro (.int .i64), .ro (.int .i64)] [] x 66) (finK env [.tmp 8] [.ro .str, .ro .str, .ro (.int .i64), .ro (.int .i64)] [((.slc .str), (.own .ro))]) = f26_k x.1 x.2.1 x.2.2.1 x.2.2.2.1 (fun r => some (r, [])) := by kernel_rfl
theorem f26_n {R : Type} (a0 : ByteArray) (a1 : ByteArray) (a2 : Int) (a3 : Int) (k : (List ByteArray × Unit) × (Unit) → Option R) : f26_k a0 a1 a2 a3 k = (f26 a0 a1 a2 a3).bind k := by
  simp only [f26, f26_k, cond_bind, ite_bind, bind_bind, some_bind, none_bind, elim_bind, whenS_bind]
theorem f26_ok : SmOk Tryd.prog 26 f26_sm :=
  sum_of (c := f26_fx) (fn := Tryd.f26) (code := f26_code) (sm := f26_sm) mixed (env_ok env_envB) (TabsOk.all ⟨f32_c, f33_c, trivial⟩) Tryd.func26 (by kernel_rfl)
   ((LoopsOk.of (l := [f26_l11_b]) (by kernel_rfl) ⟨node_is (by kernel_rfl) f26_l11_ok, trivial⟩))
   ((TailsOk.of (l := [((tails f26_code).getD 0 .skip), ((tails f26_code).getD 1 .skip), ((tails f26_code).getD 2 .skip), ((tails f26_code).getD 3 .skip), ((tails f26_code).getD 4 .skip), ((tails f26_code).getD 5 .skip), ((tails f26_code).getD 6 .skip), f26_t7_b, ((tails f26_code).getD 8 .skip), ((tails f26_code).getD 9 .skip), ((tails f26_code).getD 10 .skip), ((tails f26_code).getD 11 .skip), ((tails f26_code).getD 12 .skip), ((tails f26_code).getD 13 .skip), ((tails f26_code).getD 14 .skip), ((tails f26_code).getD 15 .skip), ((tails f26_code).getD 16 .skip), ((tails f26_code).getD 17 .skip), ((tails f26_code).getD 18 .skip), ((tails f26_code).getD 19 .skip), ((tails f26_code).getD 20 .skip), ((tails f26_code).getD 21 .skip), ((tails f26_code).getD 22 .skip)]) (by kernel_rfl) ⟨node_no (by kernel_rfl), node_no (by kernel_rfl), node_no (by kernel_rfl), node_no (by kernel_rfl), node_no (by kernel_rfl), node_no (by kernel_rfl), node_no (by kernel_rfl), node_is (by kernel_rfl) f26_t7_ok, node_no (by kernel_rfl), node_no (by kernel_rfl), node_no (by kernel_rfl), node_no (by kernel_rfl), node_no (by kernel_rfl), node_no (by kernel_rfl), node_no (by kernel_rfl), node_no (by kernel_rfl), node_no (by kernel_rfl), node_no (by kernel_rfl), node_no (by kernel_rfl), node_no (by kernel_rfl), node_no (by kernel_rfl), node_no (by kernel_rfl), node_no (by kernel_rfl), trivial⟩)) rfl
   (fun ks x hl => by
    have hk : ks = [] := List.length_eq_zero_iff.1 hl
    subst hk
    exact (f26_m x).trans (f26_n _ _ _ _ _))
theorem f26_c : CalOk Tryd.prog 26 f26_sm := .inl ⟨f26_ok, ⟨Tryd.f26, Tryd.func26, by kernel_rfl, by kernel_rfl⟩⟩
noncomputable def f20_code : Code := (Tryd.f20.body).getD .skip
noncomputable def f20_fx : Fx := { E := env, T := [(26, f26_sm)], H := [], O := [], nodes := [] }
noncomputable def f20_k {R : Type} (a0 : ByteArray) (a1 : ByteArray) (k : (List ByteArray × Unit) × (Unit) → Option R) : Option R :=
 ((f26 a0 a1 (0 : Int) (-1 : Int)).bind fun r0 =>
 (k ((r0.1.1, ()), ())))
noncomputable def f20 (a0 : ByteArray) (a1 : ByteArray) : Option ((List ByteArray × Unit) × (Unit)) := f20_k a0 a1 some
noncomputable def f20_sm : Sm := { ps := [.ro .str, .ro .str], rs := [((.slc .str), (.own .ro))], F := fun x => f20 x.1 x.2.1 }
theorem f20_m (x : ArgT [.ro .str, .ro .str]) : codeS f20_fx f20_code (start [.ro .str, .ro .str] [] x 8) (finK env [.tmp 4] [.ro .str, .ro .str] [((.slc .str), (.own .ro))]) = f20_k x.1 x.2.1 (fun r => some (r, [])) := by kernel_rfl
theorem f20_n {R : Type} (a0 : ByteArray) (a1 : ByteArray) (k : (List ByteArray × Unit) × (Unit) → Option R) : f20_k a0 a1 k = (f20 a0 a1).bind k := by
  simp only [f20, f20_k, cond_bind, ite_bind, bind_bind, some_bind, none_bind, elim_bind, whenS_bind]
theorem f20_ok : SmOk Tryd.prog 20 f20_sm :=
  sum_of (c := f20_fx) (fn := Tryd.f20) (code := f20_code) (sm := f20_sm) mixed (env_ok env_envB) (TabsOk.all ⟨f26_c, trivial⟩) Tryd.func20 (by kernel_rfl)
   ((LoopsOk.of (l := []) (by kernel_rfl) trivial))
   (no_tails (by kernel_rfl)) rfl
   (fun ks x hl => by
    have hk : ks = [] := List.length_eq_zero_iff.1 hl
    subst hk
    exact (f20_m x).trans (f20_n _ _ _))
theorem f20_c : CalOk Tryd.prog 20 f20_sm := .inl ⟨f20_ok, ⟨Tryd.f20, Tryd.func20, by kernel_rfl, by kernel_rfl⟩⟩
noncomputable def f17_code : Code := (Tryd.f17.body).getD .skip
noncomputable def f17_fx : Fx := { E := env, T := [(20, f20_sm)], H := [], O := [], nodes := [] }
noncomputable def f17_k {R : Type} (a0 : ByteArray) (k : (List ByteArray × Unit) × (Unit) → Option R) : Option R :=
 (cond (strEq a0 (⟨#[]⟩ : ByteArray))
 (k (([], ()), ()))
 ((f20 a0 (⟨#[47]⟩ : ByteArray)).bind fun r0 =>
  (k ((r0.1.1, ()), ()))))
noncomputable def f17 (a0 : ByteArray) : Option ((List ByteArray × Unit) × (Unit)) := f17_k a0 some
noncomputable def f17_sm : Sm := { ps := [.ro .str], rs := [((.slc .str), (.own .ro))], F := fun x => f17 x.1 }
theorem f17_m (x : ArgT [.ro .str]) : codeS f17_fx f17_code (start [.ro .str] [] x 7) (finK env [.tmp 2] [.ro .str] [((.slc .str), (.own .ro))]) = f17_k x.1 (fun r => some (r, [])) := by kernel_rfl
theorem f17_n {R : Type} (a0 : ByteArray) (k : (List ByteArray × Unit) × (Unit) → Option R) : f17_k a0 k = (f17 a0).bind k := by
  simp only [f17, f17_k, cond_bind, ite_bind, bind_bind, some_bind, none_bind, elim_bind, whenS_bind]
theorem f17_ok : SmOk Tryd.prog 17 f17_sm :=
  sum_of (c := f17_fx) (fn := Tryd.f17) (code := f17_code) (sm := f17_sm) mixed (env_ok env_envB) (TabsOk.all ⟨f20_c, trivial⟩) Tryd.func17 (by kernel_rfl)
   ((LoopsOk.of (l := []) (by kernel_rfl) trivial))
   (no_tails (by kernel_rfl)) rfl
   (fun ks x hl => by
    have hk : ks = [] := List.length_eq_zero_iff.1 hl
    subst hk
    exact (f17_m x).trans (f17_n _ _))
theorem f17_c : CalOk Tryd.prog 17 f17_sm := .inl ⟨f17_ok, ⟨Tryd.f17, Tryd.func17, by kernel_rfl, by kernel_rfl⟩⟩
noncomputable def f19_code : Code := (Tryd.f19.body).getD .skip
noncomputable def f19_l4_sk : SkS := ⟨25, [(0, .con .str), (22, .con (.int .i64)), (0, .con (.int .i64))], []⟩
noncomputable def f19_l4_o0 : SkS := ⟨47, [(2, .con .bool)], []⟩
noncomputable def f19_l4_o1 : SkS := ⟨50, [], []⟩
noncomputable def f19_l4_outs : List Way := [⟨.ret, [], f19_l4_o0⟩, ⟨(.exit 0), [], f19_l4_o1⟩]
abbrev f19_l4_C := (ByteArray × Int)
abbrev f19_l4_X := Int
abbrev f19_l4_Y := (Unit) ⊕ (Unit)
noncomputable def f19_l4_con (t : f19_l4_sk.T) : f19_l4_C := (t.1.1, t.1.2.1)
noncomputable def f19_l4_get (t : f19_l4_sk.T) : f19_l4_X := t.1.2.2.1
noncomputable def f19_l4_put (c : f19_l4_C) (x : f19_l4_X) : f19_l4_sk.T := ((c.1, (c.2, (x, ()))), ())
theorem f19_l4_pg (t : f19_l4_sk.T) : f19_l4_put (f19_l4_con t) (f19_l4_get t) = t := by kernel_rfl
noncomputable def f19_l4_w0 (c : f19_l4_C) (y : Unit) : f19_l4_o0.T := ((false, ()), ())
noncomputable def f19_l4_w1 (c : f19_l4_C) (y : Unit) : f19_l4_o1.T := ((), ())
noncomputable def f19_l4_out (c : f19_l4_C) (y : f19_l4_Y) : OutV f19_l4_outs := (Sum.elim (fun y => (.inl (f19_l4_w0 c y))) (fun y => (.inr (.inl (f19_l4_w1 c y))))) y
noncomputable def f19_l4_k {R : Type} (a0 : ByteArray) (a1 : Int) (a2 : Int) (kin : f19_l4_X → Option R) (k0 : Unit → Option R) (k1 : Unit → Option R) : Option R :=
 (cond (decide (a2 < a1))
 (if (0 : Int) ≤ a2 ∧ a2 < ((ByteArray.size a0 : Nat) : Int) then (cond (decide ((bt a0 a2) ≥ (97 : Int)))
  (cond (decide ((bt a0 a2) ≤ (122 : Int)))
   (let v0 : Int := (IntKind.i64.wrap (a2 + (1 : Int)))
    (kin v0))
   (cond (decide ((bt a0 a2) ≥ (48 : Int)))
    (cond (decide ((bt a0 a2) ≤ (57 : Int)))
     (let v1 : Int := (IntKind.i64.wrap (a2 + (1 : Int)))
      (kin v1))
     (cond (!((bt a0 a2) == (45 : Int)))
      (k0 ())
      (let v2 : Int := (IntKind.i64.wrap (a2 + (1 : Int)))
       (kin v2))))
    (cond (!((bt a0 a2) == (45 : Int)))
     (k0 ())
     (let v3 : Int := (IntKind.i64.wrap (a2 + (1 : Int)))
      (kin v3)))))
  (cond (decide ((bt a0 a2) ≥ (48 : Int)))
   (cond (decide ((bt a0 a2) ≤ (57 : Int)))
    (let v4 : Int := (IntKind.i64.wrap (a2 + (1 : Int)))
     (kin v4))
    (cond (!((bt a0 a2) == (45 : Int)))
     (k0 ())
     (let v5 : Int := (IntKind.i64.wrap (a2 + (1 : Int)))
      (kin v5))))
   (cond (!((bt a0 a2) == (45 : Int)))
    (k0 ())
    (let v6 : Int := (IntKind.i64.wrap (a2 + (1 : Int)))
     (kin v6))))) else none)
 (k1 ()))
noncomputable def f19_l4_g (a0 : ByteArray) (a1 : Int) (x : f19_l4_X) : Option (f19_l4_X ⊕ f19_l4_Y) := f19_l4_k a0 a1 x (fun x => some (.inl x)) (fun y => some (.inr (.inl y))) (fun y => some (.inr (.inr y)))
noncomputable def f19_l4 (a0 : ByteArray) (a1 : Int) (x : f19_l4_X) : Option f19_l4_Y := loopO (f19_l4_g a0 a1) x
noncomputable def f19_l4_nd : Node := { nils := [], sk := f19_l4_sk, outs := f19_l4_outs, Y := f19_l4_Y, L := fun t => f19_l4 ((f19_l4_con t).1) ((f19_l4_con t).2) (f19_l4_get t), out := fun t y => f19_l4_out (f19_l4_con t) y, disp := fun t y K => (Sum.elim (fun y => K .ret (f19_l4_o0.fill (f19_l4_w0 (f19_l4_con t) y))) (fun y => K (.exit 0) (f19_l4_o1.fill (f19_l4_w1 (f19_l4_con t) y)))) y }
noncomputable def f19_fx : Fx := { E := env, T := [], H := [], O := [], nodes := [((true, 4), f19_l4_nd)] }
noncomputable def f19_l4_b : Code := (loops f19_code).getD 0 .skip
theorem f19_l4_r (c : f19_l4_C) (x : f19_l4_X) : roundS f19_fx f19_l4_b f19_l4_nd (f19_l4_put c x) = f19_l4_k c.1 c.2 x (fun x => some (.inl (f19_l4_put c x))) (fun y => some (.inr (.inl (f19_l4_w0 c y)))) (fun y => some (.inr (.inr (.inl (f19_l4_w1 c y))))) := by kernel_rfl
theorem f19_l4_n {R : Type} (a0 : ByteArray) (a1 : Int) (a2 : Int) (kin : f19_l4_X → Option R) (k0 : Unit → Option R) (k1 : Unit → Option R) : f19_l4_k a0 a1 a2 kin k0 k1 = (f19_l4_g a0 a1 a2).bind (Sum.elim kin (Sum.elim k0 k1)) := by
  simp only [f19_l4_g, f19_l4_k, cond_bind, ite_bind, bind_bind, some_bind, none_bind, elim_bind, whenS_bind, Sum.elim_inl, Sum.elim_inr]
theorem f19_l4_ok : LoopOk f19_fx f19_l4_b f19_l4_nd := loop_ok f19_l4_con f19_l4_get f19_l4_put f19_l4_pg (fun c => f19_l4_g c.1 c.2) f19_l4_out (fun t y => rfl) (by intro R t y K; rcases y with y | y <;> rfl) (fun c x => by
  refine (f19_l4_r c x).trans ((f19_l4_n _ _ _ _ _ _).trans ?_)
  first
  | rfl
  | congr 1
    funext s
    rcases s with s | s | s <;> rfl) (fun t => rfl)
noncomputable def f19_k {R : Type} (a0 : ByteArray) (k : (Bool × Unit) × (Unit) → Option R) : Option R :=
 (cond (strEq a0 (⟨#[]⟩ : ByteArray))
 (k ((false, ()), ()))
 (cond (decide (((ByteArray.size a0 : Nat) : Int) > (20 : Int)))
  (k ((false, ()), ()))
  (if (0 : Int) ≤ (0 : Int) ∧ (0 : Int) < ((ByteArray.size a0 : Nat) : Int) then (cond (decide ((bt a0 (0 : Int)) < (97 : Int)))
   (k ((false, ()), ()))
   (if (0 : Int) ≤ (0 : Int) ∧ (0 : Int) < ((ByteArray.size a0 : Nat) : Int) then (cond (decide ((bt a0 (0 : Int)) > (122 : Int)))
    (k ((false, ()), ()))
    ((f19_l4 a0 ((ByteArray.size a0 : Nat) : Int) (0 : Int)).bind fun y7 =>
     ((Sum.elim (fun z8 =>
     (k ((false, ()), ())))
     (fun z9 =>
     (k ((true, ()), ())))) y7))) else none)) else none)))
noncomputable def f19 (a0 : ByteArray) : Option ((Bool × Unit) × (Unit)) := f19_k a0 some
noncomputable def f19_sm : Sm := { ps := [.ro .str], rs := [(.bool, .ro)], F := fun x => f19 x.1 }
theorem f19_m (x : ArgT [.ro .str]) : codeS f19_fx f19_code (start [.ro .str] [] x 50) (finK env [.tmp 2] [.ro .str] [(.bool, .ro)]) = f19_k x.1 (fun r => some (r, [])) := by kernel_rfl
theorem f19_n {R : Type} (a0 : ByteArray) (k : (Bool × Unit) × (Unit) → Option R) : f19_k a0 k = (f19 a0).bind k := by
  simp only [f19, f19_k, cond_bind, ite_bind, bind_bind, some_bind, none_bind, elim_bind, whenS_bind]
theorem f19_ok : SmOk Tryd.prog 19 f19_sm :=
  sum_of (c := f19_fx) (fn := Tryd.f19) (code := f19_code) (sm := f19_sm) mixed (env_ok env_envB) (TabsOk.all trivial) Tryd.func19 (by kernel_rfl)
   ((LoopsOk.of (l := [f19_l4_b]) (by kernel_rfl) ⟨node_is (by kernel_rfl) f19_l4_ok, trivial⟩))
   (no_tails (by kernel_rfl)) rfl
   (fun ks x hl => by
    have hk : ks = [] := List.length_eq_zero_iff.1 hl
    subst hk
    exact (f19_m x).trans (f19_n _ _))
theorem f19_c : CalOk Tryd.prog 19 f19_sm := .inl ⟨f19_ok, ⟨Tryd.f19, Tryd.func19, by kernel_rfl, by kernel_rfl⟩⟩
noncomputable def f18_code : Code := (Tryd.f18.body).getD .skip
noncomputable def f18_fx : Fx := { E := env, T := [(19, f19_sm)], H := [], O := [], nodes := [] }
noncomputable def f18_k {R : Type} (a0 : ByteArray) (k : (Bool × Unit) × (Unit) → Option R) : Option R :=
 ((f19 a0).bind fun r0 =>
 (k (((!r0.1.1), ()), ())))
noncomputable def f18 (a0 : ByteArray) : Option ((Bool × Unit) × (Unit)) := f18_k a0 some
noncomputable def f18_sm : Sm := { ps := [.ro .str], rs := [(.bool, .ro)], F := fun x => f18 x.1 }
theorem f18_m (x : ArgT [.ro .str]) : codeS f18_fx f18_code (start [.ro .str] [] x 6) (finK env [.tmp 2] [.ro .str] [(.bool, .ro)]) = f18_k x.1 (fun r => some (r, [])) := by kernel_rfl
theorem f18_n {R : Type} (a0 : ByteArray) (k : (Bool × Unit) × (Unit) → Option R) : f18_k a0 k = (f18 a0).bind k := by
  simp only [f18, f18_k, cond_bind, ite_bind, bind_bind, some_bind, none_bind, elim_bind, whenS_bind]
theorem f18_ok : SmOk Tryd.prog 18 f18_sm :=
  sum_of (c := f18_fx) (fn := Tryd.f18) (code := f18_code) (sm := f18_sm) mixed (env_ok env_envB) (TabsOk.all ⟨f19_c, trivial⟩) Tryd.func18 (by kernel_rfl)
   ((LoopsOk.of (l := []) (by kernel_rfl) trivial))
   (no_tails (by kernel_rfl)) rfl
   (fun ks x hl => by
    have hk : ks = [] := List.length_eq_zero_iff.1 hl
    subst hk
    exact (f18_m x).trans (f18_n _ _))
theorem f18_c : CalOk Tryd.prog 18 f18_sm := .inl ⟨f18_ok, ⟨Tryd.f18, Tryd.func18, by kernel_rfl, by kernel_rfl⟩⟩
noncomputable def f25_code : Code := (Tryd.f25.body).getD .skip
noncomputable def f25_l2_sk : SkS := ⟨10, [(0, .con (.slc .str)), (0, .fn 18 (.tnil)), (5, .con (.int .i64)), (0, .con (.int .i64))], []⟩
noncomputable def f25_l2_o0 : SkS := ⟨14, [(4, .con (.int .i64))], []⟩
noncomputable def f25_l2_o1 : SkS := ⟨19, [], []⟩
noncomputable def f25_l2_outs : List Way := [⟨.ret, [], f25_l2_o0⟩, ⟨(.exit 0), [], f25_l2_o1⟩]
abbrev f25_l2_C := (List ByteArray × Int)
abbrev f25_l2_X := Int
abbrev f25_l2_Y := (Int) ⊕ (Unit)
noncomputable def f25_l2_con (t : f25_l2_sk.T) : f25_l2_C := (t.1.1, t.1.2.2.1)
noncomputable def f25_l2_get (t : f25_l2_sk.T) : f25_l2_X := t.1.2.2.2.1
noncomputable def f25_l2_put (c : f25_l2_C) (x : f25_l2_X) : f25_l2_sk.T := ((c.1, ((), (c.2, (x, ())))), ())
theorem f25_l2_pg (t : f25_l2_sk.T) : f25_l2_put (f25_l2_con t) (f25_l2_get t) = t := by kernel_rfl
noncomputable def f25_l2_w0 (c : f25_l2_C) (y : Int) : f25_l2_o0.T := ((y, ()), ())
noncomputable def f25_l2_w1 (c : f25_l2_C) (y : Unit) : f25_l2_o1.T := ((), ())
noncomputable def f25_l2_out (c : f25_l2_C) (y : f25_l2_Y) : OutV f25_l2_outs := (Sum.elim (fun y => (.inl (f25_l2_w0 c y))) (fun y => (.inr (.inl (f25_l2_w1 c y))))) y
noncomputable def f25_l2_k {R : Type} (a0 : List ByteArray) (a1 : Int) (a2 : Int) (kin : f25_l2_X → Option R) (k0 : Int → Option R) (k1 : Unit → Option R) : Option R :=
 (cond (decide (a2 < a1))
 (if (0 : Int) ≤ a2 ∧ a2 < ((List.length a0 : Nat) : Int) then ((f18 (List.getD a0 (Int.toNat a2) ByteArray.empty)).bind fun r0 =>
  (cond r0.1.1
  (k0 a2)
  (let v1 : Int := (IntKind.i64.wrap (a2 + (1 : Int)))
   (kin v1)))) else none)
 (k1 ()))
noncomputable def f25_l2_g (a0 : List ByteArray) (a1 : Int) (x : f25_l2_X) : Option (f25_l2_X ⊕ f25_l2_Y) := f25_l2_k a0 a1 x (fun x => some (.inl x)) (fun y => some (.inr (.inl y))) (fun y => some (.inr (.inr y)))
noncomputable def f25_l2 (a0 : List ByteArray) (a1 : Int) (x : f25_l2_X) : Option f25_l2_Y := loopO (f25_l2_g a0 a1) x
noncomputable def f25_l2_nd : Node := { nils := [], sk := f25_l2_sk, outs := f25_l2_outs, Y := f25_l2_Y, L := fun t => f25_l2 ((f25_l2_con t).1) ((f25_l2_con t).2) (f25_l2_get t), out := fun t y => f25_l2_out (f25_l2_con t) y, disp := fun t y K => (Sum.elim (fun y => K .ret (f25_l2_o0.fill (f25_l2_w0 (f25_l2_con t) y))) (fun y => K (.exit 0) (f25_l2_o1.fill (f25_l2_w1 (f25_l2_con t) y)))) y }
noncomputable def f25_fx : Fx := { E := env, T := [(18, f18_sm)], H := [], O := [], nodes := [((true, 2), f25_l2_nd)] }
noncomputable def f25_l2_b : Code := (loops f25_code).getD 0 .skip
theorem f25_l2_r (c : f25_l2_C) (x : f25_l2_X) : roundS f25_fx f25_l2_b f25_l2_nd (f25_l2_put c x) = f25_l2_k c.1 c.2 x (fun x => some (.inl (f25_l2_put c x))) (fun y => some (.inr (.inl (f25_l2_w0 c y)))) (fun y => some (.inr (.inr (.inl (f25_l2_w1 c y))))) := by kernel_rfl
theorem f25_l2_n {R : Type} (a0 : List ByteArray) (a1 : Int) (a2 : Int) (kin : f25_l2_X → Option R) (k0 : Int → Option R) (k1 : Unit → Option R) : f25_l2_k a0 a1 a2 kin k0 k1 = (f25_l2_g a0 a1 a2).bind (Sum.elim kin (Sum.elim k0 k1)) := by
  simp only [f25_l2_g, f25_l2_k, cond_bind, ite_bind, bind_bind, some_bind, none_bind, elim_bind, whenS_bind, Sum.elim_inl, Sum.elim_inr]
theorem f25_l2_ok : LoopOk f25_fx f25_l2_b f25_l2_nd := loop_ok f25_l2_con f25_l2_get f25_l2_put f25_l2_pg (fun c => f25_l2_g c.1 c.2) f25_l2_out (fun t y => rfl) (by intro R t y K; rcases y with y | y <;> rfl) (fun c x => by
  refine (f25_l2_r c x).trans ((f25_l2_n _ _ _ _ _ _).trans ?_)
  first
  | rfl
  | congr 1
    funext s
    rcases s with s | s | s <;> rfl) (fun t => rfl)
noncomputable def f25_k {R : Type} (a0 : List ByteArray) (a1 : (Unit)) (k : (Int × Unit) × (Unit) → Option R) : Option R :=
 ((f25_l2 a0 ((List.length a0 : Nat) : Int) (0 : Int)).bind fun y2 =>
 ((Sum.elim (fun z3 =>
 (k ((z3, ()), ())))
 (fun z4 =>
 (k (((-1 : Int), ()), ())))) y2))
noncomputable def f25 (a0 : List ByteArray) (a1 : (Unit)) : Option ((Int × Unit) × (Unit)) := f25_k a0 a1 some
noncomputable def f25_sm : Sm := { ps := [.ro (.slc .str), .fn 18 []], rs := [((.int .i64), .ro)], F := fun x => f25 x.1 x.2.1 }
theorem f25_m (x : ArgT [.ro (.slc .str), .fn 18 []]) : codeS f25_fx f25_code (start [.ro (.slc .str), .fn 18 []] [] x 19) (finK env [.tmp 4] [.ro (.slc .str), .fn 18 []] [((.int .i64), .ro)]) = f25_k x.1 x.2.1 (fun r => some (r, [])) := by kernel_rfl
theorem f25_n {R : Type} (a0 : List ByteArray) (a1 : (Unit)) (k : (Int × Unit) × (Unit) → Option R) : f25_k a0 a1 k = (f25 a0 a1).bind k := by
  simp only [f25, f25_k, cond_bind, ite_bind, bind_bind, some_bind, none_bind, elim_bind, whenS_bind]
theorem f25_ok : SmOk Tryd.prog 25 f25_sm :=
  sum_of (c := f25_fx) (fn := Tryd.f25) (code := f25_code) (sm := f25_sm) mixed (env_ok env_envB) (TabsOk.all ⟨f18_c, trivial⟩) Tryd.func25 (by kernel_rfl)
   ((LoopsOk.of (l := [f25_l2_b]) (by kernel_rfl) ⟨node_is (by kernel_rfl) f25_l2_ok, trivial⟩))
   (no_tails (by kernel_rfl)) rfl
   (fun ks x hl => by
    have hk : ks = [] := List.length_eq_zero_iff.1 hl
    subst hk
    exact (f25_m x).trans (f25_n _ _ _))
theorem f25_c : CalOk Tryd.prog 25 f25_sm := .inl ⟨f25_ok, ⟨Tryd.f25, Tryd.func25, by kernel_rfl, by kernel_rfl⟩⟩
noncomputable def f16_code : Code := (Tryd.f16.body).getD .skip
noncomputable def f16_fx : Fx := { E := env, T := [(25, f25_sm)], H := [], O := [], nodes := [] }
noncomputable def f16_k {R : Type} (a0 : List ByteArray) (a1 : (Unit)) (k : (Bool × Unit) × (Unit) → Option R) : Option R :=
 ((f25 a0 ()).bind fun r0 =>
 (k (((decide (r0.1.1 ≥ (0 : Int))), ()), ())))
noncomputable def f16 (a0 : List ByteArray) (a1 : (Unit)) : Option ((Bool × Unit) × (Unit)) := f16_k a0 a1 some
noncomputable def f16_sm : Sm := { ps := [.ro (.slc .str), .fn 18 []], rs := [(.bool, .ro)], F := fun x => f16 x.1 x.2.1 }
theorem f16_m (x : ArgT [.ro (.slc .str), .fn 18 []]) : codeS f16_fx f16_code (start [.ro (.slc .str), .fn 18 []] [] x 9) (finK env [.tmp 4] [.ro (.slc .str), .fn 18 []] [(.bool, .ro)]) = f16_k x.1 x.2.1 (fun r => some (r, [])) := by kernel_rfl
theorem f16_n {R : Type} (a0 : List ByteArray) (a1 : (Unit)) (k : (Bool × Unit) × (Unit) → Option R) : f16_k a0 a1 k = (f16 a0 a1).bind k := by
  simp only [f16, f16_k, cond_bind, ite_bind, bind_bind, some_bind, none_bind, elim_bind, whenS_bind]
theorem f16_ok : SmOk Tryd.prog 16 f16_sm :=
  sum_of (c := f16_fx) (fn := Tryd.f16) (code := f16_code) (sm := f16_sm) mixed (env_ok env_envB) (TabsOk.all ⟨f25_c, trivial⟩) Tryd.func16 (by kernel_rfl)
   ((LoopsOk.of (l := []) (by kernel_rfl) trivial))
   (no_tails (by kernel_rfl)) rfl
   (fun ks x hl => by
    have hk : ks = [] := List.length_eq_zero_iff.1 hl
    subst hk
    exact (f16_m x).trans (f16_n _ _ _))
theorem f16_c : CalOk Tryd.prog 16 f16_sm := .inl ⟨f16_ok, ⟨Tryd.f16, Tryd.func16, by kernel_rfl, by kernel_rfl⟩⟩
noncomputable def f7_code : Code := (Tryd.f7.body).getD .skip
noncomputable def f7_fx : Fx := { E := env, T := [(17, f17_sm), (16, f16_sm)], H := [], O := [], nodes := [] }
noncomputable def f7_k {R : Type} (a0 : ByteArray) (k : (Bool × Unit) × (Unit) → Option R) : Option R :=
 (cond (!strEq a0 (⟨#[]⟩ : ByteArray))
 (cond (decide (((ByteArray.size a0 : Nat) : Int) ≤ (168 : Int)))
  ((f17 a0).bind fun r0 =>
   ((f16 r0.1.1 ()).bind fun r1 =>
   (cond (!r1.1.1)
   ((f17 a0).bind fun r2 =>
    (k (((decide (((List.length r2.1.1 : Nat) : Int) ≤ (8 : Int))), ()), ())))
   (k ((false, ()), ())))))
  (k ((false, ()), ())))
 (k ((false, ()), ())))
noncomputable def f7 (a0 : ByteArray) : Option ((Bool × Unit) × (Unit)) := f7_k a0 some
noncomputable def f7_sm : Sm := { ps := [.ro .str], rs := [(.bool, .ro)], F := fun x => f7 x.1 }
theorem f7_m (x : ArgT [.ro .str]) : codeS f7_fx f7_code (start [.ro .str] [] x 22) (finK env [.tmp 2] [.ro .str] [(.bool, .ro)]) = f7_k x.1 (fun r => some (r, [])) := by kernel_rfl
theorem f7_n {R : Type} (a0 : ByteArray) (k : (Bool × Unit) × (Unit) → Option R) : f7_k a0 k = (f7 a0).bind k := by
  simp only [f7, f7_k, cond_bind, ite_bind, bind_bind, some_bind, none_bind, elim_bind, whenS_bind]
theorem f7_ok : SmOk Tryd.prog 7 f7_sm :=
  sum_of (c := f7_fx) (fn := Tryd.f7) (code := f7_code) (sm := f7_sm) mixed (env_ok env_envB) (TabsOk.all ⟨f17_c, f16_c, trivial⟩) Tryd.func7 (by kernel_rfl)
   ((LoopsOk.of (l := []) (by kernel_rfl) trivial))
   (no_tails (by kernel_rfl)) rfl
   (fun ks x hl => by
    have hk : ks = [] := List.length_eq_zero_iff.1 hl
    subst hk
    exact (f7_m x).trans (f7_n _ _))
theorem f7_c : CalOk Tryd.prog 7 f7_sm := .inl ⟨f7_ok, ⟨Tryd.f7, Tryd.func7, by kernel_rfl, by kernel_rfl⟩⟩
noncomputable def f27_code : Code := (Tryd.f27.body).getD .skip
noncomputable def f27_fx : Fx := { E := env, T := [(34, f34_sm)], H := [], O := [], nodes := [] }
noncomputable def f27_k {R : Type} (a0 : ByteArray) (a1 : Int) (k : (Int × Unit) × (Unit) → Option R) : Option R :=
 ((f34 a0 a1).bind fun r0 =>
 (k ((r0.1.1, ()), ())))
noncomputable def f27 (a0 : ByteArray) (a1 : Int) : Option ((Int × Unit) × (Unit)) := f27_k a0 a1 some
noncomputable def f27_sm : Sm := { ps := [.ro .str, .ro (.int .u8)], rs := [((.int .i64), .ro)], F := fun x => f27 x.1 x.2.1 }
theorem f27_m (x : ArgT [.ro .str, .ro (.int .u8)]) : codeS f27_fx f27_code (start [.ro .str, .ro (.int .u8)] [] x 8) (finK env [.tmp 4] [.ro .str, .ro (.int .u8)] [((.int .i64), .ro)]) = f27_k x.1 x.2.1 (fun r => some (r, [])) := by kernel_rfl
theorem f27_n {R : Type} (a0 : ByteArray) (a1 : Int) (k : (Int × Unit) × (Unit) → Option R) : f27_k a0 a1 k = (f27 a0 a1).bind k := by
  simp only [f27, f27_k, cond_bind, ite_bind, bind_bind, some_bind, none_bind, elim_bind, whenS_bind]
theorem f27_ok : SmOk Tryd.prog 27 f27_sm :=
  sum_of (c := f27_fx) (fn := Tryd.f27) (code := f27_code) (sm := f27_sm) mixed (env_ok env_envB) (TabsOk.all ⟨f34_c, trivial⟩) Tryd.func27 (by kernel_rfl)
   ((LoopsOk.of (l := []) (by kernel_rfl) trivial))
   (no_tails (by kernel_rfl)) rfl
   (fun ks x hl => by
    have hk : ks = [] := List.length_eq_zero_iff.1 hl
    subst hk
    exact (f27_m x).trans (f27_n _ _ _))
theorem f27_c : CalOk Tryd.prog 27 f27_sm := .inl ⟨f27_ok, ⟨Tryd.f27, Tryd.func27, by kernel_rfl, by kernel_rfl⟩⟩
noncomputable def f22_code : Code := (Tryd.f22.body).getD .skip
noncomputable def f22_l4_sk : SkS := ⟨7, [(24, .con (.slc (.int .u8))), (0, .con (.int .i64)), (0, .con (.int .i64))], []⟩
noncomputable def f22_l4_o0 : SkS := ⟨31, [(2, .con .bool)], []⟩
noncomputable def f22_l4_o1 : SkS := ⟨34, [], []⟩
noncomputable def f22_l4_outs : List Way := [⟨.ret, [], f22_l4_o0⟩, ⟨(.exit 0), [], f22_l4_o1⟩]
abbrev f22_l4_C := (List Int × Int)
abbrev f22_l4_X := Int
abbrev f22_l4_Y := (Unit) ⊕ (Unit)
noncomputable def f22_l4_con (t : f22_l4_sk.T) : f22_l4_C := (t.1.1, t.1.2.1)
noncomputable def f22_l4_get (t : f22_l4_sk.T) : f22_l4_X := t.1.2.2.1
noncomputable def f22_l4_put (c : f22_l4_C) (x : f22_l4_X) : f22_l4_sk.T := ((c.1, (c.2, (x, ()))), ())
theorem f22_l4_pg (t : f22_l4_sk.T) : f22_l4_put (f22_l4_con t) (f22_l4_get t) = t := by kernel_rfl
noncomputable def f22_l4_w0 (c : f22_l4_C) (y : Unit) : f22_l4_o0.T := ((false, ()), ())
noncomputable def f22_l4_w1 (c : f22_l4_C) (y : Unit) : f22_l4_o1.T := ((), ())
noncomputable def f22_l4_out (c : f22_l4_C) (y : f22_l4_Y) : OutV f22_l4_outs := (Sum.elim (fun y => (.inl (f22_l4_w0 c y))) (fun y => (.inr (.inl (f22_l4_w1 c y))))) y
noncomputable def f22_l4_k {R : Type} (a0 : List Int) (a1 : Int) (a2 : Int) (kin : f22_l4_X → Option R) (k0 : Unit → Option R) (k1 : Unit → Option R) : Option R :=
 (cond (decide (a2 < a1))
 (if (0 : Int) ≤ a2 ∧ a2 < ((List.length a0 : Nat) : Int) then ((f27 (⟨#[97, 98, 99, 100, 101, 102, 103, 104, 105, 106, 107, 108, 109, 110, 111, 112, 113, 114, 115, 116, 117, 118, 119, 120, 121, 122, 48, 49, 50, 51, 52, 53, 54, 55, 56, 57, 45]⟩ : ByteArray) (List.getD a0 (Int.toNat a2) (0 : Int))).bind fun r0 =>
  (cond (decide (r0.1.1 < (0 : Int)))
  (k0 ())
  (let v1 : Int := (IntKind.i64.wrap (a2 + (1 : Int)))
   (kin v1)))) else none)
 (k1 ()))
noncomputable def f22_l4_g (a0 : List Int) (a1 : Int) (x : f22_l4_X) : Option (f22_l4_X ⊕ f22_l4_Y) := f22_l4_k a0 a1 x (fun x => some (.inl x)) (fun y => some (.inr (.inl y))) (fun y => some (.inr (.inr y)))
noncomputable def f22_l4 (a0 : List Int) (a1 : Int) (x : f22_l4_X) : Option f22_l4_Y := loopO (f22_l4_g a0 a1) x
noncomputable def f22_l4_nd : Node := { nils := [], sk := f22_l4_sk, outs := f22_l4_outs, Y := f22_l4_Y, L := fun t => f22_l4 ((f22_l4_con t).1) ((f22_l4_con t).2) (f22_l4_get t), out := fun t y => f22_l4_out (f22_l4_con t) y, disp := fun t y K => (Sum.elim (fun y => K .ret (f22_l4_o0.fill (f22_l4_w0 (f22_l4_con t) y))) (fun y => K (.exit 0) (f22_l4_o1.fill (f22_l4_w1 (f22_l4_con t) y)))) y }
noncomputable def f22_fx : Fx := { E := env, T := [(27, f27_sm)], H := [], O := [], nodes := [((true, 4), f22_l4_nd)] }
noncomputable def f22_l4_b : Code := (loops f22_code).getD 0 .skip
theorem f22_l4_r (c : f22_l4_C) (x : f22_l4_X) : roundS f22_fx f22_l4_b f22_l4_nd (f22_l4_put c x) = f22_l4_k c.1 c.2 x (fun x => some (.inl (f22_l4_put c x))) (fun y => some (.inr (.inl (f22_l4_w0 c y)))) (fun y => some (.inr (.inr (.inl (f22_l4_w1 c y))))) := by kernel_rfl
theorem f22_l4_n {R : Type} (a0 : List Int) (a1 : Int) (a2 : Int) (kin : f22_l4_X → Option R) (k0 : Unit → Option R) (k1 : Unit → Option R) : f22_l4_k a0 a1 a2 kin k0 k1 = (f22_l4_g a0 a1 a2).bind (Sum.elim kin (Sum.elim k0 k1)) := by
  simp only [f22_l4_g, f22_l4_k, cond_bind, ite_bind, bind_bind, some_bind, none_bind, elim_bind, whenS_bind, Sum.elim_inl, Sum.elim_inr]
theorem f22_l4_ok : LoopOk f22_fx f22_l4_b f22_l4_nd := loop_ok f22_l4_con f22_l4_get f22_l4_put f22_l4_pg (fun c => f22_l4_g c.1 c.2) f22_l4_out (fun t y => rfl) (by intro R t y K; rcases y with y | y <;> rfl) (fun c x => by
  refine (f22_l4_r c x).trans ((f22_l4_n _ _ _ _ _ _).trans ?_)
  first
  | rfl
  | congr 1
    funext s
    rcases s with s | s | s <;> rfl) (fun t => rfl)
noncomputable def f22_k {R : Type} (a0 : ByteArray) (k : (Bool × Unit) × (Unit) → Option R) : Option R :=
 (cond (decide (((ByteArray.size a0 : Nat) : Int) < (1 : Int)))
 (k ((false, ()), ()))
 (cond (decide (((ByteArray.size a0 : Nat) : Int) > (20 : Int)))
  (k ((false, ()), ()))
  (if (0 : Int) ≤ (0 : Int) ∧ (0 : Int) < ((ByteArray.size a0 : Nat) : Int) then (cond (decide ((bt a0 (0 : Int)) < (97 : Int)))
   (k ((false, ()), ()))
   (if (0 : Int) ≤ (0 : Int) ∧ (0 : Int) < ((ByteArray.size a0 : Nat) : Int) then (cond (decide ((bt a0 (0 : Int)) > (122 : Int)))
    (k ((false, ()), ()))
    ((f22_l4 (s2b a0) ((List.length (s2b a0) : Nat) : Int) (0 : Int)).bind fun y2 =>
     ((Sum.elim (fun z3 =>
     (k ((false, ()), ())))
     (fun z4 =>
     (k ((true, ()), ())))) y2))) else none)) else none)))
noncomputable def f22 (a0 : ByteArray) : Option ((Bool × Unit) × (Unit)) := f22_k a0 some
noncomputable def f22_sm : Sm := { ps := [.ro .str], rs := [(.bool, .ro)], F := fun x => f22 x.1 }
theorem f22_m (x : ArgT [.ro .str]) : codeS f22_fx f22_code (start [.ro .str] [] x 34) (finK env [.tmp 2] [.ro .str] [(.bool, .ro)]) = f22_k x.1 (fun r => some (r, [])) := by kernel_rfl
theorem f22_n {R : Type} (a0 : ByteArray) (k : (Bool × Unit) × (Unit) → Option R) : f22_k a0 k = (f22 a0).bind k := by
  simp only [f22, f22_k, cond_bind, ite_bind, bind_bind, some_bind, none_bind, elim_bind, whenS_bind]
theorem f22_ok : SmOk Tryd.prog 22 f22_sm :=
  sum_of (c := f22_fx) (fn := Tryd.f22) (code := f22_code) (sm := f22_sm) mixed (env_ok env_envB) (TabsOk.all ⟨f27_c, trivial⟩) Tryd.func22 (by kernel_rfl)
   ((LoopsOk.of (l := [f22_l4_b]) (by kernel_rfl) ⟨node_is (by kernel_rfl) f22_l4_ok, trivial⟩))
   (no_tails (by kernel_rfl)) rfl
   (fun ks x hl => by
    have hk : ks = [] := List.length_eq_zero_iff.1 hl
    subst hk
    exact (f22_m x).trans (f22_n _ _))
theorem f22_c : CalOk Tryd.prog 22 f22_sm := .inl ⟨f22_ok, ⟨Tryd.f22, Tryd.func22, by kernel_rfl, by kernel_rfl⟩⟩
noncomputable def f21_code : Code := (Tryd.f21.body).getD .skip
noncomputable def f21_fx : Fx := { E := env, T := [(22, f22_sm)], H := [], O := [], nodes := [] }
noncomputable def f21_k {R : Type} (a0 : ByteArray) (k : (Bool × Unit) × (Unit) → Option R) : Option R :=
 ((f22 a0).bind fun r0 =>
 (k (((!r0.1.1), ()), ())))
noncomputable def f21 (a0 : ByteArray) : Option ((Bool × Unit) × (Unit)) := f21_k a0 some
noncomputable def f21_sm : Sm := { ps := [.ro .str], rs := [(.bool, .ro)], F := fun x => f21 x.1 }
theorem f21_m (x : ArgT [.ro .str]) : codeS f21_fx f21_code (start [.ro .str] [] x 6) (finK env [.tmp 2] [.ro .str] [(.bool, .ro)]) = f21_k x.1 (fun r => some (r, [])) := by kernel_rfl
theorem f21_n {R : Type} (a0 : ByteArray) (k : (Bool × Unit) × (Unit) → Option R) : f21_k a0 k = (f21 a0).bind k := by
  simp only [f21, f21_k, cond_bind, ite_bind, bind_bind, some_bind, none_bind, elim_bind, whenS_bind]
theorem f21_ok : SmOk Tryd.prog 21 f21_sm :=
  sum_of (c := f21_fx) (fn := Tryd.f21) (code := f21_code) (sm := f21_sm) mixed (env_ok env_envB) (TabsOk.all ⟨f22_c, trivial⟩) Tryd.func21 (by kernel_rfl)
   ((LoopsOk.of (l := []) (by kernel_rfl) trivial))
   (no_tails (by kernel_rfl)) rfl
   (fun ks x hl => by
    have hk : ks = [] := List.length_eq_zero_iff.1 hl
    subst hk
    exact (f21_m x).trans (f21_n _ _))
theorem f21_c : CalOk Tryd.prog 21 f21_sm := .inl ⟨f21_ok, ⟨Tryd.f21, Tryd.func21, by kernel_rfl, by kernel_rfl⟩⟩
noncomputable def f25x1_code : Code := (Tryd.f25.body).getD .skip
noncomputable def f25x1_l2_sk : SkS := ⟨10, [(0, .con (.slc .str)), (0, .fn 21 (.tnil)), (5, .con (.int .i64)), (0, .con (.int .i64))], []⟩
noncomputable def f25x1_l2_o0 : SkS := ⟨14, [(4, .con (.int .i64))], []⟩
noncomputable def f25x1_l2_o1 : SkS := ⟨19, [], []⟩
noncomputable def f25x1_l2_outs : List Way := [⟨.ret, [], f25x1_l2_o0⟩, ⟨(.exit 0), [], f25x1_l2_o1⟩]
abbrev f25x1_l2_C := (List ByteArray × Int)
abbrev f25x1_l2_X := Int
abbrev f25x1_l2_Y := (Int) ⊕ (Unit)
noncomputable def f25x1_l2_con (t : f25x1_l2_sk.T) : f25x1_l2_C := (t.1.1, t.1.2.2.1)
noncomputable def f25x1_l2_get (t : f25x1_l2_sk.T) : f25x1_l2_X := t.1.2.2.2.1
noncomputable def f25x1_l2_put (c : f25x1_l2_C) (x : f25x1_l2_X) : f25x1_l2_sk.T := ((c.1, ((), (c.2, (x, ())))), ())
theorem f25x1_l2_pg (t : f25x1_l2_sk.T) : f25x1_l2_put (f25x1_l2_con t) (f25x1_l2_get t) = t := by kernel_rfl
noncomputable def f25x1_l2_w0 (c : f25x1_l2_C) (y : Int) : f25x1_l2_o0.T := ((y, ()), ())
noncomputable def f25x1_l2_w1 (c : f25x1_l2_C) (y : Unit) : f25x1_l2_o1.T := ((), ())
noncomputable def f25x1_l2_out (c : f25x1_l2_C) (y : f25x1_l2_Y) : OutV f25x1_l2_outs := (Sum.elim (fun y => (.inl (f25x1_l2_w0 c y))) (fun y => (.inr (.inl (f25x1_l2_w1 c y))))) y
noncomputable def f25x1_l2_k {R : Type} (a0 : List ByteArray) (a1 : Int) (a2 : Int) (kin : f25x1_l2_X → Option R) (k0 : Int → Option R) (k1 : Unit → Option R) : Option R :=
 (cond (decide (a2 < a1))
 (if (0 : Int) ≤ a2 ∧ a2 < ((List.length a0 : Nat) : Int) then ((f21 (List.getD a0 (Int.toNat a2) ByteArray.empty)).bind fun r0 =>
  (cond r0.1.1
  (k0 a2)
  (let v1 : Int := (IntKind.i64.wrap (a2 + (1 : Int)))
   (kin v1)))) else none)
 (k1 ()))
noncomputable def f25x1_l2_g (a0 : List ByteArray) (a1 : Int) (x : f25x1_l2_X) : Option (f25x1_l2_X ⊕ f25x1_l2_Y) := f25x1_l2_k a0 a1 x (fun x => some (.inl x)) (fun y => some (.inr (.inl y))) (fun y => some (.inr (.inr y)))
noncomputable def f25x1_l2 (a0 : List ByteArray) (a1 : Int) (x : f25x1_l2_X) : Option f25x1_l2_Y := loopO (f25x1_l2_g a0 a1) x
noncomputable def f25x1_l2_nd : Node := { nils := [], sk := f25x1_l2_sk, outs := f25x1_l2_outs, Y := f25x1_l2_Y, L := fun t => f25x1_l2 ((f25x1_l2_con t).1) ((f25x1_l2_con t).2) (f25x1_l2_get t), out := fun t y => f25x1_l2_out (f25x1_l2_con t) y, disp := fun t y K => (Sum.elim (fun y => K .ret (f25x1_l2_o0.fill (f25x1_l2_w0 (f25x1_l2_con t) y))) (fun y => K (.exit 0) (f25x1_l2_o1.fill (f25x1_l2_w1 (f25x1_l2_con t) y)))) y }
noncomputable def f25x1_fx : Fx := { E := env, T := [(21, f21_sm)], H := [], O := [], nodes := [((true, 2), f25x1_l2_nd)] }
noncomputable def f25x1_l2_b : Code := (loops f25x1_code).getD 0 .skip
theorem f25x1_l2_r (c : f25x1_l2_C) (x : f25x1_l2_X) : roundS f25x1_fx f25x1_l2_b f25x1_l2_nd (f25x1_l2_put c x) = f25x1_l2_k c.1 c.2 x (fun x => some (.inl (f25x1_l2_put c x))) (fun y => some (.inr (.inl (f25x1_l2_w0 c y)))) (fun y => some (.inr (.inr (.inl (f25x1_l2_w1 c y))))) := by kernel_rfl
theorem f25x1_l2_n {R : Type} (a0 : List ByteArray) (a1 : Int) (a2 : Int) (kin : f25x1_l2_X → Option R) (k0 : Int → Option R) (k1 : Unit → Option R) : f25x1_l2_k a0 a1 a2 kin k0 k1 = (f25x1_l2_g a0 a1 a2).bind (Sum.elim kin (Sum.elim k0 k1)) := by
  simp only [f25x1_l2_g, f25x1_l2_k, cond_bind, ite_bind, bind_bind, some_bind, none_bind, elim_bind, whenS_bind, Sum.elim_inl, Sum.elim_inr]
theorem f25x1_l2_ok : LoopOk f25x1_fx f25x1_l2_b f25x1_l2_nd := loop_ok f25x1_l2_con f25x1_l2_get f25x1_l2_put f25x1_l2_pg (fun c => f25x1_l2_g c.1 c.2) f25x1_l2_out (fun t y => rfl) (by intro R t y K; rcases y with y | y <;> rfl) (fun c x => by
  refine (f25x1_l2_r c x).trans ((f25x1_l2_n _ _ _ _ _ _).trans ?_)
  first
  | rfl
  | congr 1
    funext s
    rcases s with s | s | s <;> rfl) (fun t => rfl)
noncomputable def f25x1_k {R : Type} (a0 : List ByteArray) (a1 : (Unit)) (k : (Int × Unit) × (Unit) → Option R) : Option R :=
 ((f25x1_l2 a0 ((List.length a0 : Nat) : Int) (0 : Int)).bind fun y2 =>
 ((Sum.elim (fun z3 =>
 (k ((z3, ()), ())))
 (fun z4 =>
 (k (((-1 : Int), ()), ())))) y2))
noncomputable def f25x1 (a0 : List ByteArray) (a1 : (Unit)) : Option ((Int × Unit) × (Unit)) := f25x1_k a0 a1 some
noncomputable def f25x1_sm : Sm := { ps := [.ro (.slc .str), .fn 21 []], rs := [((.int .i64), .ro)], F := fun x => f25x1 x.1 x.2.1 }
theorem f25x1_m (x : ArgT [.ro (.slc .str), .fn 21 []]) : codeS f25x1_fx f25x1_code (start [.ro (.slc .str), .fn 21 []] [] x 19) (finK env [.tmp 4] [.ro (.slc .str), .fn 21 []] [((.int .i64), .ro)]) = f25x1_k x.1 x.2.1 (fun r => some (r, [])) := by kernel_rfl
theorem f25x1_n {R : Type} (a0 : List ByteArray) (a1 : (Unit)) (k : (Int × Unit) × (Unit) → Option R) : f25x1_k a0 a1 k = (f25x1 a0 a1).bind k := by
  simp only [f25x1, f25x1_k, cond_bind, ite_bind, bind_bind, some_bind, none_bind, elim_bind, whenS_bind]
theorem f25x1_ok : SmOk Tryd.prog 25 f25x1_sm :=
  sum_of (c := f25x1_fx) (fn := Tryd.f25) (code := f25x1_code) (sm := f25x1_sm) mixed (env_ok env_envB) (TabsOk.all ⟨f21_c, trivial⟩) Tryd.func25 (by kernel_rfl)
   ((LoopsOk.of (l := [f25x1_l2_b]) (by kernel_rfl) ⟨node_is (by kernel_rfl) f25x1_l2_ok, trivial⟩))
   (no_tails (by kernel_rfl)) rfl
   (fun ks x hl => by
    have hk : ks = [] := List.length_eq_zero_iff.1 hl
    subst hk
    exact (f25x1_m x).trans (f25x1_n _ _ _))
theorem f25x1_c : CalOk Tryd.prog 25 f25x1_sm := .inl ⟨f25x1_ok, ⟨Tryd.f25, Tryd.func25, by kernel_rfl, by kernel_rfl⟩⟩
noncomputable def f16x1_code : Code := (Tryd.f16.body).getD .skip
noncomputable def f16x1_fx : Fx := { E := env, T := [(25, f25x1_sm)], H := [], O := [], nodes := [] }
noncomputable def f16x1_k {R : Type} (a0 : List ByteArray) (a1 : (Unit)) (k : (Bool × Unit) × (Unit) → Option R) : Option R :=
 ((f25x1 a0 ()).bind fun r0 =>
 (k (((decide (r0.1.1 ≥ (0 : Int))), ()), ())))
noncomputable def f16x1 (a0 : List ByteArray) (a1 : (Unit)) : Option ((Bool × Unit) × (Unit)) := f16x1_k a0 a1 some
noncomputable def f16x1_sm : Sm := { ps := [.ro (.slc .str), .fn 21 []], rs := [(.bool, .ro)], F := fun x => f16x1 x.1 x.2.1 }
theorem f16x1_m (x : ArgT [.ro (.slc .str), .fn 21 []]) : codeS f16x1_fx f16x1_code (start [.ro (.slc .str), .fn 21 []] [] x 9) (finK env [.tmp 4] [.ro (.slc .str), .fn 21 []] [(.bool, .ro)]) = f16x1_k x.1 x.2.1 (fun r => some (r, [])) := by kernel_rfl
theorem f16x1_n {R : Type} (a0 : List ByteArray) (a1 : (Unit)) (k : (Bool × Unit) × (Unit) → Option R) : f16x1_k a0 a1 k = (f16x1 a0 a1).bind k := by
  simp only [f16x1, f16x1_k, cond_bind, ite_bind, bind_bind, some_bind, none_bind, elim_bind, whenS_bind]
theorem f16x1_ok : SmOk Tryd.prog 16 f16x1_sm :=
  sum_of (c := f16x1_fx) (fn := Tryd.f16) (code := f16x1_code) (sm := f16x1_sm) mixed (env_ok env_envB) (TabsOk.all ⟨f25x1_c, trivial⟩) Tryd.func16 (by kernel_rfl)
   ((LoopsOk.of (l := []) (by kernel_rfl) trivial))
   (no_tails (by kernel_rfl)) rfl
   (fun ks x hl => by
    have hk : ks = [] := List.length_eq_zero_iff.1 hl
    subst hk
    exact (f16x1_m x).trans (f16x1_n _ _ _))
theorem f16x1_c : CalOk Tryd.prog 16 f16x1_sm := .inl ⟨f16x1_ok, ⟨Tryd.f16, Tryd.func16, by kernel_rfl, by kernel_rfl⟩⟩
noncomputable def f8_code : Code := (Tryd.f8.body).getD .skip
noncomputable def f8_fx : Fx := { E := env, T := [(20, f20_sm), (16, f16x1_sm)], H := [], O := [], nodes := [] }
noncomputable def f8_k {R : Type} (a0 : ByteArray) (k : (Bool × Unit) × (Unit) → Option R) : Option R :=
 ((f20 a0 (⟨#[47]⟩ : ByteArray)).bind fun r0 =>
 (cond (decide (((List.length r0.1.1 : Nat) : Int) ≤ (8 : Int)))
 ((f16x1 r0.1.1 ()).bind fun r1 =>
  (k (((!r1.1.1), ()), ())))
 (k ((false, ()), ()))))
noncomputable def f8 (a0 : ByteArray) : Option ((Bool × Unit) × (Unit)) := f8_k a0 some
noncomputable def f8_sm : Sm := { ps := [.ro .str], rs := [(.bool, .ro)], F := fun x => f8 x.1 }
theorem f8_m (x : ArgT [.ro .str]) : codeS f8_fx f8_code (start [.ro .str] [] x 14) (finK env [.tmp 2] [.ro .str] [(.bool, .ro)]) = f8_k x.1 (fun r => some (r, [])) := by kernel_rfl
theorem f8_n {R : Type} (a0 : ByteArray) (k : (Bool × Unit) × (Unit) → Option R) : f8_k a0 k = (f8 a0).bind k := by
  simp only [f8, f8_k, cond_bind, ite_bind, bind_bind, some_bind, none_bind, elim_bind, whenS_bind]
theorem f8_ok : SmOk Tryd.prog 8 f8_sm :=
  sum_of (c := f8_fx) (fn := Tryd.f8) (code := f8_code) (sm := f8_sm) mixed (env_ok env_envB) (TabsOk.all ⟨f20_c, f16x1_c, trivial⟩) Tryd.func8 (by kernel_rfl)
   ((LoopsOk.of (l := []) (by kernel_rfl) trivial))
   (no_tails (by kernel_rfl)) rfl
   (fun ks x hl => by
    have hk : ks = [] := List.length_eq_zero_iff.1 hl
    subst hk
    exact (f8_m x).trans (f8_n _ _))
theorem f8_c : CalOk Tryd.prog 8 f8_sm := .inl ⟨f8_ok, ⟨Tryd.f8, Tryd.func8, by kernel_rfl, by kernel_rfl⟩⟩
noncomputable def f9_code : Code := (Tryd.f9.body).getD .skip
noncomputable def f9_l4_sk : SkS := ⟨16, [(2, .ptr 32 []), (0, .ptr 48 []), (25, .con (.int .i64)), (0, .con (.int .i64))], [(32, ⟨some 24, Qt1, .ro, none⟩), (48, ⟨some 24, Qt1, .ro, none⟩)]⟩
noncomputable def f9_l4_o0 : SkS := ⟨42, [(4, .con .bool)], []⟩
noncomputable def f9_l4_o1 : SkS := ⟨47, [], []⟩
noncomputable def f9_l4_outs : List Way := [⟨.ret, [], f9_l4_o0⟩, ⟨(.exit 0), [], f9_l4_o1⟩]
abbrev f9_l4_C := (Int × Qv0 × Qv0 × (Option Nat) × (Option Nat))
abbrev f9_l4_X := Int
abbrev f9_l4_Y := (Unit) ⊕ (Unit)
noncomputable def f9_l4_con (t : f9_l4_sk.T) : f9_l4_C := (t.1.1, t.2.1.1, t.2.2.1.1, t.2.1.2, t.2.2.1.2)
noncomputable def f9_l4_get (t : f9_l4_sk.T) : f9_l4_X := t.1.2.1
noncomputable def f9_l4_put (c : f9_l4_C) (x : f9_l4_X) : f9_l4_sk.T := ((c.1, (x, ())), ((c.2.1, c.2.2.2.1), ((c.2.2.1, c.2.2.2.2), ())))
theorem f9_l4_pg (t : f9_l4_sk.T) : f9_l4_put (f9_l4_con t) (f9_l4_get t) = t := by kernel_rfl
noncomputable def f9_l4_w0 (c : f9_l4_C) (y : Unit) : f9_l4_o0.T := ((false, ()), ())
noncomputable def f9_l4_w1 (c : f9_l4_C) (y : Unit) : f9_l4_o1.T := ((), ())
noncomputable def f9_l4_out (c : f9_l4_C) (y : f9_l4_Y) : OutV f9_l4_outs := (Sum.elim (fun y => (.inl (f9_l4_w0 c y))) (fun y => (.inr (.inl (f9_l4_w1 c y))))) y
noncomputable def f9_l4_k {R : Type} (a0 : Int) (a1 : Int) (a2 : Qv0) (a3 : Qv0) (kin : f9_l4_X → Option R) (k0 : Unit → Option R) (k1 : Unit → Option R) : Option R :=
 (cond (decide (a1 < a0))
 (if (0 : Int) ≤ a1 ∧ a1 < ((List.length a2.2.2.1 : Nat) : Int) then (if (0 : Int) ≤ a1 ∧ a1 < ((List.length a3.2.2.1 : Nat) : Int) then (cond (!strEq (b2s (List.getD a2.2.2.1 (Int.toNat a1) ([] : List Int))) (b2s (List.getD a3.2.2.1 (Int.toNat a1) ([] : List Int))))
  (k0 ())
  (let v0 : Int := (IntKind.i64.wrap (a1 + (1 : Int)))
   (kin v0))) else none) else none)
 (k1 ()))
noncomputable def f9_l4_g (a0 : Int) (a2 : Qv0) (a3 : Qv0) (x : f9_l4_X) : Option (f9_l4_X ⊕ f9_l4_Y) := f9_l4_k a0 x a2 a3 (fun x => some (.inl x)) (fun y => some (.inr (.inl y))) (fun y => some (.inr (.inr y)))
noncomputable def f9_l4 (a0 : Int) (a2 : Qv0) (a3 : Qv0) (x : f9_l4_X) : Option f9_l4_Y := loopO (f9_l4_g a0 a2 a3) x
noncomputable def f9_l4_nd : Node := { nils := [], sk := f9_l4_sk, outs := f9_l4_outs, Y := f9_l4_Y, L := fun t => f9_l4 ((f9_l4_con t).1) ((f9_l4_con t).2.1) ((f9_l4_con t).2.2.1) (f9_l4_get t), out := fun t y => f9_l4_out (f9_l4_con t) y, disp := fun t y K => (Sum.elim (fun y => K .ret (f9_l4_o0.fill (f9_l4_w0 (f9_l4_con t) y))) (fun y => K (.exit 0) (f9_l4_o1.fill (f9_l4_w1 (f9_l4_con t) y)))) y }
noncomputable def f9_fx : Fx := { E := env, T := [], H := [], O := [], nodes := [((true, 4), f9_l4_nd)] }
noncomputable def f9_l4_b : Code := (loops f9_code).getD 0 .skip
theorem f9_l4_r (c : f9_l4_C) (x : f9_l4_X) : roundS f9_fx f9_l4_b f9_l4_nd (f9_l4_put c x) = f9_l4_k c.1 x c.2.1 c.2.2.1 (fun x => some (.inl (f9_l4_put c x))) (fun y => some (.inr (.inl (f9_l4_w0 c y)))) (fun y => some (.inr (.inr (.inl (f9_l4_w1 c y))))) := by kernel_rfl
theorem f9_l4_n {R : Type} (a0 : Int) (a1 : Int) (a2 : Qv0) (a3 : Qv0) (kin : f9_l4_X → Option R) (k0 : Unit → Option R) (k1 : Unit → Option R) : f9_l4_k a0 a1 a2 a3 kin k0 k1 = (f9_l4_g a0 a2 a3 a1).bind (Sum.elim kin (Sum.elim k0 k1)) := by
  simp only [f9_l4_g, f9_l4_k, cond_bind, ite_bind, bind_bind, some_bind, none_bind, elim_bind, whenS_bind, Sum.elim_inl, Sum.elim_inr]
theorem f9_l4_ok : LoopOk f9_fx f9_l4_b f9_l4_nd := loop_ok f9_l4_con f9_l4_get f9_l4_put f9_l4_pg (fun c => f9_l4_g c.1 c.2.1 c.2.2.1) f9_l4_out (fun t y => rfl) (by intro R t y K; rcases y with y | y <;> rfl) (fun c x => by
  refine (f9_l4_r c x).trans ((f9_l4_n _ _ _ _ _ _ _).trans ?_)
  first
  | rfl
  | congr 1
    funext s
    rcases s with s | s | s <;> rfl) (fun t => rfl)
noncomputable def f9_k {R : Type} (a0 : Qv0) (a1 : Qv0) (k : (Bool × Unit) × (Unit) → Option R) : Option R :=
 (cond (a0.1 != a1.1)
 (k ((false, ()), ()))
 (cond (a0.2.1 != a1.2.1)
  (k ((false, ()), ()))
  (cond (((List.length a0.2.2.1 : Nat) : Int) != ((List.length a1.2.2.1 : Nat) : Int))
   (k ((false, ()), ()))
   ((f9_l4 ((List.length a0.2.2.1 : Nat) : Int) a0 a1 (0 : Int)).bind fun y1 =>
    ((Sum.elim (fun z2 =>
    (k ((false, ()), ())))
    (fun z3 =>
    (k ((true, ()), ())))) y1)))))
noncomputable def f9 (a0 : Qv0) (a1 : Qv0) : Option ((Bool × Unit) × (Unit)) := f9_k a0 a1 some
noncomputable def f9_sm : Sm := { ps := [.ro Qt1, .ro Qt1], rs := [(.bool, .ro)], F := fun x => f9 x.1 x.2.1 }
theorem f9_m (x : ArgT [.ro Qt1, .ro Qt1]) : codeS f9_fx f9_code (start [.ro Qt1, .ro Qt1] [] x 47) (finK env [.tmp 4] [.ro Qt1, .ro Qt1] [(.bool, .ro)]) = f9_k x.1 x.2.1 (fun r => some (r, [])) := by kernel_rfl
theorem f9_n {R : Type} (a0 : Qv0) (a1 : Qv0) (k : (Bool × Unit) × (Unit) → Option R) : f9_k a0 a1 k = (f9 a0 a1).bind k := by
  simp only [f9, f9_k, cond_bind, ite_bind, bind_bind, some_bind, none_bind, elim_bind, whenS_bind]
theorem f9_ok : SmOk Tryd.prog 9 f9_sm :=
  sum_of (c := f9_fx) (fn := Tryd.f9) (code := f9_code) (sm := f9_sm) mixed (env_ok env_envB) (TabsOk.all trivial) Tryd.func9 (by kernel_rfl)
   ((LoopsOk.of (l := [f9_l4_b]) (by kernel_rfl) ⟨node_is (by kernel_rfl) f9_l4_ok, trivial⟩))
   (no_tails (by kernel_rfl)) rfl
   (fun ks x hl => by
    have hk : ks = [] := List.length_eq_zero_iff.1 hl
    subst hk
    exact (f9_m x).trans (f9_n _ _ _))
theorem f9_c : CalOk Tryd.prog 9 f9_sm := .inl ⟨f9_ok, ⟨Tryd.f9, Tryd.func9, by kernel_rfl, by kernel_rfl⟩⟩
noncomputable def f3_code : Code := (Tryd.f3.body).getD .skip
noncomputable def f3_fx : Fx := { E := env, T := [(4, f4_sm), (5, f5_sm), (6, f6_sm), (7, f7_sm), (8, f8_sm), (9, f9_sm)], H := [], O := [], nodes := [] }
noncomputable def f3_k {R : Type} (a0 : ByteArray) (a1 : Int) (a2 : Int) (k : (Bool × Unit) × (Unit) → Option R) : Option R :=
 ((f4 a1 a2).bind fun r0 =>
 ((f5 a1 a2).bind fun r1 =>
 ((f6).bind fun r2 =>
 (cond r2.1.1
 ((f7 a0).bind fun r3 =>
  ((f8 a0).bind fun r4 =>
  (cond (r3.1.1 == r4.1.1)
  (cond (r0.1.2.1 == r1.1.2.1)
   ((f9 r0.1.1 r1.1.1).bind fun r5 =>
    (k ((r5.1.1, ()), ())))
   (k ((false, ()), ())))
  (k ((false, ()), ())))))
 (k ((false, ()), ()))))))
noncomputable def f3 (a0 : ByteArray) (a1 : Int) (a2 : Int) : Option ((Bool × Unit) × (Unit)) := f3_k a0 a1 a2 some
noncomputable def f3_sm : Sm := { ps := [.ro .str, .ro (.int .i64), .ro (.int .i64)], rs := [(.bool, .ro)], F := fun x => f3 x.1 x.2.1 x.2.2.1 }
theorem f3_m (x : ArgT [.ro .str, .ro (.int .i64), .ro (.int .i64)]) : codeS f3_fx f3_code (start [.ro .str, .ro (.int .i64), .ro (.int .i64)] [] x 41) (finK env [.tmp 6] [.ro .str, .ro (.int .i64), .ro (.int .i64)] [(.bool, .ro)]) = f3_k x.1 x.2.1 x.2.2.1 (fun r => some (r, [])) := by kernel_rfl
theorem f3_n {R : Type} (a0 : ByteArray) (a1 : Int) (a2 : Int) (k : (Bool × Unit) × (Unit) → Option R) : f3_k a0 a1 a2 k = (f3 a0 a1 a2).bind k := by
  simp only [f3, f3_k, cond_bind, ite_bind, bind_bind, some_bind, none_bind, elim_bind, whenS_bind]
theorem f3_ok : SmOk Tryd.prog 3 f3_sm :=
  sum_of (c := f3_fx) (fn := Tryd.f3) (code := f3_code) (sm := f3_sm) mixed (env_ok env_envB) (TabsOk.all ⟨f4_c, f5_c, f6_c, f7_c, f8_c, f9_c, trivial⟩) Tryd.func3 (by kernel_rfl)
   ((LoopsOk.of (l := []) (by kernel_rfl) trivial))
   (no_tails (by kernel_rfl)) rfl
   (fun ks x hl => by
    have hk : ks = [] := List.length_eq_zero_iff.1 hl
    subst hk
    exact (f3_m x).trans (f3_n _ _ _ _))
end Go.Proofs.YtgdaiifhedpffaaDoor.V
