/- Printed. -/
import Derived.Test.YtlgbhaigpecdoaaVFnChain
set_option linter.unusedVariables false
set_option linter.unusedSimpArgs false
set_option maxRecDepth 100000
namespace Go.Proofs.Ytlgbhaigpecdoaa.V
open Go
/-! bakelite/chain.read -/
noncomputable def f126_code : Code := (Try.f126.body).getD .skip
noncomputable def f126_l4_sk : SkS := ⟨23, [(1, .con (.slc (.int .u8))), (0, .ptr 32 []), (4, .ref 127 []), (12, .ref 272 []), (0, .con (.int .i64)), (0, .con (.int .i64))], [(32, ⟨some 24, (.pair (.int .i64) (.pair (.int .i64) (.pair (.slc (.slc (.int .u8))) .unit))), .ro, none⟩), (127, ⟨none, (.slc (.int .u8)), (.own .ro), none⟩), (272, ⟨none, (.slc (.int .i64)), (.own .ro), none⟩)]⟩
noncomputable def f126_l4_o0 : SkS := ⟨38, [(1, .con (.slc (.int .u8))), (5, .ref 127 [])], [(127, ⟨none, (.slc (.int .u8)), (.own .ro), none⟩)]⟩
noncomputable def f126_l4_outs : List Way := [⟨(.exit 0), [], f126_l4_o0⟩]
abbrev f126_l4_C := (List Int × Int × (Int × (Int × (List (List Int) × Unit))) × List Int × (Option Nat))
abbrev f126_l4_X := (Int × List Int)
abbrev f126_l4_Y := (List Int)
noncomputable def f126_l4_con (t : f126_l4_sk.T) : f126_l4_C := (t.1.1, t.1.2.1, t.2.1.1, t.2.2.2.1.1, t.2.1.2)
noncomputable def f126_l4_get (t : f126_l4_sk.T) : f126_l4_X := (t.1.2.2.1, t.2.2.1.1)
noncomputable def f126_l4_put (c : f126_l4_C) (x : f126_l4_X) : f126_l4_sk.T := ((c.1, (c.2.1, (x.1, ()))), ((c.2.2.1, c.2.2.2.2), ((x.2, ()), ((c.2.2.2.1, ()), ()))))
theorem f126_l4_pg (t : f126_l4_sk.T) : f126_l4_put (f126_l4_con t) (f126_l4_get t) = t := by kernel_rfl
noncomputable def f126_l4_w0 (c : f126_l4_C) (y : List Int) : f126_l4_o0.T := ((c.1, ()), ((y, ()), ()))
noncomputable def f126_l4_out (c : f126_l4_C) (y : f126_l4_Y) : OutV f126_l4_outs := (fun y => (.inl (f126_l4_w0 c y))) y
noncomputable def f126_l4_k {R : Type} (a0 : List Int) (a1 : Int) (a2 : Int) (a3 : (Int × (Int × (List (List Int) × Unit)))) (a4 : List Int) (a5 : List Int) (kin : f126_l4_X → Option R) (k0 : List Int → Option R) : Option R :=
 (cond (decide (a2 < a1))
 (if (0 : Int) ≤ a2 ∧ a2 < ((List.length a5 : Nat) : Int) then (if (0 : Int) ≤ (List.getD a5 (Int.toNat a2) (0 : Int)) ∧ (List.getD a5 (Int.toNat a2) (0 : Int)) < ((List.length a3.2.2.1 : Nat) : Int) then (if (List.length a4 + List.length (List.getD a3.2.2.1 (Int.toNat (List.getD a5 (Int.toNat a2) (0 : Int))) ([] : List Int))) * 1 ≤ most ∧ 0 < 1 ∧ 0 < 1 then (let r1 : List Int := (a4 ++ (List.getD a3.2.2.1 (Int.toNat (List.getD a5 (Int.toNat a2) (0 : Int))) ([] : List Int)))
  (let v2 : Int := (IntKind.i64.wrap (a2 + (1 : Int)))
  (kin (v2, r1)))) else none) else none) else none)
 (k0 a4))
noncomputable def f126_l4_g (a0 : List Int) (a1 : Int) (a3 : (Int × (Int × (List (List Int) × Unit)))) (a5 : List Int) (x : f126_l4_X) : Option (f126_l4_X ⊕ f126_l4_Y) := f126_l4_k a0 a1 x.1 a3 x.2 a5 (fun x => some (.inl x)) (fun y => some (.inr y))
noncomputable def f126_l4 (a0 : List Int) (a1 : Int) (a3 : (Int × (Int × (List (List Int) × Unit)))) (a5 : List Int) (x : f126_l4_X) : Option f126_l4_Y := loopO (f126_l4_g a0 a1 a3 a5) x
noncomputable def f126_l4_nd : Node := { nils := [(7, 127, (.int .u8), .ro)], sk := f126_l4_sk, outs := f126_l4_outs, Y := f126_l4_Y, L := fun t => f126_l4 ((f126_l4_con t).1) ((f126_l4_con t).2.1) ((f126_l4_con t).2.2.1) ((f126_l4_con t).2.2.2.1) (f126_l4_get t), out := fun t y => f126_l4_out (f126_l4_con t) y, disp := fun t y K => (fun y => K (.exit 0) (f126_l4_o0.fill (f126_l4_w0 (f126_l4_con t) y))) y }
noncomputable def f126_fx : Fx := { E := env, T := [(120, f120_sm)], H := [], O := [], nodes := [((true, 4), f126_l4_nd)] }
noncomputable def f126_l4_b : Code := (loops f126_code).getD 0 .skip
theorem f126_l4_r (c : f126_l4_C) (x : f126_l4_X) : roundS f126_fx f126_l4_b f126_l4_nd (f126_l4_put c x) = f126_l4_k c.1 c.2.1 x.1 c.2.2.1 x.2 c.2.2.2.1 (fun x => some (.inl (f126_l4_put c x))) (fun y => some (.inr (.inl (f126_l4_w0 c y)))) := by kernel_rfl
theorem f126_l4_n {R : Type} (a0 : List Int) (a1 : Int) (a2 : Int) (a3 : (Int × (Int × (List (List Int) × Unit)))) (a4 : List Int) (a5 : List Int) (kin : f126_l4_X → Option R) (k0 : List Int → Option R) : f126_l4_k a0 a1 a2 a3 a4 a5 kin k0 = (f126_l4_g a0 a1 a3 a5 (a2, a4)).bind (Sum.elim kin k0) := by
  simp only [f126_l4_g, f126_l4_k, cond_bind, ite_bind, bind_bind, some_bind, none_bind, elim_bind, Sum.elim_inl, Sum.elim_inr]
theorem f126_l4_ok : LoopOk f126_fx f126_l4_b f126_l4_nd := loop_ok f126_l4_con f126_l4_get f126_l4_put f126_l4_pg (fun c => f126_l4_g c.1 c.2.1 c.2.2.1 c.2.2.2.1) f126_l4_out (fun t y => rfl) (fun t y K => rfl) (fun c x => by
  refine (f126_l4_r c x).trans ((f126_l4_n _ _ _ _ _ _ _ _).trans ?_)
  first
  | rfl
  | congr 1
    funext s
    rcases s with s | s <;> rfl) (fun t => rfl)
noncomputable def f126_k {R : Type} (a0 : (Int × (Int × (List (List Int) × Unit)))) (a1 : List Int) (k : (List Int × Unit) × (Unit) → Option R) : Option R :=
 (if (0 : Int) ≤ ((List.length a0.2.2.1 : Nat) : Int) ∧ ((List.length a0.2.2.1 : Nat) : Int) ≤ ((List.length a0.2.2.1 : Nat) : Int) ∧ ((List.length a0.2.2.1 : Nat) : Int) * 1 ≤ (most : Int) ∧ 0 < 1 ∧ 0 < 1 then ((f120 a0 a1 (List.replicate (Int.toNat ((List.length a0.2.2.1 : Nat) : Int)) false)).bind fun r0 =>
 ((f126_l4 a1 ((List.length r0.1.1 : Nat) : Int) a0 r0.1.1 ((0 : Int), [])).bind fun y3 =>
 (if (0 : Int) ≤ (21 : Int) ∧ (21 : Int) < ((List.length a1 : Nat) : Int) then (let v4 : Int := (IntKind.i64.wrap (List.getD a1 21 (0 : Int)))
 (let v5 : Int := (IntKind.i64.wrap (v4 * 2 ^ (min 8 64)))
 (if (0 : Int) ≤ (22 : Int) ∧ (22 : Int) < ((List.length a1 : Nat) : Int) then (let v6 : Int := (IntKind.i64.wrap (List.getD a1 22 (0 : Int)))
 (let v7 : Int := (IntKind.i64.wrap (v5 + v6))
 (if (0 : Int) ≤ (0 : Int) ∧ (0 : Int) ≤ v7 ∧ v7 ≤ ((List.length y3 : Nat) : Int) then (k (((List.take ((Int.toNat v7) - 0) (List.drop 0 y3)), ()), ())) else none))) else none))) else none))) else none)
noncomputable def f126 (a0 : (Int × (Int × (List (List Int) × Unit)))) (a1 : List Int) : Option ((List Int × Unit) × (Unit)) := f126_k a0 a1 some
noncomputable def f126_sm : Sm := ⟨[.ro (.pair (.int .i64) (.pair (.int .i64) (.pair (.slc (.slc (.int .u8))) .unit))), .ro (.slc (.int .u8))], [((.slc (.int .u8)), (.own .ro))], fun x => f126 x.1 x.2.1⟩
theorem f126_m (x : ArgT [.ro (.pair (.int .i64) (.pair (.int .i64) (.pair (.slc (.slc (.int .u8))) .unit))), .ro (.slc (.int .u8))]) : codeS f126_fx f126_code (start [.ro (.pair (.int .i64) (.pair (.int .i64) (.pair (.slc (.slc (.int .u8))) .unit))), .ro (.slc (.int .u8))] [] x 46) (finK env [.tmp 4] [.ro (.pair (.int .i64) (.pair (.int .i64) (.pair (.slc (.slc (.int .u8))) .unit))), .ro (.slc (.int .u8))] [((.slc (.int .u8)), (.own .ro))]) = f126_k x.1 x.2.1 (fun r => some (r, [])) := by kernel_rfl
theorem f126_n {R : Type} (a0 : (Int × (Int × (List (List Int) × Unit)))) (a1 : List Int) (k : (List Int × Unit) × (Unit) → Option R) : f126_k a0 a1 k = (f126 a0 a1).bind k := by
  simp only [f126, f126_k, cond_bind, ite_bind, bind_bind, some_bind, none_bind, elim_bind]
theorem f126_ok : SmOk Try.prog 126 f126_sm :=
  sum_of (c := f126_fx) (fn := Try.f126) (code := f126_code) (sm := f126_sm) mixed (env_ok env_envB) (TabsOk.all ⟨f120_c, trivial⟩) Try.func126 (by kernel_rfl)
   ((LoopsOk.of (l := [f126_l4_b]) (by kernel_rfl) ⟨node_is (by kernel_rfl) f126_l4_ok, trivial⟩))
   (no_tails (by kernel_rfl))
   (fun ks x hl => by
    have hk : ks = [] := List.length_eq_zero_iff.1 hl
    subst hk
    exact (f126_m x).trans (f126_n _ _ _))
theorem f126_c : CalOk Try.prog 126 f126_sm := .inl ⟨f126_ok, ⟨Try.f126, Try.func126, by kernel_rfl, by kernel_rfl⟩⟩
/-! bakelite/chain.List -/
noncomputable def f66_code : Code := (Try.f66.body).getD .skip
noncomputable def f66_l6_sk : SkS := ⟨20, [(1, .ptr 16 []), (3, .ref 95 []), (7, .con (.int .i64))], [(16, ⟨some 24, (.pair (.int .i64) (.pair (.int .i64) (.pair (.slc (.slc (.int .u8))) .unit))), .ro, none⟩), (95, ⟨none, (.slc (.pair .str (.pair (.slc (.int .u8)) .unit))), (.own .ro), none⟩)]⟩
noncomputable def f66_l6_o0 : SkS := ⟨28, [(5, .ref 95 [])], [(95, ⟨none, (.slc (.pair .str (.pair (.slc (.int .u8)) .unit))), (.own .ro), none⟩)]⟩
noncomputable def f66_l6_outs : List Way := [⟨(.exit 0), [], f66_l6_o0⟩]
abbrev f66_l6_C := ((Int × (Int × (List (List Int) × Unit))) × (Option Nat))
abbrev f66_l6_X := (Int × List (ByteArray × (List Int × Unit)))
abbrev f66_l6_Y := (List (ByteArray × (List Int × Unit)))
noncomputable def f66_l6_con (t : f66_l6_sk.T) : f66_l6_C := (t.2.1.1, t.2.1.2)
noncomputable def f66_l6_get (t : f66_l6_sk.T) : f66_l6_X := (t.1.1, t.2.2.1.1)
noncomputable def f66_l6_put (c : f66_l6_C) (x : f66_l6_X) : f66_l6_sk.T := ((x.1, ()), ((c.1, c.2), ((x.2, ()), ())))
theorem f66_l6_pg (t : f66_l6_sk.T) : f66_l6_put (f66_l6_con t) (f66_l6_get t) = t := by kernel_rfl
noncomputable def f66_l6_w0 (c : f66_l6_C) (y : List (ByteArray × (List Int × Unit))) : f66_l6_o0.T := ((), ((y, ()), ()))
noncomputable def f66_l6_out (c : f66_l6_C) (y : f66_l6_Y) : OutV f66_l6_outs := (fun y => (.inl (f66_l6_w0 c y))) y
noncomputable def f66_l6_k {R : Type} (a0 : Int) (a1 : (Int × (Int × (List (List Int) × Unit)))) (a2 : List (ByteArray × (List Int × Unit))) (kin : f66_l6_X → Option R) (k0 : List (ByteArray × (List Int × Unit)) → Option R) : Option R :=
 (cond (decide (a0 < (32 : Int)))
 ((f119 a1 a0).bind fun r1 =>
  (if (0 : Int) ≤ (0 : Int) ∧ (0 : Int) < ((List.length r1.1.1 : Nat) : Int) then (cond ((List.getD r1.1.1 0 (0 : Int)) != (0 : Int))
  ((f125 r1.1.1).bind fun r2 =>
   ((f126 a1 r1.1.1).bind fun r3 =>
   (if (List.length a2 + 1) * 40 ≤ most ∧ 0 < 40 ∧ 0 < 2 then (let r4 : List (ByteArray × (List Int × Unit)) := (a2 ++ [(r2.1.1, (r3.1.1, ()))])
   (let v5 : Int := (IntKind.i64.wrap (a0 + (1 : Int)))
   (kin (v5, r4)))) else none)))
  (let v6 : Int := (IntKind.i64.wrap (a0 + (1 : Int)))
   (kin (v6, a2)))) else none))
 (k0 a2))
noncomputable def f66_l6_g (a1 : (Int × (Int × (List (List Int) × Unit)))) (x : f66_l6_X) : Option (f66_l6_X ⊕ f66_l6_Y) := f66_l6_k x.1 a1 x.2 (fun x => some (.inl x)) (fun y => some (.inr y))
noncomputable def f66_l6 (a1 : (Int × (Int × (List (List Int) × Unit)))) (x : f66_l6_X) : Option f66_l6_Y := loopO (f66_l6_g a1) x
noncomputable def f66_l6_nd : Node := { nils := [(5, 95, (.pair .str (.pair (.slc (.int .u8)) .unit)), .ro)], sk := f66_l6_sk, outs := f66_l6_outs, Y := f66_l6_Y, L := fun t => f66_l6 ((f66_l6_con t).1) (f66_l6_get t), out := fun t y => f66_l6_out (f66_l6_con t) y, disp := fun t y K => (fun y => K (.exit 0) (f66_l6_o0.fill (f66_l6_w0 (f66_l6_con t) y))) y }
noncomputable def f66_fx : Fx := { E := env, T := [(62, f62_sm), (119, f119_sm), (125, f125_sm), (126, f126_sm)], H := [], O := [], nodes := [((true, 6), f66_l6_nd)] }
noncomputable def f66_l6_b : Code := (loops f66_code).getD 0 .skip
theorem f66_l6_r (c : f66_l6_C) (x : f66_l6_X) : roundS f66_fx f66_l6_b f66_l6_nd (f66_l6_put c x) = f66_l6_k x.1 c.1 x.2 (fun x => some (.inl (f66_l6_put c x))) (fun y => some (.inr (.inl (f66_l6_w0 c y)))) := by kernel_rfl
theorem f66_l6_n {R : Type} (a0 : Int) (a1 : (Int × (Int × (List (List Int) × Unit)))) (a2 : List (ByteArray × (List Int × Unit))) (kin : f66_l6_X → Option R) (k0 : List (ByteArray × (List Int × Unit)) → Option R) : f66_l6_k a0 a1 a2 kin k0 = (f66_l6_g a1 (a0, a2)).bind (Sum.elim kin k0) := by
  simp only [f66_l6_g, f66_l6_k, cond_bind, ite_bind, bind_bind, some_bind, none_bind, elim_bind, Sum.elim_inl, Sum.elim_inr]
theorem f66_l6_ok : LoopOk f66_fx f66_l6_b f66_l6_nd := loop_ok f66_l6_con f66_l6_get f66_l6_put f66_l6_pg (fun c => f66_l6_g c.1) f66_l6_out (fun t y => rfl) (fun t y K => rfl) (fun c x => by
  refine (f66_l6_r c x).trans ((f66_l6_n _ _ _ _ _).trans ?_)
  first
  | rfl
  | congr 1
    funext s
    rcases s with s | s <;> rfl) (fun t => rfl)
noncomputable def f66_k {R : Type} (a0 : (Int × (Int × (List (List Int) × Unit)))) (k : (List (ByteArray × (List Int × Unit)) × Int × Unit) × (Unit) → Option R) : Option R :=
 ((f62 a0).bind fun r0 =>
 (cond (r0.1.1 != (0 : Int))
 (k (([], (r0.1.1, ())), ()))
 ((f66_l6 a0 ((0 : Int), [])).bind fun y7 =>
  (k ((y7, ((0 : Int), ())), ())))))
noncomputable def f66 (a0 : (Int × (Int × (List (List Int) × Unit)))) : Option ((List (ByteArray × (List Int × Unit)) × Int × Unit) × (Unit)) := f66_k a0 some
noncomputable def f66_sm : Sm := ⟨[.ro (.pair (.int .i64) (.pair (.int .i64) (.pair (.slc (.slc (.int .u8))) .unit)))], [((.slc (.pair .str (.pair (.slc (.int .u8)) .unit))), (.own .ro)), ((.int .i64), .ro)], fun x => f66 x.1⟩
theorem f66_m (x : ArgT [.ro (.pair (.int .i64) (.pair (.int .i64) (.pair (.slc (.slc (.int .u8))) .unit)))]) : codeS f66_fx f66_code (start [.ro (.pair (.int .i64) (.pair (.int .i64) (.pair (.slc (.slc (.int .u8))) .unit)))] [] x 34) (finK env [.tmp 2, .tmp 3] [.ro (.pair (.int .i64) (.pair (.int .i64) (.pair (.slc (.slc (.int .u8))) .unit)))] [((.slc (.pair .str (.pair (.slc (.int .u8)) .unit))), (.own .ro)), ((.int .i64), .ro)]) = f66_k x.1 (fun r => some (r, [])) := by kernel_rfl
theorem f66_n {R : Type} (a0 : (Int × (Int × (List (List Int) × Unit)))) (k : (List (ByteArray × (List Int × Unit)) × Int × Unit) × (Unit) → Option R) : f66_k a0 k = (f66 a0).bind k := by
  simp only [f66, f66_k, cond_bind, ite_bind, bind_bind, some_bind, none_bind, elim_bind]
theorem f66_ok : SmOk Try.prog 66 f66_sm :=
  sum_of (c := f66_fx) (fn := Try.f66) (code := f66_code) (sm := f66_sm) mixed (env_ok env_envB) (TabsOk.all ⟨f62_c, f119_c, f125_c, f126_c, trivial⟩) Try.func66 (by kernel_rfl)
   ((LoopsOk.of (l := [f66_l6_b]) (by kernel_rfl) ⟨node_is (by kernel_rfl) f66_l6_ok, trivial⟩))
   (no_tails (by kernel_rfl))
   (fun ks x hl => by
    have hk : ks = [] := List.length_eq_zero_iff.1 hl
    subst hk
    exact (f66_m x).trans (f66_n _ _))
theorem f66_c : CalOk Try.prog 66 f66_sm := .inl ⟨f66_ok, ⟨Try.f66, Try.func66, by kernel_rfl, by kernel_rfl⟩⟩
/-! bakelite/bakeref2.gathered -/
noncomputable def f127_code : Code := (Try.f127.body).getD .skip
noncomputable def f127_l3_sk : SkS := ⟨17, [(2, .con (.int .i64)), (0, .ptr 48 []), (3, .ref 127 []), (2, .con (.slc (.int .i64))), (0, .con (.int .i64)), (0, .con (.int .i64))], [(48, ⟨some 24, (.pair (.int .i64) (.pair (.int .i64) (.pair (.slc (.slc (.int .u8))) .unit))), .ro, none⟩), (127, ⟨none, (.slc (.int .u8)), (.own .ro), none⟩)]⟩
noncomputable def f127_l3_o0 : SkS := ⟨22, [(2, .con (.int .i64)), (4, .ref 127 [])], [(127, ⟨none, (.slc (.int .u8)), (.own .ro), none⟩)]⟩
noncomputable def f127_l3_outs : List Way := [⟨(.exit 0), [], f127_l3_o0⟩]
abbrev f127_l3_C := (Int × List Int × Int × (Int × (Int × (List (List Int) × Unit))) × (Option Nat))
abbrev f127_l3_X := (Int × List Int)
abbrev f127_l3_Y := (List Int)
noncomputable def f127_l3_con (t : f127_l3_sk.T) : f127_l3_C := (t.1.1, t.1.2.1, t.1.2.2.1, t.2.1.1, t.2.1.2)
noncomputable def f127_l3_get (t : f127_l3_sk.T) : f127_l3_X := (t.1.2.2.2.1, t.2.2.1.1)
noncomputable def f127_l3_put (c : f127_l3_C) (x : f127_l3_X) : f127_l3_sk.T := ((c.1, (c.2.1, (c.2.2.1, (x.1, ())))), ((c.2.2.2.1, c.2.2.2.2), ((x.2, ()), ())))
theorem f127_l3_pg (t : f127_l3_sk.T) : f127_l3_put (f127_l3_con t) (f127_l3_get t) = t := by kernel_rfl
noncomputable def f127_l3_w0 (c : f127_l3_C) (y : List Int) : f127_l3_o0.T := ((c.1, ()), ((y, ()), ()))
noncomputable def f127_l3_out (c : f127_l3_C) (y : f127_l3_Y) : OutV f127_l3_outs := (fun y => (.inl (f127_l3_w0 c y))) y
noncomputable def f127_l3_k {R : Type} (a0 : Int) (a1 : List Int) (a2 : Int) (a3 : Int) (a4 : (Int × (Int × (List (List Int) × Unit)))) (a5 : List Int) (kin : f127_l3_X → Option R) (k0 : List Int → Option R) : Option R :=
 (cond (decide (a3 < a2))
 (if (0 : Int) ≤ a3 ∧ a3 < ((List.length a1 : Nat) : Int) then (if (0 : Int) ≤ (List.getD a1 (Int.toNat a3) (0 : Int)) ∧ (List.getD a1 (Int.toNat a3) (0 : Int)) < ((List.length a4.2.2.1 : Nat) : Int) then (if (List.length a5 + List.length (List.getD a4.2.2.1 (Int.toNat (List.getD a1 (Int.toNat a3) (0 : Int))) ([] : List Int))) * 1 ≤ most ∧ 0 < 1 ∧ 0 < 1 then (let r0 : List Int := (a5 ++ (List.getD a4.2.2.1 (Int.toNat (List.getD a1 (Int.toNat a3) (0 : Int))) ([] : List Int)))
  (let v1 : Int := (IntKind.i64.wrap (a3 + (1 : Int)))
  (kin (v1, r0)))) else none) else none) else none)
 (k0 a5))
noncomputable def f127_l3_g (a0 : Int) (a1 : List Int) (a2 : Int) (a4 : (Int × (Int × (List (List Int) × Unit)))) (x : f127_l3_X) : Option (f127_l3_X ⊕ f127_l3_Y) := f127_l3_k a0 a1 a2 x.1 a4 x.2 (fun x => some (.inl x)) (fun y => some (.inr y))
noncomputable def f127_l3 (a0 : Int) (a1 : List Int) (a2 : Int) (a4 : (Int × (Int × (List (List Int) × Unit)))) (x : f127_l3_X) : Option f127_l3_Y := loopO (f127_l3_g a0 a1 a2 a4) x
noncomputable def f127_l3_nd : Node := { nils := [(7, 127, (.int .u8), .ro)], sk := f127_l3_sk, outs := f127_l3_outs, Y := f127_l3_Y, L := fun t => f127_l3 ((f127_l3_con t).1) ((f127_l3_con t).2.1) ((f127_l3_con t).2.2.1) ((f127_l3_con t).2.2.2.1) (f127_l3_get t), out := fun t y => f127_l3_out (f127_l3_con t) y, disp := fun t y K => (fun y => K (.exit 0) (f127_l3_o0.fill (f127_l3_w0 (f127_l3_con t) y))) y }
noncomputable def f127_fx : Fx := { E := env, T := [], H := [], O := [], nodes := [((true, 3), f127_l3_nd)] }
noncomputable def f127_l3_b : Code := (loops f127_code).getD 0 .skip
theorem f127_l3_r (c : f127_l3_C) (x : f127_l3_X) : roundS f127_fx f127_l3_b f127_l3_nd (f127_l3_put c x) = f127_l3_k c.1 c.2.1 c.2.2.1 x.1 c.2.2.2.1 x.2 (fun x => some (.inl (f127_l3_put c x))) (fun y => some (.inr (.inl (f127_l3_w0 c y)))) := by kernel_rfl
theorem f127_l3_n {R : Type} (a0 : Int) (a1 : List Int) (a2 : Int) (a3 : Int) (a4 : (Int × (Int × (List (List Int) × Unit)))) (a5 : List Int) (kin : f127_l3_X → Option R) (k0 : List Int → Option R) : f127_l3_k a0 a1 a2 a3 a4 a5 kin k0 = (f127_l3_g a0 a1 a2 a4 (a3, a5)).bind (Sum.elim kin k0) := by
  simp only [f127_l3_g, f127_l3_k, cond_bind, ite_bind, bind_bind, some_bind, none_bind, elim_bind, Sum.elim_inl, Sum.elim_inr]
theorem f127_l3_ok : LoopOk f127_fx f127_l3_b f127_l3_nd := loop_ok f127_l3_con f127_l3_get f127_l3_put f127_l3_pg (fun c => f127_l3_g c.1 c.2.1 c.2.2.1 c.2.2.2.1) f127_l3_out (fun t y => rfl) (fun t y K => rfl) (fun c x => by
  refine (f127_l3_r c x).trans ((f127_l3_n _ _ _ _ _ _ _ _).trans ?_)
  first
  | rfl
  | congr 1
    funext s
    rcases s with s | s <;> rfl) (fun t => rfl)
noncomputable def f127_k {R : Type} (a0 : (Int × (Int × (List (List Int) × Unit)))) (a1 : List Int) (a2 : Int) (k : (List Int × Unit) × (Unit) → Option R) : Option R :=
 ((f127_l3 a2 a1 ((List.length a1 : Nat) : Int) a0 ((0 : Int), [])).bind fun y2 =>
 (let v3 : Int := (if ((List.length y2 : Nat) : Int) < a2 then ((List.length y2 : Nat) : Int) else a2)
 (if (0 : Int) ≤ (0 : Int) ∧ (0 : Int) ≤ v3 ∧ v3 ≤ ((List.length y2 : Nat) : Int) then (k (((List.take ((Int.toNat v3) - 0) (List.drop 0 y2)), ()), ())) else none)))
noncomputable def f127 (a0 : (Int × (Int × (List (List Int) × Unit)))) (a1 : List Int) (a2 : Int) : Option ((List Int × Unit) × (Unit)) := f127_k a0 a1 a2 some
noncomputable def f127_sm : Sm := ⟨[.ro (.pair (.int .i64) (.pair (.int .i64) (.pair (.slc (.slc (.int .u8))) .unit))), .ro (.slc (.int .i64)), .ro (.int .i64)], [((.slc (.int .u8)), (.own .ro))], fun x => f127 x.1 x.2.1 x.2.2.1⟩
theorem f127_m (x : ArgT [.ro (.pair (.int .i64) (.pair (.int .i64) (.pair (.slc (.slc (.int .u8))) .unit))), .ro (.slc (.int .i64)), .ro (.int .i64)]) : codeS f127_fx f127_code (start [.ro (.pair (.int .i64) (.pair (.int .i64) (.pair (.slc (.slc (.int .u8))) .unit))), .ro (.slc (.int .i64)), .ro (.int .i64)] [] x 30) (finK env [.tmp 6] [.ro (.pair (.int .i64) (.pair (.int .i64) (.pair (.slc (.slc (.int .u8))) .unit))), .ro (.slc (.int .i64)), .ro (.int .i64)] [((.slc (.int .u8)), (.own .ro))]) = f127_k x.1 x.2.1 x.2.2.1 (fun r => some (r, [])) := by kernel_rfl
theorem f127_n {R : Type} (a0 : (Int × (Int × (List (List Int) × Unit)))) (a1 : List Int) (a2 : Int) (k : (List Int × Unit) × (Unit) → Option R) : f127_k a0 a1 a2 k = (f127 a0 a1 a2).bind k := by
  simp only [f127, f127_k, cond_bind, ite_bind, bind_bind, some_bind, none_bind, elim_bind]
theorem f127_ok : SmOk Try.prog 127 f127_sm :=
  sum_of (c := f127_fx) (fn := Try.f127) (code := f127_code) (sm := f127_sm) mixed (env_ok env_envB) (TabsOk.all trivial) Try.func127 (by kernel_rfl)
   ((LoopsOk.of (l := [f127_l3_b]) (by kernel_rfl) ⟨node_is (by kernel_rfl) f127_l3_ok, trivial⟩))
   (no_tails (by kernel_rfl))
   (fun ks x hl => by
    have hk : ks = [] := List.length_eq_zero_iff.1 hl
    subst hk
    exact (f127_m x).trans (f127_n _ _ _ _))
theorem f127_c : CalOk Try.prog 127 f127_sm := .inl ⟨f127_ok, ⟨Try.f127, Try.func127, by kernel_rfl, by kernel_rfl⟩⟩
/-! bakelite/bakeref2.ChainFiles -/
noncomputable def f67_code : Code := (Try.f67.body).getD .skip
noncomputable def f67_l6_sk : SkS := ⟨17, [(1, .ptr 16 []), (5, .ref 127 []), (11, .con (.slc (.pair (.int .i64) (.pair .str (.pair (.int .i64) (.pair (.slc (.int .i64)) .unit)))))), (0, .con (.int .i64)), (0, .con (.int .i64))], [(16, ⟨some 24, (.pair (.int .i64) (.pair (.int .i64) (.pair (.slc (.slc (.int .u8))) .unit))), .ro, none⟩), (127, ⟨none, (.slc (.pair .str (.pair (.slc (.int .u8)) .unit))), (.own .ro), none⟩)]⟩
noncomputable def f67_l6_o0 : SkS := ⟨31, [(7, .ref 127 [])], [(127, ⟨none, (.slc (.pair .str (.pair (.slc (.int .u8)) .unit))), (.own .ro), none⟩)]⟩
noncomputable def f67_l6_outs : List Way := [⟨(.exit 0), [], f67_l6_o0⟩]
abbrev f67_l6_C := (List (Int × (ByteArray × (Int × (List Int × Unit)))) × Int × (Int × (Int × (List (List Int) × Unit))) × (Option Nat))
abbrev f67_l6_X := (Int × List (ByteArray × (List Int × Unit)))
abbrev f67_l6_Y := (List (ByteArray × (List Int × Unit)))
noncomputable def f67_l6_con (t : f67_l6_sk.T) : f67_l6_C := (t.1.1, t.1.2.1, t.2.1.1, t.2.1.2)
noncomputable def f67_l6_get (t : f67_l6_sk.T) : f67_l6_X := (t.1.2.2.1, t.2.2.1.1)
noncomputable def f67_l6_put (c : f67_l6_C) (x : f67_l6_X) : f67_l6_sk.T := ((c.1, (c.2.1, (x.1, ()))), ((c.2.2.1, c.2.2.2), ((x.2, ()), ())))
theorem f67_l6_pg (t : f67_l6_sk.T) : f67_l6_put (f67_l6_con t) (f67_l6_get t) = t := by kernel_rfl
noncomputable def f67_l6_w0 (c : f67_l6_C) (y : List (ByteArray × (List Int × Unit))) : f67_l6_o0.T := ((), ((y, ()), ()))
noncomputable def f67_l6_out (c : f67_l6_C) (y : f67_l6_Y) : OutV f67_l6_outs := (fun y => (.inl (f67_l6_w0 c y))) y
noncomputable def f67_l6_k {R : Type} (a0 : List (Int × (ByteArray × (Int × (List Int × Unit))))) (a1 : Int) (a2 : Int) (a3 : (Int × (Int × (List (List Int) × Unit)))) (a4 : List (ByteArray × (List Int × Unit))) (kin : f67_l6_X → Option R) (k0 : List (ByteArray × (List Int × Unit)) → Option R) : Option R :=
 (cond (decide (a2 < a1))
 (if (0 : Int) ≤ a2 ∧ a2 < ((List.length a0 : Nat) : Int) then ((f127 a3 (List.getD a0 (Int.toNat a2) ((0 : Int), (ByteArray.empty, ((0 : Int), (([] : List Int), ()))))).2.2.2.1 (List.getD a0 (Int.toNat a2) ((0 : Int), (ByteArray.empty, ((0 : Int), (([] : List Int), ()))))).2.2.1).bind fun r1 =>
  (if (List.length a4 + 1) * 40 ≤ most ∧ 0 < 40 ∧ 0 < 2 then (let r2 : List (ByteArray × (List Int × Unit)) := (a4 ++ [((List.getD a0 (Int.toNat a2) ((0 : Int), (ByteArray.empty, ((0 : Int), (([] : List Int), ()))))).2.1, (r1.1.1, ()))])
  (let v3 : Int := (IntKind.i64.wrap (a2 + (1 : Int)))
  (kin (v3, r2)))) else none)) else none)
 (k0 a4))
noncomputable def f67_l6_g (a0 : List (Int × (ByteArray × (Int × (List Int × Unit))))) (a1 : Int) (a3 : (Int × (Int × (List (List Int) × Unit)))) (x : f67_l6_X) : Option (f67_l6_X ⊕ f67_l6_Y) := f67_l6_k a0 a1 x.1 a3 x.2 (fun x => some (.inl x)) (fun y => some (.inr y))
noncomputable def f67_l6 (a0 : List (Int × (ByteArray × (Int × (List Int × Unit))))) (a1 : Int) (a3 : (Int × (Int × (List (List Int) × Unit)))) (x : f67_l6_X) : Option f67_l6_Y := loopO (f67_l6_g a0 a1 a3) x
noncomputable def f67_l6_nd : Node := { nils := [(7, 127, (.pair .str (.pair (.slc (.int .u8)) .unit)), .ro)], sk := f67_l6_sk, outs := f67_l6_outs, Y := f67_l6_Y, L := fun t => f67_l6 ((f67_l6_con t).1) ((f67_l6_con t).2.1) ((f67_l6_con t).2.2.1) (f67_l6_get t), out := fun t y => f67_l6_out (f67_l6_con t) y, disp := fun t y K => (fun y => K (.exit 0) (f67_l6_o0.fill (f67_l6_w0 (f67_l6_con t) y))) y }
noncomputable def f67_fx : Fx := { E := env, T := [(116, f116_sm), (127, f127_sm)], H := [], O := [], nodes := [((true, 6), f67_l6_nd)] }
noncomputable def f67_l6_b : Code := (loops f67_code).getD 0 .skip
theorem f67_l6_r (c : f67_l6_C) (x : f67_l6_X) : roundS f67_fx f67_l6_b f67_l6_nd (f67_l6_put c x) = f67_l6_k c.1 c.2.1 x.1 c.2.2.1 x.2 (fun x => some (.inl (f67_l6_put c x))) (fun y => some (.inr (.inl (f67_l6_w0 c y)))) := by kernel_rfl
theorem f67_l6_n {R : Type} (a0 : List (Int × (ByteArray × (Int × (List Int × Unit))))) (a1 : Int) (a2 : Int) (a3 : (Int × (Int × (List (List Int) × Unit)))) (a4 : List (ByteArray × (List Int × Unit))) (kin : f67_l6_X → Option R) (k0 : List (ByteArray × (List Int × Unit)) → Option R) : f67_l6_k a0 a1 a2 a3 a4 kin k0 = (f67_l6_g a0 a1 a3 (a2, a4)).bind (Sum.elim kin k0) := by
  simp only [f67_l6_g, f67_l6_k, cond_bind, ite_bind, bind_bind, some_bind, none_bind, elim_bind, Sum.elim_inl, Sum.elim_inr]
theorem f67_l6_ok : LoopOk f67_fx f67_l6_b f67_l6_nd := loop_ok f67_l6_con f67_l6_get f67_l6_put f67_l6_pg (fun c => f67_l6_g c.1 c.2.1 c.2.2.1) f67_l6_out (fun t y => rfl) (fun t y K => rfl) (fun c x => by
  refine (f67_l6_r c x).trans ((f67_l6_n _ _ _ _ _ _ _).trans ?_)
  first
  | rfl
  | congr 1
    funext s
    rcases s with s | s <;> rfl) (fun t => rfl)
noncomputable def f67_k {R : Type} (a0 : (Int × (Int × (List (List Int) × Unit)))) (k : (List (ByteArray × (List Int × Unit)) × Int × Unit) × (Unit) → Option R) : Option R :=
 ((f116 a0).bind fun r0 =>
 (cond (r0.1.2.2.1 != (0 : Int))
 (k (([], (r0.1.2.2.1, ())), ()))
 ((f67_l6 r0.1.1 ((List.length r0.1.1 : Nat) : Int) a0 ((0 : Int), [])).bind fun y4 =>
  (k ((y4, ((0 : Int), ())), ())))))
noncomputable def f67 (a0 : (Int × (Int × (List (List Int) × Unit)))) : Option ((List (ByteArray × (List Int × Unit)) × Int × Unit) × (Unit)) := f67_k a0 some
noncomputable def f67_sm : Sm := ⟨[.ro (.pair (.int .i64) (.pair (.int .i64) (.pair (.slc (.slc (.int .u8))) .unit)))], [((.slc (.pair .str (.pair (.slc (.int .u8)) .unit))), (.own .ro)), ((.int .i64), .ro)], fun x => f67 x.1⟩
theorem f67_m (x : ArgT [.ro (.pair (.int .i64) (.pair (.int .i64) (.pair (.slc (.slc (.int .u8))) .unit)))]) : codeS f67_fx f67_code (start [.ro (.pair (.int .i64) (.pair (.int .i64) (.pair (.slc (.slc (.int .u8))) .unit)))] [] x 39) (finK env [.tmp 2, .tmp 3] [.ro (.pair (.int .i64) (.pair (.int .i64) (.pair (.slc (.slc (.int .u8))) .unit)))] [((.slc (.pair .str (.pair (.slc (.int .u8)) .unit))), (.own .ro)), ((.int .i64), .ro)]) = f67_k x.1 (fun r => some (r, [])) := by kernel_rfl
theorem f67_n {R : Type} (a0 : (Int × (Int × (List (List Int) × Unit)))) (k : (List (ByteArray × (List Int × Unit)) × Int × Unit) × (Unit) → Option R) : f67_k a0 k = (f67 a0).bind k := by
  simp only [f67, f67_k, cond_bind, ite_bind, bind_bind, some_bind, none_bind, elim_bind]
theorem f67_ok : SmOk Try.prog 67 f67_sm :=
  sum_of (c := f67_fx) (fn := Try.f67) (code := f67_code) (sm := f67_sm) mixed (env_ok env_envB) (TabsOk.all ⟨f116_c, f127_c, trivial⟩) Try.func67 (by kernel_rfl)
   ((LoopsOk.of (l := [f67_l6_b]) (by kernel_rfl) ⟨node_is (by kernel_rfl) f67_l6_ok, trivial⟩))
   (no_tails (by kernel_rfl))
   (fun ks x hl => by
    have hk : ks = [] := List.length_eq_zero_iff.1 hl
    subst hk
    exact (f67_m x).trans (f67_n _ _))
theorem f67_c : CalOk Try.prog 67 f67_sm := .inl ⟨f67_ok, ⟨Try.f67, Try.func67, by kernel_rfl, by kernel_rfl⟩⟩
/-! slices.Equal[[]byte,byte] -/
noncomputable def f24_code : Code := (Try.f24.body).getD .skip
noncomputable def f24_l4_sk : SkS := ⟨12, [(0, .con (.slc (.int .u8))), (0, .con (.slc (.int .u8))), (10, .con (.int .i64)), (0, .con (.int .i64))], []⟩
noncomputable def f24_l4_o0 : SkS := ⟨21, [(4, .con .bool)], []⟩
noncomputable def f24_l4_o1 : SkS := ⟨26, [], []⟩
noncomputable def f24_l4_outs : List Way := [⟨.ret, [], f24_l4_o0⟩, ⟨(.exit 0), [], f24_l4_o1⟩]
abbrev f24_l4_C := (List Int × List Int × Int)
abbrev f24_l4_X := Int
abbrev f24_l4_Y := (Unit) ⊕ (Unit)
noncomputable def f24_l4_con (t : f24_l4_sk.T) : f24_l4_C := (t.1.1, t.1.2.1, t.1.2.2.1)
noncomputable def f24_l4_get (t : f24_l4_sk.T) : f24_l4_X := t.1.2.2.2.1
noncomputable def f24_l4_put (c : f24_l4_C) (x : f24_l4_X) : f24_l4_sk.T := ((c.1, (c.2.1, (c.2.2, (x, ())))), ())
theorem f24_l4_pg (t : f24_l4_sk.T) : f24_l4_put (f24_l4_con t) (f24_l4_get t) = t := by kernel_rfl
noncomputable def f24_l4_w0 (c : f24_l4_C) (y : Unit) : f24_l4_o0.T := ((false, ()), ())
noncomputable def f24_l4_w1 (c : f24_l4_C) (y : Unit) : f24_l4_o1.T := ((), ())
noncomputable def f24_l4_out (c : f24_l4_C) (y : f24_l4_Y) : OutV f24_l4_outs := (Sum.elim (fun y => (.inl (f24_l4_w0 c y))) (fun y => (.inr (.inl (f24_l4_w1 c y))))) y
noncomputable def f24_l4_k {R : Type} (a0 : List Int) (a1 : List Int) (a2 : Int) (a3 : Int) (kin : f24_l4_X → Option R) (k0 : Unit → Option R) (k1 : Unit → Option R) : Option R :=
 (cond (decide (a3 < a2))
 (if (0 : Int) ≤ a3 ∧ a3 < ((List.length a0 : Nat) : Int) then (if (0 : Int) ≤ a3 ∧ a3 < ((List.length a1 : Nat) : Int) then (cond ((List.getD a0 (Int.toNat a3) (0 : Int)) != (List.getD a1 (Int.toNat a3) (0 : Int)))
  (k0 ())
  (let v0 : Int := (IntKind.i64.wrap (a3 + (1 : Int)))
   (kin v0))) else none) else none)
 (k1 ()))
noncomputable def f24_l4_g (a0 : List Int) (a1 : List Int) (a2 : Int) (x : f24_l4_X) : Option (f24_l4_X ⊕ f24_l4_Y) := f24_l4_k a0 a1 a2 x (fun x => some (.inl x)) (fun y => some (.inr (.inl y))) (fun y => some (.inr (.inr y)))
noncomputable def f24_l4 (a0 : List Int) (a1 : List Int) (a2 : Int) (x : f24_l4_X) : Option f24_l4_Y := loopO (f24_l4_g a0 a1 a2) x
noncomputable def f24_l4_nd : Node := { nils := [], sk := f24_l4_sk, outs := f24_l4_outs, Y := f24_l4_Y, L := fun t => f24_l4 ((f24_l4_con t).1) ((f24_l4_con t).2.1) ((f24_l4_con t).2.2) (f24_l4_get t), out := fun t y => f24_l4_out (f24_l4_con t) y, disp := fun t y K => (Sum.elim (fun y => K .ret (f24_l4_o0.fill (f24_l4_w0 (f24_l4_con t) y))) (fun y => K (.exit 0) (f24_l4_o1.fill (f24_l4_w1 (f24_l4_con t) y)))) y }
noncomputable def f24_fx : Fx := { E := env, T := [], H := [], O := [], nodes := [((true, 4), f24_l4_nd)] }
noncomputable def f24_l4_b : Code := (loops f24_code).getD 0 .skip
theorem f24_l4_r (c : f24_l4_C) (x : f24_l4_X) : roundS f24_fx f24_l4_b f24_l4_nd (f24_l4_put c x) = f24_l4_k c.1 c.2.1 c.2.2 x (fun x => some (.inl (f24_l4_put c x))) (fun y => some (.inr (.inl (f24_l4_w0 c y)))) (fun y => some (.inr (.inr (.inl (f24_l4_w1 c y))))) := by kernel_rfl
theorem f24_l4_n {R : Type} (a0 : List Int) (a1 : List Int) (a2 : Int) (a3 : Int) (kin : f24_l4_X → Option R) (k0 : Unit → Option R) (k1 : Unit → Option R) : f24_l4_k a0 a1 a2 a3 kin k0 k1 = (f24_l4_g a0 a1 a2 a3).bind (Sum.elim kin (Sum.elim k0 k1)) := by
  simp only [f24_l4_g, f24_l4_k, cond_bind, ite_bind, bind_bind, some_bind, none_bind, elim_bind, Sum.elim_inl, Sum.elim_inr]
theorem f24_l4_ok : LoopOk f24_fx f24_l4_b f24_l4_nd := loop_ok f24_l4_con f24_l4_get f24_l4_put f24_l4_pg (fun c => f24_l4_g c.1 c.2.1 c.2.2) f24_l4_out (fun t y => rfl) (by intro R t y K; rcases y with y | y <;> rfl) (fun c x => by
  refine (f24_l4_r c x).trans ((f24_l4_n _ _ _ _ _ _ _).trans ?_)
  first
  | rfl
  | congr 1
    funext s
    rcases s with s | s | s <;> rfl) (fun t => rfl)
noncomputable def f24_k {R : Type} (a0 : List Int) (a1 : List Int) (k : (Bool × Unit) × (Unit) → Option R) : Option R :=
 (cond (((List.length a0 : Nat) : Int) != ((List.length a1 : Nat) : Int))
 (k ((false, ()), ()))
 ((f24_l4 a0 a1 ((List.length a0 : Nat) : Int) (0 : Int)).bind fun y1 =>
  ((Sum.elim (fun z2 =>
  (k ((false, ()), ())))
  (fun z3 =>
  (k ((true, ()), ())))) y1)))
noncomputable def f24 (a0 : List Int) (a1 : List Int) : Option ((Bool × Unit) × (Unit)) := f24_k a0 a1 some
noncomputable def f24_sm : Sm := ⟨[.ro (.slc (.int .u8)), .ro (.slc (.int .u8))], [(.bool, .ro)], fun x => f24 x.1 x.2.1⟩
theorem f24_m (x : ArgT [.ro (.slc (.int .u8)), .ro (.slc (.int .u8))]) : codeS f24_fx f24_code (start [.ro (.slc (.int .u8)), .ro (.slc (.int .u8))] [] x 26) (finK env [.tmp 4] [.ro (.slc (.int .u8)), .ro (.slc (.int .u8))] [(.bool, .ro)]) = f24_k x.1 x.2.1 (fun r => some (r, [])) := by kernel_rfl
theorem f24_n {R : Type} (a0 : List Int) (a1 : List Int) (k : (Bool × Unit) × (Unit) → Option R) : f24_k a0 a1 k = (f24 a0 a1).bind k := by
  simp only [f24, f24_k, cond_bind, ite_bind, bind_bind, some_bind, none_bind, elim_bind]
theorem f24_ok : SmOk Try.prog 24 f24_sm :=
  sum_of (c := f24_fx) (fn := Try.f24) (code := f24_code) (sm := f24_sm) mixed (env_ok env_envB) (TabsOk.all trivial) Try.func24 (by kernel_rfl)
   ((LoopsOk.of (l := [f24_l4_b]) (by kernel_rfl) ⟨node_is (by kernel_rfl) f24_l4_ok, trivial⟩))
   (no_tails (by kernel_rfl))
   (fun ks x hl => by
    have hk : ks = [] := List.length_eq_zero_iff.1 hl
    subst hk
    exact (f24_m x).trans (f24_n _ _ _))
theorem f24_c : CalOk Try.prog 24 f24_sm := .inl ⟨f24_ok, ⟨Try.f24, Try.func24, by kernel_rfl, by kernel_rfl⟩⟩
/-! bakelite/bakelaw2.sameFiles$1 -/
noncomputable def f129_code : Code := (Try.f129.body).getD .skip
noncomputable def f129_fx : Fx := { E := env, T := [(24, f24_sm)], H := [], O := [], nodes := [] }
noncomputable def f129_k {R : Type} (a0 : (ByteArray × (List Int × Unit))) (a1 : (ByteArray × (List Int × Unit))) (k : (Bool × Unit) × (Unit) → Option R) : Option R :=
 (cond (strEq a0.1 a1.1)
 ((f24 a0.2.1 a1.2.1).bind fun r0 =>
  (k ((r0.1.1, ()), ())))
 (k ((false, ()), ())))
noncomputable def f129 (a0 : (ByteArray × (List Int × Unit))) (a1 : (ByteArray × (List Int × Unit))) : Option ((Bool × Unit) × (Unit)) := f129_k a0 a1 some
noncomputable def f129_sm : Sm := ⟨[.ro (.pair .str (.pair (.slc (.int .u8)) .unit)), .ro (.pair .str (.pair (.slc (.int .u8)) .unit))], [(.bool, .ro)], fun x => f129 x.1 x.2.1⟩
theorem f129_m (x : ArgT [.ro (.pair .str (.pair (.slc (.int .u8)) .unit)), .ro (.pair .str (.pair (.slc (.int .u8)) .unit))]) : codeS f129_fx f129_code (start [.ro (.pair .str (.pair (.slc (.int .u8)) .unit)), .ro (.pair .str (.pair (.slc (.int .u8)) .unit))] [] x 17) (finK env [.tmp 4] [.ro (.pair .str (.pair (.slc (.int .u8)) .unit)), .ro (.pair .str (.pair (.slc (.int .u8)) .unit))] [(.bool, .ro)]) = f129_k x.1 x.2.1 (fun r => some (r, [])) := by kernel_rfl
theorem f129_n {R : Type} (a0 : (ByteArray × (List Int × Unit))) (a1 : (ByteArray × (List Int × Unit))) (k : (Bool × Unit) × (Unit) → Option R) : f129_k a0 a1 k = (f129 a0 a1).bind k := by
  simp only [f129, f129_k, cond_bind, ite_bind, bind_bind, some_bind, none_bind, elim_bind]
theorem f129_ok : SmOk Try.prog 129 f129_sm :=
  sum_of (c := f129_fx) (fn := Try.f129) (code := f129_code) (sm := f129_sm) mixed (env_ok env_envB) (TabsOk.all ⟨f24_c, trivial⟩) Try.func129 (by kernel_rfl)
   ((LoopsOk.of (l := []) (by kernel_rfl) trivial))
   (no_tails (by kernel_rfl))
   (fun ks x hl => by
    have hk : ks = [] := List.length_eq_zero_iff.1 hl
    subst hk
    exact (f129_m x).trans (f129_n _ _ _))
theorem f129_c : CalOk Try.prog 129 f129_sm := .inl ⟨f129_ok, ⟨Try.f129, Try.func129, by kernel_rfl, by kernel_rfl⟩⟩
/-! slices.EqualFunc[[]bakelite/api.File,[]bakelite/api.File,bakelite/api.File,bakelite/api.File] -/
noncomputable def f128_code : Code := (Try.f128.body).getD .skip
noncomputable def f128_l4_sk : SkS := ⟨14, [(1, .con (.slc (.pair .str (.pair (.slc (.int .u8)) .unit)))), (0, .fn 129 (.tnil)), (12, .con (.slc (.pair .str (.pair (.slc (.int .u8)) .unit)))), (0, .con (.int .i64)), (0, .con (.int .i64))], []⟩
noncomputable def f128_l4_o0 : SkS := ⟨25, [(6, .con .bool)], []⟩
noncomputable def f128_l4_o1 : SkS := ⟨32, [], []⟩
noncomputable def f128_l4_outs : List Way := [⟨.ret, [], f128_l4_o0⟩, ⟨(.exit 0), [], f128_l4_o1⟩]
abbrev f128_l4_C := (List (ByteArray × (List Int × Unit)) × List (ByteArray × (List Int × Unit)) × Int)
abbrev f128_l4_X := Int
abbrev f128_l4_Y := (Unit) ⊕ (Unit)
noncomputable def f128_l4_con (t : f128_l4_sk.T) : f128_l4_C := (t.1.1, t.1.2.2.1, t.1.2.2.2.1)
noncomputable def f128_l4_get (t : f128_l4_sk.T) : f128_l4_X := t.1.2.2.2.2.1
noncomputable def f128_l4_put (c : f128_l4_C) (x : f128_l4_X) : f128_l4_sk.T := ((c.1, ((), (c.2.1, (c.2.2, (x, ()))))), ())
theorem f128_l4_pg (t : f128_l4_sk.T) : f128_l4_put (f128_l4_con t) (f128_l4_get t) = t := by kernel_rfl
noncomputable def f128_l4_w0 (c : f128_l4_C) (y : Unit) : f128_l4_o0.T := ((false, ()), ())
noncomputable def f128_l4_w1 (c : f128_l4_C) (y : Unit) : f128_l4_o1.T := ((), ())
noncomputable def f128_l4_out (c : f128_l4_C) (y : f128_l4_Y) : OutV f128_l4_outs := (Sum.elim (fun y => (.inl (f128_l4_w0 c y))) (fun y => (.inr (.inl (f128_l4_w1 c y))))) y
noncomputable def f128_l4_k {R : Type} (a0 : List (ByteArray × (List Int × Unit))) (a1 : List (ByteArray × (List Int × Unit))) (a2 : Int) (a3 : Int) (kin : f128_l4_X → Option R) (k0 : Unit → Option R) (k1 : Unit → Option R) : Option R :=
 (cond (decide (a3 < a2))
 (if (0 : Int) ≤ a3 ∧ a3 < ((List.length a1 : Nat) : Int) then (if (0 : Int) ≤ a3 ∧ a3 < ((List.length a0 : Nat) : Int) then ((f129 (List.getD a1 (Int.toNat a3) (ByteArray.empty, (([] : List Int), ()))) (List.getD a0 (Int.toNat a3) (ByteArray.empty, (([] : List Int), ())))).bind fun r0 =>
  (cond (!r0.1.1)
  (k0 ())
  (let v1 : Int := (IntKind.i64.wrap (a3 + (1 : Int)))
   (kin v1)))) else none) else none)
 (k1 ()))
noncomputable def f128_l4_g (a0 : List (ByteArray × (List Int × Unit))) (a1 : List (ByteArray × (List Int × Unit))) (a2 : Int) (x : f128_l4_X) : Option (f128_l4_X ⊕ f128_l4_Y) := f128_l4_k a0 a1 a2 x (fun x => some (.inl x)) (fun y => some (.inr (.inl y))) (fun y => some (.inr (.inr y)))
noncomputable def f128_l4 (a0 : List (ByteArray × (List Int × Unit))) (a1 : List (ByteArray × (List Int × Unit))) (a2 : Int) (x : f128_l4_X) : Option f128_l4_Y := loopO (f128_l4_g a0 a1 a2) x
noncomputable def f128_l4_nd : Node := { nils := [], sk := f128_l4_sk, outs := f128_l4_outs, Y := f128_l4_Y, L := fun t => f128_l4 ((f128_l4_con t).1) ((f128_l4_con t).2.1) ((f128_l4_con t).2.2) (f128_l4_get t), out := fun t y => f128_l4_out (f128_l4_con t) y, disp := fun t y K => (Sum.elim (fun y => K .ret (f128_l4_o0.fill (f128_l4_w0 (f128_l4_con t) y))) (fun y => K (.exit 0) (f128_l4_o1.fill (f128_l4_w1 (f128_l4_con t) y)))) y }
noncomputable def f128_fx : Fx := { E := env, T := [(129, f129_sm)], H := [], O := [], nodes := [((true, 4), f128_l4_nd)] }
noncomputable def f128_l4_b : Code := (loops f128_code).getD 0 .skip
theorem f128_l4_r (c : f128_l4_C) (x : f128_l4_X) : roundS f128_fx f128_l4_b f128_l4_nd (f128_l4_put c x) = f128_l4_k c.1 c.2.1 c.2.2 x (fun x => some (.inl (f128_l4_put c x))) (fun y => some (.inr (.inl (f128_l4_w0 c y)))) (fun y => some (.inr (.inr (.inl (f128_l4_w1 c y))))) := by kernel_rfl
theorem f128_l4_n {R : Type} (a0 : List (ByteArray × (List Int × Unit))) (a1 : List (ByteArray × (List Int × Unit))) (a2 : Int) (a3 : Int) (kin : f128_l4_X → Option R) (k0 : Unit → Option R) (k1 : Unit → Option R) : f128_l4_k a0 a1 a2 a3 kin k0 k1 = (f128_l4_g a0 a1 a2 a3).bind (Sum.elim kin (Sum.elim k0 k1)) := by
  simp only [f128_l4_g, f128_l4_k, cond_bind, ite_bind, bind_bind, some_bind, none_bind, elim_bind, Sum.elim_inl, Sum.elim_inr]
theorem f128_l4_ok : LoopOk f128_fx f128_l4_b f128_l4_nd := loop_ok f128_l4_con f128_l4_get f128_l4_put f128_l4_pg (fun c => f128_l4_g c.1 c.2.1 c.2.2) f128_l4_out (fun t y => rfl) (by intro R t y K; rcases y with y | y <;> rfl) (fun c x => by
  refine (f128_l4_r c x).trans ((f128_l4_n _ _ _ _ _ _ _).trans ?_)
  first
  | rfl
  | congr 1
    funext s
    rcases s with s | s | s <;> rfl) (fun t => rfl)
noncomputable def f128_k {R : Type} (a0 : List (ByteArray × (List Int × Unit))) (a1 : List (ByteArray × (List Int × Unit))) (a2 : (Unit)) (k : (Bool × Unit) × (Unit) → Option R) : Option R :=
 (cond (((List.length a0 : Nat) : Int) != ((List.length a1 : Nat) : Int))
 (k ((false, ()), ()))
 ((f128_l4 a1 a0 ((List.length a0 : Nat) : Int) (0 : Int)).bind fun y2 =>
  ((Sum.elim (fun z3 =>
  (k ((false, ()), ())))
  (fun z4 =>
  (k ((true, ()), ())))) y2)))
noncomputable def f128 (a0 : List (ByteArray × (List Int × Unit))) (a1 : List (ByteArray × (List Int × Unit))) (a2 : (Unit)) : Option ((Bool × Unit) × (Unit)) := f128_k a0 a1 a2 some
noncomputable def f128_sm : Sm := ⟨[.ro (.slc (.pair .str (.pair (.slc (.int .u8)) .unit))), .ro (.slc (.pair .str (.pair (.slc (.int .u8)) .unit))), .fn 129 []], [(.bool, .ro)], fun x => f128 x.1 x.2.1 x.2.2.1⟩
theorem f128_m (x : ArgT [.ro (.slc (.pair .str (.pair (.slc (.int .u8)) .unit))), .ro (.slc (.pair .str (.pair (.slc (.int .u8)) .unit))), .fn 129 []]) : codeS f128_fx f128_code (start [.ro (.slc (.pair .str (.pair (.slc (.int .u8)) .unit))), .ro (.slc (.pair .str (.pair (.slc (.int .u8)) .unit))), .fn 129 []] [] x 32) (finK env [.tmp 6] [.ro (.slc (.pair .str (.pair (.slc (.int .u8)) .unit))), .ro (.slc (.pair .str (.pair (.slc (.int .u8)) .unit))), .fn 129 []] [(.bool, .ro)]) = f128_k x.1 x.2.1 x.2.2.1 (fun r => some (r, [])) := by kernel_rfl
theorem f128_n {R : Type} (a0 : List (ByteArray × (List Int × Unit))) (a1 : List (ByteArray × (List Int × Unit))) (a2 : (Unit)) (k : (Bool × Unit) × (Unit) → Option R) : f128_k a0 a1 a2 k = (f128 a0 a1 a2).bind k := by
  simp only [f128, f128_k, cond_bind, ite_bind, bind_bind, some_bind, none_bind, elim_bind]
theorem f128_ok : SmOk Try.prog 128 f128_sm :=
  sum_of (c := f128_fx) (fn := Try.f128) (code := f128_code) (sm := f128_sm) mixed (env_ok env_envB) (TabsOk.all ⟨f129_c, trivial⟩) Try.func128 (by kernel_rfl)
   ((LoopsOk.of (l := [f128_l4_b]) (by kernel_rfl) ⟨node_is (by kernel_rfl) f128_l4_ok, trivial⟩))
   (no_tails (by kernel_rfl))
   (fun ks x hl => by
    have hk : ks = [] := List.length_eq_zero_iff.1 hl
    subst hk
    exact (f128_m x).trans (f128_n _ _ _ _))
theorem f128_c : CalOk Try.prog 128 f128_sm := .inl ⟨f128_ok, ⟨Try.f128, Try.func128, by kernel_rfl, by kernel_rfl⟩⟩
/-! bakelite/bakelaw2.sameFiles -/
noncomputable def f68_code : Code := (Try.f68.body).getD .skip
noncomputable def f68_fx : Fx := { E := env, T := [(128, f128_sm)], H := [], O := [], nodes := [] }
noncomputable def f68_k {R : Type} (a0 : List (ByteArray × (List Int × Unit))) (a1 : List (ByteArray × (List Int × Unit))) (k : (Bool × Unit) × (Unit) → Option R) : Option R :=
 ((f128 a0 a1 ()).bind fun r0 =>
 (k ((r0.1.1, ()), ())))
noncomputable def f68 (a0 : List (ByteArray × (List Int × Unit))) (a1 : List (ByteArray × (List Int × Unit))) : Option ((Bool × Unit) × (Unit)) := f68_k a0 a1 some
noncomputable def f68_sm : Sm := ⟨[.ro (.slc (.pair .str (.pair (.slc (.int .u8)) .unit))), .ro (.slc (.pair .str (.pair (.slc (.int .u8)) .unit)))], [(.bool, .ro)], fun x => f68 x.1 x.2.1⟩
theorem f68_m (x : ArgT [.ro (.slc (.pair .str (.pair (.slc (.int .u8)) .unit))), .ro (.slc (.pair .str (.pair (.slc (.int .u8)) .unit)))]) : codeS f68_fx f68_code (start [.ro (.slc (.pair .str (.pair (.slc (.int .u8)) .unit))), .ro (.slc (.pair .str (.pair (.slc (.int .u8)) .unit)))] [] x 8) (finK env [.tmp 4] [.ro (.slc (.pair .str (.pair (.slc (.int .u8)) .unit))), .ro (.slc (.pair .str (.pair (.slc (.int .u8)) .unit)))] [(.bool, .ro)]) = f68_k x.1 x.2.1 (fun r => some (r, [])) := by kernel_rfl
theorem f68_n {R : Type} (a0 : List (ByteArray × (List Int × Unit))) (a1 : List (ByteArray × (List Int × Unit))) (k : (Bool × Unit) × (Unit) → Option R) : f68_k a0 a1 k = (f68 a0 a1).bind k := by
  simp only [f68, f68_k, cond_bind, ite_bind, bind_bind, some_bind, none_bind, elim_bind]
theorem f68_ok : SmOk Try.prog 68 f68_sm :=
  sum_of (c := f68_fx) (fn := Try.f68) (code := f68_code) (sm := f68_sm) mixed (env_ok env_envB) (TabsOk.all ⟨f128_c, trivial⟩) Try.func68 (by kernel_rfl)
   ((LoopsOk.of (l := []) (by kernel_rfl) trivial))
   (no_tails (by kernel_rfl))
   (fun ks x hl => by
    have hk : ks = [] := List.length_eq_zero_iff.1 hl
    subst hk
    exact (f68_m x).trans (f68_n _ _ _))
theorem f68_c : CalOk Try.prog 68 f68_sm := .inl ⟨f68_ok, ⟨Try.f68, Try.func68, by kernel_rfl, by kernel_rfl⟩⟩
/-! bakelite/chain.find -/
noncomputable def f122_code : Code := (Try.f122.body).getD .skip
noncomputable def f122_l2_sk : SkS := ⟨17, [(1, .con .str), (0, .ptr 32 []), (4, .con (.int .i64))], [(32, ⟨some 24, (.pair (.int .i64) (.pair (.int .i64) (.pair (.slc (.slc (.int .u8))) .unit))), .ro, none⟩)]⟩
noncomputable def f122_l2_o0 : SkS := ⟨20, [(4, .con (.int .i64))], []⟩
noncomputable def f122_l2_o1 : SkS := ⟨25, [], []⟩
noncomputable def f122_l2_outs : List Way := [⟨.ret, [], f122_l2_o0⟩, ⟨(.exit 0), [], f122_l2_o1⟩]
abbrev f122_l2_C := (ByteArray × (Int × (Int × (List (List Int) × Unit))) × (Option Nat))
abbrev f122_l2_X := Int
abbrev f122_l2_Y := (Int) ⊕ (Unit)
noncomputable def f122_l2_con (t : f122_l2_sk.T) : f122_l2_C := (t.1.1, t.2.1.1, t.2.1.2)
noncomputable def f122_l2_get (t : f122_l2_sk.T) : f122_l2_X := t.1.2.1
noncomputable def f122_l2_put (c : f122_l2_C) (x : f122_l2_X) : f122_l2_sk.T := ((c.1, (x, ())), ((c.2.1, c.2.2), ()))
theorem f122_l2_pg (t : f122_l2_sk.T) : f122_l2_put (f122_l2_con t) (f122_l2_get t) = t := by kernel_rfl
noncomputable def f122_l2_w0 (c : f122_l2_C) (y : Int) : f122_l2_o0.T := ((y, ()), ())
noncomputable def f122_l2_w1 (c : f122_l2_C) (y : Unit) : f122_l2_o1.T := ((), ())
noncomputable def f122_l2_out (c : f122_l2_C) (y : f122_l2_Y) : OutV f122_l2_outs := (Sum.elim (fun y => (.inl (f122_l2_w0 c y))) (fun y => (.inr (.inl (f122_l2_w1 c y))))) y
noncomputable def f122_l2_k {R : Type} (a0 : ByteArray) (a1 : Int) (a2 : (Int × (Int × (List (List Int) × Unit)))) (kin : f122_l2_X → Option R) (k0 : Int → Option R) (k1 : Unit → Option R) : Option R :=
 (cond (decide (a1 < (32 : Int)))
 ((f119 a2 a1).bind fun r0 =>
  (if (0 : Int) ≤ (0 : Int) ∧ (0 : Int) < ((List.length r0.1.1 : Nat) : Int) then (cond ((List.getD r0.1.1 0 (0 : Int)) != (0 : Int))
  ((f125 r0.1.1).bind fun r1 =>
   (cond (strEq r1.1.1 a0)
   (k0 a1)
   (let v2 : Int := (IntKind.i64.wrap (a1 + (1 : Int)))
    (kin v2))))
  (let v3 : Int := (IntKind.i64.wrap (a1 + (1 : Int)))
   (kin v3))) else none))
 (k1 ()))
noncomputable def f122_l2_g (a0 : ByteArray) (a2 : (Int × (Int × (List (List Int) × Unit)))) (x : f122_l2_X) : Option (f122_l2_X ⊕ f122_l2_Y) := f122_l2_k a0 x a2 (fun x => some (.inl x)) (fun y => some (.inr (.inl y))) (fun y => some (.inr (.inr y)))
noncomputable def f122_l2 (a0 : ByteArray) (a2 : (Int × (Int × (List (List Int) × Unit)))) (x : f122_l2_X) : Option f122_l2_Y := loopO (f122_l2_g a0 a2) x
noncomputable def f122_l2_nd : Node := { nils := [], sk := f122_l2_sk, outs := f122_l2_outs, Y := f122_l2_Y, L := fun t => f122_l2 ((f122_l2_con t).1) ((f122_l2_con t).2.1) (f122_l2_get t), out := fun t y => f122_l2_out (f122_l2_con t) y, disp := fun t y K => (Sum.elim (fun y => K .ret (f122_l2_o0.fill (f122_l2_w0 (f122_l2_con t) y))) (fun y => K (.exit 0) (f122_l2_o1.fill (f122_l2_w1 (f122_l2_con t) y)))) y }
noncomputable def f122_fx : Fx := { E := env, T := [(119, f119_sm), (125, f125_sm)], H := [], O := [], nodes := [((true, 2), f122_l2_nd)] }
noncomputable def f122_l2_b : Code := (loops f122_code).getD 0 .skip
theorem f122_l2_r (c : f122_l2_C) (x : f122_l2_X) : roundS f122_fx f122_l2_b f122_l2_nd (f122_l2_put c x) = f122_l2_k c.1 x c.2.1 (fun x => some (.inl (f122_l2_put c x))) (fun y => some (.inr (.inl (f122_l2_w0 c y)))) (fun y => some (.inr (.inr (.inl (f122_l2_w1 c y))))) := by kernel_rfl
theorem f122_l2_n {R : Type} (a0 : ByteArray) (a1 : Int) (a2 : (Int × (Int × (List (List Int) × Unit)))) (kin : f122_l2_X → Option R) (k0 : Int → Option R) (k1 : Unit → Option R) : f122_l2_k a0 a1 a2 kin k0 k1 = (f122_l2_g a0 a2 a1).bind (Sum.elim kin (Sum.elim k0 k1)) := by
  simp only [f122_l2_g, f122_l2_k, cond_bind, ite_bind, bind_bind, some_bind, none_bind, elim_bind, Sum.elim_inl, Sum.elim_inr]
theorem f122_l2_ok : LoopOk f122_fx f122_l2_b f122_l2_nd := loop_ok f122_l2_con f122_l2_get f122_l2_put f122_l2_pg (fun c => f122_l2_g c.1 c.2.1) f122_l2_out (fun t y => rfl) (by intro R t y K; rcases y with y | y <;> rfl) (fun c x => by
  refine (f122_l2_r c x).trans ((f122_l2_n _ _ _ _ _ _).trans ?_)
  first
  | rfl
  | congr 1
    funext s
    rcases s with s | s | s <;> rfl) (fun t => rfl)
noncomputable def f122_k {R : Type} (a0 : (Int × (Int × (List (List Int) × Unit)))) (a1 : ByteArray) (k : (Int × Unit) × (Unit) → Option R) : Option R :=
 ((f122_l2 a1 a0 (0 : Int)).bind fun y4 =>
 ((Sum.elim (fun z5 =>
 (k ((z5, ()), ())))
 (fun z6 =>
 (k (((-1 : Int), ()), ())))) y4))
noncomputable def f122 (a0 : (Int × (Int × (List (List Int) × Unit)))) (a1 : ByteArray) : Option ((Int × Unit) × (Unit)) := f122_k a0 a1 some
noncomputable def f122_sm : Sm := ⟨[.ro (.pair (.int .i64) (.pair (.int .i64) (.pair (.slc (.slc (.int .u8))) .unit))), .ro .str], [((.int .i64), .ro)], fun x => f122 x.1 x.2.1⟩
theorem f122_m (x : ArgT [.ro (.pair (.int .i64) (.pair (.int .i64) (.pair (.slc (.slc (.int .u8))) .unit))), .ro .str]) : codeS f122_fx f122_code (start [.ro (.pair (.int .i64) (.pair (.int .i64) (.pair (.slc (.slc (.int .u8))) .unit))), .ro .str] [] x 25) (finK env [.tmp 4] [.ro (.pair (.int .i64) (.pair (.int .i64) (.pair (.slc (.slc (.int .u8))) .unit))), .ro .str] [((.int .i64), .ro)]) = f122_k x.1 x.2.1 (fun r => some (r, [])) := by kernel_rfl
theorem f122_n {R : Type} (a0 : (Int × (Int × (List (List Int) × Unit)))) (a1 : ByteArray) (k : (Int × Unit) × (Unit) → Option R) : f122_k a0 a1 k = (f122 a0 a1).bind k := by
  simp only [f122, f122_k, cond_bind, ite_bind, bind_bind, some_bind, none_bind, elim_bind]
theorem f122_ok : SmOk Try.prog 122 f122_sm :=
  sum_of (c := f122_fx) (fn := Try.f122) (code := f122_code) (sm := f122_sm) mixed (env_ok env_envB) (TabsOk.all ⟨f119_c, f125_c, trivial⟩) Try.func122 (by kernel_rfl)
   ((LoopsOk.of (l := [f122_l2_b]) (by kernel_rfl) ⟨node_is (by kernel_rfl) f122_l2_ok, trivial⟩))
   (no_tails (by kernel_rfl))
   (fun ks x hl => by
    have hk : ks = [] := List.length_eq_zero_iff.1 hl
    subst hk
    exact (f122_m x).trans (f122_n _ _ _))
theorem f122_c : CalOk Try.prog 122 f122_sm := .inl ⟨f122_ok, ⟨Try.f122, Try.func122, by kernel_rfl, by kernel_rfl⟩⟩
/-! bakelite/chain.Get -/
noncomputable def f69_code : Code := (Try.f69.body).getD .skip
noncomputable def f69_fx : Fx := { E := env, T := [(62, f62_sm), (122, f122_sm), (119, f119_sm), (126, f126_sm)], H := [], O := [], nodes := [] }
noncomputable def f69_k {R : Type} (a0 : (Int × (Int × (List (List Int) × Unit)))) (a1 : ByteArray) (k : (List Int × Int × Unit) × (Unit) → Option R) : Option R :=
 ((f62 a0).bind fun r0 =>
 (cond (r0.1.1 != (0 : Int))
 (k (([], (r0.1.1, ())), ()))
 ((f122 a0 a1).bind fun r1 =>
  (cond (decide (r1.1.1 < (0 : Int)))
  (k (([], ((4 : Int), ())), ()))
  ((f119 a0 r1.1.1).bind fun r2 =>
   ((f126 a0 r2.1.1).bind fun r3 =>
   (k ((r3.1.1, ((0 : Int), ())), ()))))))))
noncomputable def f69 (a0 : (Int × (Int × (List (List Int) × Unit)))) (a1 : ByteArray) : Option ((List Int × Int × Unit) × (Unit)) := f69_k a0 a1 some
noncomputable def f69_sm : Sm := ⟨[.ro (.pair (.int .i64) (.pair (.int .i64) (.pair (.slc (.slc (.int .u8))) .unit))), .ro .str], [((.slc (.int .u8)), (.own .ro)), ((.int .i64), .ro)], fun x => f69 x.1 x.2.1⟩
theorem f69_m (x : ArgT [.ro (.pair (.int .i64) (.pair (.int .i64) (.pair (.slc (.slc (.int .u8))) .unit))), .ro .str]) : codeS f69_fx f69_code (start [.ro (.pair (.int .i64) (.pair (.int .i64) (.pair (.slc (.slc (.int .u8))) .unit))), .ro .str] [] x 23) (finK env [.tmp 4, .tmp 5] [.ro (.pair (.int .i64) (.pair (.int .i64) (.pair (.slc (.slc (.int .u8))) .unit))), .ro .str] [((.slc (.int .u8)), (.own .ro)), ((.int .i64), .ro)]) = f69_k x.1 x.2.1 (fun r => some (r, [])) := by kernel_rfl
theorem f69_n {R : Type} (a0 : (Int × (Int × (List (List Int) × Unit)))) (a1 : ByteArray) (k : (List Int × Int × Unit) × (Unit) → Option R) : f69_k a0 a1 k = (f69 a0 a1).bind k := by
  simp only [f69, f69_k, cond_bind, ite_bind, bind_bind, some_bind, none_bind, elim_bind]
theorem f69_ok : SmOk Try.prog 69 f69_sm :=
  sum_of (c := f69_fx) (fn := Try.f69) (code := f69_code) (sm := f69_sm) mixed (env_ok env_envB) (TabsOk.all ⟨f62_c, f122_c, f119_c, f126_c, trivial⟩) Try.func69 (by kernel_rfl)
   ((LoopsOk.of (l := []) (by kernel_rfl) trivial))
   (no_tails (by kernel_rfl))
   (fun ks x hl => by
    have hk : ks = [] := List.length_eq_zero_iff.1 hl
    subst hk
    exact (f69_m x).trans (f69_n _ _ _))
theorem f69_c : CalOk Try.prog 69 f69_sm := .inl ⟨f69_ok, ⟨Try.f69, Try.func69, by kernel_rfl, by kernel_rfl⟩⟩
/-! bakelite/bakelaw2.ChainReads$1 -/
noncomputable def f71_code : Code := (Try.f71.body).getD .skip
noncomputable def f71_fx : Fx := { E := env, T := [], H := [], O := [], nodes := [] }
noncomputable def f71_k {R : Type} (a0 : (ByteArray × (List Int × Unit))) (a1 : ByteArray) (k : (Bool × Unit) × (Unit) → Option R) : Option R :=
 (k (((strEq a0.1 a1), ()), ()))
noncomputable def f71 (a0 : (ByteArray × (List Int × Unit))) (a1 : ByteArray) : Option ((Bool × Unit) × (Unit)) := f71_k a0 a1 some
noncomputable def f71_sm : Sm := ⟨[.ro (.pair .str (.pair (.slc (.int .u8)) .unit)), .lk .str], [(.bool, .ro)], fun x => f71 x.1 x.2.1⟩
theorem f71_m (x : ArgT [.ro (.pair .str (.pair (.slc (.int .u8)) .unit)), .lk .str]) : codeS f71_fx f71_code (start [.ro (.pair .str (.pair (.slc (.int .u8)) .unit)), .lk .str] [] x 8) (finK env [.tmp 3] [.ro (.pair .str (.pair (.slc (.int .u8)) .unit)), .lk .str] [(.bool, .ro)]) = f71_k x.1 x.2.1 (fun r => some (r, [])) := by kernel_rfl
theorem f71_n {R : Type} (a0 : (ByteArray × (List Int × Unit))) (a1 : ByteArray) (k : (Bool × Unit) × (Unit) → Option R) : f71_k a0 a1 k = (f71 a0 a1).bind k := by
  simp only [f71, f71_k, cond_bind, ite_bind, bind_bind, some_bind, none_bind, elim_bind]
theorem f71_ok : SmOk Try.prog 71 f71_sm :=
  sum_of (c := f71_fx) (fn := Try.f71) (code := f71_code) (sm := f71_sm) mixed (env_ok env_envB) (TabsOk.all trivial) Try.func71 (by kernel_rfl)
   ((LoopsOk.of (l := []) (by kernel_rfl) trivial))
   (no_tails (by kernel_rfl))
   (fun ks x hl => by
    have hk : ks = [] := List.length_eq_zero_iff.1 hl
    subst hk
    exact (f71_m x).trans (f71_n _ _ _))
theorem f71_c : CalOk Try.prog 71 f71_sm := .inl ⟨f71_ok, ⟨Try.f71, Try.func71, by kernel_rfl, by kernel_rfl⟩⟩
/-! slices.IndexFunc[[]bakelite/api.File,bakelite/api.File] -/
noncomputable def f70_code : Code := (Try.f70.body).getD .skip
noncomputable def f70_l2_sk : SkS := ⟨10, [(0, .con (.slc (.pair .str (.pair (.slc (.int .u8)) .unit)))), (0, .fn 71 (.tcons (.pro .str) (.tnil))), (5, .con (.int .i64)), (0, .con (.int .i64))], []⟩
noncomputable def f70_l2_o0 : SkS := ⟨14, [(4, .con (.int .i64))], []⟩
noncomputable def f70_l2_o1 : SkS := ⟨19, [], []⟩
noncomputable def f70_l2_outs : List Way := [⟨.ret, [], f70_l2_o0⟩, ⟨(.exit 0), [], f70_l2_o1⟩]
abbrev f70_l2_C := (List (ByteArray × (List Int × Unit)) × ByteArray × Int)
abbrev f70_l2_X := Int
abbrev f70_l2_Y := (Int) ⊕ (Unit)
noncomputable def f70_l2_con (t : f70_l2_sk.T) : f70_l2_C := (t.1.1, t.1.2.1.1, t.1.2.2.1)
noncomputable def f70_l2_get (t : f70_l2_sk.T) : f70_l2_X := t.1.2.2.2.1
noncomputable def f70_l2_put (c : f70_l2_C) (x : f70_l2_X) : f70_l2_sk.T := ((c.1, ((c.2.1, ()), (c.2.2, (x, ())))), ())
theorem f70_l2_pg (t : f70_l2_sk.T) : f70_l2_put (f70_l2_con t) (f70_l2_get t) = t := by kernel_rfl
noncomputable def f70_l2_w0 (c : f70_l2_C) (y : Int) : f70_l2_o0.T := ((y, ()), ())
noncomputable def f70_l2_w1 (c : f70_l2_C) (y : Unit) : f70_l2_o1.T := ((), ())
noncomputable def f70_l2_out (c : f70_l2_C) (y : f70_l2_Y) : OutV f70_l2_outs := (Sum.elim (fun y => (.inl (f70_l2_w0 c y))) (fun y => (.inr (.inl (f70_l2_w1 c y))))) y
noncomputable def f70_l2_k {R : Type} (a0 : List (ByteArray × (List Int × Unit))) (a1 : ByteArray) (a2 : Int) (a3 : Int) (kin : f70_l2_X → Option R) (k0 : Int → Option R) (k1 : Unit → Option R) : Option R :=
 (cond (decide (a3 < a2))
 (if (0 : Int) ≤ a3 ∧ a3 < ((List.length a0 : Nat) : Int) then ((f71 (List.getD a0 (Int.toNat a3) (ByteArray.empty, (([] : List Int), ()))) a1).bind fun r0 =>
  (cond r0.1.1
  (k0 a3)
  (let v1 : Int := (IntKind.i64.wrap (a3 + (1 : Int)))
   (kin v1)))) else none)
 (k1 ()))
noncomputable def f70_l2_g (a0 : List (ByteArray × (List Int × Unit))) (a1 : ByteArray) (a2 : Int) (x : f70_l2_X) : Option (f70_l2_X ⊕ f70_l2_Y) := f70_l2_k a0 a1 a2 x (fun x => some (.inl x)) (fun y => some (.inr (.inl y))) (fun y => some (.inr (.inr y)))
noncomputable def f70_l2 (a0 : List (ByteArray × (List Int × Unit))) (a1 : ByteArray) (a2 : Int) (x : f70_l2_X) : Option f70_l2_Y := loopO (f70_l2_g a0 a1 a2) x
noncomputable def f70_l2_nd : Node := { nils := [], sk := f70_l2_sk, outs := f70_l2_outs, Y := f70_l2_Y, L := fun t => f70_l2 ((f70_l2_con t).1) ((f70_l2_con t).2.1) ((f70_l2_con t).2.2) (f70_l2_get t), out := fun t y => f70_l2_out (f70_l2_con t) y, disp := fun t y K => (Sum.elim (fun y => K .ret (f70_l2_o0.fill (f70_l2_w0 (f70_l2_con t) y))) (fun y => K (.exit 0) (f70_l2_o1.fill (f70_l2_w1 (f70_l2_con t) y)))) y }
noncomputable def f70_fx : Fx := { E := env, T := [(71, f71_sm)], H := [], O := [], nodes := [((true, 2), f70_l2_nd)] }
noncomputable def f70_l2_b : Code := (loops f70_code).getD 0 .skip
theorem f70_l2_r (c : f70_l2_C) (x : f70_l2_X) : roundS f70_fx f70_l2_b f70_l2_nd (f70_l2_put c x) = f70_l2_k c.1 c.2.1 c.2.2 x (fun x => some (.inl (f70_l2_put c x))) (fun y => some (.inr (.inl (f70_l2_w0 c y)))) (fun y => some (.inr (.inr (.inl (f70_l2_w1 c y))))) := by kernel_rfl
theorem f70_l2_n {R : Type} (a0 : List (ByteArray × (List Int × Unit))) (a1 : ByteArray) (a2 : Int) (a3 : Int) (kin : f70_l2_X → Option R) (k0 : Int → Option R) (k1 : Unit → Option R) : f70_l2_k a0 a1 a2 a3 kin k0 k1 = (f70_l2_g a0 a1 a2 a3).bind (Sum.elim kin (Sum.elim k0 k1)) := by
  simp only [f70_l2_g, f70_l2_k, cond_bind, ite_bind, bind_bind, some_bind, none_bind, elim_bind, Sum.elim_inl, Sum.elim_inr]
theorem f70_l2_ok : LoopOk f70_fx f70_l2_b f70_l2_nd := loop_ok f70_l2_con f70_l2_get f70_l2_put f70_l2_pg (fun c => f70_l2_g c.1 c.2.1 c.2.2) f70_l2_out (fun t y => rfl) (by intro R t y K; rcases y with y | y <;> rfl) (fun c x => by
  refine (f70_l2_r c x).trans ((f70_l2_n _ _ _ _ _ _ _).trans ?_)
  first
  | rfl
  | congr 1
    funext s
    rcases s with s | s | s <;> rfl) (fun t => rfl)
noncomputable def f70_k {R : Type} (a0 : List (ByteArray × (List Int × Unit))) (a1 : (ByteArray × Unit)) (k : (Int × Unit) × (Unit) → Option R) : Option R :=
 ((f70_l2 a0 a1.1 ((List.length a0 : Nat) : Int) (0 : Int)).bind fun y2 =>
 ((Sum.elim (fun z3 =>
 (k ((z3, ()), ())))
 (fun z4 =>
 (k (((-1 : Int), ()), ())))) y2))
noncomputable def f70 (a0 : List (ByteArray × (List Int × Unit))) (a1 : (ByteArray × Unit)) : Option ((Int × Unit) × (Unit)) := f70_k a0 a1 some
noncomputable def f70_sm : Sm := ⟨[.ro (.slc (.pair .str (.pair (.slc (.int .u8)) .unit))), .fn 71 [(true, .str)]], [((.int .i64), .ro)], fun x => f70 x.1 x.2.1⟩
theorem f70_m (x : ArgT [.ro (.slc (.pair .str (.pair (.slc (.int .u8)) .unit))), .fn 71 [(true, .str)]]) : codeS f70_fx f70_code (start [.ro (.slc (.pair .str (.pair (.slc (.int .u8)) .unit))), .fn 71 [(true, .str)]] [] x 19) (finK env [.tmp 4] [.ro (.slc (.pair .str (.pair (.slc (.int .u8)) .unit))), .fn 71 [(true, .str)]] [((.int .i64), .ro)]) = f70_k x.1 x.2.1 (fun r => some (r, [])) := by kernel_rfl
theorem f70_n {R : Type} (a0 : List (ByteArray × (List Int × Unit))) (a1 : (ByteArray × Unit)) (k : (Int × Unit) × (Unit) → Option R) : f70_k a0 a1 k = (f70 a0 a1).bind k := by
  simp only [f70, f70_k, cond_bind, ite_bind, bind_bind, some_bind, none_bind, elim_bind]
theorem f70_ok : SmOk Try.prog 70 f70_sm :=
  sum_of (c := f70_fx) (fn := Try.f70) (code := f70_code) (sm := f70_sm) mixed (env_ok env_envB) (TabsOk.all ⟨f71_c, trivial⟩) Try.func70 (by kernel_rfl)
   ((LoopsOk.of (l := [f70_l2_b]) (by kernel_rfl) ⟨node_is (by kernel_rfl) f70_l2_ok, trivial⟩))
   (no_tails (by kernel_rfl))
   (fun ks x hl => by
    have hk : ks = [] := List.length_eq_zero_iff.1 hl
    subst hk
    exact (f70_m x).trans (f70_n _ _ _))
theorem f70_c : CalOk Try.prog 70 f70_sm := .inl ⟨f70_ok, ⟨Try.f70, Try.func70, by kernel_rfl, by kernel_rfl⟩⟩
/-! bakelite/bakelaw2.ChainReads -/
noncomputable def f14_code : Code := (Try.f14.body).getD .skip
noncomputable def f14_t9_sk : SkS := ⟨59, [(6, .con (.int .i64)), (0, .ref 288 []), (0, .con (.int .i64)), (0, .ref 592 []), (0, .con (.int .i64))], [(288, ⟨none, (.slc (.pair .str (.pair (.slc (.int .u8)) .unit))), (.own .ro), none⟩), (592, ⟨none, (.slc (.int .u8)), (.own .ro), none⟩)]⟩
noncomputable def f14_t9_o0 : SkS := ⟨65, [(4, .con .bool)], []⟩
noncomputable def f14_t9_outs : List Way := [⟨.ret, [], f14_t9_o0⟩]
abbrev f14_t9_C := Unit
abbrev f14_t9_X := (Int × Int × Int × List (ByteArray × (List Int × Unit)) × List Int)
abbrev f14_t9_Y := (Bool)
noncomputable def f14_t9_con (t : f14_t9_sk.T) : f14_t9_C := ()
noncomputable def f14_t9_get (t : f14_t9_sk.T) : f14_t9_X := (t.1.1, t.1.2.1, t.1.2.2.1, t.2.1.1, t.2.2.1.1)
noncomputable def f14_t9_put (c : f14_t9_C) (x : f14_t9_X) : f14_t9_sk.T := ((x.1, (x.2.1, (x.2.2.1, ()))), ((x.2.2.2.1, ()), ((x.2.2.2.2, ()), ())))
theorem f14_t9_pg (t : f14_t9_sk.T) : f14_t9_put (f14_t9_con t) (f14_t9_get t) = t := by kernel_rfl
noncomputable def f14_t9_w0 (c : f14_t9_C) (x : f14_t9_X) (y : Bool) : f14_t9_o0.T := ((y, ()), ())
noncomputable def f14_t9_out (c : f14_t9_C) (x : f14_t9_X) (y : f14_t9_Y) : OutV f14_t9_outs := (fun y => (.inl (f14_t9_w0 c x y))) y
noncomputable def f14_t9_k {R : Type} (a0 : Int) (a1 : Int) (a2 : Int) (a3 : List (ByteArray × (List Int × Unit))) (a4 : List Int) (k0 : Bool → Option R) : Option R :=
 (cond (a1 != (0 : Int))
 (cond (a0 == a1)
  (k0 (((List.length a4 : Nat) : Int) == (0 : Int)))
  (k0 false))
 (cond (a0 == (0 : Int))
  (if (0 : Int) ≤ a2 ∧ a2 < ((List.length a3 : Nat) : Int) then ((f24 a4 (List.getD a3 (Int.toNat a2) (ByteArray.empty, (([] : List Int), ()))).2.1).bind fun r6 =>
   (k0 r6.1.1)) else none)
  (k0 false)))
noncomputable def f14_t9 (a0 : Int) (a1 : Int) (a2 : Int) (a3 : List (ByteArray × (List Int × Unit))) (a4 : List Int) : Option f14_t9_Y := f14_t9_k a0 a1 a2 a3 a4 (fun y => some y)
noncomputable def f14_t9_nd : Node := { nils := [], sk := f14_t9_sk, outs := f14_t9_outs, Y := f14_t9_Y, L := fun t => f14_t9 ((f14_t9_get t).1) ((f14_t9_get t).2.1) ((f14_t9_get t).2.2.1) ((f14_t9_get t).2.2.2.1) ((f14_t9_get t).2.2.2.2), out := fun t y => f14_t9_out (f14_t9_con t) (f14_t9_get t) y, disp := fun t y K => (fun y => K .ret (f14_t9_o0.fill (f14_t9_w0 (f14_t9_con t) (f14_t9_get t) y))) y }
noncomputable def f14_fx : Fx := { E := env, T := [(66, f66_sm), (67, f67_sm), (38, f38_sm), (68, f68_sm), (69, f69_sm), (70, f70_sm), (24, f24_sm)], H := [], O := [], nodes := [((false, 9), f14_t9_nd)] }
noncomputable def f14_t9_b : Code := (tails f14_code).getD 8 .skip
theorem f14_t9_r (c : f14_t9_C) (x : f14_t9_X) : tailS f14_fx f14_t9_b f14_t9_nd (f14_t9_put c x) = f14_t9_k x.1 x.2.1 x.2.2.1 x.2.2.2.1 x.2.2.2.2 (fun y => some (.inl (f14_t9_w0 c x y))) := by kernel_rfl
theorem f14_t9_n {R : Type} (a0 : Int) (a1 : Int) (a2 : Int) (a3 : List (ByteArray × (List Int × Unit))) (a4 : List Int) (k0 : Bool → Option R) : f14_t9_k a0 a1 a2 a3 a4 k0 = (f14_t9 a0 a1 a2 a3 a4).bind k0 := by
  simp only [f14_t9, f14_t9_k, cond_bind, ite_bind, bind_bind, some_bind, none_bind, elim_bind, Sum.elim_inl, Sum.elim_inr]
theorem f14_t9_ok : TailOk f14_fx f14_t9_b f14_t9_nd := tail_ok f14_t9_con f14_t9_get f14_t9_put f14_t9_pg (fun x => f14_t9 x.1 x.2.1 x.2.2.1 x.2.2.2.1 x.2.2.2.2) f14_t9_out (fun t y => rfl) (fun t y K => rfl) (fun c x => by
  refine (f14_t9_r c x).trans ((f14_t9_n _ _ _ _ _ _).trans ?_)
  first
  | rfl
  | congr 1
    funext s
    rfl) (fun t => rfl)
noncomputable def f14_k {R : Type} (a0 : (Int × (Int × (List (List Int) × Unit)))) (a1 : ByteArray) (k : (Bool × Unit) × (Unit) → Option R) : Option R :=
 ((f66 a0).bind fun r0 =>
 ((f67 a0).bind fun r1 =>
 ((f38).bind fun r2 =>
 (cond (!r2.1.1)
 (k ((false, ()), ()))
 (cond (r0.1.2.1 != r1.1.2.1)
  (k ((false, ()), ()))
  ((f68 r0.1.1 r1.1.1).bind fun r3 =>
   (cond (!r3.1.1)
   (k ((false, ()), ()))
   ((f69 a0 a1).bind fun r4 =>
    ((f70 r1.1.1 (a1, ())).bind fun r5 =>
    (cond (r1.1.2.1 == (0 : Int))
    (cond (decide (r5.1.1 < (0 : Int)))
     ((f14_t9 r4.1.2.1 (4 : Int) r5.1.1 r1.1.1 r4.1.1).bind fun y7 =>
      (k ((y7, ()), ())))
     ((f14_t9 r4.1.2.1 r1.1.2.1 r5.1.1 r1.1.1 r4.1.1).bind fun y8 =>
      (k ((y8, ()), ()))))
    ((f14_t9 r4.1.2.1 r1.1.2.1 r5.1.1 r1.1.1 r4.1.1).bind fun y9 =>
     (k ((y9, ()), ())))))))))))))
noncomputable def f14 (a0 : (Int × (Int × (List (List Int) × Unit)))) (a1 : ByteArray) : Option ((Bool × Unit) × (Unit)) := f14_k a0 a1 some
noncomputable def f14_sm : Sm := ⟨[.ro (.pair (.int .i64) (.pair (.int .i64) (.pair (.slc (.slc (.int .u8))) .unit))), .ro .str], [(.bool, .ro)], fun x => f14 x.1 x.2.1⟩
theorem f14_m (x : ArgT [.ro (.pair (.int .i64) (.pair (.int .i64) (.pair (.slc (.slc (.int .u8))) .unit))), .ro .str]) : codeS f14_fx f14_code (start [.ro (.pair (.int .i64) (.pair (.int .i64) (.pair (.slc (.slc (.int .u8))) .unit))), .ro .str] [] x 70) (finK env [.tmp 4] [.ro (.pair (.int .i64) (.pair (.int .i64) (.pair (.slc (.slc (.int .u8))) .unit))), .ro .str] [(.bool, .ro)]) = f14_k x.1 x.2.1 (fun r => some (r, [])) := by kernel_rfl
theorem f14_n {R : Type} (a0 : (Int × (Int × (List (List Int) × Unit)))) (a1 : ByteArray) (k : (Bool × Unit) × (Unit) → Option R) : f14_k a0 a1 k = (f14 a0 a1).bind k := by
  simp only [f14, f14_k, cond_bind, ite_bind, bind_bind, some_bind, none_bind, elim_bind]
theorem f14_ok : SmOk Try.prog 14 f14_sm :=
  sum_of (c := f14_fx) (fn := Try.f14) (code := f14_code) (sm := f14_sm) mixed (env_ok env_envB) (TabsOk.all ⟨f66_c, f67_c, f38_c, f68_c, f69_c, f70_c, f24_c, trivial⟩) Try.func14 (by kernel_rfl)
   ((LoopsOk.of (l := []) (by kernel_rfl) trivial))
   ((TailsOk.of (l := [((tails f14_code).getD 0 .skip), ((tails f14_code).getD 1 .skip), ((tails f14_code).getD 2 .skip), ((tails f14_code).getD 3 .skip), ((tails f14_code).getD 4 .skip), ((tails f14_code).getD 5 .skip), ((tails f14_code).getD 6 .skip), ((tails f14_code).getD 7 .skip), f14_t9_b, ((tails f14_code).getD 9 .skip), ((tails f14_code).getD 10 .skip), ((tails f14_code).getD 11 .skip), ((tails f14_code).getD 12 .skip), ((tails f14_code).getD 13 .skip)]) (by kernel_rfl) ⟨node_no (by kernel_rfl), node_no (by kernel_rfl), node_no (by kernel_rfl), node_no (by kernel_rfl), node_no (by kernel_rfl), node_no (by kernel_rfl), node_no (by kernel_rfl), node_no (by kernel_rfl), node_is (by kernel_rfl) f14_t9_ok, node_no (by kernel_rfl), node_no (by kernel_rfl), node_no (by kernel_rfl), node_no (by kernel_rfl), node_no (by kernel_rfl), trivial⟩))
   (fun ks x hl => by
    have hk : ks = [] := List.length_eq_zero_iff.1 hl
    subst hk
    exact (f14_m x).trans (f14_n _ _ _))
theorem f14_c : CalOk Try.prog 14 f14_sm := .inl ⟨f14_ok, ⟨Try.f14, Try.func14, by kernel_rfl, by kernel_rfl⟩⟩
end Go.Proofs.Ytlgbhaigpecdoaa.V
