/- Printed. -/
import Derived.Test.YtlgbhaigpecdoaaVFnSectA
set_option linter.unusedVariables false
set_option linter.unusedSimpArgs false
set_option maxRecDepth 100000
namespace Go.Proofs.Ytlgbhaigpecdoaa.V
open Go
/-! bakelite/sect.Format -/
noncomputable def f57_code : Code := (Try.f57.body).getD .skip
noncomputable def f57_l6_sk : SkS := ⟨43, [(2, .con (.int .i64)), (6, .ref 159 []), (13, .con (.slc (.pair (.int .i64) (.pair (.int .i64) (.pair (.slc (.int .u8)) (.pair .bool .unit)))))), (0, .con (.int .i64)), (0, .con (.int .i64))], [(159, ⟨none, (.slc (.pair .bool (.pair (.slc (.int .u8)) .unit))), (.own .ro)⟩)]⟩
noncomputable def f57_l6_o0 : SkS := ⟨59, [(2, .con (.int .i64)), (6, .ref 159 [])], [(159, ⟨none, (.slc (.pair .bool (.pair (.slc (.int .u8)) .unit))), (.own .ro)⟩)]⟩
noncomputable def f57_l6_outs : List Way := [⟨(.exit 0), [], f57_l6_o0⟩]
abbrev f57_l6_C := (Int × List (Int × (Int × (List Int × (Bool × Unit)))) × Int)
abbrev f57_l6_X := (Int × List (Bool × (List Int × Unit)))
abbrev f57_l6_Y := (List (Bool × (List Int × Unit)))
noncomputable def f57_l6_con (t : f57_l6_sk.T) : f57_l6_C := (t.1.1, t.1.2.1, t.1.2.2.1)
noncomputable def f57_l6_get (t : f57_l6_sk.T) : f57_l6_X := (t.1.2.2.2.1, t.2.1.1)
noncomputable def f57_l6_put (c : f57_l6_C) (x : f57_l6_X) : f57_l6_sk.T := ((c.1, (c.2.1, (c.2.2, (x.1, ())))), ((x.2, ()), ()))
theorem f57_l6_pg (t : f57_l6_sk.T) : f57_l6_put (f57_l6_con t) (f57_l6_get t) = t := by kernel_rfl
noncomputable def f57_l6_w0 (c : f57_l6_C) (y : List (Bool × (List Int × Unit))) : f57_l6_o0.T := ((c.1, ()), ((y, ()), ()))
noncomputable def f57_l6_out (c : f57_l6_C) (y : f57_l6_Y) : OutV f57_l6_outs := (fun y => (.inl (f57_l6_w0 c y))) y
noncomputable def f57_l6_k {R : Type} (a0 : Int) (a1 : List (Int × (Int × (List Int × (Bool × Unit))))) (a2 : Int) (a3 : Int) (a4 : List (Bool × (List Int × Unit))) (kin : f57_l6_X → Option R) (k0 : List (Bool × (List Int × Unit)) → Option R) : Option R :=
 (cond (decide (a3 < a2))
 (if (0 : Int) ≤ a3 ∧ a3 < ((List.length a1 : Nat) : Int) then (let v2 : Int := (IntKind.u8.wrap (List.getD a1 (Int.toNat a3) ((0 : Int), ((0 : Int), (([] : List Int), (false, ()))))).1)
  (let v3 : Int := (IntKind.u8.wrap (List.getD a1 (Int.toNat a3) ((0 : Int), ((0 : Int), (([] : List Int), (false, ()))))).2.1)
  ((f115 [(254 : Int), v2, v3]).bind fun r4 =>
  (if (1 + List.length (List.getD a1 (Int.toNat a3) ((0 : Int), ((0 : Int), (([] : List Int), (false, ()))))).2.2.1) * 1 ≤ most ∧ 0 < 1 ∧ 0 < 1 then (let r5 : List Int := ([(251 : Int)] ++ (List.getD a1 (Int.toNat a3) ((0 : Int), ((0 : Int), (([] : List Int), (false, ()))))).2.2.1)
  ((f115 r5).bind fun r6 =>
  (cond (List.getD a1 (Int.toNat a3) ((0 : Int), ((0 : Int), (([] : List Int), (false, ()))))).2.2.2.1
  (let v7 : Int := (IntKind.i64.wrap (((List.length r6.1.1 : Nat) : Int) - (1 : Int)))
   (if (0 : Int) ≤ v7 ∧ v7 < ((List.length r6.1.1 : Nat) : Int) then (let v8 : Int := (bitop IntKind.u8 .xor (List.getD r6.1.1 (Int.toNat v7) (0 : Int)) (255 : Int))
   (if (0 : Int) ≤ v7 ∧ v7 < ((List.length r6.1.1 : Nat) : Int) then ((f114).bind fun r9 =>
   (if (List.length r4.1.1 + List.length r9.1.1) * 1 ≤ most ∧ 0 < 1 ∧ 0 < 1 then (let r10 : List Int := (r4.1.1 ++ r9.1.1)
   ((f114).bind fun r11 =>
   (if (List.length (List.set r6.1.1 (Int.toNat v7) v8) + List.length r11.1.1) * 1 ≤ most ∧ 0 < 1 ∧ 0 < 1 then (let r12 : List Int := ((List.set r6.1.1 (Int.toNat v7) v8) ++ r11.1.1)
   (if (List.length a4 + 2) * 32 ≤ most ∧ 0 < 32 ∧ 0 < 2 then (let r13 : List (Bool × (List Int × Unit)) := (a4 ++ [(true, (r10, ())), (true, (r12, ()))])
   (let v14 : Int := (IntKind.i64.wrap (a3 + (1 : Int)))
   (kin (v14, r13)))) else none)) else none))) else none)) else none)) else none))
  ((f114).bind fun r15 =>
   (if (List.length r4.1.1 + List.length r15.1.1) * 1 ≤ most ∧ 0 < 1 ∧ 0 < 1 then (let r16 : List Int := (r4.1.1 ++ r15.1.1)
   ((f114).bind fun r17 =>
   (if (List.length r6.1.1 + List.length r17.1.1) * 1 ≤ most ∧ 0 < 1 ∧ 0 < 1 then (let r18 : List Int := (r6.1.1 ++ r17.1.1)
   (if (List.length a4 + 2) * 32 ≤ most ∧ 0 < 32 ∧ 0 < 2 then (let r19 : List (Bool × (List Int × Unit)) := (a4 ++ [(true, (r16, ())), (true, (r18, ()))])
   (let v20 : Int := (IntKind.i64.wrap (a3 + (1 : Int)))
   (kin (v20, r19)))) else none)) else none))) else none))))) else none)))) else none)
 (k0 a4))
noncomputable def f57_l6_g (a0 : Int) (a1 : List (Int × (Int × (List Int × (Bool × Unit))))) (a2 : Int) (x : f57_l6_X) : Option (f57_l6_X ⊕ f57_l6_Y) := f57_l6_k a0 a1 a2 x.1 x.2 (fun x => some (.inl x)) (fun y => some (.inr y))
noncomputable def f57_l6 (a0 : Int) (a1 : List (Int × (Int × (List Int × (Bool × Unit))))) (a2 : Int) (x : f57_l6_X) : Option f57_l6_Y := loopO (f57_l6_g a0 a1 a2) x
noncomputable def f57_l6_nd : Node := { nils := [(9, 159, (.pair .bool (.pair (.slc (.int .u8)) .unit)), .ro)], sk := f57_l6_sk, outs := f57_l6_outs, Y := f57_l6_Y, L := fun t => f57_l6 ((f57_l6_con t).1) ((f57_l6_con t).2.1) ((f57_l6_con t).2.2) (f57_l6_get t), out := fun t y => f57_l6_out (f57_l6_con t) y, disp := fun t y K => (fun y => K (.exit 0) (f57_l6_o0.fill (f57_l6_w0 (f57_l6_con t) y))) y }
noncomputable def f57_fx : Fx := { E := env, T := [(58, f58_sm), (114, f114_sm), (115, f115_sm), (29, f29_sm)], H := [], O := [], nodes := [((true, 6), f57_l6_nd)] }
noncomputable def f57_l6_b : Code := (loops f57_code).getD 0 .skip
theorem f57_l6_r (c : f57_l6_C) (x : f57_l6_X) : roundS f57_fx f57_l6_b f57_l6_nd (f57_l6_put c x) = f57_l6_k c.1 c.2.1 c.2.2 x.1 x.2 (fun x => some (.inl (f57_l6_put c x))) (fun y => some (.inr (.inl (f57_l6_w0 c y)))) := by kernel_rfl
theorem f57_l6_n {R : Type} (a0 : Int) (a1 : List (Int × (Int × (List Int × (Bool × Unit))))) (a2 : Int) (a3 : Int) (a4 : List (Bool × (List Int × Unit))) (kin : f57_l6_X → Option R) (k0 : List (Bool × (List Int × Unit)) → Option R) : f57_l6_k a0 a1 a2 a3 a4 kin k0 = (f57_l6_g a0 a1 a2 (a3, a4)).bind (Sum.elim kin k0) := by
  simp only [f57_l6_g, f57_l6_k, cond_bind, ite_bind, bind_bind, some_bind, none_bind, elim_bind, Sum.elim_inl, Sum.elim_inr]
theorem f57_l6_ok : LoopOk f57_fx f57_l6_b f57_l6_nd := loop_ok f57_l6_con f57_l6_get f57_l6_put f57_l6_pg (fun c => f57_l6_g c.1 c.2.1 c.2.2) f57_l6_out (fun t y => rfl) (fun t y K => rfl) (fun c x => by
  refine (f57_l6_r c x).trans ((f57_l6_n _ _ _ _ _ _ _).trans ?_)
  first
  | rfl
  | congr 1
    funext s
    rcases s with s | s <;> rfl) (fun t => rfl)
noncomputable def f57_k {R : Type} (a0 : Int) (a1 : List (Int × (Int × (List Int × (Bool × Unit))))) (a2 : Int) (k : (List Int × Int × Unit) × (Unit) → Option R) : Option R :=
 ((f58 a0 a1).bind fun r0 =>
 (cond (r0.1.1 != (0 : Int))
 (k (([], (r0.1.1, ())), ()))
 ((f114).bind fun r1 =>
  ((f57_l6 a2 a1 ((List.length a1 : Nat) : Int) ((0 : Int), [(false, (r1.1.1, ()))])).bind fun y21 =>
  ((f29 y21 a2).bind fun r22 =>
  (k ((r22.1.1, (r22.1.2.1, ())), ())))))))
noncomputable def f57 (a0 : Int) (a1 : List (Int × (Int × (List Int × (Bool × Unit))))) (a2 : Int) : Option ((List Int × Int × Unit) × (Unit)) := f57_k a0 a1 a2 some
noncomputable def f57_sm : Sm := ⟨[.ro (.int .i64), .ro (.slc (.pair (.int .i64) (.pair (.int .i64) (.pair (.slc (.int .u8)) (.pair .bool .unit))))), .ro (.int .i64)], [((.slc (.int .i64)), .ro), ((.int .i64), .ro)], fun x => f57 x.1 x.2.1 x.2.2.1⟩
theorem f57_m (x : ArgT [.ro (.int .i64), .ro (.slc (.pair (.int .i64) (.pair (.int .i64) (.pair (.slc (.int .u8)) (.pair .bool .unit))))), .ro (.int .i64)]) : codeS f57_fx f57_code (start [.ro (.int .i64), .ro (.slc (.pair (.int .i64) (.pair (.int .i64) (.pair (.slc (.int .u8)) (.pair .bool .unit))))), .ro (.int .i64)] [] x 69) (finK env [.tmp 6, .tmp 7] [.ro (.int .i64), .ro (.slc (.pair (.int .i64) (.pair (.int .i64) (.pair (.slc (.int .u8)) (.pair .bool .unit))))), .ro (.int .i64)] [((.slc (.int .i64)), .ro), ((.int .i64), .ro)]) = f57_k x.1 x.2.1 x.2.2.1 (fun r => some (r, [])) := by kernel_rfl
theorem f57_n {R : Type} (a0 : Int) (a1 : List (Int × (Int × (List Int × (Bool × Unit))))) (a2 : Int) (k : (List Int × Int × Unit) × (Unit) → Option R) : f57_k a0 a1 a2 k = (f57 a0 a1 a2).bind k := by
  simp only [f57, f57_k, cond_bind, ite_bind, bind_bind, some_bind, none_bind, elim_bind]
theorem f57_f : FnOk Try.prog 57 := ⟨Try.f57, Try.func57, by kernel_rfl, by kernel_rfl⟩
theorem f57_ok : SmOk Try.prog 57 f57_sm :=
  sum_of (c := f57_fx) (fn := Try.f57) (code := f57_code) (sm := f57_sm) mixed (env_ok env_envB) (TabsOk.all ⟨⟨f58_ok, f58_f⟩, ⟨f114_ok, f114_f⟩, ⟨f115_ok, f115_f⟩, ⟨f29_ok, f29_f⟩, trivial⟩) Try.func57 (by kernel_rfl)
   ((LoopsOk.of (l := [f57_l6_b]) (by kernel_rfl) ⟨node_is (by kernel_rfl) f57_l6_ok, trivial⟩))
   (no_tails (by kernel_rfl))
   (fun ks x hl => by
    have hk : ks = [] := List.length_eq_zero_iff.1 hl
    subst hk
    exact (f57_m x).trans (f57_n _ _ _ _))
/-! bakelite/bakeref2.Formatted -/
noncomputable def f52_code : Code := (Try.f52.body).getD .skip
noncomputable def f52_t12_sk : SkS := ⟨42, [(2, .con (.int .i64)), (6, .con (.slc (.int .u8))), (0, .ref 175 []), (1, .ptr 192 []), (0, .ref 560 []), (11, .con (.slc (.pair (.int .i64) (.pair (.int .i64) (.pair (.slc (.int .u8)) (.pair .bool .unit)))))), (0, .con (.int .i64)), (0, .con (.int .i64))], [(175, ⟨none, (.slc (.pair .bool (.pair (.slc (.int .u8)) .unit))), (.own .ro)⟩), (192, ⟨some 76, (.pair (.int .i64) (.pair (.int .i64) (.pair (.slc (.int .u8)) (.pair .bool .unit)))), .ro⟩), (560, ⟨none, (.slc (.int .u8)), (.own .ro)⟩)]⟩
noncomputable def f52_t12_o0 : SkS := ⟨42, [(2, .con (.int .i64)), (6, .con (.slc (.int .u8))), (0, .ref 1008 []), (14, .con (.slc (.pair (.int .i64) (.pair (.int .i64) (.pair (.slc (.int .u8)) (.pair .bool .unit)))))), (0, .con (.int .i64)), (0, .con (.int .i64))], [(1008, ⟨none, (.slc (.pair .bool (.pair (.slc (.int .u8)) .unit))), (.own .ro)⟩)]⟩
noncomputable def f52_t12_outs : List Way := [⟨.normal, [], f52_t12_o0⟩]
abbrev f52_t12_C := (Option Nat)
abbrev f52_t12_X := (Int × List Int × List (Int × (Int × (List Int × (Bool × Unit)))) × Int × Int × List (Bool × (List Int × Unit)) × (Int × (Int × (List Int × (Bool × Unit)))) × List Int)
abbrev f52_t12_Y := (List (Bool × (List Int × Unit)))
noncomputable def f52_t12_con (t : f52_t12_sk.T) : f52_t12_C := t.2.2.1.2
noncomputable def f52_t12_get (t : f52_t12_sk.T) : f52_t12_X := (t.1.1, t.1.2.1, t.1.2.2.1, t.1.2.2.2.1, t.1.2.2.2.2.1, t.2.1.1, t.2.2.1.1, t.2.2.2.1.1)
noncomputable def f52_t12_put (c : f52_t12_C) (x : f52_t12_X) : f52_t12_sk.T := ((x.1, (x.2.1, (x.2.2.1, (x.2.2.2.1, (x.2.2.2.2.1, ()))))), ((x.2.2.2.2.2.1, ()), ((x.2.2.2.2.2.2.1, c), ((x.2.2.2.2.2.2.2, ()), ()))))
theorem f52_t12_pg (t : f52_t12_sk.T) : f52_t12_put (f52_t12_con t) (f52_t12_get t) = t := by kernel_rfl
noncomputable def f52_t12_w0 (c : f52_t12_C) (x : f52_t12_X) (y : List (Bool × (List Int × Unit))) : f52_t12_o0.T := ((x.1, (x.2.1, (x.2.2.1, (x.2.2.2.1, (x.2.2.2.2.1, ()))))), ((y, ()), ()))
noncomputable def f52_t12_out (c : f52_t12_C) (x : f52_t12_X) (y : f52_t12_Y) : OutV f52_t12_outs := (fun y => (.inl (f52_t12_w0 c x y))) y
noncomputable def f52_t12_k {R : Type} (a0 : Int) (a1 : List Int) (a2 : List (Int × (Int × (List Int × (Bool × Unit))))) (a3 : Int) (a4 : Int) (a5 : List (Bool × (List Int × Unit))) (a6 : (Int × (Int × (List Int × (Bool × Unit))))) (a7 : List Int) (k0 : List (Bool × (List Int × Unit)) → Option R) : Option R :=
 ((f109 [(254 : Int), (IntKind.u8.wrap a6.1), (IntKind.u8.wrap a6.2.1)]).bind fun r5 =>
 ((f102 [r5.1.1, a1]).bind fun r6 =>
 ((f102 [a7, a1]).bind fun r7 =>
 (if (List.length a5 + 2) * 32 ≤ most ∧ 0 < 32 ∧ 0 < 2 then (let r8 : List (Bool × (List Int × Unit)) := (a5 ++ [(true, (r6.1.1, ())), (true, (r7.1.1, ()))])
 (k0 r8)) else none))))
noncomputable def f52_t12 (a0 : Int) (a1 : List Int) (a2 : List (Int × (Int × (List Int × (Bool × Unit))))) (a3 : Int) (a4 : Int) (a5 : List (Bool × (List Int × Unit))) (a6 : (Int × (Int × (List Int × (Bool × Unit))))) (a7 : List Int) : Option f52_t12_Y := f52_t12_k a0 a1 a2 a3 a4 a5 a6 a7 (fun y => some y)
noncomputable def f52_t12_nd : Node := { nils := [], sk := f52_t12_sk, outs := f52_t12_outs, Y := f52_t12_Y, L := fun t => f52_t12 ((f52_t12_get t).1) ((f52_t12_get t).2.1) ((f52_t12_get t).2.2.1) ((f52_t12_get t).2.2.2.1) ((f52_t12_get t).2.2.2.2.1) ((f52_t12_get t).2.2.2.2.2.1) ((f52_t12_get t).2.2.2.2.2.2.1) ((f52_t12_get t).2.2.2.2.2.2.2), out := fun t y => f52_t12_out (f52_t12_con t) (f52_t12_get t) y, disp := fun t y K => (fun y => K .normal (f52_t12_o0.fill (f52_t12_w0 (f52_t12_con t) (f52_t12_get t) y))) y }
noncomputable def f52_l7_sk : SkS := ⟨42, [(2, .con (.int .i64)), (6, .con (.slc (.int .u8))), (0, .ref 175 []), (14, .con (.slc (.pair (.int .i64) (.pair (.int .i64) (.pair (.slc (.int .u8)) (.pair .bool .unit)))))), (0, .con (.int .i64)), (0, .con (.int .i64))], [(175, ⟨none, (.slc (.pair .bool (.pair (.slc (.int .u8)) .unit))), (.own .ro)⟩)]⟩
noncomputable def f52_l7_o0 : SkS := ⟨59, [(2, .con (.int .i64)), (7, .ref 175 [])], [(175, ⟨none, (.slc (.pair .bool (.pair (.slc (.int .u8)) .unit))), (.own .ro)⟩)]⟩
noncomputable def f52_l7_outs : List Way := [⟨(.exit 0), [], f52_l7_o0⟩]
abbrev f52_l7_C := (Int × List Int × List (Int × (Int × (List Int × (Bool × Unit)))) × Int)
abbrev f52_l7_X := (Int × List (Bool × (List Int × Unit)))
abbrev f52_l7_Y := (List (Bool × (List Int × Unit)))
noncomputable def f52_l7_con (t : f52_l7_sk.T) : f52_l7_C := (t.1.1, t.1.2.1, t.1.2.2.1, t.1.2.2.2.1)
noncomputable def f52_l7_get (t : f52_l7_sk.T) : f52_l7_X := (t.1.2.2.2.2.1, t.2.1.1)
noncomputable def f52_l7_put (c : f52_l7_C) (x : f52_l7_X) : f52_l7_sk.T := ((c.1, (c.2.1, (c.2.2.1, (c.2.2.2, (x.1, ()))))), ((x.2, ()), ()))
theorem f52_l7_pg (t : f52_l7_sk.T) : f52_l7_put (f52_l7_con t) (f52_l7_get t) = t := by kernel_rfl
noncomputable def f52_l7_w0 (c : f52_l7_C) (y : List (Bool × (List Int × Unit))) : f52_l7_o0.T := ((c.1, ()), ((y, ()), ()))
noncomputable def f52_l7_out (c : f52_l7_C) (y : f52_l7_Y) : OutV f52_l7_outs := (fun y => (.inl (f52_l7_w0 c y))) y
noncomputable def f52_l7_k {R : Type} (a0 : Int) (a1 : List Int) (a2 : List (Int × (Int × (List Int × (Bool × Unit))))) (a3 : Int) (a4 : Int) (a5 : List (Bool × (List Int × Unit))) (kin : f52_l7_X → Option R) (k0 : List (Bool × (List Int × Unit)) → Option R) : Option R :=
 (cond (decide (a4 < a3))
 (if (0 : Int) ≤ a4 ∧ a4 < ((List.length a2 : Nat) : Int) then (if (1 + List.length (List.getD a2 (Int.toNat a4) ((0 : Int), ((0 : Int), (([] : List Int), (false, ()))))).2.2.1) * 1 ≤ most ∧ 0 < 1 ∧ 0 < 1 then (let r2 : List Int := ([(251 : Int)] ++ (List.getD a2 (Int.toNat a4) ((0 : Int), ((0 : Int), (([] : List Int), (false, ()))))).2.2.1)
  ((f109 r2).bind fun r3 =>
  (cond (List.getD a2 (Int.toNat a4) ((0 : Int), ((0 : Int), (([] : List Int), (false, ()))))).2.2.2.1
  (if (0 : Int) ≤ (130 : Int) ∧ (130 : Int) < ((List.length r3.1.1 : Nat) : Int) then (let v4 : Int := (IntKind.u8.wrap ((255 : Int) - (List.getD r3.1.1 130 (0 : Int))))
   (if (0 : Int) ≤ (130 : Int) ∧ (130 : Int) < ((List.length r3.1.1 : Nat) : Int) then ((f52_t12 a0 a1 a2 a3 a4 a5 (List.getD a2 (Int.toNat a4) ((0 : Int), ((0 : Int), (([] : List Int), (false, ()))))) (List.set r3.1.1 130 v4)).bind fun y9 =>
   (let v10 : Int := (IntKind.i64.wrap (a4 + (1 : Int)))
   (kin (v10, y9)))) else none)) else none)
  ((f52_t12 a0 a1 a2 a3 a4 a5 (List.getD a2 (Int.toNat a4) ((0 : Int), ((0 : Int), (([] : List Int), (false, ()))))) r3.1.1).bind fun y11 =>
   (let v12 : Int := (IntKind.i64.wrap (a4 + (1 : Int)))
   (kin (v12, y11))))))) else none) else none)
 (k0 a5))
noncomputable def f52_l7_g (a0 : Int) (a1 : List Int) (a2 : List (Int × (Int × (List Int × (Bool × Unit))))) (a3 : Int) (x : f52_l7_X) : Option (f52_l7_X ⊕ f52_l7_Y) := f52_l7_k a0 a1 a2 a3 x.1 x.2 (fun x => some (.inl x)) (fun y => some (.inr y))
noncomputable def f52_l7 (a0 : Int) (a1 : List Int) (a2 : List (Int × (Int × (List Int × (Bool × Unit))))) (a3 : Int) (x : f52_l7_X) : Option f52_l7_Y := loopO (f52_l7_g a0 a1 a2 a3) x
noncomputable def f52_l7_nd : Node := { nils := [(10, 175, (.pair .bool (.pair (.slc (.int .u8)) .unit)), .ro)], sk := f52_l7_sk, outs := f52_l7_outs, Y := f52_l7_Y, L := fun t => f52_l7 ((f52_l7_con t).1) ((f52_l7_con t).2.1) ((f52_l7_con t).2.2.1) ((f52_l7_con t).2.2.2) (f52_l7_get t), out := fun t y => f52_l7_out (f52_l7_con t) y, disp := fun t y K => (fun y => K (.exit 0) (f52_l7_o0.fill (f52_l7_w0 (f52_l7_con t) y))) y }
noncomputable def f52_fx : Fx := { E := env, T := [(59, f59_sm), (97, f97_sm), (109, f109_sm), (102, f102_sm), (31, f31_sm)], H := [(20, .ro)], O := [], nodes := [((false, 12), f52_t12_nd), ((true, 7), f52_l7_nd)] }
noncomputable def f52_t12_b : Code := (tails f52_code).getD 14 .skip
theorem f52_t12_r (c : f52_t12_C) (x : f52_t12_X) : tailS f52_fx f52_t12_b f52_t12_nd (f52_t12_put c x) = f52_t12_k x.1 x.2.1 x.2.2.1 x.2.2.2.1 x.2.2.2.2.1 x.2.2.2.2.2.1 x.2.2.2.2.2.2.1 x.2.2.2.2.2.2.2 (fun y => some (.inl (f52_t12_w0 c x y))) := by kernel_rfl
theorem f52_t12_n {R : Type} (a0 : Int) (a1 : List Int) (a2 : List (Int × (Int × (List Int × (Bool × Unit))))) (a3 : Int) (a4 : Int) (a5 : List (Bool × (List Int × Unit))) (a6 : (Int × (Int × (List Int × (Bool × Unit))))) (a7 : List Int) (k0 : List (Bool × (List Int × Unit)) → Option R) : f52_t12_k a0 a1 a2 a3 a4 a5 a6 a7 k0 = (f52_t12 a0 a1 a2 a3 a4 a5 a6 a7).bind k0 := by
  simp only [f52_t12, f52_t12_k, cond_bind, ite_bind, bind_bind, some_bind, none_bind, elim_bind, Sum.elim_inl, Sum.elim_inr]
theorem f52_t12_ok : TailOk f52_fx f52_t12_b f52_t12_nd := tail_ok f52_t12_con f52_t12_get f52_t12_put f52_t12_pg (fun x => f52_t12 x.1 x.2.1 x.2.2.1 x.2.2.2.1 x.2.2.2.2.1 x.2.2.2.2.2.1 x.2.2.2.2.2.2.1 x.2.2.2.2.2.2.2) f52_t12_out (fun t y => rfl) (fun t y K => rfl) (fun c x => by
  refine (f52_t12_r c x).trans ((f52_t12_n _ _ _ _ _ _ _ _ _).trans ?_)
  first
  | rfl
  | congr 1
    funext s
    rfl) (fun t => rfl)
noncomputable def f52_l7_b : Code := (loops f52_code).getD 0 .skip
theorem f52_l7_r (c : f52_l7_C) (x : f52_l7_X) : roundS f52_fx f52_l7_b f52_l7_nd (f52_l7_put c x) = f52_l7_k c.1 c.2.1 c.2.2.1 c.2.2.2 x.1 x.2 (fun x => some (.inl (f52_l7_put c x))) (fun y => some (.inr (.inl (f52_l7_w0 c y)))) := by kernel_rfl
theorem f52_l7_n {R : Type} (a0 : Int) (a1 : List Int) (a2 : List (Int × (Int × (List Int × (Bool × Unit))))) (a3 : Int) (a4 : Int) (a5 : List (Bool × (List Int × Unit))) (kin : f52_l7_X → Option R) (k0 : List (Bool × (List Int × Unit)) → Option R) : f52_l7_k a0 a1 a2 a3 a4 a5 kin k0 = (f52_l7_g a0 a1 a2 a3 (a4, a5)).bind (Sum.elim kin k0) := by
  simp only [f52_l7_g, f52_l7_k, cond_bind, ite_bind, bind_bind, some_bind, none_bind, elim_bind, Sum.elim_inl, Sum.elim_inr]
theorem f52_l7_ok : LoopOk f52_fx f52_l7_b f52_l7_nd := loop_ok f52_l7_con f52_l7_get f52_l7_put f52_l7_pg (fun c => f52_l7_g c.1 c.2.1 c.2.2.1 c.2.2.2) f52_l7_out (fun t y => rfl) (fun t y K => rfl) (fun c x => by
  refine (f52_l7_r c x).trans ((f52_l7_n _ _ _ _ _ _ _ _).trans ?_)
  first
  | rfl
  | congr 1
    funext s
    rcases s with s | s <;> rfl) (fun t => rfl)
noncomputable def f52_k {R : Type} (a0 : Int) (a1 : List (Int × (Int × (List Int × (Bool × Unit))))) (a2 : Int) (k : (List Int × Int × Unit) × (Unit) → Option R) : Option R :=
 ((f59 a0 a1).bind fun r0 =>
 (cond (r0.1.1 != (0 : Int))
 (k (([], (r0.1.1, ())), ()))
 ((f97 [(78 : Int)] (8 : Int)).bind fun r1 =>
  ((f52_l7 a2 r1.1.1 a1 ((List.length a1 : Nat) : Int) ((0 : Int), [(false, (r1.1.1, ()))])).bind fun y13 =>
  ((f31 y13 a2).bind fun r14 =>
  (k ((r14.1.1, (r14.1.2.1, ())), ())))))))
noncomputable def f52 (a0 : Int) (a1 : List (Int × (Int × (List Int × (Bool × Unit))))) (a2 : Int) : Option ((List Int × Int × Unit) × (Unit)) := f52_k a0 a1 a2 some
noncomputable def f52_sm : Sm := ⟨[.ro (.int .i64), .ro (.slc (.pair (.int .i64) (.pair (.int .i64) (.pair (.slc (.int .u8)) (.pair .bool .unit))))), .ro (.int .i64)], [((.slc (.int .i64)), .ro), ((.int .i64), .ro)], fun x => f52 x.1 x.2.1 x.2.2.1⟩
theorem f52_m (x : ArgT [.ro (.int .i64), .ro (.slc (.pair (.int .i64) (.pair (.int .i64) (.pair (.slc (.int .u8)) (.pair .bool .unit))))), .ro (.int .i64)]) : codeS f52_fx f52_code (start [.ro (.int .i64), .ro (.slc (.pair (.int .i64) (.pair (.int .i64) (.pair (.slc (.int .u8)) (.pair .bool .unit))))), .ro (.int .i64)] [] x 70) (finK env [.tmp 6, .tmp 7] [.ro (.int .i64), .ro (.slc (.pair (.int .i64) (.pair (.int .i64) (.pair (.slc (.int .u8)) (.pair .bool .unit))))), .ro (.int .i64)] [((.slc (.int .i64)), .ro), ((.int .i64), .ro)]) = f52_k x.1 x.2.1 x.2.2.1 (fun r => some (r, [])) := by kernel_rfl
theorem f52_n {R : Type} (a0 : Int) (a1 : List (Int × (Int × (List Int × (Bool × Unit))))) (a2 : Int) (k : (List Int × Int × Unit) × (Unit) → Option R) : f52_k a0 a1 a2 k = (f52 a0 a1 a2).bind k := by
  simp only [f52, f52_k, cond_bind, ite_bind, bind_bind, some_bind, none_bind, elim_bind]
theorem f52_f : FnOk Try.prog 52 := ⟨Try.f52, Try.func52, by kernel_rfl, by kernel_rfl⟩
theorem f52_ok : SmOk Try.prog 52 f52_sm :=
  sum_of (c := f52_fx) (fn := Try.f52) (code := f52_code) (sm := f52_sm) mixed (env_ok env_envB) (TabsOk.all ⟨⟨f59_ok, f59_f⟩, ⟨f97_ok, f97_f⟩, ⟨f109_ok, f109_f⟩, ⟨f102_ok, f102_f⟩, ⟨f31_ok, f31_f⟩, trivial⟩) Try.func52 (by kernel_rfl)
   ((LoopsOk.of (l := [f52_l7_b]) (by kernel_rfl) ⟨node_is (by kernel_rfl) f52_l7_ok, trivial⟩))
   ((TailsOk.of (l := [((tails f52_code).getD 0 .skip), ((tails f52_code).getD 1 .skip), ((tails f52_code).getD 2 .skip), ((tails f52_code).getD 3 .skip), ((tails f52_code).getD 4 .skip), ((tails f52_code).getD 5 .skip), ((tails f52_code).getD 6 .skip), ((tails f52_code).getD 7 .skip), ((tails f52_code).getD 8 .skip), ((tails f52_code).getD 9 .skip), ((tails f52_code).getD 10 .skip), ((tails f52_code).getD 11 .skip), ((tails f52_code).getD 12 .skip), ((tails f52_code).getD 13 .skip), f52_t12_b, ((tails f52_code).getD 15 .skip), ((tails f52_code).getD 16 .skip)]) (by kernel_rfl) ⟨node_no (by kernel_rfl), node_no (by kernel_rfl), node_no (by kernel_rfl), node_no (by kernel_rfl), node_no (by kernel_rfl), node_no (by kernel_rfl), node_no (by kernel_rfl), node_no (by kernel_rfl), node_no (by kernel_rfl), node_no (by kernel_rfl), node_no (by kernel_rfl), node_no (by kernel_rfl), node_no (by kernel_rfl), node_no (by kernel_rfl), node_is (by kernel_rfl) f52_t12_ok, node_no (by kernel_rfl), node_no (by kernel_rfl), trivial⟩))
   (fun ks x hl => by
    have hk : ks = [] := List.length_eq_zero_iff.1 hl
    subst hk
    exact (f52_m x).trans (f52_n _ _ _ _))
/-! bakelite/crc.Open -/
noncomputable def f110_code : Code := (Try.f110.body).getD .skip
noncomputable def f110_fx : Fx := { E := env, T := [(141, f141_sm)], H := [], O := [], nodes := [] }
noncomputable def f110_k {R : Type} (a0 : List Int) (k : (List Int × Bool × Unit) × (Unit) → Option R) : Option R :=
 (cond (decide (((List.length a0 : Nat) : Int) < (2 : Int)))
 (k (([], (false, ())), ()))
 ((f141 a0).bind fun r0 =>
  (cond (r0.1.1 != (0 : Int))
  (k (([], (false, ())), ()))
  (let v1 : Int := (IntKind.i64.wrap (((List.length a0 : Nat) : Int) - (2 : Int)))
   (if (0 : Int) ≤ (0 : Int) ∧ (0 : Int) ≤ v1 ∧ v1 ≤ ((List.length a0 : Nat) : Int) then (if (0 + List.length (List.take ((Int.toNat v1) - 0) (List.drop 0 a0))) * 1 ≤ most ∧ 0 < 1 ∧ 0 < 1 then (let r2 : List Int := ([] ++ (List.take ((Int.toNat v1) - 0) (List.drop 0 a0)))
   (k ((r2, (true, ())), ()))) else none) else none)))))
noncomputable def f110 (a0 : List Int) : Option ((List Int × Bool × Unit) × (Unit)) := f110_k a0 some
noncomputable def f110_sm : Sm := ⟨[.ro (.slc (.int .u8))], [((.slc (.int .u8)), (.own .ro)), (.bool, .ro)], fun x => f110 x.1⟩
theorem f110_m (x : ArgT [.ro (.slc (.int .u8))]) : codeS f110_fx f110_code (start [.ro (.slc (.int .u8))] [] x 19) (finK env [.tmp 2, .tmp 3] [.ro (.slc (.int .u8))] [((.slc (.int .u8)), (.own .ro)), (.bool, .ro)]) = f110_k x.1 (fun r => some (r, [])) := by kernel_rfl
theorem f110_n {R : Type} (a0 : List Int) (k : (List Int × Bool × Unit) × (Unit) → Option R) : f110_k a0 k = (f110 a0).bind k := by
  simp only [f110, f110_k, cond_bind, ite_bind, bind_bind, some_bind, none_bind, elim_bind]
theorem f110_f : FnOk Try.prog 110 := ⟨Try.f110, Try.func110, by kernel_rfl, by kernel_rfl⟩
theorem f110_ok : SmOk Try.prog 110 f110_sm :=
  sum_of (c := f110_fx) (fn := Try.f110) (code := f110_code) (sm := f110_sm) mixed (env_ok env_envB) (TabsOk.all ⟨⟨f141_ok, f141_f⟩, trivial⟩) Try.func110 (by kernel_rfl)
   ((LoopsOk.of (l := []) (by kernel_rfl) trivial))
   (no_tails (by kernel_rfl))
   (fun ks x hl => by
    have hk : ks = [] := List.length_eq_zero_iff.1 hl
    subst hk
    exact (f110_m x).trans (f110_n _ _))
/-! bakelite/sect.Scan -/
noncomputable def f53_code : Code := (Try.f53.body).getD .skip
noncomputable def f53_l8_sk : SkS := ⟨75, [(8, .ref 143 []), (0, .con .bool), (0, .ptr 160 []), (14, .con (.slc (.pair .bool (.pair (.slc (.int .u8)) .unit)))), (0, .con (.int .i64)), (0, .con (.int .i64))], [(143, ⟨none, (.slc (.pair (.int .i64) (.pair (.int .i64) (.pair (.slc (.int .u8)) (.pair .bool .unit))))), (.own .ro)⟩), (160, ⟨some 76, (.pair (.int .i64) (.pair (.int .i64) (.pair (.slc (.int .u8)) (.pair .bool .unit)))), .ro⟩)]⟩
noncomputable def f53_l8_o0 : SkS := ⟨94, [(8, .ref 143 [])], [(143, ⟨none, (.slc (.pair (.int .i64) (.pair (.int .i64) (.pair (.slc (.int .u8)) (.pair .bool .unit))))), (.own .ro)⟩)]⟩
noncomputable def f53_l8_outs : List Way := [⟨(.exit 0), [], f53_l8_o0⟩]
abbrev f53_l8_C := (List (Bool × (List Int × Unit)) × Int × (Option Nat))
abbrev f53_l8_X := (Bool × Int × List (Int × (Int × (List Int × (Bool × Unit)))) × (Int × (Int × (List Int × (Bool × Unit)))))
abbrev f53_l8_Y := (List (Int × (Int × (List Int × (Bool × Unit)))))
noncomputable def f53_l8_con (t : f53_l8_sk.T) : f53_l8_C := (t.1.2.1, t.1.2.2.1, t.2.2.1.2)
noncomputable def f53_l8_get (t : f53_l8_sk.T) : f53_l8_X := (t.1.1, t.1.2.2.2.1, t.2.1.1, t.2.2.1.1)
noncomputable def f53_l8_put (c : f53_l8_C) (x : f53_l8_X) : f53_l8_sk.T := ((x.1, (c.1, (c.2.1, (x.2.1, ())))), ((x.2.2.1, ()), ((x.2.2.2, c.2.2), ())))
theorem f53_l8_pg (t : f53_l8_sk.T) : f53_l8_put (f53_l8_con t) (f53_l8_get t) = t := by kernel_rfl
noncomputable def f53_l8_w0 (c : f53_l8_C) (y : List (Int × (Int × (List Int × (Bool × Unit))))) : f53_l8_o0.T := ((), ((y, ()), ()))
noncomputable def f53_l8_out (c : f53_l8_C) (y : f53_l8_Y) : OutV f53_l8_outs := (fun y => (.inl (f53_l8_w0 c y))) y
noncomputable def f53_l8_k {R : Type} (a0 : Bool) (a1 : List (Bool × (List Int × Unit))) (a2 : Int) (a3 : Int) (a4 : List (Int × (Int × (List Int × (Bool × Unit))))) (a5 : (Int × (Int × (List Int × (Bool × Unit))))) (kin : f53_l8_X → Option R) (k0 : List (Int × (Int × (List Int × (Bool × Unit)))) → Option R) : Option R :=
 (cond (decide (a3 < a2))
 (if (0 : Int) ≤ a3 ∧ a3 < ((List.length a1 : Nat) : Int) then (cond (!(List.getD a1 (Int.toNat a3) (false, (([] : List Int), ()))).1)
  (let v1 : Int := (IntKind.i64.wrap (a3 + (1 : Int)))
   (kin (false, v1, a4, a5)))
  (cond (((List.length (List.getD a1 (Int.toNat a3) (false, (([] : List Int), ()))).2.1 : Nat) : Int) == (0 : Int))
   (let v2 : Int := (IntKind.i64.wrap (a3 + (1 : Int)))
    (kin (false, v2, a4, a5)))
   (if (0 : Int) ≤ (0 : Int) ∧ (0 : Int) < ((List.length (List.getD a1 (Int.toNat a3) (false, (([] : List Int), ()))).2.1 : Nat) : Int) then (cond ((List.getD (List.getD a1 (Int.toNat a3) (false, (([] : List Int), ()))).2.1 0 (0 : Int)) == (254 : Int))
    (cond (decide (((List.length (List.getD a1 (Int.toNat a3) (false, (([] : List Int), ()))).2.1 : Nat) : Int) ≥ (5 : Int)))
     (if (0 : Int) ≤ (0 : Int) ∧ (0 : Int) ≤ (5 : Int) ∧ (5 : Int) ≤ ((List.length (List.getD a1 (Int.toNat a3) (false, (([] : List Int), ()))).2.1 : Nat) : Int) then ((f110 (List.take 5 (List.drop 0 (List.getD a1 (Int.toNat a3) (false, (([] : List Int), ()))).2.1))).bind fun r3 =>
      (if (0 : Int) ≤ (1 : Int) ∧ (1 : Int) < ((List.length (List.getD a1 (Int.toNat a3) (false, (([] : List Int), ()))).2.1 : Nat) : Int) then (let v4 : Int := (IntKind.i64.wrap (List.getD (List.getD a1 (Int.toNat a3) (false, (([] : List Int), ()))).2.1 1 (0 : Int)))
      (if (0 : Int) ≤ (2 : Int) ∧ (2 : Int) < ((List.length (List.getD a1 (Int.toNat a3) (false, (([] : List Int), ()))).2.1 : Nat) : Int) then (let v5 : Int := (IntKind.i64.wrap (List.getD (List.getD a1 (Int.toNat a3) (false, (([] : List Int), ()))).2.1 2 (0 : Int)))
      (let v6 : Int := (IntKind.i64.wrap (a3 + (1 : Int)))
      (kin (r3.1.2.1, v6, a4, (v4, (v5, ([], (false, ())))))))) else none)) else none)) else none)
     (if (0 : Int) ≤ (0 : Int) ∧ (0 : Int) < ((List.length (List.getD a1 (Int.toNat a3) (false, (([] : List Int), ()))).2.1 : Nat) : Int) then (cond ((List.getD (List.getD a1 (Int.toNat a3) (false, (([] : List Int), ()))).2.1 0 (0 : Int)) == (251 : Int))
      (cond a0
       (cond (decide (((List.length (List.getD a1 (Int.toNat a3) (false, (([] : List Int), ()))).2.1 : Nat) : Int) ≥ (131 : Int)))
        (if (0 : Int) ≤ (0 : Int) ∧ (0 : Int) ≤ (131 : Int) ∧ (131 : Int) ≤ ((List.length (List.getD a1 (Int.toNat a3) (false, (([] : List Int), ()))).2.1 : Nat) : Int) then ((f110 (List.take 131 (List.drop 0 (List.getD a1 (Int.toNat a3) (false, (([] : List Int), ()))).2.1))).bind fun r7 =>
         (if (0 : Int) ≤ (1 : Int) ∧ (1 : Int) ≤ (129 : Int) ∧ (129 : Int) ≤ ((List.length (List.getD a1 (Int.toNat a3) (false, (([] : List Int), ()))).2.1 : Nat) : Int) then (if (0 + List.length (List.take 128 (List.drop 1 (List.getD a1 (Int.toNat a3) (false, (([] : List Int), ()))).2.1))) * 1 ≤ most ∧ 0 < 1 ∧ 0 < 1 then (let r8 : List Int := ([] ++ (List.take 128 (List.drop 1 (List.getD a1 (Int.toNat a3) (false, (([] : List Int), ()))).2.1)))
         (if (List.length a4 + 1) * 48 ≤ most ∧ 0 < 48 ∧ 0 < 4 then (let r9 : List (Int × (Int × (List Int × (Bool × Unit)))) := (a4 ++ [(a5.1, (a5.2.1, (r8, ((!r7.1.2.1), a5.2.2.2.2))))])
         (let v10 : Int := (IntKind.i64.wrap (a3 + (1 : Int)))
         (kin (false, v10, r9, (a5.1, (a5.2.1, (r8, ((!r7.1.2.1), a5.2.2.2.2)))))))) else none)) else none) else none)) else none)
        (let v11 : Int := (IntKind.i64.wrap (a3 + (1 : Int)))
         (kin (false, v11, a4, a5))))
       (let v12 : Int := (IntKind.i64.wrap (a3 + (1 : Int)))
        (kin (false, v12, a4, a5))))
      (let v13 : Int := (IntKind.i64.wrap (a3 + (1 : Int)))
       (kin (false, v13, a4, a5)))) else none))
    (if (0 : Int) ≤ (0 : Int) ∧ (0 : Int) < ((List.length (List.getD a1 (Int.toNat a3) (false, (([] : List Int), ()))).2.1 : Nat) : Int) then (cond ((List.getD (List.getD a1 (Int.toNat a3) (false, (([] : List Int), ()))).2.1 0 (0 : Int)) == (251 : Int))
     (cond a0
      (cond (decide (((List.length (List.getD a1 (Int.toNat a3) (false, (([] : List Int), ()))).2.1 : Nat) : Int) ≥ (131 : Int)))
       (if (0 : Int) ≤ (0 : Int) ∧ (0 : Int) ≤ (131 : Int) ∧ (131 : Int) ≤ ((List.length (List.getD a1 (Int.toNat a3) (false, (([] : List Int), ()))).2.1 : Nat) : Int) then ((f110 (List.take 131 (List.drop 0 (List.getD a1 (Int.toNat a3) (false, (([] : List Int), ()))).2.1))).bind fun r14 =>
        (if (0 : Int) ≤ (1 : Int) ∧ (1 : Int) ≤ (129 : Int) ∧ (129 : Int) ≤ ((List.length (List.getD a1 (Int.toNat a3) (false, (([] : List Int), ()))).2.1 : Nat) : Int) then (if (0 + List.length (List.take 128 (List.drop 1 (List.getD a1 (Int.toNat a3) (false, (([] : List Int), ()))).2.1))) * 1 ≤ most ∧ 0 < 1 ∧ 0 < 1 then (let r15 : List Int := ([] ++ (List.take 128 (List.drop 1 (List.getD a1 (Int.toNat a3) (false, (([] : List Int), ()))).2.1)))
        (if (List.length a4 + 1) * 48 ≤ most ∧ 0 < 48 ∧ 0 < 4 then (let r16 : List (Int × (Int × (List Int × (Bool × Unit)))) := (a4 ++ [(a5.1, (a5.2.1, (r15, ((!r14.1.2.1), a5.2.2.2.2))))])
        (let v17 : Int := (IntKind.i64.wrap (a3 + (1 : Int)))
        (kin (false, v17, r16, (a5.1, (a5.2.1, (r15, ((!r14.1.2.1), a5.2.2.2.2)))))))) else none)) else none) else none)) else none)
       (let v18 : Int := (IntKind.i64.wrap (a3 + (1 : Int)))
        (kin (false, v18, a4, a5))))
      (let v19 : Int := (IntKind.i64.wrap (a3 + (1 : Int)))
       (kin (false, v19, a4, a5))))
     (let v20 : Int := (IntKind.i64.wrap (a3 + (1 : Int)))
      (kin (false, v20, a4, a5)))) else none)) else none))) else none)
 (k0 a4))
noncomputable def f53_l8_g (a1 : List (Bool × (List Int × Unit))) (a2 : Int) (x : f53_l8_X) : Option (f53_l8_X ⊕ f53_l8_Y) := f53_l8_k x.1 a1 a2 x.2.1 x.2.2.1 x.2.2.2 (fun x => some (.inl x)) (fun y => some (.inr y))
noncomputable def f53_l8 (a1 : List (Bool × (List Int × Unit))) (a2 : Int) (x : f53_l8_X) : Option f53_l8_Y := loopO (f53_l8_g a1 a2) x
noncomputable def f53_l8_nd : Node := { nils := [(8, 143, (.pair (.int .i64) (.pair (.int .i64) (.pair (.slc (.int .u8)) (.pair .bool .unit)))), .ro)], sk := f53_l8_sk, outs := f53_l8_outs, Y := f53_l8_Y, L := fun t => f53_l8 ((f53_l8_con t).1) ((f53_l8_con t).2.1) (f53_l8_get t), out := fun t y => f53_l8_out (f53_l8_con t) y, disp := fun t y K => (fun y => K (.exit 0) (f53_l8_o0.fill (f53_l8_w0 (f53_l8_con t) y))) y }
noncomputable def f53_fx : Fx := { E := env, T := [(30, f30_sm), (110, f110_sm)], H := [(10, .ro)], O := [], nodes := [((true, 8), f53_l8_nd)] }
noncomputable def f53_l8_b : Code := (loops f53_code).getD 0 .skip
theorem f53_l8_r (c : f53_l8_C) (x : f53_l8_X) : roundS f53_fx f53_l8_b f53_l8_nd (f53_l8_put c x) = f53_l8_k x.1 c.1 c.2.1 x.2.1 x.2.2.1 x.2.2.2 (fun x => some (.inl (f53_l8_put c x))) (fun y => some (.inr (.inl (f53_l8_w0 c y)))) := by kernel_rfl
theorem f53_l8_n {R : Type} (a0 : Bool) (a1 : List (Bool × (List Int × Unit))) (a2 : Int) (a3 : Int) (a4 : List (Int × (Int × (List Int × (Bool × Unit))))) (a5 : (Int × (Int × (List Int × (Bool × Unit))))) (kin : f53_l8_X → Option R) (k0 : List (Int × (Int × (List Int × (Bool × Unit)))) → Option R) : f53_l8_k a0 a1 a2 a3 a4 a5 kin k0 = (f53_l8_g a1 a2 (a0, a3, a4, a5)).bind (Sum.elim kin k0) := by
  simp only [f53_l8_g, f53_l8_k, cond_bind, ite_bind, bind_bind, some_bind, none_bind, elim_bind, Sum.elim_inl, Sum.elim_inr]
theorem f53_l8_ok : LoopOk f53_fx f53_l8_b f53_l8_nd := loop_ok f53_l8_con f53_l8_get f53_l8_put f53_l8_pg (fun c => f53_l8_g c.1 c.2.1) f53_l8_out (fun t y => rfl) (fun t y K => rfl) (fun c x => by
  refine (f53_l8_r c x).trans ((f53_l8_n _ _ _ _ _ _ _ _).trans ?_)
  first
  | rfl
  | congr 1
    funext s
    rcases s with s | s <;> rfl) (fun t => rfl)
noncomputable def f53_k {R : Type} (a0 : List Int) (a1 : Int) (k : (List (Int × (Int × (List Int × (Bool × Unit)))) × Int × Unit) × (Unit) → Option R) : Option R :=
 ((f30 a0 a1).bind fun r0 =>
 (cond (r0.1.2.1 != (0 : Int))
 (k (([], (r0.1.2.1, ())), ()))
 ((f53_l8 r0.1.1 ((List.length r0.1.1 : Nat) : Int) (false, (0 : Int), [], ((0 : Int), ((0 : Int), (([] : List Int), (false, ())))))).bind fun y21 =>
  (cond (decide (((List.length y21 : Nat) : Int) > (12 : Int)))
  (k (([], ((2 : Int), ())), ()))
  (k ((y21, ((0 : Int), ())), ()))))))
noncomputable def f53 (a0 : List Int) (a1 : Int) : Option ((List (Int × (Int × (List Int × (Bool × Unit)))) × Int × Unit) × (Unit)) := f53_k a0 a1 some
noncomputable def f53_sm : Sm := ⟨[.ro (.slc (.int .i64)), .ro (.int .i64)], [((.slc (.pair (.int .i64) (.pair (.int .i64) (.pair (.slc (.int .u8)) (.pair .bool .unit))))), .ro), ((.int .i64), .ro)], fun x => f53 x.1 x.2.1⟩
theorem f53_m (x : ArgT [.ro (.slc (.int .i64)), .ro (.int .i64)]) : codeS f53_fx f53_code (start [.ro (.slc (.int .i64)), .ro (.int .i64)] [] x 103) (finK env [.tmp 4, .tmp 5] [.ro (.slc (.int .i64)), .ro (.int .i64)] [((.slc (.pair (.int .i64) (.pair (.int .i64) (.pair (.slc (.int .u8)) (.pair .bool .unit))))), .ro), ((.int .i64), .ro)]) = f53_k x.1 x.2.1 (fun r => some (r, [])) := by kernel_rfl
theorem f53_n {R : Type} (a0 : List Int) (a1 : Int) (k : (List (Int × (Int × (List Int × (Bool × Unit)))) × Int × Unit) × (Unit) → Option R) : f53_k a0 a1 k = (f53 a0 a1).bind k := by
  simp only [f53, f53_k, cond_bind, ite_bind, bind_bind, some_bind, none_bind, elim_bind]
theorem f53_f : FnOk Try.prog 53 := ⟨Try.f53, Try.func53, by kernel_rfl, by kernel_rfl⟩
theorem f53_ok : SmOk Try.prog 53 f53_sm :=
  sum_of (c := f53_fx) (fn := Try.f53) (code := f53_code) (sm := f53_sm) mixed (env_ok env_envB) (TabsOk.all ⟨⟨f30_ok, f30_f⟩, ⟨f110_ok, f110_f⟩, trivial⟩) Try.func53 (by kernel_rfl)
   ((LoopsOk.of (l := [f53_l8_b]) (by kernel_rfl) ⟨node_is (by kernel_rfl) f53_l8_ok, trivial⟩))
   (no_tails (by kernel_rfl))
   (fun ks x hl => by
    have hk : ks = [] := List.length_eq_zero_iff.1 hl
    subst hk
    exact (f53_m x).trans (f53_n _ _ _))
/-! bakelite/bakelaw2.sectBegun -/
noncomputable def f55_code : Code := (Try.f55.body).getD .skip
noncomputable def f55_fx : Fx := { E := env, T := [(57, f57_sm), (53, f53_sm)], H := [], O := [], nodes := [] }
noncomputable def f55_k {R : Type} (k : (Bool × Unit) × (Unit) → Option R) : Option R :=
 ((f57 (0 : Int) [] (10 : Int)).bind fun r0 =>
 ((f53 r0.1.1 (10 : Int)).bind fun r1 =>
 (cond (r0.1.2.1 == (0 : Int))
 (cond (r1.1.2.1 == (0 : Int))
  (cond (decide (((List.length r0.1.1 : Nat) : Int) > (8 : Int)))
   (k (((((List.length r1.1.1 : Nat) : Int) == (0 : Int)), ()), ()))
   (k ((false, ()), ())))
  (k ((false, ()), ())))
 (k ((false, ()), ())))))
noncomputable def f55 : Option ((Bool × Unit) × (Unit)) := f55_k some
noncomputable def f55_sm : Sm := ⟨[], [(.bool, .ro)], fun x => f55⟩
theorem f55_m (x : ArgT []) : codeS f55_fx f55_code (start [] [] x 30) (finK env [.tmp 0] [] [(.bool, .ro)]) = f55_k (fun r => some (r, [])) := by kernel_rfl
theorem f55_n {R : Type} (k : (Bool × Unit) × (Unit) → Option R) : f55_k k = (f55).bind k := by
  simp only [f55, f55_k, cond_bind, ite_bind, bind_bind, some_bind, none_bind, elim_bind]
theorem f55_f : FnOk Try.prog 55 := ⟨Try.f55, Try.func55, by kernel_rfl, by kernel_rfl⟩
theorem f55_ok : SmOk Try.prog 55 f55_sm :=
  sum_of (c := f55_fx) (fn := Try.f55) (code := f55_code) (sm := f55_sm) mixed (env_ok env_envB) (TabsOk.all ⟨⟨f57_ok, f57_f⟩, ⟨f53_ok, f53_f⟩, trivial⟩) Try.func55 (by kernel_rfl)
   ((LoopsOk.of (l := []) (by kernel_rfl) trivial))
   (no_tails (by kernel_rfl))
   (fun ks x hl => by
    have hk : ks = [] := List.length_eq_zero_iff.1 hl
    subst hk
    exact (f55_m x).trans (f55_n _))
/-! bakelite/bakelaw2.SectFormats -/
noncomputable def f11_code : Code := (Try.f11.body).getD .skip
noncomputable def f11_fx : Fx := { E := env, T := [(57, f57_sm), (52, f52_sm), (55, f55_sm), (58, f58_sm), (59, f59_sm), (33, f33_sm)], H := [], O := [], nodes := [] }
noncomputable def f11_k {R : Type} (a0 : Int) (a1 : List (Int × (Int × (List Int × (Bool × Unit))))) (a2 : Int) (k : (Bool × Unit) × (Unit) → Option R) : Option R :=
 ((f57 a0 a1 a2).bind fun r0 =>
 ((f52 a0 a1 a2).bind fun r1 =>
 ((f55).bind fun r2 =>
 (cond r2.1.1
 ((f58 a0 a1).bind fun r3 =>
  ((f59 a0 a1).bind fun r4 =>
  (cond (r3.1.1 == r4.1.1)
  (cond (r0.1.2.1 == r1.1.2.1)
   ((f33 r0.1.1 r1.1.1).bind fun r5 =>
    (k ((r5.1.1, ()), ())))
   (k ((false, ()), ())))
  (k ((false, ()), ())))))
 (k ((false, ()), ()))))))
noncomputable def f11 (a0 : Int) (a1 : List (Int × (Int × (List Int × (Bool × Unit))))) (a2 : Int) : Option ((Bool × Unit) × (Unit)) := f11_k a0 a1 a2 some
noncomputable def f11_sm : Sm := ⟨[.ro (.int .i64), .ro (.slc (.pair (.int .i64) (.pair (.int .i64) (.pair (.slc (.int .u8)) (.pair .bool .unit))))), .ro (.int .i64)], [(.bool, .ro)], fun x => f11 x.1 x.2.1 x.2.2.1⟩
theorem f11_m (x : ArgT [.ro (.int .i64), .ro (.slc (.pair (.int .i64) (.pair (.int .i64) (.pair (.slc (.int .u8)) (.pair .bool .unit))))), .ro (.int .i64)]) : codeS f11_fx f11_code (start [.ro (.int .i64), .ro (.slc (.pair (.int .i64) (.pair (.int .i64) (.pair (.slc (.int .u8)) (.pair .bool .unit))))), .ro (.int .i64)] [] x 45) (finK env [.tmp 6] [.ro (.int .i64), .ro (.slc (.pair (.int .i64) (.pair (.int .i64) (.pair (.slc (.int .u8)) (.pair .bool .unit))))), .ro (.int .i64)] [(.bool, .ro)]) = f11_k x.1 x.2.1 x.2.2.1 (fun r => some (r, [])) := by kernel_rfl
theorem f11_n {R : Type} (a0 : Int) (a1 : List (Int × (Int × (List Int × (Bool × Unit))))) (a2 : Int) (k : (Bool × Unit) × (Unit) → Option R) : f11_k a0 a1 a2 k = (f11 a0 a1 a2).bind k := by
  simp only [f11, f11_k, cond_bind, ite_bind, bind_bind, some_bind, none_bind, elim_bind]
theorem f11_f : FnOk Try.prog 11 := ⟨Try.f11, Try.func11, by kernel_rfl, by kernel_rfl⟩
theorem f11_ok : SmOk Try.prog 11 f11_sm :=
  sum_of (c := f11_fx) (fn := Try.f11) (code := f11_code) (sm := f11_sm) mixed (env_ok env_envB) (TabsOk.all ⟨⟨f57_ok, f57_f⟩, ⟨f52_ok, f52_f⟩, ⟨f55_ok, f55_f⟩, ⟨f58_ok, f58_f⟩, ⟨f59_ok, f59_f⟩, ⟨f33_ok, f33_f⟩, trivial⟩) Try.func11 (by kernel_rfl)
   ((LoopsOk.of (l := []) (by kernel_rfl) trivial))
   (no_tails (by kernel_rfl))
   (fun ks x hl => by
    have hk : ks = [] := List.length_eq_zero_iff.1 hl
    subst hk
    exact (f11_m x).trans (f11_n _ _ _ _))
/-! bakelite/bakeref2.Unsealed -/
noncomputable def f111_code : Code := (Try.f111.body).getD .skip
noncomputable def f111_fx : Fx := { E := env, T := [(109, f109_sm), (24, f24_sm), (76, f76_sm)], H := [], O := [], nodes := [] }
noncomputable def f111_k {R : Type} (a0 : List Int) (k : (List Int × Bool × Unit) × (Unit) → Option R) : Option R :=
 (let v0 : Int := (IntKind.i64.wrap (((List.length a0 : Nat) : Int) - (2 : Int)))
 (cond (decide (v0 < (0 : Int)))
 (k (([], (false, ())), ()))
 (if (0 : Int) ≤ (0 : Int) ∧ (0 : Int) ≤ v0 ∧ v0 ≤ ((List.length a0 : Nat) : Int) then ((f109 (List.take ((Int.toNat v0) - 0) (List.drop 0 a0))).bind fun r1 =>
  ((f24 r1.1.1 a0).bind fun r2 =>
  (cond (!r2.1.1)
  (k (([], (false, ())), ()))
  (if (0 : Int) ≤ (0 : Int) ∧ (0 : Int) ≤ v0 ∧ v0 ≤ ((List.length a0 : Nat) : Int) then ((f76 (List.take ((Int.toNat v0) - 0) (List.drop 0 a0))).bind fun r3 =>
   (k ((r3.1.1, (true, ())), ()))) else none)))) else none)))
noncomputable def f111 (a0 : List Int) : Option ((List Int × Bool × Unit) × (Unit)) := f111_k a0 some
noncomputable def f111_sm : Sm := ⟨[.ro (.slc (.int .u8))], [((.slc (.int .u8)), (.own .ro)), (.bool, .ro)], fun x => f111 x.1⟩
theorem f111_m (x : ArgT [.ro (.slc (.int .u8))]) : codeS f111_fx f111_code (start [.ro (.slc (.int .u8))] [] x 23) (finK env [.tmp 2, .tmp 3] [.ro (.slc (.int .u8))] [((.slc (.int .u8)), (.own .ro)), (.bool, .ro)]) = f111_k x.1 (fun r => some (r, [])) := by kernel_rfl
theorem f111_n {R : Type} (a0 : List Int) (k : (List Int × Bool × Unit) × (Unit) → Option R) : f111_k a0 k = (f111 a0).bind k := by
  simp only [f111, f111_k, cond_bind, ite_bind, bind_bind, some_bind, none_bind, elim_bind]
theorem f111_f : FnOk Try.prog 111 := ⟨Try.f111, Try.func111, by kernel_rfl, by kernel_rfl⟩
theorem f111_ok : SmOk Try.prog 111 f111_sm :=
  sum_of (c := f111_fx) (fn := Try.f111) (code := f111_code) (sm := f111_sm) mixed (env_ok env_envB) (TabsOk.all ⟨⟨f109_ok, f109_f⟩, ⟨f24_ok, f24_f⟩, ⟨f76_ok, f76_f⟩, trivial⟩) Try.func111 (by kernel_rfl)
   ((LoopsOk.of (l := []) (by kernel_rfl) trivial))
   (no_tails (by kernel_rfl))
   (fun ks x hl => by
    have hk : ks = [] := List.length_eq_zero_iff.1 hl
    subst hk
    exact (f111_m x).trans (f111_n _ _))
/-! bakelite/bakeref2.Scanned -/
noncomputable def f54_code : Code := (Try.f54.body).getD .skip
noncomputable def f54_l6_sk : SkS := ⟨104, [(6, .con (.slc (.pair .bool (.pair (.slc (.int .u8)) .unit)))), (1, .ref 143 []), (0, .con (.int .i64))], [(143, ⟨none, (.slc (.pair (.int .i64) (.pair (.int .i64) (.pair (.slc (.int .u8)) (.pair .bool .unit))))), (.own .ro)⟩)]⟩
noncomputable def f54_l6_o0 : SkS := ⟨105, [(8, .ref 143 [])], [(143, ⟨none, (.slc (.pair (.int .i64) (.pair (.int .i64) (.pair (.slc (.int .u8)) (.pair .bool .unit))))), (.own .ro)⟩)]⟩
noncomputable def f54_l6_outs : List Way := [⟨(.exit 0), [], f54_l6_o0⟩]
abbrev f54_l6_C := List (Bool × (List Int × Unit))
abbrev f54_l6_X := (Int × List (Int × (Int × (List Int × (Bool × Unit)))))
abbrev f54_l6_Y := (List (Int × (Int × (List Int × (Bool × Unit)))))
noncomputable def f54_l6_con (t : f54_l6_sk.T) : f54_l6_C := t.1.1
noncomputable def f54_l6_get (t : f54_l6_sk.T) : f54_l6_X := (t.1.2.1, t.2.1.1)
noncomputable def f54_l6_put (c : f54_l6_C) (x : f54_l6_X) : f54_l6_sk.T := ((c, (x.1, ())), ((x.2, ()), ()))
theorem f54_l6_pg (t : f54_l6_sk.T) : f54_l6_put (f54_l6_con t) (f54_l6_get t) = t := by kernel_rfl
noncomputable def f54_l6_w0 (c : f54_l6_C) (y : List (Int × (Int × (List Int × (Bool × Unit))))) : f54_l6_o0.T := ((), ((y, ()), ()))
noncomputable def f54_l6_out (c : f54_l6_C) (y : f54_l6_Y) : OutV f54_l6_outs := (fun y => (.inl (f54_l6_w0 c y))) y
noncomputable def f54_l6_k {R : Type} (a0 : List (Bool × (List Int × Unit))) (a1 : Int) (a2 : List (Int × (Int × (List Int × (Bool × Unit))))) (kin : f54_l6_X → Option R) (k0 : List (Int × (Int × (List Int × (Bool × Unit)))) → Option R) : Option R :=
 (cond (decide (a1 < ((List.length a0 : Nat) : Int)))
 (let v1 : Int := (IntKind.i64.wrap (a1 - (1 : Int)))
  (if (0 : Int) ≤ v1 ∧ v1 < ((List.length a0 : Nat) : Int) then (if (0 : Int) ≤ a1 ∧ a1 < ((List.length a0 : Nat) : Int) then (cond (!(List.getD a0 (Int.toNat v1) (false, (([] : List Int), ()))).1)
  (let v2 : Int := (IntKind.i64.wrap (a1 + (1 : Int)))
   (kin (v2, a2)))
  (cond (!(List.getD a0 (Int.toNat a1) (false, (([] : List Int), ()))).1)
   (let v3 : Int := (IntKind.i64.wrap (a1 + (1 : Int)))
    (kin (v3, a2)))
   (cond (decide (((List.length (List.getD a0 (Int.toNat v1) (false, (([] : List Int), ()))).2.1 : Nat) : Int) < (5 : Int)))
    (let v4 : Int := (IntKind.i64.wrap (a1 + (1 : Int)))
     (kin (v4, a2)))
    (cond (decide (((List.length (List.getD a0 (Int.toNat a1) (false, (([] : List Int), ()))).2.1 : Nat) : Int) < (131 : Int)))
     (let v5 : Int := (IntKind.i64.wrap (a1 + (1 : Int)))
      (kin (v5, a2)))
     (if (0 : Int) ≤ (0 : Int) ∧ (0 : Int) < ((List.length (List.getD a0 (Int.toNat v1) (false, (([] : List Int), ()))).2.1 : Nat) : Int) then (cond ((List.getD (List.getD a0 (Int.toNat v1) (false, (([] : List Int), ()))).2.1 0 (0 : Int)) != (254 : Int))
      (let v6 : Int := (IntKind.i64.wrap (a1 + (1 : Int)))
       (kin (v6, a2)))
      (if (0 : Int) ≤ (0 : Int) ∧ (0 : Int) < ((List.length (List.getD a0 (Int.toNat a1) (false, (([] : List Int), ()))).2.1 : Nat) : Int) then (cond ((List.getD (List.getD a0 (Int.toNat a1) (false, (([] : List Int), ()))).2.1 0 (0 : Int)) != (251 : Int))
       (let v7 : Int := (IntKind.i64.wrap (a1 + (1 : Int)))
        (kin (v7, a2)))
       (if (0 : Int) ≤ (0 : Int) ∧ (0 : Int) ≤ (5 : Int) ∧ (5 : Int) ≤ ((List.length (List.getD a0 (Int.toNat v1) (false, (([] : List Int), ()))).2.1 : Nat) : Int) then ((f111 (List.take 5 (List.drop 0 (List.getD a0 (Int.toNat v1) (false, (([] : List Int), ()))).2.1))).bind fun r8 =>
        (cond (!r8.1.2.1)
        (let v9 : Int := (IntKind.i64.wrap (a1 + (1 : Int)))
         (kin (v9, a2)))
        (if (0 : Int) ≤ (0 : Int) ∧ (0 : Int) ≤ (131 : Int) ∧ (131 : Int) ≤ ((List.length (List.getD a0 (Int.toNat a1) (false, (([] : List Int), ()))).2.1 : Nat) : Int) then ((f111 (List.take 131 (List.drop 0 (List.getD a0 (Int.toNat a1) (false, (([] : List Int), ()))).2.1))).bind fun r10 =>
         (if (0 : Int) ≤ (1 : Int) ∧ (1 : Int) < ((List.length (List.getD a0 (Int.toNat v1) (false, (([] : List Int), ()))).2.1 : Nat) : Int) then (let v11 : Int := (IntKind.i64.wrap (List.getD (List.getD a0 (Int.toNat v1) (false, (([] : List Int), ()))).2.1 1 (0 : Int)))
         (if (0 : Int) ≤ (2 : Int) ∧ (2 : Int) < ((List.length (List.getD a0 (Int.toNat v1) (false, (([] : List Int), ()))).2.1 : Nat) : Int) then (let v12 : Int := (IntKind.i64.wrap (List.getD (List.getD a0 (Int.toNat v1) (false, (([] : List Int), ()))).2.1 2 (0 : Int)))
         (if (0 : Int) ≤ (1 : Int) ∧ (1 : Int) ≤ (129 : Int) ∧ (129 : Int) ≤ ((List.length (List.getD a0 (Int.toNat a1) (false, (([] : List Int), ()))).2.1 : Nat) : Int) then ((f76 (List.take 128 (List.drop 1 (List.getD a0 (Int.toNat a1) (false, (([] : List Int), ()))).2.1))).bind fun r13 =>
         (if (List.length a2 + 1) * 48 ≤ most ∧ 0 < 48 ∧ 0 < 4 then (let r14 : List (Int × (Int × (List Int × (Bool × Unit)))) := (a2 ++ [(v11, (v12, (r13.1.1, ((!r10.1.2.1), ()))))])
         (let v15 : Int := (IntKind.i64.wrap (a1 + (1 : Int)))
         (kin (v15, r14)))) else none)) else none)) else none)) else none)) else none))) else none)) else none)) else none))))) else none) else none))
 (k0 a2))
noncomputable def f54_l6_g (a0 : List (Bool × (List Int × Unit))) (x : f54_l6_X) : Option (f54_l6_X ⊕ f54_l6_Y) := f54_l6_k a0 x.1 x.2 (fun x => some (.inl x)) (fun y => some (.inr y))
noncomputable def f54_l6 (a0 : List (Bool × (List Int × Unit))) (x : f54_l6_X) : Option f54_l6_Y := loopO (f54_l6_g a0) x
noncomputable def f54_l6_nd : Node := { nils := [(8, 143, (.pair (.int .i64) (.pair (.int .i64) (.pair (.slc (.int .u8)) (.pair .bool .unit)))), .ro)], sk := f54_l6_sk, outs := f54_l6_outs, Y := f54_l6_Y, L := fun t => f54_l6 ((f54_l6_con t)) (f54_l6_get t), out := fun t y => f54_l6_out (f54_l6_con t) y, disp := fun t y K => (fun y => K (.exit 0) (f54_l6_o0.fill (f54_l6_w0 (f54_l6_con t) y))) y }
noncomputable def f54_fx : Fx := { E := env, T := [(32, f32_sm), (111, f111_sm), (76, f76_sm)], H := [], O := [], nodes := [((true, 6), f54_l6_nd)] }
noncomputable def f54_l6_b : Code := (loops f54_code).getD 0 .skip
theorem f54_l6_r (c : f54_l6_C) (x : f54_l6_X) : roundS f54_fx f54_l6_b f54_l6_nd (f54_l6_put c x) = f54_l6_k c x.1 x.2 (fun x => some (.inl (f54_l6_put c x))) (fun y => some (.inr (.inl (f54_l6_w0 c y)))) := by kernel_rfl
theorem f54_l6_n {R : Type} (a0 : List (Bool × (List Int × Unit))) (a1 : Int) (a2 : List (Int × (Int × (List Int × (Bool × Unit))))) (kin : f54_l6_X → Option R) (k0 : List (Int × (Int × (List Int × (Bool × Unit)))) → Option R) : f54_l6_k a0 a1 a2 kin k0 = (f54_l6_g a0 (a1, a2)).bind (Sum.elim kin k0) := by
  simp only [f54_l6_g, f54_l6_k, cond_bind, ite_bind, bind_bind, some_bind, none_bind, elim_bind, Sum.elim_inl, Sum.elim_inr]
theorem f54_l6_ok : LoopOk f54_fx f54_l6_b f54_l6_nd := loop_ok f54_l6_con f54_l6_get f54_l6_put f54_l6_pg (fun c => f54_l6_g c) f54_l6_out (fun t y => rfl) (fun t y K => rfl) (fun c x => by
  refine (f54_l6_r c x).trans ((f54_l6_n _ _ _ _ _).trans ?_)
  first
  | rfl
  | congr 1
    funext s
    rcases s with s | s <;> rfl) (fun t => rfl)
noncomputable def f54_k {R : Type} (a0 : List Int) (a1 : Int) (k : (List (Int × (Int × (List Int × (Bool × Unit)))) × Int × Unit) × (Unit) → Option R) : Option R :=
 ((f32 a0 a1).bind fun r0 =>
 (cond (r0.1.2.1 != (0 : Int))
 (k (([], (r0.1.2.1, ())), ()))
 ((f54_l6 r0.1.1 ((1 : Int), [])).bind fun y16 =>
  (cond (decide (((List.length y16 : Nat) : Int) > (12 : Int)))
  (k (([], ((2 : Int), ())), ()))
  (k ((y16, ((0 : Int), ())), ()))))))
noncomputable def f54 (a0 : List Int) (a1 : Int) : Option ((List (Int × (Int × (List Int × (Bool × Unit)))) × Int × Unit) × (Unit)) := f54_k a0 a1 some
noncomputable def f54_sm : Sm := ⟨[.ro (.slc (.int .i64)), .ro (.int .i64)], [((.slc (.pair (.int .i64) (.pair (.int .i64) (.pair (.slc (.int .u8)) (.pair .bool .unit))))), .ro), ((.int .i64), .ro)], fun x => f54 x.1 x.2.1⟩
theorem f54_m (x : ArgT [.ro (.slc (.int .i64)), .ro (.int .i64)]) : codeS f54_fx f54_code (start [.ro (.slc (.int .i64)), .ro (.int .i64)] [] x 114) (finK env [.tmp 4, .tmp 5] [.ro (.slc (.int .i64)), .ro (.int .i64)] [((.slc (.pair (.int .i64) (.pair (.int .i64) (.pair (.slc (.int .u8)) (.pair .bool .unit))))), .ro), ((.int .i64), .ro)]) = f54_k x.1 x.2.1 (fun r => some (r, [])) := by kernel_rfl
theorem f54_n {R : Type} (a0 : List Int) (a1 : Int) (k : (List (Int × (Int × (List Int × (Bool × Unit)))) × Int × Unit) × (Unit) → Option R) : f54_k a0 a1 k = (f54 a0 a1).bind k := by
  simp only [f54, f54_k, cond_bind, ite_bind, bind_bind, some_bind, none_bind, elim_bind]
theorem f54_f : FnOk Try.prog 54 := ⟨Try.f54, Try.func54, by kernel_rfl, by kernel_rfl⟩
theorem f54_ok : SmOk Try.prog 54 f54_sm :=
  sum_of (c := f54_fx) (fn := Try.f54) (code := f54_code) (sm := f54_sm) mixed (env_ok env_envB) (TabsOk.all ⟨⟨f32_ok, f32_f⟩, ⟨f111_ok, f111_f⟩, ⟨f76_ok, f76_f⟩, trivial⟩) Try.func54 (by kernel_rfl)
   ((LoopsOk.of (l := [f54_l6_b]) (by kernel_rfl) ⟨node_is (by kernel_rfl) f54_l6_ok, trivial⟩))
   (no_tails (by kernel_rfl))
   (fun ks x hl => by
    have hk : ks = [] := List.length_eq_zero_iff.1 hl
    subst hk
    exact (f54_m x).trans (f54_n _ _ _))
/-! bakelite/bakelaw2.sameSectors$1 -/
noncomputable def f113_code : Code := (Try.f113.body).getD .skip
noncomputable def f113_fx : Fx := { E := env, T := [(24, f24_sm)], H := [], O := [], nodes := [] }
noncomputable def f113_k {R : Type} (a0 : (Int × (Int × (List Int × (Bool × Unit))))) (a1 : (Int × (Int × (List Int × (Bool × Unit))))) (k : (Bool × Unit) × (Unit) → Option R) : Option R :=
 (cond (a0.1 == a1.1)
 (cond (a0.2.1 == a1.2.1)
  (cond (a0.2.2.2.1 == a1.2.2.2.1)
   ((f24 a0.2.2.1 a1.2.2.1).bind fun r0 =>
    (k ((r0.1.1, ()), ())))
   (k ((false, ()), ())))
  (k ((false, ()), ())))
 (k ((false, ()), ())))
noncomputable def f113 (a0 : (Int × (Int × (List Int × (Bool × Unit))))) (a1 : (Int × (Int × (List Int × (Bool × Unit))))) : Option ((Bool × Unit) × (Unit)) := f113_k a0 a1 some
noncomputable def f113_sm : Sm := ⟨[.ro (.pair (.int .i64) (.pair (.int .i64) (.pair (.slc (.int .u8)) (.pair .bool .unit)))), .ro (.pair (.int .i64) (.pair (.int .i64) (.pair (.slc (.int .u8)) (.pair .bool .unit))))], [(.bool, .ro)], fun x => f113 x.1 x.2.1⟩
theorem f113_m (x : ArgT [.ro (.pair (.int .i64) (.pair (.int .i64) (.pair (.slc (.int .u8)) (.pair .bool .unit)))), .ro (.pair (.int .i64) (.pair (.int .i64) (.pair (.slc (.int .u8)) (.pair .bool .unit))))]) : codeS f113_fx f113_code (start [.ro (.pair (.int .i64) (.pair (.int .i64) (.pair (.slc (.int .u8)) (.pair .bool .unit)))), .ro (.pair (.int .i64) (.pair (.int .i64) (.pair (.slc (.int .u8)) (.pair .bool .unit))))] [] x 31) (finK env [.tmp 4] [.ro (.pair (.int .i64) (.pair (.int .i64) (.pair (.slc (.int .u8)) (.pair .bool .unit)))), .ro (.pair (.int .i64) (.pair (.int .i64) (.pair (.slc (.int .u8)) (.pair .bool .unit))))] [(.bool, .ro)]) = f113_k x.1 x.2.1 (fun r => some (r, [])) := by kernel_rfl
theorem f113_n {R : Type} (a0 : (Int × (Int × (List Int × (Bool × Unit))))) (a1 : (Int × (Int × (List Int × (Bool × Unit))))) (k : (Bool × Unit) × (Unit) → Option R) : f113_k a0 a1 k = (f113 a0 a1).bind k := by
  simp only [f113, f113_k, cond_bind, ite_bind, bind_bind, some_bind, none_bind, elim_bind]
theorem f113_f : FnOk Try.prog 113 := ⟨Try.f113, Try.func113, by kernel_rfl, by kernel_rfl⟩
theorem f113_ok : SmOk Try.prog 113 f113_sm :=
  sum_of (c := f113_fx) (fn := Try.f113) (code := f113_code) (sm := f113_sm) mixed (env_ok env_envB) (TabsOk.all ⟨⟨f24_ok, f24_f⟩, trivial⟩) Try.func113 (by kernel_rfl)
   ((LoopsOk.of (l := []) (by kernel_rfl) trivial))
   (no_tails (by kernel_rfl))
   (fun ks x hl => by
    have hk : ks = [] := List.length_eq_zero_iff.1 hl
    subst hk
    exact (f113_m x).trans (f113_n _ _ _))
/-! slices.EqualFunc[[]bakelite/api.SectorData,[]bakelite/api.SectorData,bakelite/api.SectorData,bakelite/api.SectorData] -/
noncomputable def f112_code : Code := (Try.f112.body).getD .skip
noncomputable def f112_l4_sk : SkS := ⟨14, [(1, .con (.slc (.pair (.int .i64) (.pair (.int .i64) (.pair (.slc (.int .u8)) (.pair .bool .unit)))))), (0, .fn 113 (.tnil)), (12, .con (.slc (.pair (.int .i64) (.pair (.int .i64) (.pair (.slc (.int .u8)) (.pair .bool .unit)))))), (0, .con (.int .i64)), (0, .con (.int .i64))], []⟩
noncomputable def f112_l4_o0 : SkS := ⟨25, [(6, .con .bool)], []⟩
noncomputable def f112_l4_o1 : SkS := ⟨32, [], []⟩
noncomputable def f112_l4_outs : List Way := [⟨.ret, [], f112_l4_o0⟩, ⟨(.exit 0), [], f112_l4_o1⟩]
abbrev f112_l4_C := (List (Int × (Int × (List Int × (Bool × Unit)))) × List (Int × (Int × (List Int × (Bool × Unit)))) × Int)
abbrev f112_l4_X := Int
abbrev f112_l4_Y := (Unit) ⊕ (Unit)
noncomputable def f112_l4_con (t : f112_l4_sk.T) : f112_l4_C := (t.1.1, t.1.2.2.1, t.1.2.2.2.1)
noncomputable def f112_l4_get (t : f112_l4_sk.T) : f112_l4_X := t.1.2.2.2.2.1
noncomputable def f112_l4_put (c : f112_l4_C) (x : f112_l4_X) : f112_l4_sk.T := ((c.1, ((), (c.2.1, (c.2.2, (x, ()))))), ())
theorem f112_l4_pg (t : f112_l4_sk.T) : f112_l4_put (f112_l4_con t) (f112_l4_get t) = t := by kernel_rfl
noncomputable def f112_l4_w0 (c : f112_l4_C) (y : Unit) : f112_l4_o0.T := ((false, ()), ())
noncomputable def f112_l4_w1 (c : f112_l4_C) (y : Unit) : f112_l4_o1.T := ((), ())
noncomputable def f112_l4_out (c : f112_l4_C) (y : f112_l4_Y) : OutV f112_l4_outs := (Sum.elim (fun y => (.inl (f112_l4_w0 c y))) (fun y => (.inr (.inl (f112_l4_w1 c y))))) y
noncomputable def f112_l4_k {R : Type} (a0 : List (Int × (Int × (List Int × (Bool × Unit))))) (a1 : List (Int × (Int × (List Int × (Bool × Unit))))) (a2 : Int) (a3 : Int) (kin : f112_l4_X → Option R) (k0 : Unit → Option R) (k1 : Unit → Option R) : Option R :=
 (cond (decide (a3 < a2))
 (if (0 : Int) ≤ a3 ∧ a3 < ((List.length a1 : Nat) : Int) then (if (0 : Int) ≤ a3 ∧ a3 < ((List.length a0 : Nat) : Int) then ((f113 (List.getD a1 (Int.toNat a3) ((0 : Int), ((0 : Int), (([] : List Int), (false, ()))))) (List.getD a0 (Int.toNat a3) ((0 : Int), ((0 : Int), (([] : List Int), (false, ())))))).bind fun r0 =>
  (cond (!r0.1.1)
  (k0 ())
  (let v1 : Int := (IntKind.i64.wrap (a3 + (1 : Int)))
   (kin v1)))) else none) else none)
 (k1 ()))
noncomputable def f112_l4_g (a0 : List (Int × (Int × (List Int × (Bool × Unit))))) (a1 : List (Int × (Int × (List Int × (Bool × Unit))))) (a2 : Int) (x : f112_l4_X) : Option (f112_l4_X ⊕ f112_l4_Y) := f112_l4_k a0 a1 a2 x (fun x => some (.inl x)) (fun y => some (.inr (.inl y))) (fun y => some (.inr (.inr y)))
noncomputable def f112_l4 (a0 : List (Int × (Int × (List Int × (Bool × Unit))))) (a1 : List (Int × (Int × (List Int × (Bool × Unit))))) (a2 : Int) (x : f112_l4_X) : Option f112_l4_Y := loopO (f112_l4_g a0 a1 a2) x
noncomputable def f112_l4_nd : Node := { nils := [], sk := f112_l4_sk, outs := f112_l4_outs, Y := f112_l4_Y, L := fun t => f112_l4 ((f112_l4_con t).1) ((f112_l4_con t).2.1) ((f112_l4_con t).2.2) (f112_l4_get t), out := fun t y => f112_l4_out (f112_l4_con t) y, disp := fun t y K => (Sum.elim (fun y => K .ret (f112_l4_o0.fill (f112_l4_w0 (f112_l4_con t) y))) (fun y => K (.exit 0) (f112_l4_o1.fill (f112_l4_w1 (f112_l4_con t) y)))) y }
noncomputable def f112_fx : Fx := { E := env, T := [(113, f113_sm)], H := [], O := [], nodes := [((true, 4), f112_l4_nd)] }
noncomputable def f112_l4_b : Code := (loops f112_code).getD 0 .skip
theorem f112_l4_r (c : f112_l4_C) (x : f112_l4_X) : roundS f112_fx f112_l4_b f112_l4_nd (f112_l4_put c x) = f112_l4_k c.1 c.2.1 c.2.2 x (fun x => some (.inl (f112_l4_put c x))) (fun y => some (.inr (.inl (f112_l4_w0 c y)))) (fun y => some (.inr (.inr (.inl (f112_l4_w1 c y))))) := by kernel_rfl
theorem f112_l4_n {R : Type} (a0 : List (Int × (Int × (List Int × (Bool × Unit))))) (a1 : List (Int × (Int × (List Int × (Bool × Unit))))) (a2 : Int) (a3 : Int) (kin : f112_l4_X → Option R) (k0 : Unit → Option R) (k1 : Unit → Option R) : f112_l4_k a0 a1 a2 a3 kin k0 k1 = (f112_l4_g a0 a1 a2 a3).bind (Sum.elim kin (Sum.elim k0 k1)) := by
  simp only [f112_l4_g, f112_l4_k, cond_bind, ite_bind, bind_bind, some_bind, none_bind, elim_bind, Sum.elim_inl, Sum.elim_inr]
theorem f112_l4_ok : LoopOk f112_fx f112_l4_b f112_l4_nd := loop_ok f112_l4_con f112_l4_get f112_l4_put f112_l4_pg (fun c => f112_l4_g c.1 c.2.1 c.2.2) f112_l4_out (fun t y => rfl) (by intro R t y K; rcases y with y | y <;> rfl) (fun c x => by
  refine (f112_l4_r c x).trans ((f112_l4_n _ _ _ _ _ _ _).trans ?_)
  first
  | rfl
  | congr 1
    funext s
    rcases s with s | s | s <;> rfl) (fun t => rfl)
noncomputable def f112_k {R : Type} (a0 : List (Int × (Int × (List Int × (Bool × Unit))))) (a1 : List (Int × (Int × (List Int × (Bool × Unit))))) (a2 : (Unit)) (k : (Bool × Unit) × (Unit) → Option R) : Option R :=
 (cond (((List.length a0 : Nat) : Int) != ((List.length a1 : Nat) : Int))
 (k ((false, ()), ()))
 ((f112_l4 a1 a0 ((List.length a0 : Nat) : Int) (0 : Int)).bind fun y2 =>
  ((Sum.elim (fun z3 =>
  (k ((false, ()), ())))
  (fun z4 =>
  (k ((true, ()), ())))) y2)))
noncomputable def f112 (a0 : List (Int × (Int × (List Int × (Bool × Unit))))) (a1 : List (Int × (Int × (List Int × (Bool × Unit))))) (a2 : (Unit)) : Option ((Bool × Unit) × (Unit)) := f112_k a0 a1 a2 some
noncomputable def f112_sm : Sm := ⟨[.ro (.slc (.pair (.int .i64) (.pair (.int .i64) (.pair (.slc (.int .u8)) (.pair .bool .unit))))), .ro (.slc (.pair (.int .i64) (.pair (.int .i64) (.pair (.slc (.int .u8)) (.pair .bool .unit))))), .fn 113 []], [(.bool, .ro)], fun x => f112 x.1 x.2.1 x.2.2.1⟩
theorem f112_m (x : ArgT [.ro (.slc (.pair (.int .i64) (.pair (.int .i64) (.pair (.slc (.int .u8)) (.pair .bool .unit))))), .ro (.slc (.pair (.int .i64) (.pair (.int .i64) (.pair (.slc (.int .u8)) (.pair .bool .unit))))), .fn 113 []]) : codeS f112_fx f112_code (start [.ro (.slc (.pair (.int .i64) (.pair (.int .i64) (.pair (.slc (.int .u8)) (.pair .bool .unit))))), .ro (.slc (.pair (.int .i64) (.pair (.int .i64) (.pair (.slc (.int .u8)) (.pair .bool .unit))))), .fn 113 []] [] x 32) (finK env [.tmp 6] [.ro (.slc (.pair (.int .i64) (.pair (.int .i64) (.pair (.slc (.int .u8)) (.pair .bool .unit))))), .ro (.slc (.pair (.int .i64) (.pair (.int .i64) (.pair (.slc (.int .u8)) (.pair .bool .unit))))), .fn 113 []] [(.bool, .ro)]) = f112_k x.1 x.2.1 x.2.2.1 (fun r => some (r, [])) := by kernel_rfl
theorem f112_n {R : Type} (a0 : List (Int × (Int × (List Int × (Bool × Unit))))) (a1 : List (Int × (Int × (List Int × (Bool × Unit))))) (a2 : (Unit)) (k : (Bool × Unit) × (Unit) → Option R) : f112_k a0 a1 a2 k = (f112 a0 a1 a2).bind k := by
  simp only [f112, f112_k, cond_bind, ite_bind, bind_bind, some_bind, none_bind, elim_bind]
theorem f112_f : FnOk Try.prog 112 := ⟨Try.f112, Try.func112, by kernel_rfl, by kernel_rfl⟩
theorem f112_ok : SmOk Try.prog 112 f112_sm :=
  sum_of (c := f112_fx) (fn := Try.f112) (code := f112_code) (sm := f112_sm) mixed (env_ok env_envB) (TabsOk.all ⟨⟨f113_ok, f113_f⟩, trivial⟩) Try.func112 (by kernel_rfl)
   ((LoopsOk.of (l := [f112_l4_b]) (by kernel_rfl) ⟨node_is (by kernel_rfl) f112_l4_ok, trivial⟩))
   (no_tails (by kernel_rfl))
   (fun ks x hl => by
    have hk : ks = [] := List.length_eq_zero_iff.1 hl
    subst hk
    exact (f112_m x).trans (f112_n _ _ _ _))
/-! bakelite/bakelaw2.sameSectors -/
noncomputable def f56_code : Code := (Try.f56.body).getD .skip
noncomputable def f56_fx : Fx := { E := env, T := [(112, f112_sm)], H := [], O := [], nodes := [] }
noncomputable def f56_k {R : Type} (a0 : List (Int × (Int × (List Int × (Bool × Unit))))) (a1 : List (Int × (Int × (List Int × (Bool × Unit))))) (k : (Bool × Unit) × (Unit) → Option R) : Option R :=
 ((f112 a0 a1 ()).bind fun r0 =>
 (k ((r0.1.1, ()), ())))
noncomputable def f56 (a0 : List (Int × (Int × (List Int × (Bool × Unit))))) (a1 : List (Int × (Int × (List Int × (Bool × Unit))))) : Option ((Bool × Unit) × (Unit)) := f56_k a0 a1 some
noncomputable def f56_sm : Sm := ⟨[.ro (.slc (.pair (.int .i64) (.pair (.int .i64) (.pair (.slc (.int .u8)) (.pair .bool .unit))))), .ro (.slc (.pair (.int .i64) (.pair (.int .i64) (.pair (.slc (.int .u8)) (.pair .bool .unit)))))], [(.bool, .ro)], fun x => f56 x.1 x.2.1⟩
theorem f56_m (x : ArgT [.ro (.slc (.pair (.int .i64) (.pair (.int .i64) (.pair (.slc (.int .u8)) (.pair .bool .unit))))), .ro (.slc (.pair (.int .i64) (.pair (.int .i64) (.pair (.slc (.int .u8)) (.pair .bool .unit)))))]) : codeS f56_fx f56_code (start [.ro (.slc (.pair (.int .i64) (.pair (.int .i64) (.pair (.slc (.int .u8)) (.pair .bool .unit))))), .ro (.slc (.pair (.int .i64) (.pair (.int .i64) (.pair (.slc (.int .u8)) (.pair .bool .unit)))))] [] x 8) (finK env [.tmp 4] [.ro (.slc (.pair (.int .i64) (.pair (.int .i64) (.pair (.slc (.int .u8)) (.pair .bool .unit))))), .ro (.slc (.pair (.int .i64) (.pair (.int .i64) (.pair (.slc (.int .u8)) (.pair .bool .unit)))))] [(.bool, .ro)]) = f56_k x.1 x.2.1 (fun r => some (r, [])) := by kernel_rfl
theorem f56_n {R : Type} (a0 : List (Int × (Int × (List Int × (Bool × Unit))))) (a1 : List (Int × (Int × (List Int × (Bool × Unit))))) (k : (Bool × Unit) × (Unit) → Option R) : f56_k a0 a1 k = (f56 a0 a1).bind k := by
  simp only [f56, f56_k, cond_bind, ite_bind, bind_bind, some_bind, none_bind, elim_bind]
theorem f56_f : FnOk Try.prog 56 := ⟨Try.f56, Try.func56, by kernel_rfl, by kernel_rfl⟩
theorem f56_ok : SmOk Try.prog 56 f56_sm :=
  sum_of (c := f56_fx) (fn := Try.f56) (code := f56_code) (sm := f56_sm) mixed (env_ok env_envB) (TabsOk.all ⟨⟨f112_ok, f112_f⟩, trivial⟩) Try.func56 (by kernel_rfl)
   ((LoopsOk.of (l := []) (by kernel_rfl) trivial))
   (no_tails (by kernel_rfl))
   (fun ks x hl => by
    have hk : ks = [] := List.length_eq_zero_iff.1 hl
    subst hk
    exact (f56_m x).trans (f56_n _ _ _))
/-! bakelite/bakelaw2.SectScans -/
noncomputable def f10_code : Code := (Try.f10.body).getD .skip
noncomputable def f10_fx : Fx := { E := env, T := [(53, f53_sm), (54, f54_sm), (55, f55_sm), (56, f56_sm)], H := [], O := [], nodes := [] }
noncomputable def f10_k {R : Type} (a0 : List Int) (a1 : Int) (k : (Bool × Unit) × (Unit) → Option R) : Option R :=
 ((f53 a0 a1).bind fun r0 =>
 ((f54 a0 a1).bind fun r1 =>
 ((f55).bind fun r2 =>
 (cond r2.1.1
 (cond (r0.1.2.1 == r1.1.2.1)
  ((f56 r0.1.1 r1.1.1).bind fun r3 =>
   (k ((r3.1.1, ()), ())))
  (k ((false, ()), ())))
 (k ((false, ()), ()))))))
noncomputable def f10 (a0 : List Int) (a1 : Int) : Option ((Bool × Unit) × (Unit)) := f10_k a0 a1 some
noncomputable def f10_sm : Sm := ⟨[.ro (.slc (.int .i64)), .ro (.int .i64)], [(.bool, .ro)], fun x => f10 x.1 x.2.1⟩
theorem f10_m (x : ArgT [.ro (.slc (.int .i64)), .ro (.int .i64)]) : codeS f10_fx f10_code (start [.ro (.slc (.int .i64)), .ro (.int .i64)] [] x 32) (finK env [.tmp 4] [.ro (.slc (.int .i64)), .ro (.int .i64)] [(.bool, .ro)]) = f10_k x.1 x.2.1 (fun r => some (r, [])) := by kernel_rfl
theorem f10_n {R : Type} (a0 : List Int) (a1 : Int) (k : (Bool × Unit) × (Unit) → Option R) : f10_k a0 a1 k = (f10 a0 a1).bind k := by
  simp only [f10, f10_k, cond_bind, ite_bind, bind_bind, some_bind, none_bind, elim_bind]
theorem f10_f : FnOk Try.prog 10 := ⟨Try.f10, Try.func10, by kernel_rfl, by kernel_rfl⟩
theorem f10_ok : SmOk Try.prog 10 f10_sm :=
  sum_of (c := f10_fx) (fn := Try.f10) (code := f10_code) (sm := f10_sm) mixed (env_ok env_envB) (TabsOk.all ⟨⟨f53_ok, f53_f⟩, ⟨f54_ok, f54_f⟩, ⟨f55_ok, f55_f⟩, ⟨f56_ok, f56_f⟩, trivial⟩) Try.func10 (by kernel_rfl)
   ((LoopsOk.of (l := []) (by kernel_rfl) trivial))
   (no_tails (by kernel_rfl))
   (fun ks x hl => by
    have hk : ks = [] := List.length_eq_zero_iff.1 hl
    subst hk
    exact (f10_m x).trans (f10_n _ _ _))
end Go.Proofs.Ytlgbhaigpecdoaa.V
