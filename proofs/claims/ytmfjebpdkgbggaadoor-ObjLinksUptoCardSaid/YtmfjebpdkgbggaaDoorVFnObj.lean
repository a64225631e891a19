/- Printed. -/
import Derived.Test.YtmfjebpdkgbggaaDoorVExt
set_option linter.unusedVariables false
set_option linter.unusedSimpArgs false
set_option maxRecDepth 100000
namespace Go.Proofs.YtmfjebpdkgbggaaDoor.V
open Go
abbrev Qv0 : Type := ByteArray × (List Int × (List (ByteArray × (Int × Unit)) × (List (Int × (Int × (ByteArray × (Int × Unit)))) × Unit)))
abbrev Qv1 : Type := ByteArray × (Int × Unit)
abbrev Qv2 : Type := Int × (List Int × (List Qv1 × Unit))
abbrev Qt3 : Ty := .pair .str (.pair (.slc (.int .u8)) (.pair (.slc (.pair .str (.pair (.int .i64) .unit))) (.pair (.slc (.pair (.int .i64) (.pair (.int .i64) (.pair .str (.pair (.int .i64) .unit))))) .unit)))
abbrev Qt4 : Ty := .pair .str (.pair (.int .i64) .unit)
abbrev Qt5 : Ty := .pair (.int .i64) (.pair (.slc (.int .u8)) (.pair (.slc Qt4) .unit))
abbrev Qt6 : Md := .pair .ro (.pair (.own .ro) (.pair (.own .ro) .ro))
abbrev Qt7 : Ty := .pair (.int .i64) (.pair (.int .i64) Qt4)
noncomputable def f14_code : Code := (Tryd.f14.body).getD .skip
noncomputable def f14_l4_sk : SkS := ⟨25, [(0, .con .str), (22, .con (.int .i64)), (0, .con (.int .i64))], []⟩
noncomputable def f14_l4_o0 : SkS := ⟨47, [(2, .con .bool)], []⟩
noncomputable def f14_l4_o1 : SkS := ⟨50, [], []⟩
noncomputable def f14_l4_outs : List Way := [⟨.ret, [], f14_l4_o0⟩, ⟨(.exit 0), [], f14_l4_o1⟩]
abbrev f14_l4_C := (ByteArray × Int)
abbrev f14_l4_X := Int
abbrev f14_l4_Y := (Unit) ⊕ (Unit)
noncomputable def f14_l4_con (t : f14_l4_sk.T) : f14_l4_C := (t.1.1, t.1.2.1)
noncomputable def f14_l4_get (t : f14_l4_sk.T) : f14_l4_X := t.1.2.2.1
noncomputable def f14_l4_put (c : f14_l4_C) (x : f14_l4_X) : f14_l4_sk.T := ((c.1, (c.2, (x, ()))), ())
theorem f14_l4_pg (t : f14_l4_sk.T) : f14_l4_put (f14_l4_con t) (f14_l4_get t) = t := by kernel_rfl
noncomputable def f14_l4_w0 (c : f14_l4_C) (y : Unit) : f14_l4_o0.T := ((false, ()), ())
noncomputable def f14_l4_w1 (c : f14_l4_C) (y : Unit) : f14_l4_o1.T := ((), ())
noncomputable def f14_l4_out (c : f14_l4_C) (y : f14_l4_Y) : OutV f14_l4_outs := (Sum.elim (fun y => (.inl (f14_l4_w0 c y))) (fun y => (.inr (.inl (f14_l4_w1 c y))))) y
noncomputable def f14_l4_k {R : Type} (a0 : ByteArray) (a1 : Int) (a2 : Int) (kin : f14_l4_X → Option R) (k0 : Unit → Option R) (k1 : Unit → Option R) : Option R :=
 (cond (decide (a2 < a1))
 (if (0 : Int) ≤ a2 ∧ a2 < ((ByteArray.size a0 : Nat) : Int) then (cond (decide ((bt a0 a2) ≥ (97 : Int)))
  (cond (decide ((bt a0 a2) ≤ (122 : Int)))
   (let v0 : Int := (IntKind.i64.wrap (a2 + (1 : Int)))
    (kin v0))
   (cond (decide ((bt a0 a2) ≥ (48 : Int)))
    (cond (decide ((bt a0 a2) ≤ (57 : Int)))
     (let v1 : Int := (IntKind.i64.wrap (a2 + (1 : Int)))
      (kin v1))
     (cond (!((bt a0 a2) == (45 : Int)))
      (k0 ())
      (let v2 : Int := (IntKind.i64.wrap (a2 + (1 : Int)))
       (kin v2))))
    (cond (!((bt a0 a2) == (45 : Int)))
     (k0 ())
     (let v3 : Int := (IntKind.i64.wrap (a2 + (1 : Int)))
      (kin v3)))))
  (cond (decide ((bt a0 a2) ≥ (48 : Int)))
   (cond (decide ((bt a0 a2) ≤ (57 : Int)))
    (let v4 : Int := (IntKind.i64.wrap (a2 + (1 : Int)))
     (kin v4))
    (cond (!((bt a0 a2) == (45 : Int)))
     (k0 ())
     (let v5 : Int := (IntKind.i64.wrap (a2 + (1 : Int)))
      (kin v5))))
   (cond (!((bt a0 a2) == (45 : Int)))
    (k0 ())
    (let v6 : Int := (IntKind.i64.wrap (a2 + (1 : Int)))
     (kin v6))))) else none)
 (k1 ()))
noncomputable def f14_l4_g (a0 : ByteArray) (a1 : Int) (x : f14_l4_X) : Option (f14_l4_X ⊕ f14_l4_Y) := f14_l4_k a0 a1 x (fun x => some (.inl x)) (fun y => some (.inr (.inl y))) (fun y => some (.inr (.inr y)))
noncomputable def f14_l4 (a0 : ByteArray) (a1 : Int) (x : f14_l4_X) : Option f14_l4_Y := loopO (f14_l4_g a0 a1) x
noncomputable def f14_l4_nd : Node := { nils := [], sk := f14_l4_sk, outs := f14_l4_outs, Y := f14_l4_Y, L := fun t => f14_l4 ((f14_l4_con t).1) ((f14_l4_con t).2) (f14_l4_get t), out := fun t y => f14_l4_out (f14_l4_con t) y, disp := fun t y K => (Sum.elim (fun y => K .ret (f14_l4_o0.fill (f14_l4_w0 (f14_l4_con t) y))) (fun y => K (.exit 0) (f14_l4_o1.fill (f14_l4_w1 (f14_l4_con t) y)))) y }
noncomputable def f14_fx : Fx := { E := env, T := [], H := [], O := [], nodes := [((true, 4), f14_l4_nd)] }
noncomputable def f14_l4_b : Code := (loops f14_code).getD 0 .skip
theorem f14_l4_r (c : f14_l4_C) (x : f14_l4_X) : roundS f14_fx f14_l4_b f14_l4_nd (f14_l4_put c x) = f14_l4_k c.1 c.2 x (fun x => some (.inl (f14_l4_put c x))) (fun y => some (.inr (.inl (f14_l4_w0 c y)))) (fun y => some (.inr (.inr (.inl (f14_l4_w1 c y))))) := by kernel_rfl
theorem f14_l4_n {R : Type} (a0 : ByteArray) (a1 : Int) (a2 : Int) (kin : f14_l4_X → Option R) (k0 : Unit → Option R) (k1 : Unit → Option R) : f14_l4_k a0 a1 a2 kin k0 k1 = (f14_l4_g a0 a1 a2).bind (Sum.elim kin (Sum.elim k0 k1)) := by
  simp only [f14_l4_g, f14_l4_k, cond_bind, ite_bind, bind_bind, some_bind, none_bind, elim_bind, whenS_bind, Sum.elim_inl, Sum.elim_inr]
theorem f14_l4_ok : LoopOk f14_fx f14_l4_b f14_l4_nd := loop_ok f14_l4_con f14_l4_get f14_l4_put f14_l4_pg (fun c => f14_l4_g c.1 c.2) f14_l4_out (fun t y => rfl) (by intro R t y K; rcases y with y | y <;> rfl) (fun c x => by
  refine (f14_l4_r c x).trans ((f14_l4_n _ _ _ _ _ _).trans ?_)
  first
  | rfl
  | congr 1
    funext s
    rcases s with s | s | s <;> rfl) (fun t => rfl)
noncomputable def f14_k {R : Type} (a0 : ByteArray) (k : (Bool × Unit) × (Unit) → Option R) : Option R :=
 (cond (strEq a0 (⟨#[]⟩ : ByteArray))
 (k ((false, ()), ()))
 (cond (decide (((ByteArray.size a0 : Nat) : Int) > (20 : Int)))
  (k ((false, ()), ()))
  (if (0 : Int) ≤ (0 : Int) ∧ (0 : Int) < ((ByteArray.size a0 : Nat) : Int) then (cond (decide ((bt a0 (0 : Int)) < (97 : Int)))
   (k ((false, ()), ()))
   (if (0 : Int) ≤ (0 : Int) ∧ (0 : Int) < ((ByteArray.size a0 : Nat) : Int) then (cond (decide ((bt a0 (0 : Int)) > (122 : Int)))
    (k ((false, ()), ()))
    ((f14_l4 a0 ((ByteArray.size a0 : Nat) : Int) (0 : Int)).bind fun y7 =>
     ((Sum.elim (fun z8 =>
     (k ((false, ()), ())))
     (fun z9 =>
     (k ((true, ()), ())))) y7))) else none)) else none)))
noncomputable def f14 (a0 : ByteArray) : Option ((Bool × Unit) × (Unit)) := f14_k a0 some
noncomputable def f14_sm : Sm := { ps := [.ro .str], rs := [(.bool, .ro)], F := fun x => f14 x.1 }
theorem f14_m (x : ArgT [.ro .str]) : codeS f14_fx f14_code (start [.ro .str] [] x 50) (finK env [.tmp 2] [.ro .str] [(.bool, .ro)]) = f14_k x.1 (fun r => some (r, [])) := by kernel_rfl
theorem f14_n {R : Type} (a0 : ByteArray) (k : (Bool × Unit) × (Unit) → Option R) : f14_k a0 k = (f14 a0).bind k := by
  simp only [f14, f14_k, cond_bind, ite_bind, bind_bind, some_bind, none_bind, elim_bind, whenS_bind]
theorem f14_ok : SmOk Tryd.prog 14 f14_sm :=
  sum_of (c := f14_fx) (fn := Tryd.f14) (code := f14_code) (sm := f14_sm) mixed (env_ok env_envB) (TabsOk.all trivial) Tryd.func14 (by kernel_rfl)
   ((LoopsOk.of (l := [f14_l4_b]) (by kernel_rfl) ⟨node_is (by kernel_rfl) f14_l4_ok, trivial⟩))
   (no_tails (by kernel_rfl)) rfl
   (fun ks x hl => by
    have hk : ks = [] := List.length_eq_zero_iff.1 hl
    subst hk
    exact (f14_m x).trans (f14_n _ _))
theorem f14_c : CalOk Tryd.prog 14 f14_sm := .inl ⟨f14_ok, ⟨Tryd.f14, Tryd.func14, by kernel_rfl, by kernel_rfl⟩⟩
noncomputable def f16_code : Code := (Tryd.f16.body).getD .skip
noncomputable def f16_fx : Fx := { E := env, T := [], H := [], O := [], nodes := [] }
noncomputable def f16_k {R : Type} (a0 : Qv1) (a1 : Qv1) (k : (Bool × Unit) × (Unit) → Option R) : Option R :=
 (k (((strEq a0.1 a1.1), ()), ()))
noncomputable def f16 (a0 : Qv1) (a1 : Qv1) : Option ((Bool × Unit) × (Unit)) := f16_k a0 a1 some
noncomputable def f16_sm : Sm := { ps := [.ro Qt4, .lk Qt4], rs := [(.bool, .ro)], F := fun x => f16 x.1 x.2.1 }
theorem f16_m (x : ArgT [.ro Qt4, .lk Qt4]) : codeS f16_fx f16_code (start [.ro Qt4, .lk Qt4] [] x 9) (finK env [.tmp 3] [.ro Qt4, .lk Qt4] [(.bool, .ro)]) = f16_k x.1 x.2.1 (fun r => some (r, [])) := by kernel_rfl
theorem f16_n {R : Type} (a0 : Qv1) (a1 : Qv1) (k : (Bool × Unit) × (Unit) → Option R) : f16_k a0 a1 k = (f16 a0 a1).bind k := by
  simp only [f16, f16_k, cond_bind, ite_bind, bind_bind, some_bind, none_bind, elim_bind, whenS_bind]
theorem f16_ok : SmOk Tryd.prog 16 f16_sm :=
  sum_of (c := f16_fx) (fn := Tryd.f16) (code := f16_code) (sm := f16_sm) mixed (env_ok env_envB) (TabsOk.all trivial) Tryd.func16 (by kernel_rfl)
   ((LoopsOk.of (l := []) (by kernel_rfl) trivial))
   (no_tails (by kernel_rfl)) rfl
   (fun ks x hl => by
    have hk : ks = [] := List.length_eq_zero_iff.1 hl
    subst hk
    exact (f16_m x).trans (f16_n _ _ _))
theorem f16_c : CalOk Tryd.prog 16 f16_sm := .inl ⟨f16_ok, ⟨Tryd.f16, Tryd.func16, by kernel_rfl, by kernel_rfl⟩⟩
noncomputable def f21_code : Code := (Tryd.f21.body).getD .skip
noncomputable def f21_l2_sk : SkS := ⟨10, [(0, .con (.slc Qt4)), (0, .fn 16 (.tcons (.pro Qt4) (.tnil))), (5, .con (.int .i64)), (0, .con (.int .i64))], []⟩
noncomputable def f21_l2_o0 : SkS := ⟨14, [(4, .con (.int .i64))], []⟩
noncomputable def f21_l2_o1 : SkS := ⟨19, [], []⟩
noncomputable def f21_l2_outs : List Way := [⟨.ret, [], f21_l2_o0⟩, ⟨(.exit 0), [], f21_l2_o1⟩]
abbrev f21_l2_C := (List Qv1 × Qv1 × Int)
abbrev f21_l2_X := Int
abbrev f21_l2_Y := (Int) ⊕ (Unit)
noncomputable def f21_l2_con (t : f21_l2_sk.T) : f21_l2_C := (t.1.1, t.1.2.1.1, t.1.2.2.1)
noncomputable def f21_l2_get (t : f21_l2_sk.T) : f21_l2_X := t.1.2.2.2.1
noncomputable def f21_l2_put (c : f21_l2_C) (x : f21_l2_X) : f21_l2_sk.T := ((c.1, ((c.2.1, ()), (c.2.2, (x, ())))), ())
theorem f21_l2_pg (t : f21_l2_sk.T) : f21_l2_put (f21_l2_con t) (f21_l2_get t) = t := by kernel_rfl
noncomputable def f21_l2_w0 (c : f21_l2_C) (y : Int) : f21_l2_o0.T := ((y, ()), ())
noncomputable def f21_l2_w1 (c : f21_l2_C) (y : Unit) : f21_l2_o1.T := ((), ())
noncomputable def f21_l2_out (c : f21_l2_C) (y : f21_l2_Y) : OutV f21_l2_outs := (Sum.elim (fun y => (.inl (f21_l2_w0 c y))) (fun y => (.inr (.inl (f21_l2_w1 c y))))) y
noncomputable def f21_l2_k {R : Type} (a0 : List Qv1) (a1 : Qv1) (a2 : Int) (a3 : Int) (kin : f21_l2_X → Option R) (k0 : Int → Option R) (k1 : Unit → Option R) : Option R :=
 (cond (decide (a3 < a2))
 (if (0 : Int) ≤ a3 ∧ a3 < ((List.length a0 : Nat) : Int) then ((f16 (List.getD a0 (Int.toNat a3) (ByteArray.empty, ((0 : Int), ()))) a1).bind fun r0 =>
  (cond r0.1.1
  (k0 a3)
  (let v1 : Int := (IntKind.i64.wrap (a3 + (1 : Int)))
   (kin v1)))) else none)
 (k1 ()))
noncomputable def f21_l2_g (a0 : List Qv1) (a1 : Qv1) (a2 : Int) (x : f21_l2_X) : Option (f21_l2_X ⊕ f21_l2_Y) := f21_l2_k a0 a1 a2 x (fun x => some (.inl x)) (fun y => some (.inr (.inl y))) (fun y => some (.inr (.inr y)))
noncomputable def f21_l2 (a0 : List Qv1) (a1 : Qv1) (a2 : Int) (x : f21_l2_X) : Option f21_l2_Y := loopO (f21_l2_g a0 a1 a2) x
noncomputable def f21_l2_nd : Node := { nils := [], sk := f21_l2_sk, outs := f21_l2_outs, Y := f21_l2_Y, L := fun t => f21_l2 ((f21_l2_con t).1) ((f21_l2_con t).2.1) ((f21_l2_con t).2.2) (f21_l2_get t), out := fun t y => f21_l2_out (f21_l2_con t) y, disp := fun t y K => (Sum.elim (fun y => K .ret (f21_l2_o0.fill (f21_l2_w0 (f21_l2_con t) y))) (fun y => K (.exit 0) (f21_l2_o1.fill (f21_l2_w1 (f21_l2_con t) y)))) y }
noncomputable def f21_fx : Fx := { E := env, T := [(16, f16_sm)], H := [], O := [], nodes := [((true, 2), f21_l2_nd)] }
noncomputable def f21_l2_b : Code := (loops f21_code).getD 0 .skip
theorem f21_l2_r (c : f21_l2_C) (x : f21_l2_X) : roundS f21_fx f21_l2_b f21_l2_nd (f21_l2_put c x) = f21_l2_k c.1 c.2.1 c.2.2 x (fun x => some (.inl (f21_l2_put c x))) (fun y => some (.inr (.inl (f21_l2_w0 c y)))) (fun y => some (.inr (.inr (.inl (f21_l2_w1 c y))))) := by kernel_rfl
theorem f21_l2_n {R : Type} (a0 : List Qv1) (a1 : Qv1) (a2 : Int) (a3 : Int) (kin : f21_l2_X → Option R) (k0 : Int → Option R) (k1 : Unit → Option R) : f21_l2_k a0 a1 a2 a3 kin k0 k1 = (f21_l2_g a0 a1 a2 a3).bind (Sum.elim kin (Sum.elim k0 k1)) := by
  simp only [f21_l2_g, f21_l2_k, cond_bind, ite_bind, bind_bind, some_bind, none_bind, elim_bind, whenS_bind, Sum.elim_inl, Sum.elim_inr]
theorem f21_l2_ok : LoopOk f21_fx f21_l2_b f21_l2_nd := loop_ok f21_l2_con f21_l2_get f21_l2_put f21_l2_pg (fun c => f21_l2_g c.1 c.2.1 c.2.2) f21_l2_out (fun t y => rfl) (by intro R t y K; rcases y with y | y <;> rfl) (fun c x => by
  refine (f21_l2_r c x).trans ((f21_l2_n _ _ _ _ _ _ _).trans ?_)
  first
  | rfl
  | congr 1
    funext s
    rcases s with s | s | s <;> rfl) (fun t => rfl)
noncomputable def f21_k {R : Type} (a0 : List Qv1) (a1 : (Qv1 × Unit)) (k : (Int × Unit) × (Unit) → Option R) : Option R :=
 ((f21_l2 a0 a1.1 ((List.length a0 : Nat) : Int) (0 : Int)).bind fun y2 =>
 ((Sum.elim (fun z3 =>
 (k ((z3, ()), ())))
 (fun z4 =>
 (k (((-1 : Int), ()), ())))) y2))
noncomputable def f21 (a0 : List Qv1) (a1 : (Qv1 × Unit)) : Option ((Int × Unit) × (Unit)) := f21_k a0 a1 some
noncomputable def f21_sm : Sm := { ps := [.ro (.slc Qt4), .fn 16 [(true, Qt4)]], rs := [((.int .i64), .ro)], F := fun x => f21 x.1 x.2.1 }
theorem f21_m (x : ArgT [.ro (.slc Qt4), .fn 16 [(true, Qt4)]]) : codeS f21_fx f21_code (start [.ro (.slc Qt4), .fn 16 [(true, Qt4)]] [] x 19) (finK env [.tmp 4] [.ro (.slc Qt4), .fn 16 [(true, Qt4)]] [((.int .i64), .ro)]) = f21_k x.1 x.2.1 (fun r => some (r, [])) := by kernel_rfl
theorem f21_n {R : Type} (a0 : List Qv1) (a1 : (Qv1 × Unit)) (k : (Int × Unit) × (Unit) → Option R) : f21_k a0 a1 k = (f21 a0 a1).bind k := by
  simp only [f21, f21_k, cond_bind, ite_bind, bind_bind, some_bind, none_bind, elim_bind, whenS_bind]
theorem f21_ok : SmOk Tryd.prog 21 f21_sm :=
  sum_of (c := f21_fx) (fn := Tryd.f21) (code := f21_code) (sm := f21_sm) mixed (env_ok env_envB) (TabsOk.all ⟨f16_c, trivial⟩) Tryd.func21 (by kernel_rfl)
   ((LoopsOk.of (l := [f21_l2_b]) (by kernel_rfl) ⟨node_is (by kernel_rfl) f21_l2_ok, trivial⟩))
   (no_tails (by kernel_rfl)) rfl
   (fun ks x hl => by
    have hk : ks = [] := List.length_eq_zero_iff.1 hl
    subst hk
    exact (f21_m x).trans (f21_n _ _ _))
theorem f21_c : CalOk Tryd.prog 21 f21_sm := .inl ⟨f21_ok, ⟨Tryd.f21, Tryd.func21, by kernel_rfl, by kernel_rfl⟩⟩
noncomputable def f15_code : Code := (Tryd.f15.body).getD .skip
noncomputable def f15_fx : Fx := { E := env, T := [(21, f21_sm)], H := [], O := [], nodes := [] }
noncomputable def f15_k {R : Type} (a0 : List Qv1) (a1 : (Qv1 × Unit)) (k : (Bool × Unit) × (Unit) → Option R) : Option R :=
 ((f21 a0 (a1.1, ())).bind fun r0 =>
 (k (((decide (r0.1.1 ≥ (0 : Int))), ()), ())))
noncomputable def f15 (a0 : List Qv1) (a1 : (Qv1 × Unit)) : Option ((Bool × Unit) × (Unit)) := f15_k a0 a1 some
noncomputable def f15_sm : Sm := { ps := [.ro (.slc Qt4), .fn 16 [(true, Qt4)]], rs := [(.bool, .ro)], F := fun x => f15 x.1 x.2.1 }
theorem f15_m (x : ArgT [.ro (.slc Qt4), .fn 16 [(true, Qt4)]]) : codeS f15_fx f15_code (start [.ro (.slc Qt4), .fn 16 [(true, Qt4)]] [] x 9) (finK env [.tmp 4] [.ro (.slc Qt4), .fn 16 [(true, Qt4)]] [(.bool, .ro)]) = f15_k x.1 x.2.1 (fun r => some (r, [])) := by kernel_rfl
theorem f15_n {R : Type} (a0 : List Qv1) (a1 : (Qv1 × Unit)) (k : (Bool × Unit) × (Unit) → Option R) : f15_k a0 a1 k = (f15 a0 a1).bind k := by
  simp only [f15, f15_k, cond_bind, ite_bind, bind_bind, some_bind, none_bind, elim_bind, whenS_bind]
theorem f15_ok : SmOk Tryd.prog 15 f15_sm :=
  sum_of (c := f15_fx) (fn := Tryd.f15) (code := f15_code) (sm := f15_sm) mixed (env_ok env_envB) (TabsOk.all ⟨f21_c, trivial⟩) Tryd.func15 (by kernel_rfl)
   ((LoopsOk.of (l := []) (by kernel_rfl) trivial))
   (no_tails (by kernel_rfl)) rfl
   (fun ks x hl => by
    have hk : ks = [] := List.length_eq_zero_iff.1 hl
    subst hk
    exact (f15_m x).trans (f15_n _ _ _))
theorem f15_c : CalOk Tryd.prog 15 f15_sm := .inl ⟨f15_ok, ⟨Tryd.f15, Tryd.func15, by kernel_rfl, by kernel_rfl⟩⟩
noncomputable def f17_code : Code := (Tryd.f17.body).getD .skip
noncomputable def f17_t4_sk : SkS := ⟨46, [(2, .ptr 32 []), (0, .ptr 48 []), (1, .con (.int .i64))], [(32, ⟨some 29, Qt3, .ro, none⟩), (48, ⟨some 35, Qt7, .ro, none⟩)]⟩
noncomputable def f17_t4_o0 : SkS := ⟨47, [(4, .con (.int .i64))], []⟩
noncomputable def f17_t4_outs : List Way := [⟨.ret, [], f17_t4_o0⟩]
abbrev f17_t4_C := ((Option Nat) × (Option Nat))
abbrev f17_t4_X := (Int × Qv0 × (Int × (Int × Qv1)))
abbrev f17_t4_Y := (Int)
noncomputable def f17_t4_con (t : f17_t4_sk.T) : f17_t4_C := (t.2.1.2, t.2.2.1.2)
noncomputable def f17_t4_get (t : f17_t4_sk.T) : f17_t4_X := (t.1.1, t.2.1.1, t.2.2.1.1)
noncomputable def f17_t4_put (c : f17_t4_C) (x : f17_t4_X) : f17_t4_sk.T := ((x.1, ()), ((x.2.1, c.1), ((x.2.2, c.2), ())))
theorem f17_t4_pg (t : f17_t4_sk.T) : f17_t4_put (f17_t4_con t) (f17_t4_get t) = t := by kernel_rfl
noncomputable def f17_t4_w0 (c : f17_t4_C) (x : f17_t4_X) (y : Int) : f17_t4_o0.T := ((y, ()), ())
noncomputable def f17_t4_out (c : f17_t4_C) (x : f17_t4_X) (y : f17_t4_Y) : OutV f17_t4_outs := (fun y => (.inl (f17_t4_w0 c x y))) y
noncomputable def f17_t4_k {R : Type} (a0 : Int) (a1 : Qv0) (a2 : (Int × (Int × Qv1))) (k0 : Int → Option R) : Option R :=
 (cond (decide (a2.2.1 < (0 : Int)))
 (k0 (1 : Int))
 (cond (decide (a2.2.1 > (3 : Int)))
  (k0 (1 : Int))
  (cond (decide (a2.2.2.2.1 < (-65535 : Int)))
   (k0 (1 : Int))
   (cond (decide (a2.2.2.2.1 > (65535 : Int)))
    (k0 (1 : Int))
    (cond (decide (a2.1 < (0 : Int)))
     (k0 (19 : Int))
     (let v0 : Int := (IntKind.i64.wrap (a2.1 + a0))
      (cond (decide (v0 > ((List.length a1.2.1 : Nat) : Int)))
      (k0 (19 : Int))
      (cond (decide (a2.1 > (4096 : Int)))
       (k0 (19 : Int))
       ((f14 a2.2.2.1).bind fun r1 =>
        (cond (!r1.1.1)
        (k0 (15 : Int))
        (k0 (0 : Int))))))))))))
noncomputable def f17_t4 (a0 : Int) (a1 : Qv0) (a2 : (Int × (Int × Qv1))) : Option f17_t4_Y := f17_t4_k a0 a1 a2 (fun y => some y)
noncomputable def f17_t4_nd : Node := { nils := [], sk := f17_t4_sk, outs := f17_t4_outs, Y := f17_t4_Y, L := fun t => f17_t4 ((f17_t4_get t).1) ((f17_t4_get t).2.1) ((f17_t4_get t).2.2), out := fun t y => f17_t4_out (f17_t4_con t) (f17_t4_get t) y, disp := fun t y K => (fun y => K .ret (f17_t4_o0.fill (f17_t4_w0 (f17_t4_con t) (f17_t4_get t) y))) y }
noncomputable def f17_fx : Fx := { E := env, T := [(14, f14_sm)], H := [], O := [], nodes := [((false, 4), f17_t4_nd)] }
noncomputable def f17_t4_b : Code := (tails f17_code).getD 2 .skip
theorem f17_t4_r (c : f17_t4_C) (x : f17_t4_X) : tailS f17_fx f17_t4_b f17_t4_nd (f17_t4_put c x) = f17_t4_k x.1 x.2.1 x.2.2 (fun y => some (.inl (f17_t4_w0 c x y))) := by kernel_rfl
theorem f17_t4_n {R : Type} (a0 : Int) (a1 : Qv0) (a2 : (Int × (Int × Qv1))) (k0 : Int → Option R) : f17_t4_k a0 a1 a2 k0 = (f17_t4 a0 a1 a2).bind k0 := by
  simp only [f17_t4, f17_t4_k, cond_bind, ite_bind, bind_bind, some_bind, none_bind, elim_bind, whenS_bind, Sum.elim_inl, Sum.elim_inr]
theorem f17_t4_ok : TailOk f17_fx f17_t4_b f17_t4_nd := tail_ok f17_t4_con f17_t4_get f17_t4_put f17_t4_pg (fun x => f17_t4 x.1 x.2.1 x.2.2) f17_t4_out (fun t y => rfl) (fun t y K => rfl) (fun c x => by
  refine (f17_t4_r c x).trans ((f17_t4_n _ _ _ _).trans ?_)
  first
  | rfl
  | congr 1
    funext s
    rfl) (fun t => rfl)
noncomputable def f17_k {R : Type} (a0 : Qv0) (a1 : (Int × (Int × Qv1))) (k : (Int × Unit) × (Unit) → Option R) : Option R :=
 (cond (a1.2.1 == (2 : Int))
 ((f17_t4 (2 : Int) a0 a1).bind fun y2 =>
  (k ((y2, ()), ())))
 ((f17_t4 (1 : Int) a0 a1).bind fun y3 =>
  (k ((y3, ()), ()))))
noncomputable def f17 (a0 : Qv0) (a1 : (Int × (Int × Qv1))) : Option ((Int × Unit) × (Unit)) := f17_k a0 a1 some
noncomputable def f17_sm : Sm := { ps := [.ro Qt3, .ro Qt7], rs := [((.int .i64), .ro)], F := fun x => f17 x.1 x.2.1 }
theorem f17_m (x : ArgT [.ro Qt3, .ro Qt7]) : codeS f17_fx f17_code (start [.ro Qt3, .ro Qt7] [] x 52) (finK env [.tmp 4] [.ro Qt3, .ro Qt7] [((.int .i64), .ro)]) = f17_k x.1 x.2.1 (fun r => some (r, [])) := by kernel_rfl
theorem f17_n {R : Type} (a0 : Qv0) (a1 : (Int × (Int × Qv1))) (k : (Int × Unit) × (Unit) → Option R) : f17_k a0 a1 k = (f17 a0 a1).bind k := by
  simp only [f17, f17_k, cond_bind, ite_bind, bind_bind, some_bind, none_bind, elim_bind, whenS_bind]
theorem f17_ok : SmOk Tryd.prog 17 f17_sm :=
  sum_of (c := f17_fx) (fn := Tryd.f17) (code := f17_code) (sm := f17_sm) mixed (env_ok env_envB) (TabsOk.all ⟨f14_c, trivial⟩) Tryd.func17 (by kernel_rfl)
   ((LoopsOk.of (l := []) (by kernel_rfl) trivial))
   ((TailsOk.of (l := [((tails f17_code).getD 0 .skip), ((tails f17_code).getD 1 .skip), f17_t4_b, ((tails f17_code).getD 3 .skip), ((tails f17_code).getD 4 .skip), ((tails f17_code).getD 5 .skip), ((tails f17_code).getD 6 .skip), ((tails f17_code).getD 7 .skip), ((tails f17_code).getD 8 .skip), ((tails f17_code).getD 9 .skip), ((tails f17_code).getD 10 .skip), ((tails f17_code).getD 11 .skip)]) (by kernel_rfl) ⟨node_no (by kernel_rfl), node_no (by kernel_rfl), node_is (by kernel_rfl) f17_t4_ok, node_no (by kernel_rfl), node_no (by kernel_rfl), node_no (by kernel_rfl), node_no (by kernel_rfl), node_no (by kernel_rfl), node_no (by kernel_rfl), node_no (by kernel_rfl), node_no (by kernel_rfl), node_no (by kernel_rfl), trivial⟩)) rfl
   (fun ks x hl => by
    have hk : ks = [] := List.length_eq_zero_iff.1 hl
    subst hk
    exact (f17_m x).trans (f17_n _ _ _))
theorem f17_c : CalOk Tryd.prog 17 f17_sm := .inl ⟨f17_ok, ⟨Tryd.f17, Tryd.func17, by kernel_rfl, by kernel_rfl⟩⟩
noncomputable def f5_code : Code := (Tryd.f5.body).getD .skip
noncomputable def f5_l6_sk : SkS := ⟨43, [(1, .ptr 16 []), (27, .con (.slc Qt4)), (0, .con (.int .i64)), (0, .con (.int .i64))], [(16, ⟨some 29, Qt3, .ro, none⟩)]⟩
noncomputable def f5_l6_o0 : SkS := ⟨72, [(2, .con (.int .i64))], []⟩
noncomputable def f5_l6_o1 : SkS := ⟨73, [(1, .ptr 16 [])], [(16, ⟨some 29, Qt3, .ro, none⟩)]⟩
noncomputable def f5_l6_outs : List Way := [⟨.ret, [], f5_l6_o0⟩, ⟨(.exit 0), [], f5_l6_o1⟩]
abbrev f5_l6_C := (List Qv1 × Int × Qv0 × (Option Nat))
abbrev f5_l6_X := Int
abbrev f5_l6_Y := (Int) ⊕ (Unit)
noncomputable def f5_l6_con (t : f5_l6_sk.T) : f5_l6_C := (t.1.1, t.1.2.1, t.2.1.1, t.2.1.2)
noncomputable def f5_l6_get (t : f5_l6_sk.T) : f5_l6_X := t.1.2.2.1
noncomputable def f5_l6_put (c : f5_l6_C) (x : f5_l6_X) : f5_l6_sk.T := ((c.1, (c.2.1, (x, ()))), ((c.2.2.1, c.2.2.2), ()))
theorem f5_l6_pg (t : f5_l6_sk.T) : f5_l6_put (f5_l6_con t) (f5_l6_get t) = t := by kernel_rfl
noncomputable def f5_l6_w0 (c : f5_l6_C) (y : Int) : f5_l6_o0.T := ((y, ()), ())
noncomputable def f5_l6_w1 (c : f5_l6_C) (y : Unit) : f5_l6_o1.T := ((), ((c.2.2.1, c.2.2.2), ()))
noncomputable def f5_l6_out (c : f5_l6_C) (y : f5_l6_Y) : OutV f5_l6_outs := (Sum.elim (fun y => (.inl (f5_l6_w0 c y))) (fun y => (.inr (.inl (f5_l6_w1 c y))))) y
noncomputable def f5_l6_k {R : Type} (a0 : List Qv1) (a1 : Int) (a2 : Int) (a3 : Qv0) (kin : f5_l6_X → Option R) (k0 : Int → Option R) (k1 : Unit → Option R) : Option R :=
 (cond (decide (a2 < a1))
 (if (0 : Int) ≤ a2 ∧ a2 < ((List.length a0 : Nat) : Int) then ((f14 (List.getD a0 (Int.toNat a2) (ByteArray.empty, ((0 : Int), ()))).1).bind fun r1 =>
  (cond (!r1.1.1)
  (k0 (15 : Int))
  (if (0 : Int) ≤ (0 : Int) ∧ (0 : Int) ≤ a2 ∧ a2 ≤ ((List.length a3.2.2.1 : Nat) : Int) then ((f15 (List.take ((Int.toNat a2) - 0) (List.drop 0 a3.2.2.1)) ((List.getD a0 (Int.toNat a2) (ByteArray.empty, ((0 : Int), ()))), ())).bind fun r2 =>
   (cond r2.1.1
   (k0 (5 : Int))
   (cond (decide ((List.getD a0 (Int.toNat a2) (ByteArray.empty, ((0 : Int), ()))).2.1 < (0 : Int)))
    (k0 (19 : Int))
    (cond (decide ((List.getD a0 (Int.toNat a2) (ByteArray.empty, ((0 : Int), ()))).2.1 > ((List.length a3.2.1 : Nat) : Int)))
     (k0 (19 : Int))
     (let v3 : Int := (IntKind.i64.wrap (a2 + (1 : Int)))
      (kin v3)))))) else none))) else none)
 (k1 ()))
noncomputable def f5_l6_g (a0 : List Qv1) (a1 : Int) (a3 : Qv0) (x : f5_l6_X) : Option (f5_l6_X ⊕ f5_l6_Y) := f5_l6_k a0 a1 x a3 (fun x => some (.inl x)) (fun y => some (.inr (.inl y))) (fun y => some (.inr (.inr y)))
noncomputable def f5_l6 (a0 : List Qv1) (a1 : Int) (a3 : Qv0) (x : f5_l6_X) : Option f5_l6_Y := loopO (f5_l6_g a0 a1 a3) x
noncomputable def f5_l6_nd : Node := { nils := [], sk := f5_l6_sk, outs := f5_l6_outs, Y := f5_l6_Y, L := fun t => f5_l6 ((f5_l6_con t).1) ((f5_l6_con t).2.1) ((f5_l6_con t).2.2.1) (f5_l6_get t), out := fun t y => f5_l6_out (f5_l6_con t) y, disp := fun t y K => (Sum.elim (fun y => K .ret (f5_l6_o0.fill (f5_l6_w0 (f5_l6_con t) y))) (fun y => K (.exit 0) (f5_l6_o1.fill (f5_l6_w1 (f5_l6_con t) y)))) y }
noncomputable def f5_l16_sk : SkS := ⟨10, [(1, .ptr 16 []), (60, .con (.slc Qt7)), (0, .con (.int .i64)), (0, .con (.int .i64))], [(16, ⟨some 29, Qt3, .ro, none⟩)]⟩
noncomputable def f5_l16_o0 : SkS := ⟨72, [(2, .con (.int .i64))], []⟩
noncomputable def f5_l16_o1 : SkS := ⟨75, [], []⟩
noncomputable def f5_l16_outs : List Way := [⟨.ret, [], f5_l16_o0⟩, ⟨(.exit 3), [], f5_l16_o1⟩]
abbrev f5_l16_C := (List (Int × (Int × Qv1)) × Int × Qv0 × (Option Nat))
abbrev f5_l16_X := Int
abbrev f5_l16_Y := (Int) ⊕ (Unit)
noncomputable def f5_l16_con (t : f5_l16_sk.T) : f5_l16_C := (t.1.1, t.1.2.1, t.2.1.1, t.2.1.2)
noncomputable def f5_l16_get (t : f5_l16_sk.T) : f5_l16_X := t.1.2.2.1
noncomputable def f5_l16_put (c : f5_l16_C) (x : f5_l16_X) : f5_l16_sk.T := ((c.1, (c.2.1, (x, ()))), ((c.2.2.1, c.2.2.2), ()))
theorem f5_l16_pg (t : f5_l16_sk.T) : f5_l16_put (f5_l16_con t) (f5_l16_get t) = t := by kernel_rfl
noncomputable def f5_l16_w0 (c : f5_l16_C) (y : Int) : f5_l16_o0.T := ((y, ()), ())
noncomputable def f5_l16_w1 (c : f5_l16_C) (y : Unit) : f5_l16_o1.T := ((), ())
noncomputable def f5_l16_out (c : f5_l16_C) (y : f5_l16_Y) : OutV f5_l16_outs := (Sum.elim (fun y => (.inl (f5_l16_w0 c y))) (fun y => (.inr (.inl (f5_l16_w1 c y))))) y
noncomputable def f5_l16_k {R : Type} (a0 : List (Int × (Int × Qv1))) (a1 : Int) (a2 : Int) (a3 : Qv0) (kin : f5_l16_X → Option R) (k0 : Int → Option R) (k1 : Unit → Option R) : Option R :=
 (cond (decide (a2 < a1))
 (if (0 : Int) ≤ a2 ∧ a2 < ((List.length a0 : Nat) : Int) then ((f17 a3 (List.getD a0 (Int.toNat a2) ((0 : Int), ((0 : Int), (ByteArray.empty, ((0 : Int), ())))))).bind fun r7 =>
  (cond (r7.1.1 != (0 : Int))
  (k0 r7.1.1)
  (let v8 : Int := (IntKind.i64.wrap (a2 + (1 : Int)))
   (kin v8)))) else none)
 (k1 ()))
noncomputable def f5_l16_g (a0 : List (Int × (Int × Qv1))) (a1 : Int) (a3 : Qv0) (x : f5_l16_X) : Option (f5_l16_X ⊕ f5_l16_Y) := f5_l16_k a0 a1 x a3 (fun x => some (.inl x)) (fun y => some (.inr (.inl y))) (fun y => some (.inr (.inr y)))
noncomputable def f5_l16 (a0 : List (Int × (Int × Qv1))) (a1 : Int) (a3 : Qv0) (x : f5_l16_X) : Option f5_l16_Y := loopO (f5_l16_g a0 a1 a3) x
noncomputable def f5_l16_nd : Node := { nils := [], sk := f5_l16_sk, outs := f5_l16_outs, Y := f5_l16_Y, L := fun t => f5_l16 ((f5_l16_con t).1) ((f5_l16_con t).2.1) ((f5_l16_con t).2.2.1) (f5_l16_get t), out := fun t y => f5_l16_out (f5_l16_con t) y, disp := fun t y K => (Sum.elim (fun y => K .ret (f5_l16_o0.fill (f5_l16_w0 (f5_l16_con t) y))) (fun y => K (.exit 3) (f5_l16_o1.fill (f5_l16_w1 (f5_l16_con t) y)))) y }
noncomputable def f5_fx : Fx := { E := env, T := [(14, f14_sm), (15, f15_sm), (17, f17_sm)], H := [], O := [], nodes := [((true, 6), f5_l6_nd), ((true, 16), f5_l16_nd)] }
noncomputable def f5_l6_b : Code := (loops f5_code).getD 0 .skip
theorem f5_l6_r (c : f5_l6_C) (x : f5_l6_X) : roundS f5_fx f5_l6_b f5_l6_nd (f5_l6_put c x) = f5_l6_k c.1 c.2.1 x c.2.2.1 (fun x => some (.inl (f5_l6_put c x))) (fun y => some (.inr (.inl (f5_l6_w0 c y)))) (fun y => some (.inr (.inr (.inl (f5_l6_w1 c y))))) := by kernel_rfl
theorem f5_l6_n {R : Type} (a0 : List Qv1) (a1 : Int) (a2 : Int) (a3 : Qv0) (kin : f5_l6_X → Option R) (k0 : Int → Option R) (k1 : Unit → Option R) : f5_l6_k a0 a1 a2 a3 kin k0 k1 = (f5_l6_g a0 a1 a3 a2).bind (Sum.elim kin (Sum.elim k0 k1)) := by
  simp only [f5_l6_g, f5_l6_k, cond_bind, ite_bind, bind_bind, some_bind, none_bind, elim_bind, whenS_bind, Sum.elim_inl, Sum.elim_inr]
theorem f5_l6_ok : LoopOk f5_fx f5_l6_b f5_l6_nd := loop_ok f5_l6_con f5_l6_get f5_l6_put f5_l6_pg (fun c => f5_l6_g c.1 c.2.1 c.2.2.1) f5_l6_out (fun t y => rfl) (by intro R t y K; rcases y with y | y <;> rfl) (fun c x => by
  refine (f5_l6_r c x).trans ((f5_l6_n _ _ _ _ _ _ _).trans ?_)
  first
  | rfl
  | congr 1
    funext s
    rcases s with s | s | s <;> rfl) (fun t => rfl)
noncomputable def f5_l16_b : Code := (loops f5_code).getD 1 .skip
theorem f5_l16_r (c : f5_l16_C) (x : f5_l16_X) : roundS f5_fx f5_l16_b f5_l16_nd (f5_l16_put c x) = f5_l16_k c.1 c.2.1 x c.2.2.1 (fun x => some (.inl (f5_l16_put c x))) (fun y => some (.inr (.inl (f5_l16_w0 c y)))) (fun y => some (.inr (.inr (.inl (f5_l16_w1 c y))))) := by kernel_rfl
theorem f5_l16_n {R : Type} (a0 : List (Int × (Int × Qv1))) (a1 : Int) (a2 : Int) (a3 : Qv0) (kin : f5_l16_X → Option R) (k0 : Int → Option R) (k1 : Unit → Option R) : f5_l16_k a0 a1 a2 a3 kin k0 k1 = (f5_l16_g a0 a1 a3 a2).bind (Sum.elim kin (Sum.elim k0 k1)) := by
  simp only [f5_l16_g, f5_l16_k, cond_bind, ite_bind, bind_bind, some_bind, none_bind, elim_bind, whenS_bind, Sum.elim_inl, Sum.elim_inr]
theorem f5_l16_ok : LoopOk f5_fx f5_l16_b f5_l16_nd := loop_ok f5_l16_con f5_l16_get f5_l16_put f5_l16_pg (fun c => f5_l16_g c.1 c.2.1 c.2.2.1) f5_l16_out (fun t y => rfl) (by intro R t y K; rcases y with y | y <;> rfl) (fun c x => by
  refine (f5_l16_r c x).trans ((f5_l16_n _ _ _ _ _ _ _).trans ?_)
  first
  | rfl
  | congr 1
    funext s
    rcases s with s | s | s <;> rfl) (fun t => rfl)
noncomputable def f5_k {R : Type} (a0 : Qv0) (k : (Int × Unit) × (Unit) → Option R) : Option R :=
 ((f14 a0.1).bind fun r0 =>
 (cond (!r0.1.1)
 (k (((15 : Int), ()), ()))
 (cond (decide (((List.length a0.2.1 : Nat) : Int) > (4096 : Int)))
  (k (((2 : Int), ()), ()))
  (cond (decide (((List.length a0.2.2.1 : Nat) : Int) > (64 : Int)))
   (k (((2 : Int), ()), ()))
   (cond (decide (((List.length a0.2.2.2.1 : Nat) : Int) > (256 : Int)))
    (k (((2 : Int), ()), ()))
    ((f5_l6 a0.2.2.1 ((List.length a0.2.2.1 : Nat) : Int) a0 (0 : Int)).bind fun y4 =>
     ((Sum.elim (fun z5 =>
     (k ((z5, ()), ())))
     (fun z6 =>
     ((f5_l16 a0.2.2.2.1 ((List.length a0.2.2.2.1 : Nat) : Int) a0 (0 : Int)).bind fun y9 =>
      ((Sum.elim (fun z10 =>
      (k ((z10, ()), ())))
      (fun z11 =>
      (k (((0 : Int), ()), ())))) y9)))) y4)))))))
noncomputable def f5 (a0 : Qv0) : Option ((Int × Unit) × (Unit)) := f5_k a0 some
noncomputable def f5_sm : Sm := { ps := [.ro Qt3], rs := [((.int .i64), .ro)], F := fun x => f5 x.1 }
theorem f5_m (x : ArgT [.ro Qt3]) : codeS f5_fx f5_code (start [.ro Qt3] [] x 75) (finK env [.tmp 2] [.ro Qt3] [((.int .i64), .ro)]) = f5_k x.1 (fun r => some (r, [])) := by kernel_rfl
theorem f5_n {R : Type} (a0 : Qv0) (k : (Int × Unit) × (Unit) → Option R) : f5_k a0 k = (f5 a0).bind k := by
  simp only [f5, f5_k, cond_bind, ite_bind, bind_bind, some_bind, none_bind, elim_bind, whenS_bind]
theorem f5_ok : SmOk Tryd.prog 5 f5_sm :=
  sum_of (c := f5_fx) (fn := Tryd.f5) (code := f5_code) (sm := f5_sm) mixed (env_ok env_envB) (TabsOk.all ⟨f14_c, f15_c, f17_c, trivial⟩) Tryd.func5 (by kernel_rfl)
   ((LoopsOk.of (l := [f5_l6_b, f5_l16_b]) (by kernel_rfl) ⟨node_is (by kernel_rfl) f5_l6_ok, node_is (by kernel_rfl) f5_l16_ok, trivial⟩))
   (no_tails (by kernel_rfl)) rfl
   (fun ks x hl => by
    have hk : ks = [] := List.length_eq_zero_iff.1 hl
    subst hk
    exact (f5_m x).trans (f5_n _ _))
theorem f5_c : CalOk Tryd.prog 5 f5_sm := .inl ⟨f5_ok, ⟨Tryd.f5, Tryd.func5, by kernel_rfl, by kernel_rfl⟩⟩
noncomputable def f13_code : Code := (Tryd.f13.body).getD .skip
noncomputable def f13_l6_sk : SkS := ⟨86, [(1, .ptr 16 []), (3, .con .str), (0, .con (.int .i64))], [(16, ⟨some 29, Qt3, .ro, none⟩)]⟩
noncomputable def f13_l6_o0 : SkS := ⟨87, [(1, .ptr 16 []), (3, .con .str)], [(16, ⟨some 29, Qt3, .ro, none⟩)]⟩
noncomputable def f13_l6_outs : List Way := [⟨(.exit 0), [], f13_l6_o0⟩]
abbrev f13_l6_C := (ByteArray × Int × Qv0 × (Option Nat))
abbrev f13_l6_X := Unit
abbrev f13_l6_Y := (Unit)
noncomputable def f13_l6_con (t : f13_l6_sk.T) : f13_l6_C := (t.1.1, t.1.2.1, t.2.1.1, t.2.1.2)
noncomputable def f13_l6_get (t : f13_l6_sk.T) : f13_l6_X := ()
noncomputable def f13_l6_put (c : f13_l6_C) (x : f13_l6_X) : f13_l6_sk.T := ((c.1, (c.2.1, ())), ((c.2.2.1, c.2.2.2), ()))
theorem f13_l6_pg (t : f13_l6_sk.T) : f13_l6_put (f13_l6_con t) (f13_l6_get t) = t := by kernel_rfl
noncomputable def f13_l6_w0 (c : f13_l6_C) (y : Unit) : f13_l6_o0.T := ((c.1, ()), ((c.2.2.1, c.2.2.2), ()))
noncomputable def f13_l6_out (c : f13_l6_C) (y : f13_l6_Y) : OutV f13_l6_outs := (fun y => (.inl (f13_l6_w0 c y))) y
noncomputable def f13_l6_k {R : Type} (a0 : ByteArray) (a1 : Int) (a2 : Qv0) (kin : f13_l6_X → Option R) (k0 : Unit → Option R) : Option R :=
 (cond (decide (a1 < ((List.length a2.2.1 : Nat) : Int)))
 (let v1 : Int := (IntKind.i64.wrap (a1 + (16 : Int)))
  (let v2 : Int := (if v1 < ((List.length a2.2.1 : Nat) : Int) then v1 else ((List.length a2.2.1 : Nat) : Int))
  (if (0 : Int) ≤ a1 ∧ a1 ≤ v2 ∧ v2 ≤ ((List.length a2.2.1 : Nat) : Int) then none else none)))
 (k0 ()))
noncomputable def f13_l6_g (a0 : ByteArray) (a1 : Int) (a2 : Qv0) (x : f13_l6_X) : Option (f13_l6_X ⊕ f13_l6_Y) := f13_l6_k a0 a1 a2 (fun x => some (.inl x)) (fun y => some (.inr y))
noncomputable def f13_l6 (a0 : ByteArray) (a1 : Int) (a2 : Qv0) (x : f13_l6_X) : Option f13_l6_Y := loopO (f13_l6_g a0 a1 a2) x
noncomputable def f13_l6_nd : Node := { nils := [], sk := f13_l6_sk, outs := f13_l6_outs, Y := f13_l6_Y, L := fun t => f13_l6 ((f13_l6_con t).1) ((f13_l6_con t).2.1) ((f13_l6_con t).2.2.1) (f13_l6_get t), out := fun t y => f13_l6_out (f13_l6_con t) y, disp := fun t y K => (fun y => K (.exit 0) (f13_l6_o0.fill (f13_l6_w0 (f13_l6_con t) y))) y }
noncomputable def f13_l10_sk : SkS := ⟨47, [(1, .ptr 16 []), (3, .con .str), (37, .con (.slc Qt4)), (0, .con (.int .i64)), (0, .con (.int .i64))], [(16, ⟨some 29, Qt3, .ro, none⟩)]⟩
noncomputable def f13_l10_o0 : SkS := ⟨87, [(1, .ptr 16 []), (3, .con .str)], [(16, ⟨some 29, Qt3, .ro, none⟩)]⟩
noncomputable def f13_l10_outs : List Way := [⟨(.exit 2), [], f13_l10_o0⟩]
abbrev f13_l10_C := (ByteArray × List Qv1 × Int × Int × Qv0 × (Option Nat))
abbrev f13_l10_X := Unit
abbrev f13_l10_Y := (Unit)
noncomputable def f13_l10_con (t : f13_l10_sk.T) : f13_l10_C := (t.1.1, t.1.2.1, t.1.2.2.1, t.1.2.2.2.1, t.2.1.1, t.2.1.2)
noncomputable def f13_l10_get (t : f13_l10_sk.T) : f13_l10_X := ()
noncomputable def f13_l10_put (c : f13_l10_C) (x : f13_l10_X) : f13_l10_sk.T := ((c.1, (c.2.1, (c.2.2.1, (c.2.2.2.1, ())))), ((c.2.2.2.2.1, c.2.2.2.2.2), ()))
theorem f13_l10_pg (t : f13_l10_sk.T) : f13_l10_put (f13_l10_con t) (f13_l10_get t) = t := by kernel_rfl
noncomputable def f13_l10_w0 (c : f13_l10_C) (y : Unit) : f13_l10_o0.T := ((c.1, ()), ((c.2.2.2.2.1, c.2.2.2.2.2), ()))
noncomputable def f13_l10_out (c : f13_l10_C) (y : f13_l10_Y) : OutV f13_l10_outs := (fun y => (.inl (f13_l10_w0 c y))) y
noncomputable def f13_l10_k {R : Type} (a0 : ByteArray) (a1 : List Qv1) (a2 : Int) (a3 : Int) (a4 : Qv0) (kin : f13_l10_X → Option R) (k0 : Unit → Option R) : Option R :=
 (cond (decide (a3 < a2))
 (if (0 : Int) ≤ a3 ∧ a3 < ((List.length a1 : Nat) : Int) then (if ByteArray.size (⟨#[101, 120, 112, 111, 114, 116, 32]⟩ : ByteArray) + ByteArray.size (List.getD a1 (Int.toNat a3) (ByteArray.empty, ((0 : Int), ()))).1 ≤ 9223372036854775807 then (if ByteArray.size ((⟨#[101, 120, 112, 111, 114, 116, 32]⟩ : ByteArray) ++ (List.getD a1 (Int.toNat a3) (ByteArray.empty, ((0 : Int), ()))).1) + ByteArray.size (⟨#[32]⟩ : ByteArray) ≤ 9223372036854775807 then none else none) else none) else none)
 (k0 ()))
noncomputable def f13_l10_g (a0 : ByteArray) (a1 : List Qv1) (a2 : Int) (a3 : Int) (a4 : Qv0) (x : f13_l10_X) : Option (f13_l10_X ⊕ f13_l10_Y) := f13_l10_k a0 a1 a2 a3 a4 (fun x => some (.inl x)) (fun y => some (.inr y))
noncomputable def f13_l10 (a0 : ByteArray) (a1 : List Qv1) (a2 : Int) (a3 : Int) (a4 : Qv0) (x : f13_l10_X) : Option f13_l10_Y := loopO (f13_l10_g a0 a1 a2 a3 a4) x
noncomputable def f13_l10_nd : Node := { nils := [], sk := f13_l10_sk, outs := f13_l10_outs, Y := f13_l10_Y, L := fun t => f13_l10 ((f13_l10_con t).1) ((f13_l10_con t).2.1) ((f13_l10_con t).2.2.1) ((f13_l10_con t).2.2.2.1) ((f13_l10_con t).2.2.2.2.1) (f13_l10_get t), out := fun t y => f13_l10_out (f13_l10_con t) y, disp := fun t y K => (fun y => K (.exit 2) (f13_l10_o0.fill (f13_l10_w0 (f13_l10_con t) y))) y }
noncomputable def f13_l15_sk : SkS := ⟨28, [(5, .con .str), (56, .con (.slc Qt7)), (0, .con (.int .i64)), (0, .con (.int .i64))], []⟩
noncomputable def f13_l15_o0 : SkS := ⟨87, [(5, .con .str)], []⟩
noncomputable def f13_l15_outs : List Way := [⟨(.exit 4), [], f13_l15_o0⟩]
abbrev f13_l15_C := (ByteArray × List (Int × (Int × Qv1)) × Int × Int)
abbrev f13_l15_X := Unit
abbrev f13_l15_Y := (Unit)
noncomputable def f13_l15_con (t : f13_l15_sk.T) : f13_l15_C := (t.1.1, t.1.2.1, t.1.2.2.1, t.1.2.2.2.1)
noncomputable def f13_l15_get (t : f13_l15_sk.T) : f13_l15_X := ()
noncomputable def f13_l15_put (c : f13_l15_C) (x : f13_l15_X) : f13_l15_sk.T := ((c.1, (c.2.1, (c.2.2.1, (c.2.2.2, ())))), ())
theorem f13_l15_pg (t : f13_l15_sk.T) : f13_l15_put (f13_l15_con t) (f13_l15_get t) = t := by kernel_rfl
noncomputable def f13_l15_w0 (c : f13_l15_C) (y : Unit) : f13_l15_o0.T := ((c.1, ()), ())
noncomputable def f13_l15_out (c : f13_l15_C) (y : f13_l15_Y) : OutV f13_l15_outs := (fun y => (.inl (f13_l15_w0 c y))) y
noncomputable def f13_l15_k {R : Type} (a0 : ByteArray) (a1 : List (Int × (Int × Qv1))) (a2 : Int) (a3 : Int) (kin : f13_l15_X → Option R) (k0 : Unit → Option R) : Option R :=
 (cond (decide (a3 < a2))
 (if (0 : Int) ≤ a3 ∧ a3 < ((List.length a1 : Nat) : Int) then none else none)
 (k0 ()))
noncomputable def f13_l15_g (a0 : ByteArray) (a1 : List (Int × (Int × Qv1))) (a2 : Int) (a3 : Int) (x : f13_l15_X) : Option (f13_l15_X ⊕ f13_l15_Y) := f13_l15_k a0 a1 a2 a3 (fun x => some (.inl x)) (fun y => some (.inr y))
noncomputable def f13_l15 (a0 : ByteArray) (a1 : List (Int × (Int × Qv1))) (a2 : Int) (a3 : Int) (x : f13_l15_X) : Option f13_l15_Y := loopO (f13_l15_g a0 a1 a2 a3) x
noncomputable def f13_l15_nd : Node := { nils := [], sk := f13_l15_sk, outs := f13_l15_outs, Y := f13_l15_Y, L := fun t => f13_l15 ((f13_l15_con t).1) ((f13_l15_con t).2.1) ((f13_l15_con t).2.2.1) ((f13_l15_con t).2.2.2) (f13_l15_get t), out := fun t y => f13_l15_out (f13_l15_con t) y, disp := fun t y K => (fun y => K (.exit 4) (f13_l15_o0.fill (f13_l15_w0 (f13_l15_con t) y))) y }
noncomputable def f13_fx : Fx := { E := env, T := [(5, f5_sm)], H := [], O := [], nodes := [((true, 6), f13_l6_nd), ((true, 10), f13_l10_nd), ((true, 15), f13_l15_nd)] }
noncomputable def f13_l6_b : Code := (loops f13_code).getD 0 .skip
theorem f13_l6_r (c : f13_l6_C) (x : f13_l6_X) : roundS f13_fx f13_l6_b f13_l6_nd (f13_l6_put c x) = f13_l6_k c.1 c.2.1 c.2.2.1 (fun x => some (.inl (f13_l6_put c x))) (fun y => some (.inr (.inl (f13_l6_w0 c y)))) := by kernel_rfl
theorem f13_l6_n {R : Type} (a0 : ByteArray) (a1 : Int) (a2 : Qv0) (kin : f13_l6_X → Option R) (k0 : Unit → Option R) : f13_l6_k a0 a1 a2 kin k0 = (f13_l6_g a0 a1 a2 ()).bind (Sum.elim kin k0) := by
  simp only [f13_l6_g, f13_l6_k, cond_bind, ite_bind, bind_bind, some_bind, none_bind, elim_bind, whenS_bind, Sum.elim_inl, Sum.elim_inr]
theorem f13_l6_ok : LoopOk f13_fx f13_l6_b f13_l6_nd := loop_ok f13_l6_con f13_l6_get f13_l6_put f13_l6_pg (fun c => f13_l6_g c.1 c.2.1 c.2.2.1) f13_l6_out (fun t y => rfl) (fun t y K => rfl) (fun c x => by
  refine (f13_l6_r c x).trans ((f13_l6_n _ _ _ _ _).trans ?_)
  first
  | rfl
  | congr 1
    funext s
    rcases s with s | s <;> rfl) (fun t => rfl)
noncomputable def f13_l10_b : Code := (loops f13_code).getD 1 .skip
theorem f13_l10_r (c : f13_l10_C) (x : f13_l10_X) : roundS f13_fx f13_l10_b f13_l10_nd (f13_l10_put c x) = f13_l10_k c.1 c.2.1 c.2.2.1 c.2.2.2.1 c.2.2.2.2.1 (fun x => some (.inl (f13_l10_put c x))) (fun y => some (.inr (.inl (f13_l10_w0 c y)))) := by kernel_rfl
theorem f13_l10_n {R : Type} (a0 : ByteArray) (a1 : List Qv1) (a2 : Int) (a3 : Int) (a4 : Qv0) (kin : f13_l10_X → Option R) (k0 : Unit → Option R) : f13_l10_k a0 a1 a2 a3 a4 kin k0 = (f13_l10_g a0 a1 a2 a3 a4 ()).bind (Sum.elim kin k0) := by
  simp only [f13_l10_g, f13_l10_k, cond_bind, ite_bind, bind_bind, some_bind, none_bind, elim_bind, whenS_bind, Sum.elim_inl, Sum.elim_inr]
theorem f13_l10_ok : LoopOk f13_fx f13_l10_b f13_l10_nd := loop_ok f13_l10_con f13_l10_get f13_l10_put f13_l10_pg (fun c => f13_l10_g c.1 c.2.1 c.2.2.1 c.2.2.2.1 c.2.2.2.2.1) f13_l10_out (fun t y => rfl) (fun t y K => rfl) (fun c x => by
  refine (f13_l10_r c x).trans ((f13_l10_n _ _ _ _ _ _ _).trans ?_)
  first
  | rfl
  | congr 1
    funext s
    rcases s with s | s <;> rfl) (fun t => rfl)
noncomputable def f13_l15_b : Code := (loops f13_code).getD 2 .skip
theorem f13_l15_r (c : f13_l15_C) (x : f13_l15_X) : roundS f13_fx f13_l15_b f13_l15_nd (f13_l15_put c x) = f13_l15_k c.1 c.2.1 c.2.2.1 c.2.2.2 (fun x => some (.inl (f13_l15_put c x))) (fun y => some (.inr (.inl (f13_l15_w0 c y)))) := by kernel_rfl
theorem f13_l15_n {R : Type} (a0 : ByteArray) (a1 : List (Int × (Int × Qv1))) (a2 : Int) (a3 : Int) (kin : f13_l15_X → Option R) (k0 : Unit → Option R) : f13_l15_k a0 a1 a2 a3 kin k0 = (f13_l15_g a0 a1 a2 a3 ()).bind (Sum.elim kin k0) := by
  simp only [f13_l15_g, f13_l15_k, cond_bind, ite_bind, bind_bind, some_bind, none_bind, elim_bind, whenS_bind, Sum.elim_inl, Sum.elim_inr]
theorem f13_l15_ok : LoopOk f13_fx f13_l15_b f13_l15_nd := loop_ok f13_l15_con f13_l15_get f13_l15_put f13_l15_pg (fun c => f13_l15_g c.1 c.2.1 c.2.2.1 c.2.2.2) f13_l15_out (fun t y => rfl) (fun t y K => rfl) (fun c x => by
  refine (f13_l15_r c x).trans ((f13_l15_n _ _ _ _ _ _).trans ?_)
  first
  | rfl
  | congr 1
    funext s
    rcases s with s | s <;> rfl) (fun t => rfl)
noncomputable def f13_k {R : Type} (a0 : Qv0) (k : (ByteArray × Int × Unit) × (Unit) → Option R) : Option R :=
 ((f5 a0).bind fun r0 =>
 (cond (r0.1.1 != (0 : Int))
 (k (((⟨#[]⟩ : ByteArray), (r0.1.1, ())), ()))
 (if ByteArray.size (⟨#[111, 98, 106, 101, 99, 116, 32]⟩ : ByteArray) + ByteArray.size a0.1 ≤ 9223372036854775807 then (if ByteArray.size ((⟨#[111, 98, 106, 101, 99, 116, 32]⟩ : ByteArray) ++ a0.1) + ByteArray.size (⟨#[10]⟩ : ByteArray) ≤ 9223372036854775807 then ((f13_l6 (((⟨#[111, 98, 106, 101, 99, 116, 32]⟩ : ByteArray) ++ a0.1) ++ (⟨#[10]⟩ : ByteArray)) (0 : Int) a0 ()).bind fun y3 =>
  ((f13_l10 (((⟨#[111, 98, 106, 101, 99, 116, 32]⟩ : ByteArray) ++ a0.1) ++ (⟨#[10]⟩ : ByteArray)) a0.2.2.1 ((List.length a0.2.2.1 : Nat) : Int) (0 : Int) a0 ()).bind fun y4 =>
  ((f13_l15 (((⟨#[111, 98, 106, 101, 99, 116, 32]⟩ : ByteArray) ++ a0.1) ++ (⟨#[10]⟩ : ByteArray)) a0.2.2.2.1 ((List.length a0.2.2.2.1 : Nat) : Int) (0 : Int) ()).bind fun y5 =>
  (k (((((⟨#[111, 98, 106, 101, 99, 116, 32]⟩ : ByteArray) ++ a0.1) ++ (⟨#[10]⟩ : ByteArray)), ((0 : Int), ())), ()))))) else none) else none)))
noncomputable def f13 (a0 : Qv0) : Option ((ByteArray × Int × Unit) × (Unit)) := f13_k a0 some
noncomputable def f13_sm : Sm := { ps := [.ro Qt3], rs := [(.str, .ro), ((.int .i64), .ro)], F := fun x => f13 x.1 }
theorem f13_m (x : ArgT [.ro Qt3]) : codeS f13_fx f13_code (start [.ro Qt3] [] x 93) (finK env [.tmp 2, .tmp 3] [.ro Qt3] [(.str, .ro), ((.int .i64), .ro)]) = f13_k x.1 (fun r => some (r, [])) := by kernel_rfl
theorem f13_n {R : Type} (a0 : Qv0) (k : (ByteArray × Int × Unit) × (Unit) → Option R) : f13_k a0 k = (f13 a0).bind k := by
  simp only [f13, f13_k, cond_bind, ite_bind, bind_bind, some_bind, none_bind, elim_bind, whenS_bind]
theorem f13_ok : SmOk Tryd.prog 13 f13_sm :=
  sum_of (c := f13_fx) (fn := Tryd.f13) (code := f13_code) (sm := f13_sm) mixed (env_ok env_envB) (TabsOk.all ⟨f5_c, trivial⟩) Tryd.func13 (by kernel_rfl)
   ((LoopsOk.of (l := [f13_l6_b, f13_l10_b, f13_l15_b]) (by kernel_rfl) ⟨node_is (by kernel_rfl) f13_l6_ok, node_is (by kernel_rfl) f13_l10_ok, node_is (by kernel_rfl) f13_l15_ok, trivial⟩))
   (no_tails (by kernel_rfl)) rfl
   (fun ks x hl => by
    have hk : ks = [] := List.length_eq_zero_iff.1 hl
    subst hk
    exact (f13_m x).trans (f13_n _ _))
theorem f13_c : CalOk Tryd.prog 13 f13_sm := .inl ⟨f13_ok, ⟨Tryd.f13, Tryd.func13, by kernel_rfl, by kernel_rfl⟩⟩
noncomputable def f4_code : Code := (Tryd.f4.body).getD .skip
noncomputable def f4_fx : Fx := { E := env, T := [(13, f13_sm)], H := [], O := [], nodes := [] }
noncomputable def f4_k {R : Type} (k : (Bool × Unit) × (Unit) → Option R) : Option R :=
 ((f13 ((⟨#[97]⟩ : ByteArray), ([], ([], ([], ()))))).bind fun r0 =>
 (cond (r0.1.2.1 == (0 : Int))
 (k (((strEq r0.1.1 (⟨#[111, 98, 106, 101, 99, 116, 32, 97, 10]⟩ : ByteArray)), ()), ()))
 (k ((false, ()), ()))))
noncomputable def f4 : Option ((Bool × Unit) × (Unit)) := f4_k some
noncomputable def f4_sm : Sm := { ps := [], rs := [(.bool, .ro)], F := fun x => f4 }
theorem f4_m (x : ArgT []) : codeS f4_fx f4_code (start [] [] x 14) (finK env [.tmp 0] [] [(.bool, .ro)]) = f4_k (fun r => some (r, [])) := by kernel_rfl
theorem f4_n {R : Type} (k : (Bool × Unit) × (Unit) → Option R) : f4_k k = (f4).bind k := by
  simp only [f4, f4_k, cond_bind, ite_bind, bind_bind, some_bind, none_bind, elim_bind, whenS_bind]
theorem f4_ok : SmOk Tryd.prog 4 f4_sm :=
  sum_of (c := f4_fx) (fn := Tryd.f4) (code := f4_code) (sm := f4_sm) mixed (env_ok env_envB) (TabsOk.all ⟨f13_c, trivial⟩) Tryd.func4 (by kernel_rfl)
   ((LoopsOk.of (l := []) (by kernel_rfl) trivial))
   (no_tails (by kernel_rfl)) rfl
   (fun ks x hl => by
    have hk : ks = [] := List.length_eq_zero_iff.1 hl
    subst hk
    exact (f4_m x).trans (f4_n _))
theorem f4_c : CalOk Tryd.prog 4 f4_sm := .inl ⟨f4_ok, ⟨Tryd.f4, Tryd.func4, by kernel_rfl, by kernel_rfl⟩⟩
noncomputable def f34_code : Code := (Tryd.f34.body).getD .skip
noncomputable def f34_fx : Fx := { E := env, T := [(37, eStr_sm)], H := [], O := [], nodes := [] }
noncomputable def f34_k {R : Type} (a0 : ByteArray) (a1 : Int) (k : (Int × Unit) × (Unit) → Option R) : Option R :=
 ((eStr a0 a1).bind fun r0 =>
 (k ((r0.1.1, ()), ())))
noncomputable def f34 (a0 : ByteArray) (a1 : Int) : Option ((Int × Unit) × (Unit)) := f34_k a0 a1 some
noncomputable def f34_sm : Sm := { ps := [.ro .str, .ro (.int .u8)], rs := [((.int .i64), .ro)], F := fun x => f34 x.1 x.2.1 }
theorem f34_m (x : ArgT [.ro .str, .ro (.int .u8)]) : codeS f34_fx f34_code (start [.ro .str, .ro (.int .u8)] [] x 8) (finK env [.tmp 4] [.ro .str, .ro (.int .u8)] [((.int .i64), .ro)]) = f34_k x.1 x.2.1 (fun r => some (r, [])) := by kernel_rfl
theorem f34_n {R : Type} (a0 : ByteArray) (a1 : Int) (k : (Int × Unit) × (Unit) → Option R) : f34_k a0 a1 k = (f34 a0 a1).bind k := by
  simp only [f34, f34_k, cond_bind, ite_bind, bind_bind, some_bind, none_bind, elim_bind, whenS_bind]
theorem f34_ok : SmOk Tryd.prog 34 f34_sm :=
  sum_of (c := f34_fx) (fn := Tryd.f34) (code := f34_code) (sm := f34_sm) mixed (env_ok env_envB) (TabsOk.all ⟨eStr_c, trivial⟩) Tryd.func34 (by kernel_rfl)
   ((LoopsOk.of (l := []) (by kernel_rfl) trivial))
   (no_tails (by kernel_rfl)) rfl
   (fun ks x hl => by
    have hk : ks = [] := List.length_eq_zero_iff.1 hl
    subst hk
    exact (f34_m x).trans (f34_n _ _ _))
theorem f34_c : CalOk Tryd.prog 34 f34_sm := .inl ⟨f34_ok, ⟨Tryd.f34, Tryd.func34, by kernel_rfl, by kernel_rfl⟩⟩
noncomputable def f29_code : Code := (Tryd.f29.body).getD .skip
noncomputable def f29_fx : Fx := { E := env, T := [(34, f34_sm)], H := [], O := [], nodes := [] }
noncomputable def f29_k {R : Type} (a0 : ByteArray) (a1 : Int) (k : (Int × Unit) × (Unit) → Option R) : Option R :=
 ((f34 a0 a1).bind fun r0 =>
 (k ((r0.1.1, ()), ())))
noncomputable def f29 (a0 : ByteArray) (a1 : Int) : Option ((Int × Unit) × (Unit)) := f29_k a0 a1 some
noncomputable def f29_sm : Sm := { ps := [.ro .str, .ro (.int .u8)], rs := [((.int .i64), .ro)], F := fun x => f29 x.1 x.2.1 }
theorem f29_m (x : ArgT [.ro .str, .ro (.int .u8)]) : codeS f29_fx f29_code (start [.ro .str, .ro (.int .u8)] [] x 8) (finK env [.tmp 4] [.ro .str, .ro (.int .u8)] [((.int .i64), .ro)]) = f29_k x.1 x.2.1 (fun r => some (r, [])) := by kernel_rfl
theorem f29_n {R : Type} (a0 : ByteArray) (a1 : Int) (k : (Int × Unit) × (Unit) → Option R) : f29_k a0 a1 k = (f29 a0 a1).bind k := by
  simp only [f29, f29_k, cond_bind, ite_bind, bind_bind, some_bind, none_bind, elim_bind, whenS_bind]
theorem f29_ok : SmOk Tryd.prog 29 f29_sm :=
  sum_of (c := f29_fx) (fn := Tryd.f29) (code := f29_code) (sm := f29_sm) mixed (env_ok env_envB) (TabsOk.all ⟨f34_c, trivial⟩) Tryd.func29 (by kernel_rfl)
   ((LoopsOk.of (l := []) (by kernel_rfl) trivial))
   (no_tails (by kernel_rfl)) rfl
   (fun ks x hl => by
    have hk : ks = [] := List.length_eq_zero_iff.1 hl
    subst hk
    exact (f29_m x).trans (f29_n _ _ _))
theorem f29_c : CalOk Tryd.prog 29 f29_sm := .inl ⟨f29_ok, ⟨Tryd.f29, Tryd.func29, by kernel_rfl, by kernel_rfl⟩⟩
noncomputable def f18_code : Code := (Tryd.f18.body).getD .skip
noncomputable def f18_l4_sk : SkS := ⟨7, [(24, .con (.slc (.int .u8))), (0, .con (.int .i64)), (0, .con (.int .i64))], []⟩
noncomputable def f18_l4_o0 : SkS := ⟨31, [(2, .con .bool)], []⟩
noncomputable def f18_l4_o1 : SkS := ⟨34, [], []⟩
noncomputable def f18_l4_outs : List Way := [⟨.ret, [], f18_l4_o0⟩, ⟨(.exit 0), [], f18_l4_o1⟩]
abbrev f18_l4_C := (List Int × Int)
abbrev f18_l4_X := Int
abbrev f18_l4_Y := (Unit) ⊕ (Unit)
noncomputable def f18_l4_con (t : f18_l4_sk.T) : f18_l4_C := (t.1.1, t.1.2.1)
noncomputable def f18_l4_get (t : f18_l4_sk.T) : f18_l4_X := t.1.2.2.1
noncomputable def f18_l4_put (c : f18_l4_C) (x : f18_l4_X) : f18_l4_sk.T := ((c.1, (c.2, (x, ()))), ())
theorem f18_l4_pg (t : f18_l4_sk.T) : f18_l4_put (f18_l4_con t) (f18_l4_get t) = t := by kernel_rfl
noncomputable def f18_l4_w0 (c : f18_l4_C) (y : Unit) : f18_l4_o0.T := ((false, ()), ())
noncomputable def f18_l4_w1 (c : f18_l4_C) (y : Unit) : f18_l4_o1.T := ((), ())
noncomputable def f18_l4_out (c : f18_l4_C) (y : f18_l4_Y) : OutV f18_l4_outs := (Sum.elim (fun y => (.inl (f18_l4_w0 c y))) (fun y => (.inr (.inl (f18_l4_w1 c y))))) y
noncomputable def f18_l4_k {R : Type} (a0 : List Int) (a1 : Int) (a2 : Int) (kin : f18_l4_X → Option R) (k0 : Unit → Option R) (k1 : Unit → Option R) : Option R :=
 (cond (decide (a2 < a1))
 (if (0 : Int) ≤ a2 ∧ a2 < ((List.length a0 : Nat) : Int) then ((f29 (⟨#[97, 98, 99, 100, 101, 102, 103, 104, 105, 106, 107, 108, 109, 110, 111, 112, 113, 114, 115, 116, 117, 118, 119, 120, 121, 122, 48, 49, 50, 51, 52, 53, 54, 55, 56, 57, 45]⟩ : ByteArray) (List.getD a0 (Int.toNat a2) (0 : Int))).bind fun r0 =>
  (cond (decide (r0.1.1 < (0 : Int)))
  (k0 ())
  (let v1 : Int := (IntKind.i64.wrap (a2 + (1 : Int)))
   (kin v1)))) else none)
 (k1 ()))
noncomputable def f18_l4_g (a0 : List Int) (a1 : Int) (x : f18_l4_X) : Option (f18_l4_X ⊕ f18_l4_Y) := f18_l4_k a0 a1 x (fun x => some (.inl x)) (fun y => some (.inr (.inl y))) (fun y => some (.inr (.inr y)))
noncomputable def f18_l4 (a0 : List Int) (a1 : Int) (x : f18_l4_X) : Option f18_l4_Y := loopO (f18_l4_g a0 a1) x
noncomputable def f18_l4_nd : Node := { nils := [], sk := f18_l4_sk, outs := f18_l4_outs, Y := f18_l4_Y, L := fun t => f18_l4 ((f18_l4_con t).1) ((f18_l4_con t).2) (f18_l4_get t), out := fun t y => f18_l4_out (f18_l4_con t) y, disp := fun t y K => (Sum.elim (fun y => K .ret (f18_l4_o0.fill (f18_l4_w0 (f18_l4_con t) y))) (fun y => K (.exit 0) (f18_l4_o1.fill (f18_l4_w1 (f18_l4_con t) y)))) y }
noncomputable def f18_fx : Fx := { E := env, T := [(29, f29_sm)], H := [], O := [], nodes := [((true, 4), f18_l4_nd)] }
noncomputable def f18_l4_b : Code := (loops f18_code).getD 0 .skip
theorem f18_l4_r (c : f18_l4_C) (x : f18_l4_X) : roundS f18_fx f18_l4_b f18_l4_nd (f18_l4_put c x) = f18_l4_k c.1 c.2 x (fun x => some (.inl (f18_l4_put c x))) (fun y => some (.inr (.inl (f18_l4_w0 c y)))) (fun y => some (.inr (.inr (.inl (f18_l4_w1 c y))))) := by kernel_rfl
theorem f18_l4_n {R : Type} (a0 : List Int) (a1 : Int) (a2 : Int) (kin : f18_l4_X → Option R) (k0 : Unit → Option R) (k1 : Unit → Option R) : f18_l4_k a0 a1 a2 kin k0 k1 = (f18_l4_g a0 a1 a2).bind (Sum.elim kin (Sum.elim k0 k1)) := by
  simp only [f18_l4_g, f18_l4_k, cond_bind, ite_bind, bind_bind, some_bind, none_bind, elim_bind, whenS_bind, Sum.elim_inl, Sum.elim_inr]
theorem f18_l4_ok : LoopOk f18_fx f18_l4_b f18_l4_nd := loop_ok f18_l4_con f18_l4_get f18_l4_put f18_l4_pg (fun c => f18_l4_g c.1 c.2) f18_l4_out (fun t y => rfl) (by intro R t y K; rcases y with y | y <;> rfl) (fun c x => by
  refine (f18_l4_r c x).trans ((f18_l4_n _ _ _ _ _ _).trans ?_)
  first
  | rfl
  | congr 1
    funext s
    rcases s with s | s | s <;> rfl) (fun t => rfl)
noncomputable def f18_k {R : Type} (a0 : ByteArray) (k : (Bool × Unit) × (Unit) → Option R) : Option R :=
 (cond (decide (((ByteArray.size a0 : Nat) : Int) < (1 : Int)))
 (k ((false, ()), ()))
 (cond (decide (((ByteArray.size a0 : Nat) : Int) > (20 : Int)))
  (k ((false, ()), ()))
  (if (0 : Int) ≤ (0 : Int) ∧ (0 : Int) < ((ByteArray.size a0 : Nat) : Int) then (cond (decide ((bt a0 (0 : Int)) < (97 : Int)))
   (k ((false, ()), ()))
   (if (0 : Int) ≤ (0 : Int) ∧ (0 : Int) < ((ByteArray.size a0 : Nat) : Int) then (cond (decide ((bt a0 (0 : Int)) > (122 : Int)))
    (k ((false, ()), ()))
    ((f18_l4 (s2b a0) ((List.length (s2b a0) : Nat) : Int) (0 : Int)).bind fun y2 =>
     ((Sum.elim (fun z3 =>
     (k ((false, ()), ())))
     (fun z4 =>
     (k ((true, ()), ())))) y2))) else none)) else none)))
noncomputable def f18 (a0 : ByteArray) : Option ((Bool × Unit) × (Unit)) := f18_k a0 some
noncomputable def f18_sm : Sm := { ps := [.ro .str], rs := [(.bool, .ro)], F := fun x => f18 x.1 }
theorem f18_m (x : ArgT [.ro .str]) : codeS f18_fx f18_code (start [.ro .str] [] x 34) (finK env [.tmp 2] [.ro .str] [(.bool, .ro)]) = f18_k x.1 (fun r => some (r, [])) := by kernel_rfl
theorem f18_n {R : Type} (a0 : ByteArray) (k : (Bool × Unit) × (Unit) → Option R) : f18_k a0 k = (f18 a0).bind k := by
  simp only [f18, f18_k, cond_bind, ite_bind, bind_bind, some_bind, none_bind, elim_bind, whenS_bind]
theorem f18_ok : SmOk Tryd.prog 18 f18_sm :=
  sum_of (c := f18_fx) (fn := Tryd.f18) (code := f18_code) (sm := f18_sm) mixed (env_ok env_envB) (TabsOk.all ⟨f29_c, trivial⟩) Tryd.func18 (by kernel_rfl)
   ((LoopsOk.of (l := [f18_l4_b]) (by kernel_rfl) ⟨node_is (by kernel_rfl) f18_l4_ok, trivial⟩))
   (no_tails (by kernel_rfl)) rfl
   (fun ks x hl => by
    have hk : ks = [] := List.length_eq_zero_iff.1 hl
    subst hk
    exact (f18_m x).trans (f18_n _ _))
theorem f18_c : CalOk Tryd.prog 18 f18_sm := .inl ⟨f18_ok, ⟨Tryd.f18, Tryd.func18, by kernel_rfl, by kernel_rfl⟩⟩
noncomputable def f6_code : Code := (Tryd.f6.body).getD .skip
noncomputable def f6_l7_sk : SkS := ⟨88, [(1, .ptr 16 []), (1, .ref 496 []), (29, .con (.slc Qt4)), (0, .con (.int .i64)), (0, .con (.int .i64))], [(16, ⟨some 29, Qt3, .ro, none⟩), (496, ⟨none, (.mp .str .bool), (.own (.own .ro)), none⟩)]⟩
noncomputable def f6_l7_o0 : SkS := ⟨121, [(2, .con (.int .i64))], []⟩
noncomputable def f6_l7_o1 : SkS := ⟨122, [(1, .ptr 16 [])], [(16, ⟨some 29, Qt3, .ro, none⟩)]⟩
noncomputable def f6_l7_outs : List Way := [⟨.ret, [], f6_l7_o0⟩, ⟨(.exit 1), [], f6_l7_o1⟩]
abbrev f6_l7_C := (List Qv1 × Int × Qv0 × (Option Nat))
abbrev f6_l7_X := (Int × List (ByteArray × Bool))
abbrev f6_l7_Y := (Int) ⊕ (Unit)
noncomputable def f6_l7_con (t : f6_l7_sk.T) : f6_l7_C := (t.1.1, t.1.2.1, t.2.1.1, t.2.1.2)
noncomputable def f6_l7_get (t : f6_l7_sk.T) : f6_l7_X := (t.1.2.2.1, t.2.2.1.1)
noncomputable def f6_l7_put (c : f6_l7_C) (x : f6_l7_X) : f6_l7_sk.T := ((c.1, (c.2.1, (x.1, ()))), ((c.2.2.1, c.2.2.2), ((x.2, ()), ())))
theorem f6_l7_pg (t : f6_l7_sk.T) : f6_l7_put (f6_l7_con t) (f6_l7_get t) = t := by kernel_rfl
noncomputable def f6_l7_w0 (c : f6_l7_C) (y : Int) : f6_l7_o0.T := ((y, ()), ())
noncomputable def f6_l7_w1 (c : f6_l7_C) (y : Unit) : f6_l7_o1.T := ((), ((c.2.2.1, c.2.2.2), ()))
noncomputable def f6_l7_out (c : f6_l7_C) (y : f6_l7_Y) : OutV f6_l7_outs := (Sum.elim (fun y => (.inl (f6_l7_w0 c y))) (fun y => (.inr (.inl (f6_l7_w1 c y))))) y
noncomputable def f6_l7_k {R : Type} (a0 : List Qv1) (a1 : Int) (a2 : Int) (a3 : Qv0) (a4 : List (ByteArray × Bool)) (kin : f6_l7_X → Option R) (k0 : Int → Option R) (k1 : Unit → Option R) : Option R :=
 (cond (decide (a2 < a1))
 (if (0 : Int) ≤ a2 ∧ a2 < ((List.length a0 : Nat) : Int) then ((f18 (List.getD a0 (Int.toNat a2) (ByteArray.empty, ((0 : Int), ()))).1).bind fun r1 =>
  (cond (!r1.1.1)
  (k0 (15 : Int))
  (let v2 : Bool := ((mfind .str .bool a4 (List.getD a0 (Int.toNat a2) (ByteArray.empty, ((0 : Int), ()))).1).getD false)
   (cond v2
   (k0 (5 : Int))
   (cond (decide ((List.getD a0 (Int.toNat a2) (ByteArray.empty, ((0 : Int), ()))).2.1 < (0 : Int)))
    (k0 (19 : Int))
    (cond (decide ((List.getD a0 (Int.toNat a2) (ByteArray.empty, ((0 : Int), ()))).2.1 > ((List.length a3.2.1 : Nat) : Int)))
     (k0 (19 : Int))
     (let r3 : List (ByteArray × Bool) := (mset .str .bool a4 (List.getD a0 (Int.toNat a2) (ByteArray.empty, ((0 : Int), ()))).1 true)
      (let v4 : Int := (IntKind.i64.wrap (a2 + (1 : Int)))
      (kin (v4, r3)))))))))) else none)
 (k1 ()))
noncomputable def f6_l7_g (a0 : List Qv1) (a1 : Int) (a3 : Qv0) (x : f6_l7_X) : Option (f6_l7_X ⊕ f6_l7_Y) := f6_l7_k a0 a1 x.1 a3 x.2 (fun x => some (.inl x)) (fun y => some (.inr (.inl y))) (fun y => some (.inr (.inr y)))
noncomputable def f6_l7 (a0 : List Qv1) (a1 : Int) (a3 : Qv0) (x : f6_l7_X) : Option f6_l7_Y := loopO (f6_l7_g a0 a1 a3) x
noncomputable def f6_l7_nd : Node := { nils := [], sk := f6_l7_sk, outs := f6_l7_outs, Y := f6_l7_Y, L := fun t => f6_l7 ((f6_l7_con t).1) ((f6_l7_con t).2.1) ((f6_l7_con t).2.2.1) (f6_l7_get t), out := fun t y => f6_l7_out (f6_l7_con t) y, disp := fun t y K => (Sum.elim (fun y => K .ret (f6_l7_o0.fill (f6_l7_w0 (f6_l7_con t) y))) (fun y => K (.exit 1) (f6_l7_o1.fill (f6_l7_w1 (f6_l7_con t) y)))) y }
noncomputable def f6_t23_sk : SkS := ⟨55, [(1, .ptr 16 []), (5, .ptr 112 []), (0, .con (.int .i64)), (57, .con (.slc Qt7)), (0, .con (.int .i64)), (0, .con (.int .i64))], [(16, ⟨some 29, Qt3, .ro, none⟩), (112, ⟨some 35, Qt7, (.pair .ro (.pair .ro (.pair .ro (.pair .ro .ro)))), none⟩)]⟩
noncomputable def f6_t23_o0 : SkS := ⟨121, [(2, .con (.int .i64))], []⟩
noncomputable def f6_t23_o1 : SkS := ⟨55, [(1, .ptr 16 []), (64, .con (.slc Qt7)), (0, .con (.int .i64)), (0, .con (.int .i64))], [(16, ⟨some 29, Qt3, .ro, none⟩)]⟩
noncomputable def f6_t23_outs : List Way := [⟨.ret, [], f6_t23_o0⟩, ⟨.normal, [], f6_t23_o1⟩]
abbrev f6_t23_C := ((Option Nat) × (Option Nat))
abbrev f6_t23_X := (Int × List (Int × (Int × Qv1)) × Int × Int × Qv0 × (Int × (Int × Qv1)))
abbrev f6_t23_Y := (Int) ⊕ (Unit)
noncomputable def f6_t23_con (t : f6_t23_sk.T) : f6_t23_C := (t.2.1.2, t.2.2.1.2)
noncomputable def f6_t23_get (t : f6_t23_sk.T) : f6_t23_X := (t.1.1, t.1.2.1, t.1.2.2.1, t.1.2.2.2.1, t.2.1.1, t.2.2.1.1)
noncomputable def f6_t23_put (c : f6_t23_C) (x : f6_t23_X) : f6_t23_sk.T := ((x.1, (x.2.1, (x.2.2.1, (x.2.2.2.1, ())))), ((x.2.2.2.2.1, c.1), ((x.2.2.2.2.2, c.2), ())))
theorem f6_t23_pg (t : f6_t23_sk.T) : f6_t23_put (f6_t23_con t) (f6_t23_get t) = t := by kernel_rfl
noncomputable def f6_t23_w0 (c : f6_t23_C) (x : f6_t23_X) (y : Int) : f6_t23_o0.T := ((y, ()), ())
noncomputable def f6_t23_w1 (c : f6_t23_C) (x : f6_t23_X) (y : Unit) : f6_t23_o1.T := ((x.2.1, (x.2.2.1, (x.2.2.2.1, ()))), ((x.2.2.2.2.1, c.1), ()))
noncomputable def f6_t23_out (c : f6_t23_C) (x : f6_t23_X) (y : f6_t23_Y) : OutV f6_t23_outs := (Sum.elim (fun y => (.inl (f6_t23_w0 c x y))) (fun y => (.inr (.inl (f6_t23_w1 c x y))))) y
noncomputable def f6_t23_k {R : Type} (a0 : Int) (a1 : List (Int × (Int × Qv1))) (a2 : Int) (a3 : Int) (a4 : Qv0) (a5 : (Int × (Int × Qv1))) (k0 : Int → Option R) (k1 : Unit → Option R) : Option R :=
 (cond (decide (a5.2.1 < (0 : Int)))
 (k0 (1 : Int))
 (cond (decide (a5.2.1 > (3 : Int)))
  (k0 (1 : Int))
  (cond (decide (a5.2.2.2.1 < (-65535 : Int)))
   (k0 (1 : Int))
   (cond (decide (a5.2.2.2.1 > (65535 : Int)))
    (k0 (1 : Int))
    (cond (decide (a5.1 < (0 : Int)))
     (k0 (19 : Int))
     (cond (decide (a5.1 ≥ ((List.length a4.2.1 : Nat) : Int)))
      (k0 (19 : Int))
      (cond (decide (a0 ≥ ((List.length a4.2.1 : Nat) : Int)))
       (k0 (19 : Int))
       ((f18 a5.2.2.1).bind fun r9 =>
        (cond (!r9.1.1)
        (k0 (15 : Int))
        (k1 ()))))))))))
noncomputable def f6_t23 (a0 : Int) (a1 : List (Int × (Int × Qv1))) (a2 : Int) (a3 : Int) (a4 : Qv0) (a5 : (Int × (Int × Qv1))) : Option f6_t23_Y := f6_t23_k a0 a1 a2 a3 a4 a5 (fun y => some (.inl y)) (fun y => some (.inr y))
noncomputable def f6_t23_nd : Node := { nils := [], sk := f6_t23_sk, outs := f6_t23_outs, Y := f6_t23_Y, L := fun t => f6_t23 ((f6_t23_get t).1) ((f6_t23_get t).2.1) ((f6_t23_get t).2.2.1) ((f6_t23_get t).2.2.2.1) ((f6_t23_get t).2.2.2.2.1) ((f6_t23_get t).2.2.2.2.2), out := fun t y => f6_t23_out (f6_t23_con t) (f6_t23_get t) y, disp := fun t y K => (Sum.elim (fun y => K .ret (f6_t23_o0.fill (f6_t23_w0 (f6_t23_con t) (f6_t23_get t) y))) (fun y => K .normal (f6_t23_o1.fill (f6_t23_w1 (f6_t23_con t) (f6_t23_get t) y)))) y }
noncomputable def f6_l18_sk : SkS := ⟨55, [(1, .ptr 16 []), (64, .con (.slc Qt7)), (0, .con (.int .i64)), (0, .con (.int .i64))], [(16, ⟨some 29, Qt3, .ro, none⟩)]⟩
noncomputable def f6_l18_o0 : SkS := ⟨121, [(2, .con (.int .i64))], []⟩
noncomputable def f6_l18_o1 : SkS := ⟨124, [], []⟩
noncomputable def f6_l18_outs : List Way := [⟨.ret, [], f6_l18_o0⟩, ⟨(.exit 4), [], f6_l18_o1⟩]
abbrev f6_l18_C := (List (Int × (Int × Qv1)) × Int × Qv0 × (Option Nat))
abbrev f6_l18_X := Int
abbrev f6_l18_Y := (Int) ⊕ (Unit)
noncomputable def f6_l18_con (t : f6_l18_sk.T) : f6_l18_C := (t.1.1, t.1.2.1, t.2.1.1, t.2.1.2)
noncomputable def f6_l18_get (t : f6_l18_sk.T) : f6_l18_X := t.1.2.2.1
noncomputable def f6_l18_put (c : f6_l18_C) (x : f6_l18_X) : f6_l18_sk.T := ((c.1, (c.2.1, (x, ()))), ((c.2.2.1, c.2.2.2), ()))
theorem f6_l18_pg (t : f6_l18_sk.T) : f6_l18_put (f6_l18_con t) (f6_l18_get t) = t := by kernel_rfl
noncomputable def f6_l18_w0 (c : f6_l18_C) (y : Int) : f6_l18_o0.T := ((y, ()), ())
noncomputable def f6_l18_w1 (c : f6_l18_C) (y : Unit) : f6_l18_o1.T := ((), ())
noncomputable def f6_l18_out (c : f6_l18_C) (y : f6_l18_Y) : OutV f6_l18_outs := (Sum.elim (fun y => (.inl (f6_l18_w0 c y))) (fun y => (.inr (.inl (f6_l18_w1 c y))))) y
noncomputable def f6_l18_k {R : Type} (a0 : List (Int × (Int × Qv1))) (a1 : Int) (a2 : Int) (a3 : Qv0) (kin : f6_l18_X → Option R) (k0 : Int → Option R) (k1 : Unit → Option R) : Option R :=
 (cond (decide (a2 < a1))
 (if (0 : Int) ≤ a2 ∧ a2 < ((List.length a0 : Nat) : Int) then (cond ((List.getD a0 (Int.toNat a2) ((0 : Int), ((0 : Int), (ByteArray.empty, ((0 : Int), ()))))).2.1 == (2 : Int))
  (let v8 : Int := (IntKind.i64.wrap ((List.getD a0 (Int.toNat a2) ((0 : Int), ((0 : Int), (ByteArray.empty, ((0 : Int), ()))))).1 + (1 : Int)))
   ((f6_t23 v8 a0 a1 a2 a3 (List.getD a0 (Int.toNat a2) ((0 : Int), ((0 : Int), (ByteArray.empty, ((0 : Int), ())))))).bind fun y10 =>
   ((Sum.elim (fun z11 =>
   (k0 z11))
   (fun z12 =>
   (let v13 : Int := (IntKind.i64.wrap (a2 + (1 : Int)))
    (kin v13)))) y10)))
  ((f6_t23 (List.getD a0 (Int.toNat a2) ((0 : Int), ((0 : Int), (ByteArray.empty, ((0 : Int), ()))))).1 a0 a1 a2 a3 (List.getD a0 (Int.toNat a2) ((0 : Int), ((0 : Int), (ByteArray.empty, ((0 : Int), ())))))).bind fun y14 =>
   ((Sum.elim (fun z15 =>
   (k0 z15))
   (fun z16 =>
   (let v17 : Int := (IntKind.i64.wrap (a2 + (1 : Int)))
    (kin v17)))) y14))) else none)
 (k1 ()))
noncomputable def f6_l18_g (a0 : List (Int × (Int × Qv1))) (a1 : Int) (a3 : Qv0) (x : f6_l18_X) : Option (f6_l18_X ⊕ f6_l18_Y) := f6_l18_k a0 a1 x a3 (fun x => some (.inl x)) (fun y => some (.inr (.inl y))) (fun y => some (.inr (.inr y)))
noncomputable def f6_l18 (a0 : List (Int × (Int × Qv1))) (a1 : Int) (a3 : Qv0) (x : f6_l18_X) : Option f6_l18_Y := loopO (f6_l18_g a0 a1 a3) x
noncomputable def f6_l18_nd : Node := { nils := [], sk := f6_l18_sk, outs := f6_l18_outs, Y := f6_l18_Y, L := fun t => f6_l18 ((f6_l18_con t).1) ((f6_l18_con t).2.1) ((f6_l18_con t).2.2.1) (f6_l18_get t), out := fun t y => f6_l18_out (f6_l18_con t) y, disp := fun t y K => (Sum.elim (fun y => K .ret (f6_l18_o0.fill (f6_l18_w0 (f6_l18_con t) y))) (fun y => K (.exit 4) (f6_l18_o1.fill (f6_l18_w1 (f6_l18_con t) y)))) y }
noncomputable def f6_fx : Fx := { E := env, T := [(18, f18_sm)], H := [], O := [], nodes := [((true, 7), f6_l7_nd), ((false, 23), f6_t23_nd), ((true, 18), f6_l18_nd)] }
noncomputable def f6_l7_b : Code := (loops f6_code).getD 0 .skip
theorem f6_l7_r (c : f6_l7_C) (x : f6_l7_X) : roundS f6_fx f6_l7_b f6_l7_nd (f6_l7_put c x) = f6_l7_k c.1 c.2.1 x.1 c.2.2.1 x.2 (fun x => some (.inl (f6_l7_put c x))) (fun y => some (.inr (.inl (f6_l7_w0 c y)))) (fun y => some (.inr (.inr (.inl (f6_l7_w1 c y))))) := by kernel_rfl
theorem f6_l7_n {R : Type} (a0 : List Qv1) (a1 : Int) (a2 : Int) (a3 : Qv0) (a4 : List (ByteArray × Bool)) (kin : f6_l7_X → Option R) (k0 : Int → Option R) (k1 : Unit → Option R) : f6_l7_k a0 a1 a2 a3 a4 kin k0 k1 = (f6_l7_g a0 a1 a3 (a2, a4)).bind (Sum.elim kin (Sum.elim k0 k1)) := by
  simp only [f6_l7_g, f6_l7_k, cond_bind, ite_bind, bind_bind, some_bind, none_bind, elim_bind, whenS_bind, Sum.elim_inl, Sum.elim_inr]
theorem f6_l7_ok : LoopOk f6_fx f6_l7_b f6_l7_nd := loop_ok f6_l7_con f6_l7_get f6_l7_put f6_l7_pg (fun c => f6_l7_g c.1 c.2.1 c.2.2.1) f6_l7_out (fun t y => rfl) (by intro R t y K; rcases y with y | y <;> rfl) (fun c x => by
  refine (f6_l7_r c x).trans ((f6_l7_n _ _ _ _ _ _ _ _).trans ?_)
  first
  | rfl
  | congr 1
    funext s
    rcases s with s | s | s <;> rfl) (fun t => rfl)
noncomputable def f6_t23_b : Code := (tails f6_code).getD 27 .skip
theorem f6_t23_r (c : f6_t23_C) (x : f6_t23_X) : tailS f6_fx f6_t23_b f6_t23_nd (f6_t23_put c x) = f6_t23_k x.1 x.2.1 x.2.2.1 x.2.2.2.1 x.2.2.2.2.1 x.2.2.2.2.2 (fun y => some (.inl (f6_t23_w0 c x y))) (fun y => some (.inr (.inl (f6_t23_w1 c x y)))) := by kernel_rfl
theorem f6_t23_n {R : Type} (a0 : Int) (a1 : List (Int × (Int × Qv1))) (a2 : Int) (a3 : Int) (a4 : Qv0) (a5 : (Int × (Int × Qv1))) (k0 : Int → Option R) (k1 : Unit → Option R) : f6_t23_k a0 a1 a2 a3 a4 a5 k0 k1 = (f6_t23 a0 a1 a2 a3 a4 a5).bind (Sum.elim k0 k1) := by
  simp only [f6_t23, f6_t23_k, cond_bind, ite_bind, bind_bind, some_bind, none_bind, elim_bind, whenS_bind, Sum.elim_inl, Sum.elim_inr]
theorem f6_t23_ok : TailOk f6_fx f6_t23_b f6_t23_nd := tail_ok f6_t23_con f6_t23_get f6_t23_put f6_t23_pg (fun x => f6_t23 x.1 x.2.1 x.2.2.1 x.2.2.2.1 x.2.2.2.2.1 x.2.2.2.2.2) f6_t23_out (fun t y => rfl) (by intro R t y K; rcases y with y | y <;> rfl) (fun c x => by
  refine (f6_t23_r c x).trans ((f6_t23_n _ _ _ _ _ _ _ _).trans ?_)
  first
  | rfl
  | congr 1
    funext s
    rcases s with s | s <;> rfl) (fun t => rfl)
noncomputable def f6_l18_b : Code := (loops f6_code).getD 1 .skip
theorem f6_l18_r (c : f6_l18_C) (x : f6_l18_X) : roundS f6_fx f6_l18_b f6_l18_nd (f6_l18_put c x) = f6_l18_k c.1 c.2.1 x c.2.2.1 (fun x => some (.inl (f6_l18_put c x))) (fun y => some (.inr (.inl (f6_l18_w0 c y)))) (fun y => some (.inr (.inr (.inl (f6_l18_w1 c y))))) := by kernel_rfl
theorem f6_l18_n {R : Type} (a0 : List (Int × (Int × Qv1))) (a1 : Int) (a2 : Int) (a3 : Qv0) (kin : f6_l18_X → Option R) (k0 : Int → Option R) (k1 : Unit → Option R) : f6_l18_k a0 a1 a2 a3 kin k0 k1 = (f6_l18_g a0 a1 a3 a2).bind (Sum.elim kin (Sum.elim k0 k1)) := by
  simp only [f6_l18_g, f6_l18_k, cond_bind, ite_bind, bind_bind, some_bind, none_bind, elim_bind, whenS_bind, Sum.elim_inl, Sum.elim_inr]
theorem f6_l18_ok : LoopOk f6_fx f6_l18_b f6_l18_nd := loop_ok f6_l18_con f6_l18_get f6_l18_put f6_l18_pg (fun c => f6_l18_g c.1 c.2.1 c.2.2.1) f6_l18_out (fun t y => rfl) (by intro R t y K; rcases y with y | y <;> rfl) (fun c x => by
  refine (f6_l18_r c x).trans ((f6_l18_n _ _ _ _ _ _ _).trans ?_)
  first
  | rfl
  | congr 1
    funext s
    rcases s with s | s | s <;> rfl) (fun t => rfl)
noncomputable def f6_k {R : Type} (a0 : Qv0) (k : (Int × Unit) × (Unit) → Option R) : Option R :=
 ((f18 a0.1).bind fun r0 =>
 (cond (!r0.1.1)
 (k (((15 : Int), ()), ()))
 (cond (decide (((List.length a0.2.1 : Nat) : Int) > (4096 : Int)))
  (k (((2 : Int), ()), ()))
  (cond (decide (((List.length a0.2.2.1 : Nat) : Int) > (64 : Int)))
   (k (((2 : Int), ()), ()))
   (cond (decide (((List.length a0.2.2.2.1 : Nat) : Int) > (256 : Int)))
    (k (((2 : Int), ()), ()))
    ((f6_l7 a0.2.2.1 ((List.length a0.2.2.1 : Nat) : Int) a0 ((0 : Int), ([] : List (ByteArray × Bool)))).bind fun y5 =>
     ((Sum.elim (fun z6 =>
     (k ((z6, ()), ())))
     (fun z7 =>
     ((f6_l18 a0.2.2.2.1 ((List.length a0.2.2.2.1 : Nat) : Int) a0 (0 : Int)).bind fun y18 =>
      ((Sum.elim (fun z19 =>
      (k ((z19, ()), ())))
      (fun z20 =>
      (k (((0 : Int), ()), ())))) y18)))) y5)))))))
noncomputable def f6 (a0 : Qv0) : Option ((Int × Unit) × (Unit)) := f6_k a0 some
noncomputable def f6_sm : Sm := { ps := [.ro Qt3], rs := [((.int .i64), .ro)], F := fun x => f6 x.1 }
theorem f6_m (x : ArgT [.ro Qt3]) : codeS f6_fx f6_code (start [.ro Qt3] [] x 124) (finK env [.tmp 2] [.ro Qt3] [((.int .i64), .ro)]) = f6_k x.1 (fun r => some (r, [])) := by kernel_rfl
theorem f6_n {R : Type} (a0 : Qv0) (k : (Int × Unit) × (Unit) → Option R) : f6_k a0 k = (f6 a0).bind k := by
  simp only [f6, f6_k, cond_bind, ite_bind, bind_bind, some_bind, none_bind, elim_bind, whenS_bind]
theorem f6_ok : SmOk Tryd.prog 6 f6_sm :=
  sum_of (c := f6_fx) (fn := Tryd.f6) (code := f6_code) (sm := f6_sm) mixed (env_ok env_envB) (TabsOk.all ⟨f18_c, trivial⟩) Tryd.func6 (by kernel_rfl)
   ((LoopsOk.of (l := [f6_l7_b, f6_l18_b]) (by kernel_rfl) ⟨node_is (by kernel_rfl) f6_l7_ok, node_is (by kernel_rfl) f6_l18_ok, trivial⟩))
   ((TailsOk.of (l := [((tails f6_code).getD 0 .skip), ((tails f6_code).getD 1 .skip), ((tails f6_code).getD 2 .skip), ((tails f6_code).getD 3 .skip), ((tails f6_code).getD 4 .skip), ((tails f6_code).getD 5 .skip), ((tails f6_code).getD 6 .skip), ((tails f6_code).getD 7 .skip), ((tails f6_code).getD 8 .skip), ((tails f6_code).getD 9 .skip), ((tails f6_code).getD 10 .skip), ((tails f6_code).getD 11 .skip), ((tails f6_code).getD 12 .skip), ((tails f6_code).getD 13 .skip), ((tails f6_code).getD 14 .skip), ((tails f6_code).getD 15 .skip), ((tails f6_code).getD 16 .skip), ((tails f6_code).getD 17 .skip), ((tails f6_code).getD 18 .skip), ((tails f6_code).getD 19 .skip), ((tails f6_code).getD 20 .skip), ((tails f6_code).getD 21 .skip), ((tails f6_code).getD 22 .skip), ((tails f6_code).getD 23 .skip), ((tails f6_code).getD 24 .skip), ((tails f6_code).getD 25 .skip), ((tails f6_code).getD 26 .skip), f6_t23_b, ((tails f6_code).getD 28 .skip), ((tails f6_code).getD 29 .skip), ((tails f6_code).getD 30 .skip), ((tails f6_code).getD 31 .skip), ((tails f6_code).getD 32 .skip), ((tails f6_code).getD 33 .skip), ((tails f6_code).getD 34 .skip), ((tails f6_code).getD 35 .skip)]) (by kernel_rfl) ⟨node_no (by kernel_rfl), node_no (by kernel_rfl), node_no (by kernel_rfl), node_no (by kernel_rfl), node_no (by kernel_rfl), node_no (by kernel_rfl), node_no (by kernel_rfl), node_no (by kernel_rfl), node_no (by kernel_rfl), node_no (by kernel_rfl), node_no (by kernel_rfl), node_no (by kernel_rfl), node_no (by kernel_rfl), node_no (by kernel_rfl), node_no (by kernel_rfl), node_no (by kernel_rfl), node_no (by kernel_rfl), node_no (by kernel_rfl), node_no (by kernel_rfl), node_no (by kernel_rfl), node_no (by kernel_rfl), node_no (by kernel_rfl), node_no (by kernel_rfl), node_no (by kernel_rfl), node_no (by kernel_rfl), node_no (by kernel_rfl), node_no (by kernel_rfl), node_is (by kernel_rfl) f6_t23_ok, node_no (by kernel_rfl), node_no (by kernel_rfl), node_no (by kernel_rfl), node_no (by kernel_rfl), node_no (by kernel_rfl), node_no (by kernel_rfl), node_no (by kernel_rfl), node_no (by kernel_rfl), trivial⟩)) rfl
   (fun ks x hl => by
    have hk : ks = [] := List.length_eq_zero_iff.1 hl
    subst hk
    exact (f6_m x).trans (f6_n _ _))
theorem f6_c : CalOk Tryd.prog 6 f6_sm := .inl ⟨f6_ok, ⟨Tryd.f6, Tryd.func6, by kernel_rfl, by kernel_rfl⟩⟩
noncomputable def f19_code : Code := (Tryd.f19.body).getD .skip
noncomputable def f19_l2_sk : SkS := ⟨10, [(0, .con (.slc .str)), (0, .con .str), (5, .con (.int .i64)), (0, .con (.int .i64))], []⟩
noncomputable def f19_l2_o0 : SkS := ⟨14, [(4, .con (.int .i64))], []⟩
noncomputable def f19_l2_o1 : SkS := ⟨19, [], []⟩
noncomputable def f19_l2_outs : List Way := [⟨.ret, [], f19_l2_o0⟩, ⟨(.exit 0), [], f19_l2_o1⟩]
abbrev f19_l2_C := (List ByteArray × ByteArray × Int)
abbrev f19_l2_X := Int
abbrev f19_l2_Y := (Int) ⊕ (Unit)
noncomputable def f19_l2_con (t : f19_l2_sk.T) : f19_l2_C := (t.1.1, t.1.2.1, t.1.2.2.1)
noncomputable def f19_l2_get (t : f19_l2_sk.T) : f19_l2_X := t.1.2.2.2.1
noncomputable def f19_l2_put (c : f19_l2_C) (x : f19_l2_X) : f19_l2_sk.T := ((c.1, (c.2.1, (c.2.2, (x, ())))), ())
theorem f19_l2_pg (t : f19_l2_sk.T) : f19_l2_put (f19_l2_con t) (f19_l2_get t) = t := by kernel_rfl
noncomputable def f19_l2_w0 (c : f19_l2_C) (y : Int) : f19_l2_o0.T := ((y, ()), ())
noncomputable def f19_l2_w1 (c : f19_l2_C) (y : Unit) : f19_l2_o1.T := ((), ())
noncomputable def f19_l2_out (c : f19_l2_C) (y : f19_l2_Y) : OutV f19_l2_outs := (Sum.elim (fun y => (.inl (f19_l2_w0 c y))) (fun y => (.inr (.inl (f19_l2_w1 c y))))) y
noncomputable def f19_l2_k {R : Type} (a0 : List ByteArray) (a1 : ByteArray) (a2 : Int) (a3 : Int) (kin : f19_l2_X → Option R) (k0 : Int → Option R) (k1 : Unit → Option R) : Option R :=
 (cond (decide (a3 < a2))
 (if (0 : Int) ≤ a3 ∧ a3 < ((List.length a0 : Nat) : Int) then (cond (strEq a1 (List.getD a0 (Int.toNat a3) ByteArray.empty))
  (k0 a3)
  (let v0 : Int := (IntKind.i64.wrap (a3 + (1 : Int)))
   (kin v0))) else none)
 (k1 ()))
noncomputable def f19_l2_g (a0 : List ByteArray) (a1 : ByteArray) (a2 : Int) (x : f19_l2_X) : Option (f19_l2_X ⊕ f19_l2_Y) := f19_l2_k a0 a1 a2 x (fun x => some (.inl x)) (fun y => some (.inr (.inl y))) (fun y => some (.inr (.inr y)))
noncomputable def f19_l2 (a0 : List ByteArray) (a1 : ByteArray) (a2 : Int) (x : f19_l2_X) : Option f19_l2_Y := loopO (f19_l2_g a0 a1 a2) x
noncomputable def f19_l2_nd : Node := { nils := [], sk := f19_l2_sk, outs := f19_l2_outs, Y := f19_l2_Y, L := fun t => f19_l2 ((f19_l2_con t).1) ((f19_l2_con t).2.1) ((f19_l2_con t).2.2) (f19_l2_get t), out := fun t y => f19_l2_out (f19_l2_con t) y, disp := fun t y K => (Sum.elim (fun y => K .ret (f19_l2_o0.fill (f19_l2_w0 (f19_l2_con t) y))) (fun y => K (.exit 0) (f19_l2_o1.fill (f19_l2_w1 (f19_l2_con t) y)))) y }
noncomputable def f19_fx : Fx := { E := env, T := [], H := [], O := [], nodes := [((true, 2), f19_l2_nd)] }
noncomputable def f19_l2_b : Code := (loops f19_code).getD 0 .skip
theorem f19_l2_r (c : f19_l2_C) (x : f19_l2_X) : roundS f19_fx f19_l2_b f19_l2_nd (f19_l2_put c x) = f19_l2_k c.1 c.2.1 c.2.2 x (fun x => some (.inl (f19_l2_put c x))) (fun y => some (.inr (.inl (f19_l2_w0 c y)))) (fun y => some (.inr (.inr (.inl (f19_l2_w1 c y))))) := by kernel_rfl
theorem f19_l2_n {R : Type} (a0 : List ByteArray) (a1 : ByteArray) (a2 : Int) (a3 : Int) (kin : f19_l2_X → Option R) (k0 : Int → Option R) (k1 : Unit → Option R) : f19_l2_k a0 a1 a2 a3 kin k0 k1 = (f19_l2_g a0 a1 a2 a3).bind (Sum.elim kin (Sum.elim k0 k1)) := by
  simp only [f19_l2_g, f19_l2_k, cond_bind, ite_bind, bind_bind, some_bind, none_bind, elim_bind, whenS_bind, Sum.elim_inl, Sum.elim_inr]
theorem f19_l2_ok : LoopOk f19_fx f19_l2_b f19_l2_nd := loop_ok f19_l2_con f19_l2_get f19_l2_put f19_l2_pg (fun c => f19_l2_g c.1 c.2.1 c.2.2) f19_l2_out (fun t y => rfl) (by intro R t y K; rcases y with y | y <;> rfl) (fun c x => by
  refine (f19_l2_r c x).trans ((f19_l2_n _ _ _ _ _ _ _).trans ?_)
  first
  | rfl
  | congr 1
    funext s
    rcases s with s | s | s <;> rfl) (fun t => rfl)
noncomputable def f19_k {R : Type} (a0 : List ByteArray) (a1 : ByteArray) (k : (Int × Unit) × (Unit) → Option R) : Option R :=
 ((f19_l2 a0 a1 ((List.length a0 : Nat) : Int) (0 : Int)).bind fun y1 =>
 ((Sum.elim (fun z2 =>
 (k ((z2, ()), ())))
 (fun z3 =>
 (k (((-1 : Int), ()), ())))) y1))
noncomputable def f19 (a0 : List ByteArray) (a1 : ByteArray) : Option ((Int × Unit) × (Unit)) := f19_k a0 a1 some
noncomputable def f19_sm : Sm := { ps := [.ro (.slc .str), .ro .str], rs := [((.int .i64), .ro)], F := fun x => f19 x.1 x.2.1 }
theorem f19_m (x : ArgT [.ro (.slc .str), .ro .str]) : codeS f19_fx f19_code (start [.ro (.slc .str), .ro .str] [] x 19) (finK env [.tmp 4] [.ro (.slc .str), .ro .str] [((.int .i64), .ro)]) = f19_k x.1 x.2.1 (fun r => some (r, [])) := by kernel_rfl
theorem f19_n {R : Type} (a0 : List ByteArray) (a1 : ByteArray) (k : (Int × Unit) × (Unit) → Option R) : f19_k a0 a1 k = (f19 a0 a1).bind k := by
  simp only [f19, f19_k, cond_bind, ite_bind, bind_bind, some_bind, none_bind, elim_bind, whenS_bind]
theorem f19_ok : SmOk Tryd.prog 19 f19_sm :=
  sum_of (c := f19_fx) (fn := Tryd.f19) (code := f19_code) (sm := f19_sm) mixed (env_ok env_envB) (TabsOk.all trivial) Tryd.func19 (by kernel_rfl)
   ((LoopsOk.of (l := [f19_l2_b]) (by kernel_rfl) ⟨node_is (by kernel_rfl) f19_l2_ok, trivial⟩))
   (no_tails (by kernel_rfl)) rfl
   (fun ks x hl => by
    have hk : ks = [] := List.length_eq_zero_iff.1 hl
    subst hk
    exact (f19_m x).trans (f19_n _ _ _))
theorem f19_c : CalOk Tryd.prog 19 f19_sm := .inl ⟨f19_ok, ⟨Tryd.f19, Tryd.func19, by kernel_rfl, by kernel_rfl⟩⟩
noncomputable def f7_code : Code := (Tryd.f7.body).getD .skip
noncomputable def f7_fx : Fx := { E := env, T := [(19, f19_sm)], H := [], O := [], nodes := [] }
noncomputable def f7_k {R : Type} (a0 : List ByteArray) (a1 : ByteArray) (k : (Bool × Unit) × (Unit) → Option R) : Option R :=
 ((f19 a0 a1).bind fun r0 =>
 (k (((decide (r0.1.1 ≥ (0 : Int))), ()), ())))
noncomputable def f7 (a0 : List ByteArray) (a1 : ByteArray) : Option ((Bool × Unit) × (Unit)) := f7_k a0 a1 some
noncomputable def f7_sm : Sm := { ps := [.ro (.slc .str), .ro .str], rs := [(.bool, .ro)], F := fun x => f7 x.1 x.2.1 }
theorem f7_m (x : ArgT [.ro (.slc .str), .ro .str]) : codeS f7_fx f7_code (start [.ro (.slc .str), .ro .str] [] x 9) (finK env [.tmp 4] [.ro (.slc .str), .ro .str] [(.bool, .ro)]) = f7_k x.1 x.2.1 (fun r => some (r, [])) := by kernel_rfl
theorem f7_n {R : Type} (a0 : List ByteArray) (a1 : ByteArray) (k : (Bool × Unit) × (Unit) → Option R) : f7_k a0 a1 k = (f7 a0 a1).bind k := by
  simp only [f7, f7_k, cond_bind, ite_bind, bind_bind, some_bind, none_bind, elim_bind, whenS_bind]
theorem f7_ok : SmOk Tryd.prog 7 f7_sm :=
  sum_of (c := f7_fx) (fn := Tryd.f7) (code := f7_code) (sm := f7_sm) mixed (env_ok env_envB) (TabsOk.all ⟨f19_c, trivial⟩) Tryd.func7 (by kernel_rfl)
   ((LoopsOk.of (l := []) (by kernel_rfl) trivial))
   (no_tails (by kernel_rfl)) rfl
   (fun ks x hl => by
    have hk : ks = [] := List.length_eq_zero_iff.1 hl
    subst hk
    exact (f7_m x).trans (f7_n _ _ _))
theorem f7_c : CalOk Tryd.prog 7 f7_sm := .inl ⟨f7_ok, ⟨Tryd.f7, Tryd.func7, by kernel_rfl, by kernel_rfl⟩⟩
noncomputable def f30_code : Code := (Tryd.f30.body).getD .skip
noncomputable def f30_fx : Fx := { E := env, T := [], H := [], O := [], nodes := [] }
noncomputable def f30_k {R : Type} (a0 : Qv1) (a1 : Qv1) (k : (Bool × Unit) × (Unit) → Option R) : Option R :=
 (k (((strEq a0.1 a1.1), ()), ()))
noncomputable def f30 (a0 : Qv1) (a1 : Qv1) : Option ((Bool × Unit) × (Unit)) := f30_k a0 a1 some
noncomputable def f30_sm : Sm := { ps := [.ro Qt4, .lk Qt4], rs := [(.bool, .ro)], F := fun x => f30 x.1 x.2.1 }
theorem f30_m (x : ArgT [.ro Qt4, .lk Qt4]) : codeS f30_fx f30_code (start [.ro Qt4, .lk Qt4] [] x 9) (finK env [.tmp 3] [.ro Qt4, .lk Qt4] [(.bool, .ro)]) = f30_k x.1 x.2.1 (fun r => some (r, [])) := by kernel_rfl
theorem f30_n {R : Type} (a0 : Qv1) (a1 : Qv1) (k : (Bool × Unit) × (Unit) → Option R) : f30_k a0 a1 k = (f30 a0 a1).bind k := by
  simp only [f30, f30_k, cond_bind, ite_bind, bind_bind, some_bind, none_bind, elim_bind, whenS_bind]
theorem f30_ok : SmOk Tryd.prog 30 f30_sm :=
  sum_of (c := f30_fx) (fn := Tryd.f30) (code := f30_code) (sm := f30_sm) mixed (env_ok env_envB) (TabsOk.all trivial) Tryd.func30 (by kernel_rfl)
   ((LoopsOk.of (l := []) (by kernel_rfl) trivial))
   (no_tails (by kernel_rfl)) rfl
   (fun ks x hl => by
    have hk : ks = [] := List.length_eq_zero_iff.1 hl
    subst hk
    exact (f30_m x).trans (f30_n _ _ _))
theorem f30_c : CalOk Tryd.prog 30 f30_sm := .inl ⟨f30_ok, ⟨Tryd.f30, Tryd.func30, by kernel_rfl, by kernel_rfl⟩⟩
noncomputable def f21x1_code : Code := (Tryd.f21.body).getD .skip
noncomputable def f21x1_l2_sk : SkS := ⟨10, [(0, .con (.slc Qt4)), (0, .fn 30 (.tcons (.pro Qt4) (.tnil))), (5, .con (.int .i64)), (0, .con (.int .i64))], []⟩
noncomputable def f21x1_l2_o0 : SkS := ⟨14, [(4, .con (.int .i64))], []⟩
noncomputable def f21x1_l2_o1 : SkS := ⟨19, [], []⟩
noncomputable def f21x1_l2_outs : List Way := [⟨.ret, [], f21x1_l2_o0⟩, ⟨(.exit 0), [], f21x1_l2_o1⟩]
abbrev f21x1_l2_C := (List Qv1 × Qv1 × Int)
abbrev f21x1_l2_X := Int
abbrev f21x1_l2_Y := (Int) ⊕ (Unit)
noncomputable def f21x1_l2_con (t : f21x1_l2_sk.T) : f21x1_l2_C := (t.1.1, t.1.2.1.1, t.1.2.2.1)
noncomputable def f21x1_l2_get (t : f21x1_l2_sk.T) : f21x1_l2_X := t.1.2.2.2.1
noncomputable def f21x1_l2_put (c : f21x1_l2_C) (x : f21x1_l2_X) : f21x1_l2_sk.T := ((c.1, ((c.2.1, ()), (c.2.2, (x, ())))), ())
theorem f21x1_l2_pg (t : f21x1_l2_sk.T) : f21x1_l2_put (f21x1_l2_con t) (f21x1_l2_get t) = t := by kernel_rfl
noncomputable def f21x1_l2_w0 (c : f21x1_l2_C) (y : Int) : f21x1_l2_o0.T := ((y, ()), ())
noncomputable def f21x1_l2_w1 (c : f21x1_l2_C) (y : Unit) : f21x1_l2_o1.T := ((), ())
noncomputable def f21x1_l2_out (c : f21x1_l2_C) (y : f21x1_l2_Y) : OutV f21x1_l2_outs := (Sum.elim (fun y => (.inl (f21x1_l2_w0 c y))) (fun y => (.inr (.inl (f21x1_l2_w1 c y))))) y
noncomputable def f21x1_l2_k {R : Type} (a0 : List Qv1) (a1 : Qv1) (a2 : Int) (a3 : Int) (kin : f21x1_l2_X → Option R) (k0 : Int → Option R) (k1 : Unit → Option R) : Option R :=
 (cond (decide (a3 < a2))
 (if (0 : Int) ≤ a3 ∧ a3 < ((List.length a0 : Nat) : Int) then ((f30 (List.getD a0 (Int.toNat a3) (ByteArray.empty, ((0 : Int), ()))) a1).bind fun r0 =>
  (cond r0.1.1
  (k0 a3)
  (let v1 : Int := (IntKind.i64.wrap (a3 + (1 : Int)))
   (kin v1)))) else none)
 (k1 ()))
noncomputable def f21x1_l2_g (a0 : List Qv1) (a1 : Qv1) (a2 : Int) (x : f21x1_l2_X) : Option (f21x1_l2_X ⊕ f21x1_l2_Y) := f21x1_l2_k a0 a1 a2 x (fun x => some (.inl x)) (fun y => some (.inr (.inl y))) (fun y => some (.inr (.inr y)))
noncomputable def f21x1_l2 (a0 : List Qv1) (a1 : Qv1) (a2 : Int) (x : f21x1_l2_X) : Option f21x1_l2_Y := loopO (f21x1_l2_g a0 a1 a2) x
noncomputable def f21x1_l2_nd : Node := { nils := [], sk := f21x1_l2_sk, outs := f21x1_l2_outs, Y := f21x1_l2_Y, L := fun t => f21x1_l2 ((f21x1_l2_con t).1) ((f21x1_l2_con t).2.1) ((f21x1_l2_con t).2.2) (f21x1_l2_get t), out := fun t y => f21x1_l2_out (f21x1_l2_con t) y, disp := fun t y K => (Sum.elim (fun y => K .ret (f21x1_l2_o0.fill (f21x1_l2_w0 (f21x1_l2_con t) y))) (fun y => K (.exit 0) (f21x1_l2_o1.fill (f21x1_l2_w1 (f21x1_l2_con t) y)))) y }
noncomputable def f21x1_fx : Fx := { E := env, T := [(30, f30_sm)], H := [], O := [], nodes := [((true, 2), f21x1_l2_nd)] }
noncomputable def f21x1_l2_b : Code := (loops f21x1_code).getD 0 .skip
theorem f21x1_l2_r (c : f21x1_l2_C) (x : f21x1_l2_X) : roundS f21x1_fx f21x1_l2_b f21x1_l2_nd (f21x1_l2_put c x) = f21x1_l2_k c.1 c.2.1 c.2.2 x (fun x => some (.inl (f21x1_l2_put c x))) (fun y => some (.inr (.inl (f21x1_l2_w0 c y)))) (fun y => some (.inr (.inr (.inl (f21x1_l2_w1 c y))))) := by kernel_rfl
theorem f21x1_l2_n {R : Type} (a0 : List Qv1) (a1 : Qv1) (a2 : Int) (a3 : Int) (kin : f21x1_l2_X → Option R) (k0 : Int → Option R) (k1 : Unit → Option R) : f21x1_l2_k a0 a1 a2 a3 kin k0 k1 = (f21x1_l2_g a0 a1 a2 a3).bind (Sum.elim kin (Sum.elim k0 k1)) := by
  simp only [f21x1_l2_g, f21x1_l2_k, cond_bind, ite_bind, bind_bind, some_bind, none_bind, elim_bind, whenS_bind, Sum.elim_inl, Sum.elim_inr]
theorem f21x1_l2_ok : LoopOk f21x1_fx f21x1_l2_b f21x1_l2_nd := loop_ok f21x1_l2_con f21x1_l2_get f21x1_l2_put f21x1_l2_pg (fun c => f21x1_l2_g c.1 c.2.1 c.2.2) f21x1_l2_out (fun t y => rfl) (by intro R t y K; rcases y with y | y <;> rfl) (fun c x => by
  refine (f21x1_l2_r c x).trans ((f21x1_l2_n _ _ _ _ _ _ _).trans ?_)
  first
  | rfl
  | congr 1
    funext s
    rcases s with s | s | s <;> rfl) (fun t => rfl)
noncomputable def f21x1_k {R : Type} (a0 : List Qv1) (a1 : (Qv1 × Unit)) (k : (Int × Unit) × (Unit) → Option R) : Option R :=
 ((f21x1_l2 a0 a1.1 ((List.length a0 : Nat) : Int) (0 : Int)).bind fun y2 =>
 ((Sum.elim (fun z3 =>
 (k ((z3, ()), ())))
 (fun z4 =>
 (k (((-1 : Int), ()), ())))) y2))
noncomputable def f21x1 (a0 : List Qv1) (a1 : (Qv1 × Unit)) : Option ((Int × Unit) × (Unit)) := f21x1_k a0 a1 some
noncomputable def f21x1_sm : Sm := { ps := [.ro (.slc Qt4), .fn 30 [(true, Qt4)]], rs := [((.int .i64), .ro)], F := fun x => f21x1 x.1 x.2.1 }
theorem f21x1_m (x : ArgT [.ro (.slc Qt4), .fn 30 [(true, Qt4)]]) : codeS f21x1_fx f21x1_code (start [.ro (.slc Qt4), .fn 30 [(true, Qt4)]] [] x 19) (finK env [.tmp 4] [.ro (.slc Qt4), .fn 30 [(true, Qt4)]] [((.int .i64), .ro)]) = f21x1_k x.1 x.2.1 (fun r => some (r, [])) := by kernel_rfl
theorem f21x1_n {R : Type} (a0 : List Qv1) (a1 : (Qv1 × Unit)) (k : (Int × Unit) × (Unit) → Option R) : f21x1_k a0 a1 k = (f21x1 a0 a1).bind k := by
  simp only [f21x1, f21x1_k, cond_bind, ite_bind, bind_bind, some_bind, none_bind, elim_bind, whenS_bind]
theorem f21x1_ok : SmOk Tryd.prog 21 f21x1_sm :=
  sum_of (c := f21x1_fx) (fn := Tryd.f21) (code := f21x1_code) (sm := f21x1_sm) mixed (env_ok env_envB) (TabsOk.all ⟨f30_c, trivial⟩) Tryd.func21 (by kernel_rfl)
   ((LoopsOk.of (l := [f21x1_l2_b]) (by kernel_rfl) ⟨node_is (by kernel_rfl) f21x1_l2_ok, trivial⟩))
   (no_tails (by kernel_rfl)) rfl
   (fun ks x hl => by
    have hk : ks = [] := List.length_eq_zero_iff.1 hl
    subst hk
    exact (f21x1_m x).trans (f21x1_n _ _ _))
theorem f21x1_c : CalOk Tryd.prog 21 f21x1_sm := .inl ⟨f21x1_ok, ⟨Tryd.f21, Tryd.func21, by kernel_rfl, by kernel_rfl⟩⟩
noncomputable def f15x1_code : Code := (Tryd.f15.body).getD .skip
noncomputable def f15x1_fx : Fx := { E := env, T := [(21, f21x1_sm)], H := [], O := [], nodes := [] }
noncomputable def f15x1_k {R : Type} (a0 : List Qv1) (a1 : (Qv1 × Unit)) (k : (Bool × Unit) × (Unit) → Option R) : Option R :=
 ((f21x1 a0 (a1.1, ())).bind fun r0 =>
 (k (((decide (r0.1.1 ≥ (0 : Int))), ()), ())))
noncomputable def f15x1 (a0 : List Qv1) (a1 : (Qv1 × Unit)) : Option ((Bool × Unit) × (Unit)) := f15x1_k a0 a1 some
noncomputable def f15x1_sm : Sm := { ps := [.ro (.slc Qt4), .fn 30 [(true, Qt4)]], rs := [(.bool, .ro)], F := fun x => f15x1 x.1 x.2.1 }
theorem f15x1_m (x : ArgT [.ro (.slc Qt4), .fn 30 [(true, Qt4)]]) : codeS f15x1_fx f15x1_code (start [.ro (.slc Qt4), .fn 30 [(true, Qt4)]] [] x 9) (finK env [.tmp 4] [.ro (.slc Qt4), .fn 30 [(true, Qt4)]] [(.bool, .ro)]) = f15x1_k x.1 x.2.1 (fun r => some (r, [])) := by kernel_rfl
theorem f15x1_n {R : Type} (a0 : List Qv1) (a1 : (Qv1 × Unit)) (k : (Bool × Unit) × (Unit) → Option R) : f15x1_k a0 a1 k = (f15x1 a0 a1).bind k := by
  simp only [f15x1, f15x1_k, cond_bind, ite_bind, bind_bind, some_bind, none_bind, elim_bind, whenS_bind]
theorem f15x1_ok : SmOk Tryd.prog 15 f15x1_sm :=
  sum_of (c := f15x1_fx) (fn := Tryd.f15) (code := f15x1_code) (sm := f15x1_sm) mixed (env_ok env_envB) (TabsOk.all ⟨f21x1_c, trivial⟩) Tryd.func15 (by kernel_rfl)
   ((LoopsOk.of (l := []) (by kernel_rfl) trivial))
   (no_tails (by kernel_rfl)) rfl
   (fun ks x hl => by
    have hk : ks = [] := List.length_eq_zero_iff.1 hl
    subst hk
    exact (f15x1_m x).trans (f15x1_n _ _ _))
theorem f15x1_c : CalOk Tryd.prog 15 f15x1_sm := .inl ⟨f15x1_ok, ⟨Tryd.f15, Tryd.func15, by kernel_rfl, by kernel_rfl⟩⟩
noncomputable def f20_code : Code := (Tryd.f20.body).getD .skip
noncomputable def f20_l7_sk : SkS := ⟨32, [(1, .con (.int .i64)), (5, .ref 127 []), (0, .ref 143 []), (1, .ptr 160 []), (2, .con (.slc Qt3)), (0, .con (.int .i64)), (0, .con (.int .i64)), (4, .con (.slc Qt4)), (0, .con (.int .i64)), (0, .con (.int .i64))], [(127, ⟨none, (.slc (.int .u8)), (.own .ro), none⟩), (143, ⟨none, (.slc Qt4), (.own .ro), none⟩), (160, ⟨some 29, Qt3, .ro, none⟩)]⟩
noncomputable def f20_l7_o0 : SkS := ⟨48, [(4, .nil), (0, .nil), (0, .con (.int .i64))], []⟩
noncomputable def f20_l7_o1 : SkS := ⟨39, [(1, .con (.int .i64)), (5, .ref 127 []), (0, .ref 143 []), (1, .ptr 160 []), (2, .con (.slc Qt3)), (0, .con (.int .i64)), (0, .con (.int .i64))], [(127, ⟨none, (.slc (.int .u8)), (.own .ro), none⟩), (143, ⟨none, (.slc Qt4), (.own .ro), none⟩), (160, ⟨some 29, Qt3, .ro, none⟩)]⟩
noncomputable def f20_l7_outs : List Way := [⟨.ret, [], f20_l7_o0⟩, ⟨(.exit 2), [], f20_l7_o1⟩]
abbrev f20_l7_C := (Int × List Qv0 × Int × Int × List Qv1 × Int × List Int × Qv0 × (Option Nat))
abbrev f20_l7_X := (Int × List Qv1)
abbrev f20_l7_Y := (Unit) ⊕ (List Qv1)
noncomputable def f20_l7_con (t : f20_l7_sk.T) : f20_l7_C := (t.1.1, t.1.2.1, t.1.2.2.1, t.1.2.2.2.1, t.1.2.2.2.2.1, t.1.2.2.2.2.2.1, t.2.1.1, t.2.2.2.1.1, t.2.2.2.1.2)
noncomputable def f20_l7_get (t : f20_l7_sk.T) : f20_l7_X := (t.1.2.2.2.2.2.2.1, t.2.2.1.1)
noncomputable def f20_l7_put (c : f20_l7_C) (x : f20_l7_X) : f20_l7_sk.T := ((c.1, (c.2.1, (c.2.2.1, (c.2.2.2.1, (c.2.2.2.2.1, (c.2.2.2.2.2.1, (x.1, ()))))))), ((c.2.2.2.2.2.2.1, ()), ((x.2, ()), ((c.2.2.2.2.2.2.2.1, c.2.2.2.2.2.2.2.2), ()))))
theorem f20_l7_pg (t : f20_l7_sk.T) : f20_l7_put (f20_l7_con t) (f20_l7_get t) = t := by kernel_rfl
noncomputable def f20_l7_w0 (c : f20_l7_C) (y : Unit) : f20_l7_o0.T := (((5 : Int), ()), ())
noncomputable def f20_l7_w1 (c : f20_l7_C) (y : List Qv1) : f20_l7_o1.T := ((c.1, (c.2.1, (c.2.2.1, (c.2.2.2.1, ())))), ((c.2.2.2.2.2.2.1, ()), ((y, ()), ((c.2.2.2.2.2.2.2.1, c.2.2.2.2.2.2.2.2), ()))))
noncomputable def f20_l7_out (c : f20_l7_C) (y : f20_l7_Y) : OutV f20_l7_outs := (Sum.elim (fun y => (.inl (f20_l7_w0 c y))) (fun y => (.inr (.inl (f20_l7_w1 c y))))) y
noncomputable def f20_l7_k {R : Type} (a0 : Int) (a1 : List Qv0) (a2 : Int) (a3 : Int) (a4 : List Qv1) (a5 : Int) (a6 : Int) (a7 : List Int) (a8 : List Qv1) (a9 : Qv0) (kin : f20_l7_X → Option R) (k0 : Unit → Option R) (k1 : List Qv1 → Option R) : Option R :=
 (cond (decide (a6 < a5))
 (if (0 : Int) ≤ a6 ∧ a6 < ((List.length a4 : Nat) : Int) then ((f15x1 a8 ((List.getD a4 (Int.toNat a6) (ByteArray.empty, ((0 : Int), ()))), ())).bind fun r0 =>
  (cond r0.1.1
  (k0 ())
  (let v1 : Int := (IntKind.i64.wrap (a0 + ((List.length a7 : Nat) : Int)))
   (let v2 : Int := (IntKind.i64.wrap (v1 + (List.getD a4 (Int.toNat a6) (ByteArray.empty, ((0 : Int), ()))).2.1))
   (if (List.length a8 + 1) * 24 ≤ most ∧ 0 < 24 ∧ 0 < 2 then (let r3 : List Qv1 := (a8 ++ [((List.getD a4 (Int.toNat a6) (ByteArray.empty, ((0 : Int), ()))).1, (v2, ()))])
   (let v4 : Int := (IntKind.i64.wrap (a6 + (1 : Int)))
   (kin (v4, r3)))) else none))))) else none)
 (k1 a8))
noncomputable def f20_l7_g (a0 : Int) (a1 : List Qv0) (a2 : Int) (a3 : Int) (a4 : List Qv1) (a5 : Int) (a7 : List Int) (a9 : Qv0) (x : f20_l7_X) : Option (f20_l7_X ⊕ f20_l7_Y) := f20_l7_k a0 a1 a2 a3 a4 a5 x.1 a7 x.2 a9 (fun x => some (.inl x)) (fun y => some (.inr (.inl y))) (fun y => some (.inr (.inr y)))
noncomputable def f20_l7 (a0 : Int) (a1 : List Qv0) (a2 : Int) (a3 : Int) (a4 : List Qv1) (a5 : Int) (a7 : List Int) (a9 : Qv0) (x : f20_l7_X) : Option f20_l7_Y := loopO (f20_l7_g a0 a1 a2 a3 a4 a5 a7 a9) x
noncomputable def f20_l7_nd : Node := { nils := [(8, 143, Qt4, .ro)], sk := f20_l7_sk, outs := f20_l7_outs, Y := f20_l7_Y, L := fun t => f20_l7 ((f20_l7_con t).1) ((f20_l7_con t).2.1) ((f20_l7_con t).2.2.1) ((f20_l7_con t).2.2.2.1) ((f20_l7_con t).2.2.2.2.1) ((f20_l7_con t).2.2.2.2.2.1) ((f20_l7_con t).2.2.2.2.2.2.1) ((f20_l7_con t).2.2.2.2.2.2.2.1) (f20_l7_get t), out := fun t y => f20_l7_out (f20_l7_con t) y, disp := fun t y K => (Sum.elim (fun y => K .ret (f20_l7_o0.fill (f20_l7_w0 (f20_l7_con t) y))) (fun y => K (.exit 2) (f20_l7_o1.fill (f20_l7_w1 (f20_l7_con t) y)))) y }
noncomputable def f20_l4_sk : SkS := ⟨39, [(1, .con (.int .i64)), (5, .ref 127 []), (0, .ref 143 []), (4, .con (.slc Qt3)), (0, .con (.int .i64)), (0, .con (.int .i64))], [(127, ⟨none, (.slc (.int .u8)), (.own .ro), none⟩), (143, ⟨none, (.slc Qt4), (.own .ro), none⟩)]⟩
noncomputable def f20_l4_o0 : SkS := ⟨48, [(4, .nil), (0, .nil), (0, .con (.int .i64))], []⟩
noncomputable def f20_l4_o1 : SkS := ⟨46, [(1, .con (.int .i64)), (5, .ref 127 []), (0, .ref 143 [])], [(127, ⟨none, (.slc (.int .u8)), (.own .ro), none⟩), (143, ⟨none, (.slc Qt4), (.own .ro), none⟩)]⟩
noncomputable def f20_l4_outs : List Way := [⟨.ret, [], f20_l4_o0⟩, ⟨(.exit 0), [], f20_l4_o1⟩]
abbrev f20_l4_C := (Int × List Qv0 × Int)
abbrev f20_l4_X := (Int × List Int × List Qv1)
abbrev f20_l4_Y := (Unit) ⊕ ((List Int × List Qv1))
noncomputable def f20_l4_con (t : f20_l4_sk.T) : f20_l4_C := (t.1.1, t.1.2.1, t.1.2.2.1)
noncomputable def f20_l4_get (t : f20_l4_sk.T) : f20_l4_X := (t.1.2.2.2.1, t.2.1.1, t.2.2.1.1)
noncomputable def f20_l4_put (c : f20_l4_C) (x : f20_l4_X) : f20_l4_sk.T := ((c.1, (c.2.1, (c.2.2, (x.1, ())))), ((x.2.1, ()), ((x.2.2, ()), ())))
theorem f20_l4_pg (t : f20_l4_sk.T) : f20_l4_put (f20_l4_con t) (f20_l4_get t) = t := by kernel_rfl
noncomputable def f20_l4_w0 (c : f20_l4_C) (y : Unit) : f20_l4_o0.T := (((5 : Int), ()), ())
noncomputable def f20_l4_w1 (c : f20_l4_C) (y : (List Int × List Qv1)) : f20_l4_o1.T := ((c.1, ()), ((y.1, ()), ((y.2, ()), ())))
noncomputable def f20_l4_out (c : f20_l4_C) (y : f20_l4_Y) : OutV f20_l4_outs := (Sum.elim (fun y => (.inl (f20_l4_w0 c y))) (fun y => (.inr (.inl (f20_l4_w1 c y))))) y
noncomputable def f20_l4_k {R : Type} (a0 : Int) (a1 : List Qv0) (a2 : Int) (a3 : Int) (a4 : List Int) (a5 : List Qv1) (kin : f20_l4_X → Option R) (k0 : Unit → Option R) (k1 : (List Int × List Qv1) → Option R) : Option R :=
 (cond (decide (a3 < a2))
 (if (0 : Int) ≤ a3 ∧ a3 < ((List.length a1 : Nat) : Int) then ((f20_l7 a0 a1 a2 a3 (List.getD a1 (Int.toNat a3) (ByteArray.empty, (([] : List Int), (([] : List Qv1), (([] : List (Int × (Int × Qv1))), ()))))).2.2.1 ((List.length (List.getD a1 (Int.toNat a3) (ByteArray.empty, (([] : List Int), (([] : List Qv1), (([] : List (Int × (Int × Qv1))), ()))))).2.2.1 : Nat) : Int) a4 (List.getD a1 (Int.toNat a3) (ByteArray.empty, (([] : List Int), (([] : List Qv1), (([] : List (Int × (Int × Qv1))), ()))))) ((0 : Int), a5)).bind fun y5 =>
  ((Sum.elim (fun z6 =>
  (k0 ()))
  (fun z7 =>
  (if (List.length a4 + List.length (List.getD a1 (Int.toNat a3) (ByteArray.empty, (([] : List Int), (([] : List Qv1), (([] : List (Int × (Int × Qv1))), ()))))).2.1) * 1 ≤ most ∧ 0 < 1 ∧ 0 < 1 then (let r8 : List Int := (a4 ++ (List.getD a1 (Int.toNat a3) (ByteArray.empty, (([] : List Int), (([] : List Qv1), (([] : List (Int × (Int × Qv1))), ()))))).2.1)
   (let v9 : Int := (IntKind.i64.wrap (a3 + (1 : Int)))
   (kin (v9, r8, z7)))) else none))) y5)) else none)
 (k1 (a4, a5)))
noncomputable def f20_l4_g (a0 : Int) (a1 : List Qv0) (a2 : Int) (x : f20_l4_X) : Option (f20_l4_X ⊕ f20_l4_Y) := f20_l4_k a0 a1 a2 x.1 x.2.1 x.2.2 (fun x => some (.inl x)) (fun y => some (.inr (.inl y))) (fun y => some (.inr (.inr y)))
noncomputable def f20_l4 (a0 : Int) (a1 : List Qv0) (a2 : Int) (x : f20_l4_X) : Option f20_l4_Y := loopO (f20_l4_g a0 a1 a2) x
noncomputable def f20_l4_nd : Node := { nils := [(7, 127, (.int .u8), .ro), (8, 143, Qt4, .ro)], sk := f20_l4_sk, outs := f20_l4_outs, Y := f20_l4_Y, L := fun t => f20_l4 ((f20_l4_con t).1) ((f20_l4_con t).2.1) ((f20_l4_con t).2.2) (f20_l4_get t), out := fun t y => f20_l4_out (f20_l4_con t) y, disp := fun t y K => (Sum.elim (fun y => K .ret (f20_l4_o0.fill (f20_l4_w0 (f20_l4_con t) y))) (fun y => K (.exit 0) (f20_l4_o1.fill (f20_l4_w1 (f20_l4_con t) y)))) y }
noncomputable def f20_fx : Fx := { E := env, T := [(15, f15x1_sm)], H := [], O := [], nodes := [((true, 7), f20_l7_nd), ((true, 4), f20_l4_nd)] }
noncomputable def f20_l7_b : Code := (loops f20_code).getD 1 .skip
theorem f20_l7_r (c : f20_l7_C) (x : f20_l7_X) : roundS f20_fx f20_l7_b f20_l7_nd (f20_l7_put c x) = f20_l7_k c.1 c.2.1 c.2.2.1 c.2.2.2.1 c.2.2.2.2.1 c.2.2.2.2.2.1 x.1 c.2.2.2.2.2.2.1 x.2 c.2.2.2.2.2.2.2.1 (fun x => some (.inl (f20_l7_put c x))) (fun y => some (.inr (.inl (f20_l7_w0 c y)))) (fun y => some (.inr (.inr (.inl (f20_l7_w1 c y))))) := by kernel_rfl
theorem f20_l7_n {R : Type} (a0 : Int) (a1 : List Qv0) (a2 : Int) (a3 : Int) (a4 : List Qv1) (a5 : Int) (a6 : Int) (a7 : List Int) (a8 : List Qv1) (a9 : Qv0) (kin : f20_l7_X → Option R) (k0 : Unit → Option R) (k1 : List Qv1 → Option R) : f20_l7_k a0 a1 a2 a3 a4 a5 a6 a7 a8 a9 kin k0 k1 = (f20_l7_g a0 a1 a2 a3 a4 a5 a7 a9 (a6, a8)).bind (Sum.elim kin (Sum.elim k0 k1)) := by
  simp only [f20_l7_g, f20_l7_k, cond_bind, ite_bind, bind_bind, some_bind, none_bind, elim_bind, whenS_bind, Sum.elim_inl, Sum.elim_inr]
theorem f20_l7_ok : LoopOk f20_fx f20_l7_b f20_l7_nd := loop_ok f20_l7_con f20_l7_get f20_l7_put f20_l7_pg (fun c => f20_l7_g c.1 c.2.1 c.2.2.1 c.2.2.2.1 c.2.2.2.2.1 c.2.2.2.2.2.1 c.2.2.2.2.2.2.1 c.2.2.2.2.2.2.2.1) f20_l7_out (fun t y => rfl) (by intro R t y K; rcases y with y | y <;> rfl) (fun c x => by
  refine (f20_l7_r c x).trans ((f20_l7_n _ _ _ _ _ _ _ _ _ _ _ _ _).trans ?_)
  first
  | rfl
  | congr 1
    funext s
    rcases s with s | s | s <;> rfl) (fun t => rfl)
noncomputable def f20_l4_b : Code := (loops f20_code).getD 0 .skip
theorem f20_l4_r (c : f20_l4_C) (x : f20_l4_X) : roundS f20_fx f20_l4_b f20_l4_nd (f20_l4_put c x) = f20_l4_k c.1 c.2.1 c.2.2 x.1 x.2.1 x.2.2 (fun x => some (.inl (f20_l4_put c x))) (fun y => some (.inr (.inl (f20_l4_w0 c y)))) (fun y => some (.inr (.inr (.inl (f20_l4_w1 c y))))) := by kernel_rfl
theorem f20_l4_n {R : Type} (a0 : Int) (a1 : List Qv0) (a2 : Int) (a3 : Int) (a4 : List Int) (a5 : List Qv1) (kin : f20_l4_X → Option R) (k0 : Unit → Option R) (k1 : (List Int × List Qv1) → Option R) : f20_l4_k a0 a1 a2 a3 a4 a5 kin k0 k1 = (f20_l4_g a0 a1 a2 (a3, a4, a5)).bind (Sum.elim kin (Sum.elim k0 k1)) := by
  simp only [f20_l4_g, f20_l4_k, cond_bind, ite_bind, bind_bind, some_bind, none_bind, elim_bind, whenS_bind, Sum.elim_inl, Sum.elim_inr]
theorem f20_l4_ok : LoopOk f20_fx f20_l4_b f20_l4_nd := loop_ok f20_l4_con f20_l4_get f20_l4_put f20_l4_pg (fun c => f20_l4_g c.1 c.2.1 c.2.2) f20_l4_out (fun t y => rfl) (by intro R t y K; rcases y with y | y <;> rfl) (fun c x => by
  refine (f20_l4_r c x).trans ((f20_l4_n _ _ _ _ _ _ _ _ _).trans ?_)
  first
  | rfl
  | congr 1
    funext s
    rcases s with s | s | s <;> rfl) (fun t => rfl)
noncomputable def f20_k {R : Type} (a0 : List Qv0) (a1 : Int) (k : (List Int × List Qv1 × Int × Unit) × (Unit) → Option R) : Option R :=
 ((f20_l4 a1 a0 ((List.length a0 : Nat) : Int) ((0 : Int), [], [])).bind fun y10 =>
 ((Sum.elim (fun z11 =>
 (k (([], ([], ((5 : Int), ()))), ())))
 (fun z12 =>
 (let v13 : Int := (IntKind.i64.wrap (a1 + ((List.length z12.1 : Nat) : Int)))
  (cond (decide (v13 > (65536 : Int)))
  (k (([], ([], ((19 : Int), ()))), ()))
  (k ((z12.1, (z12.2, ((0 : Int), ()))), ())))))) y10))
noncomputable def f20 (a0 : List Qv0) (a1 : Int) : Option ((List Int × List Qv1 × Int × Unit) × (Unit)) := f20_k a0 a1 some
noncomputable def f20_sm : Sm := { ps := [.ro (.slc Qt3), .ro (.int .i64)], rs := [((.slc (.int .u8)), (.own .ro)), ((.slc Qt4), (.own .ro)), ((.int .i64), .ro)], F := fun x => f20 x.1 x.2.1 }
theorem f20_m (x : ArgT [.ro (.slc Qt3), .ro (.int .i64)]) : codeS f20_fx f20_code (start [.ro (.slc Qt3), .ro (.int .i64)] [] x 55) (finK env [.tmp 4, .tmp 5, .tmp 6] [.ro (.slc Qt3), .ro (.int .i64)] [((.slc (.int .u8)), (.own .ro)), ((.slc Qt4), (.own .ro)), ((.int .i64), .ro)]) = f20_k x.1 x.2.1 (fun r => some (r, [])) := by kernel_rfl
theorem f20_n {R : Type} (a0 : List Qv0) (a1 : Int) (k : (List Int × List Qv1 × Int × Unit) × (Unit) → Option R) : f20_k a0 a1 k = (f20 a0 a1).bind k := by
  simp only [f20, f20_k, cond_bind, ite_bind, bind_bind, some_bind, none_bind, elim_bind, whenS_bind]
theorem f20_ok : SmOk Tryd.prog 20 f20_sm :=
  sum_of (c := f20_fx) (fn := Tryd.f20) (code := f20_code) (sm := f20_sm) mixed (env_ok env_envB) (TabsOk.all ⟨f15x1_c, trivial⟩) Tryd.func20 (by kernel_rfl)
   ((LoopsOk.of (l := [f20_l4_b, f20_l7_b]) (by kernel_rfl) ⟨node_is (by kernel_rfl) f20_l4_ok, node_is (by kernel_rfl) f20_l7_ok, trivial⟩))
   (no_tails (by kernel_rfl)) rfl
   (fun ks x hl => by
    have hk : ks = [] := List.length_eq_zero_iff.1 hl
    subst hk
    exact (f20_m x).trans (f20_n _ _ _))
theorem f20_c : CalOk Tryd.prog 20 f20_sm := .inl ⟨f20_ok, ⟨Tryd.f20, Tryd.func20, by kernel_rfl, by kernel_rfl⟩⟩
noncomputable def f22_code : Code := (Tryd.f22.body).getD .skip
noncomputable def f22_fx : Fx := { E := env, T := [], H := [], O := [], nodes := [] }
noncomputable def f22_k {R : Type} (a0 : Qv1) (a1 : (Int × (Int × Qv1))) (k : (Bool × Unit) × (Unit) → Option R) : Option R :=
 (k (((strEq a0.1 a1.2.2.1), ()), ()))
noncomputable def f22 (a0 : Qv1) (a1 : (Int × (Int × Qv1))) : Option ((Bool × Unit) × (Unit)) := f22_k a0 a1 some
noncomputable def f22_sm : Sm := { ps := [.ro Qt4, .lk Qt7], rs := [(.bool, .ro)], F := fun x => f22 x.1 x.2.1 }
theorem f22_m (x : ArgT [.ro Qt4, .lk Qt7]) : codeS f22_fx f22_code (start [.ro Qt4, .lk Qt7] [] x 9) (finK env [.tmp 3] [.ro Qt4, .lk Qt7] [(.bool, .ro)]) = f22_k x.1 x.2.1 (fun r => some (r, [])) := by kernel_rfl
theorem f22_n {R : Type} (a0 : Qv1) (a1 : (Int × (Int × Qv1))) (k : (Bool × Unit) × (Unit) → Option R) : f22_k a0 a1 k = (f22 a0 a1).bind k := by
  simp only [f22, f22_k, cond_bind, ite_bind, bind_bind, some_bind, none_bind, elim_bind, whenS_bind]
theorem f22_ok : SmOk Tryd.prog 22 f22_sm :=
  sum_of (c := f22_fx) (fn := Tryd.f22) (code := f22_code) (sm := f22_sm) mixed (env_ok env_envB) (TabsOk.all trivial) Tryd.func22 (by kernel_rfl)
   ((LoopsOk.of (l := []) (by kernel_rfl) trivial))
   (no_tails (by kernel_rfl)) rfl
   (fun ks x hl => by
    have hk : ks = [] := List.length_eq_zero_iff.1 hl
    subst hk
    exact (f22_m x).trans (f22_n _ _ _))
theorem f22_c : CalOk Tryd.prog 22 f22_sm := .inl ⟨f22_ok, ⟨Tryd.f22, Tryd.func22, by kernel_rfl, by kernel_rfl⟩⟩
noncomputable def f21x2_code : Code := (Tryd.f21.body).getD .skip
noncomputable def f21x2_l2_sk : SkS := ⟨10, [(0, .con (.slc Qt4)), (0, .fn 22 (.tcons (.pro Qt7) (.tnil))), (5, .con (.int .i64)), (0, .con (.int .i64))], []⟩
noncomputable def f21x2_l2_o0 : SkS := ⟨14, [(4, .con (.int .i64))], []⟩
noncomputable def f21x2_l2_o1 : SkS := ⟨19, [], []⟩
noncomputable def f21x2_l2_outs : List Way := [⟨.ret, [], f21x2_l2_o0⟩, ⟨(.exit 0), [], f21x2_l2_o1⟩]
abbrev f21x2_l2_C := (List Qv1 × (Int × (Int × Qv1)) × Int)
abbrev f21x2_l2_X := Int
abbrev f21x2_l2_Y := (Int) ⊕ (Unit)
noncomputable def f21x2_l2_con (t : f21x2_l2_sk.T) : f21x2_l2_C := (t.1.1, t.1.2.1.1, t.1.2.2.1)
noncomputable def f21x2_l2_get (t : f21x2_l2_sk.T) : f21x2_l2_X := t.1.2.2.2.1
noncomputable def f21x2_l2_put (c : f21x2_l2_C) (x : f21x2_l2_X) : f21x2_l2_sk.T := ((c.1, ((c.2.1, ()), (c.2.2, (x, ())))), ())
theorem f21x2_l2_pg (t : f21x2_l2_sk.T) : f21x2_l2_put (f21x2_l2_con t) (f21x2_l2_get t) = t := by kernel_rfl
noncomputable def f21x2_l2_w0 (c : f21x2_l2_C) (y : Int) : f21x2_l2_o0.T := ((y, ()), ())
noncomputable def f21x2_l2_w1 (c : f21x2_l2_C) (y : Unit) : f21x2_l2_o1.T := ((), ())
noncomputable def f21x2_l2_out (c : f21x2_l2_C) (y : f21x2_l2_Y) : OutV f21x2_l2_outs := (Sum.elim (fun y => (.inl (f21x2_l2_w0 c y))) (fun y => (.inr (.inl (f21x2_l2_w1 c y))))) y
noncomputable def f21x2_l2_k {R : Type} (a0 : List Qv1) (a1 : (Int × (Int × Qv1))) (a2 : Int) (a3 : Int) (kin : f21x2_l2_X → Option R) (k0 : Int → Option R) (k1 : Unit → Option R) : Option R :=
 (cond (decide (a3 < a2))
 (if (0 : Int) ≤ a3 ∧ a3 < ((List.length a0 : Nat) : Int) then ((f22 (List.getD a0 (Int.toNat a3) (ByteArray.empty, ((0 : Int), ()))) a1).bind fun r0 =>
  (cond r0.1.1
  (k0 a3)
  (let v1 : Int := (IntKind.i64.wrap (a3 + (1 : Int)))
   (kin v1)))) else none)
 (k1 ()))
noncomputable def f21x2_l2_g (a0 : List Qv1) (a1 : (Int × (Int × Qv1))) (a2 : Int) (x : f21x2_l2_X) : Option (f21x2_l2_X ⊕ f21x2_l2_Y) := f21x2_l2_k a0 a1 a2 x (fun x => some (.inl x)) (fun y => some (.inr (.inl y))) (fun y => some (.inr (.inr y)))
noncomputable def f21x2_l2 (a0 : List Qv1) (a1 : (Int × (Int × Qv1))) (a2 : Int) (x : f21x2_l2_X) : Option f21x2_l2_Y := loopO (f21x2_l2_g a0 a1 a2) x
noncomputable def f21x2_l2_nd : Node := { nils := [], sk := f21x2_l2_sk, outs := f21x2_l2_outs, Y := f21x2_l2_Y, L := fun t => f21x2_l2 ((f21x2_l2_con t).1) ((f21x2_l2_con t).2.1) ((f21x2_l2_con t).2.2) (f21x2_l2_get t), out := fun t y => f21x2_l2_out (f21x2_l2_con t) y, disp := fun t y K => (Sum.elim (fun y => K .ret (f21x2_l2_o0.fill (f21x2_l2_w0 (f21x2_l2_con t) y))) (fun y => K (.exit 0) (f21x2_l2_o1.fill (f21x2_l2_w1 (f21x2_l2_con t) y)))) y }
noncomputable def f21x2_fx : Fx := { E := env, T := [(22, f22_sm)], H := [], O := [], nodes := [((true, 2), f21x2_l2_nd)] }
noncomputable def f21x2_l2_b : Code := (loops f21x2_code).getD 0 .skip
theorem f21x2_l2_r (c : f21x2_l2_C) (x : f21x2_l2_X) : roundS f21x2_fx f21x2_l2_b f21x2_l2_nd (f21x2_l2_put c x) = f21x2_l2_k c.1 c.2.1 c.2.2 x (fun x => some (.inl (f21x2_l2_put c x))) (fun y => some (.inr (.inl (f21x2_l2_w0 c y)))) (fun y => some (.inr (.inr (.inl (f21x2_l2_w1 c y))))) := by kernel_rfl
theorem f21x2_l2_n {R : Type} (a0 : List Qv1) (a1 : (Int × (Int × Qv1))) (a2 : Int) (a3 : Int) (kin : f21x2_l2_X → Option R) (k0 : Int → Option R) (k1 : Unit → Option R) : f21x2_l2_k a0 a1 a2 a3 kin k0 k1 = (f21x2_l2_g a0 a1 a2 a3).bind (Sum.elim kin (Sum.elim k0 k1)) := by
  simp only [f21x2_l2_g, f21x2_l2_k, cond_bind, ite_bind, bind_bind, some_bind, none_bind, elim_bind, whenS_bind, Sum.elim_inl, Sum.elim_inr]
theorem f21x2_l2_ok : LoopOk f21x2_fx f21x2_l2_b f21x2_l2_nd := loop_ok f21x2_l2_con f21x2_l2_get f21x2_l2_put f21x2_l2_pg (fun c => f21x2_l2_g c.1 c.2.1 c.2.2) f21x2_l2_out (fun t y => rfl) (by intro R t y K; rcases y with y | y <;> rfl) (fun c x => by
  refine (f21x2_l2_r c x).trans ((f21x2_l2_n _ _ _ _ _ _ _).trans ?_)
  first
  | rfl
  | congr 1
    funext s
    rcases s with s | s | s <;> rfl) (fun t => rfl)
noncomputable def f21x2_k {R : Type} (a0 : List Qv1) (a1 : ((Int × (Int × Qv1)) × Unit)) (k : (Int × Unit) × (Unit) → Option R) : Option R :=
 ((f21x2_l2 a0 a1.1 ((List.length a0 : Nat) : Int) (0 : Int)).bind fun y2 =>
 ((Sum.elim (fun z3 =>
 (k ((z3, ()), ())))
 (fun z4 =>
 (k (((-1 : Int), ()), ())))) y2))
noncomputable def f21x2 (a0 : List Qv1) (a1 : ((Int × (Int × Qv1)) × Unit)) : Option ((Int × Unit) × (Unit)) := f21x2_k a0 a1 some
noncomputable def f21x2_sm : Sm := { ps := [.ro (.slc Qt4), .fn 22 [(true, Qt7)]], rs := [((.int .i64), .ro)], F := fun x => f21x2 x.1 x.2.1 }
theorem f21x2_m (x : ArgT [.ro (.slc Qt4), .fn 22 [(true, Qt7)]]) : codeS f21x2_fx f21x2_code (start [.ro (.slc Qt4), .fn 22 [(true, Qt7)]] [] x 19) (finK env [.tmp 4] [.ro (.slc Qt4), .fn 22 [(true, Qt7)]] [((.int .i64), .ro)]) = f21x2_k x.1 x.2.1 (fun r => some (r, [])) := by kernel_rfl
theorem f21x2_n {R : Type} (a0 : List Qv1) (a1 : ((Int × (Int × Qv1)) × Unit)) (k : (Int × Unit) × (Unit) → Option R) : f21x2_k a0 a1 k = (f21x2 a0 a1).bind k := by
  simp only [f21x2, f21x2_k, cond_bind, ite_bind, bind_bind, some_bind, none_bind, elim_bind, whenS_bind]
theorem f21x2_ok : SmOk Tryd.prog 21 f21x2_sm :=
  sum_of (c := f21x2_fx) (fn := Tryd.f21) (code := f21x2_code) (sm := f21x2_sm) mixed (env_ok env_envB) (TabsOk.all ⟨f22_c, trivial⟩) Tryd.func21 (by kernel_rfl)
   ((LoopsOk.of (l := [f21x2_l2_b]) (by kernel_rfl) ⟨node_is (by kernel_rfl) f21x2_l2_ok, trivial⟩))
   (no_tails (by kernel_rfl)) rfl
   (fun ks x hl => by
    have hk : ks = [] := List.length_eq_zero_iff.1 hl
    subst hk
    exact (f21x2_m x).trans (f21x2_n _ _ _))
theorem f21x2_c : CalOk Tryd.prog 21 f21x2_sm := .inl ⟨f21x2_ok, ⟨Tryd.f21, Tryd.func21, by kernel_rfl, by kernel_rfl⟩⟩
noncomputable def f23_code : Code := (Tryd.f23.body).getD .skip
noncomputable def f23_fx : Fx := { E := env, T := [], H := [], O := [], nodes := [] }
noncomputable def f23_k {R : Type} (a0 : List Int) (a1 : (Int × (Int × Qv1))) (a2 : Int) (a3 : Int) (k : (Int × Unit) × (List Int × Unit) → Option R) : Option R :=
 (cond (decide (a3 < (0 : Int)))
 (k (((21 : Int), ()), (a0, ())))
 (cond (decide (a3 > (65535 : Int)))
  (k (((21 : Int), ()), (a0, ())))
  (cond (a1.2.1 == (0 : Int))
   (if (0 : Int) ≤ a2 ∧ a2 < ((List.length a0 : Nat) : Int) then (k (((0 : Int), ()), ((List.set a0 (Int.toNat a2) (IntKind.u8.wrap a3)), ()))) else none)
   (cond (a1.2.1 == (1 : Int))
    (let v0 : Int := (Int.fdiv a3 (2 ^ (min 8 64)))
     (if (0 : Int) ≤ a2 ∧ a2 < ((List.length a0 : Nat) : Int) then (k (((0 : Int), ()), ((List.set a0 (Int.toNat a2) (IntKind.u8.wrap v0)), ()))) else none))
    (cond (a1.2.1 == (2 : Int))
     (let v1 : Int := (IntKind.i64.wrap (a2 + (1 : Int)))
      (let v2 : Int := (Int.fdiv a3 (2 ^ (min 8 64)))
      (if (0 : Int) ≤ a2 ∧ a2 < ((List.length a0 : Nat) : Int) then (if (0 : Int) ≤ v1 ∧ v1 < ((List.length (List.set a0 (Int.toNat a2) (IntKind.u8.wrap a3)) : Nat) : Int) then (k (((0 : Int), ()), ((List.set (List.set a0 (Int.toNat a2) (IntKind.u8.wrap a3)) (Int.toNat v1) (IntKind.u8.wrap v2)), ()))) else none) else none)))
     (k (((0 : Int), ()), (a0, ()))))))))
noncomputable def f23 (a0 : List Int) (a1 : (Int × (Int × Qv1))) (a2 : Int) (a3 : Int) : Option ((Int × Unit) × (List Int × Unit)) := f23_k a0 a1 a2 a3 some
noncomputable def f23_sm : Sm := { ps := [.row (.slc (.int .u8)) (.own .ro), .ro Qt7, .ro (.int .i64), .ro (.int .i64)], rs := [((.int .i64), .ro)], F := fun x => f23 x.1 x.2.1 x.2.2.1 x.2.2.2.1 }
theorem f23_m (x : ArgT [.row (.slc (.int .u8)) (.own .ro), .ro Qt7, .ro (.int .i64), .ro (.int .i64)]) : codeS f23_fx f23_code (start [.row (.slc (.int .u8)) (.own .ro), .ro Qt7, .ro (.int .i64), .ro (.int .i64)] [] x 46) (finK env [.tmp 8] [.row (.slc (.int .u8)) (.own .ro), .ro Qt7, .ro (.int .i64), .ro (.int .i64)] [((.int .i64), .ro)]) = f23_k x.1 x.2.1 x.2.2.1 x.2.2.2.1 (fun r => some (r, [])) := by kernel_rfl
theorem f23_n {R : Type} (a0 : List Int) (a1 : (Int × (Int × Qv1))) (a2 : Int) (a3 : Int) (k : (Int × Unit) × (List Int × Unit) → Option R) : f23_k a0 a1 a2 a3 k = (f23 a0 a1 a2 a3).bind k := by
  simp only [f23, f23_k, cond_bind, ite_bind, bind_bind, some_bind, none_bind, elim_bind, whenS_bind]
theorem f23_ok : SmOk Tryd.prog 23 f23_sm :=
  sum_of (c := f23_fx) (fn := Tryd.f23) (code := f23_code) (sm := f23_sm) mixed (env_ok env_envB) (TabsOk.all trivial) Tryd.func23 (by kernel_rfl)
   ((LoopsOk.of (l := []) (by kernel_rfl) trivial))
   (no_tails (by kernel_rfl)) rfl
   (fun ks x hl => by
    have hk : ks = [] := List.length_eq_zero_iff.1 hl
    subst hk
    exact (f23_m x).trans (f23_n _ _ _ _ _))
theorem f23_c : CalOk Tryd.prog 23 f23_sm := .inl ⟨f23_ok, ⟨Tryd.f23, Tryd.func23, by kernel_rfl, by kernel_rfl⟩⟩
noncomputable def f8_code : Code := (Tryd.f8.body).getD .skip
noncomputable def f8_l6_sk : SkS := ⟨93, [(0, .con (.slc Qt3)), (0, .con (.int .i64)), (2, .ptr 64 []), (27, .con (.slc Qt3)), (0, .con (.int .i64)), (0, .con (.int .i64))], [(64, ⟨some 38, Qt5, Qt6, none⟩)]⟩
noncomputable def f8_l6_o0 : SkS := ⟨122, [(4, .ptr 64 []), (0, .con (.int .i64))], [(64, ⟨some 38, Qt5, Qt6, none⟩)]⟩
noncomputable def f8_l6_o1 : SkS := ⟨123, [(0, .con (.slc Qt3)), (0, .con (.int .i64)), (2, .ptr 64 [])], [(64, ⟨some 38, Qt5, Qt6, none⟩)]⟩
noncomputable def f8_l6_outs : List Way := [⟨.ret, [], f8_l6_o0⟩, ⟨(.exit 0), [], f8_l6_o1⟩]
abbrev f8_l6_C := (List Qv0 × Int × List Qv0 × Int × Qv2 × (Option Nat))
abbrev f8_l6_X := Int
abbrev f8_l6_Y := ((Int × Qv2)) ⊕ (Unit)
noncomputable def f8_l6_con (t : f8_l6_sk.T) : f8_l6_C := (t.1.1, t.1.2.1, t.1.2.2.1, t.1.2.2.2.1, t.2.1.1, t.2.1.2)
noncomputable def f8_l6_get (t : f8_l6_sk.T) : f8_l6_X := t.1.2.2.2.2.1
noncomputable def f8_l6_put (c : f8_l6_C) (x : f8_l6_X) : f8_l6_sk.T := ((c.1, (c.2.1, (c.2.2.1, (c.2.2.2.1, (x, ()))))), ((c.2.2.2.2.1, c.2.2.2.2.2), ()))
theorem f8_l6_pg (t : f8_l6_sk.T) : f8_l6_put (f8_l6_con t) (f8_l6_get t) = t := by kernel_rfl
noncomputable def f8_l6_w0 (c : f8_l6_C) (y : (Int × Qv2)) : f8_l6_o0.T := ((y.1, ()), ((y.2, c.2.2.2.2.2), ()))
noncomputable def f8_l6_w1 (c : f8_l6_C) (y : Unit) : f8_l6_o1.T := ((c.1, (c.2.1, ())), ((c.2.2.2.2.1, c.2.2.2.2.2), ()))
noncomputable def f8_l6_out (c : f8_l6_C) (y : f8_l6_Y) : OutV f8_l6_outs := (Sum.elim (fun y => (.inl (f8_l6_w0 c y))) (fun y => (.inr (.inl (f8_l6_w1 c y))))) y
noncomputable def f8_l6_k {R : Type} (a0 : List Qv0) (a1 : Int) (a2 : List Qv0) (a3 : Int) (a4 : Int) (a5 : Qv2) (kin : f8_l6_X → Option R) (k0 : (Int × Qv2) → Option R) (k1 : Unit → Option R) : Option R :=
 (cond (decide (a4 < a3))
 (if (0 : Int) ≤ a4 ∧ a4 < ((List.length a2 : Nat) : Int) then ((f5 (List.getD a2 (Int.toNat a4) (ByteArray.empty, (([] : List Int), (([] : List Qv1), (([] : List (Int × (Int × Qv1))), ())))))).bind fun r0 =>
  (cond (r0.1.1 != (0 : Int))
  (k0 (r0.1.1, ((0 : Int), ([], ([], ())))))
  (let v1 : Int := (IntKind.i64.wrap (a4 + (1 : Int)))
   (kin v1)))) else none)
 (k1 ()))
noncomputable def f8_l6_g (a0 : List Qv0) (a1 : Int) (a2 : List Qv0) (a3 : Int) (a5 : Qv2) (x : f8_l6_X) : Option (f8_l6_X ⊕ f8_l6_Y) := f8_l6_k a0 a1 a2 a3 x a5 (fun x => some (.inl x)) (fun y => some (.inr (.inl y))) (fun y => some (.inr (.inr y)))
noncomputable def f8_l6 (a0 : List Qv0) (a1 : Int) (a2 : List Qv0) (a3 : Int) (a5 : Qv2) (x : f8_l6_X) : Option f8_l6_Y := loopO (f8_l6_g a0 a1 a2 a3 a5) x
noncomputable def f8_l6_nd : Node := { nils := [], sk := f8_l6_sk, outs := f8_l6_outs, Y := f8_l6_Y, L := fun t => f8_l6 ((f8_l6_con t).1) ((f8_l6_con t).2.1) ((f8_l6_con t).2.2.1) ((f8_l6_con t).2.2.2.1) ((f8_l6_con t).2.2.2.2.1) (f8_l6_get t), out := fun t y => f8_l6_out (f8_l6_con t) y, disp := fun t y K => (Sum.elim (fun y => K .ret (f8_l6_o0.fill (f8_l6_w0 (f8_l6_con t) y))) (fun y => K (.exit 0) (f8_l6_o1.fill (f8_l6_w1 (f8_l6_con t) y)))) y }
noncomputable def f8_l20_sk : SkS := ⟨62, [(1, .con (.int .i64)), (2, .ptr 64 []), (4, .ref 768 []), (0, .ref 769 []), (1, .con (.int .i64)), (1, .ptr 224 []), (41, .con (.slc Qt3)), (0, .con (.int .i64)), (0, .con (.int .i64)), (4, .con (.slc Qt7)), (0, .con (.int .i64)), (0, .con (.int .i64))], [(64, ⟨some 38, Qt5, Qt6, none⟩), (224, ⟨some 29, Qt3, .ro, none⟩), (768, ⟨none, (.slc (.int .u8)), (.own .ro), none⟩), (769, ⟨none, (.slc Qt4), (.own .ro), none⟩)]⟩
noncomputable def f8_l20_o0 : SkS := ⟨122, [(4, .ptr 64 []), (0, .con (.int .i64))], [(64, ⟨some 38, Qt5, Qt6, none⟩)]⟩
noncomputable def f8_l20_o1 : SkS := ⟨69, [(1, .con (.int .i64)), (2, .ptr 64 []), (4, .ref 768 []), (0, .ref 769 []), (1, .con (.int .i64)), (1, .ptr 224 []), (41, .con (.slc Qt3)), (0, .con (.int .i64)), (0, .con (.int .i64))], [(64, ⟨some 38, Qt5, Qt6, none⟩), (224, ⟨some 29, Qt3, .ro, none⟩), (768, ⟨none, (.slc (.int .u8)), (.own .ro), none⟩), (769, ⟨none, (.slc Qt4), (.own .ro), none⟩)]⟩
noncomputable def f8_l20_outs : List Way := [⟨.ret, [], f8_l20_o0⟩, ⟨(.exit 4), [], f8_l20_o1⟩]
abbrev f8_l20_C := (Int × Int × List Qv0 × Int × Int × List (Int × (Int × Qv1)) × Int × Qv2 × Qv0 × List Qv1 × (Option Nat) × (Option Nat))
abbrev f8_l20_X := (Int × List Int)
abbrev f8_l20_Y := ((Int × Qv2)) ⊕ (List Int)
noncomputable def f8_l20_con (t : f8_l20_sk.T) : f8_l20_C := (t.1.1, t.1.2.1, t.1.2.2.1, t.1.2.2.2.1, t.1.2.2.2.2.1, t.1.2.2.2.2.2.1, t.1.2.2.2.2.2.2.1, t.2.1.1, t.2.2.1.1, t.2.2.2.2.1.1, t.2.1.2, t.2.2.1.2)
noncomputable def f8_l20_get (t : f8_l20_sk.T) : f8_l20_X := (t.1.2.2.2.2.2.2.2.1, t.2.2.2.1.1)
noncomputable def f8_l20_put (c : f8_l20_C) (x : f8_l20_X) : f8_l20_sk.T := ((c.1, (c.2.1, (c.2.2.1, (c.2.2.2.1, (c.2.2.2.2.1, (c.2.2.2.2.2.1, (c.2.2.2.2.2.2.1, (x.1, ())))))))), ((c.2.2.2.2.2.2.2.1, c.2.2.2.2.2.2.2.2.2.2.1), ((c.2.2.2.2.2.2.2.2.1, c.2.2.2.2.2.2.2.2.2.2.2), ((x.2, ()), ((c.2.2.2.2.2.2.2.2.2.1, ()), ())))))
theorem f8_l20_pg (t : f8_l20_sk.T) : f8_l20_put (f8_l20_con t) (f8_l20_get t) = t := by kernel_rfl
noncomputable def f8_l20_w0 (c : f8_l20_C) (y : (Int × Qv2)) : f8_l20_o0.T := ((y.1, ()), ((y.2, c.2.2.2.2.2.2.2.2.2.2.1), ()))
noncomputable def f8_l20_w1 (c : f8_l20_C) (y : List Int) : f8_l20_o1.T := ((c.1, (c.2.1, (c.2.2.1, (c.2.2.2.1, (c.2.2.2.2.1, ()))))), ((c.2.2.2.2.2.2.2.1, c.2.2.2.2.2.2.2.2.2.2.1), ((c.2.2.2.2.2.2.2.2.1, c.2.2.2.2.2.2.2.2.2.2.2), ((y, ()), ((c.2.2.2.2.2.2.2.2.2.1, ()), ())))))
noncomputable def f8_l20_out (c : f8_l20_C) (y : f8_l20_Y) : OutV f8_l20_outs := (Sum.elim (fun y => (.inl (f8_l20_w0 c y))) (fun y => (.inr (.inl (f8_l20_w1 c y))))) y
noncomputable def f8_l20_k {R : Type} (a0 : Int) (a1 : Int) (a2 : List Qv0) (a3 : Int) (a4 : Int) (a5 : List (Int × (Int × Qv1))) (a6 : Int) (a7 : Int) (a8 : Qv2) (a9 : Qv0) (a10 : List Int) (a11 : List Qv1) (kin : f8_l20_X → Option R) (k0 : (Int × Qv2) → Option R) (k1 : List Int → Option R) : Option R :=
 (cond (decide (a7 < a6))
 (if (0 : Int) ≤ a7 ∧ a7 < ((List.length a5 : Nat) : Int) then ((f21x2 a11 ((List.getD a5 (Int.toNat a7) ((0 : Int), ((0 : Int), (ByteArray.empty, ((0 : Int), ()))))), ())).bind fun r6 =>
  (cond (decide (r6.1.1 < (0 : Int)))
  (k0 ((15 : Int), ((0 : Int), ([], ([], ())))))
  (if (0 : Int) ≤ r6.1.1 ∧ r6.1.1 < ((List.length a11 : Nat) : Int) then (let v7 : Int := (IntKind.i64.wrap ((List.getD a11 (Int.toNat r6.1.1) (ByteArray.empty, ((0 : Int), ()))).2.1 + (List.getD a5 (Int.toNat a7) ((0 : Int), ((0 : Int), (ByteArray.empty, ((0 : Int), ()))))).2.2.2.1))
   (let v8 : Int := (IntKind.i64.wrap (a1 + (List.getD a5 (Int.toNat a7) ((0 : Int), ((0 : Int), (ByteArray.empty, ((0 : Int), ()))))).1))
   (cond ((List.getD a5 (Int.toNat a7) ((0 : Int), ((0 : Int), (ByteArray.empty, ((0 : Int), ()))))).2.1 == (3 : Int))
   (let v9 : Int := (IntKind.i64.wrap (a0 + v8))
    (let v10 : Int := (IntKind.i64.wrap (v9 + (1 : Int)))
    (let v11 : Int := (IntKind.i64.wrap (v7 - v10))
    (cond (decide (v11 < (-128 : Int)))
    (k0 ((19 : Int), ((0 : Int), ([], ([], ())))))
    (cond (decide (v11 > (127 : Int)))
     (k0 ((19 : Int), ((0 : Int), ([], ([], ())))))
     (if (0 : Int) ≤ v8 ∧ v8 < ((List.length a10 : Nat) : Int) then (let v12 : Int := (IntKind.i64.wrap (a7 + (1 : Int)))
      (kin (v12, (List.set a10 (Int.toNat v8) (IntKind.u8.wrap v11))))) else none))))))
   ((f23 a10 (List.getD a5 (Int.toNat a7) ((0 : Int), ((0 : Int), (ByteArray.empty, ((0 : Int), ()))))) v8 v7).bind fun r13 =>
    (cond (r13.1.1 != (0 : Int))
    (k0 (r13.1.1, ((0 : Int), ([], ([], ())))))
    (let v14 : Int := (IntKind.i64.wrap (a7 + (1 : Int)))
     (kin (v14, r13.2.1)))))))) else none))) else none)
 (k1 a10))
noncomputable def f8_l20_g (a0 : Int) (a1 : Int) (a2 : List Qv0) (a3 : Int) (a4 : Int) (a5 : List (Int × (Int × Qv1))) (a6 : Int) (a8 : Qv2) (a9 : Qv0) (a11 : List Qv1) (x : f8_l20_X) : Option (f8_l20_X ⊕ f8_l20_Y) := f8_l20_k a0 a1 a2 a3 a4 a5 a6 x.1 a8 a9 x.2 a11 (fun x => some (.inl x)) (fun y => some (.inr (.inl y))) (fun y => some (.inr (.inr y)))
noncomputable def f8_l20 (a0 : Int) (a1 : Int) (a2 : List Qv0) (a3 : Int) (a4 : Int) (a5 : List (Int × (Int × Qv1))) (a6 : Int) (a8 : Qv2) (a9 : Qv0) (a11 : List Qv1) (x : f8_l20_X) : Option f8_l20_Y := loopO (f8_l20_g a0 a1 a2 a3 a4 a5 a6 a8 a9 a11) x
noncomputable def f8_l20_nd : Node := { nils := [], sk := f8_l20_sk, outs := f8_l20_outs, Y := f8_l20_Y, L := fun t => f8_l20 ((f8_l20_con t).1) ((f8_l20_con t).2.1) ((f8_l20_con t).2.2.1) ((f8_l20_con t).2.2.2.1) ((f8_l20_con t).2.2.2.2.1) ((f8_l20_con t).2.2.2.2.2.1) ((f8_l20_con t).2.2.2.2.2.2.1) ((f8_l20_con t).2.2.2.2.2.2.2.1) ((f8_l20_con t).2.2.2.2.2.2.2.2.1) ((f8_l20_con t).2.2.2.2.2.2.2.2.2.1) (f8_l20_get t), out := fun t y => f8_l20_out (f8_l20_con t) y, disp := fun t y K => (Sum.elim (fun y => K .ret (f8_l20_o0.fill (f8_l20_w0 (f8_l20_con t) y))) (fun y => K (.exit 4) (f8_l20_o1.fill (f8_l20_w1 (f8_l20_con t) y)))) y }
noncomputable def f8_l17_sk : SkS := ⟨69, [(1, .con (.int .i64)), (2, .ptr 64 []), (4, .ref 768 []), (0, .ref 769 []), (1, .con (.int .i64)), (43, .con (.slc Qt3)), (0, .con (.int .i64)), (0, .con (.int .i64))], [(64, ⟨some 38, Qt5, Qt6, none⟩), (768, ⟨none, (.slc (.int .u8)), (.own .ro), none⟩), (769, ⟨none, (.slc Qt4), (.own .ro), none⟩)]⟩
noncomputable def f8_l17_o0 : SkS := ⟨122, [(4, .ptr 64 []), (0, .con (.int .i64))], [(64, ⟨some 38, Qt5, Qt6, none⟩)]⟩
noncomputable def f8_l17_o1 : SkS := ⟨117, [(1, .con (.int .i64)), (2, .ptr 64 []), (4, .ref 768 []), (0, .ref 769 [])], [(64, ⟨some 38, Qt5, Qt6, none⟩), (768, ⟨none, (.slc (.int .u8)), (.own .ro), none⟩), (769, ⟨none, (.slc Qt4), (.own .ro), none⟩)]⟩
noncomputable def f8_l17_outs : List Way := [⟨.ret, [], f8_l17_o0⟩, ⟨(.exit 2), [], f8_l17_o1⟩]
abbrev f8_l17_C := (Int × List Qv0 × Int × Qv2 × List Qv1 × (Option Nat))
abbrev f8_l17_X := (Int × Int × List Int)
abbrev f8_l17_Y := ((Int × Qv2)) ⊕ (List Int)
noncomputable def f8_l17_con (t : f8_l17_sk.T) : f8_l17_C := (t.1.1, t.1.2.2.1, t.1.2.2.2.1, t.2.1.1, t.2.2.2.1.1, t.2.1.2)
noncomputable def f8_l17_get (t : f8_l17_sk.T) : f8_l17_X := (t.1.2.1, t.1.2.2.2.2.1, t.2.2.1.1)
noncomputable def f8_l17_put (c : f8_l17_C) (x : f8_l17_X) : f8_l17_sk.T := ((c.1, (x.1, (c.2.1, (c.2.2.1, (x.2.1, ()))))), ((c.2.2.2.1, c.2.2.2.2.2), ((x.2.2, ()), ((c.2.2.2.2.1, ()), ()))))
theorem f8_l17_pg (t : f8_l17_sk.T) : f8_l17_put (f8_l17_con t) (f8_l17_get t) = t := by kernel_rfl
noncomputable def f8_l17_w0 (c : f8_l17_C) (y : (Int × Qv2)) : f8_l17_o0.T := ((y.1, ()), ((y.2, c.2.2.2.2.2), ()))
noncomputable def f8_l17_w1 (c : f8_l17_C) (y : List Int) : f8_l17_o1.T := ((c.1, ()), ((c.2.2.2.1, c.2.2.2.2.2), ((y, ()), ((c.2.2.2.2.1, ()), ()))))
noncomputable def f8_l17_out (c : f8_l17_C) (y : f8_l17_Y) : OutV f8_l17_outs := (Sum.elim (fun y => (.inl (f8_l17_w0 c y))) (fun y => (.inr (.inl (f8_l17_w1 c y))))) y
noncomputable def f8_l17_k {R : Type} (a0 : Int) (a1 : Int) (a2 : List Qv0) (a3 : Int) (a4 : Int) (a5 : Qv2) (a6 : List Int) (a7 : List Qv1) (kin : f8_l17_X → Option R) (k0 : (Int × Qv2) → Option R) (k1 : List Int → Option R) : Option R :=
 (cond (decide (a4 < a3))
 (if (0 : Int) ≤ a4 ∧ a4 < ((List.length a2 : Nat) : Int) then ((f8_l20 a0 a1 a2 a3 a4 (List.getD a2 (Int.toNat a4) (ByteArray.empty, (([] : List Int), (([] : List Qv1), (([] : List (Int × (Int × Qv1))), ()))))).2.2.2.1 ((List.length (List.getD a2 (Int.toNat a4) (ByteArray.empty, (([] : List Int), (([] : List Qv1), (([] : List (Int × (Int × Qv1))), ()))))).2.2.2.1 : Nat) : Int) a5 (List.getD a2 (Int.toNat a4) (ByteArray.empty, (([] : List Int), (([] : List Qv1), (([] : List (Int × (Int × Qv1))), ()))))) a7 ((0 : Int), a6)).bind fun y15 =>
  ((Sum.elim (fun z16 =>
  (k0 (z16.1, z16.2)))
  (fun z17 =>
  (let v18 : Int := (IntKind.i64.wrap (a1 + ((List.length (List.getD a2 (Int.toNat a4) (ByteArray.empty, (([] : List Int), (([] : List Qv1), (([] : List (Int × (Int × Qv1))), ()))))).2.1 : Nat) : Int)))
   (let v19 : Int := (IntKind.i64.wrap (a4 + (1 : Int)))
   (kin (v18, v19, z17)))))) y15)) else none)
 (k1 a6))
noncomputable def f8_l17_g (a0 : Int) (a2 : List Qv0) (a3 : Int) (a5 : Qv2) (a7 : List Qv1) (x : f8_l17_X) : Option (f8_l17_X ⊕ f8_l17_Y) := f8_l17_k a0 x.1 a2 a3 x.2.1 a5 x.2.2 a7 (fun x => some (.inl x)) (fun y => some (.inr (.inl y))) (fun y => some (.inr (.inr y)))
noncomputable def f8_l17 (a0 : Int) (a2 : List Qv0) (a3 : Int) (a5 : Qv2) (a7 : List Qv1) (x : f8_l17_X) : Option f8_l17_Y := loopO (f8_l17_g a0 a2 a3 a5 a7) x
noncomputable def f8_l17_nd : Node := { nils := [], sk := f8_l17_sk, outs := f8_l17_outs, Y := f8_l17_Y, L := fun t => f8_l17 ((f8_l17_con t).1) ((f8_l17_con t).2.1) ((f8_l17_con t).2.2.1) ((f8_l17_con t).2.2.2.1) ((f8_l17_con t).2.2.2.2.1) (f8_l17_get t), out := fun t y => f8_l17_out (f8_l17_con t) y, disp := fun t y K => (Sum.elim (fun y => K .ret (f8_l17_o0.fill (f8_l17_w0 (f8_l17_con t) y))) (fun y => K (.exit 2) (f8_l17_o1.fill (f8_l17_w1 (f8_l17_con t) y)))) y }
noncomputable def f8_fx : Fx := { E := env, T := [(5, f5_sm), (20, f20_sm), (21, f21x2_sm), (23, f23_sm)], H := [], O := [], nodes := [((true, 6), f8_l6_nd), ((true, 20), f8_l20_nd), ((true, 17), f8_l17_nd)] }
noncomputable def f8_l6_b : Code := (loops f8_code).getD 0 .skip
theorem f8_l6_r (c : f8_l6_C) (x : f8_l6_X) : roundS f8_fx f8_l6_b f8_l6_nd (f8_l6_put c x) = f8_l6_k c.1 c.2.1 c.2.2.1 c.2.2.2.1 x c.2.2.2.2.1 (fun x => some (.inl (f8_l6_put c x))) (fun y => some (.inr (.inl (f8_l6_w0 c y)))) (fun y => some (.inr (.inr (.inl (f8_l6_w1 c y))))) := by kernel_rfl
theorem f8_l6_n {R : Type} (a0 : List Qv0) (a1 : Int) (a2 : List Qv0) (a3 : Int) (a4 : Int) (a5 : Qv2) (kin : f8_l6_X → Option R) (k0 : (Int × Qv2) → Option R) (k1 : Unit → Option R) : f8_l6_k a0 a1 a2 a3 a4 a5 kin k0 k1 = (f8_l6_g a0 a1 a2 a3 a5 a4).bind (Sum.elim kin (Sum.elim k0 k1)) := by
  simp only [f8_l6_g, f8_l6_k, cond_bind, ite_bind, bind_bind, some_bind, none_bind, elim_bind, whenS_bind, Sum.elim_inl, Sum.elim_inr]
theorem f8_l6_ok : LoopOk f8_fx f8_l6_b f8_l6_nd := loop_ok f8_l6_con f8_l6_get f8_l6_put f8_l6_pg (fun c => f8_l6_g c.1 c.2.1 c.2.2.1 c.2.2.2.1 c.2.2.2.2.1) f8_l6_out (fun t y => rfl) (by intro R t y K; rcases y with y | y <;> rfl) (fun c x => by
  refine (f8_l6_r c x).trans ((f8_l6_n _ _ _ _ _ _ _ _ _).trans ?_)
  first
  | rfl
  | congr 1
    funext s
    rcases s with s | s | s <;> rfl) (fun t => rfl)
noncomputable def f8_l20_b : Code := (loops f8_code).getD 2 .skip
theorem f8_l20_r (c : f8_l20_C) (x : f8_l20_X) : roundS f8_fx f8_l20_b f8_l20_nd (f8_l20_put c x) = f8_l20_k c.1 c.2.1 c.2.2.1 c.2.2.2.1 c.2.2.2.2.1 c.2.2.2.2.2.1 c.2.2.2.2.2.2.1 x.1 c.2.2.2.2.2.2.2.1 c.2.2.2.2.2.2.2.2.1 x.2 c.2.2.2.2.2.2.2.2.2.1 (fun x => some (.inl (f8_l20_put c x))) (fun y => some (.inr (.inl (f8_l20_w0 c y)))) (fun y => some (.inr (.inr (.inl (f8_l20_w1 c y))))) := by kernel_rfl
theorem f8_l20_n {R : Type} (a0 : Int) (a1 : Int) (a2 : List Qv0) (a3 : Int) (a4 : Int) (a5 : List (Int × (Int × Qv1))) (a6 : Int) (a7 : Int) (a8 : Qv2) (a9 : Qv0) (a10 : List Int) (a11 : List Qv1) (kin : f8_l20_X → Option R) (k0 : (Int × Qv2) → Option R) (k1 : List Int → Option R) : f8_l20_k a0 a1 a2 a3 a4 a5 a6 a7 a8 a9 a10 a11 kin k0 k1 = (f8_l20_g a0 a1 a2 a3 a4 a5 a6 a8 a9 a11 (a7, a10)).bind (Sum.elim kin (Sum.elim k0 k1)) := by
  simp only [f8_l20_g, f8_l20_k, cond_bind, ite_bind, bind_bind, some_bind, none_bind, elim_bind, whenS_bind, Sum.elim_inl, Sum.elim_inr]
theorem f8_l20_ok : LoopOk f8_fx f8_l20_b f8_l20_nd := loop_ok f8_l20_con f8_l20_get f8_l20_put f8_l20_pg (fun c => f8_l20_g c.1 c.2.1 c.2.2.1 c.2.2.2.1 c.2.2.2.2.1 c.2.2.2.2.2.1 c.2.2.2.2.2.2.1 c.2.2.2.2.2.2.2.1 c.2.2.2.2.2.2.2.2.1 c.2.2.2.2.2.2.2.2.2.1) f8_l20_out (fun t y => rfl) (by intro R t y K; rcases y with y | y <;> rfl) (fun c x => by
  refine (f8_l20_r c x).trans ((f8_l20_n _ _ _ _ _ _ _ _ _ _ _ _ _ _ _).trans ?_)
  first
  | rfl
  | congr 1
    funext s
    rcases s with s | s | s <;> rfl) (fun t => rfl)
noncomputable def f8_l17_b : Code := (loops f8_code).getD 1 .skip
theorem f8_l17_r (c : f8_l17_C) (x : f8_l17_X) : roundS f8_fx f8_l17_b f8_l17_nd (f8_l17_put c x) = f8_l17_k c.1 x.1 c.2.1 c.2.2.1 x.2.1 c.2.2.2.1 x.2.2 c.2.2.2.2.1 (fun x => some (.inl (f8_l17_put c x))) (fun y => some (.inr (.inl (f8_l17_w0 c y)))) (fun y => some (.inr (.inr (.inl (f8_l17_w1 c y))))) := by kernel_rfl
theorem f8_l17_n {R : Type} (a0 : Int) (a1 : Int) (a2 : List Qv0) (a3 : Int) (a4 : Int) (a5 : Qv2) (a6 : List Int) (a7 : List Qv1) (kin : f8_l17_X → Option R) (k0 : (Int × Qv2) → Option R) (k1 : List Int → Option R) : f8_l17_k a0 a1 a2 a3 a4 a5 a6 a7 kin k0 k1 = (f8_l17_g a0 a2 a3 a5 a7 (a1, a4, a6)).bind (Sum.elim kin (Sum.elim k0 k1)) := by
  simp only [f8_l17_g, f8_l17_k, cond_bind, ite_bind, bind_bind, some_bind, none_bind, elim_bind, whenS_bind, Sum.elim_inl, Sum.elim_inr]
theorem f8_l17_ok : LoopOk f8_fx f8_l17_b f8_l17_nd := loop_ok f8_l17_con f8_l17_get f8_l17_put f8_l17_pg (fun c => f8_l17_g c.1 c.2.1 c.2.2.1 c.2.2.2.1 c.2.2.2.2.1) f8_l17_out (fun t y => rfl) (by intro R t y K; rcases y with y | y <;> rfl) (fun c x => by
  refine (f8_l17_r c x).trans ((f8_l17_n _ _ _ _ _ _ _ _ _ _ _).trans ?_)
  first
  | rfl
  | congr 1
    funext s
    rcases s with s | s | s <;> rfl) (fun t => rfl)
noncomputable def f8_k {R : Type} (a0 : List Qv0) (a1 : Int) (k : (Qv2 × Int × Unit) × (Unit) → Option R) : Option R :=
 (cond (decide (a1 < (0 : Int)))
 (k ((((0 : Int), ([], ([], ()))), ((1 : Int), ())), ()))
 (cond (decide (a1 > (65535 : Int)))
  (k ((((0 : Int), ([], ([], ()))), ((1 : Int), ())), ()))
  (cond (decide (((List.length a0 : Nat) : Int) > (16 : Int)))
   (k ((((0 : Int), ([], ([], ()))), ((2 : Int), ())), ()))
   ((f8_l6 a0 a1 a0 ((List.length a0 : Nat) : Int) ((0 : Int), (([] : List Int), (([] : List Qv1), ()))) (0 : Int)).bind fun y2 =>
    ((Sum.elim (fun z3 =>
    (k ((z3.2, (z3.1, ())), ())))
    (fun z4 =>
    ((f20 a0 a1).bind fun r5 =>
     (cond (r5.1.2.2.1 != (0 : Int))
     (k ((((0 : Int), ([], ([], ()))), (r5.1.2.2.1, ())), ()))
     ((f8_l17 a1 a0 ((List.length a0 : Nat) : Int) ((0 : Int), (([] : List Int), (([] : List Qv1), ()))) r5.1.2.1 ((0 : Int), (0 : Int), r5.1.1)).bind fun y20 =>
      ((Sum.elim (fun z21 =>
      (k ((z21.2, (z21.1, ())), ())))
      (fun z22 =>
      (k (((a1, (z22, (r5.1.2.1, ()))), ((0 : Int), ())), ())))) y20)))))) y2)))))
noncomputable def f8 (a0 : List Qv0) (a1 : Int) : Option ((Qv2 × Int × Unit) × (Unit)) := f8_k a0 a1 some
noncomputable def f8_sm : Sm := { ps := [.ro (.slc Qt3), .ro (.int .i64)], rs := [(Qt5, Qt6), ((.int .i64), .ro)], F := fun x => f8 x.1 x.2.1 }
theorem f8_m (x : ArgT [.ro (.slc Qt3), .ro (.int .i64)]) : codeS f8_fx f8_code (start [.ro (.slc Qt3), .ro (.int .i64)] [] x 128) (finK env [.cell 4 38, .tmp 5] [.ro (.slc Qt3), .ro (.int .i64)] [(Qt5, Qt6), ((.int .i64), .ro)]) = f8_k x.1 x.2.1 (fun r => some (r, [])) := by kernel_rfl
theorem f8_n {R : Type} (a0 : List Qv0) (a1 : Int) (k : (Qv2 × Int × Unit) × (Unit) → Option R) : f8_k a0 a1 k = (f8 a0 a1).bind k := by
  simp only [f8, f8_k, cond_bind, ite_bind, bind_bind, some_bind, none_bind, elim_bind, whenS_bind]
theorem f8_ok : SmOk Tryd.prog 8 f8_sm :=
  sum_of (c := f8_fx) (fn := Tryd.f8) (code := f8_code) (sm := f8_sm) mixed (env_ok env_envB) (TabsOk.all ⟨f5_c, f20_c, f21x2_c, f23_c, trivial⟩) Tryd.func8 (by kernel_rfl)
   ((LoopsOk.of (l := [f8_l6_b, f8_l17_b, f8_l20_b]) (by kernel_rfl) ⟨node_is (by kernel_rfl) f8_l6_ok, node_is (by kernel_rfl) f8_l17_ok, node_is (by kernel_rfl) f8_l20_ok, trivial⟩))
   (no_tails (by kernel_rfl)) rfl
   (fun ks x hl => by
    have hk : ks = [] := List.length_eq_zero_iff.1 hl
    subst hk
    exact (f8_m x).trans (f8_n _ _ _))
theorem f8_c : CalOk Tryd.prog 8 f8_sm := .inl ⟨f8_ok, ⟨Tryd.f8, Tryd.func8, by kernel_rfl, by kernel_rfl⟩⟩
noncomputable def f9_code : Code := (Tryd.f9.body).getD .skip
noncomputable def f9_l6_sk : SkS := ⟨159, [(0, .con (.slc Qt3)), (0, .con (.int .i64)), (2, .ptr 64 []), (32, .con (.slc Qt3)), (0, .con (.int .i64)), (0, .con (.int .i64))], [(64, ⟨some 38, Qt5, Qt6, none⟩)]⟩
noncomputable def f9_l6_o0 : SkS := ⟨193, [(4, .ptr 64 []), (0, .con (.int .i64))], [(64, ⟨some 38, Qt5, Qt6, none⟩)]⟩
noncomputable def f9_l6_o1 : SkS := ⟨194, [(0, .con (.slc Qt3)), (0, .con (.int .i64)), (2, .ptr 64 [])], [(64, ⟨some 38, Qt5, Qt6, none⟩)]⟩
noncomputable def f9_l6_outs : List Way := [⟨.ret, [], f9_l6_o0⟩, ⟨(.exit 0), [], f9_l6_o1⟩]
abbrev f9_l6_C := (List Qv0 × Int × List Qv0 × Int × Qv2 × (Option Nat))
abbrev f9_l6_X := Int
abbrev f9_l6_Y := ((Int × Qv2)) ⊕ (Unit)
noncomputable def f9_l6_con (t : f9_l6_sk.T) : f9_l6_C := (t.1.1, t.1.2.1, t.1.2.2.1, t.1.2.2.2.1, t.2.1.1, t.2.1.2)
noncomputable def f9_l6_get (t : f9_l6_sk.T) : f9_l6_X := t.1.2.2.2.2.1
noncomputable def f9_l6_put (c : f9_l6_C) (x : f9_l6_X) : f9_l6_sk.T := ((c.1, (c.2.1, (c.2.2.1, (c.2.2.2.1, (x, ()))))), ((c.2.2.2.2.1, c.2.2.2.2.2), ()))
theorem f9_l6_pg (t : f9_l6_sk.T) : f9_l6_put (f9_l6_con t) (f9_l6_get t) = t := by kernel_rfl
noncomputable def f9_l6_w0 (c : f9_l6_C) (y : (Int × Qv2)) : f9_l6_o0.T := ((y.1, ()), ((y.2, c.2.2.2.2.2), ()))
noncomputable def f9_l6_w1 (c : f9_l6_C) (y : Unit) : f9_l6_o1.T := ((c.1, (c.2.1, ())), ((c.2.2.2.2.1, c.2.2.2.2.2), ()))
noncomputable def f9_l6_out (c : f9_l6_C) (y : f9_l6_Y) : OutV f9_l6_outs := (Sum.elim (fun y => (.inl (f9_l6_w0 c y))) (fun y => (.inr (.inl (f9_l6_w1 c y))))) y
noncomputable def f9_l6_k {R : Type} (a0 : List Qv0) (a1 : Int) (a2 : List Qv0) (a3 : Int) (a4 : Int) (a5 : Qv2) (kin : f9_l6_X → Option R) (k0 : (Int × Qv2) → Option R) (k1 : Unit → Option R) : Option R :=
 (cond (decide (a4 < a3))
 (if (0 : Int) ≤ a4 ∧ a4 < ((List.length a2 : Nat) : Int) then ((f6 (List.getD a2 (Int.toNat a4) (ByteArray.empty, (([] : List Int), (([] : List Qv1), (([] : List (Int × (Int × Qv1))), ())))))).bind fun r0 =>
  (cond (r0.1.1 != (0 : Int))
  (k0 (r0.1.1, ((0 : Int), ([], ([], ())))))
  (let v1 : Int := (IntKind.i64.wrap (a4 + (1 : Int)))
   (kin v1)))) else none)
 (k1 ()))
noncomputable def f9_l6_g (a0 : List Qv0) (a1 : Int) (a2 : List Qv0) (a3 : Int) (a5 : Qv2) (x : f9_l6_X) : Option (f9_l6_X ⊕ f9_l6_Y) := f9_l6_k a0 a1 a2 a3 x a5 (fun x => some (.inl x)) (fun y => some (.inr (.inl y))) (fun y => some (.inr (.inr y)))
noncomputable def f9_l6 (a0 : List Qv0) (a1 : Int) (a2 : List Qv0) (a3 : Int) (a5 : Qv2) (x : f9_l6_X) : Option f9_l6_Y := loopO (f9_l6_g a0 a1 a2 a3 a5) x
noncomputable def f9_l6_nd : Node := { nils := [], sk := f9_l6_sk, outs := f9_l6_outs, Y := f9_l6_Y, L := fun t => f9_l6 ((f9_l6_con t).1) ((f9_l6_con t).2.1) ((f9_l6_con t).2.2.1) ((f9_l6_con t).2.2.2.1) ((f9_l6_con t).2.2.2.2.1) (f9_l6_get t), out := fun t y => f9_l6_out (f9_l6_con t) y, disp := fun t y K => (Sum.elim (fun y => K .ret (f9_l6_o0.fill (f9_l6_w0 (f9_l6_con t) y))) (fun y => K (.exit 0) (f9_l6_o1.fill (f9_l6_w1 (f9_l6_con t) y)))) y }
noncomputable def f9_l18_sk : SkS := ⟨136, [(0, .con (.slc Qt3)), (0, .con (.int .i64)), (2, .ptr 64 []), (4, .ptr 144 []), (0, .ref 832 []), (1, .ptr 192 []), (40, .con (.slc Qt3)), (0, .con (.int .i64)), (0, .con (.int .i64)), (4, .con (.slc Qt4)), (0, .con (.int .i64)), (0, .con (.int .i64))], [(64, ⟨some 38, Qt5, Qt6, none⟩), (144, ⟨some 38, Qt5, Qt6, none⟩), (192, ⟨some 29, Qt3, .ro, none⟩), (832, ⟨none, (.mp .str (.int .i64)), (.own (.own .ro)), none⟩)]⟩
noncomputable def f9_l18_o0 : SkS := ⟨193, [(4, .ptr 64 []), (0, .con (.int .i64))], [(64, ⟨some 38, Qt5, Qt6, none⟩)]⟩
noncomputable def f9_l18_o1 : SkS := ⟨143, [(0, .con (.slc Qt3)), (0, .con (.int .i64)), (2, .ptr 64 []), (4, .ptr 144 []), (0, .ref 832 []), (1, .ptr 192 []), (40, .con (.slc Qt3)), (0, .con (.int .i64)), (0, .con (.int .i64))], [(64, ⟨some 38, Qt5, Qt6, none⟩), (144, ⟨some 38, Qt5, Qt6, none⟩), (192, ⟨some 29, Qt3, .ro, none⟩), (832, ⟨none, (.mp .str (.int .i64)), (.own (.own .ro)), none⟩)]⟩
noncomputable def f9_l18_outs : List Way := [⟨.ret, [], f9_l18_o0⟩, ⟨(.exit 4), [], f9_l18_o1⟩]
abbrev f9_l18_C := (List Qv0 × Int × List Qv0 × Int × Int × List Qv1 × Int × Qv2 × Qv0 × (Option Nat) × (Option Nat) × (Option Nat))
abbrev f9_l18_X := (Int × Qv2 × List (ByteArray × Int))
abbrev f9_l18_Y := (Qv2) ⊕ ((Qv2 × List (ByteArray × Int)))
noncomputable def f9_l18_con (t : f9_l18_sk.T) : f9_l18_C := (t.1.1, t.1.2.1, t.1.2.2.1, t.1.2.2.2.1, t.1.2.2.2.2.1, t.1.2.2.2.2.2.1, t.1.2.2.2.2.2.2.1, t.2.1.1, t.2.2.2.1.1, t.2.1.2, t.2.2.1.2, t.2.2.2.1.2)
noncomputable def f9_l18_get (t : f9_l18_sk.T) : f9_l18_X := (t.1.2.2.2.2.2.2.2.1, t.2.2.1.1, t.2.2.2.2.1.1)
noncomputable def f9_l18_put (c : f9_l18_C) (x : f9_l18_X) : f9_l18_sk.T := ((c.1, (c.2.1, (c.2.2.1, (c.2.2.2.1, (c.2.2.2.2.1, (c.2.2.2.2.2.1, (c.2.2.2.2.2.2.1, (x.1, ())))))))), ((c.2.2.2.2.2.2.2.1, c.2.2.2.2.2.2.2.2.2.1), ((x.2.1, c.2.2.2.2.2.2.2.2.2.2.1), ((c.2.2.2.2.2.2.2.2.1, c.2.2.2.2.2.2.2.2.2.2.2), ((x.2.2, ()), ())))))
theorem f9_l18_pg (t : f9_l18_sk.T) : f9_l18_put (f9_l18_con t) (f9_l18_get t) = t := by kernel_rfl
noncomputable def f9_l18_w0 (c : f9_l18_C) (y : Qv2) : f9_l18_o0.T := (((5 : Int), ()), ((y, c.2.2.2.2.2.2.2.2.2.1), ()))
noncomputable def f9_l18_w1 (c : f9_l18_C) (y : (Qv2 × List (ByteArray × Int))) : f9_l18_o1.T := ((c.1, (c.2.1, (c.2.2.1, (c.2.2.2.1, (c.2.2.2.2.1, ()))))), ((c.2.2.2.2.2.2.2.1, c.2.2.2.2.2.2.2.2.2.1), ((y.1, c.2.2.2.2.2.2.2.2.2.2.1), ((c.2.2.2.2.2.2.2.2.1, c.2.2.2.2.2.2.2.2.2.2.2), ((y.2, ()), ())))))
noncomputable def f9_l18_out (c : f9_l18_C) (y : f9_l18_Y) : OutV f9_l18_outs := (Sum.elim (fun y => (.inl (f9_l18_w0 c y))) (fun y => (.inr (.inl (f9_l18_w1 c y))))) y
noncomputable def f9_l18_k {R : Type} (a0 : List Qv0) (a1 : Int) (a2 : List Qv0) (a3 : Int) (a4 : Int) (a5 : List Qv1) (a6 : Int) (a7 : Int) (a8 : Qv2) (a9 : Qv2) (a10 : Qv0) (a11 : List (ByteArray × Int)) (kin : f9_l18_X → Option R) (k0 : Qv2 → Option R) (k1 : (Qv2 × List (ByteArray × Int)) → Option R) : Option R :=
 (cond (decide (a7 < a6))
 (if (0 : Int) ≤ a7 ∧ a7 < ((List.length a5 : Nat) : Int) then (let v5 : Int := ((mfind .str (.int .i64) a11 (List.getD a5 (Int.toNat a7) (ByteArray.empty, ((0 : Int), ()))).1).getD (0 : Int))
  (let v6 : Bool := ((mfind .str (.int .i64) a11 (List.getD a5 (Int.toNat a7) (ByteArray.empty, ((0 : Int), ()))).1).isSome)
  (cond v6
  (k0 ((0 : Int), ([], ([], ()))))
  (let v7 : Int := (IntKind.i64.wrap (a1 + ((List.length a9.2.1 : Nat) : Int)))
   (let v8 : Int := (IntKind.i64.wrap (v7 + (List.getD a5 (Int.toNat a7) (ByteArray.empty, ((0 : Int), ()))).2.1))
   (let r9 : List (ByteArray × Int) := (mset .str (.int .i64) a11 (List.getD a5 (Int.toNat a7) (ByteArray.empty, ((0 : Int), ()))).1 v8)
   (let v10 : Int := ((mfind .str (.int .i64) r9 (List.getD a5 (Int.toNat a7) (ByteArray.empty, ((0 : Int), ()))).1).getD (0 : Int))
   (if (List.length a9.2.2.1 + 1) * 24 ≤ most ∧ 0 < 24 ∧ 0 < 2 then (let r11 : List Qv1 := (a9.2.2.1 ++ [((List.getD a5 (Int.toNat a7) (ByteArray.empty, ((0 : Int), ()))).1, (v10, ()))])
   (let v12 : Int := (IntKind.i64.wrap (a7 + (1 : Int)))
   (kin (v12, (a9.1, (a9.2.1, (r11, a9.2.2.2))), r9)))) else none)))))))) else none)
 (k1 (a9, a11)))
noncomputable def f9_l18_g (a0 : List Qv0) (a1 : Int) (a2 : List Qv0) (a3 : Int) (a4 : Int) (a5 : List Qv1) (a6 : Int) (a8 : Qv2) (a10 : Qv0) (x : f9_l18_X) : Option (f9_l18_X ⊕ f9_l18_Y) := f9_l18_k a0 a1 a2 a3 a4 a5 a6 x.1 a8 x.2.1 a10 x.2.2 (fun x => some (.inl x)) (fun y => some (.inr (.inl y))) (fun y => some (.inr (.inr y)))
noncomputable def f9_l18 (a0 : List Qv0) (a1 : Int) (a2 : List Qv0) (a3 : Int) (a4 : Int) (a5 : List Qv1) (a6 : Int) (a8 : Qv2) (a10 : Qv0) (x : f9_l18_X) : Option f9_l18_Y := loopO (f9_l18_g a0 a1 a2 a3 a4 a5 a6 a8 a10) x
noncomputable def f9_l18_nd : Node := { nils := [], sk := f9_l18_sk, outs := f9_l18_outs, Y := f9_l18_Y, L := fun t => f9_l18 ((f9_l18_con t).1) ((f9_l18_con t).2.1) ((f9_l18_con t).2.2.1) ((f9_l18_con t).2.2.2.1) ((f9_l18_con t).2.2.2.2.1) ((f9_l18_con t).2.2.2.2.2.1) ((f9_l18_con t).2.2.2.2.2.2.1) ((f9_l18_con t).2.2.2.2.2.2.2.1) ((f9_l18_con t).2.2.2.2.2.2.2.2.1) (f9_l18_get t), out := fun t y => f9_l18_out (f9_l18_con t) y, disp := fun t y K => (Sum.elim (fun y => K .ret (f9_l18_o0.fill (f9_l18_w0 (f9_l18_con t) y))) (fun y => K (.exit 4) (f9_l18_o1.fill (f9_l18_w1 (f9_l18_con t) y)))) y }
noncomputable def f9_l15_sk : SkS := ⟨143, [(0, .con (.slc Qt3)), (0, .con (.int .i64)), (2, .ptr 64 []), (4, .ptr 144 []), (0, .ref 832 []), (42, .con (.slc Qt3)), (0, .con (.int .i64)), (0, .con (.int .i64))], [(64, ⟨some 38, Qt5, Qt6, none⟩), (144, ⟨some 38, Qt5, Qt6, none⟩), (832, ⟨none, (.mp .str (.int .i64)), (.own (.own .ro)), none⟩)]⟩
noncomputable def f9_l15_o0 : SkS := ⟨193, [(4, .ptr 64 []), (0, .con (.int .i64))], [(64, ⟨some 38, Qt5, Qt6, none⟩)]⟩
noncomputable def f9_l15_o1 : SkS := ⟨188, [(0, .con (.slc Qt3)), (0, .con (.int .i64)), (2, .ptr 64 []), (4, .ptr 144 []), (0, .ref 832 [])], [(64, ⟨some 38, Qt5, Qt6, none⟩), (144, ⟨some 38, Qt5, Qt6, none⟩), (832, ⟨none, (.mp .str (.int .i64)), (.own (.own .ro)), none⟩)]⟩
noncomputable def f9_l15_outs : List Way := [⟨.ret, [], f9_l15_o0⟩, ⟨(.exit 2), [], f9_l15_o1⟩]
abbrev f9_l15_C := (List Qv0 × Int × List Qv0 × Int × Qv2 × (Option Nat) × (Option Nat))
abbrev f9_l15_X := (Int × Qv2 × List (ByteArray × Int))
abbrev f9_l15_Y := (Qv2) ⊕ ((Qv2 × List (ByteArray × Int)))
noncomputable def f9_l15_con (t : f9_l15_sk.T) : f9_l15_C := (t.1.1, t.1.2.1, t.1.2.2.1, t.1.2.2.2.1, t.2.1.1, t.2.1.2, t.2.2.1.2)
noncomputable def f9_l15_get (t : f9_l15_sk.T) : f9_l15_X := (t.1.2.2.2.2.1, t.2.2.1.1, t.2.2.2.1.1)
noncomputable def f9_l15_put (c : f9_l15_C) (x : f9_l15_X) : f9_l15_sk.T := ((c.1, (c.2.1, (c.2.2.1, (c.2.2.2.1, (x.1, ()))))), ((c.2.2.2.2.1, c.2.2.2.2.2.1), ((x.2.1, c.2.2.2.2.2.2), ((x.2.2, ()), ()))))
theorem f9_l15_pg (t : f9_l15_sk.T) : f9_l15_put (f9_l15_con t) (f9_l15_get t) = t := by kernel_rfl
noncomputable def f9_l15_w0 (c : f9_l15_C) (y : Qv2) : f9_l15_o0.T := (((5 : Int), ()), ((y, c.2.2.2.2.2.1), ()))
noncomputable def f9_l15_w1 (c : f9_l15_C) (y : (Qv2 × List (ByteArray × Int))) : f9_l15_o1.T := ((c.1, (c.2.1, ())), ((c.2.2.2.2.1, c.2.2.2.2.2.1), ((y.1, c.2.2.2.2.2.2), ((y.2, ()), ()))))
noncomputable def f9_l15_out (c : f9_l15_C) (y : f9_l15_Y) : OutV f9_l15_outs := (Sum.elim (fun y => (.inl (f9_l15_w0 c y))) (fun y => (.inr (.inl (f9_l15_w1 c y))))) y
noncomputable def f9_l15_k {R : Type} (a0 : List Qv0) (a1 : Int) (a2 : List Qv0) (a3 : Int) (a4 : Int) (a5 : Qv2) (a6 : Qv2) (a7 : List (ByteArray × Int)) (kin : f9_l15_X → Option R) (k0 : Qv2 → Option R) (k1 : (Qv2 × List (ByteArray × Int)) → Option R) : Option R :=
 (cond (decide (a4 < a3))
 (if (0 : Int) ≤ a4 ∧ a4 < ((List.length a2 : Nat) : Int) then ((f9_l18 a0 a1 a2 a3 a4 (List.getD a2 (Int.toNat a4) (ByteArray.empty, (([] : List Int), (([] : List Qv1), (([] : List (Int × (Int × Qv1))), ()))))).2.2.1 ((List.length (List.getD a2 (Int.toNat a4) (ByteArray.empty, (([] : List Int), (([] : List Qv1), (([] : List (Int × (Int × Qv1))), ()))))).2.2.1 : Nat) : Int) a5 (List.getD a2 (Int.toNat a4) (ByteArray.empty, (([] : List Int), (([] : List Qv1), (([] : List (Int × (Int × Qv1))), ()))))) ((0 : Int), a6, a7)).bind fun y13 =>
  ((Sum.elim (fun z14 =>
  (k0 z14))
  (fun z15 =>
  (if (List.length z15.1.2.1 + List.length (List.getD a2 (Int.toNat a4) (ByteArray.empty, (([] : List Int), (([] : List Qv1), (([] : List (Int × (Int × Qv1))), ()))))).2.1) * 1 ≤ most ∧ 0 < 1 ∧ 0 < 1 then (let r16 : List Int := (z15.1.2.1 ++ (List.getD a2 (Int.toNat a4) (ByteArray.empty, (([] : List Int), (([] : List Qv1), (([] : List (Int × (Int × Qv1))), ()))))).2.1)
   (let v17 : Int := (IntKind.i64.wrap (a4 + (1 : Int)))
   (kin (v17, (z15.1.1, (r16, z15.1.2.2)), z15.2)))) else none))) y13)) else none)
 (k1 (a6, a7)))
noncomputable def f9_l15_g (a0 : List Qv0) (a1 : Int) (a2 : List Qv0) (a3 : Int) (a5 : Qv2) (x : f9_l15_X) : Option (f9_l15_X ⊕ f9_l15_Y) := f9_l15_k a0 a1 a2 a3 x.1 a5 x.2.1 x.2.2 (fun x => some (.inl x)) (fun y => some (.inr (.inl y))) (fun y => some (.inr (.inr y)))
noncomputable def f9_l15 (a0 : List Qv0) (a1 : Int) (a2 : List Qv0) (a3 : Int) (a5 : Qv2) (x : f9_l15_X) : Option f9_l15_Y := loopO (f9_l15_g a0 a1 a2 a3 a5) x
noncomputable def f9_l15_nd : Node := { nils := [], sk := f9_l15_sk, outs := f9_l15_outs, Y := f9_l15_Y, L := fun t => f9_l15 ((f9_l15_con t).1) ((f9_l15_con t).2.1) ((f9_l15_con t).2.2.1) ((f9_l15_con t).2.2.2.1) ((f9_l15_con t).2.2.2.2.1) (f9_l15_get t), out := fun t y => f9_l15_out (f9_l15_con t) y, disp := fun t y K => (Sum.elim (fun y => K .ret (f9_l15_o0.fill (f9_l15_w0 (f9_l15_con t) y))) (fun y => K (.exit 2) (f9_l15_o1.fill (f9_l15_w1 (f9_l15_con t) y)))) y }
noncomputable def f9_t48_sk : SkS := ⟨75, [(1, .con (.int .i64)), (2, .ptr 64 []), (4, .ptr 144 []), (0, .ref 832 []), (6, .con (.int .i64)), (1, .ptr 304 []), (1, .ptr 336 []), (0, .con (.int .i64)), (1, .con (.int .i64)), (89, .con (.slc Qt3)), (0, .con (.int .i64)), (0, .con (.int .i64)), (4, .con (.slc Qt7)), (0, .con (.int .i64)), (0, .con (.int .i64))], [(64, ⟨some 38, Qt5, Qt6, none⟩), (144, ⟨some 38, Qt5, Qt6, none⟩), (304, ⟨some 29, Qt3, .ro, none⟩), (336, ⟨some 35, Qt7, (.pair .ro (.pair .ro (.pair .ro (.pair .ro .ro)))), none⟩), (832, ⟨none, (.mp .str (.int .i64)), (.own (.own .ro)), none⟩)]⟩
noncomputable def f9_t48_o0 : SkS := ⟨75, [(1, .con (.int .i64)), (2, .ptr 64 []), (4, .ptr 144 []), (0, .ref 832 []), (6, .con (.int .i64)), (1, .ptr 304 []), (94, .con (.slc Qt3)), (0, .con (.int .i64)), (0, .con (.int .i64)), (4, .con (.slc Qt7)), (0, .con (.int .i64)), (0, .con (.int .i64))], [(64, ⟨some 38, Qt5, Qt6, none⟩), (144, ⟨some 38, Qt5, Qt6, none⟩), (304, ⟨some 29, Qt3, .ro, none⟩), (832, ⟨none, (.mp .str (.int .i64)), (.own (.own .ro)), none⟩)]⟩
noncomputable def f9_t48_outs : List Way := [⟨.normal, [], f9_t48_o0⟩]
abbrev f9_t48_C := ((Option Nat) × (Option Nat) × (Option Nat) × (Option Nat))
abbrev f9_t48_X := (Int × Int × Int × Int × List Qv0 × Int × Int × List (Int × (Int × Qv1)) × Int × Int × Qv2 × Qv2 × Qv0 × (Int × (Int × Qv1)) × List (ByteArray × Int))
abbrev f9_t48_Y := (Qv2)
noncomputable def f9_t48_con (t : f9_t48_sk.T) : f9_t48_C := (t.2.1.2, t.2.2.1.2, t.2.2.2.1.2, t.2.2.2.2.1.2)
noncomputable def f9_t48_get (t : f9_t48_sk.T) : f9_t48_X := (t.1.1, t.1.2.1, t.1.2.2.1, t.1.2.2.2.1, t.1.2.2.2.2.1, t.1.2.2.2.2.2.1, t.1.2.2.2.2.2.2.1, t.1.2.2.2.2.2.2.2.1, t.1.2.2.2.2.2.2.2.2.1, t.1.2.2.2.2.2.2.2.2.2.1, t.2.1.1, t.2.2.1.1, t.2.2.2.1.1, t.2.2.2.2.1.1, t.2.2.2.2.2.1.1)
noncomputable def f9_t48_put (c : f9_t48_C) (x : f9_t48_X) : f9_t48_sk.T := ((x.1, (x.2.1, (x.2.2.1, (x.2.2.2.1, (x.2.2.2.2.1, (x.2.2.2.2.2.1, (x.2.2.2.2.2.2.1, (x.2.2.2.2.2.2.2.1, (x.2.2.2.2.2.2.2.2.1, (x.2.2.2.2.2.2.2.2.2.1, ())))))))))), ((x.2.2.2.2.2.2.2.2.2.2.1, c.1), ((x.2.2.2.2.2.2.2.2.2.2.2.1, c.2.1), ((x.2.2.2.2.2.2.2.2.2.2.2.2.1, c.2.2.1), ((x.2.2.2.2.2.2.2.2.2.2.2.2.2.1, c.2.2.2), ((x.2.2.2.2.2.2.2.2.2.2.2.2.2.2, ()), ()))))))
theorem f9_t48_pg (t : f9_t48_sk.T) : f9_t48_put (f9_t48_con t) (f9_t48_get t) = t := by kernel_rfl
noncomputable def f9_t48_w0 (c : f9_t48_C) (x : f9_t48_X) (y : Qv2) : f9_t48_o0.T := ((x.1, (x.2.1, (x.2.2.2.2.1, (x.2.2.2.2.2.1, (x.2.2.2.2.2.2.1, (x.2.2.2.2.2.2.2.1, (x.2.2.2.2.2.2.2.2.1, (x.2.2.2.2.2.2.2.2.2.1, ())))))))), ((x.2.2.2.2.2.2.2.2.2.2.1, c.1), ((y, c.2.1), ((x.2.2.2.2.2.2.2.2.2.2.2.2.1, c.2.2.1), ((x.2.2.2.2.2.2.2.2.2.2.2.2.2.2, ()), ())))))
noncomputable def f9_t48_out (c : f9_t48_C) (x : f9_t48_X) (y : f9_t48_Y) : OutV f9_t48_outs := (fun y => (.inl (f9_t48_w0 c x y))) y
noncomputable def f9_t48_k {R : Type} (a0 : Int) (a1 : Int) (a2 : Int) (a3 : Int) (a4 : List Qv0) (a5 : Int) (a6 : Int) (a7 : List (Int × (Int × Qv1))) (a8 : Int) (a9 : Int) (a10 : Qv2) (a11 : Qv2) (a12 : Qv0) (a13 : (Int × (Int × Qv1))) (a14 : List (ByteArray × Int)) (k0 : Qv2 → Option R) : Option R :=
 (let v30 : Int := (Int.fdiv a2 (2 ^ (min 8 64)))
 (if (0 : Int) ≤ a3 ∧ a3 ≤ ((List.length a11.2.1 : Nat) : Int) ∧ ((List.length a11.2.1 : Nat) : Int) ≤ ((List.length a11.2.1 : Nat) : Int) then (if (0 : Int) ≤ a13.2.1 ∧ a13.2.1 < (4 : Int) then (if 0 < (List.length (List.getD [(List.take 1 (List.drop 0 [(IntKind.u8.wrap a2), (IntKind.u8.wrap v30)])), (List.take 1 (List.drop 1 [(IntKind.u8.wrap a2), (IntKind.u8.wrap v30)])), [(IntKind.u8.wrap a2), (IntKind.u8.wrap v30)], (List.take 1 (List.drop 0 [(IntKind.u8.wrap a2), (IntKind.u8.wrap v30)]))] (Int.toNat a13.2.1) ([] : List Int))) ∧ (List.length (List.getD [(List.take 1 (List.drop 0 [(IntKind.u8.wrap a2), (IntKind.u8.wrap v30)])), (List.take 1 (List.drop 1 [(IntKind.u8.wrap a2), (IntKind.u8.wrap v30)])), [(IntKind.u8.wrap a2), (IntKind.u8.wrap v30)], (List.take 1 (List.drop 0 [(IntKind.u8.wrap a2), (IntKind.u8.wrap v30)]))] (Int.toNat a13.2.1) ([] : List Int))) ≤ ((Int.toNat ((List.length a11.2.1 : Nat) : Int)) - (Int.toNat a3)) then (let r31 : List Int := (spl a11.2.1 (Int.toNat a3) (List.length (List.getD [(List.take 1 (List.drop 0 [(IntKind.u8.wrap a2), (IntKind.u8.wrap v30)])), (List.take 1 (List.drop 1 [(IntKind.u8.wrap a2), (IntKind.u8.wrap v30)])), [(IntKind.u8.wrap a2), (IntKind.u8.wrap v30)], (List.take 1 (List.drop 0 [(IntKind.u8.wrap a2), (IntKind.u8.wrap v30)]))] (Int.toNat a13.2.1) ([] : List Int))) (List.getD [(List.take 1 (List.drop 0 [(IntKind.u8.wrap a2), (IntKind.u8.wrap v30)])), (List.take 1 (List.drop 1 [(IntKind.u8.wrap a2), (IntKind.u8.wrap v30)])), [(IntKind.u8.wrap a2), (IntKind.u8.wrap v30)], (List.take 1 (List.drop 0 [(IntKind.u8.wrap a2), (IntKind.u8.wrap v30)]))] (Int.toNat a13.2.1) ([] : List Int)))
 (k0 (a11.1, (r31, a11.2.2)))) else none) else none) else none))
noncomputable def f9_t48 (a0 : Int) (a1 : Int) (a2 : Int) (a3 : Int) (a4 : List Qv0) (a5 : Int) (a6 : Int) (a7 : List (Int × (Int × Qv1))) (a8 : Int) (a9 : Int) (a10 : Qv2) (a11 : Qv2) (a12 : Qv0) (a13 : (Int × (Int × Qv1))) (a14 : List (ByteArray × Int)) : Option f9_t48_Y := f9_t48_k a0 a1 a2 a3 a4 a5 a6 a7 a8 a9 a10 a11 a12 a13 a14 (fun y => some y)
noncomputable def f9_t48_nd : Node := { nils := [], sk := f9_t48_sk, outs := f9_t48_outs, Y := f9_t48_Y, L := fun t => f9_t48 ((f9_t48_get t).1) ((f9_t48_get t).2.1) ((f9_t48_get t).2.2.1) ((f9_t48_get t).2.2.2.1) ((f9_t48_get t).2.2.2.2.1) ((f9_t48_get t).2.2.2.2.2.1) ((f9_t48_get t).2.2.2.2.2.2.1) ((f9_t48_get t).2.2.2.2.2.2.2.1) ((f9_t48_get t).2.2.2.2.2.2.2.2.1) ((f9_t48_get t).2.2.2.2.2.2.2.2.2.1) ((f9_t48_get t).2.2.2.2.2.2.2.2.2.2.1) ((f9_t48_get t).2.2.2.2.2.2.2.2.2.2.2.1) ((f9_t48_get t).2.2.2.2.2.2.2.2.2.2.2.2.1) ((f9_t48_get t).2.2.2.2.2.2.2.2.2.2.2.2.2.1) ((f9_t48_get t).2.2.2.2.2.2.2.2.2.2.2.2.2.2), out := fun t y => f9_t48_out (f9_t48_con t) (f9_t48_get t) y, disp := fun t y K => (fun y => K .normal (f9_t48_o0.fill (f9_t48_w0 (f9_t48_con t) (f9_t48_get t) y))) y }
noncomputable def f9_l35_sk : SkS := ⟨75, [(1, .con (.int .i64)), (2, .ptr 64 []), (4, .ptr 144 []), (0, .ref 832 []), (6, .con (.int .i64)), (1, .ptr 304 []), (94, .con (.slc Qt3)), (0, .con (.int .i64)), (0, .con (.int .i64)), (4, .con (.slc Qt7)), (0, .con (.int .i64)), (0, .con (.int .i64))], [(64, ⟨some 38, Qt5, Qt6, none⟩), (144, ⟨some 38, Qt5, Qt6, none⟩), (304, ⟨some 29, Qt3, .ro, none⟩), (832, ⟨none, (.mp .str (.int .i64)), (.own (.own .ro)), none⟩)]⟩
noncomputable def f9_l35_o0 : SkS := ⟨193, [(4, .ptr 64 []), (0, .con (.int .i64))], [(64, ⟨some 38, Qt5, Qt6, none⟩)]⟩
noncomputable def f9_l35_o1 : SkS := ⟨82, [(1, .con (.int .i64)), (2, .ptr 64 []), (4, .ptr 144 []), (0, .ref 832 []), (6, .con (.int .i64)), (1, .ptr 304 []), (94, .con (.slc Qt3)), (0, .con (.int .i64)), (0, .con (.int .i64))], [(64, ⟨some 38, Qt5, Qt6, none⟩), (144, ⟨some 38, Qt5, Qt6, none⟩), (304, ⟨some 29, Qt3, .ro, none⟩), (832, ⟨none, (.mp .str (.int .i64)), (.own (.own .ro)), none⟩)]⟩
noncomputable def f9_l35_outs : List Way := [⟨.ret, [], f9_l35_o0⟩, ⟨(.exit 8), [], f9_l35_o1⟩]
abbrev f9_l35_C := (Int × Int × List Qv0 × Int × Int × List (Int × (Int × Qv1)) × Int × Qv2 × Qv0 × List (ByteArray × Int) × (Option Nat) × (Option Nat) × (Option Nat))
abbrev f9_l35_X := (Int × Qv2)
abbrev f9_l35_Y := ((Int × Qv2)) ⊕ (Qv2)
noncomputable def f9_l35_con (t : f9_l35_sk.T) : f9_l35_C := (t.1.1, t.1.2.1, t.1.2.2.1, t.1.2.2.2.1, t.1.2.2.2.2.1, t.1.2.2.2.2.2.1, t.1.2.2.2.2.2.2.1, t.2.1.1, t.2.2.2.1.1, t.2.2.2.2.1.1, t.2.1.2, t.2.2.1.2, t.2.2.2.1.2)
noncomputable def f9_l35_get (t : f9_l35_sk.T) : f9_l35_X := (t.1.2.2.2.2.2.2.2.1, t.2.2.1.1)
noncomputable def f9_l35_put (c : f9_l35_C) (x : f9_l35_X) : f9_l35_sk.T := ((c.1, (c.2.1, (c.2.2.1, (c.2.2.2.1, (c.2.2.2.2.1, (c.2.2.2.2.2.1, (c.2.2.2.2.2.2.1, (x.1, ())))))))), ((c.2.2.2.2.2.2.2.1, c.2.2.2.2.2.2.2.2.2.2.1), ((x.2, c.2.2.2.2.2.2.2.2.2.2.2.1), ((c.2.2.2.2.2.2.2.2.1, c.2.2.2.2.2.2.2.2.2.2.2.2), ((c.2.2.2.2.2.2.2.2.2.1, ()), ())))))
theorem f9_l35_pg (t : f9_l35_sk.T) : f9_l35_put (f9_l35_con t) (f9_l35_get t) = t := by kernel_rfl
noncomputable def f9_l35_w0 (c : f9_l35_C) (y : (Int × Qv2)) : f9_l35_o0.T := ((y.1, ()), ((y.2, c.2.2.2.2.2.2.2.2.2.2.1), ()))
noncomputable def f9_l35_w1 (c : f9_l35_C) (y : Qv2) : f9_l35_o1.T := ((c.1, (c.2.1, (c.2.2.1, (c.2.2.2.1, (c.2.2.2.2.1, ()))))), ((c.2.2.2.2.2.2.2.1, c.2.2.2.2.2.2.2.2.2.2.1), ((y, c.2.2.2.2.2.2.2.2.2.2.2.1), ((c.2.2.2.2.2.2.2.2.1, c.2.2.2.2.2.2.2.2.2.2.2.2), ((c.2.2.2.2.2.2.2.2.2.1, ()), ())))))
noncomputable def f9_l35_out (c : f9_l35_C) (y : f9_l35_Y) : OutV f9_l35_outs := (Sum.elim (fun y => (.inl (f9_l35_w0 c y))) (fun y => (.inr (.inl (f9_l35_w1 c y))))) y
noncomputable def f9_l35_k {R : Type} (a0 : Int) (a1 : Int) (a2 : List Qv0) (a3 : Int) (a4 : Int) (a5 : List (Int × (Int × Qv1))) (a6 : Int) (a7 : Int) (a8 : Qv2) (a9 : Qv2) (a10 : Qv0) (a11 : List (ByteArray × Int)) (kin : f9_l35_X → Option R) (k0 : (Int × Qv2) → Option R) (k1 : Qv2 → Option R) : Option R :=
 (cond (decide (a7 < a6))
 (if (0 : Int) ≤ a7 ∧ a7 < ((List.length a5 : Nat) : Int) then (let v23 : Int := ((mfind .str (.int .i64) a11 (List.getD a5 (Int.toNat a7) ((0 : Int), ((0 : Int), (ByteArray.empty, ((0 : Int), ()))))).2.2.1).getD (0 : Int))
  (let v24 : Bool := ((mfind .str (.int .i64) a11 (List.getD a5 (Int.toNat a7) ((0 : Int), ((0 : Int), (ByteArray.empty, ((0 : Int), ()))))).2.2.1).isSome)
  (cond (!v24)
  (k0 ((15 : Int), ((0 : Int), ([], ([], ())))))
  (let v25 : Int := (IntKind.i64.wrap (v23 + (List.getD a5 (Int.toNat a7) ((0 : Int), ((0 : Int), (ByteArray.empty, ((0 : Int), ()))))).2.2.2.1))
   (let v26 : Int := (IntKind.i64.wrap (a1 + (List.getD a5 (Int.toNat a7) ((0 : Int), ((0 : Int), (ByteArray.empty, ((0 : Int), ()))))).1))
   (cond ((List.getD a5 (Int.toNat a7) ((0 : Int), ((0 : Int), (ByteArray.empty, ((0 : Int), ()))))).2.1 == (3 : Int))
   (let v27 : Int := (IntKind.i64.wrap (a0 + v26))
    (let v28 : Int := (IntKind.i64.wrap (v27 + (1 : Int)))
    (let v29 : Int := (IntKind.i64.wrap (v25 - v28))
    (cond (decide (v29 < (-128 : Int)))
    (k0 ((19 : Int), ((0 : Int), ([], ([], ())))))
    (cond (decide (v29 > (127 : Int)))
     (k0 ((19 : Int), ((0 : Int), ([], ([], ())))))
     ((f9_t48 a0 a1 v29 v26 a2 a3 a4 a5 a6 a7 a8 a9 a10 (List.getD a5 (Int.toNat a7) ((0 : Int), ((0 : Int), (ByteArray.empty, ((0 : Int), ()))))) a11).bind fun y32 =>
      (let v33 : Int := (IntKind.i64.wrap (a7 + (1 : Int)))
      (kin (v33, y32)))))))))
   (cond (decide (v25 < (0 : Int)))
    (k0 ((21 : Int), ((0 : Int), ([], ([], ())))))
    (cond (decide (v25 > (65535 : Int)))
     (k0 ((21 : Int), ((0 : Int), ([], ([], ())))))
     ((f9_t48 a0 a1 v25 v26 a2 a3 a4 a5 a6 a7 a8 a9 a10 (List.getD a5 (Int.toNat a7) ((0 : Int), ((0 : Int), (ByteArray.empty, ((0 : Int), ()))))) a11).bind fun y34 =>
      (let v35 : Int := (IntKind.i64.wrap (a7 + (1 : Int)))
      (kin (v35, y34)))))))))))) else none)
 (k1 a9))
noncomputable def f9_l35_g (a0 : Int) (a1 : Int) (a2 : List Qv0) (a3 : Int) (a4 : Int) (a5 : List (Int × (Int × Qv1))) (a6 : Int) (a8 : Qv2) (a10 : Qv0) (a11 : List (ByteArray × Int)) (x : f9_l35_X) : Option (f9_l35_X ⊕ f9_l35_Y) := f9_l35_k a0 a1 a2 a3 a4 a5 a6 x.1 a8 x.2 a10 a11 (fun x => some (.inl x)) (fun y => some (.inr (.inl y))) (fun y => some (.inr (.inr y)))
noncomputable def f9_l35 (a0 : Int) (a1 : Int) (a2 : List Qv0) (a3 : Int) (a4 : Int) (a5 : List (Int × (Int × Qv1))) (a6 : Int) (a8 : Qv2) (a10 : Qv0) (a11 : List (ByteArray × Int)) (x : f9_l35_X) : Option f9_l35_Y := loopO (f9_l35_g a0 a1 a2 a3 a4 a5 a6 a8 a10 a11) x
noncomputable def f9_l35_nd : Node := { nils := [], sk := f9_l35_sk, outs := f9_l35_outs, Y := f9_l35_Y, L := fun t => f9_l35 ((f9_l35_con t).1) ((f9_l35_con t).2.1) ((f9_l35_con t).2.2.1) ((f9_l35_con t).2.2.2.1) ((f9_l35_con t).2.2.2.2.1) ((f9_l35_con t).2.2.2.2.2.1) ((f9_l35_con t).2.2.2.2.2.2.1) ((f9_l35_con t).2.2.2.2.2.2.2.1) ((f9_l35_con t).2.2.2.2.2.2.2.2.1) ((f9_l35_con t).2.2.2.2.2.2.2.2.2.1) (f9_l35_get t), out := fun t y => f9_l35_out (f9_l35_con t) y, disp := fun t y K => (Sum.elim (fun y => K .ret (f9_l35_o0.fill (f9_l35_w0 (f9_l35_con t) y))) (fun y => K (.exit 8) (f9_l35_o1.fill (f9_l35_w1 (f9_l35_con t) y)))) y }
noncomputable def f9_l32_sk : SkS := ⟨82, [(1, .con (.int .i64)), (2, .ptr 64 []), (4, .ptr 144 []), (0, .ref 832 []), (6, .con (.int .i64)), (96, .con (.slc Qt3)), (0, .con (.int .i64)), (0, .con (.int .i64))], [(64, ⟨some 38, Qt5, Qt6, none⟩), (144, ⟨some 38, Qt5, Qt6, none⟩), (832, ⟨none, (.mp .str (.int .i64)), (.own (.own .ro)), none⟩)]⟩
noncomputable def f9_l32_o0 : SkS := ⟨193, [(4, .ptr 64 []), (0, .con (.int .i64))], [(64, ⟨some 38, Qt5, Qt6, none⟩)]⟩
noncomputable def f9_l32_o1 : SkS := ⟨189, [(4, .ptr 64 []), (4, .ptr 144 [])], [(64, ⟨some 38, Qt5, Qt6, none⟩), (144, ⟨some 38, Qt5, Qt6, none⟩)]⟩
noncomputable def f9_l32_outs : List Way := [⟨.ret, [], f9_l32_o0⟩, ⟨(.exit 6), [], f9_l32_o1⟩]
abbrev f9_l32_C := (Int × List Qv0 × Int × Qv2 × List (ByteArray × Int) × (Option Nat) × (Option Nat))
abbrev f9_l32_X := (Int × Int × Qv2)
abbrev f9_l32_Y := ((Int × Qv2)) ⊕ (Qv2)
noncomputable def f9_l32_con (t : f9_l32_sk.T) : f9_l32_C := (t.1.1, t.1.2.2.1, t.1.2.2.2.1, t.2.1.1, t.2.2.2.1.1, t.2.1.2, t.2.2.1.2)
noncomputable def f9_l32_get (t : f9_l32_sk.T) : f9_l32_X := (t.1.2.1, t.1.2.2.2.2.1, t.2.2.1.1)
noncomputable def f9_l32_put (c : f9_l32_C) (x : f9_l32_X) : f9_l32_sk.T := ((c.1, (x.1, (c.2.1, (c.2.2.1, (x.2.1, ()))))), ((c.2.2.2.1, c.2.2.2.2.2.1), ((x.2.2, c.2.2.2.2.2.2), ((c.2.2.2.2.1, ()), ()))))
theorem f9_l32_pg (t : f9_l32_sk.T) : f9_l32_put (f9_l32_con t) (f9_l32_get t) = t := by kernel_rfl
noncomputable def f9_l32_w0 (c : f9_l32_C) (y : (Int × Qv2)) : f9_l32_o0.T := ((y.1, ()), ((y.2, c.2.2.2.2.2.1), ()))
noncomputable def f9_l32_w1 (c : f9_l32_C) (y : Qv2) : f9_l32_o1.T := ((), ((c.2.2.2.1, c.2.2.2.2.2.1), ((y, c.2.2.2.2.2.2), ())))
noncomputable def f9_l32_out (c : f9_l32_C) (y : f9_l32_Y) : OutV f9_l32_outs := (Sum.elim (fun y => (.inl (f9_l32_w0 c y))) (fun y => (.inr (.inl (f9_l32_w1 c y))))) y
noncomputable def f9_l32_k {R : Type} (a0 : Int) (a1 : Int) (a2 : List Qv0) (a3 : Int) (a4 : Int) (a5 : Qv2) (a6 : Qv2) (a7 : List (ByteArray × Int)) (kin : f9_l32_X → Option R) (k0 : (Int × Qv2) → Option R) (k1 : Qv2 → Option R) : Option R :=
 (cond (decide (a4 < a3))
 (if (0 : Int) ≤ a4 ∧ a4 < ((List.length a2 : Nat) : Int) then ((f9_l35 a0 a1 a2 a3 a4 (List.getD a2 (Int.toNat a4) (ByteArray.empty, (([] : List Int), (([] : List Qv1), (([] : List (Int × (Int × Qv1))), ()))))).2.2.2.1 ((List.length (List.getD a2 (Int.toNat a4) (ByteArray.empty, (([] : List Int), (([] : List Qv1), (([] : List (Int × (Int × Qv1))), ()))))).2.2.2.1 : Nat) : Int) a5 (List.getD a2 (Int.toNat a4) (ByteArray.empty, (([] : List Int), (([] : List Qv1), (([] : List (Int × (Int × Qv1))), ()))))) a7 ((0 : Int), a6)).bind fun y36 =>
  ((Sum.elim (fun z37 =>
  (k0 (z37.1, z37.2)))
  (fun z38 =>
  (let v39 : Int := (IntKind.i64.wrap (a1 + ((List.length (List.getD a2 (Int.toNat a4) (ByteArray.empty, (([] : List Int), (([] : List Qv1), (([] : List (Int × (Int × Qv1))), ()))))).2.1 : Nat) : Int)))
   (let v40 : Int := (IntKind.i64.wrap (a4 + (1 : Int)))
   (kin (v39, v40, z38)))))) y36)) else none)
 (k1 a6))
noncomputable def f9_l32_g (a0 : Int) (a2 : List Qv0) (a3 : Int) (a5 : Qv2) (a7 : List (ByteArray × Int)) (x : f9_l32_X) : Option (f9_l32_X ⊕ f9_l32_Y) := f9_l32_k a0 x.1 a2 a3 x.2.1 a5 x.2.2 a7 (fun x => some (.inl x)) (fun y => some (.inr (.inl y))) (fun y => some (.inr (.inr y)))
noncomputable def f9_l32 (a0 : Int) (a2 : List Qv0) (a3 : Int) (a5 : Qv2) (a7 : List (ByteArray × Int)) (x : f9_l32_X) : Option f9_l32_Y := loopO (f9_l32_g a0 a2 a3 a5 a7) x
noncomputable def f9_l32_nd : Node := { nils := [], sk := f9_l32_sk, outs := f9_l32_outs, Y := f9_l32_Y, L := fun t => f9_l32 ((f9_l32_con t).1) ((f9_l32_con t).2.1) ((f9_l32_con t).2.2.1) ((f9_l32_con t).2.2.2.1) ((f9_l32_con t).2.2.2.2.1) (f9_l32_get t), out := fun t y => f9_l32_out (f9_l32_con t) y, disp := fun t y K => (Sum.elim (fun y => K .ret (f9_l32_o0.fill (f9_l32_w0 (f9_l32_con t) y))) (fun y => K (.exit 6) (f9_l32_o1.fill (f9_l32_w1 (f9_l32_con t) y)))) y }
noncomputable def f9_fx : Fx := { E := env, T := [(6, f6_sm)], H := [(173, .ro), (185, .ro)], O := [], nodes := [((true, 6), f9_l6_nd), ((true, 18), f9_l18_nd), ((true, 15), f9_l15_nd), ((false, 48), f9_t48_nd), ((true, 35), f9_l35_nd), ((true, 32), f9_l32_nd)] }
noncomputable def f9_l6_b : Code := (loops f9_code).getD 0 .skip
theorem f9_l6_r (c : f9_l6_C) (x : f9_l6_X) : roundS f9_fx f9_l6_b f9_l6_nd (f9_l6_put c x) = f9_l6_k c.1 c.2.1 c.2.2.1 c.2.2.2.1 x c.2.2.2.2.1 (fun x => some (.inl (f9_l6_put c x))) (fun y => some (.inr (.inl (f9_l6_w0 c y)))) (fun y => some (.inr (.inr (.inl (f9_l6_w1 c y))))) := by kernel_rfl
theorem f9_l6_n {R : Type} (a0 : List Qv0) (a1 : Int) (a2 : List Qv0) (a3 : Int) (a4 : Int) (a5 : Qv2) (kin : f9_l6_X → Option R) (k0 : (Int × Qv2) → Option R) (k1 : Unit → Option R) : f9_l6_k a0 a1 a2 a3 a4 a5 kin k0 k1 = (f9_l6_g a0 a1 a2 a3 a5 a4).bind (Sum.elim kin (Sum.elim k0 k1)) := by
  simp only [f9_l6_g, f9_l6_k, cond_bind, ite_bind, bind_bind, some_bind, none_bind, elim_bind, whenS_bind, Sum.elim_inl, Sum.elim_inr]
theorem f9_l6_ok : LoopOk f9_fx f9_l6_b f9_l6_nd := loop_ok f9_l6_con f9_l6_get f9_l6_put f9_l6_pg (fun c => f9_l6_g c.1 c.2.1 c.2.2.1 c.2.2.2.1 c.2.2.2.2.1) f9_l6_out (fun t y => rfl) (by intro R t y K; rcases y with y | y <;> rfl) (fun c x => by
  refine (f9_l6_r c x).trans ((f9_l6_n _ _ _ _ _ _ _ _ _).trans ?_)
  first
  | rfl
  | congr 1
    funext s
    rcases s with s | s | s <;> rfl) (fun t => rfl)
noncomputable def f9_l18_b : Code := (loops f9_code).getD 2 .skip
theorem f9_l18_r (c : f9_l18_C) (x : f9_l18_X) : roundS f9_fx f9_l18_b f9_l18_nd (f9_l18_put c x) = f9_l18_k c.1 c.2.1 c.2.2.1 c.2.2.2.1 c.2.2.2.2.1 c.2.2.2.2.2.1 c.2.2.2.2.2.2.1 x.1 c.2.2.2.2.2.2.2.1 x.2.1 c.2.2.2.2.2.2.2.2.1 x.2.2 (fun x => some (.inl (f9_l18_put c x))) (fun y => some (.inr (.inl (f9_l18_w0 c y)))) (fun y => some (.inr (.inr (.inl (f9_l18_w1 c y))))) := by kernel_rfl
theorem f9_l18_n {R : Type} (a0 : List Qv0) (a1 : Int) (a2 : List Qv0) (a3 : Int) (a4 : Int) (a5 : List Qv1) (a6 : Int) (a7 : Int) (a8 : Qv2) (a9 : Qv2) (a10 : Qv0) (a11 : List (ByteArray × Int)) (kin : f9_l18_X → Option R) (k0 : Qv2 → Option R) (k1 : (Qv2 × List (ByteArray × Int)) → Option R) : f9_l18_k a0 a1 a2 a3 a4 a5 a6 a7 a8 a9 a10 a11 kin k0 k1 = (f9_l18_g a0 a1 a2 a3 a4 a5 a6 a8 a10 (a7, a9, a11)).bind (Sum.elim kin (Sum.elim k0 k1)) := by
  simp only [f9_l18_g, f9_l18_k, cond_bind, ite_bind, bind_bind, some_bind, none_bind, elim_bind, whenS_bind, Sum.elim_inl, Sum.elim_inr]
theorem f9_l18_ok : LoopOk f9_fx f9_l18_b f9_l18_nd := loop_ok f9_l18_con f9_l18_get f9_l18_put f9_l18_pg (fun c => f9_l18_g c.1 c.2.1 c.2.2.1 c.2.2.2.1 c.2.2.2.2.1 c.2.2.2.2.2.1 c.2.2.2.2.2.2.1 c.2.2.2.2.2.2.2.1 c.2.2.2.2.2.2.2.2.1) f9_l18_out (fun t y => rfl) (by intro R t y K; rcases y with y | y <;> rfl) (fun c x => by
  refine (f9_l18_r c x).trans ((f9_l18_n _ _ _ _ _ _ _ _ _ _ _ _ _ _ _).trans ?_)
  first
  | rfl
  | congr 1
    funext s
    rcases s with s | s | s <;> rfl) (fun t => rfl)
noncomputable def f9_l15_b : Code := (loops f9_code).getD 1 .skip
theorem f9_l15_r (c : f9_l15_C) (x : f9_l15_X) : roundS f9_fx f9_l15_b f9_l15_nd (f9_l15_put c x) = f9_l15_k c.1 c.2.1 c.2.2.1 c.2.2.2.1 x.1 c.2.2.2.2.1 x.2.1 x.2.2 (fun x => some (.inl (f9_l15_put c x))) (fun y => some (.inr (.inl (f9_l15_w0 c y)))) (fun y => some (.inr (.inr (.inl (f9_l15_w1 c y))))) := by kernel_rfl
theorem f9_l15_n {R : Type} (a0 : List Qv0) (a1 : Int) (a2 : List Qv0) (a3 : Int) (a4 : Int) (a5 : Qv2) (a6 : Qv2) (a7 : List (ByteArray × Int)) (kin : f9_l15_X → Option R) (k0 : Qv2 → Option R) (k1 : (Qv2 × List (ByteArray × Int)) → Option R) : f9_l15_k a0 a1 a2 a3 a4 a5 a6 a7 kin k0 k1 = (f9_l15_g a0 a1 a2 a3 a5 (a4, a6, a7)).bind (Sum.elim kin (Sum.elim k0 k1)) := by
  simp only [f9_l15_g, f9_l15_k, cond_bind, ite_bind, bind_bind, some_bind, none_bind, elim_bind, whenS_bind, Sum.elim_inl, Sum.elim_inr]
theorem f9_l15_ok : LoopOk f9_fx f9_l15_b f9_l15_nd := loop_ok f9_l15_con f9_l15_get f9_l15_put f9_l15_pg (fun c => f9_l15_g c.1 c.2.1 c.2.2.1 c.2.2.2.1 c.2.2.2.2.1) f9_l15_out (fun t y => rfl) (by intro R t y K; rcases y with y | y <;> rfl) (fun c x => by
  refine (f9_l15_r c x).trans ((f9_l15_n _ _ _ _ _ _ _ _ _ _ _).trans ?_)
  first
  | rfl
  | congr 1
    funext s
    rcases s with s | s | s <;> rfl) (fun t => rfl)
noncomputable def f9_t48_b : Code := (tails f9_code).getD 57 .skip
theorem f9_t48_r (c : f9_t48_C) (x : f9_t48_X) : tailS f9_fx f9_t48_b f9_t48_nd (f9_t48_put c x) = f9_t48_k x.1 x.2.1 x.2.2.1 x.2.2.2.1 x.2.2.2.2.1 x.2.2.2.2.2.1 x.2.2.2.2.2.2.1 x.2.2.2.2.2.2.2.1 x.2.2.2.2.2.2.2.2.1 x.2.2.2.2.2.2.2.2.2.1 x.2.2.2.2.2.2.2.2.2.2.1 x.2.2.2.2.2.2.2.2.2.2.2.1 x.2.2.2.2.2.2.2.2.2.2.2.2.1 x.2.2.2.2.2.2.2.2.2.2.2.2.2.1 x.2.2.2.2.2.2.2.2.2.2.2.2.2.2 (fun y => some (.inl (f9_t48_w0 c x y))) := by kernel_rfl
theorem f9_t48_n {R : Type} (a0 : Int) (a1 : Int) (a2 : Int) (a3 : Int) (a4 : List Qv0) (a5 : Int) (a6 : Int) (a7 : List (Int × (Int × Qv1))) (a8 : Int) (a9 : Int) (a10 : Qv2) (a11 : Qv2) (a12 : Qv0) (a13 : (Int × (Int × Qv1))) (a14 : List (ByteArray × Int)) (k0 : Qv2 → Option R) : f9_t48_k a0 a1 a2 a3 a4 a5 a6 a7 a8 a9 a10 a11 a12 a13 a14 k0 = (f9_t48 a0 a1 a2 a3 a4 a5 a6 a7 a8 a9 a10 a11 a12 a13 a14).bind k0 := by
  simp only [f9_t48, f9_t48_k, cond_bind, ite_bind, bind_bind, some_bind, none_bind, elim_bind, whenS_bind, Sum.elim_inl, Sum.elim_inr]
theorem f9_t48_ok : TailOk f9_fx f9_t48_b f9_t48_nd := tail_ok f9_t48_con f9_t48_get f9_t48_put f9_t48_pg (fun x => f9_t48 x.1 x.2.1 x.2.2.1 x.2.2.2.1 x.2.2.2.2.1 x.2.2.2.2.2.1 x.2.2.2.2.2.2.1 x.2.2.2.2.2.2.2.1 x.2.2.2.2.2.2.2.2.1 x.2.2.2.2.2.2.2.2.2.1 x.2.2.2.2.2.2.2.2.2.2.1 x.2.2.2.2.2.2.2.2.2.2.2.1 x.2.2.2.2.2.2.2.2.2.2.2.2.1 x.2.2.2.2.2.2.2.2.2.2.2.2.2.1 x.2.2.2.2.2.2.2.2.2.2.2.2.2.2) f9_t48_out (fun t y => rfl) (fun t y K => rfl) (fun c x => by
  refine (f9_t48_r c x).trans ((f9_t48_n _ _ _ _ _ _ _ _ _ _ _ _ _ _ _ _).trans ?_)
  first
  | rfl
  | congr 1
    funext s
    rfl) (fun t => rfl)
noncomputable def f9_l35_b : Code := (loops f9_code).getD 4 .skip
theorem f9_l35_r (c : f9_l35_C) (x : f9_l35_X) : roundS f9_fx f9_l35_b f9_l35_nd (f9_l35_put c x) = f9_l35_k c.1 c.2.1 c.2.2.1 c.2.2.2.1 c.2.2.2.2.1 c.2.2.2.2.2.1 c.2.2.2.2.2.2.1 x.1 c.2.2.2.2.2.2.2.1 x.2 c.2.2.2.2.2.2.2.2.1 c.2.2.2.2.2.2.2.2.2.1 (fun x => some (.inl (f9_l35_put c x))) (fun y => some (.inr (.inl (f9_l35_w0 c y)))) (fun y => some (.inr (.inr (.inl (f9_l35_w1 c y))))) := by kernel_rfl
theorem f9_l35_n {R : Type} (a0 : Int) (a1 : Int) (a2 : List Qv0) (a3 : Int) (a4 : Int) (a5 : List (Int × (Int × Qv1))) (a6 : Int) (a7 : Int) (a8 : Qv2) (a9 : Qv2) (a10 : Qv0) (a11 : List (ByteArray × Int)) (kin : f9_l35_X → Option R) (k0 : (Int × Qv2) → Option R) (k1 : Qv2 → Option R) : f9_l35_k a0 a1 a2 a3 a4 a5 a6 a7 a8 a9 a10 a11 kin k0 k1 = (f9_l35_g a0 a1 a2 a3 a4 a5 a6 a8 a10 a11 (a7, a9)).bind (Sum.elim kin (Sum.elim k0 k1)) := by
  simp only [f9_l35_g, f9_l35_k, cond_bind, ite_bind, bind_bind, some_bind, none_bind, elim_bind, whenS_bind, Sum.elim_inl, Sum.elim_inr]
theorem f9_l35_ok : LoopOk f9_fx f9_l35_b f9_l35_nd := loop_ok f9_l35_con f9_l35_get f9_l35_put f9_l35_pg (fun c => f9_l35_g c.1 c.2.1 c.2.2.1 c.2.2.2.1 c.2.2.2.2.1 c.2.2.2.2.2.1 c.2.2.2.2.2.2.1 c.2.2.2.2.2.2.2.1 c.2.2.2.2.2.2.2.2.1 c.2.2.2.2.2.2.2.2.2.1) f9_l35_out (fun t y => rfl) (by intro R t y K; rcases y with y | y <;> rfl) (fun c x => by
  refine (f9_l35_r c x).trans ((f9_l35_n _ _ _ _ _ _ _ _ _ _ _ _ _ _ _).trans ?_)
  first
  | rfl
  | congr 1
    funext s
    rcases s with s | s | s <;> rfl) (fun t => rfl)
noncomputable def f9_l32_b : Code := (loops f9_code).getD 3 .skip
theorem f9_l32_r (c : f9_l32_C) (x : f9_l32_X) : roundS f9_fx f9_l32_b f9_l32_nd (f9_l32_put c x) = f9_l32_k c.1 x.1 c.2.1 c.2.2.1 x.2.1 c.2.2.2.1 x.2.2 c.2.2.2.2.1 (fun x => some (.inl (f9_l32_put c x))) (fun y => some (.inr (.inl (f9_l32_w0 c y)))) (fun y => some (.inr (.inr (.inl (f9_l32_w1 c y))))) := by kernel_rfl
theorem f9_l32_n {R : Type} (a0 : Int) (a1 : Int) (a2 : List Qv0) (a3 : Int) (a4 : Int) (a5 : Qv2) (a6 : Qv2) (a7 : List (ByteArray × Int)) (kin : f9_l32_X → Option R) (k0 : (Int × Qv2) → Option R) (k1 : Qv2 → Option R) : f9_l32_k a0 a1 a2 a3 a4 a5 a6 a7 kin k0 k1 = (f9_l32_g a0 a2 a3 a5 a7 (a1, a4, a6)).bind (Sum.elim kin (Sum.elim k0 k1)) := by
  simp only [f9_l32_g, f9_l32_k, cond_bind, ite_bind, bind_bind, some_bind, none_bind, elim_bind, whenS_bind, Sum.elim_inl, Sum.elim_inr]
theorem f9_l32_ok : LoopOk f9_fx f9_l32_b f9_l32_nd := loop_ok f9_l32_con f9_l32_get f9_l32_put f9_l32_pg (fun c => f9_l32_g c.1 c.2.1 c.2.2.1 c.2.2.2.1 c.2.2.2.2.1) f9_l32_out (fun t y => rfl) (by intro R t y K; rcases y with y | y <;> rfl) (fun c x => by
  refine (f9_l32_r c x).trans ((f9_l32_n _ _ _ _ _ _ _ _ _ _ _).trans ?_)
  first
  | rfl
  | congr 1
    funext s
    rcases s with s | s | s <;> rfl) (fun t => rfl)
noncomputable def f9_k {R : Type} (a0 : List Qv0) (a1 : Int) (k : (Qv2 × Int × Unit) × (Unit) → Option R) : Option R :=
 (cond (decide (a1 < (0 : Int)))
 (k ((((0 : Int), ([], ([], ()))), ((1 : Int), ())), ()))
 (cond (decide (a1 > (65535 : Int)))
  (k ((((0 : Int), ([], ([], ()))), ((1 : Int), ())), ()))
  (cond (decide (((List.length a0 : Nat) : Int) > (16 : Int)))
   (k ((((0 : Int), ([], ([], ()))), ((2 : Int), ())), ()))
   ((f9_l6 a0 a1 a0 ((List.length a0 : Nat) : Int) ((0 : Int), (([] : List Int), (([] : List Qv1), ()))) (0 : Int)).bind fun y2 =>
    ((Sum.elim (fun z3 =>
    (k ((z3.2, (z3.1, ())), ())))
    (fun z4 =>
    ((f9_l15 a0 a1 a0 ((List.length a0 : Nat) : Int) ((0 : Int), (([] : List Int), (([] : List Qv1), ()))) ((0 : Int), (a1, ([], ([], ()))), ([] : List (ByteArray × Int)))).bind fun y18 =>
     ((Sum.elim (fun z19 =>
     (k ((z19, ((5 : Int), ())), ())))
     (fun z20 =>
     (let v21 : Int := (IntKind.i64.wrap (a1 + ((List.length z20.1.2.1 : Nat) : Int)))
      (let v22 : Int := (IntKind.i64.wrap (v21 - (1 : Int)))
      (cond (decide (v22 > (65535 : Int)))
      (k ((((0 : Int), ([], ([], ()))), ((19 : Int), ())), ()))
      ((f9_l32 a1 a0 ((List.length a0 : Nat) : Int) ((0 : Int), (([] : List Int), (([] : List Qv1), ()))) z20.2 ((0 : Int), (0 : Int), z20.1)).bind fun y41 =>
       ((Sum.elim (fun z42 =>
       (k ((z42.2, (z42.1, ())), ())))
       (fun z43 =>
       (k ((z43, ((0 : Int), ())), ())))) y41))))))) y18)))) y2)))))
noncomputable def f9 (a0 : List Qv0) (a1 : Int) : Option ((Qv2 × Int × Unit) × (Unit)) := f9_k a0 a1 some
noncomputable def f9_sm : Sm := { ps := [.ro (.slc Qt3), .ro (.int .i64)], rs := [(Qt5, Qt6), ((.int .i64), .ro)], F := fun x => f9 x.1 x.2.1 }
theorem f9_m (x : ArgT [.ro (.slc Qt3), .ro (.int .i64)]) : codeS f9_fx f9_code (start [.ro (.slc Qt3), .ro (.int .i64)] [] x 199) (finK env [.cell 4 38, .tmp 5] [.ro (.slc Qt3), .ro (.int .i64)] [(Qt5, Qt6), ((.int .i64), .ro)]) = f9_k x.1 x.2.1 (fun r => some (r, [])) := by kernel_rfl
theorem f9_n {R : Type} (a0 : List Qv0) (a1 : Int) (k : (Qv2 × Int × Unit) × (Unit) → Option R) : f9_k a0 a1 k = (f9 a0 a1).bind k := by
  simp only [f9, f9_k, cond_bind, ite_bind, bind_bind, some_bind, none_bind, elim_bind, whenS_bind]
theorem f9_ok : SmOk Tryd.prog 9 f9_sm :=
  sum_of (c := f9_fx) (fn := Tryd.f9) (code := f9_code) (sm := f9_sm) mixed (env_ok env_envB) (TabsOk.all ⟨f6_c, trivial⟩) Tryd.func9 (by kernel_rfl)
   ((LoopsOk.of (l := [f9_l6_b, f9_l15_b, f9_l18_b, f9_l32_b, f9_l35_b]) (by kernel_rfl) ⟨node_is (by kernel_rfl) f9_l6_ok, node_is (by kernel_rfl) f9_l15_ok, node_is (by kernel_rfl) f9_l18_ok, node_is (by kernel_rfl) f9_l32_ok, node_is (by kernel_rfl) f9_l35_ok, trivial⟩))
   ((TailsOk.of (l := [((tails f9_code).getD 0 .skip), ((tails f9_code).getD 1 .skip), ((tails f9_code).getD 2 .skip), ((tails f9_code).getD 3 .skip), ((tails f9_code).getD 4 .skip), ((tails f9_code).getD 5 .skip), ((tails f9_code).getD 6 .skip), ((tails f9_code).getD 7 .skip), ((tails f9_code).getD 8 .skip), ((tails f9_code).getD 9 .skip), ((tails f9_code).getD 10 .skip), ((tails f9_code).getD 11 .skip), ((tails f9_code).getD 12 .skip), ((tails f9_code).getD 13 .skip), ((tails f9_code).getD 14 .skip), ((tails f9_code).getD 15 .skip), ((tails f9_code).getD 16 .skip), ((tails f9_code).getD 17 .skip), ((tails f9_code).getD 18 .skip), ((tails f9_code).getD 19 .skip), ((tails f9_code).getD 20 .skip), ((tails f9_code).getD 21 .skip), ((tails f9_code).getD 22 .skip), ((tails f9_code).getD 23 .skip), ((tails f9_code).getD 24 .skip), ((tails f9_code).getD 25 .skip), ((tails f9_code).getD 26 .skip), ((tails f9_code).getD 27 .skip), ((tails f9_code).getD 28 .skip), ((tails f9_code).getD 29 .skip), ((tails f9_code).getD 30 .skip), ((tails f9_code).getD 31 .skip), ((tails f9_code).getD 32 .skip), ((tails f9_code).getD 33 .skip), ((tails f9_code).getD 34 .skip), ((tails f9_code).getD 35 .skip), ((tails f9_code).getD 36 .skip), ((tails f9_code).getD 37 .skip), ((tails f9_code).getD 38 .skip), ((tails f9_code).getD 39 .skip), ((tails f9_code).getD 40 .skip), ((tails f9_code).getD 41 .skip), ((tails f9_code).getD 42 .skip), ((tails f9_code).getD 43 .skip), ((tails f9_code).getD 44 .skip), ((tails f9_code).getD 45 .skip), ((tails f9_code).getD 46 .skip), ((tails f9_code).getD 47 .skip), ((tails f9_code).getD 48 .skip), ((tails f9_code).getD 49 .skip), ((tails f9_code).getD 50 .skip), ((tails f9_code).getD 51 .skip), ((tails f9_code).getD 52 .skip), ((tails f9_code).getD 53 .skip), ((tails f9_code).getD 54 .skip), ((tails f9_code).getD 55 .skip), ((tails f9_code).getD 56 .skip), f9_t48_b, ((tails f9_code).getD 58 .skip), ((tails f9_code).getD 59 .skip), ((tails f9_code).getD 60 .skip), ((tails f9_code).getD 61 .skip), ((tails f9_code).getD 62 .skip), ((tails f9_code).getD 63 .skip), ((tails f9_code).getD 64 .skip), ((tails f9_code).getD 65 .skip)]) (by kernel_rfl) ⟨node_no (by kernel_rfl), node_no (by kernel_rfl), node_no (by kernel_rfl), node_no (by kernel_rfl), node_no (by kernel_rfl), node_no (by kernel_rfl), node_no (by kernel_rfl), node_no (by kernel_rfl), node_no (by kernel_rfl), node_no (by kernel_rfl), node_no (by kernel_rfl), node_no (by kernel_rfl), node_no (by kernel_rfl), node_no (by kernel_rfl), node_no (by kernel_rfl), node_no (by kernel_rfl), node_no (by kernel_rfl), node_no (by kernel_rfl), node_no (by kernel_rfl), node_no (by kernel_rfl), node_no (by kernel_rfl), node_no (by kernel_rfl), node_no (by kernel_rfl), node_no (by kernel_rfl), node_no (by kernel_rfl), node_no (by kernel_rfl), node_no (by kernel_rfl), node_no (by kernel_rfl), node_no (by kernel_rfl), node_no (by kernel_rfl), node_no (by kernel_rfl), node_no (by kernel_rfl), node_no (by kernel_rfl), node_no (by kernel_rfl), node_no (by kernel_rfl), node_no (by kernel_rfl), node_no (by kernel_rfl), node_no (by kernel_rfl), node_no (by kernel_rfl), node_no (by kernel_rfl), node_no (by kernel_rfl), node_no (by kernel_rfl), node_no (by kernel_rfl), node_no (by kernel_rfl), node_no (by kernel_rfl), node_no (by kernel_rfl), node_no (by kernel_rfl), node_no (by kernel_rfl), node_no (by kernel_rfl), node_no (by kernel_rfl), node_no (by kernel_rfl), node_no (by kernel_rfl), node_no (by kernel_rfl), node_no (by kernel_rfl), node_no (by kernel_rfl), node_no (by kernel_rfl), node_no (by kernel_rfl), node_is (by kernel_rfl) f9_t48_ok, node_no (by kernel_rfl), node_no (by kernel_rfl), node_no (by kernel_rfl), node_no (by kernel_rfl), node_no (by kernel_rfl), node_no (by kernel_rfl), node_no (by kernel_rfl), node_no (by kernel_rfl), trivial⟩)) rfl
   (fun ks x hl => by
    have hk : ks = [] := List.length_eq_zero_iff.1 hl
    subst hk
    exact (f9_m x).trans (f9_n _ _ _))
theorem f9_c : CalOk Tryd.prog 9 f9_sm := .inl ⟨f9_ok, ⟨Tryd.f9, Tryd.func9, by kernel_rfl, by kernel_rfl⟩⟩
noncomputable def f24_code : Code := (Tryd.f24.body).getD .skip
noncomputable def f24_l4_sk : SkS := ⟨12, [(0, .con (.slc (.int .u8))), (0, .con (.slc (.int .u8))), (10, .con (.int .i64)), (0, .con (.int .i64))], []⟩
noncomputable def f24_l4_o0 : SkS := ⟨21, [(4, .con .bool)], []⟩
noncomputable def f24_l4_o1 : SkS := ⟨26, [], []⟩
noncomputable def f24_l4_outs : List Way := [⟨.ret, [], f24_l4_o0⟩, ⟨(.exit 0), [], f24_l4_o1⟩]
abbrev f24_l4_C := (List Int × List Int × Int)
abbrev f24_l4_X := Int
abbrev f24_l4_Y := (Unit) ⊕ (Unit)
noncomputable def f24_l4_con (t : f24_l4_sk.T) : f24_l4_C := (t.1.1, t.1.2.1, t.1.2.2.1)
noncomputable def f24_l4_get (t : f24_l4_sk.T) : f24_l4_X := t.1.2.2.2.1
noncomputable def f24_l4_put (c : f24_l4_C) (x : f24_l4_X) : f24_l4_sk.T := ((c.1, (c.2.1, (c.2.2, (x, ())))), ())
theorem f24_l4_pg (t : f24_l4_sk.T) : f24_l4_put (f24_l4_con t) (f24_l4_get t) = t := by kernel_rfl
noncomputable def f24_l4_w0 (c : f24_l4_C) (y : Unit) : f24_l4_o0.T := ((false, ()), ())
noncomputable def f24_l4_w1 (c : f24_l4_C) (y : Unit) : f24_l4_o1.T := ((), ())
noncomputable def f24_l4_out (c : f24_l4_C) (y : f24_l4_Y) : OutV f24_l4_outs := (Sum.elim (fun y => (.inl (f24_l4_w0 c y))) (fun y => (.inr (.inl (f24_l4_w1 c y))))) y
noncomputable def f24_l4_k {R : Type} (a0 : List Int) (a1 : List Int) (a2 : Int) (a3 : Int) (kin : f24_l4_X → Option R) (k0 : Unit → Option R) (k1 : Unit → Option R) : Option R :=
 (cond (decide (a3 < a2))
 (if (0 : Int) ≤ a3 ∧ a3 < ((List.length a0 : Nat) : Int) then (if (0 : Int) ≤ a3 ∧ a3 < ((List.length a1 : Nat) : Int) then (cond ((List.getD a0 (Int.toNat a3) (0 : Int)) != (List.getD a1 (Int.toNat a3) (0 : Int)))
  (k0 ())
  (let v0 : Int := (IntKind.i64.wrap (a3 + (1 : Int)))
   (kin v0))) else none) else none)
 (k1 ()))
noncomputable def f24_l4_g (a0 : List Int) (a1 : List Int) (a2 : Int) (x : f24_l4_X) : Option (f24_l4_X ⊕ f24_l4_Y) := f24_l4_k a0 a1 a2 x (fun x => some (.inl x)) (fun y => some (.inr (.inl y))) (fun y => some (.inr (.inr y)))
noncomputable def f24_l4 (a0 : List Int) (a1 : List Int) (a2 : Int) (x : f24_l4_X) : Option f24_l4_Y := loopO (f24_l4_g a0 a1 a2) x
noncomputable def f24_l4_nd : Node := { nils := [], sk := f24_l4_sk, outs := f24_l4_outs, Y := f24_l4_Y, L := fun t => f24_l4 ((f24_l4_con t).1) ((f24_l4_con t).2.1) ((f24_l4_con t).2.2) (f24_l4_get t), out := fun t y => f24_l4_out (f24_l4_con t) y, disp := fun t y K => (Sum.elim (fun y => K .ret (f24_l4_o0.fill (f24_l4_w0 (f24_l4_con t) y))) (fun y => K (.exit 0) (f24_l4_o1.fill (f24_l4_w1 (f24_l4_con t) y)))) y }
noncomputable def f24_fx : Fx := { E := env, T := [], H := [], O := [], nodes := [((true, 4), f24_l4_nd)] }
noncomputable def f24_l4_b : Code := (loops f24_code).getD 0 .skip
theorem f24_l4_r (c : f24_l4_C) (x : f24_l4_X) : roundS f24_fx f24_l4_b f24_l4_nd (f24_l4_put c x) = f24_l4_k c.1 c.2.1 c.2.2 x (fun x => some (.inl (f24_l4_put c x))) (fun y => some (.inr (.inl (f24_l4_w0 c y)))) (fun y => some (.inr (.inr (.inl (f24_l4_w1 c y))))) := by kernel_rfl
theorem f24_l4_n {R : Type} (a0 : List Int) (a1 : List Int) (a2 : Int) (a3 : Int) (kin : f24_l4_X → Option R) (k0 : Unit → Option R) (k1 : Unit → Option R) : f24_l4_k a0 a1 a2 a3 kin k0 k1 = (f24_l4_g a0 a1 a2 a3).bind (Sum.elim kin (Sum.elim k0 k1)) := by
  simp only [f24_l4_g, f24_l4_k, cond_bind, ite_bind, bind_bind, some_bind, none_bind, elim_bind, whenS_bind, Sum.elim_inl, Sum.elim_inr]
theorem f24_l4_ok : LoopOk f24_fx f24_l4_b f24_l4_nd := loop_ok f24_l4_con f24_l4_get f24_l4_put f24_l4_pg (fun c => f24_l4_g c.1 c.2.1 c.2.2) f24_l4_out (fun t y => rfl) (by intro R t y K; rcases y with y | y <;> rfl) (fun c x => by
  refine (f24_l4_r c x).trans ((f24_l4_n _ _ _ _ _ _ _).trans ?_)
  first
  | rfl
  | congr 1
    funext s
    rcases s with s | s | s <;> rfl) (fun t => rfl)
noncomputable def f24_k {R : Type} (a0 : List Int) (a1 : List Int) (k : (Bool × Unit) × (Unit) → Option R) : Option R :=
 (cond (((List.length a0 : Nat) : Int) != ((List.length a1 : Nat) : Int))
 (k ((false, ()), ()))
 ((f24_l4 a0 a1 ((List.length a0 : Nat) : Int) (0 : Int)).bind fun y1 =>
  ((Sum.elim (fun z2 =>
  (k ((false, ()), ())))
  (fun z3 =>
  (k ((true, ()), ())))) y1)))
noncomputable def f24 (a0 : List Int) (a1 : List Int) : Option ((Bool × Unit) × (Unit)) := f24_k a0 a1 some
noncomputable def f24_sm : Sm := { ps := [.ro (.slc (.int .u8)), .ro (.slc (.int .u8))], rs := [(.bool, .ro)], F := fun x => f24 x.1 x.2.1 }
theorem f24_m (x : ArgT [.ro (.slc (.int .u8)), .ro (.slc (.int .u8))]) : codeS f24_fx f24_code (start [.ro (.slc (.int .u8)), .ro (.slc (.int .u8))] [] x 26) (finK env [.tmp 4] [.ro (.slc (.int .u8)), .ro (.slc (.int .u8))] [(.bool, .ro)]) = f24_k x.1 x.2.1 (fun r => some (r, [])) := by kernel_rfl
theorem f24_n {R : Type} (a0 : List Int) (a1 : List Int) (k : (Bool × Unit) × (Unit) → Option R) : f24_k a0 a1 k = (f24 a0 a1).bind k := by
  simp only [f24, f24_k, cond_bind, ite_bind, bind_bind, some_bind, none_bind, elim_bind, whenS_bind]
theorem f24_ok : SmOk Tryd.prog 24 f24_sm :=
  sum_of (c := f24_fx) (fn := Tryd.f24) (code := f24_code) (sm := f24_sm) mixed (env_ok env_envB) (TabsOk.all trivial) Tryd.func24 (by kernel_rfl)
   ((LoopsOk.of (l := [f24_l4_b]) (by kernel_rfl) ⟨node_is (by kernel_rfl) f24_l4_ok, trivial⟩))
   (no_tails (by kernel_rfl)) rfl
   (fun ks x hl => by
    have hk : ks = [] := List.length_eq_zero_iff.1 hl
    subst hk
    exact (f24_m x).trans (f24_n _ _ _))
theorem f24_c : CalOk Tryd.prog 24 f24_sm := .inl ⟨f24_ok, ⟨Tryd.f24, Tryd.func24, by kernel_rfl, by kernel_rfl⟩⟩
noncomputable def f25_code : Code := (Tryd.f25.body).getD .skip
noncomputable def f25_l4_sk : SkS := ⟨12, [(0, .con (.slc Qt4)), (0, .con (.slc Qt4)), (10, .con (.int .i64)), (0, .con (.int .i64))], []⟩
noncomputable def f25_l4_o0 : SkS := ⟨21, [(4, .con .bool)], []⟩
noncomputable def f25_l4_o1 : SkS := ⟨26, [], []⟩
noncomputable def f25_l4_outs : List Way := [⟨.ret, [], f25_l4_o0⟩, ⟨(.exit 0), [], f25_l4_o1⟩]
abbrev f25_l4_C := (List Qv1 × List Qv1 × Int)
abbrev f25_l4_X := Int
abbrev f25_l4_Y := (Unit) ⊕ (Unit)
noncomputable def f25_l4_con (t : f25_l4_sk.T) : f25_l4_C := (t.1.1, t.1.2.1, t.1.2.2.1)
noncomputable def f25_l4_get (t : f25_l4_sk.T) : f25_l4_X := t.1.2.2.2.1
noncomputable def f25_l4_put (c : f25_l4_C) (x : f25_l4_X) : f25_l4_sk.T := ((c.1, (c.2.1, (c.2.2, (x, ())))), ())
theorem f25_l4_pg (t : f25_l4_sk.T) : f25_l4_put (f25_l4_con t) (f25_l4_get t) = t := by kernel_rfl
noncomputable def f25_l4_w0 (c : f25_l4_C) (y : Unit) : f25_l4_o0.T := ((false, ()), ())
noncomputable def f25_l4_w1 (c : f25_l4_C) (y : Unit) : f25_l4_o1.T := ((), ())
noncomputable def f25_l4_out (c : f25_l4_C) (y : f25_l4_Y) : OutV f25_l4_outs := (Sum.elim (fun y => (.inl (f25_l4_w0 c y))) (fun y => (.inr (.inl (f25_l4_w1 c y))))) y
noncomputable def f25_l4_k {R : Type} (a0 : List Qv1) (a1 : List Qv1) (a2 : Int) (a3 : Int) (kin : f25_l4_X → Option R) (k0 : Unit → Option R) (k1 : Unit → Option R) : Option R :=
 (cond (decide (a3 < a2))
 (if (0 : Int) ≤ a3 ∧ a3 < ((List.length a0 : Nat) : Int) then (if (0 : Int) ≤ a3 ∧ a3 < ((List.length a1 : Nat) : Int) then (cond (!(eqD (Qt4) (List.getD a0 (Int.toNat a3) (ByteArray.empty, ((0 : Int), ()))) (List.getD a1 (Int.toNat a3) (ByteArray.empty, ((0 : Int), ())))))
  (k0 ())
  (let v0 : Int := (IntKind.i64.wrap (a3 + (1 : Int)))
   (kin v0))) else none) else none)
 (k1 ()))
noncomputable def f25_l4_g (a0 : List Qv1) (a1 : List Qv1) (a2 : Int) (x : f25_l4_X) : Option (f25_l4_X ⊕ f25_l4_Y) := f25_l4_k a0 a1 a2 x (fun x => some (.inl x)) (fun y => some (.inr (.inl y))) (fun y => some (.inr (.inr y)))
noncomputable def f25_l4 (a0 : List Qv1) (a1 : List Qv1) (a2 : Int) (x : f25_l4_X) : Option f25_l4_Y := loopO (f25_l4_g a0 a1 a2) x
noncomputable def f25_l4_nd : Node := { nils := [], sk := f25_l4_sk, outs := f25_l4_outs, Y := f25_l4_Y, L := fun t => f25_l4 ((f25_l4_con t).1) ((f25_l4_con t).2.1) ((f25_l4_con t).2.2) (f25_l4_get t), out := fun t y => f25_l4_out (f25_l4_con t) y, disp := fun t y K => (Sum.elim (fun y => K .ret (f25_l4_o0.fill (f25_l4_w0 (f25_l4_con t) y))) (fun y => K (.exit 0) (f25_l4_o1.fill (f25_l4_w1 (f25_l4_con t) y)))) y }
noncomputable def f25_fx : Fx := { E := env, T := [], H := [], O := [], nodes := [((true, 4), f25_l4_nd)] }
noncomputable def f25_l4_b : Code := (loops f25_code).getD 0 .skip
theorem f25_l4_r (c : f25_l4_C) (x : f25_l4_X) : roundS f25_fx f25_l4_b f25_l4_nd (f25_l4_put c x) = f25_l4_k c.1 c.2.1 c.2.2 x (fun x => some (.inl (f25_l4_put c x))) (fun y => some (.inr (.inl (f25_l4_w0 c y)))) (fun y => some (.inr (.inr (.inl (f25_l4_w1 c y))))) := by kernel_rfl
theorem f25_l4_n {R : Type} (a0 : List Qv1) (a1 : List Qv1) (a2 : Int) (a3 : Int) (kin : f25_l4_X → Option R) (k0 : Unit → Option R) (k1 : Unit → Option R) : f25_l4_k a0 a1 a2 a3 kin k0 k1 = (f25_l4_g a0 a1 a2 a3).bind (Sum.elim kin (Sum.elim k0 k1)) := by
  simp only [f25_l4_g, f25_l4_k, cond_bind, ite_bind, bind_bind, some_bind, none_bind, elim_bind, whenS_bind, Sum.elim_inl, Sum.elim_inr]
theorem f25_l4_ok : LoopOk f25_fx f25_l4_b f25_l4_nd := loop_ok f25_l4_con f25_l4_get f25_l4_put f25_l4_pg (fun c => f25_l4_g c.1 c.2.1 c.2.2) f25_l4_out (fun t y => rfl) (by intro R t y K; rcases y with y | y <;> rfl) (fun c x => by
  refine (f25_l4_r c x).trans ((f25_l4_n _ _ _ _ _ _ _).trans ?_)
  first
  | rfl
  | congr 1
    funext s
    rcases s with s | s | s <;> rfl) (fun t => rfl)
noncomputable def f25_k {R : Type} (a0 : List Qv1) (a1 : List Qv1) (k : (Bool × Unit) × (Unit) → Option R) : Option R :=
 (cond (((List.length a0 : Nat) : Int) != ((List.length a1 : Nat) : Int))
 (k ((false, ()), ()))
 ((f25_l4 a0 a1 ((List.length a0 : Nat) : Int) (0 : Int)).bind fun y1 =>
  ((Sum.elim (fun z2 =>
  (k ((false, ()), ())))
  (fun z3 =>
  (k ((true, ()), ())))) y1)))
noncomputable def f25 (a0 : List Qv1) (a1 : List Qv1) : Option ((Bool × Unit) × (Unit)) := f25_k a0 a1 some
noncomputable def f25_sm : Sm := { ps := [.ro (.slc Qt4), .ro (.slc Qt4)], rs := [(.bool, .ro)], F := fun x => f25 x.1 x.2.1 }
theorem f25_m (x : ArgT [.ro (.slc Qt4), .ro (.slc Qt4)]) : codeS f25_fx f25_code (start [.ro (.slc Qt4), .ro (.slc Qt4)] [] x 26) (finK env [.tmp 4] [.ro (.slc Qt4), .ro (.slc Qt4)] [(.bool, .ro)]) = f25_k x.1 x.2.1 (fun r => some (r, [])) := by kernel_rfl
theorem f25_n {R : Type} (a0 : List Qv1) (a1 : List Qv1) (k : (Bool × Unit) × (Unit) → Option R) : f25_k a0 a1 k = (f25 a0 a1).bind k := by
  simp only [f25, f25_k, cond_bind, ite_bind, bind_bind, some_bind, none_bind, elim_bind, whenS_bind]
theorem f25_ok : SmOk Tryd.prog 25 f25_sm :=
  sum_of (c := f25_fx) (fn := Tryd.f25) (code := f25_code) (sm := f25_sm) mixed (env_ok env_envB) (TabsOk.all trivial) Tryd.func25 (by kernel_rfl)
   ((LoopsOk.of (l := [f25_l4_b]) (by kernel_rfl) ⟨node_is (by kernel_rfl) f25_l4_ok, trivial⟩))
   (no_tails (by kernel_rfl)) rfl
   (fun ks x hl => by
    have hk : ks = [] := List.length_eq_zero_iff.1 hl
    subst hk
    exact (f25_m x).trans (f25_n _ _ _))
theorem f25_c : CalOk Tryd.prog 25 f25_sm := .inl ⟨f25_ok, ⟨Tryd.f25, Tryd.func25, by kernel_rfl, by kernel_rfl⟩⟩
noncomputable def f10_code : Code := (Tryd.f10.body).getD .skip
noncomputable def f10_fx : Fx := { E := env, T := [(24, f24_sm), (25, f25_sm)], H := [], O := [], nodes := [] }
noncomputable def f10_k {R : Type} (a0 : Qv2) (a1 : Qv2) (k : (Bool × Unit) × (Unit) → Option R) : Option R :=
 (cond (a0.1 == a1.1)
 ((f24 a0.2.1 a1.2.1).bind fun r0 =>
  (cond r0.1.1
  ((f25 a0.2.2.1 a1.2.2.1).bind fun r1 =>
   (k ((r1.1.1, ()), ())))
  (k ((false, ()), ()))))
 (k ((false, ()), ())))
noncomputable def f10 (a0 : Qv2) (a1 : Qv2) : Option ((Bool × Unit) × (Unit)) := f10_k a0 a1 some
noncomputable def f10_sm : Sm := { ps := [.ro Qt5, .ro Qt5], rs := [(.bool, .ro)], F := fun x => f10 x.1 x.2.1 }
theorem f10_m (x : ArgT [.ro Qt5, .ro Qt5]) : codeS f10_fx f10_code (start [.ro Qt5, .ro Qt5] [] x 24) (finK env [.tmp 4] [.ro Qt5, .ro Qt5] [(.bool, .ro)]) = f10_k x.1 x.2.1 (fun r => some (r, [])) := by kernel_rfl
theorem f10_n {R : Type} (a0 : Qv2) (a1 : Qv2) (k : (Bool × Unit) × (Unit) → Option R) : f10_k a0 a1 k = (f10 a0 a1).bind k := by
  simp only [f10, f10_k, cond_bind, ite_bind, bind_bind, some_bind, none_bind, elim_bind, whenS_bind]
theorem f10_ok : SmOk Tryd.prog 10 f10_sm :=
  sum_of (c := f10_fx) (fn := Tryd.f10) (code := f10_code) (sm := f10_sm) mixed (env_ok env_envB) (TabsOk.all ⟨f24_c, f25_c, trivial⟩) Tryd.func10 (by kernel_rfl)
   ((LoopsOk.of (l := []) (by kernel_rfl) trivial))
   (no_tails (by kernel_rfl)) rfl
   (fun ks x hl => by
    have hk : ks = [] := List.length_eq_zero_iff.1 hl
    subst hk
    exact (f10_m x).trans (f10_n _ _ _))
theorem f10_c : CalOk Tryd.prog 10 f10_sm := .inl ⟨f10_ok, ⟨Tryd.f10, Tryd.func10, by kernel_rfl, by kernel_rfl⟩⟩
noncomputable def f12_code : Code := (Tryd.f12.body).getD .skip
noncomputable def f12_l6_sk : SkS := ⟨37, [(0, .con (.slc Qt3)), (2, .ref 208 []), (10, .con (.slc Qt3)), (0, .con (.int .i64)), (0, .con (.int .i64)), (4, .con (.slc Qt4)), (0, .con (.int .i64)), (0, .con (.int .i64))], [(208, ⟨none, (.mp .str .bool), (.own (.own .ro)), none⟩)]⟩
noncomputable def f12_l6_o0 : SkS := ⟨44, [(0, .con (.slc Qt3)), (2, .ref 208 []), (10, .con (.slc Qt3)), (0, .con (.int .i64)), (0, .con (.int .i64))], [(208, ⟨none, (.mp .str .bool), (.own (.own .ro)), none⟩)]⟩
noncomputable def f12_l6_outs : List Way := [⟨(.exit 2), [], f12_l6_o0⟩]
abbrev f12_l6_C := (List Qv0 × List Qv0 × Int × Int × List Qv1 × Int)
abbrev f12_l6_X := (Int × List (ByteArray × Bool))
abbrev f12_l6_Y := (List (ByteArray × Bool))
noncomputable def f12_l6_con (t : f12_l6_sk.T) : f12_l6_C := (t.1.1, t.1.2.1, t.1.2.2.1, t.1.2.2.2.1, t.1.2.2.2.2.1, t.1.2.2.2.2.2.1)
noncomputable def f12_l6_get (t : f12_l6_sk.T) : f12_l6_X := (t.1.2.2.2.2.2.2.1, t.2.1.1)
noncomputable def f12_l6_put (c : f12_l6_C) (x : f12_l6_X) : f12_l6_sk.T := ((c.1, (c.2.1, (c.2.2.1, (c.2.2.2.1, (c.2.2.2.2.1, (c.2.2.2.2.2, (x.1, ()))))))), ((x.2, ()), ()))
theorem f12_l6_pg (t : f12_l6_sk.T) : f12_l6_put (f12_l6_con t) (f12_l6_get t) = t := by kernel_rfl
noncomputable def f12_l6_w0 (c : f12_l6_C) (y : List (ByteArray × Bool)) : f12_l6_o0.T := ((c.1, (c.2.1, (c.2.2.1, (c.2.2.2.1, ())))), ((y, ()), ()))
noncomputable def f12_l6_out (c : f12_l6_C) (y : f12_l6_Y) : OutV f12_l6_outs := (fun y => (.inl (f12_l6_w0 c y))) y
noncomputable def f12_l6_k {R : Type} (a0 : List Qv0) (a1 : List Qv0) (a2 : Int) (a3 : Int) (a4 : List Qv1) (a5 : Int) (a6 : Int) (a7 : List (ByteArray × Bool)) (kin : f12_l6_X → Option R) (k0 : List (ByteArray × Bool) → Option R) : Option R :=
 (cond (decide (a6 < a5))
 (if (0 : Int) ≤ a6 ∧ a6 < ((List.length a4 : Nat) : Int) then (let r0 : List (ByteArray × Bool) := (mset .str .bool a7 (List.getD a4 (Int.toNat a6) (ByteArray.empty, ((0 : Int), ()))).1 true)
  (let v1 : Int := (IntKind.i64.wrap (a6 + (1 : Int)))
  (kin (v1, r0)))) else none)
 (k0 a7))
noncomputable def f12_l6_g (a0 : List Qv0) (a1 : List Qv0) (a2 : Int) (a3 : Int) (a4 : List Qv1) (a5 : Int) (x : f12_l6_X) : Option (f12_l6_X ⊕ f12_l6_Y) := f12_l6_k a0 a1 a2 a3 a4 a5 x.1 x.2 (fun x => some (.inl x)) (fun y => some (.inr y))
noncomputable def f12_l6 (a0 : List Qv0) (a1 : List Qv0) (a2 : Int) (a3 : Int) (a4 : List Qv1) (a5 : Int) (x : f12_l6_X) : Option f12_l6_Y := loopO (f12_l6_g a0 a1 a2 a3 a4 a5) x
noncomputable def f12_l6_nd : Node := { nils := [], sk := f12_l6_sk, outs := f12_l6_outs, Y := f12_l6_Y, L := fun t => f12_l6 ((f12_l6_con t).1) ((f12_l6_con t).2.1) ((f12_l6_con t).2.2.1) ((f12_l6_con t).2.2.2.1) ((f12_l6_con t).2.2.2.2.1) ((f12_l6_con t).2.2.2.2.2) (f12_l6_get t), out := fun t y => f12_l6_out (f12_l6_con t) y, disp := fun t y K => (fun y => K (.exit 2) (f12_l6_o0.fill (f12_l6_w0 (f12_l6_con t) y))) y }
noncomputable def f12_l3_sk : SkS := ⟨44, [(0, .con (.slc Qt3)), (2, .ref 208 []), (10, .con (.slc Qt3)), (0, .con (.int .i64)), (0, .con (.int .i64))], [(208, ⟨none, (.mp .str .bool), (.own (.own .ro)), none⟩)]⟩
noncomputable def f12_l3_o0 : SkS := ⟨57, [(0, .con (.slc Qt3)), (2, .ref 208 [])], [(208, ⟨none, (.mp .str .bool), (.own (.own .ro)), none⟩)]⟩
noncomputable def f12_l3_outs : List Way := [⟨(.exit 0), [], f12_l3_o0⟩]
abbrev f12_l3_C := (List Qv0 × List Qv0 × Int)
abbrev f12_l3_X := (Int × List (ByteArray × Bool))
abbrev f12_l3_Y := (List (ByteArray × Bool))
noncomputable def f12_l3_con (t : f12_l3_sk.T) : f12_l3_C := (t.1.1, t.1.2.1, t.1.2.2.1)
noncomputable def f12_l3_get (t : f12_l3_sk.T) : f12_l3_X := (t.1.2.2.2.1, t.2.1.1)
noncomputable def f12_l3_put (c : f12_l3_C) (x : f12_l3_X) : f12_l3_sk.T := ((c.1, (c.2.1, (c.2.2, (x.1, ())))), ((x.2, ()), ()))
theorem f12_l3_pg (t : f12_l3_sk.T) : f12_l3_put (f12_l3_con t) (f12_l3_get t) = t := by kernel_rfl
noncomputable def f12_l3_w0 (c : f12_l3_C) (y : List (ByteArray × Bool)) : f12_l3_o0.T := ((c.1, ()), ((y, ()), ()))
noncomputable def f12_l3_out (c : f12_l3_C) (y : f12_l3_Y) : OutV f12_l3_outs := (fun y => (.inl (f12_l3_w0 c y))) y
noncomputable def f12_l3_k {R : Type} (a0 : List Qv0) (a1 : List Qv0) (a2 : Int) (a3 : Int) (a4 : List (ByteArray × Bool)) (kin : f12_l3_X → Option R) (k0 : List (ByteArray × Bool) → Option R) : Option R :=
 (cond (decide (a3 < a2))
 (if (0 : Int) ≤ a3 ∧ a3 < ((List.length a1 : Nat) : Int) then ((f12_l6 a0 a1 a2 a3 (List.getD a1 (Int.toNat a3) (ByteArray.empty, (([] : List Int), (([] : List Qv1), (([] : List (Int × (Int × Qv1))), ()))))).2.2.1 ((List.length (List.getD a1 (Int.toNat a3) (ByteArray.empty, (([] : List Int), (([] : List Qv1), (([] : List (Int × (Int × Qv1))), ()))))).2.2.1 : Nat) : Int) ((0 : Int), a4)).bind fun y2 =>
  (let v3 : Int := (IntKind.i64.wrap (a3 + (1 : Int)))
  (kin (v3, y2)))) else none)
 (k0 a4))
noncomputable def f12_l3_g (a0 : List Qv0) (a1 : List Qv0) (a2 : Int) (x : f12_l3_X) : Option (f12_l3_X ⊕ f12_l3_Y) := f12_l3_k a0 a1 a2 x.1 x.2 (fun x => some (.inl x)) (fun y => some (.inr y))
noncomputable def f12_l3 (a0 : List Qv0) (a1 : List Qv0) (a2 : Int) (x : f12_l3_X) : Option f12_l3_Y := loopO (f12_l3_g a0 a1 a2) x
noncomputable def f12_l3_nd : Node := { nils := [], sk := f12_l3_sk, outs := f12_l3_outs, Y := f12_l3_Y, L := fun t => f12_l3 ((f12_l3_con t).1) ((f12_l3_con t).2.1) ((f12_l3_con t).2.2) (f12_l3_get t), out := fun t y => f12_l3_out (f12_l3_con t) y, disp := fun t y K => (fun y => K (.exit 0) (f12_l3_o0.fill (f12_l3_w0 (f12_l3_con t) y))) y }
noncomputable def f12_l16_sk : SkS := ⟨19, [(3, .ref 208 []), (4, .ref 143 []), (23, .con (.slc Qt3)), (0, .con (.int .i64)), (0, .con (.int .i64)), (4, .con (.slc Qt7)), (0, .con (.int .i64)), (0, .con (.int .i64))], [(143, ⟨none, (.slc .str), (.own .ro), none⟩), (208, ⟨none, (.mp .str .bool), (.own (.own .ro)), none⟩)]⟩
noncomputable def f12_l16_o0 : SkS := ⟨26, [(3, .ref 208 []), (4, .ref 143 []), (23, .con (.slc Qt3)), (0, .con (.int .i64)), (0, .con (.int .i64))], [(143, ⟨none, (.slc .str), (.own .ro), none⟩), (208, ⟨none, (.mp .str .bool), (.own (.own .ro)), none⟩)]⟩
noncomputable def f12_l16_outs : List Way := [⟨(.exit 6), [], f12_l16_o0⟩]
abbrev f12_l16_C := (List Qv0 × Int × Int × List (Int × (Int × Qv1)) × Int)
abbrev f12_l16_X := (Int × List ByteArray × List (ByteArray × Bool))
abbrev f12_l16_Y := ((List ByteArray × List (ByteArray × Bool)))
noncomputable def f12_l16_con (t : f12_l16_sk.T) : f12_l16_C := (t.1.1, t.1.2.1, t.1.2.2.1, t.1.2.2.2.1, t.1.2.2.2.2.1)
noncomputable def f12_l16_get (t : f12_l16_sk.T) : f12_l16_X := (t.1.2.2.2.2.2.1, t.2.1.1, t.2.2.1.1)
noncomputable def f12_l16_put (c : f12_l16_C) (x : f12_l16_X) : f12_l16_sk.T := ((c.1, (c.2.1, (c.2.2.1, (c.2.2.2.1, (c.2.2.2.2, (x.1, ())))))), ((x.2.1, ()), ((x.2.2, ()), ())))
theorem f12_l16_pg (t : f12_l16_sk.T) : f12_l16_put (f12_l16_con t) (f12_l16_get t) = t := by kernel_rfl
noncomputable def f12_l16_w0 (c : f12_l16_C) (y : (List ByteArray × List (ByteArray × Bool))) : f12_l16_o0.T := ((c.1, (c.2.1, (c.2.2.1, ()))), ((y.1, ()), ((y.2, ()), ())))
noncomputable def f12_l16_out (c : f12_l16_C) (y : f12_l16_Y) : OutV f12_l16_outs := (fun y => (.inl (f12_l16_w0 c y))) y
noncomputable def f12_l16_k {R : Type} (a0 : List Qv0) (a1 : Int) (a2 : Int) (a3 : List (Int × (Int × Qv1))) (a4 : Int) (a5 : Int) (a6 : List ByteArray) (a7 : List (ByteArray × Bool)) (kin : f12_l16_X → Option R) (k0 : (List ByteArray × List (ByteArray × Bool)) → Option R) : Option R :=
 (cond (decide (a5 < a4))
 (if (0 : Int) ≤ a5 ∧ a5 < ((List.length a3 : Nat) : Int) then (let v5 : Bool := ((mfind .str .bool a7 (List.getD a3 (Int.toNat a5) ((0 : Int), ((0 : Int), (ByteArray.empty, ((0 : Int), ()))))).2.2.1).getD false)
  (cond (!v5)
  (if (List.length a6 + 1) * 16 ≤ most ∧ 0 < 16 ∧ 0 < 1 then (let r6 : List ByteArray := (a6 ++ [(List.getD a3 (Int.toNat a5) ((0 : Int), ((0 : Int), (ByteArray.empty, ((0 : Int), ()))))).2.2.1])
   (let r7 : List (ByteArray × Bool) := (mset .str .bool a7 (List.getD a3 (Int.toNat a5) ((0 : Int), ((0 : Int), (ByteArray.empty, ((0 : Int), ()))))).2.2.1 true)
   (let v8 : Int := (IntKind.i64.wrap (a5 + (1 : Int)))
   (kin (v8, r6, r7))))) else none)
  (let v9 : Int := (IntKind.i64.wrap (a5 + (1 : Int)))
   (kin (v9, a6, a7))))) else none)
 (k0 (a6, a7)))
noncomputable def f12_l16_g (a0 : List Qv0) (a1 : Int) (a2 : Int) (a3 : List (Int × (Int × Qv1))) (a4 : Int) (x : f12_l16_X) : Option (f12_l16_X ⊕ f12_l16_Y) := f12_l16_k a0 a1 a2 a3 a4 x.1 x.2.1 x.2.2 (fun x => some (.inl x)) (fun y => some (.inr y))
noncomputable def f12_l16 (a0 : List Qv0) (a1 : Int) (a2 : Int) (a3 : List (Int × (Int × Qv1))) (a4 : Int) (x : f12_l16_X) : Option f12_l16_Y := loopO (f12_l16_g a0 a1 a2 a3 a4) x
noncomputable def f12_l16_nd : Node := { nils := [(8, 143, .str, .ro)], sk := f12_l16_sk, outs := f12_l16_outs, Y := f12_l16_Y, L := fun t => f12_l16 ((f12_l16_con t).1) ((f12_l16_con t).2.1) ((f12_l16_con t).2.2.1) ((f12_l16_con t).2.2.2.1) ((f12_l16_con t).2.2.2.2) (f12_l16_get t), out := fun t y => f12_l16_out (f12_l16_con t) y, disp := fun t y K => (fun y => K (.exit 6) (f12_l16_o0.fill (f12_l16_w0 (f12_l16_con t) y))) y }
noncomputable def f12_l13_sk : SkS := ⟨26, [(3, .ref 208 []), (4, .ref 143 []), (23, .con (.slc Qt3)), (0, .con (.int .i64)), (0, .con (.int .i64))], [(143, ⟨none, (.slc .str), (.own .ro), none⟩), (208, ⟨none, (.mp .str .bool), (.own (.own .ro)), none⟩)]⟩
noncomputable def f12_l13_o0 : SkS := ⟨52, [(8, .ref 143 [])], [(143, ⟨none, (.slc .str), (.own .ro), none⟩)]⟩
noncomputable def f12_l13_outs : List Way := [⟨(.exit 4), [], f12_l13_o0⟩]
abbrev f12_l13_C := (List Qv0 × Int)
abbrev f12_l13_X := (Int × List ByteArray × List (ByteArray × Bool))
abbrev f12_l13_Y := (List ByteArray)
noncomputable def f12_l13_con (t : f12_l13_sk.T) : f12_l13_C := (t.1.1, t.1.2.1)
noncomputable def f12_l13_get (t : f12_l13_sk.T) : f12_l13_X := (t.1.2.2.1, t.2.1.1, t.2.2.1.1)
noncomputable def f12_l13_put (c : f12_l13_C) (x : f12_l13_X) : f12_l13_sk.T := ((c.1, (c.2, (x.1, ()))), ((x.2.1, ()), ((x.2.2, ()), ())))
theorem f12_l13_pg (t : f12_l13_sk.T) : f12_l13_put (f12_l13_con t) (f12_l13_get t) = t := by kernel_rfl
noncomputable def f12_l13_w0 (c : f12_l13_C) (y : List ByteArray) : f12_l13_o0.T := ((), ((y, ()), ()))
noncomputable def f12_l13_out (c : f12_l13_C) (y : f12_l13_Y) : OutV f12_l13_outs := (fun y => (.inl (f12_l13_w0 c y))) y
noncomputable def f12_l13_k {R : Type} (a0 : List Qv0) (a1 : Int) (a2 : Int) (a3 : List ByteArray) (a4 : List (ByteArray × Bool)) (kin : f12_l13_X → Option R) (k0 : List ByteArray → Option R) : Option R :=
 (cond (decide (a2 < a1))
 (if (0 : Int) ≤ a2 ∧ a2 < ((List.length a0 : Nat) : Int) then ((f12_l16 a0 a1 a2 (List.getD a0 (Int.toNat a2) (ByteArray.empty, (([] : List Int), (([] : List Qv1), (([] : List (Int × (Int × Qv1))), ()))))).2.2.2.1 ((List.length (List.getD a0 (Int.toNat a2) (ByteArray.empty, (([] : List Int), (([] : List Qv1), (([] : List (Int × (Int × Qv1))), ()))))).2.2.2.1 : Nat) : Int) ((0 : Int), a3, a4)).bind fun y10 =>
  (let v11 : Int := (IntKind.i64.wrap (a2 + (1 : Int)))
  (kin (v11, y10.1, y10.2)))) else none)
 (k0 a3))
noncomputable def f12_l13_g (a0 : List Qv0) (a1 : Int) (x : f12_l13_X) : Option (f12_l13_X ⊕ f12_l13_Y) := f12_l13_k a0 a1 x.1 x.2.1 x.2.2 (fun x => some (.inl x)) (fun y => some (.inr y))
noncomputable def f12_l13 (a0 : List Qv0) (a1 : Int) (x : f12_l13_X) : Option f12_l13_Y := loopO (f12_l13_g a0 a1) x
noncomputable def f12_l13_nd : Node := { nils := [(8, 143, .str, .ro)], sk := f12_l13_sk, outs := f12_l13_outs, Y := f12_l13_Y, L := fun t => f12_l13 ((f12_l13_con t).1) ((f12_l13_con t).2) (f12_l13_get t), out := fun t y => f12_l13_out (f12_l13_con t) y, disp := fun t y K => (fun y => K (.exit 4) (f12_l13_o0.fill (f12_l13_w0 (f12_l13_con t) y))) y }
noncomputable def f12_fx : Fx := { E := env, T := [], H := [], O := [(57, [8])], nodes := [((true, 6), f12_l6_nd), ((true, 3), f12_l3_nd), ((true, 16), f12_l16_nd), ((true, 13), f12_l13_nd)] }
noncomputable def f12_l6_b : Code := (loops f12_code).getD 1 .skip
theorem f12_l6_r (c : f12_l6_C) (x : f12_l6_X) : roundS f12_fx f12_l6_b f12_l6_nd (f12_l6_put c x) = f12_l6_k c.1 c.2.1 c.2.2.1 c.2.2.2.1 c.2.2.2.2.1 c.2.2.2.2.2 x.1 x.2 (fun x => some (.inl (f12_l6_put c x))) (fun y => some (.inr (.inl (f12_l6_w0 c y)))) := by kernel_rfl
theorem f12_l6_n {R : Type} (a0 : List Qv0) (a1 : List Qv0) (a2 : Int) (a3 : Int) (a4 : List Qv1) (a5 : Int) (a6 : Int) (a7 : List (ByteArray × Bool)) (kin : f12_l6_X → Option R) (k0 : List (ByteArray × Bool) → Option R) : f12_l6_k a0 a1 a2 a3 a4 a5 a6 a7 kin k0 = (f12_l6_g a0 a1 a2 a3 a4 a5 (a6, a7)).bind (Sum.elim kin k0) := by
  simp only [f12_l6_g, f12_l6_k, cond_bind, ite_bind, bind_bind, some_bind, none_bind, elim_bind, whenS_bind, Sum.elim_inl, Sum.elim_inr]
theorem f12_l6_ok : LoopOk f12_fx f12_l6_b f12_l6_nd := loop_ok f12_l6_con f12_l6_get f12_l6_put f12_l6_pg (fun c => f12_l6_g c.1 c.2.1 c.2.2.1 c.2.2.2.1 c.2.2.2.2.1 c.2.2.2.2.2) f12_l6_out (fun t y => rfl) (fun t y K => rfl) (fun c x => by
  refine (f12_l6_r c x).trans ((f12_l6_n _ _ _ _ _ _ _ _ _ _).trans ?_)
  first
  | rfl
  | congr 1
    funext s
    rcases s with s | s <;> rfl) (fun t => rfl)
noncomputable def f12_l3_b : Code := (loops f12_code).getD 0 .skip
theorem f12_l3_r (c : f12_l3_C) (x : f12_l3_X) : roundS f12_fx f12_l3_b f12_l3_nd (f12_l3_put c x) = f12_l3_k c.1 c.2.1 c.2.2 x.1 x.2 (fun x => some (.inl (f12_l3_put c x))) (fun y => some (.inr (.inl (f12_l3_w0 c y)))) := by kernel_rfl
theorem f12_l3_n {R : Type} (a0 : List Qv0) (a1 : List Qv0) (a2 : Int) (a3 : Int) (a4 : List (ByteArray × Bool)) (kin : f12_l3_X → Option R) (k0 : List (ByteArray × Bool) → Option R) : f12_l3_k a0 a1 a2 a3 a4 kin k0 = (f12_l3_g a0 a1 a2 (a3, a4)).bind (Sum.elim kin k0) := by
  simp only [f12_l3_g, f12_l3_k, cond_bind, ite_bind, bind_bind, some_bind, none_bind, elim_bind, whenS_bind, Sum.elim_inl, Sum.elim_inr]
theorem f12_l3_ok : LoopOk f12_fx f12_l3_b f12_l3_nd := loop_ok f12_l3_con f12_l3_get f12_l3_put f12_l3_pg (fun c => f12_l3_g c.1 c.2.1 c.2.2) f12_l3_out (fun t y => rfl) (fun t y K => rfl) (fun c x => by
  refine (f12_l3_r c x).trans ((f12_l3_n _ _ _ _ _ _ _).trans ?_)
  first
  | rfl
  | congr 1
    funext s
    rcases s with s | s <;> rfl) (fun t => rfl)
noncomputable def f12_l16_b : Code := (loops f12_code).getD 3 .skip
theorem f12_l16_r (c : f12_l16_C) (x : f12_l16_X) : roundS f12_fx f12_l16_b f12_l16_nd (f12_l16_put c x) = f12_l16_k c.1 c.2.1 c.2.2.1 c.2.2.2.1 c.2.2.2.2 x.1 x.2.1 x.2.2 (fun x => some (.inl (f12_l16_put c x))) (fun y => some (.inr (.inl (f12_l16_w0 c y)))) := by kernel_rfl
theorem f12_l16_n {R : Type} (a0 : List Qv0) (a1 : Int) (a2 : Int) (a3 : List (Int × (Int × Qv1))) (a4 : Int) (a5 : Int) (a6 : List ByteArray) (a7 : List (ByteArray × Bool)) (kin : f12_l16_X → Option R) (k0 : (List ByteArray × List (ByteArray × Bool)) → Option R) : f12_l16_k a0 a1 a2 a3 a4 a5 a6 a7 kin k0 = (f12_l16_g a0 a1 a2 a3 a4 (a5, a6, a7)).bind (Sum.elim kin k0) := by
  simp only [f12_l16_g, f12_l16_k, cond_bind, ite_bind, bind_bind, some_bind, none_bind, elim_bind, whenS_bind, Sum.elim_inl, Sum.elim_inr]
theorem f12_l16_ok : LoopOk f12_fx f12_l16_b f12_l16_nd := loop_ok f12_l16_con f12_l16_get f12_l16_put f12_l16_pg (fun c => f12_l16_g c.1 c.2.1 c.2.2.1 c.2.2.2.1 c.2.2.2.2) f12_l16_out (fun t y => rfl) (fun t y K => rfl) (fun c x => by
  refine (f12_l16_r c x).trans ((f12_l16_n _ _ _ _ _ _ _ _ _ _).trans ?_)
  first
  | rfl
  | congr 1
    funext s
    rcases s with s | s <;> rfl) (fun t => rfl)
noncomputable def f12_l13_b : Code := (loops f12_code).getD 2 .skip
theorem f12_l13_r (c : f12_l13_C) (x : f12_l13_X) : roundS f12_fx f12_l13_b f12_l13_nd (f12_l13_put c x) = f12_l13_k c.1 c.2 x.1 x.2.1 x.2.2 (fun x => some (.inl (f12_l13_put c x))) (fun y => some (.inr (.inl (f12_l13_w0 c y)))) := by kernel_rfl
theorem f12_l13_n {R : Type} (a0 : List Qv0) (a1 : Int) (a2 : Int) (a3 : List ByteArray) (a4 : List (ByteArray × Bool)) (kin : f12_l13_X → Option R) (k0 : List ByteArray → Option R) : f12_l13_k a0 a1 a2 a3 a4 kin k0 = (f12_l13_g a0 a1 (a2, a3, a4)).bind (Sum.elim kin k0) := by
  simp only [f12_l13_g, f12_l13_k, cond_bind, ite_bind, bind_bind, some_bind, none_bind, elim_bind, whenS_bind, Sum.elim_inl, Sum.elim_inr]
theorem f12_l13_ok : LoopOk f12_fx f12_l13_b f12_l13_nd := loop_ok f12_l13_con f12_l13_get f12_l13_put f12_l13_pg (fun c => f12_l13_g c.1 c.2) f12_l13_out (fun t y => rfl) (fun t y K => rfl) (fun c x => by
  refine (f12_l13_r c x).trans ((f12_l13_n _ _ _ _ _ _ _).trans ?_)
  first
  | rfl
  | congr 1
    funext s
    rcases s with s | s <;> rfl) (fun t => rfl)
noncomputable def f12_k {R : Type} (a0 : List Qv0) (k : (List ByteArray × Unit) × (Unit) → Option R) : Option R :=
 ((f12_l3 a0 a0 ((List.length a0 : Nat) : Int) ((0 : Int), ([] : List (ByteArray × Bool)))).bind fun y4 =>
 ((f12_l13 a0 ((List.length a0 : Nat) : Int) ((0 : Int), [], y4)).bind fun y12 =>
 (k ((y12, ()), ()))))
noncomputable def f12 (a0 : List Qv0) : Option ((List ByteArray × Unit) × (Unit)) := f12_k a0 some
noncomputable def f12_sm : Sm := { ps := [.ro (.slc Qt3)], rs := [((.slc .str), (.own .ro))], F := fun x => f12 x.1 }
theorem f12_m (x : ArgT [.ro (.slc Qt3)]) : codeS f12_fx f12_code (start [.ro (.slc Qt3)] [] x 61) (finK env [.tmp 2] [.ro (.slc Qt3)] [((.slc .str), (.own .ro))]) = f12_k x.1 (fun r => some (r, [])) := by kernel_rfl
theorem f12_n {R : Type} (a0 : List Qv0) (k : (List ByteArray × Unit) × (Unit) → Option R) : f12_k a0 k = (f12 a0).bind k := by
  simp only [f12, f12_k, cond_bind, ite_bind, bind_bind, some_bind, none_bind, elim_bind, whenS_bind]
theorem f12_ok : SmOk Tryd.prog 12 f12_sm :=
  sum_of (c := f12_fx) (fn := Tryd.f12) (code := f12_code) (sm := f12_sm) mixed (env_ok env_envB) (TabsOk.all trivial) Tryd.func12 (by kernel_rfl)
   ((LoopsOk.of (l := [f12_l3_b, f12_l6_b, f12_l13_b, f12_l16_b]) (by kernel_rfl) ⟨node_is (by kernel_rfl) f12_l3_ok, node_is (by kernel_rfl) f12_l6_ok, node_is (by kernel_rfl) f12_l13_ok, node_is (by kernel_rfl) f12_l16_ok, trivial⟩))
   (no_tails (by kernel_rfl)) rfl
   (fun ks x hl => by
    have hk : ks = [] := List.length_eq_zero_iff.1 hl
    subst hk
    exact (f12_m x).trans (f12_n _ _))
theorem f12_c : CalOk Tryd.prog 12 f12_sm := .inl ⟨f12_ok, ⟨Tryd.f12, Tryd.func12, by kernel_rfl, by kernel_rfl⟩⟩
noncomputable def f11_code : Code := (Tryd.f11.body).getD .skip
noncomputable def f11_l4_sk : SkS := ⟨12, [(0, .con (.slc .str)), (0, .con (.slc .str)), (10, .con (.int .i64)), (0, .con (.int .i64))], []⟩
noncomputable def f11_l4_o0 : SkS := ⟨21, [(4, .con .bool)], []⟩
noncomputable def f11_l4_o1 : SkS := ⟨26, [], []⟩
noncomputable def f11_l4_outs : List Way := [⟨.ret, [], f11_l4_o0⟩, ⟨(.exit 0), [], f11_l4_o1⟩]
abbrev f11_l4_C := (List ByteArray × List ByteArray × Int)
abbrev f11_l4_X := Int
abbrev f11_l4_Y := (Unit) ⊕ (Unit)
noncomputable def f11_l4_con (t : f11_l4_sk.T) : f11_l4_C := (t.1.1, t.1.2.1, t.1.2.2.1)
noncomputable def f11_l4_get (t : f11_l4_sk.T) : f11_l4_X := t.1.2.2.2.1
noncomputable def f11_l4_put (c : f11_l4_C) (x : f11_l4_X) : f11_l4_sk.T := ((c.1, (c.2.1, (c.2.2, (x, ())))), ())
theorem f11_l4_pg (t : f11_l4_sk.T) : f11_l4_put (f11_l4_con t) (f11_l4_get t) = t := by kernel_rfl
noncomputable def f11_l4_w0 (c : f11_l4_C) (y : Unit) : f11_l4_o0.T := ((false, ()), ())
noncomputable def f11_l4_w1 (c : f11_l4_C) (y : Unit) : f11_l4_o1.T := ((), ())
noncomputable def f11_l4_out (c : f11_l4_C) (y : f11_l4_Y) : OutV f11_l4_outs := (Sum.elim (fun y => (.inl (f11_l4_w0 c y))) (fun y => (.inr (.inl (f11_l4_w1 c y))))) y
noncomputable def f11_l4_k {R : Type} (a0 : List ByteArray) (a1 : List ByteArray) (a2 : Int) (a3 : Int) (kin : f11_l4_X → Option R) (k0 : Unit → Option R) (k1 : Unit → Option R) : Option R :=
 (cond (decide (a3 < a2))
 (if (0 : Int) ≤ a3 ∧ a3 < ((List.length a0 : Nat) : Int) then (if (0 : Int) ≤ a3 ∧ a3 < ((List.length a1 : Nat) : Int) then (cond (!strEq (List.getD a0 (Int.toNat a3) ByteArray.empty) (List.getD a1 (Int.toNat a3) ByteArray.empty))
  (k0 ())
  (let v0 : Int := (IntKind.i64.wrap (a3 + (1 : Int)))
   (kin v0))) else none) else none)
 (k1 ()))
noncomputable def f11_l4_g (a0 : List ByteArray) (a1 : List ByteArray) (a2 : Int) (x : f11_l4_X) : Option (f11_l4_X ⊕ f11_l4_Y) := f11_l4_k a0 a1 a2 x (fun x => some (.inl x)) (fun y => some (.inr (.inl y))) (fun y => some (.inr (.inr y)))
noncomputable def f11_l4 (a0 : List ByteArray) (a1 : List ByteArray) (a2 : Int) (x : f11_l4_X) : Option f11_l4_Y := loopO (f11_l4_g a0 a1 a2) x
noncomputable def f11_l4_nd : Node := { nils := [], sk := f11_l4_sk, outs := f11_l4_outs, Y := f11_l4_Y, L := fun t => f11_l4 ((f11_l4_con t).1) ((f11_l4_con t).2.1) ((f11_l4_con t).2.2) (f11_l4_get t), out := fun t y => f11_l4_out (f11_l4_con t) y, disp := fun t y K => (Sum.elim (fun y => K .ret (f11_l4_o0.fill (f11_l4_w0 (f11_l4_con t) y))) (fun y => K (.exit 0) (f11_l4_o1.fill (f11_l4_w1 (f11_l4_con t) y)))) y }
noncomputable def f11_fx : Fx := { E := env, T := [], H := [], O := [], nodes := [((true, 4), f11_l4_nd)] }
noncomputable def f11_l4_b : Code := (loops f11_code).getD 0 .skip
theorem f11_l4_r (c : f11_l4_C) (x : f11_l4_X) : roundS f11_fx f11_l4_b f11_l4_nd (f11_l4_put c x) = f11_l4_k c.1 c.2.1 c.2.2 x (fun x => some (.inl (f11_l4_put c x))) (fun y => some (.inr (.inl (f11_l4_w0 c y)))) (fun y => some (.inr (.inr (.inl (f11_l4_w1 c y))))) := by kernel_rfl
theorem f11_l4_n {R : Type} (a0 : List ByteArray) (a1 : List ByteArray) (a2 : Int) (a3 : Int) (kin : f11_l4_X → Option R) (k0 : Unit → Option R) (k1 : Unit → Option R) : f11_l4_k a0 a1 a2 a3 kin k0 k1 = (f11_l4_g a0 a1 a2 a3).bind (Sum.elim kin (Sum.elim k0 k1)) := by
  simp only [f11_l4_g, f11_l4_k, cond_bind, ite_bind, bind_bind, some_bind, none_bind, elim_bind, whenS_bind, Sum.elim_inl, Sum.elim_inr]
theorem f11_l4_ok : LoopOk f11_fx f11_l4_b f11_l4_nd := loop_ok f11_l4_con f11_l4_get f11_l4_put f11_l4_pg (fun c => f11_l4_g c.1 c.2.1 c.2.2) f11_l4_out (fun t y => rfl) (by intro R t y K; rcases y with y | y <;> rfl) (fun c x => by
  refine (f11_l4_r c x).trans ((f11_l4_n _ _ _ _ _ _ _).trans ?_)
  first
  | rfl
  | congr 1
    funext s
    rcases s with s | s | s <;> rfl) (fun t => rfl)
noncomputable def f11_k {R : Type} (a0 : List ByteArray) (a1 : List ByteArray) (k : (Bool × Unit) × (Unit) → Option R) : Option R :=
 (cond (((List.length a0 : Nat) : Int) != ((List.length a1 : Nat) : Int))
 (k ((false, ()), ()))
 ((f11_l4 a0 a1 ((List.length a0 : Nat) : Int) (0 : Int)).bind fun y1 =>
  ((Sum.elim (fun z2 =>
  (k ((false, ()), ())))
  (fun z3 =>
  (k ((true, ()), ())))) y1)))
noncomputable def f11 (a0 : List ByteArray) (a1 : List ByteArray) : Option ((Bool × Unit) × (Unit)) := f11_k a0 a1 some
noncomputable def f11_sm : Sm := { ps := [.ro (.slc .str), .ro (.slc .str)], rs := [(.bool, .ro)], F := fun x => f11 x.1 x.2.1 }
theorem f11_m (x : ArgT [.ro (.slc .str), .ro (.slc .str)]) : codeS f11_fx f11_code (start [.ro (.slc .str), .ro (.slc .str)] [] x 26) (finK env [.tmp 4] [.ro (.slc .str), .ro (.slc .str)] [(.bool, .ro)]) = f11_k x.1 x.2.1 (fun r => some (r, [])) := by kernel_rfl
theorem f11_n {R : Type} (a0 : List ByteArray) (a1 : List ByteArray) (k : (Bool × Unit) × (Unit) → Option R) : f11_k a0 a1 k = (f11 a0 a1).bind k := by
  simp only [f11, f11_k, cond_bind, ite_bind, bind_bind, some_bind, none_bind, elim_bind, whenS_bind]
theorem f11_ok : SmOk Tryd.prog 11 f11_sm :=
  sum_of (c := f11_fx) (fn := Tryd.f11) (code := f11_code) (sm := f11_sm) mixed (env_ok env_envB) (TabsOk.all trivial) Tryd.func11 (by kernel_rfl)
   ((LoopsOk.of (l := [f11_l4_b]) (by kernel_rfl) ⟨node_is (by kernel_rfl) f11_l4_ok, trivial⟩))
   (no_tails (by kernel_rfl)) rfl
   (fun ks x hl => by
    have hk : ks = [] := List.length_eq_zero_iff.1 hl
    subst hk
    exact (f11_m x).trans (f11_n _ _ _))
theorem f11_c : CalOk Tryd.prog 11 f11_sm := .inl ⟨f11_ok, ⟨Tryd.f11, Tryd.func11, by kernel_rfl, by kernel_rfl⟩⟩
noncomputable def f3_code : Code := (Tryd.f3.body).getD .skip
noncomputable def f3_l10_sk : SkS := ⟨68, [(0, .con (.slc Qt3)), (0, .con (.int .i64)), (3, .ref 95 []), (0, .nil), (14, .con (.slc Qt3)), (0, .con (.int .i64)), (0, .con (.int .i64)), (9, .con (.slc Qt4)), (0, .con (.int .i64)), (0, .con (.int .i64))], [(95, ⟨none, (.slc .str), (.own .ro), none⟩)]⟩
noncomputable def f3_l10_o0 : SkS := ⟨80, [(0, .con (.slc Qt3)), (0, .con (.int .i64)), (3, .ref 95 []), (0, .nil), (14, .con (.slc Qt3)), (0, .con (.int .i64)), (0, .con (.int .i64))], [(95, ⟨none, (.slc .str), (.own .ro), none⟩)]⟩
noncomputable def f3_l10_outs : List Way := [⟨(.exit 2), [], f3_l10_o0⟩]
abbrev f3_l10_C := (List Qv0 × Int × List Qv0 × Int × Int × List Qv1 × Int)
abbrev f3_l10_X := (Int × List ByteArray)
abbrev f3_l10_Y := (List ByteArray)
noncomputable def f3_l10_con (t : f3_l10_sk.T) : f3_l10_C := (t.1.1, t.1.2.1, t.1.2.2.1, t.1.2.2.2.1, t.1.2.2.2.2.1, t.1.2.2.2.2.2.1, t.1.2.2.2.2.2.2.1)
noncomputable def f3_l10_get (t : f3_l10_sk.T) : f3_l10_X := (t.1.2.2.2.2.2.2.2.1, t.2.1.1)
noncomputable def f3_l10_put (c : f3_l10_C) (x : f3_l10_X) : f3_l10_sk.T := ((c.1, (c.2.1, (c.2.2.1, (c.2.2.2.1, (c.2.2.2.2.1, (c.2.2.2.2.2.1, (c.2.2.2.2.2.2, (x.1, ())))))))), ((x.2, ()), ()))
theorem f3_l10_pg (t : f3_l10_sk.T) : f3_l10_put (f3_l10_con t) (f3_l10_get t) = t := by kernel_rfl
noncomputable def f3_l10_w0 (c : f3_l10_C) (y : List ByteArray) : f3_l10_o0.T := ((c.1, (c.2.1, (c.2.2.1, (c.2.2.2.1, (c.2.2.2.2.1, ()))))), ((y, ()), ()))
noncomputable def f3_l10_out (c : f3_l10_C) (y : f3_l10_Y) : OutV f3_l10_outs := (fun y => (.inl (f3_l10_w0 c y))) y
noncomputable def f3_l10_k {R : Type} (a0 : List Qv0) (a1 : Int) (a2 : List Qv0) (a3 : Int) (a4 : Int) (a5 : List Qv1) (a6 : Int) (a7 : Int) (a8 : List ByteArray) (kin : f3_l10_X → Option R) (k0 : List ByteArray → Option R) : Option R :=
 (cond (decide (a7 < a6))
 (if (0 : Int) ≤ a7 ∧ a7 < ((List.length a5 : Nat) : Int) then (if (List.length a8 + 1) * 16 ≤ most ∧ 0 < 16 ∧ 0 < 1 then (let r3 : List ByteArray := (a8 ++ [(List.getD a5 (Int.toNat a7) (ByteArray.empty, ((0 : Int), ()))).1])
  (let v4 : Int := (IntKind.i64.wrap (a7 + (1 : Int)))
  (kin (v4, r3)))) else none) else none)
 (k0 a8))
noncomputable def f3_l10_g (a0 : List Qv0) (a1 : Int) (a2 : List Qv0) (a3 : Int) (a4 : Int) (a5 : List Qv1) (a6 : Int) (x : f3_l10_X) : Option (f3_l10_X ⊕ f3_l10_Y) := f3_l10_k a0 a1 a2 a3 a4 a5 a6 x.1 x.2 (fun x => some (.inl x)) (fun y => some (.inr y))
noncomputable def f3_l10 (a0 : List Qv0) (a1 : Int) (a2 : List Qv0) (a3 : Int) (a4 : Int) (a5 : List Qv1) (a6 : Int) (x : f3_l10_X) : Option f3_l10_Y := loopO (f3_l10_g a0 a1 a2 a3 a4 a5 a6) x
noncomputable def f3_l10_nd : Node := { nils := [(5, 95, .str, .ro)], sk := f3_l10_sk, outs := f3_l10_outs, Y := f3_l10_Y, L := fun t => f3_l10 ((f3_l10_con t).1) ((f3_l10_con t).2.1) ((f3_l10_con t).2.2.1) ((f3_l10_con t).2.2.2.1) ((f3_l10_con t).2.2.2.2.1) ((f3_l10_con t).2.2.2.2.2.1) ((f3_l10_con t).2.2.2.2.2.2) (f3_l10_get t), out := fun t y => f3_l10_out (f3_l10_con t) y, disp := fun t y K => (fun y => K (.exit 2) (f3_l10_o0.fill (f3_l10_w0 (f3_l10_con t) y))) y }
noncomputable def f3_l5_sk : SkS := ⟨80, [(0, .con (.slc Qt3)), (0, .con (.int .i64)), (3, .ref 95 []), (0, .nil), (14, .con (.slc Qt3)), (0, .con (.int .i64)), (0, .con (.int .i64))], [(95, ⟨none, (.slc .str), (.own .ro), none⟩)]⟩
noncomputable def f3_l5_o0 : SkS := ⟨99, [(4, .con .bool)], []⟩
noncomputable def f3_l5_o1 : SkS := ⟨97, [(0, .con (.slc Qt3)), (0, .con (.int .i64)), (3, .ref 95 []), (0, .nil)], [(95, ⟨none, (.slc .str), (.own .ro), none⟩)]⟩
noncomputable def f3_l5_outs : List Way := [⟨.ret, [], f3_l5_o0⟩, ⟨(.exit 0), [], f3_l5_o1⟩]
abbrev f3_l5_C := (List Qv0 × Int × List Qv0 × Int)
abbrev f3_l5_X := (Int × List ByteArray)
abbrev f3_l5_Y := (Unit) ⊕ (List ByteArray)
noncomputable def f3_l5_con (t : f3_l5_sk.T) : f3_l5_C := (t.1.1, t.1.2.1, t.1.2.2.1, t.1.2.2.2.1)
noncomputable def f3_l5_get (t : f3_l5_sk.T) : f3_l5_X := (t.1.2.2.2.2.1, t.2.1.1)
noncomputable def f3_l5_put (c : f3_l5_C) (x : f3_l5_X) : f3_l5_sk.T := ((c.1, (c.2.1, (c.2.2.1, (c.2.2.2, (x.1, ()))))), ((x.2, ()), ()))
theorem f3_l5_pg (t : f3_l5_sk.T) : f3_l5_put (f3_l5_con t) (f3_l5_get t) = t := by kernel_rfl
noncomputable def f3_l5_w0 (c : f3_l5_C) (y : Unit) : f3_l5_o0.T := ((false, ()), ())
noncomputable def f3_l5_w1 (c : f3_l5_C) (y : List ByteArray) : f3_l5_o1.T := ((c.1, (c.2.1, ())), ((y, ()), ()))
noncomputable def f3_l5_out (c : f3_l5_C) (y : f3_l5_Y) : OutV f3_l5_outs := (Sum.elim (fun y => (.inl (f3_l5_w0 c y))) (fun y => (.inr (.inl (f3_l5_w1 c y))))) y
noncomputable def f3_l5_k {R : Type} (a0 : List Qv0) (a1 : Int) (a2 : List Qv0) (a3 : Int) (a4 : Int) (a5 : List ByteArray) (kin : f3_l5_X → Option R) (k0 : Unit → Option R) (k1 : List ByteArray → Option R) : Option R :=
 (cond (decide (a4 < a3))
 (if (0 : Int) ≤ a4 ∧ a4 < ((List.length a2 : Nat) : Int) then ((f5 (List.getD a2 (Int.toNat a4) (ByteArray.empty, (([] : List Int), (([] : List Qv1), (([] : List (Int × (Int × Qv1))), ())))))).bind fun r1 =>
  ((f6 (List.getD a2 (Int.toNat a4) (ByteArray.empty, (([] : List Int), (([] : List Qv1), (([] : List (Int × (Int × Qv1))), ())))))).bind fun r2 =>
  (cond (r1.1.1 != r2.1.1)
  (k0 ())
  ((f3_l10 a0 a1 a2 a3 a4 (List.getD a2 (Int.toNat a4) (ByteArray.empty, (([] : List Int), (([] : List Qv1), (([] : List (Int × (Int × Qv1))), ()))))).2.2.1 ((List.length (List.getD a2 (Int.toNat a4) (ByteArray.empty, (([] : List Int), (([] : List Qv1), (([] : List (Int × (Int × Qv1))), ()))))).2.2.1 : Nat) : Int) ((0 : Int), a5)).bind fun y5 =>
   (let v6 : Int := (IntKind.i64.wrap (a4 + (1 : Int)))
   (kin (v6, y5))))))) else none)
 (k1 a5))
noncomputable def f3_l5_g (a0 : List Qv0) (a1 : Int) (a2 : List Qv0) (a3 : Int) (x : f3_l5_X) : Option (f3_l5_X ⊕ f3_l5_Y) := f3_l5_k a0 a1 a2 a3 x.1 x.2 (fun x => some (.inl x)) (fun y => some (.inr (.inl y))) (fun y => some (.inr (.inr y)))
noncomputable def f3_l5 (a0 : List Qv0) (a1 : Int) (a2 : List Qv0) (a3 : Int) (x : f3_l5_X) : Option f3_l5_Y := loopO (f3_l5_g a0 a1 a2 a3) x
noncomputable def f3_l5_nd : Node := { nils := [(5, 95, .str, .ro)], sk := f3_l5_sk, outs := f3_l5_outs, Y := f3_l5_Y, L := fun t => f3_l5 ((f3_l5_con t).1) ((f3_l5_con t).2.1) ((f3_l5_con t).2.2.1) ((f3_l5_con t).2.2.2) (f3_l5_get t), out := fun t y => f3_l5_out (f3_l5_con t) y, disp := fun t y K => (Sum.elim (fun y => K .ret (f3_l5_o0.fill (f3_l5_w0 (f3_l5_con t) y))) (fun y => K (.exit 0) (f3_l5_o1.fill (f3_l5_w1 (f3_l5_con t) y)))) y }
noncomputable def f3_l19_sk : SkS := ⟨48, [(0, .con (.slc Qt3)), (0, .con (.int .i64)), (3, .ref 95 []), (0, .ref 111 []), (39, .con (.slc Qt3)), (0, .con (.int .i64)), (0, .con (.int .i64)), (4, .con (.slc Qt7)), (0, .con (.int .i64)), (0, .con (.int .i64))], [(95, ⟨none, (.slc .str), (.own .ro), none⟩), (111, ⟨none, (.slc .str), (.own .ro), none⟩)]⟩
noncomputable def f3_l19_o0 : SkS := ⟨55, [(0, .con (.slc Qt3)), (0, .con (.int .i64)), (3, .ref 95 []), (0, .ref 111 []), (39, .con (.slc Qt3)), (0, .con (.int .i64)), (0, .con (.int .i64))], [(95, ⟨none, (.slc .str), (.own .ro), none⟩), (111, ⟨none, (.slc .str), (.own .ro), none⟩)]⟩
noncomputable def f3_l19_outs : List Way := [⟨(.exit 6), [], f3_l19_o0⟩]
abbrev f3_l19_C := (List Qv0 × Int × List Qv0 × Int × Int × List (Int × (Int × Qv1)) × Int × List ByteArray)
abbrev f3_l19_X := (Int × List ByteArray)
abbrev f3_l19_Y := (List ByteArray)
noncomputable def f3_l19_con (t : f3_l19_sk.T) : f3_l19_C := (t.1.1, t.1.2.1, t.1.2.2.1, t.1.2.2.2.1, t.1.2.2.2.2.1, t.1.2.2.2.2.2.1, t.1.2.2.2.2.2.2.1, t.2.1.1)
noncomputable def f3_l19_get (t : f3_l19_sk.T) : f3_l19_X := (t.1.2.2.2.2.2.2.2.1, t.2.2.1.1)
noncomputable def f3_l19_put (c : f3_l19_C) (x : f3_l19_X) : f3_l19_sk.T := ((c.1, (c.2.1, (c.2.2.1, (c.2.2.2.1, (c.2.2.2.2.1, (c.2.2.2.2.2.1, (c.2.2.2.2.2.2.1, (x.1, ())))))))), ((c.2.2.2.2.2.2.2, ()), ((x.2, ()), ())))
theorem f3_l19_pg (t : f3_l19_sk.T) : f3_l19_put (f3_l19_con t) (f3_l19_get t) = t := by kernel_rfl
noncomputable def f3_l19_w0 (c : f3_l19_C) (y : List ByteArray) : f3_l19_o0.T := ((c.1, (c.2.1, (c.2.2.1, (c.2.2.2.1, (c.2.2.2.2.1, ()))))), ((c.2.2.2.2.2.2.2, ()), ((y, ()), ())))
noncomputable def f3_l19_out (c : f3_l19_C) (y : f3_l19_Y) : OutV f3_l19_outs := (fun y => (.inl (f3_l19_w0 c y))) y
noncomputable def f3_l19_k {R : Type} (a0 : List Qv0) (a1 : Int) (a2 : List Qv0) (a3 : Int) (a4 : Int) (a5 : List (Int × (Int × Qv1))) (a6 : Int) (a7 : Int) (a8 : List ByteArray) (a9 : List ByteArray) (kin : f3_l19_X → Option R) (k0 : List ByteArray → Option R) : Option R :=
 (cond (decide (a7 < a6))
 (if (0 : Int) ≤ a7 ∧ a7 < ((List.length a5 : Nat) : Int) then ((f7 a8 (List.getD a5 (Int.toNat a7) ((0 : Int), ((0 : Int), (ByteArray.empty, ((0 : Int), ()))))).2.2.1).bind fun r10 =>
  (cond (!r10.1.1)
  ((f7 a9 (List.getD a5 (Int.toNat a7) ((0 : Int), ((0 : Int), (ByteArray.empty, ((0 : Int), ()))))).2.2.1).bind fun r11 =>
   (cond (!r11.1.1)
   (if (List.length a9 + 1) * 16 ≤ most ∧ 0 < 16 ∧ 0 < 1 then (let r12 : List ByteArray := (a9 ++ [(List.getD a5 (Int.toNat a7) ((0 : Int), ((0 : Int), (ByteArray.empty, ((0 : Int), ()))))).2.2.1])
    (let v13 : Int := (IntKind.i64.wrap (a7 + (1 : Int)))
    (kin (v13, r12)))) else none)
   (let v14 : Int := (IntKind.i64.wrap (a7 + (1 : Int)))
    (kin (v14, a9)))))
  (let v15 : Int := (IntKind.i64.wrap (a7 + (1 : Int)))
   (kin (v15, a9))))) else none)
 (k0 a9))
noncomputable def f3_l19_g (a0 : List Qv0) (a1 : Int) (a2 : List Qv0) (a3 : Int) (a4 : Int) (a5 : List (Int × (Int × Qv1))) (a6 : Int) (a8 : List ByteArray) (x : f3_l19_X) : Option (f3_l19_X ⊕ f3_l19_Y) := f3_l19_k a0 a1 a2 a3 a4 a5 a6 x.1 a8 x.2 (fun x => some (.inl x)) (fun y => some (.inr y))
noncomputable def f3_l19 (a0 : List Qv0) (a1 : Int) (a2 : List Qv0) (a3 : Int) (a4 : Int) (a5 : List (Int × (Int × Qv1))) (a6 : Int) (a8 : List ByteArray) (x : f3_l19_X) : Option f3_l19_Y := loopO (f3_l19_g a0 a1 a2 a3 a4 a5 a6 a8) x
noncomputable def f3_l19_nd : Node := { nils := [(6, 111, .str, .ro)], sk := f3_l19_sk, outs := f3_l19_outs, Y := f3_l19_Y, L := fun t => f3_l19 ((f3_l19_con t).1) ((f3_l19_con t).2.1) ((f3_l19_con t).2.2.1) ((f3_l19_con t).2.2.2.1) ((f3_l19_con t).2.2.2.2.1) ((f3_l19_con t).2.2.2.2.2.1) ((f3_l19_con t).2.2.2.2.2.2.1) ((f3_l19_con t).2.2.2.2.2.2.2) (f3_l19_get t), out := fun t y => f3_l19_out (f3_l19_con t) y, disp := fun t y K => (fun y => K (.exit 6) (f3_l19_o0.fill (f3_l19_w0 (f3_l19_con t) y))) y }
noncomputable def f3_l16_sk : SkS := ⟨55, [(0, .con (.slc Qt3)), (0, .con (.int .i64)), (3, .ref 95 []), (0, .ref 111 []), (39, .con (.slc Qt3)), (0, .con (.int .i64)), (0, .con (.int .i64))], [(95, ⟨none, (.slc .str), (.own .ro), none⟩), (111, ⟨none, (.slc .str), (.own .ro), none⟩)]⟩
noncomputable def f3_l16_o0 : SkS := ⟨97, [(0, .con (.slc Qt3)), (0, .con (.int .i64)), (4, .ref 111 [])], [(111, ⟨none, (.slc .str), (.own .ro), none⟩)]⟩
noncomputable def f3_l16_outs : List Way := [⟨(.exit 4), [], f3_l16_o0⟩]
abbrev f3_l16_C := (List Qv0 × Int × List Qv0 × Int × List ByteArray)
abbrev f3_l16_X := (Int × List ByteArray)
abbrev f3_l16_Y := (List ByteArray)
noncomputable def f3_l16_con (t : f3_l16_sk.T) : f3_l16_C := (t.1.1, t.1.2.1, t.1.2.2.1, t.1.2.2.2.1, t.2.1.1)
noncomputable def f3_l16_get (t : f3_l16_sk.T) : f3_l16_X := (t.1.2.2.2.2.1, t.2.2.1.1)
noncomputable def f3_l16_put (c : f3_l16_C) (x : f3_l16_X) : f3_l16_sk.T := ((c.1, (c.2.1, (c.2.2.1, (c.2.2.2.1, (x.1, ()))))), ((c.2.2.2.2, ()), ((x.2, ()), ())))
theorem f3_l16_pg (t : f3_l16_sk.T) : f3_l16_put (f3_l16_con t) (f3_l16_get t) = t := by kernel_rfl
noncomputable def f3_l16_w0 (c : f3_l16_C) (y : List ByteArray) : f3_l16_o0.T := ((c.1, (c.2.1, ())), ((y, ()), ()))
noncomputable def f3_l16_out (c : f3_l16_C) (y : f3_l16_Y) : OutV f3_l16_outs := (fun y => (.inl (f3_l16_w0 c y))) y
noncomputable def f3_l16_k {R : Type} (a0 : List Qv0) (a1 : Int) (a2 : List Qv0) (a3 : Int) (a4 : Int) (a5 : List ByteArray) (a6 : List ByteArray) (kin : f3_l16_X → Option R) (k0 : List ByteArray → Option R) : Option R :=
 (cond (decide (a4 < a3))
 (if (0 : Int) ≤ a4 ∧ a4 < ((List.length a2 : Nat) : Int) then ((f3_l19 a0 a1 a2 a3 a4 (List.getD a2 (Int.toNat a4) (ByteArray.empty, (([] : List Int), (([] : List Qv1), (([] : List (Int × (Int × Qv1))), ()))))).2.2.2.1 ((List.length (List.getD a2 (Int.toNat a4) (ByteArray.empty, (([] : List Int), (([] : List Qv1), (([] : List (Int × (Int × Qv1))), ()))))).2.2.2.1 : Nat) : Int) a5 ((0 : Int), a6)).bind fun y16 =>
  (let v17 : Int := (IntKind.i64.wrap (a4 + (1 : Int)))
  (kin (v17, y16)))) else none)
 (k0 a6))
noncomputable def f3_l16_g (a0 : List Qv0) (a1 : Int) (a2 : List Qv0) (a3 : Int) (a5 : List ByteArray) (x : f3_l16_X) : Option (f3_l16_X ⊕ f3_l16_Y) := f3_l16_k a0 a1 a2 a3 x.1 a5 x.2 (fun x => some (.inl x)) (fun y => some (.inr y))
noncomputable def f3_l16 (a0 : List Qv0) (a1 : Int) (a2 : List Qv0) (a3 : Int) (a5 : List ByteArray) (x : f3_l16_X) : Option f3_l16_Y := loopO (f3_l16_g a0 a1 a2 a3 a5) x
noncomputable def f3_l16_nd : Node := { nils := [(6, 111, .str, .ro)], sk := f3_l16_sk, outs := f3_l16_outs, Y := f3_l16_Y, L := fun t => f3_l16 ((f3_l16_con t).1) ((f3_l16_con t).2.1) ((f3_l16_con t).2.2.1) ((f3_l16_con t).2.2.2.1) ((f3_l16_con t).2.2.2.2) (f3_l16_get t), out := fun t y => f3_l16_out (f3_l16_con t) y, disp := fun t y K => (fun y => K (.exit 4) (f3_l16_o0.fill (f3_l16_w0 (f3_l16_con t) y))) y }
noncomputable def f3_fx : Fx := { E := env, T := [(4, f4_sm), (5, f5_sm), (6, f6_sm), (7, f7_sm), (8, f8_sm), (9, f9_sm), (10, f10_sm), (12, f12_sm), (11, f11_sm)], H := [], O := [], nodes := [((true, 10), f3_l10_nd), ((true, 5), f3_l5_nd), ((true, 19), f3_l19_nd), ((true, 16), f3_l16_nd)] }
noncomputable def f3_l10_b : Code := (loops f3_code).getD 1 .skip
theorem f3_l10_r (c : f3_l10_C) (x : f3_l10_X) : roundS f3_fx f3_l10_b f3_l10_nd (f3_l10_put c x) = f3_l10_k c.1 c.2.1 c.2.2.1 c.2.2.2.1 c.2.2.2.2.1 c.2.2.2.2.2.1 c.2.2.2.2.2.2 x.1 x.2 (fun x => some (.inl (f3_l10_put c x))) (fun y => some (.inr (.inl (f3_l10_w0 c y)))) := by kernel_rfl
theorem f3_l10_n {R : Type} (a0 : List Qv0) (a1 : Int) (a2 : List Qv0) (a3 : Int) (a4 : Int) (a5 : List Qv1) (a6 : Int) (a7 : Int) (a8 : List ByteArray) (kin : f3_l10_X → Option R) (k0 : List ByteArray → Option R) : f3_l10_k a0 a1 a2 a3 a4 a5 a6 a7 a8 kin k0 = (f3_l10_g a0 a1 a2 a3 a4 a5 a6 (a7, a8)).bind (Sum.elim kin k0) := by
  simp only [f3_l10_g, f3_l10_k, cond_bind, ite_bind, bind_bind, some_bind, none_bind, elim_bind, whenS_bind, Sum.elim_inl, Sum.elim_inr]
theorem f3_l10_ok : LoopOk f3_fx f3_l10_b f3_l10_nd := loop_ok f3_l10_con f3_l10_get f3_l10_put f3_l10_pg (fun c => f3_l10_g c.1 c.2.1 c.2.2.1 c.2.2.2.1 c.2.2.2.2.1 c.2.2.2.2.2.1 c.2.2.2.2.2.2) f3_l10_out (fun t y => rfl) (fun t y K => rfl) (fun c x => by
  refine (f3_l10_r c x).trans ((f3_l10_n _ _ _ _ _ _ _ _ _ _ _).trans ?_)
  first
  | rfl
  | congr 1
    funext s
    rcases s with s | s <;> rfl) (fun t => rfl)
noncomputable def f3_l5_b : Code := (loops f3_code).getD 0 .skip
theorem f3_l5_r (c : f3_l5_C) (x : f3_l5_X) : roundS f3_fx f3_l5_b f3_l5_nd (f3_l5_put c x) = f3_l5_k c.1 c.2.1 c.2.2.1 c.2.2.2 x.1 x.2 (fun x => some (.inl (f3_l5_put c x))) (fun y => some (.inr (.inl (f3_l5_w0 c y)))) (fun y => some (.inr (.inr (.inl (f3_l5_w1 c y))))) := by kernel_rfl
theorem f3_l5_n {R : Type} (a0 : List Qv0) (a1 : Int) (a2 : List Qv0) (a3 : Int) (a4 : Int) (a5 : List ByteArray) (kin : f3_l5_X → Option R) (k0 : Unit → Option R) (k1 : List ByteArray → Option R) : f3_l5_k a0 a1 a2 a3 a4 a5 kin k0 k1 = (f3_l5_g a0 a1 a2 a3 (a4, a5)).bind (Sum.elim kin (Sum.elim k0 k1)) := by
  simp only [f3_l5_g, f3_l5_k, cond_bind, ite_bind, bind_bind, some_bind, none_bind, elim_bind, whenS_bind, Sum.elim_inl, Sum.elim_inr]
theorem f3_l5_ok : LoopOk f3_fx f3_l5_b f3_l5_nd := loop_ok f3_l5_con f3_l5_get f3_l5_put f3_l5_pg (fun c => f3_l5_g c.1 c.2.1 c.2.2.1 c.2.2.2) f3_l5_out (fun t y => rfl) (by intro R t y K; rcases y with y | y <;> rfl) (fun c x => by
  refine (f3_l5_r c x).trans ((f3_l5_n _ _ _ _ _ _ _ _ _).trans ?_)
  first
  | rfl
  | congr 1
    funext s
    rcases s with s | s | s <;> rfl) (fun t => rfl)
noncomputable def f3_l19_b : Code := (loops f3_code).getD 3 .skip
theorem f3_l19_r (c : f3_l19_C) (x : f3_l19_X) : roundS f3_fx f3_l19_b f3_l19_nd (f3_l19_put c x) = f3_l19_k c.1 c.2.1 c.2.2.1 c.2.2.2.1 c.2.2.2.2.1 c.2.2.2.2.2.1 c.2.2.2.2.2.2.1 x.1 c.2.2.2.2.2.2.2 x.2 (fun x => some (.inl (f3_l19_put c x))) (fun y => some (.inr (.inl (f3_l19_w0 c y)))) := by kernel_rfl
theorem f3_l19_n {R : Type} (a0 : List Qv0) (a1 : Int) (a2 : List Qv0) (a3 : Int) (a4 : Int) (a5 : List (Int × (Int × Qv1))) (a6 : Int) (a7 : Int) (a8 : List ByteArray) (a9 : List ByteArray) (kin : f3_l19_X → Option R) (k0 : List ByteArray → Option R) : f3_l19_k a0 a1 a2 a3 a4 a5 a6 a7 a8 a9 kin k0 = (f3_l19_g a0 a1 a2 a3 a4 a5 a6 a8 (a7, a9)).bind (Sum.elim kin k0) := by
  simp only [f3_l19_g, f3_l19_k, cond_bind, ite_bind, bind_bind, some_bind, none_bind, elim_bind, whenS_bind, Sum.elim_inl, Sum.elim_inr]
theorem f3_l19_ok : LoopOk f3_fx f3_l19_b f3_l19_nd := loop_ok f3_l19_con f3_l19_get f3_l19_put f3_l19_pg (fun c => f3_l19_g c.1 c.2.1 c.2.2.1 c.2.2.2.1 c.2.2.2.2.1 c.2.2.2.2.2.1 c.2.2.2.2.2.2.1 c.2.2.2.2.2.2.2) f3_l19_out (fun t y => rfl) (fun t y K => rfl) (fun c x => by
  refine (f3_l19_r c x).trans ((f3_l19_n _ _ _ _ _ _ _ _ _ _ _ _).trans ?_)
  first
  | rfl
  | congr 1
    funext s
    rcases s with s | s <;> rfl) (fun t => rfl)
noncomputable def f3_l16_b : Code := (loops f3_code).getD 2 .skip
theorem f3_l16_r (c : f3_l16_C) (x : f3_l16_X) : roundS f3_fx f3_l16_b f3_l16_nd (f3_l16_put c x) = f3_l16_k c.1 c.2.1 c.2.2.1 c.2.2.2.1 x.1 c.2.2.2.2 x.2 (fun x => some (.inl (f3_l16_put c x))) (fun y => some (.inr (.inl (f3_l16_w0 c y)))) := by kernel_rfl
theorem f3_l16_n {R : Type} (a0 : List Qv0) (a1 : Int) (a2 : List Qv0) (a3 : Int) (a4 : Int) (a5 : List ByteArray) (a6 : List ByteArray) (kin : f3_l16_X → Option R) (k0 : List ByteArray → Option R) : f3_l16_k a0 a1 a2 a3 a4 a5 a6 kin k0 = (f3_l16_g a0 a1 a2 a3 a5 (a4, a6)).bind (Sum.elim kin k0) := by
  simp only [f3_l16_g, f3_l16_k, cond_bind, ite_bind, bind_bind, some_bind, none_bind, elim_bind, whenS_bind, Sum.elim_inl, Sum.elim_inr]
theorem f3_l16_ok : LoopOk f3_fx f3_l16_b f3_l16_nd := loop_ok f3_l16_con f3_l16_get f3_l16_put f3_l16_pg (fun c => f3_l16_g c.1 c.2.1 c.2.2.1 c.2.2.2.1 c.2.2.2.2) f3_l16_out (fun t y => rfl) (fun t y K => rfl) (fun c x => by
  refine (f3_l16_r c x).trans ((f3_l16_n _ _ _ _ _ _ _ _ _).trans ?_)
  first
  | rfl
  | congr 1
    funext s
    rcases s with s | s <;> rfl) (fun t => rfl)
noncomputable def f3_k {R : Type} (a0 : List Qv0) (a1 : Int) (k : (Bool × Unit) × (Unit) → Option R) : Option R :=
 ((f4).bind fun r0 =>
 (cond (!r0.1.1)
 (k ((false, ()), ()))
 ((f3_l5 a0 a1 a0 ((List.length a0 : Nat) : Int) ((0 : Int), [])).bind fun y7 =>
  ((Sum.elim (fun z8 =>
  (k ((false, ()), ())))
  (fun z9 =>
  ((f3_l16 a0 a1 a0 ((List.length a0 : Nat) : Int) z9 ((0 : Int), [])).bind fun y18 =>
   ((f8 a0 a1).bind fun r19 =>
   ((f9 a0 a1).bind fun r20 =>
   (cond (r19.1.2.1 == r20.1.2.1)
   ((f10 r19.1.1 r20.1.1).bind fun r21 =>
    (cond r21.1.1
    ((f12 a0).bind fun r22 =>
     ((f11 r22.1.1 y18).bind fun r23 =>
     (k ((r23.1.1, ()), ()))))
    (k ((false, ()), ()))))
   (k ((false, ()), ())))))))) y7))))
noncomputable def f3 (a0 : List Qv0) (a1 : Int) : Option ((Bool × Unit) × (Unit)) := f3_k a0 a1 some
noncomputable def f3_sm : Sm := { ps := [.ro (.slc Qt3), .ro (.int .i64)], rs := [(.bool, .ro)], F := fun x => f3 x.1 x.2.1 }
theorem f3_m (x : ArgT [.ro (.slc Qt3), .ro (.int .i64)]) : codeS f3_fx f3_code (start [.ro (.slc Qt3), .ro (.int .i64)] [] x 104) (finK env [.tmp 4] [.ro (.slc Qt3), .ro (.int .i64)] [(.bool, .ro)]) = f3_k x.1 x.2.1 (fun r => some (r, [])) := by kernel_rfl
theorem f3_n {R : Type} (a0 : List Qv0) (a1 : Int) (k : (Bool × Unit) × (Unit) → Option R) : f3_k a0 a1 k = (f3 a0 a1).bind k := by
  simp only [f3, f3_k, cond_bind, ite_bind, bind_bind, some_bind, none_bind, elim_bind, whenS_bind]
theorem f3_ok : SmOk Tryd.prog 3 f3_sm :=
  sum_of (c := f3_fx) (fn := Tryd.f3) (code := f3_code) (sm := f3_sm) mixed (env_ok env_envB) (TabsOk.all ⟨f4_c, f5_c, f6_c, f7_c, f8_c, f9_c, f10_c, f12_c, f11_c, trivial⟩) Tryd.func3 (by kernel_rfl)
   ((LoopsOk.of (l := [f3_l5_b, f3_l10_b, f3_l16_b, f3_l19_b]) (by kernel_rfl) ⟨node_is (by kernel_rfl) f3_l5_ok, node_is (by kernel_rfl) f3_l10_ok, node_is (by kernel_rfl) f3_l16_ok, node_is (by kernel_rfl) f3_l19_ok, trivial⟩))
   (no_tails (by kernel_rfl)) rfl
   (fun ks x hl => by
    have hk : ks = [] := List.length_eq_zero_iff.1 hl
    subst hk
    exact (f3_m x).trans (f3_n _ _ _))
end Go.Proofs.YtmfjebpdkgbggaaDoor.V
