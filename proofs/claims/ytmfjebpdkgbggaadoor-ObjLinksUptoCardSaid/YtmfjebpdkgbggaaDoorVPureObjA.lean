/- Objects: what the checks give. -/
import Derived.Test.YtmfjebpdkgbggaaDoorVPureNames
set_option linter.unusedVariables false
set_option linter.unusedSimpArgs false
namespace Go.Proofs.YtmfjebpdkgbggaaDoor.V
open Go
abbrev LbT := ByteArray × (Int × Unit)
abbrev FxT := Int × (Int × LbT)
abbrev ObT := ByteArray × (List Int × (List LbT × (List FxT × Unit)))
abbrev CdT := Int × (List Int × (List LbT × Unit))
def lb0 : LbT := (ByteArray.empty, ((0 : Int), ()))
def i64 (x : Int) : Prop := -9223372036854775808 ≤ x ∧ x ≤ 9223372036854775807
structure OkO (o : ObT) : Prop where
  nm : o.1.size ≤ 1048576
  bl : o.2.1.length ≤ 1048576
  el : o.2.2.1.length ≤ 1048576
  en : ∀ x ∈ o.2.2.1, x.1.size ≤ 1048576 ∧ i64 x.2.1
  fl : o.2.2.2.1.length ≤ 1048576
  fn : ∀ f ∈ o.2.2.2.1, i64 f.1 ∧ i64 f.2.1 ∧ f.2.2.1.size ≤ 1048576 ∧ i64 f.2.2.2.1
theorem strEq_comm (a b : ByteArray) : strEq a b = strEq b a := by
  rw [Bool.eq_iff_iff, strEq_iff, strEq_iff]; exact eq_comm
theorem strEq_refl (a : ByteArray) : strEq a a = true := (strEq_iff a a).2 rfl
def has (n : ByteArray) (l : List ByteArray) : Bool := l.any (strEq n)
theorem has_app (n : ByteArray) (l m : List ByteArray) : has n (l ++ m) = (has n l || has n m) := by unfold has; rw [List.any_append]
theorem has_one (n m : ByteArray) : has n [m] = strEq n m := by simp [has]
def kt (l : List ByteArray) : List (ByteArray × Bool) := l.map fun n => (n, true)
theorem kt_find (n : ByteArray) : ∀ l : List ByteArray, (mfind .str .bool (kt l) n).getD false = has n l
  | [] => rfl
  | m :: l => by
    show (if strEq n m = true then some true else mfind .str .bool (kt l) n).getD false = (strEq n m || has n l)
    cases strEq n m
    · simpa using kt_find n l
    · rfl
def addN (l : List ByteArray) (n : ByteArray) : List ByteArray := if has n l = true then l else l ++ [n]
theorem kt_set (n : ByteArray) : ∀ l : List ByteArray, mset .str .bool (kt l) n true = kt (addN l n)
  | [] => rfl
  | m :: l => by
    have ih := kt_set n l
    show (if strEq n m = true then (m, true) :: kt l else (m, true) :: mset .str .bool (kt l) n true) = _
    unfold addN at ih ⊢
    have e : has n (m :: l) = (strEq n m || has n l) := rfl
    rw [e]
    cases strEq n m
    · simp only [Bool.false_or, Bool.false_eq_true, if_false]
      rw [ih]
      split <;> rfl
    · simp only [if_true, Bool.true_or]
      rfl
theorem has_addN (m n : ByteArray) (l : List ByteArray) : has m (addN l n) = (has m l || strEq m n) := by
  unfold addN
  split
  · rename_i h
    cases e : strEq m n
    · simp
    · rw [(strEq_iff m n).1 e, h]; rfl
  · rw [has_app, has_one]
theorem idx_of {α : Type} {l : List α} (d : α) (p : α → Bool) {g : Int → Option (Int ⊕ (Int ⊕ Unit))} (hin : ∀ j : Nat, j < l.length → g (j : Int) = some (if p (l.getD j d) = true then .inr (.inl (j : Int)) else .inl ((j : Int) + 1)))
    (hout : g (l.length : Int) = some (.inr (.inr ()))) :
    (∃ m, m < l.length ∧ p (l.getD m d) = true ∧ (∀ j, j < m → p (l.getD j d) = false) ∧ loopO g 0 = some (.inl (m : Int)) ∧ l.any p = true) ∨ (l.any p = false ∧ loopO g 0 = some (.inr ())) := by
  rcases search (Y := Int ⊕ Unit) l.length (fun j => p (l.getD j d)) (fun m => .inl (m : Int)) (.inr ()) hin hout with ⟨m, m1, m2, m3, e⟩ | ⟨m1, e⟩
  · exact .inl ⟨m, m1, m2, m3, e, List.any_eq_true.2 ⟨_, getD_mem m1, m2⟩⟩
  · refine .inr ⟨?_, e⟩
    rw [List.any_eq_false]
    intro x hx
    obtain ⟨j, hj, rfl⟩ := mem_getD d hx
    rw [m1 j hj]; simp
def nameB (s : ByteArray) : Bool := nameOk (s2b s)
theorem s2b_len (s : ByteArray) : (s2b s).length = s.size := by unfold s2b; rw [List.length_map]; rfl
theorem nm14 {s : ByteArray} (h : s.size ≤ 1048576) : f14 s = some ((nameB s, ()), ()) := by
  have := name39 (s2b_byte s) (by rw [s2b_len]; omega)
  rwa [b2s_s2b] at this
theorem nm18 {s : ByteArray} (h : s.size ≤ 1048576) : f18 s = some ((nameB s, ()), ()) := by
  have := name40 (s2b_byte s) (by rw [s2b_len]; omega)
  rwa [b2s_s2b] at this
theorem any_names {l : List LbT} (n : ByteArray) : l.any (fun y => strEq y.1 n) = has n (l.map (·.1)) := by
  unfold has
  rw [List.any_map]
  congr 1; funext y
  exact strEq_comm _ _
theorem has15 {l : List LbT} (hl : l.length ≤ 140737488355328) (x : LbT) : f15 l (x, ()) = some ((has x.1 (l.map (·.1)), ()), ()) := by
  have e : ∀ z, f21_l2 l x ((List.length l : Nat) : Int) 0 = some z → f15 l (x, ()) = some ((decide ((match z with | .inl r => r | .inr _ => (-1 : Int)) ≥ 0), ()), ()) := fun z hz => by
    unfold f15 f15_k f21 f21_k
    simp only
    rw [hz]
    cases z <;> rfl
  rw [← any_names]
  rcases idx_of (l := l) lb0 (fun y => strEq y.1 x.1) (g := f21_l2_g l x ((List.length l : Nat) : Int)) (fun j hj => by
    unfold f21_l2_g f21_l2_k
    rw [dlt hj]
    simp only [cond_true]
    rw [if_pos (in_row hj), Int.toNat_natCast, wj (by omega)]
    unfold f16 f16_k
    simp only [some_bind]
    show _ = some (if strEq (l.getD j lb0).1 x.1 = true then _ else _)
    have : (List.getD l j (ByteArray.empty, ((0 : Int), ()))) = l.getD j lb0 := rfl
    rw [this]
    cases strEq (l.getD j lb0).1 x.1 <;> rfl) (by unfold f21_l2_g f21_l2_k; rw [dge]; rfl) with ⟨m, _, _, _, h, ha⟩ | ⟨ha, h⟩
  · rw [e _ h, ha]
    simp only
    rw [decide_eq_true (by omega)]
  · rw [e _ h, ha]
    rfl
theorem has15x {l : List LbT} (hl : l.length ≤ 140737488355328) (x : LbT) : f15x1 l (x, ()) = some ((has x.1 (l.map (·.1)), ()), ()) := by
  have e : ∀ z, f21x1_l2 l x ((List.length l : Nat) : Int) 0 = some z → f15x1 l (x, ()) = some ((decide ((match z with | .inl r => r | .inr _ => (-1 : Int)) ≥ 0), ()), ()) := fun z hz => by
    unfold f15x1 f15x1_k f21x1 f21x1_k
    simp only
    rw [hz]
    cases z <;> rfl
  rw [← any_names]
  rcases idx_of (l := l) lb0 (fun y => strEq y.1 x.1) (g := f21x1_l2_g l x ((List.length l : Nat) : Int)) (fun j hj => by
    unfold f21x1_l2_g f21x1_l2_k
    rw [dlt hj]
    simp only [cond_true]
    rw [if_pos (in_row hj), Int.toNat_natCast, wj (by omega)]
    unfold f30 f30_k
    simp only [some_bind]
    have : (List.getD l j (ByteArray.empty, ((0 : Int), ()))) = l.getD j lb0 := rfl
    rw [this]
    cases strEq (l.getD j lb0).1 x.1 <;> rfl) (by unfold f21x1_l2_g f21x1_l2_k; rw [dge]; rfl) with ⟨m, _, _, _, h, ha⟩ | ⟨ha, h⟩
  · rw [e _ h, ha]
    simp only
    rw [decide_eq_true (by omega)]
  · rw [e _ h, ha]
    rfl
def expF (n : Nat) (x : LbT) (seen : List ByteArray) : List ByteArray ⊕ (Int ⊕ Unit) :=
  if nameB x.1 = false then .inr (.inl 15) else if has x.1 seen = true then .inr (.inl 5) else if x.2.1 < 0 then .inr (.inl 19) else if x.2.1 > (n : Int) then .inr (.inl 19) else .inl (seen ++ [x.1])
def expM (o : ObT) : Int ⊕ Unit := foldE (expF o.2.1.length) (fun _ => .inr ()) o.2.2.1 []
theorem expF_inl {n : Nat} {x : LbT} {s s' : List ByteArray} (h : expF n x s = .inl s') : s' = s ++ [x.1] ∧ has x.1 s = false ∧ 0 ≤ x.2.1 ∧ x.2.1 ≤ (n : Int) := by
  unfold expF at h
  split at h
  · cases h
  · split at h
    · cases h
    · split at h
      · cases h
      · split at h
        · cases h
        · rename_i h1 h2 h3 h4
          cases h
          exact ⟨rfl, by simpa using h2, by omega, by omega⟩
theorem take_names {xs : List LbT} {j : Nat} (hj : j < xs.length) : (xs.take (j + 1)).map (·.1) = (xs.take j).map (·.1) ++ [(xs.getD j lb0).1] := by
  rw [take_succ_getD (d := lb0) hj, List.map_append]; rfl
theorem exp5 {o : ObT} (h : OkO o) : f5_l6 o.2.2.1 ((List.length o.2.2.1 : Nat) : Int) o 0 = some (expM o) := by
  unfold f5_l6 expM
  refine loop_list lb0 o.2.2.1 (fun j _ => (j : Int)) (fun j s => s = (o.2.2.1.take j).map (·.1)) (expF o.2.1.length) (fun _ => .inr ()) (fun j s hj hp => ⟨?_, fun s' hs => ?_⟩) (fun s hp => ?_) [] rfl rfl
  · have hx := (h.en _ (getD_mem (d := lb0) hj)).1
    have he := h.el
    unfold f5_l6_g f5_l6_k
    rw [dlt hj]
    simp only [cond_true]
    rw [if_pos (in_row hj), Int.toNat_natCast]
    have e0 : (List.getD o.2.2.1 j (ByteArray.empty, ((0 : Int), ()))) = o.2.2.1.getD j lb0 := rfl
    rw [e0, nm14 hx, wj (by omega)]
    simp only [some_bind]
    unfold expF
    cases nameB (o.2.2.1.getD j lb0).1 with
    | false => rfl
    | true =>
      simp only [Bool.not_true, cond_false, Bool.true_eq_false, if_false]
      rw [if_pos ⟨Int.le_refl 0, by omega, by omega⟩, Nat.sub_zero, List.drop_zero, has15 (by rw [List.length_take]; omega)]
      simp only [some_bind]
      rw [hp]
      cases has (o.2.2.1.getD j lb0).1 ((o.2.2.1.take j).map (·.1)) with
      | true => rfl
      | false =>
        simp only [cond_false, Bool.false_eq_true, if_false]
        by_cases c1 : (o.2.2.1.getD j lb0).2.1 < 0
        · rw [decide_eq_true c1, if_pos c1]; rfl
        · rw [decide_eq_false c1, if_neg c1]
          simp only [cond_false]
          by_cases c2 : (o.2.2.1.getD j lb0).2.1 > ((List.length o.2.1 : Nat) : Int)
          · rw [decide_eq_true c2, if_pos c2]; rfl
          · rw [decide_eq_false c2, if_neg c2]; rfl
  · rw [(expF_inl hs).1, hp, take_names hj]
  · unfold f5_l6_g f5_l6_k
    rw [dge]; rfl
theorem exp6 {o : ObT} (h : OkO o) : f6_l7 o.2.2.1 ((List.length o.2.2.1 : Nat) : Int) o ((0 : Int), ([] : List (ByteArray × Bool))) = some (expM o) := by
  unfold f6_l7 expM
  refine loop_list lb0 o.2.2.1 (fun j s => ((j : Int), kt s)) (fun _ _ => True) (expF o.2.1.length) (fun _ => .inr ()) (fun j s hj _ => ⟨?_, fun s' hs => trivial⟩) (fun s hp => ?_) [] trivial rfl
  · have hx := (h.en _ (getD_mem (d := lb0) hj)).1
    have he := h.el
    unfold f6_l7_g f6_l7_k
    rw [dlt hj]
    simp only [cond_true]
    rw [if_pos (in_row hj), Int.toNat_natCast]
    have e0 : (List.getD o.2.2.1 j (ByteArray.empty, ((0 : Int), ()))) = o.2.2.1.getD j lb0 := rfl
    rw [e0, nm18 hx, wj (by omega), kt_find, kt_set]
    simp only [some_bind]
    unfold expF
    cases nameB (o.2.2.1.getD j lb0).1 with
    | false => rfl
    | true =>
      simp only [Bool.not_true, cond_false, Bool.true_eq_false, if_false]
      cases hh : has (o.2.2.1.getD j lb0).1 s with
      | true => rfl
      | false =>
        simp only [cond_false, Bool.false_eq_true, if_false]
        by_cases c1 : (o.2.2.1.getD j lb0).2.1 < 0
        · rw [decide_eq_true c1, if_pos c1]; rfl
        · rw [decide_eq_false c1, if_neg c1]
          simp only [cond_false]
          by_cases c2 : (o.2.2.1.getD j lb0).2.1 > ((List.length o.2.1 : Nat) : Int)
          · rw [decide_eq_true c2, if_pos c2]; rfl
          · rw [decide_eq_false c2, if_neg c2]
            simp only [cond_false]
            unfold addN
            rw [hh]; rfl
  · unfold f6_l7_g f6_l7_k
    rw [dge]; rfl
def fx0 : FxT := ((0 : Int), ((0 : Int), (ByteArray.empty, ((0 : Int), ()))))
def fixE (n : Nat) (f : FxT) : Int :=
  if f.2.1 < 0 ∨ f.2.1 > 3 ∨ f.2.2.2.1 < -65535 ∨ f.2.2.2.1 > 65535 then 1 else if f.1 < 0 ∨ f.1 + (if f.2.1 = 2 then 2 else 1) > (n : Int) then 19 else if nameB f.2.2.1 = false then 15 else 0
theorem fix17t {o : ObT} (hn : o.2.1.length ≤ 4096) {f : FxT} (h1 : i64 f.1) (h3 : f.2.2.1.size ≤ 1048576) {s : Int} (hs : s = if f.2.1 = 2 then 2 else 1) : f17_t4 s o f = some (fixE o.2.1.length f) := by
  have hs2 : s = 1 ∨ s = 2 := by rw [hs]; split <;> omega
  unfold f17_t4 f17_t4_k fixE
  rw [← hs, nm14 h3]
  by_cases c1 : f.2.1 < 0
  · rw [decide_eq_true c1, if_pos (.inl c1)]; rfl
  rw [decide_eq_false c1]
  by_cases c2 : f.2.1 > 3
  · rw [decide_eq_true c2, if_pos (.inr (.inl c2))]; rfl
  rw [decide_eq_false c2]
  by_cases c3 : f.2.2.2.1 < -65535
  · rw [decide_eq_true c3, if_pos (.inr (.inr (.inl c3)))]; rfl
  rw [decide_eq_false c3]
  by_cases c4 : f.2.2.2.1 > 65535
  · rw [decide_eq_true c4, if_pos (.inr (.inr (.inr c4)))]; rfl
  rw [decide_eq_false c4, if_neg (by omega)]
  simp only [cond_false]
  by_cases c5 : f.1 < 0
  · rw [decide_eq_true c5, if_pos (.inl c5)]; rfl
  rw [decide_eq_false c5]
  simp only [cond_false]
  unfold i64 at h1
  by_cases c6 : f.1 > 4096
  · rw [if_pos (.inr (by omega)), decide_eq_true c6]
    cases decide (IntKind.i64.wrap (f.1 + s) > ((List.length o.2.1 : Nat) : Int)) <;> rfl
  rw [wi (by omega) (by omega), decide_eq_false c6]
  by_cases c7 : f.1 + s > ((List.length o.2.1 : Nat) : Int)
  · rw [decide_eq_true c7, if_pos (.inr c7)]; rfl
  rw [decide_eq_false c7, if_neg (by omega)]
  simp only [cond_false, some_bind]
  cases nameB f.2.2.1 <;> rfl
theorem fix17 {o : ObT} (hn : o.2.1.length ≤ 4096) {f : FxT} (h1 : i64 f.1) (h3 : f.2.2.1.size ≤ 1048576) : f17 o f = some ((fixE o.2.1.length f, ()), ()) := by
  unfold f17 f17_k
  by_cases c : f.2.1 = 2
  · rw [beq_iff_eq.2 c, fix17t hn h1 h3 (by rw [if_pos c])]; rfl
  · rw [beq_eq_false_iff_ne.2 c]
    simp only [cond_false]
    rw [fix17t hn h1 h3 (by rw [if_neg c])]; rfl
def fixF (n : Nat) (f : FxT) (_ : Unit) : Unit ⊕ (Int ⊕ Unit) := if fixE n f ≠ 0 then .inr (.inl (fixE n f)) else .inl ()
def fixM (o : ObT) : Int ⊕ Unit := foldE (fixF o.2.1.length) (fun _ => .inr ()) o.2.2.2.1 ()
theorem fix5 {o : ObT} (h : OkO o) (hn : o.2.1.length ≤ 4096) : f5_l16 o.2.2.2.1 ((List.length o.2.2.2.1 : Nat) : Int) o 0 = some (fixM o) := by
  unfold f5_l16 fixM
  refine loop_list fx0 o.2.2.2.1 (fun j _ => (j : Int)) (fun _ _ => True) (fixF o.2.1.length) (fun _ => .inr ()) (fun j s hj _ => ⟨?_, fun s' hs => trivial⟩) (fun s hp => ?_) () trivial rfl
  · obtain ⟨x1, _, x3, _⟩ := h.fn _ (getD_mem (d := fx0) hj)
    have he := h.fl
    unfold f5_l16_g f5_l16_k
    rw [dlt hj]
    simp only [cond_true]
    rw [if_pos (in_row hj), Int.toNat_natCast]
    have e0 : (List.getD o.2.2.2.1 j ((0 : Int), ((0 : Int), (ByteArray.empty, ((0 : Int), ()))))) = o.2.2.2.1.getD j fx0 := rfl
    rw [e0, fix17 hn x1 x3, wj (by omega)]
    simp only [some_bind]
    unfold fixF
    by_cases c : fixE o.2.1.length (o.2.2.2.1.getD j fx0) = 0
    · rw [c]; rfl
    · rw [if_pos c, bne_iff_ne.2 c]; rfl
  · unfold f5_l16_g f5_l16_k
    rw [dge]; rfl
def fixG (e : Int) : Int ⊕ Unit := if e ≠ 0 then .inl e else .inr ()
theorem fix23 {o : ObT} (hn : o.2.1.length ≤ 4096) {f : FxT} (h1 : i64 f.1) (h3 : f.2.2.1.size ≤ 1048576) (a1 : List FxT) (a2 a3 : Int) {s : Int} (hs : s = if f.2.1 = 2 then IntKind.i64.wrap (f.1 + 1) else f.1) :
    f6_t23 s a1 a2 a3 o f = some (fixG (fixE o.2.1.length f)) := by
  unfold f6_t23 f6_t23_k fixE
  rw [nm18 h3]
  by_cases c1 : f.2.1 < 0
  · rw [decide_eq_true c1, if_pos (.inl c1)]; rfl
  rw [decide_eq_false c1]
  by_cases c2 : f.2.1 > 3
  · rw [decide_eq_true c2, if_pos (.inr (.inl c2))]; rfl
  rw [decide_eq_false c2]
  by_cases c3 : f.2.2.2.1 < -65535
  · rw [decide_eq_true c3, if_pos (.inr (.inr (.inl c3)))]; rfl
  rw [decide_eq_false c3]
  by_cases c4 : f.2.2.2.1 > 65535
  · rw [decide_eq_true c4, if_pos (.inr (.inr (.inr c4)))]; rfl
  rw [decide_eq_false c4, if_neg (by omega)]
  simp only [cond_false]
  by_cases c5 : f.1 < 0
  · rw [decide_eq_true c5, if_pos (.inl c5)]; rfl
  rw [decide_eq_false c5]
  simp only [cond_false]
  unfold i64 at h1
  by_cases c6 : f.1 ≥ ((List.length o.2.1 : Nat) : Int)
  · rw [if_pos (.inr (by split <;> omega)), decide_eq_true c6]; rfl
  rw [decide_eq_false c6]
  simp only [cond_false]
  have hs2 : s = f.1 + (if f.2.1 = 2 then 2 else 1) - 1 := by
    rw [hs]
    split
    · rw [wi (by omega) (by omega)]; omega
    · omega
  by_cases c7 : s ≥ ((List.length o.2.1 : Nat) : Int)
  · rw [decide_eq_true c7, if_pos (.inr (by omega))]; rfl
  rw [decide_eq_false c7, if_neg (by omega)]
  simp only [cond_false, some_bind]
  cases nameB f.2.2.1 <;> rfl
theorem fix6 {o : ObT} (h : OkO o) (hn : o.2.1.length ≤ 4096) : f6_l18 o.2.2.2.1 ((List.length o.2.2.2.1 : Nat) : Int) o 0 = some (fixM o) := by
  unfold f6_l18 fixM
  refine loop_list fx0 o.2.2.2.1 (fun j _ => (j : Int)) (fun _ _ => True) (fixF o.2.1.length) (fun _ => .inr ()) (fun j s hj _ => ⟨?_, fun s' hs => trivial⟩) (fun s hp => ?_) () trivial rfl
  · obtain ⟨x1, _, x3, _⟩ := h.fn _ (getD_mem (d := fx0) hj)
    have he := h.fl
    unfold f6_l18_g f6_l18_k
    rw [dlt hj]
    simp only [cond_true]
    rw [if_pos (in_row hj), Int.toNat_natCast]
    have e0 : (List.getD o.2.2.2.1 j ((0 : Int), ((0 : Int), (ByteArray.empty, ((0 : Int), ()))))) = o.2.2.2.1.getD j fx0 := rfl
    rw [e0, wj (by omega)]
    unfold fixF
    by_cases c2 : (o.2.2.2.1.getD j fx0).2.1 = 2
    · rw [beq_iff_eq.2 c2]
      simp only [cond_true]
      rw [fix23 hn x1 x3 _ _ _ (by rw [if_pos c2])]
      unfold fixG
      by_cases c : fixE o.2.1.length (o.2.2.2.1.getD j fx0) = 0
      · rw [if_neg (fun hh => hh c), if_neg (fun hh => hh c)]; rfl
      · rw [if_pos c, if_pos c]; rfl
    · rw [beq_eq_false_iff_ne.2 c2]
      simp only [cond_false]
      rw [fix23 hn x1 x3 _ _ _ (by rw [if_neg c2])]
      unfold fixG
      by_cases c : fixE o.2.1.length (o.2.2.2.1.getD j fx0) = 0
      · rw [if_neg (fun hh => hh c), if_neg (fun hh => hh c)]; rfl
      · rw [if_pos c, if_pos c]; rfl
  · unfold f6_l18_g f6_l18_k
    rw [dge]; rfl
def chkO (o : ObT) : Int :=
  if nameB o.1 = false then 15 else if o.2.1.length > 4096 then 2 else if o.2.2.1.length > 64 then 2 else if o.2.2.2.1.length > 256 then 2 else
  match expM o with | .inl e => e | .inr _ => match fixM o with | .inl e => e | .inr _ => 0
theorem chk5 {o : ObT} (h : OkO o) : f5 o = some ((chkO o, ()), ()) := by
  unfold f5 f5_k chkO
  rw [nm14 h.nm]
  simp only [some_bind]
  cases nameB o.1 with
  | false => rfl
  | true =>
    simp only [Bool.not_true, cond_false, Bool.true_eq_false, if_false]
    by_cases c1 : o.2.1.length > 4096
    · rw [decide_eq_true (by omega), if_pos c1]; rfl
    rw [decide_eq_false (by omega), if_neg c1]
    simp only [cond_false]
    by_cases c2 : o.2.2.1.length > 64
    · rw [decide_eq_true (by omega), if_pos c2]; rfl
    rw [decide_eq_false (by omega), if_neg c2]
    simp only [cond_false]
    by_cases c3 : o.2.2.2.1.length > 256
    · rw [decide_eq_true (by omega), if_pos c3]; rfl
    rw [decide_eq_false (by omega), if_neg c3, exp5 h]
    simp only [cond_false, some_bind]
    cases expM o with
    | inl e => rfl
    | inr u =>
      simp only [Sum.elim_inr]
      rw [fix5 h (by omega)]
      simp only [some_bind]
      cases fixM o <;> rfl
theorem chk6 {o : ObT} (h : OkO o) : f6 o = some ((chkO o, ()), ()) := by
  unfold f6 f6_k chkO
  rw [nm18 h.nm]
  simp only [some_bind]
  cases nameB o.1 with
  | false => rfl
  | true =>
    simp only [Bool.not_true, cond_false, Bool.true_eq_false, if_false]
    by_cases c1 : o.2.1.length > 4096
    · rw [decide_eq_true (by omega), if_pos c1]; rfl
    rw [decide_eq_false (by omega), if_neg c1]
    simp only [cond_false]
    by_cases c2 : o.2.2.1.length > 64
    · rw [decide_eq_true (by omega), if_pos c2]; rfl
    rw [decide_eq_false (by omega), if_neg c2]
    simp only [cond_false]
    by_cases c3 : o.2.2.2.1.length > 256
    · rw [decide_eq_true (by omega), if_pos c3]; rfl
    rw [decide_eq_false (by omega), if_neg c3, exp6 h]
    simp only [cond_false, some_bind]
    cases expM o with
    | inl e => rfl
    | inr u =>
      simp only [Sum.elim_inr]
      rw [fix6 h (by omega)]
      simp only [some_bind]
      cases fixM o <;> rfl
structure GoodO (o : ObT) : Prop where
  ok : OkO o
  bl : o.2.1.length ≤ 4096
  el : o.2.2.1.length ≤ 64
  fl : o.2.2.2.1.length ≤ 256
  ex : ∀ x ∈ o.2.2.1, 0 ≤ x.2.1 ∧ x.2.1 ≤ (o.2.1.length : Int)
  fx : ∀ f ∈ o.2.2.2.1, fixE o.2.1.length f = 0
theorem exp_all {n : Nat} : ∀ (l : List LbT) (s : List ByteArray), foldE (expF n) (fun _ => (.inr () : Int ⊕ Unit)) l s = .inr () → ∀ x ∈ l, 0 ≤ x.2.1 ∧ x.2.1 ≤ (n : Int)
  | [], _, _, x, hx => by cases hx
  | a :: l, s, h, x, hx => by
    rw [foldE_cons] at h
    cases hf : expF n a s with
    | inl s' =>
      rw [hf] at h
      rcases List.mem_cons.1 hx with rfl | hx
      · exact (expF_inl hf).2.2
      · exact exp_all l s' h x hx
    | inr y =>
      rw [hf] at h
      have h : y = .inr () := h
      subst h
      unfold expF at hf
      repeat' split at hf
      all_goals cases hf
theorem fix_all {n : Nat} : ∀ (l : List FxT) (s : Unit), foldE (fixF n) (fun _ => (.inr () : Int ⊕ Unit)) l s = .inr () → ∀ f ∈ l, fixE n f = 0
  | [], _, _, x, hx => by cases hx
  | a :: l, s, h, x, hx => by
    rw [foldE_cons] at h
    unfold fixF at h
    by_cases c : fixE n a = 0
    · rw [if_neg (fun hh => hh c)] at h
      rcases List.mem_cons.1 hx with rfl | hx
      · exact c
      · exact fix_all l () h x hx
    · rw [if_pos c] at h; cases h
theorem exp_err {n : Nat} : ∀ (l : List LbT) (s : List ByteArray) {e : Int}, foldE (expF n) (fun _ => (.inr () : Int ⊕ Unit)) l s = .inl e → e ≠ 0
  | [], _, _, h => by cases h
  | a :: l, s, e, h => by
    rw [foldE_cons] at h
    cases hf : expF n a s with
    | inl s' => rw [hf] at h; exact exp_err l s' h
    | inr y =>
      rw [hf] at h
      have h : y = .inl e := h
      subst h
      unfold expF at hf
      repeat' split at hf
      all_goals cases hf
      all_goals decide
theorem fix_err {n : Nat} : ∀ (l : List FxT) (s : Unit) {e : Int}, foldE (fixF n) (fun _ => (.inr () : Int ⊕ Unit)) l s = .inl e → e ≠ 0
  | [], _, _, h => by cases h
  | a :: l, s, e, h => by
    rw [foldE_cons] at h
    unfold fixF at h
    by_cases c : fixE n a = 0
    · rw [if_neg (fun hh => hh c)] at h; exact fix_err l () h
    · rw [if_pos c] at h; cases h; exact c
theorem good_of {o : ObT} (h : OkO o) (hc : chkO o = 0) : GoodO o := by
  unfold chkO at hc
  split at hc
  · cases hc
  split at hc
  · cases hc
  split at hc
  · cases hc
  split at hc
  · cases hc
  rename_i c1 c2 c3 c4
  split at hc
  · rename_i e he; exact absurd hc (exp_err _ _ he)
  rename_i u he
  split at hc
  · rename_i e hf; exact absurd hc (fix_err _ _ hf)
  rename_i u2 hf
  exact ⟨h, by omega, by omega, by omega, exp_all _ _ he, fix_all _ _ hf⟩
end Go.Proofs.YtmfjebpdkgbggaaDoor.V
