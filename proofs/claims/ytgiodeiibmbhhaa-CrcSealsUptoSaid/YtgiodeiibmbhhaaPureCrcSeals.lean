/-
  CrcSeals: for all rows of bytes of at most 1048576 bytes: Seal, Open and Burst of package crc return what the reference's functions and the law's own search return.
-/
import Derived.Test.YtgiodeiibmbhhaaZCrcSeals
set_option linter.unusedVariables false
set_option linter.unusedSimpArgs false
namespace Go.Proofs.Ytgiodeiibmbhhaa.Pure
open Go Go.RowKit Go.Proofs.YtgiodeiibmbhhaaW.PrintWords Go.Proofs.YtgiodeiibmbhhaaW.PrintLast Go.Proofs.YtgiodeiibmbhhaaW.PrintMore Go.Proofs.Ytgiodeiibmbhhaa.PCrcSeals Go.Proofs.Ytgiodeiibmbhhaa.Bk Go.Proofs.Ytgiodeiibmbhhaa.BkCrcSeals
theorem begun_ev : Ev (fun k => bakelaw2_crcBegun.f k) true := Ev.of bakelaw2_crcBegun.mono (k := 40) (by decide +kernel)
section
variable (x0 x1 : List Int) (X Y : List Bool) (N : Nat) (d : Nat → Bool)
theorem drop_none (hX : X.length = N) (hY : Y.length = N) (hd : ∀ i, i < N → d i = (X.getD i false != Y.getD i false)) : ∀ (m k : Nat), m + k = N → decide (X.drop k = Y.drop k) = noneF d m k
  | 0, k, h => by
    rw [List.drop_eq_nil_of_le (by omega), List.drop_eq_nil_of_le (by omega)]; rfl
  | m + 1, k, h => by
    have ih := drop_none hX hY hd m (k + 1) (by omega)
    have hkX : k < X.length := by omega
    have hkY : k < Y.length := by omega
    rw [List.drop_eq_getElem_cons hkX, List.drop_eq_getElem_cons hkY]
    unfold noneF
    have e := hd k (by omega)
    rw [List.getD_eq_getElem?_getD, List.getElem?_eq_getElem hkX, List.getD_eq_getElem?_getD, List.getElem?_eq_getElem hkY] at e
    simp only [Option.getD_some] at e
    rw [e, ← ih]
    cases X[k] <;> cases Y[k] <;> simp
theorem inner_no (hX : X.length = N) (hY : Y.length = N) (hN : N ≤ 140737488355327) (n : Int) (i : Nat) (hi : i < N) (hne : n = 0 → (X.getD i false != Y.getD i false) = false)
    (hnext : Ev (fun k => bakelaw2_CrcSeals.l0 k x0 x1 n X Y (N : Int) ((i + 1 : Nat) : Int)) true) : ∀ (m k : Nat), m + k = N → Ev (fun q => bakelaw2_CrcSeals.l1 q x0 x1 n X Y (i : Int) (k : Int) (N : Int) (i : Int)) true := by
  have w3 : wrap64 ((i : Int) + 1) = ((i + 1 : Nat) : Int) := by rw [w64 _ (by omega) (by omega)]; omega
  have hout : Ev (fun q => bakelaw2_CrcSeals.j4 q x0 x1 n X Y (i : Int) (N : Int) (N : Int) (i : Int) false) true := by
    refine Ev.step (fun q => ?_) hnext
    simp only [bakelaw2_CrcSeals.j4]; rw [if_neg (by simp), w3]
  intro m
  induction m with
  | zero =>
    intro k h
    have hk : k = N := by omega
    subst hk
    refine Ev.step (fun q => ?_) hout
    simp only [bakelaw2_CrcSeals.l1]; rw [if_neg (by omega)]
  | succ m ih =>
    intro k h
    by_cases h0 : n = 0
    · have ih' := ih (k + 1) (by omega)
      have w4 : wrap64 ((k : Int) + 1) = ((k + 1 : Nat) : Int) := by rw [w64 _ (by omega) (by omega)]; omega
      refine Ev.step (f := fun q => bakelaw2_CrcSeals.j4 q x0 x1 n X Y (i : Int) (k : Int) (N : Int) (i : Int) (n == 0)) (fun q => ?_) (Ev.step (fun q => ?_) ih')
      · simp only [bakelaw2_CrcSeals.l1]; rw [if_pos (by omega)]
      · have e : (n == 0) = true := by simp [h0]
        have rX : rdOf false X (i : Int) = X.getD i false := by simp [rdOf]
        have rY : rdOf false Y (i : Int) = Y.getD i false := by simp [rdOf]
        simp only [bakelaw2_CrcSeals.j4]
        rw [e, if_pos rfl, if_pos (by omega), if_pos (by omega), if_pos (by omega), rX, rY, if_neg (by rw [hne h0]; simp), w4]
    · refine Ev.step (f := fun q => bakelaw2_CrcSeals.j4 q x0 x1 n X Y (i : Int) (k : Int) (N : Int) (i : Int) (n == 0)) (fun q => ?_) ?_
      · simp only [bakelaw2_CrcSeals.l1]; rw [if_pos (by omega)]
      · have e : (n == 0) = false := by simp [h0]
        rw [e]
        refine Ev.step (fun q => ?_) hnext
        simp only [bakelaw2_CrcSeals.j4]; rw [if_neg (by simp), w3]
theorem inner_yes (hX : X.length = N) (hY : Y.length = N) (hN : N ≤ 140737488355327) (hd : ∀ i, i < N → d i = (X.getD i false != Y.getD i false)) (i : Nat) (hi : i < N) (hne : d i = true) : ∀ (m k : Nat), m + k + 1 = N → i ≤ k →
    Ev (fun q => bakelaw2_CrcSeals.l0 q x0 x1 (runF d m k ((k : Int) - i + 1)) X Y (N : Int) ((i + 1 : Nat) : Int)) true → Ev (fun q => bakelaw2_CrcSeals.l1 q x0 x1 0 X Y (i : Int) (k : Int) (N : Int) (i : Int)) true := by
  intro m
  induction m with
  | zero =>
    intro k h hik hnext
    have w4 : wrap64 ((k : Int) + 1) = ((k + 1 : Nat) : Int) := by rw [w64 _ (by omega) (by omega)]; omega
    have rX : rdOf false X (i : Int) = X.getD i false := by simp [rdOf]
    have rY : rdOf false Y (i : Int) = Y.getD i false := by simp [rdOf]
    have hdi : (X.getD i false != Y.getD i false) = true := by rw [← hd i hi]; exact hne
    have heq : decide (X.drop (k + 1) = Y.drop (k + 1)) = noneF d 0 (k + 1) := drop_none X Y N d hX hY hd 0 (k + 1) (by omega)
    have hl := inner_no x0 x1 X Y N hX hY hN ((k : Int) - i + 1) i hi (fun h0 => by omega) hnext 0 (k + 1) (by omega)
    refine Ev.step (f := fun q => bakelaw2_CrcSeals.j4 q x0 x1 0 X Y (i : Int) (k : Int) (N : Int) (i : Int) (0 == (0 : Int))) (fun q => ?_) (Ev.step (f := fun q => (slices_Equal_bool_bool.f q (X.drop (k + 1)) (Y.drop (k + 1))).bind fun t203 => (if t203 = true then (bakelaw2_CrcSeals.l1 q x0 x1 ((k : Int) - i + 1) X Y (i : Int) ((k + 1 : Nat) : Int) (N : Int) (i : Int)) else (bakelaw2_CrcSeals.l1 q x0 x1 0 X Y (i : Int) ((k + 1 : Nat) : Int) (N : Int) (i : Int)))) (fun q => ?_) ?_)
    · simp only [bakelaw2_CrcSeals.l1]; rw [if_pos (by omega)]
    · simp only [bakelaw2_CrcSeals.j4]
      rw [if_pos (by rfl), if_pos (by omega), if_pos (by omega), if_pos (by omega), rX, rY, if_pos hdi, w4, if_pos (by omega), if_pos (by omega), if_pos (by omega), Int.toNat_natCast, w64 ((k : Int) - i) (by omega) (by omega), w64 ((k : Int) - i + 1) (by omega) (by omega)]
    · refine Ev.bind (slices_Equal_bool_bool_ev _ _ (by rw [List.length_drop]; omega)) ?_
      rw [heq]
      simp only [noneF, if_true]
      exact hl
  | succ m ih =>
    intro k h hik hnext
    have w4 : wrap64 ((k : Int) + 1) = ((k + 1 : Nat) : Int) := by rw [w64 _ (by omega) (by omega)]; omega
    have rX : rdOf false X (i : Int) = X.getD i false := by simp [rdOf]
    have rY : rdOf false Y (i : Int) = Y.getD i false := by simp [rdOf]
    have hdi : (X.getD i false != Y.getD i false) = true := by rw [← hd i hi]; exact hne
    have heq : decide (X.drop (k + 1) = Y.drop (k + 1)) = noneF d (m + 1) (k + 1) := drop_none X Y N d hX hY hd (m + 1) (k + 1) (by omega)
    refine Ev.step (f := fun q => bakelaw2_CrcSeals.j4 q x0 x1 0 X Y (i : Int) (k : Int) (N : Int) (i : Int) (0 == (0 : Int))) (fun q => ?_) (Ev.step (f := fun q => (slices_Equal_bool_bool.f q (X.drop (k + 1)) (Y.drop (k + 1))).bind fun t203 => (if t203 = true then (bakelaw2_CrcSeals.l1 q x0 x1 ((k : Int) - i + 1) X Y (i : Int) ((k + 1 : Nat) : Int) (N : Int) (i : Int)) else (bakelaw2_CrcSeals.l1 q x0 x1 0 X Y (i : Int) ((k + 1 : Nat) : Int) (N : Int) (i : Int)))) (fun q => ?_) ?_)
    · simp only [bakelaw2_CrcSeals.l1]; rw [if_pos (by omega)]
    · simp only [bakelaw2_CrcSeals.j4]
      rw [if_pos (by rfl), if_pos (by omega), if_pos (by omega), if_pos (by omega), rX, rY, if_pos hdi, w4, if_pos (by omega), if_pos (by omega), if_pos (by omega), Int.toNat_natCast, w64 ((k : Int) - i) (by omega) (by omega), w64 ((k : Int) - i + 1) (by omega) (by omega)]
    · refine Ev.bind (slices_Equal_bool_bool_ev _ _ (by rw [List.length_drop]; omega)) ?_
      rw [heq]
      by_cases hn : noneF d (m + 1) (k + 1) = true
      · simp only [hn, if_true]
        rw [runF, if_pos hn] at hnext
        exact inner_no x0 x1 X Y N hX hY hN ((k : Int) - i + 1) i hi (fun h0 => by omega) hnext (m + 1) (k + 1) (by omega)
      · simp only [hn, if_false]
        rw [runF, if_neg hn] at hnext
        refine ih (k + 1) (by omega) (by omega) ?_
        rw [show (((k + 1 : Nat) : Int) - i + 1) = (k : Int) - i + 1 + 1 by omega]
        exact hnext
theorem outer (hX : X.length = N) (hY : Y.length = N) (hN : N ≤ 140737488355327) (hd : ∀ i, i < N → d i = (X.getD i false != Y.getD i false)) (fin : Int) (hfin : Ev (fun k => (crc_Burst.f k x0 x1).bind fun t192 => (some (t192 == fin))) true) : ∀ (m i : Nat) (n : Int), m + i = N → lbF d m i n = fin →
    Ev (fun k => bakelaw2_CrcSeals.l0 k x0 x1 n X Y (N : Int) (i : Int)) true := by
  intro m
  induction m with
  | zero =>
    intro i n h hl
    have e : n = fin := hl
    subst e
    refine Ev.step (fun k => ?_) hfin
    simp only [bakelaw2_CrcSeals.l0]; rw [if_neg (by omega)]
  | succ m ih =>
    intro i n h hl
    refine Ev.step (f := fun k => bakelaw2_CrcSeals.l1 k x0 x1 n X Y (i : Int) (i : Int) (N : Int) (i : Int)) (fun k => ?_) ?_
    · simp only [bakelaw2_CrcSeals.l0]; rw [if_pos (by omega)]
    · rw [lbF] at hl
      by_cases h0 : n = 0
      · subst h0
        rw [if_pos rfl] at hl
        by_cases hdi : d i = true
        · rw [if_pos hdi] at hl
          refine inner_yes x0 x1 X Y N d hX hY hN hd i (by omega) hdi m i (by omega) (Nat.le_refl _) ?_
          rw [show ((i : Int) - i + 1) = 1 by omega]
          exact ih (i + 1) _ (by omega) hl
        · rw [if_neg hdi] at hl
          refine inner_no x0 x1 X Y N hX hY hN 0 i (by omega) (fun _ => by rw [← hd i (by omega)]; simpa using hdi) (ih (i + 1) 0 (by omega) hl) (m + 1) i h
      · rw [if_neg h0] at hl
        exact inner_no x0 x1 X Y N hX hY hN n i (by omega) (fun h => absurd h h0) (ih (i + 1) n (by omega) hl) (m + 1) i h
end
theorem CrcSeals : bakelaw2_CrcSeals.Pure := by
  intro x0 x1 w0 s0 w1 s1
  have b0 := u8_of w0
  have b1 := u8_of w1
  have h0 := s0.1
  have h1 := s1.1
  have j1 : Ev (fun k => bakelaw2_CrcSeals.j1 k x0 x1 false) true := by
    refine Ev.step (fun k => by simp only [bakelaw2_CrcSeals.j1]; rw [if_neg (by simp)]) ?_
    have hB := burst_ev x0 x1 b0 b1 (by omega)
    by_cases hl : x0.length = x1.length
    · rw [if_pos hl] at hB
      refine Ev.pos (by omega) (Ev.bind (bits_ev x0 b0 (by omega)) (Ev.bind (bits_ev x1 b1 (by omega)) ?_))
      have hX : (bitsL x0).length = 8 * x0.length := bitsL_length x0
      have hY : (bitsL x1).length = 8 * x0.length := by rw [bitsL_length, hl]
      rw [hX]
      refine outer x0 x1 (bitsL x0) (bitsL x1) (8 * x0.length) (dAt x0 x1) hX hY (by omega) (fun i hi => ?_) (pbF (dAt x0 x1) (8 * x0.length) 0 (-1) (-1)) (Ev.bind hB (Ev.all fun k => by simp)) (8 * x0.length) 0 0 (by omega) (lb_pb _ _ _)
      unfold dAt
      rw [bitsL_get x0 i hi, bitsL_get x1 i (by omega)]
    · rw [if_neg hl] at hB
      exact Ev.neg (by omega) (Ev.bind hB (Ev.all fun k => rfl))
  have j0 : Ev (fun k => bakelaw2_CrcSeals.j0 k x0 x1 false) true := by
    refine Ev.step (fun k => by simp only [bakelaw2_CrcSeals.j0]; rw [if_neg (by simp)]) ?_
    refine Ev.bind (open_ev x1 b1 (by omega)) (Ev.bind (unsealed_ev x1 b1 (by omega)) ?_)
    refine Ev.neg (by simp) ?_
    have hol : (openL x1).1.length ≤ 140737488355328 := by
      unfold openL
      split
      · simp
      · split
        · simp only [List.length_take]; omega
        · simp
    refine Ev.bind (slices_Equal_byte_byte_ev _ _ hol) ?_
    simp only [decide_true, Bool.not_true]
    exact j1
  have main : Ev (fun k => bakelaw2_CrcSeals.f k x0 x1) true := by
    unfold bakelaw2_CrcSeals.f
    refine Ev.bind begun_ev ?_
    simp only [if_true]
    refine Ev.bind (seal_ev x0 b0 (by omega)) (Ev.bind (sealed_ev x0 b0 (by omega)) (Ev.bind (slices_Equal_byte_byte_ev _ _ (by simp [tail2]; omega)) ?_))
    simp only [decide_true, Bool.not_true]
    exact j0
  exact main.rounds
end Go.Proofs.Ytgiodeiibmbhhaa.Pure
