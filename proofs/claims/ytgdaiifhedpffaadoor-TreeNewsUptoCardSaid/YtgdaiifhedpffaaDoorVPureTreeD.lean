/- A new tree is sound. -/
import Derived.Test.YtgdaiifhedpffaaDoorVPureTreeC
set_option linter.unusedVariables false
set_option linter.unusedSimpArgs false
set_option maxRecDepth 100000
namespace Go.Proofs.YtgdaiifhedpffaaDoor.V
open Go
def D0 : Disk := newD 4 5
def node0 : List Int := 2 :: List.replicate 15 0
def own6 : List Bool := List.replicate 6 true ++ List.replicate 1018 false
theorem slot0 : f12x1 D0 0 = some ((node0, ()), ()) := by kernel_rfl
theorem slots : ∀ j : Fin 31, f12x1 D0 (((j.val + 1 : Nat) : Nat) : Int) = some ((List.replicate 16 0, ()), ()) := by decide +kernel
theorem chk35 : f35 D0 = some ((0, ()), ()) := by
  have h : f35_l6 D0.2.2.1 ((List.length D0.2.2.1 : Nat) : Int) (0 : Int) = some (.inr ()) := by unfold f35_l6; exact loopO_eq (n := 21) (by kernel_rfl)
  have w : ((((List.length D0.2.2.1 : Nat) : Int)) != IntKind.i64.wrap (D0.1 * D0.2.1)) = false := by kernel_rfl
  unfold f35 f35_k
  simp only [w, h, some_bind, Sum.elim_inr]
  first | rfl | decide +kernel
theorem sec38 : f38 D0 node0 = some (([], (true, ())), ()) := by
  have h : f38_l4 node0 D0 (true, (0 : Int), []) = some (.inr []) := by unfold f38_l4; exact loopO_eq (n := 5) (by kernel_rfl)
  unfold f38 f38_k
  rw [h]
  first | rfl | decide +kernel
theorem zero36 : f36 (List.replicate 16 0) () = some ((false, ()), ()) := by
  have h : f46_l2 (List.replicate 16 0) ((List.length (List.replicate 16 (0 : Int)) : Nat) : Int) (0 : Int) = some (.inr ()) := by unfold f46_l2; exact loopO_eq (n := 17) (by kernel_rfl)
  unfold f36 f36_k f46 f46_k
  rw [h]
  first | rfl | decide +kernel
theorem own10 : f28_l10 D0 ((0 : Int), (List.replicate 1024 false)) = some own6 := by unfold f28_l10; exact loopO_eq (n := 7) (by kernel_rfl)
theorem none25 : f28_l25 (0 : Int) ((List.length ([] : List Int) : Nat) : Int) D0 [] ((0 : Int), own6) = some (.inr own6) := by unfold f28_l25; exact loopO_eq (n := 1) (by kernel_rfl)
theorem nodes15 : f28_l15 D0 ((0 : Int), own6) = some (.inr own6) := by
  unfold f28_l15
  refine loop_go (fun j => ((j : Int), own6)) 32 rfl (fun j hj => ?_) ?_
  · unfold f28_l15_g f28_l15_k
    simp only
    rw [decide_eq_true (by omega)]
    simp only [cond_true]
    cases j with
    | zero =>
      have e : (((0 : Nat) : Nat) : Int) = 0 := rfl
      rw [e, slot0]
      simp only [some_bind]
      rw [sec38]
      simp only [some_bind]
      have h1 : (node0.getD 0 0 == (0 : Int)) = false := by decide +kernel
      have h2 : decide (node0.getD 0 0 > (2 : Int)) = false := by decide +kernel
      have h3 : (0 : Int) ≤ (0 : Int) ∧ (0 : Int) < ((List.length node0 : Nat) : Int) := by decide +kernel
      rw [if_pos h3, h1, if_pos h3, h2, none25]
      first | rfl | decide +kernel
    | succ j =>
      have := slots ⟨j, by omega⟩
      simp only at this
      rw [this]
      simp only [some_bind]
      rw [zero36]
      have h1 : ((List.replicate 16 (0 : Int)).getD 0 0 == (0 : Int)) = true := by decide +kernel
      have h3 : (0 : Int) ≤ (0 : Int) ∧ (0 : Int) < ((List.length (List.replicate 16 (0 : Int)) : Nat) : Int) := by decide +kernel
      rw [if_pos h3, h1, wj (by omega)]
      rfl
  · unfold f28_l15_g f28_l15_k
    simp only
    rw [decide_eq_false (by omega)]
    rfl
theorem used33 : f28_l33 ((List.length own6 : Nat) : Int) D0 own6 (0 : Int) = some (.inr ()) := by unfold f28_l33; exact loopO_eq (n := 1025) (by kernel_rfl)
theorem frame28 : f28 D0 = some ((0, ()), ()) := by
  have h0 : decide (((List.length D0.2.2.1 : Nat) : Int) ≤ (6 : Int)) = false := by kernel_rfl
  have h1 : (0 : Int) ≤ (0 : Int) ∧ (0 : Int) < ((List.length D0.2.2.1 : Nat) : Int) := by decide +kernel
  have h2 : (0 : Int) ≤ (0 : Int) ∧ (0 : Int) ≤ (5 : Int) ∧ (5 : Int) ≤ ((List.length (List.getD D0.2.2.1 0 ([] : List Int)) : Nat) : Int) := by decide +kernel
  have h3 : (!strEq (b2s (List.take 5 (List.drop 0 (List.getD D0.2.2.1 0 ([] : List Int))))) (⟨#[116, 114, 101, 101, 49]⟩ : ByteArray)) = false := by decide +kernel
  have h4 : (0 : Int) ≤ (0 : Int) ∧ (0 : Int) < ((List.length node0 : Nat) : Int) := by decide +kernel
  have h5 : (node0.getD 0 0 != (2 : Int)) = false := by decide +kernel
  have h6 : (0 : Int) ≤ (1 : Int) ∧ (1 : Int) < ((List.length node0 : Nat) : Int) := by decide +kernel
  have h7 : (node0.getD 1 0 != (0 : Int)) = false := by decide +kernel
  unfold f28 f28_k
  rw [chk35]
  simp only [some_bind]
  rw [show ((0 : Int) != (0 : Int)) = false from rfl, h0, if_pos h1, if_pos h2, h3, slot0]
  simp only [some_bind, cond_false]
  rw [if_pos h4, h5, if_pos h6, h7]
  simp only [cond_false]
  rw [own10]
  simp only [some_bind]
  rw [nodes15]
  simp only [some_bind, Sum.elim_inr]
  rw [used33]
  rfl
theorem cont40 : f40 D0 0 = some (([], ()), ()) := by
  have h : f40_l5 node0 ((List.length ([] : List Int) : Nat) : Int) D0 [] ((0 : Int), []) = some [] := by unfold f40_l5; exact loopO_eq (n := 1) (by kernel_rfl)
  unfold f40 f40_k
  rw [slot0]
  simp only [some_bind]
  rw [sec38]
  simp only [some_bind]
  rw [h]
  first | rfl | decide +kernel
theorem items39 : f39 [] = some (([], (true, ())), ()) := by
  have h : f39_l5 [] (0 : Int) () = some () := by unfold f39_l5; exact loopO_eq (n := 1) (by kernel_rfl)
  unfold f39 f39_k
  rw [h]
  first | rfl | decide +kernel
def seen0 : List Bool := List.set (List.replicate 32 false) 0 true
theorem walk29 : f29 D0 0 1 seen0 = some ((0, ()), (seen0, ())) := by
  have h : f29_l5 (0 : Int) (1 : Int) ((List.length ([] : List (ByteArray × (Int × Unit))) : Nat) : Int) D0 [] ((0 : Int), seen0) = some (.inr seen0) := by unfold f29_l5; exact loopO_eq (n := 1) (by kernel_rfl)
  unfold f29 f29_k
  rw [cont40]
  simp only [some_bind]
  rw [items39]
  simp only [some_bind, Bool.not_true, cond_false]
  rw [h]
  rfl
theorem tree23 : f23 D0 = some ((0, ()), ()) := by
  have h : f23_l10 D0 seen0 (0 : Int) = some (.inr ()) := by unfold f23_l10; exact loopO_eq (n := 33) (by kernel_rfl)
  unfold f23 f23_k
  rw [frame28]
  simp only [some_bind]
  rw [show ((0 : Int) != (0 : Int)) = false from rfl]
  simp only [cond_false]
  rw [if_pos (by decide +kernel), show List.set (List.replicate 32 false) 0 true = seen0 from rfl, walk29]
  simp only [some_bind]
  rw [show ((0 : Int) != (0 : Int)) = false from rfl, h]
  rfl
theorem room15 : f15 D0 = some ((14, (0, ())), ()) := by
  have h1 : f24_l3 D0 ((6 : Int), []) = some [((6 : Int), ((14 : Int), ()))] := by unfold f24_l3; exact loopO_eq (n := 15) (by kernel_rfl)
  have h2 : f24 D0 = some (([((6 : Int), ((14 : Int), ()))], ()), ()) := by
    unfold f24 f24_k
    rw [h1]; rfl
  have h3 : f15_l6 ((List.length [((6 : Int), ((14 : Int), ()))] : Nat) : Int) [((6 : Int), ((14 : Int), ()))] ((0 : Int), (0 : Int)) = some 14 := by unfold f15_l6; exact loopO_eq (n := 2) (by kernel_rfl)
  unfold f15 f15_k
  rw [tree23]
  simp only [some_bind]
  rw [show ((0 : Int) != (0 : Int)) = false from rfl, h2]
  simp only [some_bind, cond_false]
  rw [h3]
  rfl
theorem begun6 : f6 = some ((true, ()), ()) := by
  have e : newM 4 5 = (D0, 0) := by
    unfold newM
    rw [if_neg (by decide +kernel), if_neg (by decide)]; rfl
  unfold f6 f6_k
  rw [new4, e]
  simp only [some_bind]
  rw [room15]
  rfl
end Go.Proofs.YtgdaiifhedpffaaDoor.V
