/- Mfm, the program's writing; both write alike. -/
import Derived.Test.YtlgbhaigpecdoaaVPureMfmA
set_option linter.unusedVariables false
set_option linter.unusedSimpArgs false
namespace Go.Proofs.Ytlgbhaigpecdoaa.V
open Go
def nat2 (l : List Nat) : List Int := l.map fun n => ((n : Nat) : Int)
def partsOk (l : List Part) : Prop := ∀ p ∈ l, byteL p.2.1
theorem size80 (l : List Part) (h : l.length ≤ 140737488355328) (hs : ∀ p ∈ l, p.2.1.length ≤ 140737488355328) : f80 l = some (((if tot l > 2400 then (2401 : Int) else ((tot l : Nat) : Int)), ()), ()) := by
  unfold f80 f80_k f80_l3
  have := loop_list (g := f80_l3_g l ((List.length l : Nat) : Int)) (Y := Unit ⊕ Int) (false, (([] : List Int), ())) l (fun j (s : Nat) => ((s : Int), (j : Int))) (fun j s => s ≤ 2400)
    (fun p s => if s + szP p > 2400 then .inr (.inl ()) else .inl (s + szP p)) (fun s => .inr (s : Int))
    (fun j s hj hp => by
      have hmem : (l.getD j (false, ([], ()))).2.1.length ≤ 140737488355328 := hs _ (getD_mem hj)
      generalize hp0 : l.getD j (false, ([], ())) = p at *
      obtain ⟨mk, b, ⟨⟩⟩ := p
      dsimp only at hmem
      refine ⟨?_, fun s' hs' => ?_⟩
      · unfold f80_l3_g f80_l3_k
        simp only
        rw [dlt hj]
        simp only [cond_true]
        rw [if_pos (in_row hj), Int.toNat_natCast, hp0, wj (by omega)]
        have e1 : IntKind.i64.wrap ((s : Int) + ((List.length b : Nat) : Int)) = ((s + b.length : Nat) : Int) := by rw [wi (by omega) (by omega)]; omega
        simp only
        rw [e1]
        cases mk with
        | true =>
          simp only [cond_true, szP, if_true]
          rw [wj (by omega)]
          by_cases c : s + b.length + 1 > 2400
          · rw [decide_eq_true (by omega), if_pos (by omega)]; rfl
          · rw [decide_eq_false (by omega), if_neg (by omega)]; rfl
        | false =>
          simp only [cond_false, szP, Bool.false_eq_true, if_false]
          by_cases c : s + b.length > 2400
          · rw [decide_eq_true (by omega), if_pos (by omega)]; rfl
          · rw [decide_eq_false (by omega), if_neg (by omega)]; rfl
      · split at hs'
        · cases hs'
        · cases hs'; omega)
    (fun s hp => by
      unfold f80_l3_g f80_l3_k
      simp only
      rw [dge]; rfl) 0 (Nat.zero_le _) (x0 := ((0 : Int), (0 : Int))) rfl
  rw [this]
  have hf : ∀ (l : List Part) (s : Nat), s ≤ 2400 → foldE (fun (p : Part) (s : Nat) => if s + szP p > 2400 then .inr (.inl ()) else .inl (s + szP p)) (fun s => (.inr (s : Int) : Unit ⊕ Int)) l s = if s + tot l > 2400 then .inl () else .inr ((s + tot l : Nat) : Int) := by
    intro l
    induction l with
    | nil => intro s hs; rw [foldE_nil, if_neg (by simp [tot]; omega)]; simp [tot]
    | cons p l ih =>
      intro s hs
      have e : tot (p :: l) = szP p + tot l := rfl
      rw [foldE_cons, e]
      by_cases c : s + szP p > 2400
      · rw [if_pos c, if_pos (by omega)]
      · rw [if_neg c]
        simp only
        rw [ih _ (by omega), Nat.add_assoc]
  rw [hf l 0 (Nat.zero_le _)]
  simp only [some_bind, Nat.zero_add]
  by_cases c : tot l > 2400
  · rw [if_pos c, if_pos c]; rfl
  · rw [if_neg c, if_neg c]; rfl
end Go.Proofs.Ytlgbhaigpecdoaa.V
