/- Draws, by what holds between any two operations. -/
import Derived.Test.YtmfjebpdkgbggaaVNode
set_option linter.unusedVariables false
set_option linter.unusedSimpArgs false
namespace Go.Proofs.Ytmfjebpdkgbggaa.V
open Go
section
variable {P : Program} {ops : Array Oper} {Q : Exit → Act → World → Prop}
theorem wpAny_ind (F : Array Bool → Act → World → Prop) (hsz : ∀ l a w, F l a w → l.size = ops.size)
    (hs : ∀ l a w i, F l a w → i ∈ Region.ready .any ops l → wpOp P ops Q i (fun a w => F (l.setIfInBounds i true) a w) a w)
    (he : ∀ l a w, F l a w → Region.ready .any ops l = [] → Q .normal a w) :
    ∀ (n : Nat) (l : Array Bool) (a : Act) (w : World), l.toList.count false ≤ n → F l a w → wpAny P .any ops Q n l a w
  | 0, l, a, w, hn, h => by
    refine ⟨?_, ?_⟩
    · apply List.eq_nil_iff_forall_not_mem.2
      intro i hi
      obtain ⟨h1, h2, _⟩ := ready_iff.1 hi
      have hlt : i < l.size := by rw [hsz l a w h]; exact h1
      have h3 : l.toList[i]'(by simpa using hlt) = false := by
        rw [Array.getD_eq_getD_getElem?, Array.getElem?_eq_getElem hlt] at h2
        simpa using h2
      have : false ∈ l.toList := h3 ▸ List.getElem_mem _
      have := List.count_pos_iff.2 this
      omega
    · have hr : Region.ready .any ops l = [] := by
        apply List.eq_nil_iff_forall_not_mem.2
        intro i hi
        obtain ⟨h1, h2, _⟩ := ready_iff.1 hi
        have hlt : i < l.size := by rw [hsz l a w h]; exact h1
        have h3 : l.toList[i]'(by simpa using hlt) = false := by
          rw [Array.getD_eq_getD_getElem?, Array.getElem?_eq_getElem hlt] at h2
          simpa using h2
        have : false ∈ l.toList := h3 ▸ List.getElem_mem _
        have := List.count_pos_iff.2 this
        omega
      exact he l a w h hr
  | n + 1, l, a, w, hn, h => by
    refine ⟨fun hr => he l a w h hr, fun i hi => ?_⟩
    refine wpOp_mono (fun a' w' h' => wpAny_ind F hsz hs he n _ a' w' ?_ h') (hs l a w i h hi)
    obtain ⟨h1, h2, _⟩ := ready_iff.1 hi
    have hlt : i < l.size := by rw [hsz l a w h]; exact h1
    have h3 : l.toList[i]'(by simpa using hlt) = false := by
      rw [Array.getD_eq_getD_getElem?, Array.getElem?_eq_getElem hlt] at h2
      simpa using h2
    rw [Array.toList_setIfInBounds, List.count_set (by simpa using hlt), h3]
    have e1 : (if (false == false) = true then 1 else 0) = 1 := rfl
    have e2 : (if (true == false) = true then 1 else 0) = 0 := rfl
    rw [e1, e2]
    omega
theorem all_listed {l : Array Bool} (hsz : l.size = ops.size) (hed : ∀ (k : Nat) (o : Oper), ops[k]? = some o → ∀ e ∈ edges o, e < k) (hr : Region.ready .any ops l = []) : ∀ k, k < ops.size → l.getD k false = true := by
  intro k
  induction k using Nat.strongRecOn with
  | _ k ih =>
    intro hk
    cases hl : l.getD k false with
    | true => rfl
    | false =>
      exfalso
      have hlt : k < l.size := by omega
      have h2 : l.getD k true = false := by
        simp only [Array.getD_eq_getD_getElem?, Array.getElem?_eq_getElem hlt] at hl ⊢
        simpa using hl
      have : k ∈ Region.ready .any ops l := ready_iff.2 ⟨hk, h2, ops[k], Array.getElem?_eq_getElem hk, fun e he => ih e (hed k _ (Array.getElem?_eq_getElem hk) e he) (by have := hed k _ (Array.getElem?_eq_getElem hk) e he; omega)⟩
      rw [hr] at this; simp at this
structure Ph (n m : Nat) (base : List (Nat × Value)) (L : List (Nat × Nat × Value)) (l : Array Bool) (a : Act) : Prop where
  sz : l.size = n
  tz : a.tmps.size = m
  df : a.defers = []
  base : ∀ p ∈ base, a.tmps.getD p.1 Go.undef = p.2
  done : ∀ q ∈ L, l.getD q.1 false = true → a.tmps.getD q.2.1 Go.undef = q.2.2
theorem getD_put (a : Act) (d e : Nat) (v : Value) : (a.put (some d) v).tmps.getD e Go.undef = if e = d ∧ d < a.tmps.size then v else a.tmps.getD e Go.undef := getD_setIfInBounds a.tmps d e v Go.undef
theorem Ph.step {n m : Nat} {base : List (Nat × Value)} {L : List (Nat × Nat × Value)} {l : Array Bool} {a : Act} (h : Ph n m base L l a) {k d : Nat} {v : Value} (hd : d < m) (hL : ∀ q ∈ L, (q.1 = k ∧ q.2.1 = d ∧ q.2.2 = v) ∨ (q.1 ≠ k ∧ q.2.1 ≠ d)) (hb : ∀ p ∈ base, p.1 ≠ d) :
    Ph n m base L (l.setIfInBounds k true) (a.put (some d) v) := by
  refine ⟨by simp [h.sz], by simp [Act.put, h.tz], by rw [put_defers]; exact h.df, fun p hp => ?_, fun q hq hl => ?_⟩
  · rw [getD_put, if_neg (fun hh => hb p hp hh.1)]; exact h.base p hp
  · rcases hL q hq with ⟨h1, h2, h3⟩ | ⟨h1, h2⟩
    · rw [getD_put, if_pos ⟨h2, by rw [h.tz]; exact hd⟩, h3]
    · rw [getD_put, if_neg (fun hh => h2 hh.1)]
      exact h.done q hq (by rw [getD_set_ne false (Ne.symm h1)] at hl; exact hl)
theorem Ph.skip {n m : Nat} {base : List (Nat × Value)} {L : List (Nat × Nat × Value)} {l : Array Bool} {a : Act} (h : Ph n m base L l a) {k : Nat} {v : Value} (hL : ∀ q ∈ L, q.1 ≠ k) :
    Ph n m base L (l.setIfInBounds k true) (a.put none v) := by
  refine ⟨by simp [h.sz], h.tz, h.df, h.base, fun q hq hl => h.done q hq (by rw [getD_set_ne false (Ne.symm (hL q hq))] at hl; exact hl)⟩
end
end Go.Proofs.Ytmfjebpdkgbggaa.V
