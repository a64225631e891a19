/- Regions that draw their order. -/
import Derived.Test.YtlgbhaigpecdoaaVLocal
import Derived.Orders
set_option linter.unusedVariables false
set_option linter.unusedSimpArgs false
namespace Go.Proofs.Ytlgbhaigpecdoaa.V
open Go

section
variable {R : Type} {c : Cx} {st st' : St} {ops : Array Oper}
/-- One operation, its guard with it. -/
noncomputable def gS (c : Cx) (ops : Array Oper) (i : Nat) (st : St) (K : St → Option R) : Option R := opsS c ops [i] st K
theorem opsS_cons (i : Nat) (l : List Nat) (st : St) (K : St → Option R) : opsS c ops (i :: l) st K = gS c ops i st fun st => opsS c ops l st K := by
  simp only [gS, opsS]
theorem opsS_append (l m : List Nat) (st : St) (K : St → Option R) : opsS c ops (l ++ m) st K = opsS c ops l st fun st => opsS c ops m st K := by
  induction l generalizing st with
  | nil => rfl
  | cons i l ih =>
    rw [List.cons_append, opsS_cons, opsS_cons]
    congr 1; funext st
    exact ih st
theorem gS_plain {i : Nat} {o : Oper} (h : ops[i]? = some o) (hg : o.guard = none) (K : St → Option R) : gS c ops i st K = stepS c st o K := by
  simp only [gS, opsS, h, hg]
theorem swap_ok {i j : Nat} {a b : Oper} (ha : ops[i]? = some a) (hb : ops[j]? = some b) (h : swapOk a b = true) (K : St → Option R) :
    (gS c ops i st fun st => gS c ops j st K) = (gS c ops j st fun st => gS c ops i st K) := by
  unfold swapOk at h
  simp only [Bool.and_eq_true, Option.isNone_iff_eq_none] at h
  obtain ⟨⟨⟨⟨g1, g2⟩, q1⟩, q2⟩, h⟩ := h
  simp only [gS_plain ha g1, gS_plain hb g2]
  exact swap_quiet q1 q2 h K
/-- An operation that may be ahead of others is run ahead of them. -/
theorem front {i : Nat} {b : Oper} (hb : ops[i]? = some b) : ∀ (l : List Nat) {st : St} {K : St → Option R}, (∀ j ∈ l, ∃ a, ops[j]? = some a ∧ swapOk a b = true) →
    opsS c ops (l ++ [i]) st K = opsS c ops (i :: l) st K
  | [], _, _, _ => rfl
  | j :: l, st, K, h => by
    obtain ⟨a, ha, hs⟩ := h j (List.mem_cons_self ..)
    rw [List.cons_append, opsS_cons]
    have e : (fun st => opsS c ops (l ++ [i]) st K) = fun st => gS c ops i st fun st => opsS c ops l st K := by
      funext st
      rw [front hb l (fun k hk => h k (List.mem_cons_of_mem _ hk)), opsS_cons]
    rw [e, opsS_cons, swap_ok ha hb hs]
    congr 1
end
/-- What is listed holds, with an operation, all that must come before it. -/
def Down (ops : Array Oper) (listed : Nat → Prop) : Prop := ∀ i o, listed i → ops[i]? = some o → ∀ e ∈ edges o, listed e
theorem down_preds {ops : Array Oper} {t : List (List Nat)} (hd : drawOk ops t = true) {listed : Nat → Prop} (h : Down ops listed) : ∀ (n i : Nat) (o : Oper), i < n → ops[i]? = some o → (∀ e ∈ edges o, listed e) → ∀ j ∈ t.getD i [], listed j := by
  intro n
  induction n with
  | zero => intro i o hi; omega
  | succ n ih =>
    intro i o hi ho he j hj
    have hlt : i < ops.size := (Array.getElem?_eq_some_iff.1 ho).1
    have h1 := (List.all_eq_true.1 hd) i (List.mem_range.2 hlt)
    simp only [ho, Bool.and_eq_true, List.all_eq_true, decide_eq_true_eq] at h1
    obtain ⟨m, hm, hmj⟩ := List.any_eq_true.1 (h1.1.2 j hj)
    simp only [Bool.or_eq_true, beq_iff_eq, List.contains_iff_mem] at hmj
    rcases hmj with rfl | hmj
    · exact he m hm
    · have hml := he m hm
      have hmi := h1.1.1 m hm
      have hms : m < ops.size := by omega
      obtain ⟨p, hp⟩ : ∃ p, ops[m]? = some p := ⟨ops[m], by rw [Array.getElem?_eq_getElem]⟩
      exact ih m p (by omega) hp (h m p hml hp) j hmj
section
variable {P : Program} {G : Gl} {I0 : Nat → Prop} {T : Type} {r0 : T} {c : Cx} {ops : Array Oper} {Q : Exit → Act → World → Prop} {K : St → Option T}
theorem lists_set {listed : Array Bool} {i j : Nat} (hs : listed.size = ops.size) (hi : i < ops.size) : (listed.setIfInBounds i true).getD j true = true ↔ j = i ∨ listed.getD j true = true := by
  simp only [Array.getD_eq_getD_getElem?, Array.getElem?_setIfInBounds]
  by_cases h : i = j
  · subst h
    simp [hs, hi]
  · rw [if_neg h]
    constructor
    · intro h2; exact .inr h2
    · rintro (h2 | h2)
      · exact absurd h2.symm h
      · exact h2
theorem getD_iff {listed : Array Bool} {j : Nat} (hs : listed.size = ops.size) (hj : j < ops.size) : listed.getD j false = true ↔ listed.getD j true = true := by
  simp only [Array.getD_eq_getD_getElem?]
  rw [Array.getElem?_eq_getElem (by omega)]
  rfl
theorem ready_iff {listed : Array Bool} {i : Nat} : i ∈ Region.ready .any ops listed ↔ i < ops.size ∧ listed.getD i true = false ∧ ∃ o, ops[i]? = some o ∧ ∀ e ∈ edges o, listed.getD e false = true := by
  unfold Region.ready
  simp only [List.mem_filter, List.mem_range, Bool.and_eq_true, Bool.not_eq_true']
  constructor
  · rintro ⟨h1, h2, h3⟩
    refine ⟨h1, h2, ?_⟩
    cases ho : ops[i]? with
    | none => rw [ho] at h3; simp at h3
    | some o =>
      rw [ho] at h3
      simp only [Option.map_some, Option.getD_some] at h3
      refine ⟨o, rfl, fun e he => ?_⟩
      unfold edges at he
      obtain ⟨x, hx, rfl⟩ := List.mem_map.1 he
      obtain ⟨hx1, hx2⟩ := List.mem_filter.1 hx
      have := (Array.all_eq_true'.1 h3) x (by simpa using hx1)
      simp [hx2] at this
      rw [Array.getD_eq_getD_getElem?]; exact this
  · rintro ⟨h1, h2, o, ho, h3⟩
    refine ⟨h1, h2, ?_⟩
    rw [ho]
    simp only [Option.map_some, Option.getD_some]
    refine Array.all_eq_true'.2 fun x hx => ?_
    by_cases hb : Region.binds .any x = true
    · have := h3 x.on (List.mem_map.2 ⟨x, List.mem_filter.2 ⟨by simpa using hx, hb⟩, rfl⟩)
      simp [this]
    · simp [hb]
/-- Any order. -/
theorem any_some (step : ∀ {st : St} {a : Act} {w : World} {i : Nat} {T : Type} {K : St → Option T} {r : T} {KK : Act → World → Prop}, gS c ops i st K = some r → Ok G I0 st a w → (∀ a w, Post G I0 K r a w → KK a w) → wpOp P ops Q i KK a w)
    (hd : drawOk ops (preds ops.toList []) = true) (hQ : ∀ a w, Post G I0 K r0 a w → Q .normal a w) :
    ∀ (fuel : Nat) (l : List Nat) (listed : Array Bool) {st : St} {a : Act} {w : World}, l.length = fuel → listed.size = ops.size → l.Pairwise (· < ·) → (∀ i, i ∈ l ↔ i < ops.size ∧ listed.getD i true = false) → Down ops (fun i => i < ops.size ∧ listed.getD i true = true) →
      opsS c ops l st K = some r0 → Ok G I0 st a w → wpAny P .any ops Q fuel listed a w := by
  intro fuel
  induction fuel with
  | zero =>
    intro l listed st a w hl hs hp hm hD hk h
    have : l = [] := List.length_eq_zero_iff.1 hl
    subst this
    refine ⟨?_, hQ a w ⟨st, hk, h⟩⟩
    apply List.eq_nil_iff_forall_not_mem.2
    intro i hi
    obtain ⟨h1, h2, _⟩ := ready_iff.1 hi
    have := (hm i).2 ⟨h1, h2⟩
    simp at this
  | succ fuel ih =>
    intro l listed st a w hl hs hp hm hD hk h
    refine ⟨fun hr => ?_, fun i hi => ?_⟩
    · exfalso
      match l, hl with
      | k :: l, _ =>
        obtain ⟨hk1, hk2⟩ := (hm k).1 (List.mem_cons_self ..)
        have hmem : k ∈ Region.ready .any ops listed := by
          refine ready_iff.2 ⟨hk1, hk2, ops[k], by rw [Array.getElem?_eq_getElem], fun e he => ?_⟩
          have h1 := (List.all_eq_true.1 hd) k (List.mem_range.2 hk1)
          rw [Array.getElem?_eq_getElem hk1] at h1
          simp only [Bool.and_eq_true, List.all_eq_true, decide_eq_true_eq] at h1
          have hek := h1.1.1 e he
          have hes : e < ops.size := by omega
          rw [getD_iff (ops := ops) hs hes]
          cases hle : listed.getD e true with
          | true => rfl
          | false =>
            have : e ∈ k :: l := (hm e).2 ⟨hes, hle⟩
            rcases List.mem_cons.1 this with h | h
            · omega
            · have := (List.pairwise_cons.1 hp).1 e h; omega
        rw [hr] at hmem; simp at hmem
    · obtain ⟨hi1, hi2, o, ho, he⟩ := ready_iff.1 hi
      obtain ⟨l1, l2, rfl⟩ := List.append_of_mem ((hm i).2 ⟨hi1, hi2⟩)
      have h1 := (List.all_eq_true.1 hd) i (List.mem_range.2 hi1)
      simp only [ho, Bool.and_eq_true, List.all_eq_true, decide_eq_true_eq] at h1
      have he' : ∀ e ∈ edges o, e < ops.size ∧ listed.getD e true = true := fun e hh => by
        have hes : e < ops.size := by have := h1.1.1 e hh; omega
        exact ⟨hes, (getD_iff (ops := ops) hs hes).1 (he e hh)⟩
      have hpre := down_preds hd hD (i + 1) i o (by omega) ho he'
      have hpw := List.pairwise_append.1 hp
      have hfr : ∀ j ∈ l1, ∃ a, ops[j]? = some a ∧ swapOk a o = true := fun j hj => by
        have hji : j < i := hpw.2.2 j hj i (List.mem_cons_self ..)
        have h2 := h1.2 j (List.mem_range.2 hji)
        obtain ⟨hj1, hj2⟩ := (hm j).1 (by simp [hj])
        rw [Bool.or_eq_true] at h2
        rcases h2 with h2 | h2
        · have := (hpre j (List.contains_iff_mem.1 h2)).2
          rw [hj2] at this; cases this
        · rw [Array.getElem?_eq_getElem hj1] at h2 ⊢
          exact ⟨_, rfl, h2⟩
      have e1 : opsS c ops (l1 ++ i :: l2) st K = gS c ops i st fun st => opsS c ops (l1 ++ l2) st K := by
        have : l1 ++ i :: l2 = (l1 ++ [i]) ++ l2 := by simp
        rw [this, opsS_append, front ho l1 hfr, opsS_cons]
        congr 1; funext st
        rw [opsS_append]
      rw [e1] at hk
      refine step hk h fun a w ⟨st', hk', h'⟩ => ?_
      refine ih (l1 ++ l2) _ (by simp at hl ⊢; omega) (by simp [hs]) ?_ (fun j => ?_) ?_ hk' h'
      · refine List.pairwise_append.2 ⟨hpw.1, (List.pairwise_cons.1 hpw.2.1).2, fun x hx y hy => hpw.2.2 x hx y (List.mem_cons_of_mem _ hy)⟩
      · have hne : ∀ j, j ∈ l1 ++ l2 ↔ j ∈ l1 ++ i :: l2 ∧ j ≠ i := fun j => by
          have hnd : (l1 ++ i :: l2).Nodup := hp.imp (fun h => Nat.ne_of_lt h)
          rw [List.nodup_append, List.nodup_cons] at hnd
          simp only [List.mem_append, List.mem_cons]
          constructor
          · rintro (h | h)
            · exact ⟨.inl h, fun e => hnd.2.2 j h i (List.mem_cons_self ..) e⟩
            · exact ⟨.inr (.inr h), fun e => hnd.2.1.1 (e ▸ h)⟩
          · rintro ⟨h | h | h, hne⟩
            · exact .inl h
            · exact absurd h hne
            · exact .inr h
        rw [hne, hm]
        have := lists_set (listed := listed) (ops := ops) (j := j) hs hi1
        constructor
        · rintro ⟨⟨a1, a2⟩, a3⟩
          refine ⟨a1, ?_⟩
          cases hx : (listed.setIfInBounds i true).getD j true with
          | false => rfl
          | true =>
            rcases this.1 hx with h | h
            · exact absurd h a3
            · rw [a2] at h; cases h
        · rintro ⟨a1, a2⟩
          refine ⟨⟨a1, ?_⟩, fun e => ?_⟩
          · cases hx : listed.getD j true with
            | false => rfl
            | true => rw [this.2 (.inr hx)] at a2; cases a2
          · rw [this.2 (.inl e)] at a2; cases a2
      · intro k p ⟨k1, k2⟩ hkp e hee
        rcases (lists_set (ops := ops) hs hi1).1 k2 with h | h
        · subst h
          rw [ho] at hkp; cases hkp
          exact ⟨(he' e hee).1, (lists_set (ops := ops) hs hi1).2 (.inr (he' e hee).2)⟩
        · obtain ⟨d1, d2⟩ := hD k p ⟨k1, h⟩ hkp e hee
          exact ⟨d1, (lists_set (ops := ops) hs hi1).2 (.inr d2)⟩
end
end Go.Proofs.Ytlgbhaigpecdoaa.V
