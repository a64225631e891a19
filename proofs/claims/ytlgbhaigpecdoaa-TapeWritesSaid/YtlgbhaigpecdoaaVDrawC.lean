/- Any order, where something is born. -/
import Derived.Test.YtlgbhaigpecdoaaVDrawB
set_option linter.unusedVariables false
set_option linter.unusedSimpArgs false
namespace Go.Proofs.Ytlgbhaigpecdoaa.V
open Go

section
variable {R : Type} {c : Cx} {ops : Array Oper} {W : List Ward}
theorem opsC_append (l m : List Nat) (st : St) (K : St → Option R) : opsC c ops W (l ++ m) st K = opsC c ops W l st fun st => opsC c ops W m st K := by
  induction l generalizing st with
  | nil => rfl
  | cons i l ih =>
    rw [List.cons_append]
    simp only [opsC]
    congr 1; funext st
    exact ih st
theorem gC_mono {i : Nat} {o : Oper} {B U : List Nat} {st : St} {K K' : St → Option R} {r : R} (ho : ops[i]? = some o) (h : ∀ st, K st = some r → K' st = some r) (hk : gC c ops i B U st K = some r) : gC c ops i B U st K' = some r := by
  unfold gC at hk ⊢
  split at hk
  case isFalse => cases hk
  rename_i hc
  rw [if_pos hc]
  have hc' := (chk_spec ho).1 hc
  have e1 := g_eff (R := R) (st := st) ho hc'.1 (K := fun st => if avoid B (dstS ops i st) = true then K st else none)
  have e2 := g_eff (R := R) (st := st) ho hc'.1 (K := fun st => if avoid B (dstS ops i st) = true then K' st else none)
  unfold gS at e1 e2
  rw [e1] at hk
  rw [e2]
  obtain ⟨p, hp, hk⟩ := Option.bind_eq_some_iff.1 hk
  rw [hp]
  simp only [Option.bind]
  split at hk
  case isFalse => cases hk
  rename_i hv
  rw [if_pos hv]
  exact h _ hk
/-- They may stand either way. -/
def Side (ops : Array Oper) (W : List Ward) (j i : Nat) (b : Oper) : Prop := ∃ a, ops[j]? = some a ∧ (ward W i).al = false ∧ (ward W j).al = false ∧ apartG ops a b = true ∧ (loud a = true → ∀ d, (a.dst = some d ∨ d ∈ (ward W j).U) → (ward W i).A.contains d = true) ∧ (loud b = true → ∀ d, (b.dst = some d ∨ d ∈ (ward W i).U) → (ward W j).A.contains d = true)
theorem frontC {i : Nat} {b : Oper} (hb : ops[i]? = some b) : ∀ (l : List Nat) {st : St} {K : St → Option R} {r : R}, (∀ j ∈ l, Side ops W j i b) →
    opsC c ops W (l ++ [i]) st K = some r → opsC c ops W (i :: l) st K = some r
  | [], _, _, _, _, h => h
  | j :: l, st, K, r, h, hk => by
    obtain ⟨a, ha, w1, w2, hap, h1, h2⟩ := h j (List.mem_cons_self ..)
    rw [List.cons_append] at hk
    simp only [opsC, g1, w2, Bool.false_eq_true, if_false] at hk
    have e : gC c ops j (ward W j).A (ward W j).U st (fun st => gC c ops i (ward W i).A (ward W i).U st fun st => opsC c ops W l st K) = some r :=
      gC_mono ha (fun st' hk' => by
        have := frontC hb l (fun k hk => h k (List.mem_cons_of_mem _ hk)) hk'
        simpa only [opsC, g1, w1, Bool.false_eq_true, if_false] using this) hk
    have := swapC ha hb hap h1 h2 e
    simpa only [opsC, g1, w1, w2, Bool.false_eq_true, if_false] using this
end
theorem down_predsC {ops : Array Oper} {t : List (List Nat)} {W : List Ward} (hd : drawC ops t W = true) {listed : Nat → Prop} (h : Down ops listed) : ∀ (n i : Nat) (o : Oper), i < n → ops[i]? = some o → (∀ e ∈ edges o, listed e) → ∀ j ∈ t.getD i [], listed j := by
  intro n
  induction n with
  | zero => intro i o hi; omega
  | succ n ih =>
    intro i o hi ho he j hj
    have hlt : i < ops.size := (Array.getElem?_eq_some_iff.1 ho).1
    have h1 := (List.all_eq_true.1 hd) i (List.mem_range.2 hlt)
    simp only [ho, Bool.and_eq_true, List.all_eq_true, decide_eq_true_eq] at h1
    obtain ⟨m, hm, hmj⟩ := List.any_eq_true.1 (h1.1.2 j hj)
    simp only [Bool.or_eq_true, beq_iff_eq, List.contains_iff_mem] at hmj
    rcases hmj with rfl | hmj
    · exact he m hm
    · have hml := he m hm
      have hmi := h1.1.1 m hm
      have hms : m < ops.size := by omega
      obtain ⟨p, hp⟩ : ∃ p, ops[m]? = some p := ⟨ops[m], by rw [Array.getElem?_eq_getElem]⟩
      exact ih m p (by omega) hp (h m p hml hp) j hmj
section
variable {P : Program} {G : Gl} {I0 : Nat → Prop} {T : Type} {r0 : T} {c : Cx} {ops : Array Oper} {Q : Exit → Act → World → Prop} {K : St → Option T}
/-- Any order. -/
theorem anyC_some (step : ∀ {st : St} {a : Act} {w : World} {i : Nat} {T : Type} {K : St → Option T} {r : T} {KK : Act → World → Prop}, gS c ops i st K = some r → Ok G I0 st a w → (∀ a w, Post G I0 K r a w → KK a w) → wpOp P ops Q i KK a w)
    {t : List (List Nat)} {W : List Ward} (hd : drawC ops t W = true) (hQ : ∀ a w, Post G I0 K r0 a w → Q .normal a w) :
    ∀ (fuel : Nat) (l : List Nat) (listed : Array Bool) {st : St} {a : Act} {w : World}, l.length = fuel → listed.size = ops.size → l.Pairwise (· < ·) → (∀ i, i ∈ l ↔ i < ops.size ∧ listed.getD i true = false) → Down ops (fun i => i < ops.size ∧ listed.getD i true = true) →
      opsC c ops W l st K = some r0 → Ok G I0 st a w → wpAny P .any ops Q fuel listed a w := by
  intro fuel
  induction fuel with
  | zero =>
    intro l listed st a w hl hs hp hm hD hk h
    have : l = [] := List.length_eq_zero_iff.1 hl
    subst this
    refine ⟨?_, hQ a w ⟨st, hk, h⟩⟩
    apply List.eq_nil_iff_forall_not_mem.2
    intro i hi
    obtain ⟨h1, h2, _⟩ := ready_iff.1 hi
    have := (hm i).2 ⟨h1, h2⟩
    simp at this
  | succ fuel ih =>
    intro l listed st a w hl hs hp hm hD hk h
    refine ⟨fun hr => ?_, fun i hi => ?_⟩
    · exfalso
      match l, hl with
      | k :: l, _ =>
        obtain ⟨hk1, hk2⟩ := (hm k).1 (List.mem_cons_self ..)
        have hmem : k ∈ Region.ready .any ops listed := by
          refine ready_iff.2 ⟨hk1, hk2, ops[k], by rw [Array.getElem?_eq_getElem], fun e he => ?_⟩
          have h1 := (List.all_eq_true.1 hd) k (List.mem_range.2 hk1)
          rw [Array.getElem?_eq_getElem hk1] at h1
          simp only [Bool.and_eq_true, List.all_eq_true, decide_eq_true_eq] at h1
          have hek := h1.1.1 e he
          have hes : e < ops.size := by omega
          rw [getD_iff (ops := ops) hs hes]
          cases hle : listed.getD e true with
          | true => rfl
          | false =>
            have : e ∈ k :: l := (hm e).2 ⟨hes, hle⟩
            rcases List.mem_cons.1 this with h | h
            · omega
            · have := (List.pairwise_cons.1 hp).1 e h; omega
        rw [hr] at hmem; simp at hmem
    · obtain ⟨hi1, hi2, o, ho, he⟩ := ready_iff.1 hi
      obtain ⟨l1, l2, rfl⟩ := List.append_of_mem ((hm i).2 ⟨hi1, hi2⟩)
      have h1 := (List.all_eq_true.1 hd) i (List.mem_range.2 hi1)
      simp only [ho, Bool.and_eq_true, List.all_eq_true, decide_eq_true_eq] at h1
      have he' : ∀ e ∈ edges o, e < ops.size ∧ listed.getD e true = true := fun e hh => by
        have hes : e < ops.size := by have := h1.1.1 e hh; omega
        exact ⟨hes, (getD_iff (ops := ops) hs hes).1 (he e hh)⟩
      have hpre := down_predsC hd hD (i + 1) i o (by omega) ho he'
      have hpw := List.pairwise_append.1 hp
      have hfr : ∀ j ∈ l1, Side ops W j i o := fun j hj => by
        have hji : j < i := hpw.2.2 j hj i (List.mem_cons_self ..)
        have h2 := h1.2 j (List.mem_range.2 hji)
        obtain ⟨hj1, hj2⟩ := (hm j).1 (by simp [hj])
        rw [Bool.or_eq_true] at h2
        rcases h2 with h2 | h2
        · have := (hpre j (List.contains_iff_mem.1 h2)).2
          rw [hj2] at this; cases this
        · unfold Side
          rw [Array.getElem?_eq_getElem hj1] at h2 ⊢
          simp only [Bool.and_eq_true, Bool.not_eq_true'] at h2
          have go : ∀ {o : Oper} {u v : Ward}, offB o u v = true → loud o = true → ∀ d, (o.dst = some d ∨ d ∈ u.U) → v.A.contains d = true := by
            intro o u v h3 hl d hd
            unfold offB at h3
            rw [hl] at h3
            simp only [Bool.not_true, Bool.false_or, Bool.and_eq_true, List.all_eq_true] at h3
            rcases hd with hd | hd
            · have := h3.1; rw [hd] at this; exact this
            · exact h3.2 d hd
          exact ⟨_, rfl, h2.1.1.1.1, h2.1.1.1.2, h2.1.1.2, go h2.1.2, go h2.2⟩
      have e1 : g1 c ops W i st (fun st => opsC c ops W (l1 ++ l2) st K) = some r0 := by
        have : l1 ++ i :: l2 = (l1 ++ [i]) ++ l2 := by simp
        rw [this, opsC_append] at hk
        have := frontC ho l1 hfr hk
        simp only [opsC] at this
        simpa [opsC_append] using this
      have hk : ∃ K' : St → Option T, gS c ops i st K' = some r0 ∧ ∀ st, K' st = some r0 → opsC c ops W (l1 ++ l2) st K = some r0 := by
        unfold g1 at e1
        split at e1
        · exact ⟨_, e1, fun _ h => h⟩
        · unfold gC at e1
          split at e1
          · refine ⟨_, e1, fun st h => ?_⟩
            split at h
            · exact h
            · cases h
          · cases e1
      obtain ⟨K', hk, hK'⟩ := hk
      refine step hk h fun a w ⟨st', hk', h'⟩ => ?_
      replace hk' := hK' _ hk'
      refine ih (l1 ++ l2) _ (by simp at hl ⊢; omega) (by simp [hs]) ?_ (fun j => ?_) ?_ hk' h'
      · refine List.pairwise_append.2 ⟨hpw.1, (List.pairwise_cons.1 hpw.2.1).2, fun x hx y hy => hpw.2.2 x hx y (List.mem_cons_of_mem _ hy)⟩
      · have hne : ∀ j, j ∈ l1 ++ l2 ↔ j ∈ l1 ++ i :: l2 ∧ j ≠ i := fun j => by
          have hnd : (l1 ++ i :: l2).Nodup := hp.imp (fun h => Nat.ne_of_lt h)
          rw [List.nodup_append, List.nodup_cons] at hnd
          simp only [List.mem_append, List.mem_cons]
          constructor
          · rintro (h | h)
            · exact ⟨.inl h, fun e => hnd.2.2 j h i (List.mem_cons_self ..) e⟩
            · exact ⟨.inr (.inr h), fun e => hnd.2.1.1 (e ▸ h)⟩
          · rintro ⟨h | h | h, hne⟩
            · exact .inl h
            · exact absurd h hne
            · exact .inr h
        rw [hne, hm]
        have := lists_set (listed := listed) (ops := ops) (j := j) hs hi1
        constructor
        · rintro ⟨⟨a1, a2⟩, a3⟩
          refine ⟨a1, ?_⟩
          cases hx : (listed.setIfInBounds i true).getD j true with
          | false => rfl
          | true =>
            rcases this.1 hx with h | h
            · exact absurd h a3
            · rw [a2] at h; cases h
        · rintro ⟨a1, a2⟩
          refine ⟨⟨a1, ?_⟩, fun e => ?_⟩
          · cases hx : listed.getD j true with
            | false => rfl
            | true => rw [this.2 (.inr hx)] at a2; cases a2
          · rw [this.2 (.inl e)] at a2; cases a2
      · intro k p ⟨k1, k2⟩ hkp e hee
        rcases (lists_set (ops := ops) hs hi1).1 k2 with h | h
        · subst h
          rw [ho] at hkp; cases hkp
          exact ⟨(he' e hee).1, (lists_set (ops := ops) hs hi1).2 (.inr (he' e hee).2)⟩
        · obtain ⟨d1, d2⟩ := hD k p ⟨k1, h⟩ hkp e hee
          exact ⟨d1, (lists_set (ops := ops) hs hi1).2 (.inr d2)⟩
end
end Go.Proofs.Ytlgbhaigpecdoaa.V
