/-
  How an argument is read: for each kind of data (whole numbers, bools, strings, slices, structs, arrays) what the form's reading of a value gives: a plain value, that the cells hold it, its bounds, and how much of the law's bulk it takes. Each lemma bears its own conditions.
-/
import Derived.Test.YtgiodeiibmbhhaaRows
import Derived.Test.YtgiodeiibmbhhaaWMore
import Derived.SizedLaws
import Derived.ChangeReads
set_option linter.unusedVariables false
set_option linter.unusedSimpArgs false
namespace Go.Proofs.Ytgiodeiibmbhhaa.Op
open Go Go.RowKit Go.Proofs.YtgiodeiibmbhhaaW.PrintWords

def Opens (P : Program) (W : World) (t : TypeId) {α : Type} (d : Kd α) (wf sz sm : α → Prop) : Prop :=
  P.cellsOf t = d.sz ∧ ∀ (H : Type) (enc : TypeId × Value → H) (fuel : Nat) (cs : List Value) (D : DataW H) (ps : List MemPlace),
    DataW.trod enc P W 0 (fun _ => true) true fuel t cs = some (D, ps) → ∃ x, d.K W x cs ∧ wf x ∧ ((D.weights P t).all (· ≤ reachBytes) = true → sz x) ∧ (Rows.uptoBulk D ≤ 1048576 → sm x)

theorem one_le {H : Type} (d : DataW H) : 1 ≤ Rows.uptoBulk d := by
  cases d with
  | lit l => cases l <;> simp [Rows.uptoBulk]
  | nil => simp [Rows.uptoBulk]
  | ptr d => simp [Rows.uptoBulk]
  | slice elems spare => simp [Rows.uptoBulk]
  | agg parts => simp [Rows.uptoBulk]
  | iface t d => simp [Rows.uptoBulk]
  | map entries => simp [Rows.uptoBulk]
  | held h => simp [Rows.uptoBulk]
theorem part_le {H : Type} {d : DataW H} {l : List (DataW H)} (h : d ∈ l) : Rows.uptoBulk d ≤ Rows.uptoBulkAll l := by
  induction l with
  | nil => cases h
  | cons x r ih =>
    simp only [Rows.uptoBulkAll]
    cases List.mem_cons.1 h with
    | inl e => subst e; omega
    | inr e => have := ih e; omega
theorem length_le {H : Type} (l : List (DataW H)) : l.length ≤ Rows.uptoBulkAll l := by
  induction l with
  | nil => simp [Rows.uptoBulkAll]
  | cons x r ih => have := one_le x; simp only [Rows.uptoBulkAll, List.length_cons]; omega

theorem opens_int {P : Program} {W : World} {t : TypeId} {k : IntKind} (hu : P.underlying t = some (.int k)) (hc : P.cellsOf t = 1) :
    Opens P W t (Kd.int k) (fun x => (Lit.int k x).wf = true) (fun _ => True) (fun _ => True) := by
  refine ⟨hc, fun H enc fuel cs D ps h => ?_⟩
  cases fuel with
  | zero => simp [DataW.trod] at h
  | succ n =>
    rw [DataW.trod_step] at h
    unfold DataW.trodStep at h
    rw [hu] at h
    simp only at h
    split at h <;> simp_all
    obtain ⟨⟨rfl, hw⟩, rfl, rfl⟩ := h
    rename_i hh _
    exact ⟨_, rfl, hw⟩
theorem opens_bool {P : Program} {W : World} {t : TypeId} (hu : P.underlying t = some .bool) (hc : P.cellsOf t = 1) :
    Opens P W t Kd.bool (fun _ => True) (fun _ => True) (fun _ => True) := by
  refine ⟨hc, fun H enc fuel cs D ps h => ?_⟩
  cases fuel with
  | zero => simp [DataW.trod] at h
  | succ n =>
    rw [DataW.trod_step] at h
    unfold DataW.trodStep at h
    rw [hu] at h
    simp only at h
    split at h <;> simp_all
    obtain ⟨rfl, rfl⟩ := h
    rename_i b
    cases b
    · exact .inl rfl
    · exact .inr rfl
theorem opens_string {P : Program} {W : World} {t : TypeId} (hu : P.underlying t = some .string) (hc : P.cellsOf t = 1) :
    Opens P W t Kd.string (fun s => s.size ≤ maxLen) (fun s => s.size ≤ 140737488351232) (fun s => s.size ≤ 1048576) := by
  refine ⟨hc, fun H enc fuel cs D ps h => ?_⟩
  cases fuel with
  | zero => simp [DataW.trod] at h
  | succ n =>
    rw [DataW.trod_step] at h
    unfold DataW.trodStep at h
    rw [hu] at h
    simp only at h
    split at h <;> simp_all
    obtain ⟨hm, rfl, rfl⟩ := h
    rename_i s
    refine ⟨s, rfl, hm, ?_, ?_⟩
    · intro z
      have z := z
      simp only [DataW.weights, List.all_cons, List.all_nil, Bool.and_true, decide_eq_true_eq, reachBytes] at z
      simpa using z
    · intro z
      simp only [Rows.uptoBulk, Array.length_toList] at z
      have e : s.data.size = s.size := rfl
      omega
theorem mapM_pick {α β : Type} {f : Nat → Option β} {R : Nat → α → β → Prop} (h : ∀ i y, f i = some y → ∃ x, R i x y) : ∀ {L : List Nat} {ys : List β}, L.mapM f = some ys →
    ∃ xs : List α, xs.length = L.length ∧ ys.length = L.length ∧ ∀ (j i : Nat), L[j]? = some i → ∃ x y, xs[j]? = some x ∧ ys[j]? = some y ∧ R i x y := by
  intro L
  induction L with
  | nil => intro ys hy; exact ⟨[], rfl, by simp at hy; subst hy; rfl, fun j i hj => by simp at hj⟩
  | cons i L ih =>
    intro ys hy
    rw [List.mapM_cons] at hy
    cases hf : f i with
    | none => simp [hf] at hy
    | some y =>
      cases hl : L.mapM f with
      | none => simp [hf, hl] at hy
      | some zs =>
        simp [hf, hl] at hy
        subst hy
        obtain ⟨x, hx⟩ := h i y hf
        obtain ⟨xs, h1, h2, h3⟩ := ih hl
        refine ⟨x :: xs, by simp [h1], by simp [h2], fun j q hj => ?_⟩
        cases j with
        | zero =>
          simp at hj
          subst hj
          exact ⟨x, y, rfl, rfl, hx⟩
        | succ j => simpa using h3 j q (by simpa using hj)
theorem weights_of_all {H : Type} {P : Program} {e : TypeId} : ∀ {l : List (DataW H)}, (DataW.weightsAll P e l).all (· ≤ reachBytes) = true → ∀ d ∈ l, (d.weights P e).all (· ≤ reachBytes) = true
  | [], _, d, hd => by cases hd
  | x :: l, h, d, hd => by
    simp only [DataW.weightsAll, List.all_append, Bool.and_eq_true] at h
    cases hd with
    | head => exact h.1
    | tail _ hd => exact weights_of_all h.2 d hd
theorem add_add (a : Addr) (m j : Nat) : (a.add m).add j = a.add (m + j) := by
  unfold Addr.add
  by_cases hm : m = 0
  · subst hm; simp
  · by_cases hj : j = 0
    · subst hj; simp [hm]
    · simp [hm, hj]; omega
theorem opens_slice {P : Program} {W : World} {t e : TypeId} {α : Type} {d : Kd α} {wf sz sm : α → Prop} (hu : P.underlying t = some (.slice e)) (hc : P.cellsOf t = 1) (hd : Opens P W e d wf sz sm) (e' : Nat) :
    Opens P W t (Kd.slice e' d) (fun l => ∀ x ∈ l, wf x) (fun l => l.length * P.bytesOf e ≤ 140737488351232 ∧ ∀ x ∈ l, sz x) (fun l => l.length ≤ 1048576 ∧ ∀ x ∈ l, sm x) := by
  refine ⟨hc, fun H enc fuel cs D ps h => ?_⟩
  cases fuel with
  | zero => simp [DataW.trod] at h
  | succ n =>
    rw [DataW.trod_step] at h
    unfold DataW.trodStep at h
    rw [hu] at h
    simp only at h
    split at h
    any_goals (rename_i hx; cases hx)
    all_goals try (cases h; done)
    · obtain ⟨rfl, rfl⟩ : DataW.nil = D ∧ [] = ps := by simpa using h
      exact ⟨[], ⟨none, 0, rfl, Nat.le_refl _, rfl, by simp, fun h => absurd h (by simp)⟩, by simp, fun _ => ⟨by simp, by simp⟩, fun _ => ⟨by simp, by simp⟩⟩
    · rename_i a len cap
      split at h
      · rename_i hb
        obtain ⟨elems, he, h⟩ := Option.bind_eq_some_iff.1 h
        obtain ⟨rest, hr, h⟩ := Option.map_eq_some_iff.1 h
        obtain ⟨rfl, rfl⟩ := Prod.mk.inj h
        obtain ⟨xs, h1, h2, h3⟩ := mapM_pick (R := fun i x (y : DataW H × List MemPlace) => ∃ c, (∀ j u, c[j]? = some u → W.cell? ((a.add (i * P.cellsOf e)).add j) = some u) ∧ d.K W x c ∧ wf x ∧ ((y.1.weights P e).all (· ≤ reachBytes) = true → sz x) ∧ (Rows.uptoBulk y.1 ≤ 1048576 → sm x)) (fun i y hy => by
          obtain ⟨c, hc1, hc2⟩ := Option.bind_eq_some_iff.1 hy
          obtain ⟨_, hl, hg⟩ := World.cells?_some hc1
          obtain ⟨x, k1, k2, k3, k4⟩ := hd.2 H enc n c y.1 y.2 hc2
          exact ⟨x, c, fun j u hj => (hg j (by rw [← hl]; exact (List.getElem?_eq_some_iff.1 hj).1)).trans hj, k1, k2, k3, k4⟩) he
        have hn : xs.length = len := by simpa using h1
        subst hn
        have at_ : ∀ (j : Nat) x, xs[j]? = some x → ∃ y, elems[j]? = some y ∧ ∃ c, (∀ i u, c[i]? = some u → W.cell? ((a.add (j * P.cellsOf e)).add i) = some u) ∧ d.K W x c ∧ wf x ∧ ((y.1.weights P e).all (· ≤ reachBytes) = true → sz x) ∧ (Rows.uptoBulk y.1 ≤ 1048576 → sm x) := by
          intro j x hj
          have hlt := (List.getElem?_eq_some_iff.1 hj).1
          obtain ⟨x', y, hx', hy, hR⟩ := h3 j j (by simp [hlt])
          rw [hj] at hx'
          cases hx'
          exact ⟨y, hy, hR⟩
        refine ⟨xs, ⟨some a, cap, rfl, hb.2.1, rfl, ?_, fun _ => ⟨a, rfl, ?_⟩⟩, ?_, ?_, ?_⟩
        · have := hb.2.1; have := hb.2.2; simp only [maxLen] at *; omega
        · intro j x hj
          obtain ⟨y, hy, c, hc1, hK, _⟩ := at_ j x hj
          refine ⟨c, d.K_len hK, hK, fun i u hi => ?_⟩
          have := hc1 i u hi
          rw [add_add, hd.1] at this
          exact this
        · intro x hx
          obtain ⟨j, hj⟩ := List.getElem?_of_mem hx
          obtain ⟨y, hy, c, hc1, hK, hw, _⟩ := at_ j x hj
          exact hw
        · intro hw
          simp only [DataW.weights, hu, List.all_cons, List.all_append, Bool.and_eq_true, decide_eq_true_eq, List.length_map, reachBytes] at hw
          refine ⟨Nat.le_trans (Nat.mul_le_mul_right (P.bytesOf e) (show xs.length ≤ elems.length + rest.length by rw [h2, ← h1]; omega)) (of_decide_eq_true hw.1), fun x hx => ?_⟩
          obtain ⟨j, hj⟩ := List.getElem?_of_mem hx
          obtain ⟨y, hy, c, hc1, hK, _, hs, _⟩ := at_ j x hj
          exact hs (weights_of_all hw.2.1 y.1 (List.mem_map.2 ⟨y, List.mem_of_getElem? hy, rfl⟩))
        · intro hb2
          simp only [Rows.uptoBulk] at hb2
          have hll := length_le (elems.map (·.1))
          refine ⟨by rw [List.length_map, h2, ← h1] at hll; omega, fun x hx => ?_⟩
          obtain ⟨j, hj⟩ := List.getElem?_of_mem hx
          obtain ⟨y, hy, c, hc1, hK, _, _, hs⟩ := at_ j x hj
          have := part_le (List.mem_map.2 ⟨y, List.mem_of_getElem? hy, rfl⟩ : y.1 ∈ elems.map (·.1))
          exact hs (by omega)
      · cases h
/-- The fields fs of a struct, from the place o on. -/
def OpensF (P : Program) (W : World) (fs : List Field) (o : Nat) {α : Type} (d : Kd α) (wf sz sm : α → Prop) : Prop :=
  ∀ (H : Type) (enc : TypeId × Value → H) (fuel : Nat) (cs : List Value) (xs : List (DataW H × List MemPlace)),
    (fs.mapM fun f => DataW.trod enc P W 0 (fun _ => true) true fuel f.type ((cs.drop f.offset).take (P.cellsOf f.type))) = some xs →
      ∃ x, d.K W x ((cs.drop o).take d.sz) ∧ wf x ∧ ((DataW.weightsEach P (fs.map (·.type)) (xs.map (·.1))).all (· ≤ reachBytes) = true → sz x) ∧ (Rows.uptoBulkAll (xs.map (·.1)) ≤ 1048576 → sm x)
theorem opensF_one {P : Program} {W : World} {f : Field} {o : Nat} {α : Type} {d : Kd α} {wf sz sm : α → Prop} (ho : f.offset = o) (hd : Opens P W f.type d wf sz sm) : OpensF P W [f] o d wf sz sm := by
  intro H enc fuel cs xs h
  subst ho
  rw [List.mapM_cons] at h
  cases hf : DataW.trod enc P W 0 (fun _ => true) true fuel f.type ((cs.drop f.offset).take (P.cellsOf f.type)) with
  | none => simp [hf] at h
  | some y =>
    simp [hf] at h
    subst h
    obtain ⟨x, k1, k2, k3, k4⟩ := hd.2 H enc fuel _ y.1 y.2 hf
    refine ⟨x, by rw [← hd.1]; exact k1, k2, fun hw => k3 ?_, ?_⟩
    · simpa [DataW.weightsEach] using hw
    · intro z; exact k4 (by simpa [Rows.uptoBulkAll] using z)
theorem opensF_cons {P : Program} {W : World} {f : Field} {fs : List Field} {o : Nat} {α β : Type} {d : Kd α} {wf sz sm : α → Prop} {d' : Kd β} {wf' sz' sm' : β → Prop}
    (ho : f.offset = o) (hd : Opens P W f.type d wf sz sm) (hr : OpensF P W fs (o + d.sz) d' wf' sz' sm') : OpensF P W (f :: fs) o (Kd.pair d d') (fun x => wf x.1 ∧ wf' x.2) (fun x => sz x.1 ∧ sz' x.2) (fun x => sm x.1 ∧ sm' x.2) := by
  intro H enc fuel cs xs h
  subst ho
  rw [List.mapM_cons] at h
  cases hf : DataW.trod enc P W 0 (fun _ => true) true fuel f.type ((cs.drop f.offset).take (P.cellsOf f.type)) with
  | none => simp [hf] at h
  | some y =>
    cases hl : fs.mapM fun f => DataW.trod enc P W 0 (fun _ => true) true fuel f.type ((cs.drop f.offset).take (P.cellsOf f.type)) with
    | none => simp [hf, hl] at h
    | some ys =>
      simp [hf, hl] at h
      subst h
      obtain ⟨x, k1, k2, k3, k4⟩ := hd.2 H enc fuel _ y.1 y.2 hf
      obtain ⟨x', k1', k2', k3', k4'⟩ := hr H enc fuel cs ys hl
      refine ⟨(x, x'), ⟨_, _, ?_, by rw [hd.1] at k1; exact k1, k1'⟩, ⟨k2, k2'⟩, fun hw => ?_, ?_⟩
      · show (cs.drop f.offset).take (d.sz + d'.sz) = _
        rw [List.take_add, List.drop_drop]
      · simp only [List.map_cons, DataW.weightsEach, List.all_append, Bool.and_eq_true] at hw
        exact ⟨k3 hw.1, k3' hw.2⟩
      · intro z
        simp only [List.map_cons, Rows.uptoBulkAll] at z
        exact ⟨k4 (by omega), k4' (by omega)⟩
theorem opens_struct {P : Program} {W : World} {t : TypeId} {fs : Array Field} {α β : Type} {d : Kd α} {wf sz sm : α → Prop} (g : β → α) (gi : α → β) (hg : ∀ a, g (gi a) = a)
    (hu : P.underlying t = some (.struct fs)) (hc : P.cellsOf t = d.sz) (hd : OpensF P W fs.toList 0 d wf sz sm) :
    Opens P W t (Kd.iso d g) (fun x => wf (g x)) (fun x => sz (g x)) (fun x => sm (g x)) := by
  refine ⟨hc, fun H enc fuel cs D ps h => ?_⟩
  cases fuel with
  | zero => simp [DataW.trod] at h
  | succ n =>
    rw [DataW.trod_step] at h
    unfold DataW.trodStep at h
    rw [hu] at h
    simp only at h
    split at h
    · rename_i hl
      obtain ⟨xs, hx, h⟩ := Option.map_eq_some_iff.1 h
      obtain ⟨rfl, rfl⟩ := Prod.mk.inj h
      obtain ⟨x, k1, k2, k3, k4⟩ := hd H enc n cs xs hx
      refine ⟨gi x, ?_, by show wf (g (gi x)); rw [hg]; exact k2, fun hw => by show sz (g (gi x)); rw [hg]; exact k3 (by simpa [DataW.weights, hu] using hw), fun z => by show sm (g (gi x)); rw [hg]; simp only [Rows.uptoBulk] at z; exact k4 (by omega)⟩
      show d.K W (g (gi x)) cs
      rw [hg]
      have e : (cs.drop 0).take d.sz = cs := by rw [List.drop_zero, ← hc, ← hl]; exact List.take_length
      rw [e] at k1
      exact k1
    · cases h
theorem okWide_array_ {P : Program} {w : World} {r : Reach} {base : Nat} {t e : TypeId} {n : Nat} {v : Value} (ht : P.underlying t = some (.array n e)) (h : Value.okWide P w r base t v) : ∃ cs, v = .agg cs ∧ cs.size = P.cellsOf t := by
  simp only [Value.okWide, ht] at h
  obtain ⟨cs, h1, h2, _⟩ := h
  exact ⟨cs, h1, h2⟩
theorem opens_array {P : Program} {W : World} {t e : TypeId} {n : Nat} {fs : List Field} {α β : Type} {d : Kd α} {wf sz sm : α → Prop} (g : β → α) (gi : α → β) (hg : ∀ a, g (gi a) = a)
    (hu : P.underlying t = some (.array n e)) (hc : P.cellsOf t = d.sz) (hfs : (List.range n).map (fun i => (e, i * P.cellsOf e)) = fs.map fun f => (f.type, f.offset)) (hd : OpensF P W fs 0 d wf sz sm) (hsz : ∀ x, sz x) :
    Opens P W t (Kd.iso d g) (fun x => wf (g x)) (fun x => sz (g x)) (fun x => sm (g x)) := by
  refine ⟨hc, fun H enc fuel cs D ps h => ?_⟩
  cases fuel with
  | zero => simp [DataW.trod] at h
  | succ m =>
    rw [DataW.trod_step] at h
    unfold DataW.trodStep at h
    rw [hu] at h
    simp only at h
    split at h
    · rename_i hl
      obtain ⟨xs, hx, h⟩ := Option.map_eq_some_iff.1 h
      obtain ⟨rfl, rfl⟩ := Prod.mk.inj h
      have hx2 : (fs.mapM fun f => DataW.trod enc P W 0 (fun _ => true) true m f.type ((cs.drop f.offset).take (P.cellsOf f.type))) = some xs := by
        have e1 : (fs.mapM fun f => DataW.trod enc P W 0 (fun _ => true) true m f.type ((cs.drop f.offset).take (P.cellsOf f.type))) = (fs.map fun f => (f.type, f.offset)).mapM (fun p => DataW.trod enc P W 0 (fun _ => true) true m p.1 ((cs.drop p.2).take (P.cellsOf p.1))) := by rw [List.mapM_map]; rfl
        rw [e1, ← hfs, List.mapM_map]
        exact hx
      obtain ⟨x, k1, k2, k3, k4⟩ := hd H enc m cs xs hx2
      refine ⟨gi x, ?_, by show wf (g (gi x)); rw [hg]; exact k2, fun hw => hsz _, fun z => by show sm (g (gi x)); rw [hg]; simp only [Rows.uptoBulk] at z; exact k4 (by omega)⟩
      show d.K W (g (gi x)) cs
      rw [hg]
      have e : (cs.drop 0).take d.sz = cs := by rw [List.drop_zero, ← hc, ← hl]; exact List.take_length
      rw [e] at k1
      exact k1
    · cases h
end Go.Proofs.Ytgiodeiibmbhhaa.Op
