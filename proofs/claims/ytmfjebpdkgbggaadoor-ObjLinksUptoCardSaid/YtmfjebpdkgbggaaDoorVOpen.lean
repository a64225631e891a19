/- How an argument is read: a plain value that the cells hold, its bounds, and how much of the law's bulk it takes. -/
import Derived.Test.YtmfjebpdkgbggaaDoorVNode
import Derived.Test.YtmfjebpdkgbggaaDoorRows
import Derived.SizedLaws
import Derived.ChangeReads
set_option linter.unusedVariables false
set_option linter.unusedSimpArgs false
namespace Go.Proofs.YtmfjebpdkgbggaaDoor.V
open Go Go.RowKit
abbrev OldIm (W : World) : Nat → Prop := fun k => k < W.heap.size
def Opens (P : Program) (W : World) (t : TypeId) (ty : Ty) (wf sz' sm : den ty → Prop) : Prop :=
  P.cellsOf t = sz ty ∧ ∀ (H : Type) (enc : TypeId × Value → H) (fuel : Nat) (cs : List Value) (D : DataW H) (ps : List MemPlace),
    DataW.trod enc P W 0 (fun _ => true) true fuel t cs = some (D, ps) → ∃ x : den ty, Rep W (OldIm W) ty .ro x cs [] ∧ wf x ∧ ((D.weights P t).all (· ≤ reachBytes) = true → sz' x) ∧ (Rows.uptoBulk D ≤ 1048576 → sm x)
theorem one_le {H : Type} (d : DataW H) : 1 ≤ Rows.uptoBulk d := by
  cases d with
  | lit l => cases l <;> simp [Rows.uptoBulk]
  | nil => simp [Rows.uptoBulk]
  | ptr d => simp [Rows.uptoBulk]
  | slice elems spare => simp [Rows.uptoBulk]
  | agg parts => simp [Rows.uptoBulk]
  | iface t d => simp [Rows.uptoBulk]
  | map entries => simp [Rows.uptoBulk]
  | held h => simp [Rows.uptoBulk]
theorem part_le {H : Type} {d : DataW H} {l : List (DataW H)} (h : d ∈ l) : Rows.uptoBulk d ≤ Rows.uptoBulkAll l := by
  induction l with
  | nil => cases h
  | cons x r ih =>
    simp only [Rows.uptoBulkAll]
    cases List.mem_cons.1 h with
    | inl e => subst e; omega
    | inr e => have := ih e; omega
theorem length_le {H : Type} (l : List (DataW H)) : l.length ≤ Rows.uptoBulkAll l := by
  induction l with
  | nil => simp [Rows.uptoBulkAll]
  | cons x r ih => have := one_le x; simp only [Rows.uptoBulkAll, List.length_cons]; omega
theorem opens_int {P : Program} {W : World} {t : TypeId} {k : IntKind} (hu : P.underlying t = some (.int k)) (hc : P.cellsOf t = 1) :
    Opens P W t (.int k) (fun x => (Lit.int k x).wf = true) (fun _ => True) (fun _ => True) := by
  refine ⟨hc, fun H enc fuel cs D ps h => ?_⟩
  cases fuel with
  | zero => simp [DataW.trod] at h
  | succ n =>
    rw [DataW.trod_step] at h
    unfold DataW.trodStep at h
    rw [hu] at h
    simp only at h
    split at h <;> simp_all
    obtain ⟨⟨rfl, hw⟩, rfl, rfl⟩ := h
    rename_i n1 hh hk
    subst hk
    exact ⟨hh, ⟨rfl, rfl⟩, hw⟩
theorem opens_string {P : Program} {W : World} {t : TypeId} (hu : P.underlying t = some .string) (hc : P.cellsOf t = 1) :
    Opens P W t .str (fun s => s.size ≤ maxLen) (fun s => s.size ≤ 140737488351232) (fun s => s.size ≤ 1048576) := by
  refine ⟨hc, fun H enc fuel cs D ps h => ?_⟩
  cases fuel with
  | zero => simp [DataW.trod] at h
  | succ n =>
    rw [DataW.trod_step] at h
    unfold DataW.trodStep at h
    rw [hu] at h
    simp only at h
    split at h <;> simp_all
    obtain ⟨hm, rfl, rfl⟩ := h
    rename_i s
    refine ⟨s, ⟨rfl, rfl⟩, hm, ?_, ?_⟩
    · intro z
      have z := z
      simp only [DataW.weights, List.all_cons, List.all_nil, Bool.and_true, decide_eq_true_eq, reachBytes] at z
      simpa using z
    · intro z
      simp only [Rows.uptoBulk, Array.length_toList] at z
      have e : s.data.size = s.size := rfl
      omega
theorem mapM_pick {α β : Type} {f : Nat → Option β} {R : Nat → α → β → Prop} (h : ∀ i y, f i = some y → ∃ x, R i x y) : ∀ {L : List Nat} {ys : List β}, L.mapM f = some ys →
    ∃ xs : List α, xs.length = L.length ∧ ys.length = L.length ∧ ∀ (j i : Nat), L[j]? = some i → ∃ x y, xs[j]? = some x ∧ ys[j]? = some y ∧ R i x y := by
  intro L
  induction L with
  | nil => intro ys hy; exact ⟨[], rfl, by simp at hy; subst hy; rfl, fun j i hj => by simp at hj⟩
  | cons i L ih =>
    intro ys hy
    rw [List.mapM_cons] at hy
    cases hf : f i with
    | none => simp [hf] at hy
    | some y =>
      cases hl : L.mapM f with
      | none => simp [hf, hl] at hy
      | some zs =>
        simp [hf, hl] at hy
        subst hy
        obtain ⟨x, hx⟩ := h i y hf
        obtain ⟨xs, h1, h2, h3⟩ := ih hl
        refine ⟨x :: xs, by simp [h1], by simp [h2], fun j q hj => ?_⟩
        cases j with
        | zero =>
          simp at hj
          subst hj
          exact ⟨x, y, rfl, rfl, hx⟩
        | succ j => simpa using h3 j q (by simpa using hj)
theorem weights_of_all {H : Type} {P : Program} {e : TypeId} : ∀ {l : List (DataW H)}, (DataW.weightsAll P e l).all (· ≤ reachBytes) = true → ∀ d ∈ l, (d.weights P e).all (· ≤ reachBytes) = true
  | [], _, d, hd => by cases hd
  | x :: l, h, d, hd => by
    simp only [DataW.weightsAll, List.all_append, Bool.and_eq_true] at h
    cases hd with
    | head => exact h.1
    | tail _ hd => exact weights_of_all h.2 d hd
theorem rows_of {W : World} {ty : Ty} {b : Nat} {c : Array Value} {e : TypeId} {fz : Nat × Nat} (hb : W.heap[b]? = some (.cells c e fz)) : ∀ {xs : List (den ty)} {o : Nat},
    (∀ (j : Nat) x, xs[j]? = some x → ∃ cs, Rep W (OldIm W) ty .ro x cs [] ∧ ∀ i u, cs[i]? = some u → c[o + j * sz ty + i]? = some u) → RepL (fun x cs h => Rep W (OldIm W) ty .ro x cs h) xs (c.toList.drop o) []
  | [], _, _ => rfl
  | x :: xs, o, h => by
    obtain ⟨cs, hr, hg⟩ := h 0 x rfl
    have hl := hr.len
    refine ⟨cs, c.toList.drop (o + sz ty), [], [], ?_, rfl, hr, rows_of hb (xs := xs) (o := o + sz ty) fun j y hj => ?_⟩
    · have e1 : (c.toList.drop o).take (sz ty) = cs := by
        apply List.ext_getElem?
        intro i
        by_cases hi : i < sz ty
        · rw [List.getElem?_take_of_lt hi, List.getElem?_drop]
          have : cs[i]? = some cs[i] := List.getElem?_eq_getElem (by omega)
          have h2 := hg i _ this
          rw [this]
          simpa using h2
        · rw [List.getElem?_eq_none (by rw [List.length_take]; omega), List.getElem?_eq_none (by omega)]
      rw [← e1, ← List.drop_drop, List.take_append_drop]
    · obtain ⟨cs, hr, hg⟩ := h (j + 1) y (by simpa using hj)
      refine ⟨cs, hr, fun i u hu => ?_⟩
      have := hg i u hu
      rw [Nat.add_mul, Nat.one_mul] at this
      rw [← this]; congr 1; omega
theorem opens_slice {P : Program} {W : World} {t e : TypeId} {ty : Ty} {wf sz' sm : den ty → Prop} (hu : P.underlying t = some (.slice e)) (hc : P.cellsOf t = 1) (hd : Opens P W e ty wf sz' sm) (hpos : 0 < sz ty) :
    Opens P W t (.slc ty) (fun l => ∀ x ∈ l, wf x) (fun l => List.length l * P.bytesOf e ≤ 140737488351232 ∧ ∀ x ∈ l, sz' x) (fun l => List.length l ≤ 1048576 ∧ ∀ x ∈ l, sm x) := by
  refine ⟨hc, fun H enc fuel cs D ps h => ?_⟩
  cases fuel with
  | zero => simp [DataW.trod] at h
  | succ n =>
    rw [DataW.trod_step] at h
    unfold DataW.trodStep at h
    rw [hu] at h
    simp only at h
    split at h
    any_goals (rename_i hx; cases hx)
    all_goals try (cases h; done)
    · obtain ⟨rfl, rfl⟩ : DataW.nil = D ∧ [] = ps := by simpa using h
      exact ⟨[], ⟨rfl, none, 0, rfl, Nat.le_refl _, fun h => absurd rfl h⟩, by simp, fun _ => ⟨by simp, by simp⟩, fun _ => ⟨by simp, by simp⟩⟩
    · rename_i a len cap
      split at h
      · rename_i hb
        obtain ⟨elems, he, h⟩ := Option.bind_eq_some_iff.1 h
        obtain ⟨rest, hr, h⟩ := Option.map_eq_some_iff.1 h
        obtain ⟨rfl, rfl⟩ := Prod.mk.inj h
        obtain ⟨xs, h1, h2, h3⟩ := mapM_pick (α := den ty) (R := fun i x (y : DataW H × List MemPlace) => ∃ c, (∀ j u, c[j]? = some u → W.cell? ((a.add (i * P.cellsOf e)).add j) = some u) ∧ Rep W (OldIm W) ty .ro x c [] ∧ wf x ∧ ((y.1.weights P e).all (· ≤ reachBytes) = true → sz' x) ∧ (Rows.uptoBulk y.1 ≤ 1048576 → sm x)) (fun i y hy => by
          obtain ⟨c, hc1, hc2⟩ := Option.bind_eq_some_iff.1 hy
          obtain ⟨_, hl, hg⟩ := World.cells?_some hc1
          obtain ⟨x, k1, k2, k3, k4⟩ := hd.2 H enc n c y.1 y.2 hc2
          exact ⟨x, c, fun j u hj => (hg j (by rw [← hl]; exact (List.getElem?_eq_some_iff.1 hj).1)).trans hj, k1, k2, k3, k4⟩) he
        have hn : xs.length = len := by simpa using h1
        subst hn
        have at_ : ∀ (j : Nat) x, xs[j]? = some x → ∃ y, elems[j]? = some y ∧ ∃ c, (∀ i u, c[i]? = some u → W.cell? ((a.add (j * P.cellsOf e)).add i) = some u) ∧ Rep W (OldIm W) ty .ro x c [] ∧ wf x ∧ ((y.1.weights P e).all (· ≤ reachBytes) = true → sz' x) ∧ (Rows.uptoBulk y.1 ≤ 1048576 → sm x) := by
          intro j x hj
          have hlt := (List.getElem?_eq_some_iff.1 hj).1
          obtain ⟨x', y, hx', hy, hR⟩ := h3 j j (by simp [hlt])
          rw [hj] at hx'
          cases hx'
          exact ⟨y, hy, hR⟩
        refine ⟨xs, ⟨rfl, some a, cap, rfl, hb.2.1, fun hne => ?_⟩, ?_, ?_, ?_⟩
        · obtain ⟨x0, hx0⟩ : ∃ x0, xs[0]? = some x0 := by
            cases xs with
            | nil => exact absurd rfl hne
            | cons x _ => exact ⟨x, rfl⟩
          obtain ⟨y0, _, c0, hc0, hr0, _⟩ := at_ 0 x0 hx0
          have hl0 := hr0.len
          have h00 := hc0 0 c0[0] (List.getElem?_eq_getElem (by omega))
          rw [add_add, Nat.zero_mul] at h00
          have ea : a.add (0 + 0) = a := by simp [Addr.add]
          rw [ea] at h00
          unfold World.cell? at h00
          split at h00
          · rename_i c e' fz hheap
            split at h00
            · cases h00
            · rename_i hsp
              have hsp : a.spot = none := by simpa using hsp
              have eA : a = ⟨a.block, a.off, none⟩ := by cases a; simp_all
              have hlt : a.block < W.heap.size := (Array.getElem?_eq_some_iff.1 hheap).1
              refine ⟨a.block, a.off, c, e', fz, by rw [← eA], hlt, hheap, rows_of hheap fun j x hj => ?_⟩
              obtain ⟨y, _, cs, hc1, hr1, _⟩ := at_ j x hj
              refine ⟨cs, hr1, fun i u hi => ?_⟩
              have := hc1 i u hi
              rw [add_add, hd.1] at this
              rw [eA, add_at] at this
              unfold World.cell? at this
              simp only [hheap] at this
              simpa [Nat.add_assoc] using this
          · cases h00
        · intro x hx
          obtain ⟨j, hj⟩ := List.getElem?_of_mem hx
          obtain ⟨y, hy, c, hc1, hK, hw, _⟩ := at_ j x hj
          exact hw
        · intro hw
          simp only [DataW.weights, hu, List.all_cons, List.all_append, Bool.and_eq_true, decide_eq_true_eq, List.length_map, reachBytes] at hw
          refine ⟨Nat.le_trans (Nat.mul_le_mul_right (P.bytesOf e) (show xs.length ≤ elems.length + rest.length by rw [h2, ← h1]; omega)) (of_decide_eq_true hw.1), fun x hx => ?_⟩
          obtain ⟨j, hj⟩ := List.getElem?_of_mem hx
          obtain ⟨y, hy, c, hc1, hK, _, hs, _⟩ := at_ j x hj
          exact hs (weights_of_all hw.2.1 y.1 (List.mem_map.2 ⟨y, List.mem_of_getElem? hy, rfl⟩))
        · intro hb2
          simp only [Rows.uptoBulk] at hb2
          have hll := length_le (elems.map (·.1))
          refine ⟨by rw [List.length_map, h2, ← h1] at hll; omega, fun x hx => ?_⟩
          obtain ⟨j, hj⟩ := List.getElem?_of_mem hx
          obtain ⟨y, hy, c, hc1, hK, _, _, hs⟩ := at_ j x hj
          have := part_le (List.mem_map.2 ⟨y, List.mem_of_getElem? hy, rfl⟩ : y.1 ∈ elems.map (·.1))
          exact hs (by omega)
      · cases h
def OpensF (P : Program) (W : World) (fs : List Field) (o : Nat) (ty : Ty) (wf sz' sm : den ty → Prop) : Prop :=
  ∀ (H : Type) (enc : TypeId × Value → H) (fuel : Nat) (cs : List Value) (xs : List (DataW H × List MemPlace)),
    (fs.mapM fun f => DataW.trod enc P W 0 (fun _ => true) true fuel f.type ((cs.drop f.offset).take (P.cellsOf f.type))) = some xs →
      ∃ x : den ty, Rep W (OldIm W) ty .ro x ((cs.drop o).take (sz ty)) [] ∧ wf x ∧ ((DataW.weightsEach P (fs.map (·.type)) (xs.map (·.1))).all (· ≤ reachBytes) = true → sz' x) ∧ (Rows.uptoBulkAll (xs.map (·.1)) ≤ 1048576 → sm x)
theorem opensF_nil {P : Program} {W : World} {o : Nat} : OpensF P W [] o .unit (fun _ => True) (fun _ => True) (fun _ => True) := by
  intro H enc fuel cs xs h
  exact ⟨(), ⟨by simp [sz], rfl⟩, trivial, fun _ => trivial, fun _ => trivial⟩
theorem opensF_cons {P : Program} {W : World} {f : Field} {fs : List Field} {o : Nat} {ty ty' : Ty} {wf sz' sm : den ty → Prop} {wf' sz2 sm' : den ty' → Prop}
    (ho : f.offset = o) (hd : Opens P W f.type ty wf sz' sm) (hr : OpensF P W fs (o + sz ty) ty' wf' sz2 sm') : OpensF P W (f :: fs) o (.pair ty ty') (fun x => wf x.1 ∧ wf' x.2) (fun x => sz' x.1 ∧ sz2 x.2) (fun x => sm x.1 ∧ sm' x.2) := by
  intro H enc fuel cs xs h
  subst ho
  rw [List.mapM_cons] at h
  cases hf : DataW.trod enc P W 0 (fun _ => true) true fuel f.type ((cs.drop f.offset).take (P.cellsOf f.type)) with
  | none => simp [hf] at h
  | some y =>
    cases hl : fs.mapM fun f => DataW.trod enc P W 0 (fun _ => true) true fuel f.type ((cs.drop f.offset).take (P.cellsOf f.type)) with
    | none => simp [hf, hl] at h
    | some ys =>
      simp [hf, hl] at h
      subst h
      obtain ⟨x, k1, k2, k3, k4⟩ := hd.2 H enc fuel _ y.1 y.2 hf
      obtain ⟨x', k1', k2', k3', k4'⟩ := hr H enc fuel cs ys hl
      refine ⟨(x, x'), ⟨_, _, [], [], ?_, rfl, by rw [hd.1] at k1; exact k1, k1'⟩, ⟨k2, k2'⟩, fun hw => ?_, ?_⟩
      · show (cs.drop f.offset).take (sz ty + sz ty') = _
        rw [List.take_add, List.drop_drop]
      · simp only [List.map_cons, DataW.weightsEach, List.all_append, Bool.and_eq_true] at hw
        exact ⟨k3 hw.1, k3' hw.2⟩
      · intro z
        simp only [List.map_cons, Rows.uptoBulkAll] at z
        exact ⟨k4 (by omega), k4' (by omega)⟩
theorem opens_struct {P : Program} {W : World} {t : TypeId} {fs : Array Field} {ty : Ty} {wf sz' sm : den ty → Prop}
    (hu : P.underlying t = some (.struct fs)) (hc : P.cellsOf t = sz ty) (hd : OpensF P W fs.toList 0 ty wf sz' sm) :
    Opens P W t ty wf sz' sm := by
  refine ⟨hc, fun H enc fuel cs D ps h => ?_⟩
  cases fuel with
  | zero => simp [DataW.trod] at h
  | succ n =>
    rw [DataW.trod_step] at h
    unfold DataW.trodStep at h
    rw [hu] at h
    simp only at h
    split at h
    · rename_i hl
      obtain ⟨xs, hx, h⟩ := Option.map_eq_some_iff.1 h
      obtain ⟨rfl, rfl⟩ := Prod.mk.inj h
      obtain ⟨x, k1, k2, k3, k4⟩ := hd H enc n cs xs hx
      refine ⟨x, ?_, k2, fun hw => k3 (by simpa [DataW.weights, hu] using hw), fun z => by simp only [Rows.uptoBulk] at z; exact k4 (by omega)⟩
      have e : (cs.drop 0).take (sz ty) = cs := by rw [List.drop_zero, ← hc, ← hl]; exact List.take_length
      rw [e] at k1
      exact k1
    · cases h
end Go.Proofs.YtmfjebpdkgbggaaDoor.V
