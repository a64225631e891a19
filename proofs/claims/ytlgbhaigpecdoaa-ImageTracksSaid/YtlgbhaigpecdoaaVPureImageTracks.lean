/- The pure statement of ImageTracks: the tracks of a disk. -/
import Derived.Test.YtlgbhaigpecdoaaVPureSectFT
import Derived.Test.YtlgbhaigpecdoaaVPureDiskT
set_option linter.unusedVariables false
set_option linter.unusedSimpArgs false
namespace Go.Proofs.Ytlgbhaigpecdoaa.V
open Go

/-- The sectors of a track. -/
def secT (d : Disk) (t : Nat) (n : Nat) : List Sec := (List.range n).map fun (k : Nat) => ((t : Int), ((k : Int), (d.2.2.1.getD (t * d.2.1.toNat + k) [], (false, ()))))
theorem secT_len (d : Disk) (t n : Nat) : (secT d t n).length = n := by simp [secT]
structure Good (d : Disk) : Prop where
  chk : chkD d = 0
  byt : ∀ x ∈ d.2.2.1, byteL x
theorem at_lt {d : Disk} (h : Good d) {t k : Nat} (ht : t < d.1.toNat) (hk : k < d.2.1.toNat) : t * d.2.1.toNat + k < d.2.2.1.length ∧ t * d.2.1.toNat + k < 240 ∧ t * d.2.1.toNat + d.2.1.toNat ≤ d.2.2.1.length := by
  obtain ⟨a1, a2, b1, b2, e, m, _⟩ := chk_zero h.chk
  have e1 : d.1 * d.2.1 = ((d.1.toNat * d.2.1.toNat : Nat) : Int) := by
    rw [Int.natCast_mul, Int.toNat_of_nonneg (by omega), Int.toNat_of_nonneg (by omega)]
  have h1 : (t + 1) * d.2.1.toNat ≤ d.1.toNat * d.2.1.toNat := Nat.mul_le_mul_right _ ht
  rw [Nat.add_mul] at h1
  omega
theorem secT_byte {d : Disk} (h : Good d) (t n : Nat) : ∀ s ∈ secT d t n, byteL s.2.2.1 := by
  intro s hs
  obtain ⟨k, _, rfl⟩ := List.mem_map.1 hs
  dsimp only
  by_cases hl : t * d.2.1.toNat + k < d.2.2.1.length
  · exact h.byt _ (getD_mem hl)
  · rw [List.getD_eq_getElem?_getD, List.getElem?_eq_none (by omega)]; exact byteL_nil
theorem secT_ok {d : Disk} (h : Good d) {t : Nat} (ht : t < d.1.toNat) : secE (t : Int) (secT d t d.2.1.toNat) = 0 := by
  obtain ⟨a1, a2, b1, b2, e, m, hr⟩ := chk_zero h.chk
  unfold secE
  rw [if_neg (by omega), if_neg (by rw [secT_len]; omega)]
  have : ∀ l : List Sec, (∀ s ∈ l, okS1 s) → secE1 l = 0 := by
    intro l
    induction l with
    | nil => intro _; rfl
    | cons s l ih =>
      intro hl
      obtain ⟨h1, h2, h3, h4, h5⟩ := hl s (List.mem_cons_self ..)
      have e : secE1 (s :: l) = if badS s = true then 1 else if s.2.2.1.length ≠ 128 then 3 else secE1 l := rfl
      rw [if_neg (by unfold badS; rw [decide_eq_false (by omega)]; decide), if_neg (by simp [h5])] at e
      rw [e]
      exact ih fun x hx => hl x (List.mem_cons_of_mem _ hx)
  apply this
  intro s hs
  obtain ⟨k, hk, rfl⟩ := List.mem_map.1 hs
  have hk : k < d.2.1.toNat := by simpa using hk
  have hl := at_lt h ht hk
  exact ⟨by dsimp only; omega, by dsimp only; omega, by dsimp only; omega, by dsimp only; omega, hr _ (getD_mem hl.1)⟩
theorem tot_sec : ∀ {l : List Sec}, (∀ s ∈ l, okS1 s) → tot (l.flatMap secParts) = 154 * l.length
  | [], _ => rfl
  | s :: l, h => by
    have ih := tot_sec (l := l) (fun x hx => h x (List.mem_cons_of_mem _ hx))
    have h5 := (h s (List.mem_cons_self ..)).2.2.2.2
    rw [List.flatMap_cons, tot_append, ih]
    have : tot (secParts s) = 154 := by
      simp [secParts, tot, szP, sealB_len, bodyF_len, gap8, h5]
    rw [this, List.length_cons]; omega
theorem formR_ok {track : Int} {l : List Sec} (cell : Int) (h : secE track l = 0) : (formR track l cell).2.1 = if wrongCell cell = true then 1 else 0 := by
  obtain ⟨hl, ho⟩ := secE_ok' h
  unfold formR mfmW
  have ht : tot (partsF l) ≤ 2400 := by
    show szP (false, (gap8, ())) + tot (l.flatMap secParts) ≤ 2400
    rw [tot_sec ho]
    have : szP (false, (gap8, ())) = 8 := rfl
    omega
  rw [if_neg (by simp [h]), if_neg (by omega)]
  cases wrongCell cell <;> rfl
/-- A track's format. -/
def fT (d : Disk) (cell : Int) (t : Nat) : List Int × (Int × Unit) := formR (t : Int) (secT d t d.2.1.toNat) cell
theorem inner51 (a0 : Int) (d : Disk) (h : Good d) (t : Nat) (ht : t < d.1.toNat) (a2 a3 : Int) (a7 : List (List Int)) :
    f51_l10 a0 (t : Int) a2 a3 d.2.1 d a7 ((0 : Int), []) = some (secT d t d.2.1.toNat) := by
  obtain ⟨a1, b0, b1, b2, e, m, hr⟩ := chk_zero h.chk
  unfold f51_l10
  refine loop_go (fun j => ((j : Int), secT d t j)) d.2.1.toNat rfl (fun j hj => ?_) ?_
  · have hl := at_lt h ht hj
    unfold f51_l10_g f51_l10_k
    simp only
    rw [decide_eq_true (by omega : (j : Int) < d.2.1)]
    simp only [cond_true]
    have e1 : (t : Int) * d.2.1 = ((t * d.2.1.toNat : Nat) : Int) := by rw [Int.natCast_mul, Int.toNat_of_nonneg (by omega)]
    rw [e1, wi (n := ((t * d.2.1.toNat : Nat) : Int)) (by omega) (by omega)]
    have e2 : IntKind.i64.wrap (((t * d.2.1.toNat : Nat) : Int) + (j : Int)) = ((t * d.2.1.toNat + j : Nat) : Int) := by rw [wi (by omega) (by omega)]; omega
    rw [e2, if_pos (in_row hl.1), if_pos ⟨by rw [most_eq, secT_len]; omega, by decide, by decide⟩, Int.toNat_natCast, wj (by omega)]
    simp [secT, List.range_succ]
  · unfold f51_l10_g f51_l10_k
    simp only
    rw [decide_eq_false (by omega : ¬ ((d.2.1.toNat : Nat) : Int) < d.2.1)]
    rfl
def tracksR (d : Disk) (cell : Int) : List (List Int) × (Int × Unit) :=
  if chkD d ≠ 0 then ([], (chkD d, ())) else if wrongCell cell = true then ([], (1, ())) else ((List.range d.1.toNat).map fun t => (fT d cell t).1, (0, ()))
theorem tracks51 (d : Disk) (cell : Int) (hb : ∀ x ∈ d.2.2.1, byteL x) (hl : d.2.2.1.length ≤ 140737488355328) : f51 d cell = some (tracksR d cell, ()) := by
  unfold f51 f51_k tracksR
  rw [check16 d hl]
  simp only [some_bind]
  by_cases c0 : chkD d ≠ 0
  · rw [if_pos c0, show (chkD d != 0) = true from bne_iff_ne.2 c0]; rfl
  have c1 : chkD d = 0 := Decidable.not_not.1 c0
  have hg : Good d := ⟨c1, hb⟩
  obtain ⟨a1, a2, b1, b2, e, m, hr⟩ := chk_zero c1
  rw [if_neg c0, c1]
  simp only [bne_self_eq_false, cond_false]
  have step : ∀ t, t < d.1.toNat → ∀ out : List (List Int), out.length = t → f51_l6_g cell d.1 d ((t : Int), out) = some (if wrongCell cell = true then .inr (.inl 1) else .inl (((t + 1 : Nat) : Int), out ++ [(fT d cell t).1])) := by
    intro t ht out hout
    unfold f51_l6_g f51_l6_k
    simp only
    rw [decide_eq_true (by omega : (t : Int) < d.1)]
    simp only [cond_true]
    rw [inner51 _ d hg t ht]
    simp only [some_bind]
    rw [form57 _ _ _ (secT_byte hg t _)]
    simp only [some_bind]
    have hk := formR_ok cell (secT_ok hg ht)
    rw [hk]
    by_cases hw : wrongCell cell = true
    · rw [if_pos hw, if_pos hw]; rfl
    · rw [if_neg hw, if_neg hw]
      simp only [bne_self_eq_false, cond_false]
      rw [if_pos ⟨by rw [most_eq]; omega, by decide, by decide⟩, wj (by omega)]
      rfl
  unfold f51_l6
  by_cases hw : wrongCell cell = true
  · rw [if_pos hw]
    have := step 0 (by omega) [] rfl
    rw [if_pos hw] at this
    rw [loopO_out (a := ((0 : Int), ([] : List (List Int)))) this]
    rfl
  · rw [if_neg hw]
    have := loop_at (g := f51_l6_g cell d.1 d) (fun j => ((j : Int), (List.range j).map fun t => (fT d cell t).1)) d.1.toNat (y := .inr ((List.range d.1.toNat).map fun t => (fT d cell t).1)) (fun j hj => by
      rw [step j hj _ (by simp), if_neg hw]
      simp [List.range_succ]) (by
      unfold f51_l6_g f51_l6_k
      simp only
      rw [decide_eq_false (by omega : ¬ ((d.1.toNat : Nat) : Int) < d.1)]
      rfl)
    have e0 : loopO (f51_l6_g cell d.1 d) ((0 : Int), ([] : List (List Int))) = _ := this
    rw [e0]
    rfl
theorem inner9 (a0 a1 : Int) (d : Disk) (t : Nat) (a3 a4 : Int) (l : List (List Int)) (hl : l.length ≤ 1000) (h : ∀ k, k < l.length → l.getD k [] = d.2.2.1.getD (t * d.2.1.toNat + k) []) (a8 : Disk) (a10 : List (List Int)) :
    f9_l12 a0 a1 (t : Int) a3 a4 l ((List.length l : Nat) : Int) a8 a10 ((0 : Int), []) = some (secT d t l.length) := by
  unfold f9_l12
  refine loop_go (fun j => ((j : Int), secT d t j)) l.length rfl (fun j hj => ?_) ?_
  · unfold f9_l12_g f9_l12_k
    simp only
    rw [dlt hj]
    simp only [cond_true]
    rw [if_pos (in_row hj), if_pos ⟨by rw [most_eq, secT_len]; omega, by decide, by decide⟩, Int.toNat_natCast, wj (by omega), h j hj]
    simp [secT, List.range_succ]
  · unfold f9_l12_g f9_l12_k
    simp only
    rw [dge]; rfl
theorem Pure.ImageTracks (x0 : den (.pair (.int .i64) (.pair (.int .i64) (.pair (.slc (.slc (.int .u8))) .unit)))) (x1 : Int) (w0 : ((Lit.int .i64 x0.1).wf = true) ∧ (((Lit.int .i64 x0.2.1).wf = true) ∧ ((∀ y0 ∈ x0.2.2.1, (∀ y1 ∈ y0, ((Lit.int .u8 y1).wf = true))) ∧ (True)))) (s0 : (True) ∧ ((True) ∧ ((List.length x0.2.2.1 * 24 ≤ 140737488351232 ∧ ∀ y0 ∈ x0.2.2.1, (List.length y0 * 1 ≤ 140737488351232 ∧ ∀ y1 ∈ y0, (True))) ∧ (True)))) (w1 : (Lit.int .i64 x1).wf = true) : f9 x0 x1 = some ((true, ()), ()) := by
  have hb : ∀ x ∈ x0.2.2.1, byteL x := fun x hx y hy => wf_u8 (w0.2.2.1 x hx y hy)
  have hl : x0.2.2.1.length ≤ 140737488355328 := by have := s0.2.2.1.1; omega
  unfold f9 f9_k
  rw [begun15, tracks51 x0 x1 hb hl, check17 x0 hl (wf_i64 w0.1).2]
  simp only [some_bind, Bool.not_true, cond_false]
  by_cases c0 : chkD x0 ≠ 0
  · have e : tracksR x0 x1 = ([], (chkD x0, ())) := if_pos c0
    rw [e, show (chkD x0 != 0) = true from bne_iff_ne.2 c0]
    simp
  have c1 : chkD x0 = 0 := Decidable.not_not.1 c0
  have hg : Good x0 := ⟨c1, hb⟩
  obtain ⟨a1, a2, b1, b2, e, m, hr⟩ := chk_zero c1
  rw [c1]
  simp only [bne_self_eq_false, cond_false]
  have slice : ∀ t, t < x0.1.toNat → ∀ (a0 a1 a3 a4 : Int) (a8 : Disk) (a10 : List (List Int)), f9_l12 a0 a1 (t : Int) a3 a4 (List.take x0.2.1.toNat (List.drop (t * x0.2.1.toNat) x0.2.2.1)) ((List.length (List.take x0.2.1.toNat (List.drop (t * x0.2.1.toNat) x0.2.2.1)) : Nat) : Int) a8 a10 ((0 : Int), []) = some (secT x0 t x0.2.1.toNat) := by
    intro t ht a0 a1 a3 a4 a8 a10
    have h3 := (at_lt hg ht (by omega : 0 < x0.2.1.toNat)).2.2
    have hlen : (List.take x0.2.1.toNat (List.drop (t * x0.2.1.toNat) x0.2.2.1)).length = x0.2.1.toNat := by rw [List.length_take, List.length_drop]; omega
    have := inner9 a0 a1 x0 t a3 a4 (List.take x0.2.1.toNat (List.drop (t * x0.2.1.toNat) x0.2.2.1)) (by omega) (fun k hk => by
      rw [List.getD_eq_getElem?_getD, List.getElem?_take_of_lt (by omega), List.getElem?_drop, List.getD_eq_getElem?_getD]) a8 a10
    rw [hlen] at this
    rw [hlen]
    exact this
  have body : ∀ t, t < x0.1.toNat → ∀ (E : Int) (L : List (List Int)), f9_l8_g x1 E x0.1 x0 L (t : Int) = (bif (fT x0 x1 t).2.1 != 0 then (bif E == (fT x0 x1 t).2.1 then some (.inr (.inl (((L.length : Nat) : Int) == 0))) else some (.inr (.inl false)))
      else bif decide ((t : Int) ≥ ((L.length : Nat) : Int)) then some (.inr (.inl false)) else (if (0 : Int) ≤ (t : Int) ∧ (t : Int) < ((L.length : Nat) : Int) then (f33 (L.getD t []) (fT x0 x1 t).1).bind fun r => (bif !r.1.1 then some (.inr (.inl false)) else some (.inl ((t + 1 : Nat) : Int))) else none)) := by
    intro t ht E L
    have h3 := at_lt hg ht (by omega : 0 < x0.2.1.toNat)
    unfold f9_l8_g f9_l8_k
    rw [decide_eq_true (by omega : (t : Int) < x0.1)]
    simp only [cond_true]
    have e1 : (t : Int) * x0.2.1 = ((t * x0.2.1.toNat : Nat) : Int) := by rw [Int.natCast_mul, Int.toNat_of_nonneg (by omega)]
    have e2 : IntKind.i64.wrap (((t * x0.2.1.toNat : Nat) : Int) + x0.2.1) = ((t * x0.2.1.toNat + x0.2.1.toNat : Nat) : Int) := by rw [wi (by omega) (by omega)]; omega
    rw [e1, wi (n := ((t * x0.2.1.toNat : Nat) : Int)) (by omega) (by omega), e2, if_pos ⟨by omega, by omega, by omega⟩, Int.toNat_natCast, Int.toNat_natCast, show t * x0.2.1.toNat + x0.2.1.toNat - t * x0.2.1.toNat = x0.2.1.toNat by omega, slice t ht]
    simp only [some_bind]
    rw [form52 _ _ _ (secT_byte hg t _), wj (by omega)]
    rfl
  have hk : ∀ t, t < x0.1.toNat → (fT x0 x1 t).2.1 = if wrongCell x1 = true then 1 else 0 := fun t ht => formR_ok x1 (secT_ok hg ht)
  unfold f9_l8
  by_cases hw : wrongCell x1 = true
  · have e : tracksR x0 x1 = ([], (1, ())) := by unfold tracksR; rw [if_neg c0, if_pos hw]
    rw [e]
    have h0 := body 0 (by omega) 1 []
    rw [hk 0 (by omega), if_pos hw] at h0
    rw [loopO_out (a := (0 : Int)) (b := .inl true) h0]
    rfl
  · have e : tracksR x0 x1 = ((List.range x0.1.toNat).map fun t => (fT x0 x1 t).1, (0, ())) := by unfold tracksR; rw [if_neg c0, if_neg hw]
    rw [e]
    simp only
    have := loop_at (g := f9_l8_g x1 0 x0.1 x0 ((List.range x0.1.toNat).map fun t => (fT x0 x1 t).1)) (fun j => (j : Int)) x0.1.toNat (y := .inr ()) (fun j hj => by
      rw [body j hj, hk j hj, if_neg hw]
      simp only [bne_self_eq_false, cond_false]
      have hlen : ((List.range x0.1.toNat).map fun t => (fT x0 x1 t).1).length = x0.1.toNat := by simp
      rw [hlen, decide_eq_false (by omega : ¬ (j : Int) ≥ ((x0.1.toNat : Nat) : Int)), if_pos ⟨by omega, by omega⟩]
      simp only [cond_false]
      have hgd : ((List.range x0.1.toNat).map fun t => (fT x0 x1 t).1).getD j [] = (fT x0 x1 j).1 := by
        rw [List.getD_eq_getElem?_getD, List.getElem?_map, List.getElem?_range hj]; rfl
      rw [hgd, eq33 _ _ (by have := formR_len (j : Int) (secT x0 j x0.2.1.toNat) x1; unfold fT; omega)]
      simp) (by
      unfold f9_l8_g f9_l8_k
      rw [decide_eq_false (by omega : ¬ ((x0.1.toNat : Nat) : Int) < x0.1)]
      rfl)
    have e0 : loopO (f9_l8_g x1 0 x0.1 x0 ((List.range x0.1.toNat).map fun t => (fT x0 x1 t).1)) (0 : Int) = _ := this
    rw [e0]
    simp only [some_bind, Sum.elim_inr, beq_self_eq_true, cond_true, List.length_map, List.length_range]
    rw [show (((x0.1.toNat : Nat) : Int) == x0.1) = true from beq_iff_eq.2 (by omega)]
end Go.Proofs.Ytlgbhaigpecdoaa.V
