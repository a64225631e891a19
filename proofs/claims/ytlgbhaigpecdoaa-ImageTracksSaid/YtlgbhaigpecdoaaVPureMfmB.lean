/- Mfm, the program's writing; both write alike. -/
import Derived.Test.YtlgbhaigpecdoaaVPureMfmA
set_option linter.unusedVariables false
set_option linter.unusedSimpArgs false
namespace Go.Proofs.Ytlgbhaigpecdoaa.V
open Go

abbrev Wr := List Int × (Int × (Bool × Unit))
def nat2 (l : List Nat) : List Int := l.map fun n => ((n : Nat) : Int)
theorem bit_eq : ∀ c : Fin 256, ∀ k : Fin 8, ((bitop .u8 .and (Int.fdiv (c.val : Int) (2 ^ (min (7 - k.val) 8))) 1) == (1 : Int)) = decide (IntKind.u8.wrap ((c.val : Int) * 2 ^ (min k.val 8)) ≥ 128) := by decide +kernel
theorem bit_ok {c : Int} (h : 0 ≤ c ∧ c < 256) {k : Nat} (hk : k < 8) : ((bitop .u8 .and (Int.fdiv c (2 ^ (min (7 - k) 8))) 1) == (1 : Int)) = bitC c k := by
  have := bit_eq ⟨c.toNat, by omega⟩ ⟨k, hk⟩
  simp only at this
  rw [show ((c.toNat : Nat) : Int) = c by omega] at this
  exact this
theorem place82 (l : List Int) (g : Nat) (last b : Bool) (hl : (l.length + 1) * 8 ≤ 140737488355328) (hg : g < 1000000) :
    f82 (l, ((g : Int), (last, ()))) b = some ((), ((l ++ nat2 (lens g [b]), (((gapA g [b] : Nat) : Int), (last, ()))), ())) := by
  unfold f82 f82_k
  simp only
  rw [wj (by omega)]
  cases b with
  | true =>
    simp only [cond_true]
    rw [if_pos (room1 hl (by decide) (by decide))]
    rfl
  | false => simp [lens, gapA, nat2]
/-- The writer, behind bits. -/
def wr (w : List Int × Nat × Bool) (B : List (Bool × Bool)) : List Int × Nat × Bool := (w.1 ++ nat2 (lens w.2.1 (plcs w.2.2 B)), gapA w.2.1 (plcs w.2.2 B), lastB w.2.2 B)
def toW (w : List Int × Nat × Bool) : Wr := (w.1, ((w.2.1 : Int), (w.2.2, ())))
theorem wr_append (w : List Int × Nat × Bool) (A B : List (Bool × Bool)) : wr w (A ++ B) = wr (wr w A) B := by
  simp [wr, plcs_append, lens_append, gapA_append, lastB_append, nat2]
theorem wr_nil (w : List Int × Nat × Bool) : wr w [] = w := by simp [wr, plcs, lens, gapA, lastB, nat2]
/-- What it can hold. -/
def okW (n : Nat) (w : List Int × Nat × Bool) : Prop := w.1.length ≤ n ∧ w.2.1 ≤ n
theorem okW_wr {n : Nat} {w : List Int × Nat × Bool} (h : okW n w) (B : List (Bool × Bool)) : okW (n + 2 * B.length) (wr w B) := by
  have h1 := lens_len (plcs w.2.2 B) w.2.1
  have h2 := gapA_le (plcs w.2.2 B) w.2.1
  have h3 := plcs_len B w.2.2
  exact ⟨by have := h.1; simp [wr, nat2]; omega, by have := h.2; simp [wr]; omega⟩
def byteBB (c : Int) (mark : Bool) : List (Bool × Bool) := (List.range 8).map fun k => (bitC c k, mark && (k == 5))
theorem byteBB_len (c : Int) (mark : Bool) : (byteBB c mark).length = 8 := by simp [byteBB]
theorem byteBB_get (c : Int) (mark : Bool) (k : Nat) (hk : k < 8) : (byteBB c mark).getD k (false, false) = (bitC c k, mark && (k == 5)) := by
  unfold byteBB
  rw [List.getD_eq_getElem?_getD, List.getElem?_map, List.getElem?_range hk]; rfl
theorem wr_one (w : List Int × Nat × Bool) (p : Bool × Bool) : wr w [p] = (w.1 ++ nat2 (lens w.2.1 [!p.1 && !w.2.2 && !p.2]) ++ nat2 (lens (gapA w.2.1 [!p.1 && !w.2.2 && !p.2]) [p.1]), gapA (gapA w.2.1 [!p.1 && !w.2.2 && !p.2]) [p.1], p.1) := by
  have e : plcs w.2.2 [p] = [!p.1 && !w.2.2 && !p.2] ++ [p.1] := rfl
  unfold wr
  rw [e, lens_append, gapA_append]
  simp [nat2, lastB]
theorem foldl_wr : ∀ (B : List (Bool × Bool)) (w : List Int × Nat × Bool), B.foldl (fun w p => wr w [p]) w = wr w B
  | [], w => (wr_nil w).symm
  | p :: B, w => by rw [List.foldl_cons, foldl_wr B, ← wr_append]; rfl
theorem put81 (w : List Int × Nat × Bool) (c : Int) (mark : Bool) (hc : 0 ≤ c ∧ c < 256) (n : Nat) (hw : okW n w) (hn : n ≤ 100000) : f81 (toW w) c mark = some ((), (toW (wr w (byteBB c mark)), ())) := by
  unfold f81 f81_k f81_l1
  have := loop_all (g := f81_l1_g c mark) (false, false) (byteBB c mark) (fun j (w : List Int × Nat × Bool) => ((j : Int), toW w)) (fun j w => okW (n + 2 * j) w) (fun w p => wr w [p]) (y := toW (wr w (byteBB c mark)))
    (fun j w hj hp => by
      rw [byteBB_len] at hj
      have hok := okW_wr hp [(byteBB c mark).getD j (false, false)]
      refine ⟨?_, hok⟩
      rw [byteBB_get c mark j hj]
      unfold f81_l1_g f81_l1_k
      simp only
      have e1 : decide ((j : Int) < (8 : Int)) = true := by simp; omega
      rw [e1]
      simp only [cond_true]
      have e2 : IntKind.i64.wrap ((7 : Int) - (j : Int)) = ((7 - j : Nat) : Int) := by rw [wi (by omega) (by omega)]; omega
      rw [e2, if_neg (by omega), Int.toNat_natCast, bit_ok hc hj, wj (by omega)]
      have e5 : ((j : Int) == (5 : Int)) = (j == 5) := by
        rw [Bool.eq_iff_iff]; simp; omega
      rw [e5]
      obtain ⟨h1, h2⟩ := hp
      rw [wr_one]
      obtain ⟨wl, wg, wb⟩ := w
      dsimp only at h1 h2
      unfold toW
      simp only
      have step : ∀ (x y : Bool), ((f82 (wl, ((wg : Int), (wb, ()))) x).bind fun r => (f82 r.2.1 y).bind fun r2 => some ((Sum.inl (((j + 1 : Nat) : Int), r2.2.1.1, r2.2.1.2.1, y, r2.2.1.2.2.2) : f81_l1_X ⊕ f81_l1_Y))) =
          some (Sum.inl (((j + 1 : Nat) : Int), (wl ++ nat2 (lens wg [x]) ++ nat2 (lens (gapA wg [x]) [y]), (((gapA (gapA wg [x]) [y] : Nat) : Int), (y, ()))))) := by
        intro x y
        have l1 := lens_len [x] wg
        have g1 := gapA_le [x] wg
        simp at l1 g1
        rw [place82 wl wg wb x (by omega) (by omega)]
        simp only [some_bind]
        rw [place82 _ _ wb y (by simp [nat2]; omega) (by omega)]
        rfl
      cases hb : bitC c j with
      | true =>
        simp only [Bool.not_true, cond_false, Bool.false_and]
        exact step false true
      | false =>
        simp only [Bool.not_false, cond_true, Bool.true_and]
        cases wb with
        | true =>
          simp only [Bool.not_true, cond_false, Bool.false_and]
          exact step false false
        | false =>
          simp only [Bool.not_false, cond_true, Bool.true_and]
          cases mark with
          | true => simp only [cond_true, Bool.true_and]; exact step (!(j == 5)) false
          | false => simp only [cond_false, Bool.false_and, Bool.not_false]; exact step true false)
    w hw (x0 := ((0 : Int), toW w)) rfl (fun hp => by
      unfold f81_l1_g f81_l1_k
      simp only
      rw [byteBB_len, show decide (((8 : Nat) : Int) < (8 : Int)) = false from rfl]
      simp only [cond_false]
      rw [foldl_wr])
  rw [this.1]
  rfl
theorem byteBB_plain (c : Int) : byteBB c false = (bits8 c).map fun x => (x, false) := by simp [byteBB, bits8, Function.comp_def]
theorem plain8_eq (b : List Int) : plain8 b = b.flatMap fun c => byteBB c false := by
  unfold plain8
  rw [List.map_flatMap]
  simp only [byteBB_plain]
theorem byteBB_mark : byteBB 161 true = mark8 := by simp [byteBB, mark8]
theorem foldl_wrs {A : Type} (f : A → List (Bool × Bool)) : ∀ (l : List A) (w : List Int × Nat × Bool), l.foldl (fun w a => wr w (f a)) w = wr w (l.flatMap f)
  | [], w => (wr_nil w).symm
  | a :: l, w => by rw [List.foldl_cons, foldl_wrs f l, ← wr_append]; rfl
theorem bytes29 (a0 : Int) (a1 : List Part) (a2 a3 : Int) (b : List Int) (hb : byteL b) (w : List Int × Nat × Bool) (n : Nat) (hw : okW n w) (hn : n + 16 * b.length ≤ 100000) :
    f29_l10 a0 a1 a2 a3 b ((List.length b : Nat) : Int) ((0 : Int), toW w) = some (toW (wr w (plain8 b))) := by
  unfold f29_l10
  have := loop_all (g := f29_l10_g a0 a1 a2 a3 b ((List.length b : Nat) : Int)) (0 : Int) b (fun j (w : List Int × Nat × Bool) => ((j : Int), toW w)) (fun j w => okW (n + 16 * j) w) (fun w c => wr w (byteBB c false)) (y := toW (wr w (plain8 b)))
    (fun j w hj hp => by
      refine ⟨?_, by have := okW_wr hp (byteBB (b.getD j 0) false); rw [byteBB_len] at this; exact this⟩
      unfold f29_l10_g f29_l10_k
      simp only
      rw [dlt hj]
      simp only [cond_true]
      rw [if_pos (in_row hj), Int.toNat_natCast, put81 w _ false (hb _ (getD_mem hj)) _ hp (by omega)]
      simp only [some_bind]
      rw [wj (by omega)])
    w hw (x0 := ((0 : Int), toW w)) rfl (fun hp => by
      unfold f29_l10_g f29_l10_k
      simp only
      rw [dge]
      simp only [cond_false]
      rw [foldl_wrs, ← plain8_eq])
  exact this.1
def partsOk (l : List Part) : Prop := ∀ p ∈ l, byteL p.2.1
theorem parts29 (l : List Part) (cell : Int) (hl : partsOk l) (ht : tot l ≤ 2400) (h : l.length ≤ 140737488355328) :
    f29_l5 cell l ((List.length l : Nat) : Int) ((0 : Int), toW ([], 0, true)) = some (toW (wr ([], 0, true) (bbL l))) := by
  unfold f29_l5
  have := loop_all (g := f29_l5_g cell l ((List.length l : Nat) : Int)) (false, (([] : List Int), ())) l (fun j (w : List Int × Nat × Bool) => ((j : Int), toW w)) (fun j w => okW (16 * tot (l.take j)) w) (fun w p => wr w (bbP p)) (y := toW (wr ([], 0, true) (bbL l)))
    (fun j w hj hp => by
      have hs := tot_take1 l j hj
      have ht2 := tot_take l (j + 1)
      have hmem : byteL (l.getD j (false, ([], ()))).2.1 := hl _ (getD_mem hj)
      rw [hs] at ht2
      rw [hs]
      generalize hp0 : l.getD j (false, ([], ())) = p at *
      refine ⟨?_, by have := okW_wr hp (bbP p); rw [bbP_len] at this; rw [Nat.mul_add]; rw [show 2 * (8 * szP p) = 16 * szP p by omega] at this; exact this⟩
      obtain ⟨mk, b, ⟨⟩⟩ := p
      unfold f29_l5_g f29_l5_k
      simp only
      rw [dlt hj]
      simp only [cond_true]
      rw [if_pos (in_row hj), Int.toNat_natCast, hp0, wj (by omega)]
      cases mk with
      | true =>
        simp only [cond_true]
        simp only [szP, if_true] at ht2
        rw [put81 w 161 true (by omega) _ hp (by omega)]
        simp only [some_bind]
        unfold f29_t9 f29_t9_k
        simp only
        have hw2 := okW_wr hp (byteBB 161 true)
        rw [byteBB_len] at hw2
        rw [bytes29 _ _ _ _ b hmem _ _ hw2 (by omega)]
        simp only [some_bind, bbP, if_true]
        rw [byteBB_mark, wr_append]
      | false =>
        simp only [cond_false]
        simp only [szP, Bool.false_eq_true, if_false] at ht2
        unfold f29_t9 f29_t9_k
        simp only
        rw [bytes29 _ _ _ _ b hmem _ _ hp (by omega)]
        simp only [some_bind, bbP, Bool.false_eq_true, if_false, List.nil_append])
    ([], 0, true) ⟨by simp, by simp⟩ (x0 := ((0 : Int), toW ([], 0, true))) rfl (fun hp => by
      unfold f29_l5_g f29_l5_k
      simp only
      rw [dge]
      simp only [cond_false]
      rw [foldl_wrs]; rfl)
  exact this.1
/-! ### How much it is -/
theorem size80 (l : List Part) (h : l.length ≤ 140737488355328) (hs : ∀ p ∈ l, p.2.1.length ≤ 140737488355328) : f80 l = some (((if tot l > 2400 then (2401 : Int) else ((tot l : Nat) : Int)), ()), ()) := by
  unfold f80 f80_k f80_l3
  have := loop_list (g := f80_l3_g l ((List.length l : Nat) : Int)) (Y := Unit ⊕ Int) (false, (([] : List Int), ())) l (fun j (s : Nat) => ((s : Int), (j : Int))) (fun j s => s ≤ 2400)
    (fun p s => if s + szP p > 2400 then .inr (.inl ()) else .inl (s + szP p)) (fun s => .inr (s : Int))
    (fun j s hj hp => by
      have hmem : (l.getD j (false, ([], ()))).2.1.length ≤ 140737488355328 := hs _ (getD_mem hj)
      generalize hp0 : l.getD j (false, ([], ())) = p at *
      obtain ⟨mk, b, ⟨⟩⟩ := p
      dsimp only at hmem
      refine ⟨?_, fun s' hs' => ?_⟩
      · unfold f80_l3_g f80_l3_k
        simp only
        rw [dlt hj]
        simp only [cond_true]
        rw [if_pos (in_row hj), Int.toNat_natCast, hp0, wj (by omega)]
        have e1 : IntKind.i64.wrap ((s : Int) + ((List.length b : Nat) : Int)) = ((s + b.length : Nat) : Int) := by rw [wi (by omega) (by omega)]; omega
        simp only
        rw [e1]
        cases mk with
        | true =>
          simp only [cond_true, szP, if_true]
          rw [wj (by omega)]
          by_cases c : s + b.length + 1 > 2400
          · rw [decide_eq_true (by omega), if_pos (by omega)]; rfl
          · rw [decide_eq_false (by omega), if_neg (by omega)]; rfl
        | false =>
          simp only [cond_false, szP, Bool.false_eq_true, if_false]
          by_cases c : s + b.length > 2400
          · rw [decide_eq_true (by omega), if_pos (by omega)]; rfl
          · rw [decide_eq_false (by omega), if_neg (by omega)]; rfl
      · split at hs'
        · cases hs'
        · cases hs'; omega)
    (fun s hp => by
      unfold f80_l3_g f80_l3_k
      simp only
      rw [dge]; rfl) 0 (Nat.zero_le _) (x0 := ((0 : Int), (0 : Int))) rfl
  rw [this]
  have hf : ∀ (l : List Part) (s : Nat), s ≤ 2400 → foldE (fun (p : Part) (s : Nat) => if s + szP p > 2400 then .inr (.inl ()) else .inl (s + szP p)) (fun s => (.inr (s : Int) : Unit ⊕ Int)) l s = if s + tot l > 2400 then .inl () else .inr ((s + tot l : Nat) : Int) := by
    intro l
    induction l with
    | nil => intro s hs; rw [foldE_nil, if_neg (by simp [tot]; omega)]; simp [tot]
    | cons p l ih =>
      intro s hs
      have e : tot (p :: l) = szP p + tot l := rfl
      rw [foldE_cons, e]
      by_cases c : s + szP p > 2400
      · rw [if_pos c, if_pos (by omega)]
      · rw [if_neg c]
        simp only
        rw [ih _ (by omega), Nat.add_assoc]
  rw [hf l 0 (Nat.zero_le _)]
  simp only [some_bind, Nat.zero_add]
  by_cases c : tot l > 2400
  · rw [if_pos c, if_pos c]; rfl
  · rw [if_neg c, if_neg c]; rfl
/-! ### Pulses -/
theorem flatMap_one {A B : Type} (f : A → B) : ∀ l : List A, l.flatMap (fun a => [f a]) = l.map f
  | [] => rfl
  | a :: l => by simp [flatMap_one f l]
theorem pulses83 (L : List Nat) (cell : Int) (hl : L.length ≤ 40000) (h : ∀ n ∈ L, 1 ≤ n ∧ n ≤ 100) : f83 (nat2 L) cell = some (if wrongCell cell = true then (([], ((1 : Int), ())), ()) else ((L.map fun n => ((n : Nat) : Int) * cell, ((0 : Int), ())), ())) := by
  unfold f83 f83_k wrongCell
  by_cases c1 : cell < 2
  · simp [c1]
  by_cases c2 : cell > 1000
  · simp [c1, c2]
  have hlen : (nat2 L).length = L.length := by simp [nat2]
  rw [decide_eq_false c1, decide_eq_false c2, decide_eq_false (by omega : ¬ (cell < 2 ∨ cell > 1000)), decide_eq_false (by rw [hlen]; omega : ¬ (((nat2 L).length : Nat) : Int) > 40000)]
  simp only [cond_false, Bool.false_eq_true, if_false]
  unfold f83_l7
  have hg : ∀ j : Nat, (nat2 L).getD j 0 = ((L.getD j 0 : Nat) : Int) := fun j => by
    unfold nat2
    rw [List.getD_eq_getElem?_getD, List.getElem?_map, List.getD_eq_getElem?_getD]
    cases L[j]? <;> rfl
  rw [hlen]
  have := loop_all (g := f83_l7_g cell (nat2 L) ((List.length L : Nat) : Int)) 0 L (fun j (s : List Int) => ((j : Int), s)) (fun j s => s.length = j) (fun s n => s ++ [((n : Nat) : Int) * cell]) (y := .inr (L.map fun n => ((n : Nat) : Int) * cell))
    (fun j s hj hp => by
      refine ⟨?_, by simp [hp]⟩
      have hn := h _ (getD_mem (d := 0) hj)
      unfold f83_l7_g f83_l7_k
      simp only
      rw [dlt hj]
      simp only [cond_true]
      rw [if_pos (by rw [hlen]; exact in_row hj), Int.toNat_natCast, hg]
      generalize L.getD j 0 = n at hn
      rw [decide_eq_false (by omega : ¬ ((n : Int) < 1)), decide_eq_false (by omega : ¬ ((n : Int) > 100))]
      simp only [cond_false]
      rw [if_pos (room1 (by omega) (by decide) (by decide)), wj (by omega)]
      have b1 : (n : Int) * cell ≤ (n : Int) * 1000 := Int.mul_le_mul_of_nonneg_left (by omega) (by omega)
      have b2 : 0 ≤ (n : Int) * cell := Int.mul_nonneg (by omega) (by omega)
      rw [wi (by omega) (by omega)])
    [] rfl (x0 := ((0 : Int), [])) rfl (fun hp => by
      unfold f83_l7_g f83_l7_k
      simp only
      rw [dge]
      simp only [cond_false]
      rw [foldl_app (fun n => [((n : Nat) : Int) * cell])]
      rw [flatMap_one]; simp)
  rw [this.1]
  rfl
/-! ### No gap is long -/
def okS (last : Bool) (g : Nat) : Prop := (last = true → g = 0) ∧ g ≤ 4
theorem short_plain : ∀ (B : List (Bool × Bool)) (last : Bool) (g : Nat), (∀ p ∈ B, p.2 = false) → okS last g → (∀ n ∈ lens g (plcs last B), 1 ≤ n ∧ n ≤ 6) ∧ okS (lastB last B) (gapA g (plcs last B))
  | [], last, g, _, h => ⟨by simp [plcs, lens], h⟩
  | p :: B, last, g, hB, h => by
    obtain ⟨p1, p2⟩ := p
    have e : p2 = false := hB (p1, p2) (List.mem_cons_self ..)
    subst e
    have hB' : ∀ p ∈ B, p.2 = false := fun p hp => hB p (List.mem_cons_of_mem _ hp)
    obtain ⟨h1, h2⟩ := h
    cases p1 with
    | true =>
      have := short_plain B true 0 hB' ⟨fun _ => rfl, by omega⟩
      simp [plcs, lens, gapA, lastB]
      exact ⟨⟨by omega, this.1⟩, this.2⟩
    | false =>
      cases last with
      | true =>
        have h0 : g = 0 := h1 rfl
        subst h0
        have := short_plain B false 2 hB' ⟨(by intro e; cases e), by omega⟩
        simpa [plcs, lens, gapA, lastB] using this
      | false =>
        have := short_plain B false 1 hB' ⟨(by intro e; cases e), by omega⟩
        simp [plcs, lens, gapA, lastB]
        exact ⟨⟨by omega, this.1⟩, this.2⟩
theorem short_mark (last : Bool) (g : Nat) (h : okS last g) : (∀ n ∈ lens g (plcs last mark8), 1 ≤ n ∧ n ≤ 6) ∧ okS (lastB last mark8) (gapA g (plcs last mark8)) := by
  rw [mark8_eq]
  obtain ⟨h1, h2⟩ := h
  simp [plcs, lens, gapA, lastB, okS]
  omega
theorem plain8_false (b : List Int) : ∀ p ∈ plain8 b, p.2 = false := by
  intro p hp
  obtain ⟨x, _, rfl⟩ := List.mem_map.1 hp
  rfl
theorem short_part (p : Part) (last : Bool) (g : Nat) (h : okS last g) : (∀ n ∈ lens g (plcs last (bbP p)), 1 ≤ n ∧ n ≤ 6) ∧ okS (lastB last (bbP p)) (gapA g (plcs last (bbP p))) := by
  unfold bbP
  split
  · have h1 := short_mark last g h
    have h2 := short_plain (plain8 p.2.1) _ _ (plain8_false _) h1.2
    rw [plcs_append, lens_append, gapA_append, lastB_append]
    refine ⟨fun n hn => ?_, h2.2⟩
    rcases List.mem_append.1 hn with hn | hn
    · exact h1.1 n hn
    · exact h2.1 n hn
  · exact short_plain _ _ _ (fun q hq => plain8_false _ q (by simpa using hq)) h
theorem short_parts : ∀ (l : List Part) (last : Bool) (g : Nat), okS last g → (∀ n ∈ lens g (plcs last (bbL l)), 1 ≤ n ∧ n ≤ 6) ∧ okS (lastB last (bbL l)) (gapA g (plcs last (bbL l)))
  | [], last, g, h => ⟨by simp [bbL, plcs, lens], h⟩
  | p :: l, last, g, h => by
    have h1 := short_part p last g h
    have h2 := short_parts l _ _ h1.2
    have e : bbL (p :: l) = bbP p ++ bbL l := rfl
    rw [e, plcs_append, lens_append, gapA_append, lastB_append]
    refine ⟨fun n hn => ?_, h2.2⟩
    rcases List.mem_append.1 hn with hn | hn
    · exact h1.1 n hn
    · exact h2.1 n hn
/-- The bits of parts, and the closing one. -/
def bbE (l : List Part) : List (Bool × Bool) := bbL l ++ [(true, false)]
theorem short_all (l : List Part) : ∀ n ∈ lens 0 (plcs true (bbE l)), 1 ≤ n ∧ n ≤ 100 := by
  have h1 := short_parts l true 0 ⟨fun _ => rfl, by omega⟩
  have h2 := short_plain [(true, false)] _ _ (by simp) h1.2
  unfold bbE
  rw [plcs_append, lens_append]
  intro n hn
  rcases List.mem_append.1 hn with hn | hn
  · have := h1.1 n hn; omega
  · have := h2.1 n hn; omega
/-! ### Both -/
def mfmW (l : List Part) (cell : Int) : List Int × (Int × Unit) := if tot l > 2400 then ([], (2, ())) else if wrongCell cell = true then ([], (1, ())) else ((lens 0 (plcs true (bbE l))).map fun n => ((n : Nat) : Int) * cell, (0, ()))
theorem bbE_len (l : List Part) (h : tot l ≤ 2400) : (plcs true (bbE l)).length ≤ 40000 := by
  rw [plcs_len, bbE, List.length_append, bbL_len]; simp; omega
theorem write29 (l : List Part) (cell : Int) (hl : partsOk l) (h : l.length ≤ 140737488355328) (hs : ∀ p ∈ l, p.2.1.length ≤ 140737488355328) : f29 l cell = some (mfmW l cell, ()) := by
  unfold f29 f29_k mfmW
  rw [size80 l h hs]
  simp only [some_bind]
  by_cases c : tot l > 2400
  · rw [if_pos c, if_pos c]; rfl
  rw [if_neg c, if_neg c, decide_eq_false (by omega : ¬ (((tot l : Nat) : Int) > 2400))]
  simp only [cond_false]
  have hp := parts29 l cell hl (by omega) h
  have e0 : toW ([], 0, true) = (([], ((0 : Int), (true, ()))) : Wr) := rfl
  rw [e0] at hp
  rw [hp]
  simp only [some_bind]
  have hE : wr ([], 0, true) (bbE l) = wr (wr ([], 0, true) (bbL l)) [(true, false)] := by rw [bbE, wr_append]
  rw [wr_one] at hE
  simp only [Bool.not_true, Bool.false_and] at hE
  have hok : okW (16 * tot l) (wr ([], 0, true) (bbL l)) := by
    have := okW_wr (n := 0) (w := ([], 0, true)) ⟨Nat.le_refl _, Nat.le_refl _⟩ (bbL l)
    rw [bbL_len] at this
    rw [show 0 + 2 * (8 * tot l) = 16 * tot l by omega] at this
    exact this
  generalize wr ([], 0, true) (bbL l) = w at hE hok
  obtain ⟨wl, wg, wb⟩ := w
  obtain ⟨k1, k2⟩ := hok
  dsimp only at k1 k2 hE
  unfold toW
  simp only
  rw [place82 wl wg wb false (by omega) (by omega)]
  simp only [some_bind]
  have l1 := lens_len [false] wg
  have g1 := gapA_le [false] wg
  simp at l1 g1
  rw [place82 _ _ wb true (by simp [nat2]; omega) (by omega)]
  simp only [some_bind]
  have e1 : wl ++ nat2 (lens wg [false]) ++ nat2 (lens (gapA wg [false]) [true]) = nat2 (lens 0 (plcs true (bbE l))) := by
    have := congrArg (·.1) hE
    simp only [wr, List.nil_append] at this
    exact this.symm
  rw [e1, pulses83 _ cell (by have := lens_len (plcs true (bbE l)) 0; have := bbE_len l (by omega); omega) (short_all l)]
  simp only [some_bind]
  split <;> rfl
theorem sum31 (l : List Part) (cell : Int) (ht : tot l ≤ 4611686018427387904) (h : l.length ≤ 140737488355328) : f31_l3 l cell l ((List.length l : Nat) : Int) ((0 : Int), (0 : Int)) = some ((tot l : Nat) : Int) := by
  unfold f31_l3
  have := loop_all (g := f31_l3_g l cell l ((List.length l : Nat) : Int)) (false, (([] : List Int), ())) l (fun j (s : Nat) => ((s : Int), (j : Int))) (fun j s => s = tot (l.take j)) (fun s p => s + szP p) (y := ((tot l : Nat) : Int))
    (fun j s hj hp => by
      have h1 := tot_take1 l j hj
      have h2 := tot_take l (j + 1)
      rw [h1] at h2
      rw [h1]
      generalize hp0 : l.getD j (false, ([], ())) = p at *
      refine ⟨?_, by rw [hp]⟩
      obtain ⟨mk, b, ⟨⟩⟩ := p
      unfold f31_l3_g f31_l3_k
      simp only
      rw [dlt hj]
      simp only [cond_true]
      rw [if_pos (in_row hj), Int.toNat_natCast, hp0, wj (by omega)]
      simp only
      simp only [szP] at h2
      cases mk with
      | true =>
        simp only [if_true] at h2
        have e1 : IntKind.i64.wrap ((s : Int) + ((List.length b : Nat) : Int)) = ((s + b.length : Nat) : Int) := by rw [wi (by omega) (by omega)]; omega
        simp only [cond_true, szP, if_true]
        rw [e1, wj (by omega)]
        rfl
      | false =>
        simp only [Bool.false_eq_true, if_false] at h2
        have e1 : IntKind.i64.wrap ((s : Int) + ((List.length b : Nat) : Int)) = ((s + b.length : Nat) : Int) := by rw [wi (by omega) (by omega)]; omega
        simp only [cond_false, szP, Bool.false_eq_true, if_false]
        rw [e1]
        rfl)
    0 rfl (x0 := ((0 : Int), (0 : Int))) rfl (fun hp => by
      unfold f31_l3_g f31_l3_k
      simp only
      rw [dge]
      simp only [cond_false]
      rw [hp, List.take_length])
  exact this.1
theorem write31 (l : List Part) (cell : Int) (ht : tot l ≤ 4611686018427387904) (h : l.length ≤ 140737488355328) : f31 l cell = some (mfmW l cell, ()) := by
  unfold f31 f31_k mfmW
  rw [sum31 l cell ht h]
  simp only [some_bind]
  by_cases c : tot l > 2400
  · rw [if_pos c, decide_eq_true (by omega : ((tot l : Nat) : Int) > 2400)]; rfl
  rw [if_neg c, decide_eq_false (by omega : ¬ (((tot l : Nat) : Int) > 2400))]
  simp only [cond_false]
  obtain ⟨m, e, hm⟩ := bits86 l (by omega) h
  rw [e]
  simp only [some_bind]
  rw [places88 _ m hm (by rw [bbL_len]; omega)]
  simp only [some_bind]
  have e2 : bbL l ++ [(true, false)] = bbE l := rfl
  rw [e2, placed87 _ cell (bbE_len l (by omega))]
  simp only [some_bind]
  split <;> rfl
end Go.Proofs.Ytlgbhaigpecdoaa.V
