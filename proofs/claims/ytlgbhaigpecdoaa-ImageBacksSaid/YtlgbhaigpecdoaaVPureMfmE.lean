/- Mfm: both read alike. -/
import Derived.Test.YtlgbhaigpecdoaaVPureMfmD
set_option linter.unusedVariables false
set_option linter.unusedSimpArgs false
namespace Go.Proofs.Ytlgbhaigpecdoaa.V
open Go
def stepC (a : Cd × Bool) (s : Bool × Nat) : (Bool × Nat) ⊕ (Unit ⊕ (Bool × Int)) :=
  if a.1.1 = (!a.1.2 && !s.1 && !a.2) then .inl (a.1.2, 2 * s.2 + (if a.1.2 = true then 1 else 0)) else .inr (.inl ())
theorem foldE_C : ∀ (Z : List (Cd × Bool)) (last : Bool) (v : Nat), foldE stepC (fun s => .inr (s.1, (s.2 : Int))) Z (last, v) =
    if pl last (Z.map fun z => (z.1.2, z.2)) = Z.map (·.1) then .inr (lastB last (Z.map fun z => (z.1.2, z.2)), (((Z.map (·.1.2)).foldl (fun v b => 2 * v + (if b = true then 1 else 0)) v : Nat) : Int)) else .inl ()
  | [], last, v => by simp [foldE_nil, pl, lastB]
  | ((c, d), m) :: Z, last, v => by
    rw [foldE_cons]
    unfold stepC
    simp only [List.map_cons, pl, lastB, List.foldl_cons, List.cons.injEq, Prod.mk.injEq, and_true]
    by_cases h : c = (!d && !last && !m)
    · rw [if_pos h]
      simp only
      have := foldE_C Z d (2 * v + (if d = true then 1 else 0))
      unfold stepC at this
      rw [this]
      by_cases h2 : pl d (Z.map fun z => (z.1.2, z.2)) = Z.map (·.1)
      · rw [if_pos h2, if_pos (⟨h.symm, h2⟩ : _ ∧ _)]
      · rw [if_neg h2, if_neg (fun (e : _ ∧ _) => h2 e.2)]
    · rw [if_neg h, if_neg (fun (e : _ ∧ _) => h e.1.symm)]
def zz (ch : List Cd) (mark : Bool) : List (Cd × Bool) := (List.range 8).map fun k => (ch.getD k (false, false), mark && (k == 5))
theorem zz_len (ch : List Cd) (mark : Bool) : (zz ch mark).length = 8 := by simp [zz]
theorem zz_get (ch : List Cd) (mark : Bool) (k : Nat) (h : k < 8) : (zz ch mark).getD k ((false, false), false) = (ch.getD k (false, false), mark && (k == 5)) := by
  unfold zz
  rw [List.getD_eq_getElem?_getD, List.getElem?_map, List.getElem?_range h]; rfl
theorem range8 {α β : Type} (d : α) (f : α → β) {l : List α} (h : l.length = 8) : (List.range 8).map (fun k => f (l.getD k d)) = l.map f := by
  obtain ⟨a, b, c, e, g, i, j, k, rfl⟩ := eight h
  rfl
theorem inner15 (P : List Bool) (m j : Nat) (last mark : Bool) (out : List Part) (hj : 8 * j + 8 ≤ m) (hm : m ≤ 100000) :
    f30_l15 ((8 * j : Nat) : Int) mark out (datas P m) (clocks P m) (last, (0 : Int), (0 : Int)) = some (foldE stepC (fun s => .inr (s.1, (s.2 : Int))) (zz (chk8 P j) mark) (last, 0)) := by
  unfold f30_l15
  refine loop_list (g := f30_l15_g ((8 * j : Nat) : Int) mark out (datas P m) (clocks P m)) ((false, false), false) (zz (chk8 P j) mark) (fun k (s : Bool × Nat) => (s.1, (s.2 : Int), (k : Int))) (fun k s => s.2 < 2 ^ k) stepC (fun s => .inr (s.1, (s.2 : Int)))
    (fun k s hk hs => ?_) (fun s hs => ?_) (last, 0) (by simp) rfl
  · rw [zz_len] at hk
    rw [zz_get _ _ _ hk, chk8_get _ _ _ hk]
    have h256 : 2 ^ k ≤ 128 := by
      have : k = 0 ∨ k = 1 ∨ k = 2 ∨ k = 3 ∨ k = 4 ∨ k = 5 ∨ k = 6 ∨ k = 7 := by omega
      rcases this with h | h | h | h | h | h | h | h <;> subst h <;> decide
    refine ⟨?_, ?_⟩
    · unfold f30_l15_g f30_l15_k
      simp only
      have e1 : decide ((k : Int) < (8 : Int)) = true := by simp; omega
      rw [e1]
      simp only [cond_true]
      have ea : IntKind.i64.wrap (((8 * j : Nat) : Int) + (k : Int)) = ((8 * j + k : Nat) : Int) := by rw [wi (by omega) (by omega)]; omega
      rw [ea, if_pos (by rw [datas_len]; omega), if_pos (by rw [clocks_len]; omega), Int.toNat_natCast, datas_get P (by omega), clocks_get P (by omega), wj (by omega)]
      obtain ⟨l, v⟩ := s
      dsimp only at hs ⊢
      have e2 : IntKind.i64.wrap ((v : Int) * 2) = ((2 * v : Nat) : Int) := by rw [wi (by omega) (by omega)]; omega
      have e3 : IntKind.i64.wrap (((2 * v : Nat) : Int) + 1) = ((2 * v + 1 : Nat) : Int) := wj (by omega)
      have e5 : ((k : Int) == (5 : Int)) = (k == 5) := by rw [Bool.eq_iff_iff]; simp; omega
      rw [e2, e3, e5]
      unfold stepC
      simp only
      generalize P.getD (2 * (8 * j + k)) false = c
      generalize P.getD (2 * (8 * j + k) + 1) false = d
      generalize (k == 5) = k5
      cases c <;> cases d <;> cases l <;> cases mark <;> cases k5 <;> rfl
    · intro s' hs'
      unfold stepC at hs'
      split at hs'
      · cases hs'
        show 2 * s.2 + (if _ then 1 else 0) < 2 ^ (k + 1)
        rw [Nat.pow_succ]
        split <;> omega
      · cases hs'
  · unfold f30_l15_g f30_l15_k
    simp only
    rw [zz_len, show decide (((8 : Nat) : Int) < (8 : Int)) = false from rfl]
    rfl
theorem inner15' (P : List Bool) (m j : Nat) (last : Bool) (mark : Bool) (hmk : mark = markOf (chk8 P j)) (out : List Part) (hj : 8 * j + 8 ≤ m) (hm : m ≤ 100000) :
    f30_l15 ((8 * j : Nat) : Int) mark out (datas P m) (clocks P m) (last, (0 : Int), (0 : Int)) = some (if pl last (bbC (chk8 P j)) = chk8 P j then .inr (lastD last (chk8 P j), ((val8 (chk8 P j) : Nat) : Int)) else .inl ()) := by
  rw [inner15 P m j last mark out hj hm, foldE_C]
  subst hmk
  have e1 : (zz (chk8 P j) (markOf (chk8 P j))).map (fun z => (z.1.2, z.2)) = bbC (chk8 P j) := by unfold zz bbC; rw [List.map_map]; rfl
  have e2 : (zz (chk8 P j) (markOf (chk8 P j))).map (·.1) = chk8 P j := by
    unfold zz; rw [List.map_map]
    have := range8 (false, false) (fun (x : Cd) => x) (chk8_len P j)
    simpa [Function.comp_def] using this
  have e3 : (zz (chk8 P j) (markOf (chk8 P j))).map (·.1.2) = (chk8 P j).map (·.2) := by
    unfold zz; rw [List.map_map]
    exact range8 (false, false) (fun (x : Cd) => x.2) (chk8_len P j)
  rw [e1, e2, e3]
  rfl
theorem addPart_plain (out : List Part) (c : Int) (h : out.length = 0) : addPart out false c = out ++ [(false, ([c], ()))] := by
  have : out = [] := List.length_eq_zero_iff.1 h
  subst this; rfl
theorem plain_add (a1 : Nat) (out : List Part) (b : Bool) (c : Nat) (hc : c < 256) (ha : a1 ≤ 1000000) (ho : out.length ≤ 1000000) (ht : tot out ≤ 1000000) :
    (bif ((out.length : Int) == 0) then (if (out.length + 1) * 32 ≤ most ∧ 0 < 32 ∧ 0 < 2 then (some (Sum.inl (b, IntKind.i64.wrap ((a1 : Int) + 8), out ++ [(false, ([IntKind.u8.wrap (c : Int)], ()))])) : Option (f30_l10_X ⊕ f30_l10_Y)) else none)
      else (if (0 : Int) ≤ IntKind.i64.wrap ((out.length : Int) - 1) ∧ IntKind.i64.wrap ((out.length : Int) - 1) < (out.length : Int) then
        (if True then
        (if 0 < 1 ∧ (List.length (List.getD out (Int.toNat (IntKind.i64.wrap ((out.length : Int) - 1))) (false, (([] : List Int), ()))).2.1 + 1) * 1 ≤ most ∧ 0 < 1 then
          some (Sum.inl (b, IntKind.i64.wrap ((a1 : Int) + 8), List.set out (Int.toNat (IntKind.i64.wrap ((out.length : Int) - 1))) ((List.getD out (Int.toNat (IntKind.i64.wrap ((out.length : Int) - 1))) (false, (([] : List Int), ()))).1, (((List.getD out (Int.toNat (IntKind.i64.wrap ((out.length : Int) - 1))) (false, (([] : List Int), ()))).2.1 ++ [IntKind.u8.wrap (c : Int)]), (List.getD out (Int.toNat (IntKind.i64.wrap ((out.length : Int) - 1))) (false, (([] : List Int), ()))).2.2))))
        else none) else none) else none)) = some (Sum.inl (b, ((a1 + 8 : Nat) : Int), addPart out false ((c : Nat) : Int))) := by
  have e1 : IntKind.i64.wrap ((a1 : Int) + 8) = ((a1 + 8 : Nat) : Int) := by rw [wi (by omega) (by omega)]; omega
  have e3 : IntKind.u8.wrap (c : Int) = (c : Int) := wu (by omega) (by omega)
  rw [e1, e3]
  by_cases h0 : out.length = 0
  · rw [addPart_plain out _ h0, show ((out.length : Int) == 0) = true by simp [h0]]
    simp only [cond_true]
    rw [if_pos (room1 (by omega) (by decide) (by decide))]
  · rw [show ((out.length : Int) == 0) = false from beq_eq_false_iff_ne.2 (by omega)]
    simp only [cond_false]
    have e2 : IntKind.i64.wrap ((out.length : Int) - 1) = ((out.length - 1 : Nat) : Int) := by rw [wi (by omega) (by omega)]; omega
    rw [e2, if_pos ⟨by omega, by omega⟩, if_pos trivial, Int.toNat_natCast]
    have hp := part_len (getD_mem (d := (false, (([] : List Int), ()))) (by omega : out.length - 1 < out.length))
    rw [if_pos ⟨by decide, by rw [most_eq]; omega, by decide⟩]
    unfold addPart
    rw [if_neg (by decide), if_neg h0]
theorem parts10 (P : List Bool) (q : Nat) (hq : q ≤ 10001) :
    f30_l10 (datas P (8 * q + 1)) (clocks P (8 * q + 1)) (true, (0 : Int), []) = some (foldE stepI (fun s => .inr s.2) (eights P q) (true, [])) := by
  unfold f30_l10
  refine loop_list (g := f30_l10_g (datas P (8 * q + 1)) (clocks P (8 * q + 1))) [] (eights P q) (fun j (s : Bool × List Part) => (s.1, ((8 * j : Nat) : Int), s.2)) (fun j s => s.2.length ≤ j ∧ tot s.2 = j) stepI (fun s => .inr s.2)
    (fun j s hj hs => ?_) (fun s hs => ?_) (true, []) ⟨Nat.le_refl _, rfl⟩ rfl
  · rw [eights_len] at hj
    rw [eights_get P hj]
    obtain ⟨last, out⟩ := s
    dsimp only at hs ⊢
    refine ⟨?_, ?_⟩
    · unfold f30_l10_g f30_l10_k
      simp only
      rw [datas_len, clocks_len]
      have e0 : IntKind.i64.wrap (((8 * q + 1 : Nat) : Int) - 1) = ((8 * q : Nat) : Int) := by rw [wi (by omega) (by omega)]; omega
      have e1 : decide (((8 * j : Nat) : Int) < ((8 * q : Nat) : Int)) = true := by simp; omega
      have e5 : IntKind.i64.wrap (((8 * j : Nat) : Int) + 5) = ((8 * j + 5 : Nat) : Int) := by rw [wi (by omega) (by omega)]; omega
      have e4 : IntKind.i64.wrap (((8 * j : Nat) : Int) + 4) = ((8 * j + 4 : Nat) : Int) := by rw [wi (by omega) (by omega)]; omega
      rw [e0, e1, e5, e4]
      simp only [cond_true]
      rw [if_pos (by omega), if_pos (by omega), if_pos (by omega), Int.toNat_natCast, Int.toNat_natCast, datas_get P (by omega), datas_get P (by omega), clocks_get P (by omega)]
      have g5 := chk8_get P j 5 (by omega)
      have g4 := chk8_get P j 4 (by omega)
      have hmk : markOf (chk8 P j) = (!P.getD (2 * (8 * j + 5) + 1) false && !P.getD (2 * (8 * j + 4) + 1) false && !P.getD (2 * (8 * j + 5)) false) := by unfold markOf; rw [g5, g4]
      have hI := fun mk (h : mk = markOf (chk8 P j)) => inner15' P (8 * q + 1) j last mk h out (by omega) (by omega)
      have hv : val8 (chk8 P j) < 256 := valB_lt (by simp [chk8_len])
      have hpa := plain_add (8 * j) out (lastD last (chk8 P j)) (val8 (chk8 P j)) hv (by omega) (by omega) (by omega)
      have hbad : ∀ s, ¬ pl last (bbC (chk8 P j)) = chk8 P j → stepI (chk8 P j) (last, s) = .inr (.inl ()) := fun s h => by unfold stepI; rw [if_neg h]
      have e8 : IntKind.i64.wrap (((8 * j : Nat) : Int) + 8) = ((8 * (j + 1) : Nat) : Int) := by rw [wi (by omega) (by omega)]; omega
      have hplain : markOf (chk8 P j) = false → pl last (bbC (chk8 P j)) = chk8 P j → stepI (chk8 P j) (last, out) = .inl (lastD last (chk8 P j), addPart out false ((val8 (chk8 P j) : Nat) : Int)) := fun h1 h2 => by
        unfold stepI
        rw [if_pos h2, if_pos (by unfold goodM; rw [h1]; rfl), h1]
      have h88 : ((8 * j + 8 : Nat) : Int) = ((8 * (j + 1) : Nat) : Int) := by omega
      rw [h88] at hpa
      generalize P.getD (2 * (8 * j + 5) + 1) false = d5 at *
      generalize P.getD (2 * (8 * j + 4) + 1) false = d4 at *
      generalize P.getD (2 * (8 * j + 5)) false = c5 at *
      cases d5 with
      | true =>
        simp only [Bool.not_true, cond_false, Bool.false_and] at hmk ⊢
        rw [hI false hmk.symm]
        simp only [some_bind]
        by_cases h : pl last (bbC (chk8 P j)) = chk8 P j
        · rw [if_pos h, hplain hmk h]
          simp only [Sum.elim_inr]
          exact hpa
        · rw [if_neg h, hbad out h]; rfl
      | false =>
        simp only [Bool.not_false, cond_true, Bool.true_and] at hmk ⊢
        cases d4 with
        | true =>
          simp only [Bool.not_true, cond_false, Bool.false_and] at hmk ⊢
          rw [hI false hmk.symm]
          simp only [some_bind]
          by_cases h : pl last (bbC (chk8 P j)) = chk8 P j
          · rw [if_pos h, hplain hmk h]
            simp only [Sum.elim_inr]
            exact hpa
          · rw [if_neg h, hbad out h]; rfl
        | false =>
          simp only [Bool.not_false, cond_true, Bool.true_and] at hmk ⊢
          rw [hI (!c5) hmk.symm]
          simp only [some_bind]
          by_cases h : pl last (bbC (chk8 P j)) = chk8 P j
          · rw [if_pos h]
            simp only [Sum.elim_inr]
            cases c5 with
            | true =>
              simp only [Bool.not_true, cond_false] at hmk ⊢
              rw [hplain hmk h]
              exact hpa
            | false =>
              simp only [Bool.not_false, cond_true] at hmk ⊢
              by_cases hv161 : val8 (chk8 P j) = 161
              · have sI : stepI (chk8 P j) (last, out) = .inl (lastD last (chk8 P j), addPart out true ((val8 (chk8 P j) : Nat) : Int)) := by
                  unfold stepI
                  rw [if_pos h, if_pos (by unfold goodM; rw [hmk, hv161]; rfl), hmk]
                rw [sI, show ((((val8 (chk8 P j) : Nat) : Int)) != 161) = false by rw [hv161]; rfl]
                simp only [cond_false]
                rw [if_pos (room1 (by omega) (by decide) (by decide)), e8]
                rfl
              · have sI : stepI (chk8 P j) (last, out) = .inr (.inl ()) := by
                  unfold stepI
                  rw [if_pos h, if_neg (by unfold goodM; rw [hmk, beq_eq_false_iff_ne.2 hv161]; decide)]
                rw [sI, show ((((val8 (chk8 P j) : Nat) : Int)) != 161) = true by simp; omega]
                rfl
          · rw [if_neg h, hbad out h]; rfl
    · intro s' hs'
      unfold stepI at hs'
      split at hs'
      · split at hs'
        · cases hs'
          exact ⟨by have := add_len out (markOf (chk8 P j)) ((val8 (chk8 P j) : Nat) : Int); dsimp only; omega, by dsimp only; rw [tot_add, hs.2]⟩
        · cases hs'
      · cases hs'
  · unfold f30_l10_g f30_l10_k
    simp only
    rw [datas_len, eights_len]
    have e0 : IntKind.i64.wrap (((8 * q + 1 : Nat) : Int) - 1) = ((8 * q : Nat) : Int) := by rw [wi (by omega) (by omega)]; omega
    rw [e0, dge]; rfl
theorem bits32 (P : List Bool) (m : Nat) (h : P.length = 2 * (m + 1)) (hm : m ≤ 100000) : f32_l9 P ((1 : Int), []) = some (datas P m) := by
  unfold f32_l9
  refine loop_go (fun j => (((2 * j + 1 : Nat) : Int), datas P j)) m (by simp [datas]) (fun j hj => ?_) ?_
  · unfold f32_l9_g f32_l9_k
    simp only
    have e0 : IntKind.i64.wrap (((P.length : Nat) : Int) - 2) = ((2 * m : Nat) : Int) := by rw [wi (by omega) (by omega)]; omega
    rw [e0, show decide (((2 * j + 1 : Nat) : Int) < ((2 * m : Nat) : Int)) = true by simp; omega]
    simp only [cond_true]
    have e1 : IntKind.i64.wrap (((2 * j + 1 : Nat) : Int) + 2) = ((2 * (j + 1) + 1 : Nat) : Int) := by rw [wi (by omega) (by omega)]; omega
    rw [if_pos (by omega), if_pos (room1 (by rw [datas_len]; omega) (by decide) (by decide)), Int.toNat_natCast, e1]
    simp [datas, List.range_succ]
  · unfold f32_l9_g f32_l9_k
    simp only
    have e0 : IntKind.i64.wrap (((P.length : Nat) : Int) - 2) = ((2 * m : Nat) : Int) := by rw [wi (by omega) (by omega)]; omega
    rw [e0, show decide (((2 * m + 1 : Nat) : Int) < ((2 * m : Nat) : Int)) = false by simp; omega]
    rfl
theorem put27 (a0 a1 : Int) (a2 a4 : List Bool) (out : List Part) (c : Int) (h0 : out.length ≠ 0) (ho : out.length ≤ 1000000) (ht : tot out ≤ 1000000) :
    f32_t27 a0 a1 a2 out a4 [c] = some (addPart out false c) := by
  unfold f32_t27 f32_t27_k
  simp only
  have e2 : IntKind.i64.wrap ((out.length : Int) - 1) = ((out.length - 1 : Nat) : Int) := by rw [wi (by omega) (by omega)]; omega
  have hp := part_len (getD_mem (d := (false, (([] : List Int), ()))) (by omega : out.length - 1 < out.length))
  have hc : (0 : Int) ≤ ((out.length - 1 : Nat) : Int) ∧ ((out.length - 1 : Nat) : Int) < ((out.length : Nat) : Int) := ⟨by omega, by omega⟩
  rw [e2]
  simp only [if_pos hc, Int.toNat_natCast]
  rw [if_pos trivial, if_pos ⟨by simp, by rw [most_eq]; simp only [List.length_cons, List.length_nil]; omega, by decide⟩]
  unfold addPart
  rw [if_neg (by decide), if_neg h0]
theorem put27' (a0 a1 : Int) (a2 a4 : List Bool) (out : List Part) (c : Int) (h0 : out.length = 0) : f32_t27 a0 a1 a2 (out ++ [(false, ([], ()))]) a4 [c] = some (addPart out false c) := by
  rw [put27 _ _ _ _ _ _ (by simp) (by simp [h0]) (by rw [tot_append]; have : out = [] := List.length_eq_zero_iff.1 h0; subst this; simp [tot, szP])]
  have : out = [] := List.length_eq_zero_iff.1 h0
  subst this
  rfl
theorem datas_part (P : List Bool) (q j : Nat) (h : j < q) : List.take 8 (List.drop (8 * j) (datas P (8 * q))) = (chk8 P j).map (·.2) := by
  apply List.ext_getElem
  · simp [datas_len, chk8_len]; omega
  · intro i h1 h2
    simp [datas, chk8] at h1 h2 ⊢
theorem parts17 (P : List Bool) (q : Nat) (hq : q ≤ 10001) (hP : P.length = 2 * (8 * q + 1)) :
    f32_l17 (datas P (8 * q)) P ((0 : Int), (0 : Int), []) = some (foldE stepR (fun s => .inr ((s.1 : Int), s.2)) (eights P q) (0, [])) := by
  unfold f32_l17
  refine loop_list (g := f32_l17_g (datas P (8 * q)) P) [] (eights P q) (fun j (s : Nat × List Part) => ((s.1 : Int), ((8 * j : Nat) : Int), s.2)) (fun j s => s.1 = j ∧ s.2.length ≤ j ∧ tot s.2 = j) stepR (fun s => .inr ((s.1 : Int), s.2))
    (fun j s hj hs => ?_) (fun s hs => ?_) (0, []) ⟨rfl, Nat.le_refl _, rfl⟩ rfl
  · rw [eights_len] at hj
    rw [eights_get P hj]
    obtain ⟨n, out⟩ := s
    dsimp only at hs ⊢
    obtain ⟨hs0, hs1, hs2⟩ := hs
    refine ⟨?_, ?_⟩
    · unfold f32_l17_g f32_l17_k
      simp only
      rw [datas_len]
      have e1 : decide (((8 * j : Nat) : Int) < ((8 * q : Nat) : Int)) = true := by simp; omega
      have e8 : IntKind.i64.wrap (((8 * j : Nat) : Int) + 8) = ((8 * (j + 1) : Nat) : Int) := by rw [wi (by omega) (by omega)]; omega
      have e5 : IntKind.i64.wrap (((8 * j : Nat) : Int) + 5) = ((8 * j + 5 : Nat) : Int) := by rw [wi (by omega) (by omega)]; omega
      have e4 : IntKind.i64.wrap (((8 * j : Nat) : Int) + 4) = ((8 * j + 4 : Nat) : Int) := by rw [wi (by omega) (by omega)]; omega
      have e2 : IntKind.i64.wrap ((2 : Int) * ((8 * j + 5 : Nat) : Int)) = ((2 * (8 * j + 5) : Nat) : Int) := by rw [wi (by omega) (by omega)]; omega
      rw [e1, e8, e5, e4, e2, wj (by omega)]
      simp only [cond_true]
      rw [if_pos (by omega), Int.toNat_natCast, Int.toNat_natCast, show 8 * (j + 1) - 8 * j = 8 by omega, datas_part P q j hj, pack91 _ (by simp [chk8_len])]
      simp only [some_bind]
      rw [if_pos (by omega), if_pos (by omega), if_pos (by omega), Int.toNat_natCast, Int.toNat_natCast, Int.toNat_natCast, datas_get P (by omega), datas_get P (by omega)]
      have g5 := chk8_get P j 5 (by omega)
      have g4 := chk8_get P j 4 (by omega)
      have hmk : markOf (chk8 P j) = (!P.getD (2 * (8 * j + 5) + 1) false && !P.getD (2 * (8 * j + 4) + 1) false && !P.getD (2 * (8 * j + 5)) false) := by unfold markOf; rw [g5, g4]
      have hv : valB ((chk8 P j).map (·.2)) = val8 (chk8 P j) := rfl
      rw [hv]
      have hplain : markOf (chk8 P j) = false → stepR (chk8 P j) (n, out) = .inl (n + 1, addPart out false ((val8 (chk8 P j) : Nat) : Int)) := fun h1 => by
        unfold stepR
        rw [if_pos (by unfold goodM; rw [h1]; rfl), h1]
      have hadd : (bif ((out.length : Int) == 0) then (if (out.length + 1) * 32 ≤ most ∧ 0 < 32 ∧ 0 < 2 then (f32_t27 ((n + 1 : Nat) : Int) ((8 * j : Nat) : Int) (datas P (8 * q)) (out ++ [(false, ([], ()))]) P [((val8 (chk8 P j) : Nat) : Int)]).bind fun y => (some (Sum.inl (((n + 1 : Nat) : Int), ((8 * (j + 1) : Nat) : Int), y)) : Option (f32_l17_X ⊕ f32_l17_Y)) else none)
          else (f32_t27 ((n + 1 : Nat) : Int) ((8 * j : Nat) : Int) (datas P (8 * q)) out P [((val8 (chk8 P j) : Nat) : Int)]).bind fun y => some (Sum.inl (((n + 1 : Nat) : Int), ((8 * (j + 1) : Nat) : Int), y))) = some (Sum.inl (((n + 1 : Nat) : Int), ((8 * (j + 1) : Nat) : Int), addPart out false ((val8 (chk8 P j) : Nat) : Int))) := by
        by_cases h0 : out.length = 0
        · rw [show ((out.length : Int) == 0) = true by simp [h0]]
          simp only [cond_true]
          rw [if_pos (room1 (by omega) (by decide) (by decide)), put27' _ _ _ _ _ _ h0]
          rfl
        · rw [show ((out.length : Int) == 0) = false from beq_eq_false_iff_ne.2 (by omega)]
          simp only [cond_false]
          rw [put27 _ _ _ _ _ _ h0 (by omega) (by omega)]
          rfl
      generalize P.getD (2 * (8 * j + 5) + 1) false = d5 at *
      generalize P.getD (2 * (8 * j + 4) + 1) false = d4 at *
      generalize P.getD (2 * (8 * j + 5)) false = c5 at *
      cases d4 with
      | true =>
        simp only [Bool.not_true, cond_false, Bool.false_and, Bool.and_false] at hmk ⊢
        rw [hplain hmk]
        exact hadd
      | false =>
        simp only [Bool.not_false, cond_true, Bool.and_true] at hmk ⊢
        cases d5 with
        | true =>
          simp only [Bool.not_true, cond_false, Bool.false_and] at hmk ⊢
          rw [hplain hmk]
          exact hadd
        | false =>
          simp only [Bool.not_false, cond_true, Bool.true_and] at hmk ⊢
          cases c5 with
          | true =>
            simp only [Bool.not_true, cond_false] at hmk ⊢
            rw [hplain hmk]
            exact hadd
          | false =>
            simp only [Bool.not_false, cond_true] at hmk ⊢
            rw [if_pos ⟨by decide, by simp⟩]
            have g0 : List.getD [((val8 (chk8 P j) : Nat) : Int)] 0 0 = ((val8 (chk8 P j) : Nat) : Int) := rfl
            rw [g0]
            by_cases hv161 : val8 (chk8 P j) = 161
            · have sR : stepR (chk8 P j) (n, out) = .inl (n + 1, addPart out true ((val8 (chk8 P j) : Nat) : Int)) := by
                unfold stepR
                rw [if_pos (by unfold goodM; rw [hmk, hv161]; rfl), hmk]
              rw [sR, show ((((val8 (chk8 P j) : Nat) : Int)) != 161) = false by rw [hv161]; rfl]
              simp only [cond_false]
              rw [if_pos (room1 (by omega) (by decide) (by decide))]
              rfl
            · have sR : stepR (chk8 P j) (n, out) = .inr (.inl ()) := by
                unfold stepR
                rw [if_neg (by unfold goodM; rw [hmk, beq_eq_false_iff_ne.2 hv161]; decide)]
              rw [sR, show ((((val8 (chk8 P j) : Nat) : Int)) != 161) = true by simp; omega]
              rfl
    · intro s' hs'
      unfold stepR at hs'
      split at hs'
      · cases hs'
        exact ⟨by dsimp only; omega, by have := add_len out (markOf (chk8 P j)) ((val8 (chk8 P j) : Nat) : Int); dsimp only; omega, by dsimp only; rw [tot_add, hs2]⟩
      · cases hs'
  · unfold f32_l17_g f32_l17_k
    simp only
    rw [datas_len, eights_len, dge]; rfl
theorem eq92 (a b : List Bool) (h : a.length ≤ 140737488355328) : f92 a b = some ((decide (a = b), ()), ()) := by
  unfold f92 f92_k
  by_cases hl : a.length = b.length
  · have h0 : (((List.length a : Nat) : Int) != ((List.length b : Nat) : Int)) = false := by simp [hl]
    rw [h0]
    simp only [cond_false, f92_l4]
    rcases eq_loop (g := f92_l4_g a b ((List.length a : Nat) : Int)) false a b (fun j => !(a.getD j false == b.getD j false)) hl (fun j hj => by simp) (fun j hj => by
      unfold f92_l4_g f92_l4_k
      rw [dlt hj]
      simp only [cond_true]
      rw [if_pos (in_row hj), if_pos (in_row (by omega)), wi (by omega) (by omega)]
      simp only [Int.toNat_natCast]
      cases a.getD j false <;> cases b.getD j false <;> rfl) (by
      unfold f92_l4_g f92_l4_k
      rw [dge]; rfl) with ⟨e1, e2⟩ | ⟨e1, e2⟩
    · rw [e2, decide_eq_true e1]; rfl
    · rw [e2, decide_eq_false e1]; rfl
  · have h0 : (((List.length a : Nat) : Int) != ((List.length b : Nat) : Int)) = true := by simp; omega
    rw [h0, decide_eq_false (fun e => hl (by rw [e]))]
    rfl
def closed (P : List Bool) (q : Nat) : Option (List Part) :=
  match foldE stepI (fun s => (.inr s.2 : Unit ⊕ List Part)) (eights P q) (true, []) with
  | .inl _ => none
  | .inr out => if P.getD (16 * q) false = true then none else some out
def readR (t : List Int) (cell : Int) : List Part × (Int × Unit) :=
  if (cellsR t cell 4).2.1 ≠ 0 then ([], ((cellsR t cell 4).2.1, ())) else match cntL cell 4 t with
    | none => ([], (3, ()))
    | some L => if sumN L % 2 = 1 ∨ sumN L < 2 then ([], (3, ())) else if (sumN L / 2 - 1) % 8 ≠ 0 then ([], (13, ())) else match closed (unp L) ((sumN L / 2 - 1) / 8) with
      | none => ([], (3, ()))
      | some out => if tot out > 2400 then ([], (2, ())) else (out, (0, ()))
theorem cellsR_ok {t : List Int} {cell most : Int} (h : (cellsR t cell most).2.1 = 0) : ∃ L, cntL cell most t = some L ∧ (cellsR t cell most) = (nat2 L, (0, ())) ∧ t.length ≤ 40000 := by
  unfold cellsR at h ⊢
  by_cases c0 : chkT t = 0
  · rw [if_neg (by simp [c0])] at h ⊢
    split at h
    · cases h
    · rename_i hw
      rw [if_neg hw]
      cases hc : cntL cell most t with
      | none => rw [hc] at h; cases h
      | some L => exact ⟨L, rfl, rfl, (chkT_ok c0).1⟩
  · rw [if_pos c0] at h; exact absurd h c0
theorem small_of {L : List Nat} {t : List Int} {cell : Int} (h : cntL cell 4 t = some L) (ht : t.length ≤ 40000) : small L := by
  obtain ⟨h1, h2⟩ := cntL_ok h
  exact ⟨by omega, fun n hn => ⟨(h2 n hn).1, by have := (h2 n hn).2; omega⟩⟩
theorem closed_ok {P : List Bool} {q : Nat} {out : List Part} (h : closed P q = some out) : partsOk out ∧ tot out = q ∧ out.length ≤ q := by
  unfold closed at h
  rcases both_sides (eights P q) true [] 0 (eights_8 P q) with ⟨_, e⟩ | ⟨out', _, e2, e3, e4, e5⟩
  · rw [e] at h; cases h
  · rw [e5] at h
    by_cases hp : pl true (xx (eights P q)) = (eights P q).flatten
    · rw [if_pos hp] at h
      simp only at h
      split at h
      · cases h
      · cases h
        refine ⟨e4 (by intro p hp; cases hp), by rw [e3, eights_len]; simp [tot], ?_⟩
        have key : ∀ (K : List (List Cd)) (last : Bool) (o : List Part) (r : List Part), foldE stepI (fun s => (.inr s.2 : Unit ⊕ List Part)) K (last, o) = .inr r → r.length ≤ o.length + K.length := by
          intro K
          induction K with
          | nil => intro last o r hr; rw [foldE_nil] at hr; cases hr; simp
          | cons c K ih =>
            intro last o r hr
            rw [foldE_cons] at hr
            unfold stepI at hr
            by_cases c1 : pl last (bbC c) = c
            · rw [if_pos c1] at hr
              by_cases c2 : goodM c = true
              · rw [if_pos c2] at hr
                have hh : r.length ≤ (addPart o (markOf c) ((val8 c : Nat) : Int)).length + K.length := ih _ _ _ hr
                have := add_len o (markOf c) ((val8 c : Nat) : Int)
                simp; omega
              · rw [if_neg c2] at hr; cases hr
            · rw [if_neg c1] at hr; cases hr
        rw [if_pos hp] at e5
        have := key _ _ _ _ e5
        rw [eights_len] at this
        simpa using this
    · rw [if_neg hp] at h; cases h
theorem sz_of {P : List Bool} {q : Nat} (hq : q ≤ 10001) {out : List Part} (h : closed P q = some out) : f80 out = some (((if tot out > 2400 then (2401 : Int) else ((tot out : Nat) : Int)), ()), ()) := by
  obtain ⟨_, h2, h3⟩ := closed_ok h
  exact size80 out (by omega) (fun p hp => by have := part_len hp; omega)
theorem read30 (t : List Int) (cell : Int) : f30 t cell = some (readR t cell, ()) := by
  unfold f30 f30_k readR
  rw [cells84]
  simp only [some_bind]
  by_cases c0 : (cellsR t cell 4).2.1 ≠ 0
  · rw [if_pos c0, show ((cellsR t cell 4).2.1 != 0) = true from bne_iff_ne.2 c0]; rfl
  have c0' : (cellsR t cell 4).2.1 = 0 := Decidable.not_not.1 c0
  rw [if_neg c0, c0']
  obtain ⟨L, hL, hr, ht⟩ := cellsR_ok c0'
  have hsm := small_of hL ht
  have hss := small_sum hsm
  rw [hL, hr]
  simp only [bne_self_eq_false, cond_false]
  rw [bits85 L hsm]
  simp only [some_bind]
  by_cases c1 : sumN L % 2 = 1 ∨ sumN L < 2
  · rw [if_pos c1, if_pos c1]; rfl
  rw [if_neg c1, if_neg c1]
  by_cases c2 : (sumN L / 2 - 1) % 8 ≠ 0
  · rw [if_pos c2, if_pos c2]; rfl
  rw [if_neg c2, if_neg c2]
  simp only [bne_self_eq_false, cond_false]
  have hm : sumN L / 2 = 8 * ((sumN L / 2 - 1) / 8) + 1 := by omega
  generalize (sumN L / 2 - 1) / 8 = q at hm
  rw [hm, parts10 (unp L) q (by omega)]
  simp only [some_bind]
  have hcl := fun out (h : closed (unp L) q = some out) => sz_of (by omega) h
  unfold closed at hcl ⊢
  cases hf : foldE stepI (fun s => (.inr s.2 : Unit ⊕ List Part)) (eights (unp L) q) (true, []) with
  | inl u => rfl
  | inr out =>
    rw [hf] at hcl
    simp only [Sum.elim_inr] at hcl ⊢
    rw [datas_len, clocks_len]
    have e0 : IntKind.i64.wrap (((8 * q + 1 : Nat) : Int) - 1) = ((8 * q : Nat) : Int) := by rw [wi (by omega) (by omega)]; omega
    rw [e0, if_pos (by omega), Int.toNat_natCast, clocks_get _ (by omega), show 2 * (8 * q) = 16 * q by omega]
    cases hc : (unp L).getD (16 * q) false with
    | true => rfl
    | false =>
      simp only [cond_false, Bool.false_eq_true, if_false]
      rw [hc] at hcl
      rw [hcl out rfl]
      simp only [some_bind]
      by_cases c3 : tot out > 2400
      · rw [if_pos c3, if_pos c3]; rfl
      · rw [if_neg c3, if_neg c3, decide_eq_false (by omega : ¬ (((tot out : Nat) : Int) > 2400))]; rfl
theorem read32 (t : List Int) (cell : Int) : f32 t cell = some (readR t cell, ()) := by
  unfold f32 f32_k readR
  rw [counts89]
  simp only [some_bind]
  by_cases c0 : (cellsR t cell 4).2.1 ≠ 0
  · rw [if_pos c0, show ((cellsR t cell 4).2.1 != 0) = true from bne_iff_ne.2 c0]; rfl
  have c0' : (cellsR t cell 4).2.1 = 0 := Decidable.not_not.1 c0
  rw [if_neg c0, c0']
  obtain ⟨L, hL, hr, ht⟩ := cellsR_ok c0'
  have hsm := small_of hL ht
  have hss := small_sum hsm
  have h1 : ∀ n ∈ L, 1 ≤ n := fun n hn => (hsm.2 n hn).1
  have hul := unp_len h1
  rw [hL, hr]
  simp only [bne_self_eq_false, cond_false]
  rw [unplaced90 L hsm]
  simp only [some_bind]
  have m2 : (((unp L).length : Nat) : Int).tmod 2 = ((sumN L % 2 : Nat) : Int) := by rw [hul]; exact (Int.ofNat_tmod _ 2).symm
  rw [m2]
  by_cases c1 : sumN L % 2 = 1
  · rw [if_pos (Or.inl c1 : sumN L % 2 = 1 ∨ sumN L < 2), show (((sumN L % 2 : Nat) : Int) == 1) = true by simp [c1]]; rfl
  rw [show (((sumN L % 2 : Nat) : Int) == 1) = false from beq_eq_false_iff_ne.2 (by omega)]
  simp only [cond_false]
  by_cases c2 : sumN L < 2
  · rw [if_pos (Or.inr c2 : sumN L % 2 = 1 ∨ sumN L < 2), show ((((unp L).length : Nat) : Int) == 0) = true by rw [hul]; simp; omega]; rfl
  rw [if_neg (by omega : ¬ (sumN L % 2 = 1 ∨ sumN L < 2)), show ((((unp L).length : Nat) : Int) == 0) = false by rw [hul]; exact beq_eq_false_iff_ne.2 (by omega)]
  simp only [cond_false]
  rw [bits32 (unp L) (sumN L / 2 - 1) (by rw [hul]; omega) (by omega)]
  simp only [some_bind]
  have m8 : (((datas (unp L) (sumN L / 2 - 1)).length : Nat) : Int).tmod 8 = (((sumN L / 2 - 1) % 8 : Nat) : Int) := by rw [datas_len]; exact (Int.ofNat_tmod _ 8).symm
  rw [m8]
  by_cases c3 : (sumN L / 2 - 1) % 8 ≠ 0
  · rw [if_pos c3, show ((((sumN L / 2 - 1) % 8 : Nat) : Int) != 0) = true by simp; omega]; rfl
  rw [if_neg c3, show ((((sumN L / 2 - 1) % 8 : Nat) : Int) != 0) = false by simp; omega]
  simp only [cond_false]
  have hm : sumN L / 2 = 8 * ((sumN L / 2 - 1) / 8) + 1 := by omega
  have hm1 : sumN L / 2 - 1 = 8 * ((sumN L / 2 - 1) / 8) := by omega
  rw [hm1]
  have hPl : (unp L).length = 2 * (8 * ((sumN L / 2 - 1) / 8) + 1) := by rw [hul]; omega
  rw [Nat.mul_div_cancel_left _ (by decide : 0 < 8)]
  have hq : (sumN L / 2 - 1) / 8 ≤ 10001 := by omega
  generalize (sumN L / 2 - 1) / 8 = q at hq hPl
  have hne : L ≠ [] := by intro e; subst e; simp [unp] at hPl
  have hlast : (unp L).getD (16 * q + 1) false = true := unp_last hne (by rw [hPl]; omega)
  rw [parts17 (unp L) q hq hPl]
  simp only [some_bind]
  unfold closed
  rcases both_sides (eights (unp L) q) true [] 0 (eights_8 _ q) with ⟨e1, e2⟩ | ⟨out, e1, e2, e3, e4, e5⟩
  · rw [e1, e2]; rfl
  rw [e1, e5]
  simp only [Sum.elim_inr]
  have htot : tot out = q := by rw [e3, eights_len]; simp [tot]
  have hol : out.length ≤ 1000000 := by
    have key : ∀ (K : List (List Cd)) (n : Nat) (o : List Part) (r : Int × List Part), foldE stepR (fun s => (.inr ((s.1 : Int), s.2) : Unit ⊕ (Int × List Part))) K (n, o) = .inr r → r.2.length ≤ o.length + K.length := by
      intro K
      induction K with
      | nil => intro n o r hr; rw [foldE_nil] at hr; cases hr; simp
      | cons c K ih =>
        intro n o r hr
        rw [foldE_cons] at hr
        unfold stepR at hr
        by_cases c2 : goodM c = true
        · rw [if_pos c2] at hr
          have hh : r.2.length ≤ (addPart o (markOf c) ((val8 c : Nat) : Int)).length + K.length := ih _ _ _ hr
          have := add_len o (markOf c) ((val8 c : Nat) : Int)
          simp; omega
        · rw [if_neg c2] at hr; cases hr
    have := key _ _ _ _ e1
    rw [eights_len] at this
    simp at this
    omega
  obtain ⟨m, e6, hmr⟩ := bits86 out (by omega) (by omega)
  rw [e6]
  simp only [some_bind]
  rw [places88 _ m hmr (by rw [bbL_len]; omega)]
  simp only [some_bind]
  rw [eq92 _ _ (by rw [plcs_len, List.length_append, bbL_len]; simp; omega)]
  simp only [some_bind]
  have hb : bbL out = xx (eights (unp L) q) := by rw [e2]; simp [bbL]
  have hP := places_eights (unp L) q hPl hlast
  have hiff : plcs true (bbL out ++ [(true, false)]) = unp L ↔ (pl true (xx (eights (unp L) q)) = (eights (unp L) q).flatten ∧ (unp L).getD (16 * q) false = false) := by
    rw [plcs_pl, hb, pl_append]
    constructor
    · intro h
      have h := flat2_inj (h.trans hP)
      have hl : (pl true (xx (eights (unp L) q))).length = (eights (unp L) q).flatten.length := by
        have := congrArg List.length h
        rw [List.length_append, List.length_append] at this
        simpa [pl] using this
      obtain ⟨h1, h2⟩ := List.append_inj h hl
      refine ⟨h1, ?_⟩
      simp [pl] at h2
      simpa using h2
    · rintro ⟨h1, h2⟩
      rw [h1]
      conv => rhs; rw [hP]
      rw [h2]
      simp [pl]
  by_cases hok : plcs true (bbL out ++ [(true, false)]) = unp L
  · rw [decide_eq_true hok]
    obtain ⟨h1, h2⟩ := hiff.1 hok
    rw [if_pos h1]
    simp only [Bool.not_true, cond_false]
    rw [h2]
    simp only [Bool.false_eq_true, if_false]
    rw [eights_len, Nat.zero_add, htot]
    by_cases c4 : q > 2400
    · rw [if_pos c4, decide_eq_true (by omega : ((q : Nat) : Int) > 2400)]; rfl
    · rw [if_neg c4, decide_eq_false (by omega : ¬ ((q : Nat) : Int) > 2400)]; rfl
  · rw [decide_eq_false hok]
    simp only [Bool.not_false, cond_true]
    by_cases h1 : pl true (xx (eights (unp L) q)) = (eights (unp L) q).flatten
    · rw [if_pos h1]
      simp only
      have h2 : (unp L).getD (16 * q) false = true := by
        cases hc : (unp L).getD (16 * q) false with
        | true => rfl
        | false => exact absurd (hiff.2 ⟨h1, hc⟩) hok
      rw [h2]; rfl
    · rw [if_neg h1]
end Go.Proofs.Ytlgbhaigpecdoaa.V
