/- Sectors are read alike. -/
import Derived.Test.YtlgbhaigpecdoaaVPureSectF
set_option linter.unusedVariables false
set_option linter.unusedSimpArgs false
namespace Go.Proofs.Ytlgbhaigpecdoaa.V
open Go
def openB (b : List Int) : Bool := decide (2 ≤ b.length ∧ sumS 65535 b = 0)
def openR (b : List Int) : List Int × (Bool × Unit) := if openB b = true then (b.take (b.length - 2), (true, ())) else ([], (false, ()))
theorem open110 (b : List Int) (hb : byteL b) (h : b.length ≤ 140737488355328) : f110 b = some (openR b, ()) := by
  unfold f110 f110_k openR openB
  by_cases c1 : b.length < 2
  · rw [decide_eq_true (by omega : ((b.length : Nat) : Int) < 2), decide_eq_false (by omega)]; rfl
  rw [decide_eq_false (by omega : ¬ ((b.length : Nat) : Int) < 2)]
  simp only [cond_false]
  rw [sum141 b hb h]
  simp only [some_bind]
  by_cases c2 : sumS 65535 b = 0
  · rw [show (((sumS 65535 b : Nat) : Int) != 0) = false by simp [c2], decide_eq_true (⟨by omega, c2⟩ : 2 ≤ b.length ∧ sumS 65535 b = 0)]
    simp only [cond_false, if_true]
    have e : IntKind.i64.wrap (((b.length : Nat) : Int) - 2) = ((b.length - 2 : Nat) : Int) := by rw [wi (by omega) (by omega)]; omega
    rw [e, if_pos ⟨by decide, by omega, by omega⟩, Int.toNat_natCast]
    simp only [Nat.sub_zero, List.drop_zero, List.nil_append]
    rw [if_pos ⟨by rw [most_eq, List.length_take]; omega, by decide, by decide⟩]
  · rw [show (((sumS 65535 b : Nat) : Int) != 0) = true by simp; omega, decide_eq_false (fun h => c2 h.2)]; rfl
theorem seal_open (b : List Int) (hb : byteL b) (h : 2 ≤ b.length) : sealB (b.take (b.length - 2)) = b ↔ sumS 65535 b = 0 := by
  have hd : (b.drop (b.length - 2)).length = 2 := by rw [List.length_drop]; omega
  match hm : b.drop (b.length - 2), hd with
  | [x, y], _ =>
    have e : b = b.take (b.length - 2) ++ [x, y] := by rw [← hm]; exact (List.take_append_drop _ _).symm
    have hx := byteL_drop hb (b.length - 2)
    rw [hm] at hx
    have := sum_seal (b.take (b.length - 2)) x y (hx x (by simp)) (hx y (by simp))
    rw [← e] at this
    rw [this]
    unfold sealB
    constructor
    · intro h1
      rw [h1.trans e |> List.append_cancel_left]
    · intro h1
      rw [← h1]; exact e.symm
theorem unseal111 (b : List Int) (hb : byteL b) (h : b.length ≤ 140737488355328) : f111 b = some (openR b, ()) := by
  unfold f111 f111_k openR openB
  by_cases c1 : b.length < 2
  · have e : IntKind.i64.wrap (((b.length : Nat) : Int) - 2) = ((b.length : Nat) : Int) - 2 := wi (by omega) (by omega)
    simp only
    rw [e, decide_eq_true (by omega : ((b.length : Nat) : Int) - 2 < 0), decide_eq_false (by omega)]; rfl
  have e : IntKind.i64.wrap (((b.length : Nat) : Int) - 2) = ((b.length - 2 : Nat) : Int) := by rw [wi (by omega) (by omega)]; omega
  simp only
  rw [e, decide_eq_false (by omega : ¬ ((b.length - 2 : Nat) : Int) < 0)]
  simp only [cond_false]
  have hc : (0 : Int) ≤ (0 : Int) ∧ (0 : Int) ≤ ((b.length - 2 : Nat) : Int) ∧ ((b.length - 2 : Nat) : Int) ≤ ((b.length : Nat) : Int) := ⟨by decide, by omega, by omega⟩
  simp only [if_pos hc, Int.toNat_natCast, Nat.sub_zero, List.drop_zero]
  rw [seal109 _ (byteL_take hb _) (by rw [List.length_take]; omega)]
  simp only [some_bind]
  rw [eq24 _ _ (by rw [sealB_len, List.length_take]; omega)]
  simp only [some_bind]
  have hi := seal_open b hb (by omega)
  by_cases c2 : sumS 65535 b = 0
  · rw [decide_eq_true (hi.2 c2), decide_eq_true (⟨by omega, c2⟩ : 2 ≤ b.length ∧ sumS 65535 b = 0)]
    simp only [Bool.not_true, cond_false, if_true]
    rw [clone76 _ (by rw [List.length_take]; omega)]
    rfl
  · rw [decide_eq_false (fun h => c2 (hi.1 h)), decide_eq_false (fun h => c2 h.2)]; rfl
theorem openR_2 (b : List Int) : (openR b).2.1 = openB b := by
  unfold openR
  cases openB b <;> rfl
abbrev zPart : Part := (false, ([], ()))
def hdr (a : Part) : Bool := a.1 && (decide (5 ≤ a.2.1.length) && (a.2.1.getD 0 0 == 254 && openB (a.2.1.take 5)))
def hdS (a : Part) : Sec := (a.2.1.getD 1 0, (a.2.1.getD 2 0, ([], (false, ()))))
def bodS (b : Part) : Bool := b.1 && (decide (131 ≤ b.2.1.length) && b.2.1.getD 0 0 == 251)
def mkS (h : Sec) (b : Part) : Sec := (h.1, (h.2.1, ((b.2.1.drop 1).take 128, (!openB (b.2.1.take 131), h.2.2.2.2))))
def pairS (a b : Part) : List Sec := if hdr a = true ∧ bodS b = true then [mkS (hdS a) b] else []
def secsR : List Part → List Sec
  | a :: b :: l => pairS a b ++ secsR (b :: l)
  | _ => []
def stepF (s : Bool × List Sec × Sec) (p : Part) : Bool × List Sec × Sec :=
  if p.1 = false ∨ p.2.1.length = 0 then (false, s.2.1, s.2.2)
  else if p.2.1.getD 0 0 = 254 ∧ 5 ≤ p.2.1.length then (openB (p.2.1.take 5), s.2.1, hdS p)
  else if p.2.1.getD 0 0 = 251 ∧ s.1 = true ∧ 131 ≤ p.2.1.length then (false, s.2.1 ++ [mkS s.2.2 p], mkS s.2.2 p)
  else (false, s.2.1, s.2.2)
theorem fold_step : ∀ (l : List Part) (a : Part) (s : Bool × List Sec × Sec), s.1 = hdr a → (s.1 = true → s.2.2 = hdS a) → (l.foldl stepF s).2.1 = s.2.1 ++ secsR (a :: l)
  | [], a, s, _, _ => by simp [secsR]
  | b :: l, a, s, h1, h2 => by
    rw [List.foldl_cons]
    have key : (stepF s b).1 = hdr b ∧ ((stepF s b).1 = true → (stepF s b).2.2 = hdS b) ∧ (stepF s b).2.1 = s.2.1 ++ pairS a b := by
      unfold stepF pairS
      by_cases c1 : b.1 = false ∨ b.2.1.length = 0
      · rw [if_pos c1]
        have e1 : hdr b = false := by
          unfold hdr
          rcases c1 with c | c
          · rw [c]; rfl
          · rw [decide_eq_false (by omega)]; simp
        have e2 : bodS b = false := by
          unfold bodS
          rcases c1 with c | c
          · rw [c]; rfl
          · rw [decide_eq_false (by omega)]; simp
        rw [e1, e2]
        exact ⟨rfl, (by intro h; cases h), by simp⟩
      rw [if_neg c1]
      have b1 : b.1 = true := by
        cases hb : b.1 with
        | true => rfl
        | false => exact absurd (Or.inl hb) c1
      by_cases c2 : b.2.1.getD 0 0 = 254 ∧ 5 ≤ b.2.1.length
      · rw [if_pos c2]
        have e1 : hdr b = openB (b.2.1.take 5) := by unfold hdr; rw [b1, decide_eq_true c2.2, c2.1]; simp
        have e2 : bodS b = false := by unfold bodS; rw [c2.1]; simp
        rw [e1, e2]
        exact ⟨rfl, fun _ => rfl, by simp⟩
      rw [if_neg c2]
      have e1 : hdr b = false := by
        unfold hdr
        by_cases c : b.2.1.getD 0 0 = 254
        · have : ¬ 5 ≤ b.2.1.length := fun h => c2 ⟨c, h⟩
          rw [decide_eq_false this]; simp
        · rw [beq_eq_false_iff_ne.2 c]; simp
      by_cases c3 : b.2.1.getD 0 0 = 251 ∧ s.1 = true ∧ 131 ≤ b.2.1.length
      · rw [if_pos c3]
        have e2 : bodS b = true := by unfold bodS; rw [b1, c3.1, decide_eq_true c3.2.2]; rfl
        rw [e1, if_pos ⟨by rw [← h1]; exact c3.2.1, e2⟩, h2 c3.2.1]
        exact ⟨rfl, (by intro h; cases h), rfl⟩
      · rw [if_neg c3, e1, if_neg]
        · exact ⟨rfl, (by intro h; cases h), by simp⟩
        · rintro ⟨k1, k2⟩
          unfold bodS at k2
          simp only [Bool.and_eq_true, decide_eq_true_eq, beq_iff_eq] at k2
          exact c3 ⟨k2.2.2, by rw [h1]; exact k1, k2.2.1⟩
    obtain ⟨k1, k2, k3⟩ := key
    rw [fold_step l b (stepF s b) k1 k2, k3, List.append_assoc]
    rfl
theorem hdr_z : hdr zPart = false := rfl
theorem secs_z (l : List Part) : secsR (zPart :: l) = secsR l := by
  cases l with
  | nil => rfl
  | cons b l =>
    show pairS zPart b ++ secsR (b :: l) = _
    unfold pairS
    rw [hdr_z]; simp
theorem step_all (l : List Part) (n : Sec) : (l.foldl stepF (false, [], n)).2.1 = secsR l := by
  rw [fold_step l zPart (false, [], n) rfl (by intro h; cases h), secs_z]; rfl
def secsI (P : List Part) (j : Nat) : List Sec := (List.range j).flatMap fun i => pairS (P.getD i zPart) (P.getD (i + 1) zPart)
theorem secsI_all : ∀ (P : List Part), secsI P (P.length - 1) = secsR P
  | [] => rfl
  | [a] => rfl
  | a :: b :: l => by
    have ih := secsI_all (b :: l)
    show secsI (a :: b :: l) (l.length + 1) = pairS a b ++ secsR (b :: l)
    rw [← ih]
    unfold secsI
    rw [List.range_succ_eq_map, List.flatMap_cons, List.flatMap_map]
    rfl
def okP (P : List Part) : Prop := P.length ≤ 20001 ∧ ∀ p ∈ P, p.2.1.length ≤ 20001 ∧ byteL p.2.1
theorem step_out (s : Bool × List Sec × Sec) (p : Part) : (stepF s p).2.1.length ≤ s.2.1.length + 1 := by
  unfold stepF
  split
  · simp
  · split
    · simp
    · split
      · simp
      · simp
theorem scan53_loop (P : List Part) (h : okP P) (n : Sec) : f53_l8 P ((List.length P : Nat) : Int) (false, (0 : Int), [], n) = some (secsR P) := by
  unfold f53_l8
  have := loop_all (g := f53_l8_g P ((List.length P : Nat) : Int)) zPart P (fun j (s : Bool × List Sec × Sec) => (s.1, (j : Int), s.2.1, s.2.2)) (fun j s => s.2.1.length ≤ j) stepF (y := secsR P)
    (fun j s hj hs => by
      have hp := h.2 _ (getD_mem (d := zPart) hj)
      have hPl := h.1
      refine ⟨?_, by have := step_out s (P.getD j zPart); omega⟩
      unfold f53_l8_g f53_l8_k
      simp only
      rw [dlt hj]
      simp only [cond_true]
      rw [if_pos (in_row hj), Int.toNat_natCast, wj (by omega)]
      generalize P.getD j zPart = p at hp
      obtain ⟨p1, p2, ⟨⟩⟩ := p
      obtain ⟨s1, s2, s3⟩ := s
      dsimp only at hp hs ⊢
      obtain ⟨hl, hb⟩ := hp
      cases p1 with
      | false =>
        have e : stepF (s1, s2, s3) (false, (p2, ())) = (false, s2, s3) := if_pos (Or.inl rfl)
        rw [e]; rfl
      | true =>
        simp only [Bool.not_true, cond_false]
        by_cases c0 : p2.length = 0
        · have e : stepF (s1, s2, s3) (true, (p2, ())) = (false, s2, s3) := if_pos (Or.inr c0)
          rw [e, show ((p2.length : Int) == 0) = true by simp [c0]]; rfl
        have n0 : ¬ (((true, (p2, ())) : Part).1 = false ∨ ((true, (p2, ())) : Part).2.1.length = 0) := by simp; exact fun h => c0 (by rw [h]; rfl)
        rw [show ((p2.length : Int) == 0) = false from beq_eq_false_iff_ne.2 (by omega)]
        simp only [cond_false]
        have r0 : (0 : Int) ≤ 0 ∧ (0 : Int) < (p2.length : Int) := ⟨by decide, by omega⟩
        simp only [if_pos r0]
        have tail : ∀ z : Bool × List Sec × Sec, (p2.getD 0 0 = 251 ∧ s1 = true ∧ 131 ≤ p2.length → z = (false, s2 ++ [mkS s3 (true, (p2, ()))], mkS s3 (true, (p2, ())))) → (¬ (p2.getD 0 0 = 251 ∧ s1 = true ∧ 131 ≤ p2.length) → z = (false, s2, s3)) →
            (bif p2.getD 0 0 == 251 then
              bif s1 then
                bif decide ((p2.length : Int) ≥ 131) then
                  if (0 : Int) ≤ 0 ∧ (0 : Int) ≤ 131 ∧ (131 : Int) ≤ (p2.length : Int) then
                    (f110 (List.take 131 (List.drop 0 p2))).bind fun r7 =>
                      if (0 : Int) ≤ 1 ∧ (1 : Int) ≤ 129 ∧ (129 : Int) ≤ (p2.length : Int) then
                        if (0 + (List.take 128 (List.drop 1 p2)).length) * 1 ≤ most ∧ 0 < 1 ∧ 0 < 1 then
                          if (s2.length + 1) * 48 ≤ most ∧ 0 < 48 ∧ 0 < 4 then
                            (some (Sum.inl (false, ((j + 1 : Nat) : Int), s2 ++ [(s3.1, s3.2.1, [] ++ List.take 128 (List.drop 1 p2), !r7.1.2.1, s3.2.2.2.2)], (s3.1, s3.2.1, [] ++ List.take 128 (List.drop 1 p2), !r7.1.2.1, s3.2.2.2.2))) : Option (f53_l8_X ⊕ f53_l8_Y))
                          else none
                        else none
                      else none
                  else none
                else some (Sum.inl (false, ((j + 1 : Nat) : Int), s2, s3))
              else some (Sum.inl (false, ((j + 1 : Nat) : Int), s2, s3))
            else some (Sum.inl (false, ((j + 1 : Nat) : Int), s2, s3))) = some (Sum.inl (z.1, ((j + 1 : Nat) : Int), z.2.1, z.2.2)) := by
          intro z z1 z2
          by_cases d1 : p2.getD 0 0 = 251
          · rw [show (p2.getD 0 0 == 251) = true from beq_iff_eq.2 d1]
            cases s1 with
            | false => rw [z2 (fun h => by cases h.2.1)]; rfl
            | true =>
              simp only [cond_true]
              by_cases d3 : 131 ≤ p2.length
              · rw [decide_eq_true (by omega : (p2.length : Int) ≥ 131), z1 ⟨d1, rfl, d3⟩]
                simp only [cond_true]
                rw [if_pos ⟨by decide, by decide, by omega⟩, List.drop_zero, open110 _ (byteL_take hb _) (by rw [List.length_take]; omega)]
                simp only [some_bind]
                rw [if_pos ⟨by decide, by decide, by omega⟩, if_pos ⟨by rw [most_eq, List.length_take]; omega, by decide, by decide⟩, if_pos ⟨by rw [most_eq]; omega, by decide, by decide⟩, openR_2]
                rfl
              · rw [decide_eq_false (by omega : ¬ (p2.length : Int) ≥ 131), z2 (fun h => d3 h.2.2)]; rfl
          · rw [show (p2.getD 0 0 == 251) = false from beq_eq_false_iff_ne.2 d1, z2 (fun h => d1 h.1)]; rfl
        by_cases c2 : p2.getD 0 0 = 254 ∧ 5 ≤ p2.length
        · have e : stepF (s1, s2, s3) (true, (p2, ())) = (openB (p2.take 5), s2, hdS (true, (p2, ()))) := by unfold stepF; rw [if_neg n0, if_pos c2]
          rw [e, show (p2.getD 0 0 == 254) = true from beq_iff_eq.2 c2.1, decide_eq_true (by omega : (p2.length : Int) ≥ 5)]
          simp only [cond_true]
          rw [if_pos ⟨by decide, by decide, by omega⟩, List.drop_zero, open110 _ (byteL_take hb _) (by rw [List.length_take]; omega)]
          simp only [some_bind]
          have b1 := hb _ (getD_mem (d := 0) (by omega : 1 < p2.length))
          have b2 := hb _ (getD_mem (d := 0) (by omega : 2 < p2.length))
          rw [if_pos ⟨by decide, by omega⟩, if_pos ⟨by decide, by omega⟩, wi (n := p2.getD 1 0) (by omega) (by omega), wi (n := p2.getD 2 0) (by omega) (by omega), openR_2]
          rfl
        · have z1 : p2.getD 0 0 = 251 ∧ s1 = true ∧ 131 ≤ p2.length → stepF (s1, s2, s3) (true, (p2, ())) = (false, s2 ++ [mkS s3 (true, (p2, ()))], mkS s3 (true, (p2, ()))) := fun h => by unfold stepF; rw [if_neg n0, if_neg c2, if_pos h]
          have z2 : ¬ (p2.getD 0 0 = 251 ∧ s1 = true ∧ 131 ≤ p2.length) → stepF (s1, s2, s3) (true, (p2, ())) = (false, s2, s3) := fun h => by unfold stepF; rw [if_neg n0, if_neg c2, if_neg h]
          have t := tail _ z1 z2
          by_cases c1 : p2.getD 0 0 = 254
          · have n5 : ¬ 5 ≤ p2.length := fun h => c2 ⟨c1, h⟩
            rw [show (p2.getD 0 0 == 254) = true from beq_iff_eq.2 c1, decide_eq_false (by omega : ¬ (p2.length : Int) ≥ 5)]
            simp only [cond_true, cond_false]
            exact t
          · rw [show (p2.getD 0 0 == 254) = false from beq_eq_false_iff_ne.2 c1]
            simp only [cond_false]
            exact t)
    (false, [], n) (by simp) (x0 := (false, (0 : Int), [], n)) rfl (fun hp => by
      unfold f53_l8_g f53_l8_k
      simp only
      rw [dge]
      simp only [cond_false]
      rw [step_all])
  exact this.1
def scanR (t : List Int) (cell : Int) : List Sec × (Int × Unit) :=
  if (readR t cell).2.1 ≠ 0 then ([], ((readR t cell).2.1, ())) else if (secsR (readR t cell).1).length > 12 then ([], (2, ())) else (secsR (readR t cell).1, (0, ()))
theorem readR_P (t : List Int) (cell : Int) : okP (readR t cell).1 := readR_ok t cell
theorem scan53 (t : List Int) (cell : Int) : f53 t cell = some (scanR t cell, ()) := by
  unfold f53 f53_k scanR
  rw [read30]
  simp only [some_bind]
  by_cases c0 : (readR t cell).2.1 ≠ 0
  · rw [if_pos c0, show ((readR t cell).2.1 != 0) = true from bne_iff_ne.2 c0]; rfl
  rw [if_neg c0, Decidable.not_not.1 c0]
  simp only [bne_self_eq_false, cond_false]
  rw [scan53_loop _ (readR_P t cell)]
  simp only [some_bind]
  by_cases c1 : (secsR (readR t cell).1).length > 12
  · rw [if_pos c1, decide_eq_true (by omega : (((secsR (readR t cell).1).length : Nat) : Int) > 12)]; rfl
  · rw [if_neg c1, decide_eq_false (by omega : ¬ (((secsR (readR t cell).1).length : Nat) : Int) > 12)]; rfl
theorem secsI_len (P : List Part) (j : Nat) : (secsI P j).length ≤ j := by
  unfold secsI
  have := flatMap_len (fun i => pairS (P.getD i zPart) (P.getD (i + 1) zPart)) 1 (List.range j) (fun i _ => by unfold pairS; split <;> simp)
  simpa using this
theorem scan54_loop (P : List Part) (h : okP P) : f54_l6 P ((1 : Int), []) = some (secsR P) := by
  unfold f54_l6
  by_cases h0 : P.length = 0
  · have : P = [] := List.length_eq_zero_iff.1 h0
    subst this
    exact loopO_out rfl
  rw [← secsI_all]
  refine loop_go (fun j => (((j + 1 : Nat) : Int), secsI P j)) (P.length - 1) rfl (fun j hj => ?_) ?_
  · have ha := h.2 _ (getD_mem (d := zPart) (by omega : j < P.length))
    have hb := h.2 _ (getD_mem (d := zPart) (by omega : j + 1 < P.length))
    have hPl := h.1
    have hlen := secsI_len P j
    have hs : secsI P (j + 1) = secsI P j ++ pairS (P.getD j zPart) (P.getD (j + 1) zPart) := by unfold secsI; rw [List.range_succ, List.flatMap_append]; simp
    rw [hs]
    unfold f54_l6_g f54_l6_k
    simp only
    have e1 : decide (((j + 1 : Nat) : Int) < ((P.length : Nat) : Int)) = true := by simp; omega
    have e2 : IntKind.i64.wrap (((j + 1 : Nat) : Int) - 1) = (j : Int) := by rw [wi (by omega) (by omega)]; omega
    rw [e1, e2]
    simp only [cond_true]
    rw [if_pos ⟨by omega, by omega⟩, if_pos ⟨by omega, by omega⟩, Int.toNat_natCast, Int.toNat_natCast, wj (by omega)]
    generalize secsI P j = out at hlen
    generalize P.getD j zPart = a at ha
    generalize P.getD (j + 1) zPart = b at hb
    obtain ⟨a1, a2, ⟨⟩⟩ := a
    obtain ⟨b1, b2, ⟨⟩⟩ := b
    dsimp only at ha hb ⊢
    unfold pairS hdr bodS
    dsimp only
    cases a1 with
    | false => simp
    | true =>
      cases b1 with
      | false => simp
      | true =>
        simp only [Bool.not_true, cond_false, Bool.true_and]
        by_cases c1 : a2.length < 5
        · rw [decide_eq_true (by omega : (a2.length : Int) < 5), decide_eq_false (by omega : ¬ 5 ≤ a2.length)]; simp
        rw [decide_eq_false (by omega : ¬ (a2.length : Int) < 5), decide_eq_true (by omega : 5 ≤ a2.length)]
        simp only [cond_false, Bool.true_and]
        by_cases c2 : b2.length < 131
        · rw [decide_eq_true (by omega : (b2.length : Int) < 131), decide_eq_false (by omega : ¬ 131 ≤ b2.length)]; simp
        rw [decide_eq_false (by omega : ¬ (b2.length : Int) < 131), decide_eq_true (by omega : 131 ≤ b2.length)]
        simp only [cond_false, Bool.true_and]
        rw [if_pos ⟨by decide, by omega⟩]
        by_cases c3 : a2.getD 0 0 ≠ 254
        · rw [show (a2.getD 0 0 != 254) = true from bne_iff_ne.2 c3, beq_eq_false_iff_ne.2 c3]; simp
        have c3 := Decidable.not_not.1 c3
        rw [c3]
        simp only [bne_self_eq_false, cond_false, beq_self_eq_true, Bool.true_and]
        rw [if_pos ⟨by decide, by omega⟩]
        by_cases c4 : b2.getD 0 0 ≠ 251
        · rw [show (b2.getD 0 0 != 251) = true from bne_iff_ne.2 c4, beq_eq_false_iff_ne.2 c4]; simp
        have c4 := Decidable.not_not.1 c4
        rw [c4]
        simp only [bne_self_eq_false, cond_false, beq_self_eq_true]
        rw [if_pos ⟨by decide, by decide, by omega⟩, List.drop_zero, unseal111 _ (byteL_take ha.2 _) (by rw [List.length_take]; omega)]
        simp only [some_bind]
        rw [openR_2]
        cases c5 : openB (a2.take 5) with
        | false => simp
        | true =>
          simp only [Bool.not_true, cond_false]
          have b1 := ha.2 _ (getD_mem (d := 0) (by omega : 1 < a2.length))
          have b2' := ha.2 _ (getD_mem (d := 0) (by omega : 2 < a2.length))
          rw [if_pos ⟨by decide, by decide, by omega⟩, List.drop_zero, unseal111 _ (byteL_take hb.2 _) (by rw [List.length_take]; omega)]
          simp only [some_bind]
          rw [openR_2, if_pos ⟨by decide, by omega⟩, if_pos ⟨by decide, by omega⟩, if_pos ⟨by decide, by decide, by omega⟩, wi (n := a2.getD 1 0) (by omega) (by omega), wi (n := a2.getD 2 0) (by omega) (by omega), clone76 _ (by rw [List.length_take]; omega)]
          simp only [some_bind]
          rw [if_pos ⟨by rw [most_eq]; omega, by decide, by decide⟩, if_pos (by simp)]
          rfl
  · unfold f54_l6_g f54_l6_k
    simp only
    rw [show decide (((P.length - 1 + 1 : Nat) : Int) < ((P.length : Nat) : Int)) = false by simp; omega]
    rfl
theorem scan54 (t : List Int) (cell : Int) : f54 t cell = some (scanR t cell, ()) := by
  unfold f54 f54_k scanR
  rw [read32]
  simp only [some_bind]
  by_cases c0 : (readR t cell).2.1 ≠ 0
  · rw [if_pos c0, show ((readR t cell).2.1 != 0) = true from bne_iff_ne.2 c0]; rfl
  rw [if_neg c0, Decidable.not_not.1 c0]
  simp only [bne_self_eq_false, cond_false]
  rw [scan54_loop _ (readR_P t cell)]
  simp only [some_bind]
  by_cases c1 : (secsR (readR t cell).1).length > 12
  · rw [if_pos c1, decide_eq_true (by omega : (((secsR (readR t cell).1).length : Nat) : Int) > 12)]; rfl
  · rw [if_neg c1, decide_eq_false (by omega : ¬ (((secsR (readR t cell).1).length : Nat) : Int) > 12)]; rfl
end Go.Proofs.Ytlgbhaigpecdoaa.V
