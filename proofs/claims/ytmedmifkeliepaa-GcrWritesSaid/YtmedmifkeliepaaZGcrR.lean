/-
  What the functions that GcrWrites uses come to, in plain words (models of ZGcr). Conditions stand in each lemma.
-/
import Derived.Test.YtmedmifkeliepaaZGcrW
import Derived.Test.YtmedmifkeliepaaPGcrWritesx0
import Derived.Test.YtmedmifkeliepaaPGcrWritesx1
import Derived.Test.YtmedmifkeliepaaPGcrWritesx2
import Derived.Test.YtmedmifkeliepaaPGcrWritesx3
import Derived.Test.YtmedmifkeliepaaPGcrWritesx4
import Derived.Test.YtmedmifkeliepaaPGcrWritesx5
import Derived.Test.YtmedmifkeliepaaPGcrWritesx6
import Derived.Test.YtmedmifkeliepaaPGcrWritesx7
set_option linter.unusedVariables false
set_option linter.unusedSimpArgs false
namespace Go.Proofs.Ytmedmifkeliepaa.BkGcrWrites
open Go Go.RowKit Go.Proofs.YtmedmifkeliepaaW.PrintWords Go.Proofs.YtmedmifkeliepaaW.PrintLast Go.Proofs.YtmedmifkeliepaaW.PrintMore Go.Proofs.Ytmedmifkeliepaa.PGcrWrites Go.Proofs.Ytmedmifkeliepaa.Bk
theorem cellsOf_40000 (t : List Int) (c m : Int) (h : (cellsOf t c m).2 = 0) : (cellsOf t c m).1.length ≤ 40000 := by
  have h1 := cellsOf_length t c m
  unfold cellsOf at h
  by_cases h2 : ck t = 0
  · have := (ck_zero.1 h2).1; omega
  · rw [if_neg h2] at h; exact absurd h h2
def bi (b : Bool) : Int := if b then 1 else 0
def unp3 (x : Int) : List Bool := List.replicate (x.toNat - 1) false ++ [true]
theorem unp3_len (n : List Int) (h : ∀ x ∈ n, 1 ≤ x ∧ x ≤ 3) : (n.flatMap unp3).length ≤ 3 * n.length := by
  induction n with
  | nil => simp
  | cons x n ih =>
    have hx := h x (by simp)
    have := ih (fun y hy => h y (by simp [hy]))
    rw [List.flatMap_cons, List.length_append, List.length_cons]
    have h3 : (unp3 x).length ≤ 3 := by unfold unp3; rw [List.length_append, List.length_replicate, List.length_singleton]; omega
    omega
def v5 (a b c d e : Bool) : Int := 16 * bi a + 8 * bi b + 4 * bi c + 2 * bi d + bi e
def ixF : List Int → Int → Int → Int
  | [], _, _ => -1
  | x :: r, v, i => if v = x then i else ixF r v (i + 1)
def ix (v : Int) : Int := ixF codes v 0
def dec : List Bool → List Int → List Int × Int
  | a1 :: a2 :: a3 :: a4 :: a5 :: b1 :: b2 :: b3 :: b4 :: b5 :: M, out => if ix (v5 a1 a2 a3 a4 a5) < 0 then ([], 3) else if ix (v5 b1 b2 b3 b4 b5) < 0 then ([], 3) else dec M (out ++ [(16 * ix (v5 a1 a2 a3 a4 a5) + ix (v5 b1 b2 b3 b4 b5)) % 256])
  | _, out => (out, 0)
def readOf (L : List Bool) : List Int × Int := if L.length = 0 then ([], 3) else if (L.length - 1) % 10 = 0 then (if 20001 < L.length then ([], 2) else dec L.dropLast []) else ([], 13)
def gcrBytesOf (t : List Int) (c : Int) : List Int × Int := if (cellsOf t c 3).2 = 0 then readOf ((cellsOf t c 3).1.flatMap unp3) else ([], (cellsOf t c 3).2)
theorem ix_all : ∀ v : Fin 32, slices_Index_int_int.f 40 codes (v.1 : Int) = some (ix (v.1 : Int)) ∧ -1 ≤ ix (v.1 : Int) ∧ ix (v.1 : Int) < 16 := by decide +kernel
theorem v5_b (a b c d e : Bool) : 0 ≤ v5 a b c d e ∧ v5 a b c d e < 32 := by cases a <;> cases b <;> cases c <;> cases d <;> cases e <;> decide
theorem ix_b (a b c d e : Bool) : -1 ≤ ix (v5 a b c d e) ∧ ix (v5 a b c d e) < 16 := by
  have h := v5_b a b c d e
  generalize v5 a b c d e = v at h ⊢
  obtain ⟨i, rfl⟩ : ∃ i : Fin 32, (i.1 : Int) = v := ⟨⟨v.toNat, by omega⟩, by show ((v.toNat : Nat) : Int) = v; omega⟩
  exact (ix_all i).2
theorem index_ev (a b c d e : Bool) : Ev (fun k => slices_Index_int_int.f k codes (v5 a b c d e)) (ix (v5 a b c d e)) := by
  have h := v5_b a b c d e
  generalize v5 a b c d e = v at h ⊢
  obtain ⟨i, rfl⟩ : ∃ i : Fin 32, (i.1 : Int) = v := ⟨⟨v.toNat, by omega⟩, by show ((v.toNat : Nat) : Int) = v; omega⟩
  exact Ev.of (fun k => slices_Index_int_int.mono codes (i.1 : Int) k) (ix_all i).1
theorem w10 (i : Nat) (h : i ≤ 100000) : wrap64 ((i : Int) + 10) = ((i + 10 : Nat) : Int) := by rw [w64 _ (by omega) (by omega)]; rfl
theorem w5_ (i : Nat) (h : i ≤ 100000) : wrap64 ((i : Int) + 5) = ((i + 5 : Nat) : Int) := by rw [w64 _ (by omega) (by omega)]; rfl
/-- five bits, one after another -/
theorem r3_ev (X out : List Int) (i c kk : Int) (a1 a2 a3 a4 a5 : Bool) (r : List Int × Int) (h : Ev (fun k => (slices_Index_int_int.f k codes (v5 a1 a2 a3 a4 a5)).bind fun t158 => (if t158 < 0 then (some (([] : List Int), 3)) else (gcr_Read.l2 k X out codes i (wrap64 ((wrap64 (c * 16)) + t158)) (wrap64 (kk + 5))))) r) :
    Ev (fun k => gcr_Read.l3 k X out codes i c kk 0 [bi a1, bi a2, bi a3, bi a4, bi a5] 5 0) r := by
  have st : ∀ (acc j : Int) (k : Nat), 0 ≤ j → j < 5 → gcr_Read.l3 (k + 1) X out codes i c kk acc [bi a1, bi a2, bi a3, bi a4, bi a5] 5 j = gcr_Read.l3 k X out codes i c kk (wrap64 ((wrap64 (acc * 2)) + (rd [bi a1, bi a2, bi a3, bi a4, bi a5] j))) [bi a1, bi a2, bi a3, bi a4, bi a5] 5 (wrap64 (j + 1)) := by
    intro acc j k h0 h1
    simp only [gcr_Read.l3]
    rw [if_pos h1, if_pos h0, if_pos (by simp; omega)]
  refine Ev.step (fun k => st 0 0 k (by decide) (by decide)) ?_
  rw [show wrap64 ((0 : Int) + 1) = 1 from w64 _ (by decide) (by decide)]
  refine Ev.step (fun k => st _ 1 k (by decide) (by decide)) ?_
  rw [show wrap64 ((1 : Int) + 1) = 2 from w64 _ (by decide) (by decide)]
  refine Ev.step (fun k => st _ 2 k (by decide) (by decide)) ?_
  rw [show wrap64 ((2 : Int) + 1) = 3 from w64 _ (by decide) (by decide)]
  refine Ev.step (fun k => st _ 3 k (by decide) (by decide)) ?_
  rw [show wrap64 ((3 : Int) + 1) = 4 from w64 _ (by decide) (by decide)]
  refine Ev.step (fun k => st _ 4 k (by decide) (by decide)) ?_
  rw [show wrap64 ((4 : Int) + 1) = 5 from w64 _ (by decide) (by decide)]
  have e : wrap64 ((wrap64 (wrap64 ((wrap64 (wrap64 ((wrap64 (wrap64 ((wrap64 (wrap64 ((wrap64 (0 * 2)) + (rd [bi a1, bi a2, bi a3, bi a4, bi a5] 0)) * 2)) + (rd [bi a1, bi a2, bi a3, bi a4, bi a5] 1)) * 2)) + (rd [bi a1, bi a2, bi a3, bi a4, bi a5] 2)) * 2)) + (rd [bi a1, bi a2, bi a3, bi a4, bi a5] 3)) * 2)) + (rd [bi a1, bi a2, bi a3, bi a4, bi a5] 4)) = v5 a1 a2 a3 a4 a5 := by
    cases a1 <;> cases a2 <;> cases a3 <;> cases a4 <;> cases a5 <;> decide +kernel
  rw [e]
  refine Ev.step (fun k => ?_) h
  simp only [gcr_Read.l3]
  rw [if_neg (by decide)]
theorem cut5 (A C : List Bool) (a1 a2 a3 a4 a5 : Bool) (kk : Nat) (hk : A.length = kk) : ((((A ++ a1 :: a2 :: a3 :: a4 :: a5 :: C).map bi).take (((kk + 5 : Nat) : Int)).toNat).drop (kk : Int).toNat) = [bi a1, bi a2, bi a3, bi a4, bi a5] := by
  rw [Int.toNat_natCast, Int.toNat_natCast, ← List.map_take, ← List.map_drop]
  subst hk
  rw [List.take_append, List.drop_append]
  simp
theorem r2_ev (A C : List Bool) (a1 a2 a3 a4 a5 : Bool) (out : List Int) (i : Nat) (c : Int) (kk : Nat) (r : List Int × Int) (hA : A.length = kk) (hk : kk < i + 10) (hi : i ≤ 50000) (h : Ev (fun k => if ix (v5 a1 a2 a3 a4 a5) < 0 then (some (([] : List Int), 3)) else (gcr_Read.l2 k ((A ++ a1 :: a2 :: a3 :: a4 :: a5 :: C).map bi) out codes (i : Int) (wrap64 ((wrap64 (c * 16)) + ix (v5 a1 a2 a3 a4 a5))) ((kk + 5 : Nat) : Int))) r) :
    Ev (fun k => gcr_Read.l2 k ((A ++ a1 :: a2 :: a3 :: a4 :: a5 :: C).map bi) out codes (i : Int) c (kk : Int)) r := by
  have hl : ((A ++ a1 :: a2 :: a3 :: a4 :: a5 :: C).map bi).length = kk + 5 + C.length := by rw [List.length_map, List.length_append, hA]; simp only [List.length_cons]; omega
  have w5 := w5_ kk (by omega)
  refine Ev.step (f := fun k => gcr_Read.l3 k ((A ++ a1 :: a2 :: a3 :: a4 :: a5 :: C).map bi) out codes (i : Int) c (kk : Int) 0 [bi a1, bi a2, bi a3, bi a4, bi a5] 5 0) (fun k => ?_) (r3_ev _ out _ c _ a1 a2 a3 a4 a5 r ?_)
  · simp only [gcr_Read.l2]
    rw [w10 i (by omega), w5, if_pos (by omega), if_pos (by omega), if_pos (by omega), if_pos (by rw [hl]; omega), cut5 A C a1 a2 a3 a4 a5 kk hA]
    rfl
  · rw [w5]
    exact Ev.bind (index_ev a1 a2 a3 a4 a5) h
theorem ten (M : List Bool) (n : Nat) (h : M.length = 10 * (n + 1)) : ∃ a1 a2 a3 a4 a5 b1 b2 b3 b4 b5 R, M = a1 :: a2 :: a3 :: a4 :: a5 :: b1 :: b2 :: b3 :: b4 :: b5 :: R ∧ R.length = 10 * n := by
  match M, h with
  | a1 :: a2 :: a3 :: a4 :: a5 :: b1 :: b2 :: b3 :: b4 :: b5 :: R, h => exact ⟨a1, a2, a3, a4, a5, b1, b2, b3, b4, b5, R, rfl, by simp only [List.length_cons] at h; omega⟩
  | [], h => simp at h
  | [_], h => simp at h; omega
  | [_, _], h => simp at h; omega
  | [_, _, _], h => simp at h; omega
  | [_, _, _, _], h => simp at h; omega
  | [_, _, _, _, _], h => simp at h; omega
  | [_, _, _, _, _, _], h => simp at h; omega
  | [_, _, _, _, _, _, _], h => simp at h; omega
  | [_, _, _, _, _, _, _, _], h => simp at h; omega
  | [_, _, _, _, _, _, _, _, _], h => simp at h; omega
theorem r1_loop : ∀ (n : Nat) (A S : List Bool) (out : List Int), S.length = 10 * n → A.length ≤ 30000 → A.length + S.length ≤ 30000 → out.length ≤ A.length → Ev (fun k => gcr_Read.l1 k ((A ++ S).map bi) out codes (A.length : Int)) (dec S out)
  | 0, A, S, out, hS, hA, hAS, ho => by
    have e : S = [] := List.eq_nil_of_length_eq_zero hS
    subst e
    refine Ev.done fun k => ?_
    simp only [gcr_Read.l1]
    rw [if_neg (by simp)]
    rfl
  | n + 1, A, S, out, hS, hA, hAS, ho => by
    obtain ⟨a1, a2, a3, a4, a5, b1, b2, b3, b4, b5, R, rfl, hR⟩ := ten S n hS
    have hAa : (A ++ [a1, a2, a3, a4, a5]).length = A.length + 5 := by simp
    have hA10 : (A ++ [a1, a2, a3, a4, a5, b1, b2, b3, b4, b5]).length = A.length + 10 := by simp
    simp only [List.length_cons] at hAS
    have w10a := w10 A.length (by omega)
    have eX : A ++ a1 :: a2 :: a3 :: a4 :: a5 :: b1 :: b2 :: b3 :: b4 :: b5 :: R = (A ++ [a1, a2, a3, a4, a5]) ++ b1 :: b2 :: b3 :: b4 :: b5 :: R := by simp
    have eX2 : A ++ a1 :: a2 :: a3 :: a4 :: a5 :: b1 :: b2 :: b3 :: b4 :: b5 :: R = (A ++ [a1, a2, a3, a4, a5, b1, b2, b3, b4, b5]) ++ R := by simp
    have G1 := fun r => r2_ev A (b1 :: b2 :: b3 :: b4 :: b5 :: R) a1 a2 a3 a4 a5 out A.length 0 A.length r rfl (by omega) (by omega)
    have G2 := fun c r => r2_ev (A ++ [a1, a2, a3, a4, a5]) R b1 b2 b3 b4 b5 out A.length c (A.length + 5) r hAa (by omega) (by omega)
    have ih := fun o h => r1_loop n (A ++ [a1, a2, a3, a4, a5, b1, b2, b3, b4, b5]) R o hR (by rw [hA10]; omega) (by rw [hA10]; omega) h
    rw [hA10] at ih
    rw [← eX] at G2
    rw [← eX2] at ih
    have xa := ix_b a1 a2 a3 a4 a5
    have xb := ix_b b1 b2 b3 b4 b5
    have hlen : ((A ++ a1 :: a2 :: a3 :: a4 :: a5 :: b1 :: b2 :: b3 :: b4 :: b5 :: R).map bi).length = A.length + 10 + R.length := by rw [List.length_map, List.length_append]; simp only [List.length_cons]; omega
    have hdec : dec (a1 :: a2 :: a3 :: a4 :: a5 :: b1 :: b2 :: b3 :: b4 :: b5 :: R) out = if ix (v5 a1 a2 a3 a4 a5) < 0 then ([], 3) else if ix (v5 b1 b2 b3 b4 b5) < 0 then ([], 3) else dec R (out ++ [(16 * ix (v5 a1 a2 a3 a4 a5) + ix (v5 b1 b2 b3 b4 b5)) % 256]) := by rw [dec]
    rw [hdec]
    clear hdec eX eX2
    generalize (A ++ a1 :: a2 :: a3 :: a4 :: a5 :: b1 :: b2 :: b3 :: b4 :: b5 :: R).map bi = X at *
    generalize ix (v5 a1 a2 a3 a4 a5) = p at *
    generalize ix (v5 b1 b2 b3 b4 b5) = q at *
    refine Ev.step (f := fun k => gcr_Read.l2 k X out codes (A.length : Int) 0 (A.length : Int)) (fun k => ?_) ?_
    · simp only [gcr_Read.l1]
      rw [if_pos (by omega)]
    refine G1 _ ?_
    by_cases ha : p < 0
    · rw [if_pos ha]; exact Ev.pos ha (Ev.all fun k => rfl)
    · rw [if_neg ha]
      refine Ev.neg ha (G2 _ _ ?_)
      by_cases hb : q < 0
      · rw [if_pos hb]; exact Ev.pos hb (Ev.all fun k => rfl)
      · rw [if_neg hb]
        refine Ev.neg hb ?_
        have wc : wrap64 ((wrap64 (wrap64 ((wrap64 (0 * 16)) + p) * 16)) + q) = 16 * p + q := by
          clear ih G1 G2 w10a
          rw [w64 (0 * 16) (by omega) (by omega), w64 (0 * 16 + p) (by omega) (by omega), w64 ((0 * 16 + p) * 16) (by omega) (by omega), w64 _ (by omega) (by omega)]; omega
        rw [wc]
        clear wc
        refine Ev.step (fun k => ?_) (ih (out ++ [(16 * p + q) % 256]) (by rw [List.length_append, List.length_singleton]; omega))
        simp only [gcr_Read.l2]
        rw [w10a, if_neg (by omega), if_pos (by omega)]
theorem bits_step (P : List Int) (x : Int) (hx : 1 ≤ x ∧ x ≤ 3) : (P ++ List.replicate x.toNat (0 : Int)).set (P.length + x.toNat - 1) 1 = P ++ (unp3 x).map bi ∧ (unp3 x).length = x.toNat := by
  obtain rfl | rfl | rfl : x = 1 ∨ x = 2 ∨ x = 3 := by omega
  · refine ⟨?_, rfl⟩
    show (P ++ [0]).set (P.length + 1 - 1) 1 = P ++ [1]
    rw [List.set_append_right _ _ (by omega)]; simp
  · refine ⟨?_, rfl⟩
    show (P ++ [0, 0]).set (P.length + 2 - 1) 1 = P ++ [0, 1]
    rw [List.set_append_right _ _ (by omega), show P.length + 2 - 1 - P.length = 1 by omega]; rfl
  · refine ⟨?_, rfl⟩
    show (P ++ [0, 0, 0]).set (P.length + 3 - 1) 1 = P ++ [0, 0, 1]
    rw [List.set_append_right _ _ (by omega), show P.length + 3 - 1 - P.length = 2 by omega]; rfl
theorem r0_end (L : List Bool) (l : List Int) (hL : L.length ≤ 200000) : Ev (fun k => gcr_Read.l0 k (L.map bi) l (l.length : Int) (l.length : Int)) (readOf L) := by
  unfold readOf
  have hl : (L.map bi).length = L.length := List.length_map _
  by_cases h0 : L.length = 0
  · rw [if_pos h0]
    refine Ev.done fun k => ?_
    simp only [gcr_Read.l0]
    rw [if_neg (by omega), if_pos (by rw [hl]; omega)]
  rw [if_neg h0]
  have w1 : wrap64 (((L.map bi).length : Int) - 1) = ((L.length - 1 : Nat) : Int) := by rw [hl, w64 _ (by omega) (by omega)]; omega
  have hd : (L.map bi).take (((L.length - 1 : Nat) : Int)).toNat = (L.dropLast).map bi := by rw [Int.toNat_natCast, ← List.map_take, List.dropLast_eq_take]
  have hdl : ((L.dropLast).map bi).length = L.length - 1 := by rw [List.length_map, List.length_dropLast]
  have hcode : ∀ k, gcr_Read.l0 (k + 1) (L.map bi) l (l.length : Int) (l.length : Int) = (if ((((L.dropLast).map bi).length : Int) % 10) = 0 then (if (((L.dropLast).map bi).length : Int) > 20000 then (some (([] : List Int), 2)) else ((gcr_Codes.f).bind fun t147 => (gcr_Read.l1 k ((L.dropLast).map bi) ([] : List Int) t147 0))) else (some (([] : List Int), 13))) := by
    intro k
    simp only [gcr_Read.l0]
    rw [w1, hd, if_neg (by omega), if_neg (by rw [hl]; omega), if_pos (by omega), if_pos (by rw [hl]; omega)]
    rfl
  refine Ev.step hcode ?_
  rw [hdl]
  by_cases h10 : (L.length - 1) % 10 = 0
  · rw [if_pos h10]
    refine Ev.pos (by omega) ?_
    by_cases hb : 20001 < L.length
    · rw [if_pos hb]; exact Ev.pos (by omega) (Ev.all fun k => rfl)
    · rw [if_neg hb]
      refine Ev.neg (by omega) (Ev.bind (a := codes) (Ev.all fun k => rfl) ?_)
      have := r1_loop ((L.length - 1) / 10) [] L.dropLast [] (by rw [List.length_dropLast]; omega) (by simp) (by rw [List.length_dropLast]; simp; omega) (by simp)
      exact this
  · rw [if_neg h10]
    exact Ev.neg (by omega) (Ev.all fun k => rfl)
theorem r0_loop (l : List Int) (hm : l.length ≤ 40000) (hv : ∀ x ∈ l, 1 ≤ x ∧ x ≤ 3) : ∀ (suf pre : List Int) (P : List Bool), l = pre ++ suf → P.length ≤ 3 * pre.length → Ev (fun k => gcr_Read.l0 k (P.map bi) l (l.length : Int) (pre.length : Int)) (readOf (P ++ suf.flatMap unp3))
  | [], pre, P, hl, hP => by
    have hp : l = pre := by simpa using hl
    subst hp
    simp only [List.flatMap_nil, List.append_nil]
    exact r0_end P l (by omega)
  | x :: suf, pre, P, hl, hP => by
    have a := at_mid hl (by omega)
    have hlen := len_mid' hl
    have hx := hv x (by rw [hl]; simp)
    obtain ⟨b1, b2⟩ := bits_step (P.map bi) x hx
    have hpl : (pre ++ [x]).length = pre.length + 1 := by simp
    have ih := r0_loop l hm hv suf (pre ++ [x]) (P ++ unp3 x) (next_mid hl) (by rw [List.length_append, b2, hpl]; omega)
    rw [List.map_append, List.append_assoc, ← List.flatMap_cons] at ih
    have hyl : (P.map bi ++ List.replicate x.toNat (0 : Int)).length = P.length + x.toNat := by rw [List.length_append, List.length_replicate, List.length_map]
    have hPl : (P.map bi).length = P.length := List.length_map _
    have w1 : wrap64 (((P.map bi ++ List.replicate x.toNat (0 : Int)).length : Int) - 1) = ((P.length + x.toNat - 1 : Nat) : Int) := by rw [hyl, w64 _ (by omega) (by omega)]; omega
    have hset : (P.map bi ++ List.replicate x.toNat (0 : Int)).set (((P.length + x.toNat - 1 : Nat) : Int)).toNat 1 = P.map bi ++ (unp3 x).map bi := by rw [Int.toNat_natCast]; rw [hPl] at b1; exact b1
    refine Ev.step (fun k => ?_) ih
    simp only [gcr_Read.l0, Option.bind_some]
    rw [if_pos a.2.1, if_pos a.1, if_pos a.2.1, a.2.2.1, if_pos (by omega), if_pos (by rw [hPl]; omega), w1, if_pos (by omega), if_pos (by rw [hyl]; omega), hset, a.2.2.2]
theorem gcrRead_ev (t : List Int) (c : Int) (ht : t.length ≤ 140737488355328) : Ev (fun k => gcr_Read.f k t c) (gcrBytesOf t c) := by
  unfold gcr_Read.f gcrBytesOf
  refine Ev.bind (cells_ev t c 3 ht) ?_
  by_cases h : (cellsOf t c 3).2 = 0
  · rw [if_pos h]
    refine Ev.pos h ?_
    exact r0_loop _ (cellsOf_40000 t c 3 h) (cellsOf_vals t c 3 h) _ [] [] rfl (by simp)
  · rw [if_neg h]
    exact Ev.neg h (Ev.all fun k => rfl)
theorem unp3_o {o p m : Nat} (ho : o ≤ 3 * p) (hl : p + 1 + m ≤ 40000) : o < 140737488355328 ∧ o + 1 < 140737488355328 ∧ o + 1 + 1 < 140737488355328 := by omega
theorem unp3_of (x : Int) (h : 1 ≤ x ∧ x ≤ 3) : x = 1 ∨ x = 2 ∨ x = 3 := by omega
theorem unplaced3_loop (l : List Int) (hm : l.length ≤ 40000) (hv : ∀ x ∈ l, 1 ≤ x ∧ x ≤ 3) : ∀ (suf pre : List Int) (out : List Bool), l = pre ++ suf → out.length ≤ 3 * pre.length →
    Ev (fun k => bakeref2_Unplaced.l0 k out l (l.length : Int) (pre.length : Int)) (out ++ suf.flatMap unp3)
  | [], pre, out, hl, ho => by
    refine Ev.done fun k => ?_
    simp only [bakeref2_Unplaced.l0]; rw [if_neg (at_end hl)]; simp
  | x :: suf, pre, out, hl, ho => by
    have hB : l.length ≤ 140737488355328 := Nat.le_trans hm (by decide)
    have hx := hv x (by rw [hl]; simp)
    have hlen := len_mid' hl
    have hol := unp3_o (m := suf.length) ho (by omega)
    have hpl : (pre ++ [x]).length = pre.length + 1 := by simp
    have ho2 : (out ++ unp3 x).length ≤ 3 * (pre ++ [x]).length := by
      rw [hpl, List.length_append]
      have : (unp3 x).length ≤ 3 := by rcases unp3_of x hx with rfl | rfl | rfl <;> decide
      omega
    have ih := unplaced3_loop l hm hv suf (pre ++ [x]) (out ++ unp3 x) (next_mid hl) ho2
    rw [List.flatMap_cons, ← List.append_assoc]
    refine Ev.step (f := fun k => bakeref2_Unplaced.l1 k out l (l.length : Int) (pre.length : Int) (wrap64 (x - 1)) 0) (fun k => ?_) ?_
    · simp only [bakeref2_Unplaced.l0]
      rw [if_pos (at_mid hl hB).2.1, if_pos (at_mid hl hB).1, if_pos (at_mid hl hB).2.1, (at_mid hl hB).2.2.1]
    rcases unp3_of x hx with h1 | h1 | h1
    · subst h1
      refine Ev.step (fun k => ?_) ih
      simp only [bakeref2_Unplaced.l1]
      rw [if_neg (by decide +kernel), if_pos hol.1, (at_mid hl hB).2.2.2]
      rfl
    · subst h1
      refine Ev.step (f := fun k => bakeref2_Unplaced.l1 k (out ++ [false]) l (l.length : Int) (pre.length : Int) (wrap64 (2 - 1)) (wrap64 (0 + 1))) (fun k => ?_) ?_
      · simp only [bakeref2_Unplaced.l1]
        rw [if_pos (by decide +kernel), if_pos hol.1]
      refine Ev.step (fun k => ?_) ih
      simp only [bakeref2_Unplaced.l1]
      rw [if_neg (by decide +kernel), List.length_append, List.length_singleton, if_pos hol.2.1, (at_mid hl hB).2.2.2]
      simp [unp3]
    · subst h1
      refine Ev.step (f := fun k => bakeref2_Unplaced.l1 k (out ++ [false]) l (l.length : Int) (pre.length : Int) (wrap64 (3 - 1)) (wrap64 (0 + 1))) (fun k => ?_) ?_
      · simp only [bakeref2_Unplaced.l1]
        rw [if_pos (by decide +kernel), if_pos hol.1]
      refine Ev.step (f := fun k => bakeref2_Unplaced.l1 k (out ++ [false] ++ [false]) l (l.length : Int) (pre.length : Int) (wrap64 (3 - 1)) (wrap64 (wrap64 (0 + 1) + 1))) (fun k => ?_) ?_
      · simp only [bakeref2_Unplaced.l1]
        rw [if_pos (by decide +kernel), List.length_append, List.length_singleton, if_pos hol.2.1]
      refine Ev.step (fun k => ?_) ih
      simp only [bakeref2_Unplaced.l1]
      rw [if_neg (by decide +kernel), List.length_append, List.length_append, List.length_singleton, if_pos hol.2.2, (at_mid hl hB).2.2.2]
      simp [unp3]
theorem unplaced3_ev (l : List Int) (hm : l.length ≤ 40000) (hv : ∀ x ∈ l, 1 ≤ x ∧ x ≤ 3) : Ev (fun k => bakeref2_Unplaced.f k l) (l.flatMap unp3) := by
  exact unplaced3_loop l hm hv l [] [] rfl (by simp)
theorem L_at (L A R : List Bool) (a : Bool) (hL : L = A ++ a :: R) (hm : L.length ≤ 140737488355328) : (0 : Int) ≤ (A.length : Int) ∧ (A.length : Int) < (L.length : Int) ∧ rdOf false L (A.length : Int) = a := by
  have := at_midB false hL hm
  exact ⟨this.1, this.2.1, this.2.2.1⟩
theorem cb_num (a1 a2 a3 a4 a5 : Bool) : (if a5 = true then wrap64 ((if a4 = true then wrap64 ((if a3 = true then wrap64 ((if a2 = true then wrap64 ((if a1 = true then wrap64 (0 + (shr .i64 16 0)) else 0) + (shr .i64 16 1)) else (if a1 = true then wrap64 (0 + (shr .i64 16 0)) else 0)) + (shr .i64 16 2)) else (if a2 = true then wrap64 ((if a1 = true then wrap64 (0 + (shr .i64 16 0)) else 0) + (shr .i64 16 1)) else (if a1 = true then wrap64 (0 + (shr .i64 16 0)) else 0))) + (shr .i64 16 3)) else (if a3 = true then wrap64 ((if a2 = true then wrap64 ((if a1 = true then wrap64 (0 + (shr .i64 16 0)) else 0) + (shr .i64 16 1)) else (if a1 = true then wrap64 (0 + (shr .i64 16 0)) else 0)) + (shr .i64 16 2)) else (if a2 = true then wrap64 ((if a1 = true then wrap64 (0 + (shr .i64 16 0)) else 0) + (shr .i64 16 1)) else (if a1 = true then wrap64 (0 + (shr .i64 16 0)) else 0)))) + (shr .i64 16 4)) else (if a4 = true then wrap64 ((if a3 = true then wrap64 ((if a2 = true then wrap64 ((if a1 = true then wrap64 (0 + (shr .i64 16 0)) else 0) + (shr .i64 16 1)) else (if a1 = true then wrap64 (0 + (shr .i64 16 0)) else 0)) + (shr .i64 16 2)) else (if a2 = true then wrap64 ((if a1 = true then wrap64 (0 + (shr .i64 16 0)) else 0) + (shr .i64 16 1)) else (if a1 = true then wrap64 (0 + (shr .i64 16 0)) else 0))) + (shr .i64 16 3)) else (if a3 = true then wrap64 ((if a2 = true then wrap64 ((if a1 = true then wrap64 (0 + (shr .i64 16 0)) else 0) + (shr .i64 16 1)) else (if a1 = true then wrap64 (0 + (shr .i64 16 0)) else 0)) + (shr .i64 16 2)) else (if a2 = true then wrap64 ((if a1 = true then wrap64 (0 + (shr .i64 16 0)) else 0) + (shr .i64 16 1)) else (if a1 = true then wrap64 (0 + (shr .i64 16 0)) else 0))))) = v5 a1 a2 a3 a4 a5 := by
  cases a1 <;> cases a2 <;> cases a3 <;> cases a4 <;> cases a5 <;> decide +kernel
/-- five places of the reference's list -/
theorem c1_ev (L A C : List Bool) (a1 a2 a3 a4 a5 : Bool) (out : List Int) (high : Int) (r : List Int × Int) (hL : L = A ++ a1 :: a2 :: a3 :: a4 :: a5 :: C) (hm : L.length ≤ 100000)
    (h : Ev (fun k => (if ix (v5 a1 a2 a3 a4 a5) < 0 then (some (([] : List Int), 3)) else (if high < 0 then (bakeref2_GcrBytes.l0 k L out (ix (v5 a1 a2 a3 a4 a5)) (wrap64 ((A.length : Int) + 5))) else (if out.length < 140737488355328 then (bakeref2_GcrBytes.l0 k L (out ++ [(wrap64 ((wrap64 (16 * high)) + ix (v5 a1 a2 a3 a4 a5))) % 256]) (-1) (wrap64 ((A.length : Int) + 5))) else (none))))) r) :
    Ev (fun k => bakeref2_GcrBytes.l1 k L out high (A.length : Int) 0 0) r := by
  have hl : L.length = A.length + 5 + C.length := by rw [hL, List.length_append]; simp only [List.length_cons]; omega
  have st : ∀ (a : Bool) (j j' : Nat) (s : Int) (k : Nat) (B R : List Bool), L = B ++ a :: R → B.length = A.length + j → j < 5 → j' = j + 1 → bakeref2_GcrBytes.l1 (k + 1) L out high (A.length : Int) s (j : Int) = bakeref2_GcrBytes.l1 k L out high (A.length : Int) (if a = true then wrap64 (s + (shr .i64 16 (j : Int))) else s) (j' : Int) := by
    intro a j j' s k B R hB hBl hj hj'
    have p := L_at L B R a hB (by omega)
    have w1 : wrap64 ((A.length : Int) + (j : Int)) = (B.length : Int) := by rw [w64 _ (by omega) (by omega)]; omega
    have w2 : wrap64 ((j : Int) + 1) = (j' : Int) := by rw [w64 _ (by omega) (by omega)]; omega
    simp only [bakeref2_GcrBytes.l1]
    rw [if_pos (by omega), w1, if_pos p.1, if_pos p.2.1, p.2.2, w2]
    cases a
    · rw [if_neg (by decide), if_neg (by decide)]
    · rw [if_pos rfl, if_pos (by omega), if_pos rfl]
  refine Ev.step (g := fun k => bakeref2_GcrBytes.l1 k L out high (A.length : Int) _ ((0 : Nat) : Int)) (fun k => st a1 0 1 _ k A (a2 :: a3 :: a4 :: a5 :: C) (by first | exact hL | (rw [hL]; simp)) (by simp) (by decide) rfl) ?_
  refine Ev.step (g := fun k => bakeref2_GcrBytes.l1 k L out high (A.length : Int) _ ((1 : Nat) : Int)) (fun k => st a2 1 2 _ k (A ++ [a1]) (a3 :: a4 :: a5 :: C) (by first | exact hL | (rw [hL]; simp)) (by simp) (by decide) rfl) ?_
  refine Ev.step (g := fun k => bakeref2_GcrBytes.l1 k L out high (A.length : Int) _ ((2 : Nat) : Int)) (fun k => st a3 2 3 _ k (A ++ [a1, a2]) (a4 :: a5 :: C) (by first | exact hL | (rw [hL]; simp)) (by simp) (by decide) rfl) ?_
  refine Ev.step (g := fun k => bakeref2_GcrBytes.l1 k L out high (A.length : Int) _ ((3 : Nat) : Int)) (fun k => st a4 3 4 _ k (A ++ [a1, a2, a3]) (a5 :: C) (by first | exact hL | (rw [hL]; simp)) (by simp) (by decide) rfl) ?_
  refine Ev.step (g := fun k => bakeref2_GcrBytes.l1 k L out high (A.length : Int) _ ((4 : Nat) : Int)) (fun k => st a5 4 5 _ k (A ++ [a1, a2, a3, a4]) C (by first | exact hL | (rw [hL]; simp)) (by simp) (by decide) rfl) ?_
  have e := cb_num a1 a2 a3 a4 a5
  refine Ev.step (f := fun k => (bakeref2_groups.f k).bind fun t212 => ((slices_Index_int_int.f k t212 (v5 a1 a2 a3 a4 a5)).bind fun t215 => (if t215 < 0 then (some (([] : List Int), 3)) else (if high < 0 then (bakeref2_GcrBytes.l0 k L out t215 (wrap64 ((A.length : Int) + 5))) else (if out.length < 140737488355328 then (bakeref2_GcrBytes.l0 k L (out ++ [(wrap64 ((wrap64 (16 * high)) + t215)) % 256]) (-1) (wrap64 ((A.length : Int) + 5))) else (none)))))) (fun k => ?_) (Ev.bind groups_ev (Ev.bind (index_ev a1 a2 a3 a4 a5) h))
  simp only [bakeref2_GcrBytes.l1]
  rw [if_neg (by decide)]
  rw [← e]
  rfl
theorem c0_loop : ∀ (n : Nat) (L A S : List Bool) (z : Bool) (out : List Int), L = A ++ S ++ [z] → S.length = 10 * n → L.length ≤ 30000 → out.length ≤ A.length → Ev (fun k => bakeref2_GcrBytes.l0 k L out (-1) (A.length : Int)) (dec S out)
  | 0, L, A, S, z, out, hL, hS, hm, ho => by
    have e : S = [] := List.eq_nil_of_length_eq_zero hS
    subst e
    have hl : L.length = A.length + 1 := by rw [hL]; simp
    refine Ev.done fun k => ?_
    simp only [bakeref2_GcrBytes.l0]
    rw [w5_ A.length (by omega), if_neg (by omega)]
    rfl
  | n + 1, L, A, S, z, out, hL, hS, hm, ho => by
    obtain ⟨a1, a2, a3, a4, a5, b1, b2, b3, b4, b5, R, rfl, hR⟩ := ten S n hS
    have hl : L.length = A.length + 11 + R.length := by rw [hL, List.length_append, List.length_append]; simp only [List.length_cons, List.length_nil]; omega
    have hAa : (A ++ [a1, a2, a3, a4, a5]).length = A.length + 5 := by simp
    have hA10 : (A ++ [a1, a2, a3, a4, a5, b1, b2, b3, b4, b5]).length = A.length + 10 := by simp
    have w5 := w5_ A.length (by omega)
    have w5b := w5_ (A.length + 5) (by omega)
    have hL1 : L = A ++ a1 :: a2 :: a3 :: a4 :: a5 :: (b1 :: b2 :: b3 :: b4 :: b5 :: (R ++ [z])) := by rw [hL]; simp
    have hL2 : L = (A ++ [a1, a2, a3, a4, a5]) ++ b1 :: b2 :: b3 :: b4 :: b5 :: (R ++ [z]) := by rw [hL]; simp
    have hL3 : L = (A ++ [a1, a2, a3, a4, a5, b1, b2, b3, b4, b5]) ++ R ++ [z] := by rw [hL]; simp
    have G1 := fun r => c1_ev L A _ a1 a2 a3 a4 a5 out (-1) r hL1 (by omega)
    have G2 := fun hi r => c1_ev L (A ++ [a1, a2, a3, a4, a5]) _ b1 b2 b3 b4 b5 out hi r hL2 (by omega)
    have ih := fun o h => c0_loop n L (A ++ [a1, a2, a3, a4, a5, b1, b2, b3, b4, b5]) R z o hL3 hR hm h
    rw [hA10] at ih
    rw [hAa] at G2
    have xa := ix_b a1 a2 a3 a4 a5
    have xb := ix_b b1 b2 b3 b4 b5
    have hdec : dec (a1 :: a2 :: a3 :: a4 :: a5 :: b1 :: b2 :: b3 :: b4 :: b5 :: R) out = if ix (v5 a1 a2 a3 a4 a5) < 0 then ([], 3) else if ix (v5 b1 b2 b3 b4 b5) < 0 then ([], 3) else dec R (out ++ [(16 * ix (v5 a1 a2 a3 a4 a5) + ix (v5 b1 b2 b3 b4 b5)) % 256]) := by rw [dec]
    rw [hdec]
    clear hdec hL1 hL2 hL3 hL
    generalize ix (v5 a1 a2 a3 a4 a5) = p at *
    generalize ix (v5 b1 b2 b3 b4 b5) = q at *
    refine Ev.step (f := fun k => bakeref2_GcrBytes.l1 k L out (-1) (A.length : Int) 0 0) (fun k => ?_) ?_
    · simp only [bakeref2_GcrBytes.l0]
      rw [w5, if_pos (by omega)]
    refine G1 _ ?_
    by_cases ha : p < 0
    · rw [if_pos ha]; exact Ev.pos ha (Ev.all fun k => rfl)
    · rw [if_neg ha]
      refine Ev.neg ha (Ev.pos (by decide) ?_)
      rw [w5]
      refine Ev.step (f := fun k => bakeref2_GcrBytes.l1 k L out p ((A.length + 5 : Nat) : Int) 0 0) (fun k => ?_) (G2 _ _ ?_)
      · simp only [bakeref2_GcrBytes.l0]
        rw [w5b, if_pos (by omega)]
      by_cases hb : q < 0
      · rw [if_pos hb]; exact Ev.pos hb (Ev.all fun k => rfl)
      · rw [if_neg hb]
        refine Ev.neg hb (Ev.neg ha (Ev.pos (by omega) ?_))
        rw [w5b]
        have wc : wrap64 ((wrap64 (16 * p)) + q) = 16 * p + q := by
          clear ih G1 G2 w5 w5b
          rw [w64 (16 * p) (by omega) (by omega), w64 _ (by omega) (by omega)]
        rw [wc]
        exact ih (out ++ [(16 * p + q) % 256]) (by rw [List.length_append, List.length_singleton]; omega)
theorem gcrBytes_ev (t : List Int) (c : Int) (ht : t.length ≤ 140737488355328) : Ev (fun k => bakeref2_GcrBytes.f k t c) (gcrBytesOf t c) := by
  unfold bakeref2_GcrBytes.f gcrBytesOf
  refine Ev.bind (counts_ev t c 3 ht) ?_
  by_cases h : (cellsOf t c 3).2 = 0
  · rw [if_pos h]
    have hn := cellsOf_40000 t c 3 h
    refine Ev.pos h (Ev.bind (unplaced3_ev _ hn (cellsOf_vals t c 3 h)) ?_)
    have hL3 := unp3_len (cellsOf t c 3).1 (cellsOf_vals t c 3 h)
    generalize (cellsOf t c 3).1.flatMap unp3 = L at hL3 ⊢
    unfold readOf
    by_cases h0 : L.length = 0
    · rw [if_pos h0]; exact Ev.pos (by omega) (Ev.all fun k => rfl)
    rw [if_neg h0]
    refine Ev.neg (by omega) ?_
    have e : Int.tmod (wrap64 ((L.length : Int) - 1)) 10 = (((L.length - 1) % 10 : Nat) : Int) := by rw [w64 _ (by omega) (by omega), Int.tmod_eq_emod_of_nonneg (by omega)]; omega
    by_cases h10 : (L.length - 1) % 10 = 0
    · rw [if_pos h10]
      refine Ev.pos (by rw [e]; omega) ?_
      by_cases hb : 20001 < L.length
      · rw [if_pos hb]; exact Ev.pos (by omega) (Ev.all fun k => rfl)
      · rw [if_neg hb]
        refine Ev.neg (by omega) ?_
        rcases nil_or_snoc L with hz | ⟨P, z, hz⟩
        · rw [hz] at h0; exact absurd rfl h0
        · have hd : L.dropLast = P := by rw [hz]; simp
          rw [hd]
          have hP : P.length = L.length - 1 := by rw [← hd, List.length_dropLast]
          exact c0_loop ((L.length - 1) / 10) L [] P z [] (by rw [hz]; simp) (by omega) (by omega) (by simp)
    · rw [if_neg h10]
      exact Ev.neg (by rw [e]; omega) (Ev.all fun k => rfl)
  · rw [if_neg h]
    exact Ev.neg h (Ev.all fun k => rfl)
end Go.Proofs.Ytmedmifkeliepaa.BkGcrWrites
