/-
  Plain models of chapter 25: bits of bytes in groups of five, distances between places. No program in sight.
-/
import Derived.Test.YtmedmifkeliepaaZFm
set_option linter.unusedVariables false
set_option linter.unusedSimpArgs false
namespace Go.Proofs.Ytmedmifkeliepaa.Bk
open Go Go.RowKit Go.Proofs.YtmedmifkeliepaaW.PrintWords Go.Proofs.YtmedmifkeliepaaW.PrintLast Go.Proofs.YtmedmifkeliepaaW.PrintMore
def codes : List Int := [9, 10, 11, 13, 14, 15, 18, 19, 21, 22, 23, 25, 26, 27, 29, 30]
def b5 (g : Int) : List Bool := [Go.bits .and .i64 g 16 != 0, Go.bits .and .i64 g 8 != 0, Go.bits .and .i64 g 4 != 0, Go.bits .and .i64 g 2 != 0, Go.bits .and .i64 g 1 != 0]
def gB (c : Int) : List Bool := b5 (rd codes (c / 16)) ++ b5 (rd codes (c % 16))
def grp (c : Int) : Int := Go.bits .or .i64 (wrap64 ((rd codes (c / 16)) * 32)) (rd codes (Go.bits .and .u8 c 15))
def lowB (g : Int) : Nat → List Bool
  | 0 => []
  | n + 1 => decide (Go.bits .and .i64 (shr .i64 g (n : Int)) 1 = 1) :: lowB g n
def stp : Int → List Bool → List Int × Int
  | g, [] => ([], g)
  | g, true :: l => (g :: (stp 1 l).1, (stp 1 l).2)
  | g, false :: l => stp (g + 1) l
set_option maxRecDepth 100000 in
theorem gB_all : ∀ i : Fin 256, lowB (grp (i.1 : Int)) 10 = gB (i.1 : Int) ∧ 0 ≤ Go.bits .and .u8 (i.1 : Int) 15 ∧ Go.bits .and .u8 (i.1 : Int) 15 < 16 := by decide +kernel
set_option maxRecDepth 100000 in
theorem stp_all : ∀ i : Fin 256, ∀ g : Fin 4, 1 ≤ g.1 → (stp (g.1 : Int) (gB (i.1 : Int))).1.all okN = true ∧ 1 ≤ (stp (g.1 : Int) (gB (i.1 : Int))).2 ∧ (stp (g.1 : Int) (gB (i.1 : Int))).2 ≤ 3 := by decide +kernel
theorem fin256 {c : Int} (h : 0 ≤ c ∧ c < 256) : ∃ i : Fin 256, (i.1 : Int) = c := ⟨⟨c.toNat, by omega⟩, by show ((c.toNat : Nat) : Int) = c; omega⟩
theorem gB_of {c : Int} (h : 0 ≤ c ∧ c < 256) : lowB (grp c) 10 = gB c ∧ 0 ≤ Go.bits .and .u8 c 15 ∧ Go.bits .and .u8 c 15 < 16 := by
  obtain ⟨i, rfl⟩ := fin256 h; exact gB_all i
theorem stp_of {c g : Int} (h : 0 ≤ c ∧ c < 256) (hg : 1 ≤ g ∧ g ≤ 3) : (stp g (gB c)).1.all okN = true ∧ 1 ≤ (stp g (gB c)).2 ∧ (stp g (gB c)).2 ≤ 3 := by
  obtain ⟨i, rfl⟩ := fin256 h
  obtain ⟨j, rfl⟩ : ∃ j : Fin 4, (j.1 : Int) = g := ⟨⟨g.toNat, by omega⟩, by show ((g.toNat : Nat) : Int) = g; omega⟩
  exact stp_all i j (by omega)
theorem gB_length (c : Int) : (gB c).length = 10 := rfl
theorem gl_length (b : List Int) : (b.flatMap gB).length = 10 * b.length := by
  induction b with
  | nil => rfl
  | cons c b ih => rw [List.flatMap_cons, List.length_append, ih, gB_length, List.length_cons]; omega
theorem dist_stp : ∀ (B rest : List Bool) (g : Int), dist g (B ++ rest) = (stp g B).1 ++ dist (stp g B).2 rest
  | [], rest, g => by simp [stp]
  | true :: B, rest, g => by simp only [List.cons_append, dist, stp, dist_stp B rest 1]
  | false :: B, rest, g => by simp only [List.cons_append, dist, stp, dist_stp B rest (g + 1)]
theorem stp_len : ∀ (B : List Bool) (g : Int), 1 ≤ g → (stp g B).1.length ≤ B.length ∧ 1 ≤ (stp g B).2 ∧ (stp g B).2 ≤ g + B.length
  | [], g, h => by simp [stp]; omega
  | true :: B, g, h => by
    have := stp_len B 1 (by omega)
    simp only [stp, List.length_cons]; omega
  | false :: B, g, h => by
    have := stp_len B (g + 1) (by omega)
    simp only [stp, List.length_cons]; omega
theorem dist_ok : ∀ (b : List Int) (g : Int), (∀ c ∈ b, 0 ≤ c ∧ c < 256) → 1 ≤ g ∧ g ≤ 3 → (dist g (b.flatMap gB ++ [true])).all okN = true
  | [], g, _, hg => by
    simp only [List.flatMap_nil, List.nil_append, dist, List.all_cons, List.all_nil, Bool.and_true, okN, decide_eq_true_eq]; omega
  | c :: b, g, hb, hg => by
    have hs := stp_of (hb c (by simp)) hg
    have ih := dist_ok b (stp g (gB c)).2 (fun x hx => hb x (by simp [hx])) hs.2
    rw [List.flatMap_cons, List.append_assoc, dist_stp, List.all_append, hs.1, ih]; rfl
def gcrOf (b : List Int) (c : Int) : List Int × Int := if 2000 < b.length then ([], 2) else pulsesOf (dist 1 (b.flatMap gB ++ [true])) c
theorem gcr_same (b : List Int) (c : Int) (hb : ∀ c ∈ b, 0 ≤ c ∧ c < 256) (h : b.length ≤ 2000) : placedOf (b.flatMap gB ++ [true]) c = pulsesOf (dist 1 (b.flatMap gB ++ [true])) c := by
  have hok := dist_ok b 1 hb (by omega)
  have hl : (dist 1 (b.flatMap gB ++ [true])).length ≤ 40000 := by
    have := dist_length (b.flatMap gB ++ [true]) 1
    rw [List.length_append, gl_length, List.length_singleton] at this
    omega
  unfold placedOf pulsesOf
  rw [pulL_all, if_pos hok]
  simp only [if_neg (show ¬ 40000 < (dist 1 (b.flatMap gB ++ [true])).length by omega), List.nil_append]
end Go.Proofs.Ytmedmifkeliepaa.Bk
