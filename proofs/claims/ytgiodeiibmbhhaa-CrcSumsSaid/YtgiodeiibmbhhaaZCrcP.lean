/-
  What the printed functions of package crc and the reference's Remainder come to, in plain words: the register of ZCrc. Conditions: bytes are from 0 to 255, the row is at most 2^47 long.
-/
import Derived.Test.YtgiodeiibmbhhaaZCrc
import Derived.Test.YtgiodeiibmbhhaaPCrcSumsx1
set_option linter.unusedVariables false
set_option linter.unusedSimpArgs false
namespace Go.Proofs.Ytgiodeiibmbhhaa.BkCrcSums
open Go Go.RowKit Go.Proofs.YtgiodeiibmbhhaaW.PrintWords Go.Proofs.YtgiodeiibmbhhaaW.PrintLast Go.Proofs.YtgiodeiibmbhhaaW.PrintMore Go.Proofs.Ytgiodeiibmbhhaa.PCrcSums Go.Proofs.Ytgiodeiibmbhhaa.Bk
theorem next_loop : ∀ (n : Nat) (x : Nat) (i : Int), i = 8 - (n : Int) → n ≤ 8 → x < 65536 → Ev (fun k => crc_Next.l0 k (x : Int) i) ((pN n x : Nat) : Int)
  | 0, x, i, hi, _, hx => Ev.step (f := fun _ => some ((pN 0 x : Nat) : Int)) (fun k => by simp only [crc_Next.l0]; rw [if_neg (by omega)]; rfl) (Ev.now _)
  | n + 1, x, i, hi, hn, hx => by
    refine Ev.step (fun k => ?_) (next_loop n (tN x false) (i + 1) (by omega) (by omega) (tN_lt _ _))
    have hr := round_p x hx
    simp only [crc_Next.l0]
    rw [if_pos (by omega), w64 (i + 1) (by omega) (by omega), ← hr]
    split <;> rfl
theorem next_ev (a c : Int) (h0 : 0 ≤ c) (h1 : c < 256) : Ev (fun k => crc_Next.f k a c) ((nx (a % 65536).toNat c.toNat : Nat) : Int) := by
  have hs : (a % 65536).toNat < 65536 := by omega
  have hx : (a % 65536).toNat ^^^ (c.toNat * 256) < 65536 := Nat.xor_lt_two_pow (n := 16) (by omega) (by omega)
  refine Ev.congr (fun k => ?_) (by rw [← pN_nx _ _ (by omega) hs]; exact next_loop 8 _ 0 (by omega) (by omega) hx)
  unfold crc_Next.f
  rw [mask64 a 16 (by decide) 65535 (by decide), w64 c (by omega) (by omega), w64 _ (by omega) (by omega)]
  rw [show a % 2 ^ 16 = (((a % 65536).toNat : Nat) : Int) by simp; omega, show c * 256 = ((c.toNat * 256 : Nat) : Int) by simp; omega, xor64 _ _ (by omega) (by omega)]
/-- the sum of bytes, from a register on -/
def sum (s : Nat) (l : List Int) : Nat := l.foldl (fun s c => nx s c.toNat) s
theorem sum_lt : ∀ (l : List Int) (s : Nat), s < 65536 → sum s l < 65536
  | [], s, h => h
  | c :: l, s, h => sum_lt l _ (nx_lt _ _ h)
theorem rem_bits : ∀ (n : Nat) (x : Nat) (c : Int) (i : Int) (l : List Int) (m j r : Int), i = (n : Int) - 1 → n ≤ 8 → x < 65536 → 0 ≤ c → c < 256 →
    Ev (fun k => bakeref2_Remainder.l0 k ((rN c.toNat n x : Nat) : Int) l m (wrap64 (j + 1))) r → Ev (fun k => bakeref2_Remainder.l1 k (x : Int) c i l m j) r
  | 0, x, c, i, l, m, j, r, hi, _, hx, h0, h1, h => Ev.step (fun k => by simp only [bakeref2_Remainder.l1]; rw [if_neg (by omega)]; rfl) h
  | n + 1, x, c, i, l, m, j, r, hi, hn, hx, h0, h1, h => by
    refine Ev.step (fun k => ?_) (rem_bits n (tN x (decide (c.toNat / 2 ^ n % 2 = 1))) c (i - 1) l m j r (by omega) (by omega) (tN_lt _ _) h0 h1 h)
    have hr := round_r x c.toNat n hx (by omega) (by omega)
    rw [show ((c.toNat : Nat) : Int) = c by omega, show ((n : Nat) : Int) = i by omega] at hr
    simp only [bakeref2_Remainder.l1]
    rw [if_pos (by omega), if_pos (by omega), w64 (i - 1) (by omega) (by omega), ← hr]
    split <;> rfl
theorem rem_loop : ∀ (suf pre : List Int) (x : Nat), x < 65536 → (∀ c ∈ suf, 0 ≤ c ∧ c < 256) → (pre ++ suf).length ≤ 140737488355328 →
    Ev (fun k => bakeref2_Remainder.l0 k (x : Int) (pre ++ suf) ((pre ++ suf).length : Int) (pre.length : Int)) ((sum x suf : Nat) : Int)
  | [], pre, x, hx, _, _ => Ev.step (f := fun _ => some ((sum x [] : Nat) : Int)) (fun k => by simp only [bakeref2_Remainder.l0]; rw [if_neg (by simp)]; rfl) (Ev.now _)
  | c :: suf, pre, x, hx, hb, hm => by
    have hc := hb c (List.mem_cons_self ..)
    have ih := rem_loop suf (pre ++ [c]) (nx x c.toNat) (nx_lt _ _ hx) (fun d hd => hb d (List.mem_cons_of_mem _ hd)) (by simpa using hm)
    rw [← snoc_mid] at ih
    have hl : (pre ++ c :: suf).length = pre.length + 1 + suf.length := by simp; omega
    refine Ev.step (fun k => ?_) (rem_bits 8 x c 7 (pre ++ c :: suf) ((pre ++ c :: suf).length : Int) (pre.length : Int) _ (by omega) (by omega) hx hc.1 hc.2 (by
      rw [w64 _ (by omega) (by omega)]
      rw [show (((pre ++ [c]).length : Nat) : Int) = (pre.length : Int) + 1 by simp] at ih
      exact ih))
    simp only [bakeref2_Remainder.l0]
    rw [if_pos (len_mid _ _ _), if_pos (by omega), if_pos (len_mid _ _ _), rd_mid _ _ _ _ rfl]
theorem rem_ev (a : Int) (l : List Int) (hb : ∀ c ∈ l, 0 ≤ c ∧ c < 256) (hm : l.length ≤ 140737488355328) : Ev (fun k => bakeref2_Remainder.f k a l) ((sum (a % 65536).toNat l : Nat) : Int) := by
  refine Ev.congr (fun k => ?_) (rem_loop l [] (a % 65536).toNat (by omega) hb hm)
  unfold bakeref2_Remainder.f
  rw [mask64 a 16 (by decide) 65535 (by decide), show a % 2 ^ 16 = (((a % 65536).toNat : Nat) : Int) by simp; omega]
  rfl
theorem sum16_loop : ∀ (suf pre : List Int) (x : Nat), x < 65536 → (∀ c ∈ suf, 0 ≤ c ∧ c < 256) → (pre ++ suf).length ≤ 140737488355328 →
    Ev (fun k => crc_Sum16.l0 k (x : Int) (pre ++ suf) ((pre ++ suf).length : Int) (pre.length : Int)) ((sum x suf : Nat) : Int)
  | [], pre, x, hx, _, _ => Ev.step (f := fun _ => some ((sum x [] : Nat) : Int)) (fun k => by simp only [crc_Sum16.l0]; rw [if_neg (by simp)]; rfl) (Ev.now _)
  | c :: suf, pre, x, hx, hb, hm => by
    have hc := hb c (List.mem_cons_self ..)
    have ih := sum16_loop suf (pre ++ [c]) (nx x c.toNat) (nx_lt _ _ hx) (fun d hd => hb d (List.mem_cons_of_mem _ hd)) (by simpa using hm)
    rw [← snoc_mid, show (((pre ++ [c]).length : Nat) : Int) = (pre.length : Int) + 1 by simp] at ih
    have hl : (pre ++ c :: suf).length = pre.length + 1 + suf.length := by simp; omega
    have hn := next_ev (x : Int) c hc.1 hc.2
    rw [show ((x : Int) % 65536).toNat = x by omega] at hn
    refine Ev.step (fun k => ?_) (Ev.bind (f := fun k t => crc_Sum16.l0 k t (pre ++ c :: suf) ((pre ++ c :: suf).length : Int) ((pre.length : Int) + 1)) hn ih)
    simp only [crc_Sum16.l0]
    rw [if_pos (len_mid _ _ _), if_pos (by omega), if_pos (len_mid _ _ _), rd_mid _ _ _ _ rfl, w64 _ (by omega) (by omega)]
theorem sum16_ev (l : List Int) (hb : ∀ c ∈ l, 0 ≤ c ∧ c < 256) (hm : l.length ≤ 140737488355328) : Ev (fun k => crc_Sum16.f k l) ((sum 65535 l : Nat) : Int) :=
  sum16_loop l [] 65535 (by omega) hb hm
end Go.Proofs.Ytgiodeiibmbhhaa.BkCrcSums
