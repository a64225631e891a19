/-
  CrcSums: for every row of bytes, every whole number and every byte: Next, Sum16, Xor and Add of package crc return what the law's own division, exclusive or and sum return. No condition beyond the row's own.
-/
import Derived.Test.YtgiodeiibmbhhaaZCrcP
set_option linter.unusedVariables false
set_option linter.unusedSimpArgs false
namespace Go.Proofs.Ytgiodeiibmbhhaa.Pure
open Go Go.RowKit Go.Proofs.YtgiodeiibmbhhaaW.PrintWords Go.Proofs.YtgiodeiibmbhhaaW.PrintLast Go.Proofs.YtgiodeiibmbhhaaW.PrintMore Go.Proofs.Ytgiodeiibmbhhaa.PCrcSums Go.Proofs.Ytgiodeiibmbhhaa.Bk Go.Proofs.Ytgiodeiibmbhhaa.BkCrcSums
def xorN (s : Nat) (l : List Int) : Nat := l.foldl (fun s c => s ^^^ c.toNat) s
def addN (s : Int) (l : List Int) : Int := l.foldl (fun s c => s + c) s
theorem begun_ev : Ev (fun k => bakelaw2_crcBegun.f k) true := Ev.of bakelaw2_crcBegun.mono (k := 40) (by decide +kernel)
theorem xor_loop : ∀ (suf pre : List Int) (x : Nat), x < 256 → (∀ c ∈ suf, 0 ≤ c ∧ c < 256) → (pre ++ suf).length ≤ 140737488355328 →
    Ev (fun k => crc_Xor.l0 k (x : Int) (pre ++ suf) ((pre ++ suf).length : Int) (pre.length : Int)) ((xorN x suf : Nat) : Int)
  | [], pre, x, hx, _, _ => Ev.step (f := fun _ => some ((xorN x [] : Nat) : Int)) (fun k => by simp only [crc_Xor.l0]; rw [if_neg (by simp)]; rfl) (Ev.now _)
  | c :: suf, pre, x, hx, hb, hm => by
    have hc := hb c (List.mem_cons_self ..)
    have hlt : x ^^^ c.toNat < 256 := Nat.xor_lt_two_pow (n := 8) (by omega) (by omega)
    have ih := xor_loop suf (pre ++ [c]) (x ^^^ c.toNat) hlt (fun d hd => hb d (List.mem_cons_of_mem _ hd)) (by simpa using hm)
    rw [← snoc_mid, show (((pre ++ [c]).length : Nat) : Int) = (pre.length : Int) + 1 by simp] at ih
    have hl : (pre ++ c :: suf).length = pre.length + 1 + suf.length := by simp; omega
    refine Ev.step (fun k => ?_) ih
    simp only [crc_Xor.l0]
    rw [if_pos (len_mid _ _ _), if_pos (by omega), if_pos (len_mid _ _ _), rd_mid _ _ _ _ rfl, w64 _ (by omega) (by omega), w64 _ (by omega) (by omega)]
    rw [show (c : Int) = ((c.toNat : Nat) : Int) by omega, xor64 _ _ (by omega) (by omega)]
    rfl
theorem add_loop : ∀ (suf pre : List Int) (s : Int), 0 ≤ s → (∀ c ∈ suf, 0 ≤ c ∧ c < 256) → s + 256 * (suf.length : Int) ≤ 36028797018963968 → (pre ++ suf).length ≤ 140737488355328 →
    Ev (fun k => crc_Add.l0 k s (pre ++ suf) ((pre ++ suf).length : Int) (pre.length : Int)) (addN s suf % 256)
  | [], pre, s, hs, _, _, _ => Ev.step (f := fun _ => some (addN s [] % 256)) (fun k => by simp only [crc_Add.l0]; rw [if_neg (by simp), mask64 _ 8 (by decide) 255 (by decide)]; rfl) (Ev.now _)
  | c :: suf, pre, s, hs, hb, hu, hm => by
    have hc := hb c (List.mem_cons_self ..)
    have hl1 : (c :: suf).length = suf.length + 1 := rfl
    have ih := add_loop suf (pre ++ [c]) (s + c) (by omega) (fun d hd => hb d (List.mem_cons_of_mem _ hd)) (by omega) (by simpa using hm)
    rw [← snoc_mid, show (((pre ++ [c]).length : Nat) : Int) = (pre.length : Int) + 1 by simp] at ih
    have hl : (pre ++ c :: suf).length = pre.length + 1 + suf.length := by simp; omega
    refine Ev.step (fun k => ?_) ih
    simp only [crc_Add.l0]
    rw [if_pos (len_mid _ _ _), if_pos (by omega), if_pos (len_mid _ _ _), rd_mid _ _ _ _ rfl, w64 c (by omega) (by omega), w64 (s + c) (by omega) (by omega), w64 _ (by omega) (by omega)]
theorem addN_mod : ∀ (l : List Int) (s : Int), addN s l % 256 = addN (s % 256) l % 256
  | [], s => by simp [addN]
  | c :: l, s => by
    have h1 := addN_mod l (s + c)
    have h2 := addN_mod l (s % 256 + c)
    show addN (s + c) l % 256 = addN (s % 256 + c) l % 256
    rw [h1, h2, Int.emod_add_emod]
theorem law_loop (x0 : List Int) (x1 x2 : Int) (tail : Int → Int → Nat → Option Bool)
    (hend : ∀ k x7 x8 x11 x12 x13, ¬ x13 < x12 → bakelaw2_CrcSums.l0 (k + 1) x0 x1 x2 x7 x8 x11 x12 x13 = tail x7 x8 k) :
    ∀ (suf pre : List Int) (x : Nat) (s : Int), x < 256 → 0 ≤ s → s < 256 → (∀ c ∈ suf, 0 ≤ c ∧ c < 256) → (pre ++ suf).length ≤ 140737488355328 →
    Ev (fun k => tail ((xorN x suf : Nat) : Int) (addN s suf % 256) k) true →
    Ev (fun k => bakelaw2_CrcSums.l0 k x0 x1 x2 (x : Int) s (pre ++ suf) ((pre ++ suf).length : Int) (pre.length : Int)) true
  | [], pre, x, s, hx, hs, hs2, _, _, h => by
    refine Ev.step (fun k => hend k _ _ _ _ _ (by simp)) ?_
    have e : addN s [] % 256 = s := by show s % 256 = s; omega
    rw [e] at h
    exact h
  | c :: suf, pre, x, s, hx, hs, hs2, hb, hm, h => by
    have hc := hb c (List.mem_cons_self ..)
    have hlt : x ^^^ c.toNat < 256 := Nat.xor_lt_two_pow (n := 8) (by omega) (by omega)
    have e : addN s (c :: suf) % 256 = addN ((s + c) % 256) suf % 256 := addN_mod suf (s + c)
    rw [e] at h
    have ih := law_loop x0 x1 x2 tail hend suf (pre ++ [c]) (x ^^^ c.toNat) ((s + c) % 256) hlt (by omega) (by omega) (fun d hd => hb d (List.mem_cons_of_mem _ hd)) (by simpa using hm) h
    rw [← snoc_mid, show (((pre ++ [c]).length : Nat) : Int) = (pre.length : Int) + 1 by simp] at ih
    have hl : (pre ++ c :: suf).length = pre.length + 1 + suf.length := by simp; omega
    refine Ev.step (fun k => ?_) ih
    rw [bakelaw2_CrcSums.l0, if_pos (len_mid _ _ _), if_pos (by omega), if_pos (len_mid _ _ _), rd_mid _ _ _ _ rfl, w64 c (by omega) (by omega), w64 (s + c) (by omega) (by omega), w64 _ (by omega) (by omega), Int.tmod_eq_emod_of_nonneg (by omega)]
    rw [show bits .xor .u8 (x : Int) c = ((x ^^^ c.toNat : Nat) : Int) by conv => lhs; rw [show (c : Int) = ((c.toNat : Nat) : Int) by omega, xor8 _ _ (by omega) (by omega)]]
theorem CrcSums : bakelaw2_CrcSums.Pure := by
  intro l a c hm hy hb ha hc
  have hbl := u8_of hb
  have hc := u8_one hc
  have hl : l.length ≤ 140737488355328 := by omega
  have xlt : xorN 0 l < 256 := by
    have : ∀ (l : List Int) (s : Nat), s < 256 → (∀ c ∈ l, 0 ≤ c ∧ c < 256) → xorN s l < 256 := by
      intro l
      induction l with
      | nil => intro s h _; exact h
      | cons d l ih => intro s h hd; exact ih _ (Nat.xor_lt_two_pow (n := 8) (by omega) (by have := hd d (List.mem_cons_self ..); omega)) (fun e he => hd e (List.mem_cons_of_mem _ he))
    exact this l 0 (by omega) hbl
  have e1 : sum (a % 65536).toNat [c] = nx (a % 65536).toNat c.toNat := rfl
  have hrem1 := rem_ev a [c] (by intro d hd; simp only [List.mem_singleton] at hd; subst hd; exact hc) (by simp)
  rw [e1] at hrem1
  have main : Ev (fun k => bakelaw2_CrcSums.f k l a c) true := by
    unfold bakelaw2_CrcSums.f
    refine law_loop l a c (fun x7 x8 k => _) (fun k x7 x8 x11 x12 x13 h => by rw [bakelaw2_CrcSums.l0, if_neg h]) l [] 0 0 (by omega) (by omega) (by omega) hbl hl ?_
    refine Ev.bind begun_ev ?_
    simp only [if_true]
    refine Ev.bind (next_ev a c hc.1 hc.2) ?_
    refine Ev.bind hrem1 ?_
    simp only [if_true]
    refine Ev.bind (sum16_ev l hbl hl) ?_
    have h65 := rem_ev 65535 l hbl hl
    rw [show ((65535 : Int) % 65536).toNat = 65535 by decide] at h65
    refine Ev.bind h65 ?_
    simp only [if_true]
    refine Ev.bind (show Ev (fun k => crc_Xor.f k l) ((xorN 0 l : Nat) : Int) from xor_loop l [] 0 (by omega) hbl hl) ?_
    rw [w64 _ (by omega) (by omega)]
    simp only [if_true]
    refine Ev.bind (show Ev (fun k => crc_Add.f k l) (addN 0 l % 256) from add_loop l [] 0 (by omega) hbl (by omega) hl) ?_
    simp only [beq_self_eq_true]
    exact Ev.now true
  exact main.rounds
end Go.Proofs.Ytgiodeiibmbhhaa.Pure
