/-
  What the functions that CrcSeals uses come to, in plain words (models of ZCrc, ZSeal, ZBurst). Conditions stand in each lemma.
-/
import Derived.Test.YtgiodeiibmbhhaaZBurst
import Derived.Test.YtgiodeiibmbhhaaPCrcSealsx0
import Derived.Test.YtgiodeiibmbhhaaPCrcSealsx1
import Derived.Test.YtgiodeiibmbhhaaPCrcSealsx2
import Derived.Test.YtgiodeiibmbhhaaPCrcSealsx3
set_option linter.unusedVariables false
set_option linter.unusedSimpArgs false
namespace Go.Proofs.Ytgiodeiibmbhhaa.BkCrcSeals
open Go Go.RowKit Go.Proofs.YtgiodeiibmbhhaaW.PrintWords Go.Proofs.YtgiodeiibmbhhaaW.PrintLast Go.Proofs.YtgiodeiibmbhhaaW.PrintMore Go.Proofs.Ytgiodeiibmbhhaa.PCrcSeals Go.Proofs.Ytgiodeiibmbhhaa.Bk
theorem next_loop : ∀ (n : Nat) (x : Nat) (i : Int), i = 8 - (n : Int) → n ≤ 8 → x < 65536 → Ev (fun k => crc_Next.l0 k (x : Int) i) ((pN n x : Nat) : Int)
  | 0, x, i, hi, _, hx => Ev.step (f := fun _ => some ((pN 0 x : Nat) : Int)) (fun k => by simp only [crc_Next.l0]; rw [if_neg (by omega)]; rfl) (Ev.now _)
  | n + 1, x, i, hi, hn, hx => by
    refine Ev.step (fun k => ?_) (next_loop n (tN x false) (i + 1) (by omega) (by omega) (tN_lt _ _))
    have hr := round_p x hx
    simp only [crc_Next.l0]
    rw [if_pos (by omega), w64 (i + 1) (by omega) (by omega), ← hr]
    split <;> rfl
theorem next_ev (a c : Int) (h0 : 0 ≤ c) (h1 : c < 256) : Ev (fun k => crc_Next.f k a c) ((nx (a % 65536).toNat c.toNat : Nat) : Int) := by
  have hs : (a % 65536).toNat < 65536 := by omega
  have hx : (a % 65536).toNat ^^^ (c.toNat * 256) < 65536 := Nat.xor_lt_two_pow (n := 16) (by omega) (by omega)
  refine Ev.congr (fun k => ?_) (by rw [← pN_nx _ _ (by omega) hs]; exact next_loop 8 _ 0 (by omega) (by omega) hx)
  unfold crc_Next.f
  rw [mask64 a 16 (by decide) 65535 (by decide), w64 c (by omega) (by omega), w64 _ (by omega) (by omega)]
  rw [show a % 2 ^ 16 = (((a % 65536).toNat : Nat) : Int) by simp; omega, show c * 256 = ((c.toNat * 256 : Nat) : Int) by simp; omega, xor64 _ _ (by omega) (by omega)]
theorem rem_bits : ∀ (n : Nat) (x : Nat) (c : Int) (i : Int) (l : List Int) (m j r : Int), i = (n : Int) - 1 → n ≤ 8 → x < 65536 → 0 ≤ c → c < 256 →
    Ev (fun k => bakeref2_Remainder.l0 k ((rN c.toNat n x : Nat) : Int) l m (wrap64 (j + 1))) r → Ev (fun k => bakeref2_Remainder.l1 k (x : Int) c i l m j) r
  | 0, x, c, i, l, m, j, r, hi, _, hx, h0, h1, h => Ev.step (fun k => by simp only [bakeref2_Remainder.l1]; rw [if_neg (by omega)]; rfl) h
  | n + 1, x, c, i, l, m, j, r, hi, hn, hx, h0, h1, h => by
    refine Ev.step (fun k => ?_) (rem_bits n (tN x (decide (c.toNat / 2 ^ n % 2 = 1))) c (i - 1) l m j r (by omega) (by omega) (tN_lt _ _) h0 h1 h)
    have hr := round_r x c.toNat n hx (by omega) (by omega)
    rw [show ((c.toNat : Nat) : Int) = c by omega, show ((n : Nat) : Int) = i by omega] at hr
    simp only [bakeref2_Remainder.l1]
    rw [if_pos (by omega), if_pos (by omega), w64 (i - 1) (by omega) (by omega), ← hr]
    split <;> rfl
theorem rem_loop : ∀ (suf pre : List Int) (x : Nat), x < 65536 → (∀ c ∈ suf, 0 ≤ c ∧ c < 256) → (pre ++ suf).length ≤ 140737488355328 →
    Ev (fun k => bakeref2_Remainder.l0 k (x : Int) (pre ++ suf) ((pre ++ suf).length : Int) (pre.length : Int)) ((sumS x suf : Nat) : Int)
  | [], pre, x, hx, _, _ => Ev.step (f := fun _ => some ((sumS x [] : Nat) : Int)) (fun k => by simp only [bakeref2_Remainder.l0]; rw [if_neg (by simp)]; rfl) (Ev.now _)
  | c :: suf, pre, x, hx, hb, hm => by
    have hc := hb c (List.mem_cons_self ..)
    have ih := rem_loop suf (pre ++ [c]) (nx x c.toNat) (nx_lt _ _ hx) (fun d hd => hb d (List.mem_cons_of_mem _ hd)) (by simpa using hm)
    rw [← snoc_mid] at ih
    have hl : (pre ++ c :: suf).length = pre.length + 1 + suf.length := by simp; omega
    refine Ev.step (fun k => ?_) (rem_bits 8 x c 7 (pre ++ c :: suf) ((pre ++ c :: suf).length : Int) (pre.length : Int) _ (by omega) (by omega) hx hc.1 hc.2 (by
      rw [w64 _ (by omega) (by omega)]
      rw [show (((pre ++ [c]).length : Nat) : Int) = (pre.length : Int) + 1 by simp] at ih
      exact ih))
    simp only [bakeref2_Remainder.l0]
    rw [if_pos (len_mid _ _ _), if_pos (by omega), if_pos (len_mid _ _ _), rd_mid _ _ _ _ rfl]
theorem rem_ev (a : Int) (l : List Int) (hb : ∀ c ∈ l, 0 ≤ c ∧ c < 256) (hm : l.length ≤ 140737488355328) : Ev (fun k => bakeref2_Remainder.f k a l) ((sumS (a % 65536).toNat l : Nat) : Int) := by
  refine Ev.congr (fun k => ?_) (rem_loop l [] (a % 65536).toNat (by omega) hb hm)
  unfold bakeref2_Remainder.f
  rw [mask64 a 16 (by decide) 65535 (by decide), show a % 2 ^ 16 = (((a % 65536).toNat : Nat) : Int) by simp; omega]
  rfl
theorem sum16_loop : ∀ (suf pre : List Int) (x : Nat), x < 65536 → (∀ c ∈ suf, 0 ≤ c ∧ c < 256) → (pre ++ suf).length ≤ 140737488355328 →
    Ev (fun k => crc_Sum16.l0 k (x : Int) (pre ++ suf) ((pre ++ suf).length : Int) (pre.length : Int)) ((sumS x suf : Nat) : Int)
  | [], pre, x, hx, _, _ => Ev.step (f := fun _ => some ((sumS x [] : Nat) : Int)) (fun k => by simp only [crc_Sum16.l0]; rw [if_neg (by simp)]; rfl) (Ev.now _)
  | c :: suf, pre, x, hx, hb, hm => by
    have hc := hb c (List.mem_cons_self ..)
    have ih := sum16_loop suf (pre ++ [c]) (nx x c.toNat) (nx_lt _ _ hx) (fun d hd => hb d (List.mem_cons_of_mem _ hd)) (by simpa using hm)
    rw [← snoc_mid, show (((pre ++ [c]).length : Nat) : Int) = (pre.length : Int) + 1 by simp] at ih
    have hl : (pre ++ c :: suf).length = pre.length + 1 + suf.length := by simp; omega
    have hn := next_ev (x : Int) c hc.1 hc.2
    rw [show ((x : Int) % 65536).toNat = x by omega] at hn
    refine Ev.step (fun k => ?_) (Ev.bind (f := fun k t => crc_Sum16.l0 k t (pre ++ c :: suf) ((pre ++ c :: suf).length : Int) ((pre.length : Int) + 1)) hn ih)
    simp only [crc_Sum16.l0]
    rw [if_pos (len_mid _ _ _), if_pos (by omega), if_pos (len_mid _ _ _), rd_mid _ _ _ _ rfl, w64 _ (by omega) (by omega)]
theorem sum16_ev (l : List Int) (hb : ∀ c ∈ l, 0 ≤ c ∧ c < 256) (hm : l.length ≤ 140737488355328) : Ev (fun k => crc_Sum16.f k l) ((sumS 65535 l : Nat) : Int) :=
  sum16_loop l [] 65535 (by omega) hb hm
theorem slices_Equal_byte_byte_loop (l r : List Int) (hm : l.length ≤ 140737488355328) : ∀ (suf suf' pre : List Int), l = pre ++ suf → r = pre ++ suf' → suf.length = suf'.length →
    Ev (fun k => slices_Equal_byte_byte.l0 k l r (l.length : Int) (pre.length : Int)) (decide (suf = suf'))
  | [], [], pre, hl, hr, _ => Ev.done fun k => by simp only [slices_Equal_byte_byte.l0]; rw [if_neg (at_end hl)]; rfl
  | [], _ :: _, _, _, _, h => by simp at h
  | _ :: _, [], _, _, _, h => by simp at h
  | x :: suf, y :: suf', pre, hl, hr, h => by
    have a := at_mid hl hm
    have hlen : l.length = r.length := by rw [hl, hr]; simp at h ⊢; exact h
    have b := at_mid hr (by omega)
    by_cases e : x = y
    · subst e
      have ih := slices_Equal_byte_byte_loop l r hm suf suf' (pre ++ [x]) (next_mid hl) (next_mid hr) (by simpa using h)
      have e2 : decide (x :: suf = x :: suf') = decide (suf = suf') := by simp
      rw [e2]
      refine Ev.step (fun k => ?_) ih
      simp only [slices_Equal_byte_byte.l0]
      rw [if_pos a.2.1, if_pos a.1, if_pos a.2.1, if_pos b.2.1, a.2.2.1, b.2.2.1, if_pos rfl, a.2.2.2]
    · refine Ev.done fun k => ?_
      simp only [slices_Equal_byte_byte.l0]
      rw [if_pos a.2.1, if_pos a.1, if_pos a.2.1, if_pos b.2.1, a.2.2.1, b.2.2.1, if_neg e]
      simp [e]
theorem slices_Equal_byte_byte_ev (l r : List Int) (hm : l.length ≤ 140737488355328) : Ev (fun k => slices_Equal_byte_byte.f k l r) (decide (l = r)) := by
  by_cases h : l.length = r.length
  · refine Ev.congr (fun k => ?_) (slices_Equal_byte_byte_loop l r hm l r [] rfl rfl h)
    unfold slices_Equal_byte_byte.f
    rw [if_pos (by omega)]; rfl
  · refine Ev.all fun k => ?_
    unfold slices_Equal_byte_byte.f
    rw [if_neg (by omega)]
    have : ¬ l = r := fun e => h (by rw [e])
    simp [this]
theorem slices_Equal_bool_bool_loop (l r : List Bool) (hm : l.length ≤ 140737488355328) : ∀ (suf suf' pre pre' : List Bool), l = pre ++ suf → r = pre' ++ suf' → pre.length = pre'.length → suf.length = suf'.length →
    Ev (fun k => slices_Equal_bool_bool.l0 k l r (l.length : Int) (pre.length : Int)) (decide (suf = suf'))
  | [], [], pre, pre', hl, hr, _, _ => Ev.done fun k => by simp only [slices_Equal_bool_bool.l0]; rw [if_neg (at_end hl)]; rfl
  | [], _ :: _, _, _, _, _, _, h => by simp at h
  | _ :: _, [], _, _, _, _, _, h => by simp at h
  | x :: suf, y :: suf', pre, pre', hl, hr, hp, h => by
    have a := at_midB false hl hm
    have g1 := len_mid' hl
    have g2 := len_mid' hr
    have hs : suf.length = suf'.length := by simpa using h
    have b := at_midB false hr (by omega)
    rw [← hp] at b
    by_cases e : x = y
    · subst e
      have ih := slices_Equal_bool_bool_loop l r hm suf suf' (pre ++ [x]) (pre' ++ [x]) (next_mid hl) (next_mid hr) (by simp [hp]) hs
      have e2 : decide (x :: suf = x :: suf') = decide (suf = suf') := by simp
      rw [e2]
      refine Ev.step (fun k => ?_) ih
      simp only [slices_Equal_bool_bool.l0]
      rw [if_pos a.2.1, if_pos a.1, if_pos a.2.1, if_pos b.2.1, a.2.2.1, b.2.2.1, if_neg (by simp), a.2.2.2]
    · refine Ev.done fun k => ?_
      simp only [slices_Equal_bool_bool.l0]
      rw [if_pos a.2.1, if_pos a.1, if_pos a.2.1, if_pos b.2.1, a.2.2.1, b.2.2.1, if_pos (by simpa using e)]
      simp [e]
theorem slices_Equal_bool_bool_ev (l r : List Bool) (hm : l.length ≤ 140737488355328) : Ev (fun k => slices_Equal_bool_bool.f k l r) (decide (l = r)) := by
  by_cases h : l.length = r.length
  · refine Ev.congr (fun k => ?_) (slices_Equal_bool_bool_loop l r hm l r [] [] rfl rfl rfl h)
    unfold slices_Equal_bool_bool.f
    rw [if_pos (by omega)]; rfl
  · refine Ev.all fun k => ?_
    unfold slices_Equal_bool_bool.f
    rw [if_neg (by omega)]
    have : ¬ l = r := fun e => h (by rw [e])
    simp [this]
theorem i256 (s : Nat) (h : s < 65536) : ((s : Int) / 256) % 256 = ((s / 256 : Nat) : Int) ∧ (s : Int) % 256 = ((s % 256 : Nat) : Int) := by omega
theorem seal_ev (l : List Int) (hb : ∀ c ∈ l, 0 ≤ c ∧ c < 256) (hm : l.length ≤ 140737488351232) : Ev (fun k => crc_Seal.f k l) (l ++ tail2 (sumS 65535 l)) := by
  have hs := sumS_lt l 65535 (by omega)
  have e := i256 _ hs
  unfold crc_Seal.f
  refine Ev.bind (sum16_ev l hb (by omega)) (Ev.all fun k => ?_)
  rw [e.1, e.2]
  simp only [Option.bind_some, List.nil_append, List.length_nil, List.length_cons]
  rw [if_pos (by omega), if_pos (by omega)]
  rfl
theorem clone_some (l : List Int) (hm : l.length ≤ 140737488351232) : slices_Clone_byte_byte.f l = some l := by
  unfold slices_Clone_byte_byte.f
  simp only [Option.bind_some, List.nil_append, List.length_nil]
  rw [if_pos (by omega)]
theorem sealed_ev (l : List Int) (hb : ∀ c ∈ l, 0 ≤ c ∧ c < 256) (hm : l.length ≤ 140737488351232) : Ev (fun k => bakeref2_Sealed.f k l) (l ++ tail2 (sumS 65535 l)) := by
  have hs := sumS_lt l 65535 (by omega)
  have e := i256 _ hs
  have h := rem_ev 65535 l hb (by omega)
  rw [show ((65535 : Int) % 65536).toNat = 65535 by decide] at h
  unfold bakeref2_Sealed.f
  refine Ev.bind h (Ev.all fun k => ?_)
  rw [clone_some l hm]
  simp only [Option.bind_some, List.length_cons, List.length_nil]
  rw [if_pos (by omega), Int.tdiv_eq_ediv_of_nonneg (by omega), Int.tmod_eq_emod_of_nonneg (by omega), w64 _ (by omega) (by omega), e.1]
  rw [show (((sumS 65535 l : Nat) : Int) % 256) % 256 = ((sumS 65535 l % 256 : Nat) : Int) by omega]
  rfl
def openL (b : List Int) : List Int × Bool := if b.length < 2 then ([], false) else if sumS 65535 b = 0 then (b.take (b.length - 2), true) else ([], false)
theorem open_ev (b : List Int) (hb : ∀ c ∈ b, 0 ≤ c ∧ c < 256) (hm : b.length ≤ 140737488351232) : Ev (fun k => crc_Open.f k b) (openL b) := by
  unfold crc_Open.f openL
  by_cases h : b.length < 2
  · rw [if_pos h]; exact Ev.pos (by omega) (Ev.all fun k => rfl)
  · rw [if_neg h]
    refine Ev.neg (by omega) (Ev.bind (sum16_ev b hb (by omega)) ?_)
    have w : wrap64 ((b.length : Int) - 2) = ((b.length - 2 : Nat) : Int) := by rw [w64 _ (by omega) (by omega)]; omega
    by_cases h0 : sumS 65535 b = 0
    · rw [if_pos h0]
      refine Ev.pos (by omega) (Ev.all fun k => ?_)
      rw [w, Int.toNat_natCast]
      simp only [Option.bind_some, List.nil_append, List.length_nil]
      rw [if_pos (by omega), if_pos (by omega), if_pos (by rw [List.length_take]; omega)]
    · rw [if_neg h0]
      exact Ev.neg (by omega) (Ev.all fun k => rfl)
theorem unsealed_ev (b : List Int) (hb : ∀ c ∈ b, 0 ≤ c ∧ c < 256) (hm : b.length ≤ 140737488351232) : Ev (fun k => bakeref2_Unsealed.f k b) (openL b) := by
  unfold bakeref2_Unsealed.f openL
  by_cases h : b.length < 2
  · rw [if_pos h]
    exact Ev.pos (by rw [w64 _ (by omega) (by omega)]; omega) (Ev.all fun k => rfl)
  · rw [if_neg h]
    have w : wrap64 ((b.length : Int) - 2) = ((b.length - 2 : Nat) : Int) := by rw [w64 _ (by omega) (by omega)]; omega
    simp only [w, Int.toNat_natCast]
    refine Ev.neg (by omega) (Ev.pos (by omega) (Ev.pos (by omega) ?_))
    obtain ⟨p, u, v, rfl⟩ : ∃ p u v, b = p ++ [u, v] := by
      rcases nil_or_snoc b with rfl | ⟨p, v, rfl⟩
      · simp at h
      · rcases nil_or_snoc p with rfl | ⟨q, u, rfl⟩
        · simp at h
        · exact ⟨q, u, v, by simp⟩
    have hl : (p ++ [u, v]).length - 2 = p.length := by simp
    rw [hl, List.take_left']
    · have hp : ∀ c ∈ p, 0 ≤ c ∧ c < 256 := fun c hc => hb c (by simp [hc])
      have hpl : p.length ≤ 140737488351232 := by simp at hm; omega
      have hu := hb u (by simp)
      have hv := hb v (by simp)
      refine Ev.bind (sealed_ev p hp hpl) (Ev.bind (slices_Equal_byte_byte_ev _ _ (by simp [tail2]; omega)) ?_)
      have hz := sum_seal p u v hu hv
      by_cases h0 : sumS 65535 (p ++ [u, v]) = 0
      · have e : decide (p ++ tail2 (sumS 65535 p) = p ++ [u, v]) = true := by rw [decide_eq_true_eq, hz.1 h0]
        rw [e, if_pos h0]
        simp only [if_true]
        refine Ev.all fun k => ?_
        rw [clone_some p hpl]; rfl
      · have e : decide (p ++ tail2 (sumS 65535 p) = p ++ [u, v]) = false := by
          rw [decide_eq_false_iff_not]
          intro he
          exact h0 (hz.2 (List.append_cancel_left he).symm)
        rw [e, if_neg h0]
        simp only [Bool.false_eq_true, if_false]
        exact Ev.all fun k => rfl
    · rfl
theorem bits_in (l : List Int) (c : Int) (hc : 0 ≤ c ∧ c < 256) (m i : Int) (r : List Bool) : ∀ (n k : Nat) (out : List Bool), n + k = 8 → out.length + n ≤ 140737488355327 → Ev (fun q => bakeref2_Bits.l0 q (out ++ (bits8 c).drop k) l m (wrap64 (i + 1))) r →
    Ev (fun q => bakeref2_Bits.l1 q out c l m i (k : Int)) r
  | 0, k, out, hn, hm, h => by
    have hk : k = 8 := by omega
    subst hk
    refine Ev.step (fun q => ?_) h
    simp only [bakeref2_Bits.l1]
    rw [if_neg (by omega)]
    simp [bits8]
  | n + 1, k, out, hn, hm, h => by
    have hk : k < 8 := by omega
    have hd : (bits8 c).drop k = bt7 c k :: (bits8 c).drop (k + 1) := by
      obtain rfl | rfl | rfl | rfl | rfl | rfl | rfl | rfl : k = 0 ∨ k = 1 ∨ k = 2 ∨ k = 3 ∨ k = 4 ∨ k = 5 ∨ k = 6 ∨ k = 7 := by omega
      all_goals rfl
    rw [hd, show out ++ bt7 c k :: (bits8 c).drop (k + 1) = (out ++ [bt7 c k]) ++ (bits8 c).drop (k + 1) by simp] at h
    have ih := bits_in l c hc m i r n (k + 1) (out ++ [bt7 c k]) (by omega) (by simp; omega) h
    refine Ev.step (fun q => ?_) ih
    simp only [bakeref2_Bits.l1]
    rw [if_pos (by omega), if_pos (by omega), if_pos (by omega), bit_ref c k hc hk, w64 _ (by omega) (by omega)]
    rfl
theorem bits_loop (l : List Int) (hb : ∀ c ∈ l, 0 ≤ c ∧ c < 256) (hm : l.length ≤ 17592186044415) : ∀ (suf pre : List Int), l = pre ++ suf →
    Ev (fun k => bakeref2_Bits.l0 k (bitsL pre) l (l.length : Int) (pre.length : Int)) (bitsL l)
  | [], pre, hl => Ev.done fun k => by simp only [bakeref2_Bits.l0]; rw [if_neg (at_end hl)]; rw [hl]; simp
  | c :: suf, pre, hl => by
    have a := at_mid hl (by omega)
    have hlen := len_mid' hl
    have hc := hb c (by rw [hl]; simp)
    have ih := bits_loop l hb hm suf (pre ++ [c]) (next_mid hl)
    have e : bitsL (pre ++ [c]) = bitsL pre ++ (bits8 c).drop 0 := by simp [bitsL]
    rw [e] at ih
    refine Ev.step (fun k => ?_) (bits_in l c hc (l.length : Int) (pre.length : Int) (bitsL l) 8 0 (bitsL pre) rfl (by rw [bitsL_length]; omega) (by rw [a.2.2.2]; exact ih))
    simp only [bakeref2_Bits.l0]
    rw [if_pos a.2.1, if_pos a.1, if_pos a.2.1, a.2.2.1]
    rfl
theorem bits_ev (l : List Int) (hb : ∀ c ∈ l, 0 ≤ c ∧ c < 256) (hm : l.length ≤ 17592186044415) : Ev (fun k => bakeref2_Bits.f k l) (bitsL l) :=
  bits_loop l hb hm l [] rfl
def dAt (a b : List Int) (i : Nat) : Bool := bt7 (a.getD (i / 8) 0) (i % 8) != bt7 (b.getD (i / 8) 0) (i % 8)
theorem w_div8 (i : Nat) (h : i ≤ 140737488355328) : wrap64 (Int.tdiv (i : Int) 8) = ((i / 8 : Nat) : Int) := by rw [Int.tdiv_eq_ediv_of_nonneg (by omega), w64 _ (by omega) (by omega)]; omega
theorem w_mod8 (i : Nat) : wrap64 (7 - Int.tmod (i : Int) 8) = ((7 - i % 8 : Nat) : Int) := by rw [Int.tmod_eq_emod_of_nonneg (by omega), w64 _ (by omega) (by omega)]; omega
theorem burst_loop (a b : List Int) (hab : a.length = b.length) (ha : ∀ c ∈ a, 0 ≤ c ∧ c < 256) (hb : ∀ c ∈ b, 0 ≤ c ∧ c < 256) (hm : a.length ≤ 17592186044415) : ∀ (m i : Nat) (f l : Int), m + i = 8 * a.length → -1 ≤ f → f ≤ i → -1 ≤ l → l ≤ i →
    Ev (fun k => crc_Burst.l0 k a b f l ((8 * a.length : Nat) : Int) (i : Int)) (pbF (dAt a b) m i f l) := by
  intro m
  induction m with
  | zero =>
    intro i f l h hf hf2 hl hl2
    refine Ev.done fun k => ?_
    simp only [crc_Burst.l0, pbF]
    rw [if_neg (by omega)]
    by_cases h0 : f < 0
    · rw [if_pos h0, if_pos h0]
    · rw [if_neg h0, if_neg h0, w64 (l - f) (by omega) (by omega), w64 _ (by omega) (by omega)]
  | succ m ih0 =>
    intro i f l h hf hf2 hl hl2
    have hi : i / 8 < a.length := by omega
    have hi' : i / 8 < b.length := by omega
    have c1 : (i : Int) < ((8 * a.length : Nat) : Int) := Int.ofNat_lt.2 (by omega)
    have c2 : (0 : Int) ≤ ((i / 8 : Nat) : Int) := Int.natCast_nonneg _
    have c3 : ((i / 8 : Nat) : Int) < (a.length : Int) := Int.ofNat_lt.2 hi
    have c4 : ((i / 8 : Nat) : Int) < (b.length : Int) := Int.ofNat_lt.2 hi'
    have c5 : (0 : Int) ≤ ((7 - i % 8 : Nat) : Int) := Int.natCast_nonneg _
    have ii : (((i + 1 : Nat)) : Int) = (i : Int) + 1 := by simp
    have hstep : m + (i + 1) = 8 * a.length := by omega
    have p1 : (-1 : Int) ≤ (i : Int) := Int.le_trans (by decide) (Int.natCast_nonneg i)
    have p2 : (i : Int) ≤ (((i + 1 : Nat)) : Int) := by rw [ii]; exact Int.le_add_one (Int.le_refl _)
    have p3 : f ≤ (((i + 1 : Nat)) : Int) := Int.le_trans hf2 p2
    have p4 : l ≤ (((i + 1 : Nat)) : Int) := Int.le_trans hl2 p2
    have w1 := w_div8 i (by omega)
    have w2 := w_mod8 i
    have w3 : wrap64 ((i : Int) + 1) = ((i + 1 : Nat) : Int) := by rw [w64 _ (by omega) (by omega)]; omega
    have ga : a.getD (i / 8) 0 ∈ a := by rw [List.getD_eq_getElem?_getD, List.getElem?_eq_getElem hi]; exact List.getElem_mem hi
    have gb : b.getD (i / 8) 0 ∈ b := by rw [List.getD_eq_getElem?_getD, List.getElem?_eq_getElem hi']; exact List.getElem_mem hi'
    have r1 : rd a ((i / 8 : Nat) : Int) = a.getD (i / 8) 0 := rd_getD _ _
    have r2 : rd b ((i / 8 : Nat) : Int) = b.getD (i / 8) 0 := rd_getD _ _
    have hx : _ ↔ dAt a b i = true := bit_xor (a.getD (i / 8) 0) (b.getD (i / 8) 0) (i % 8) (ha _ ga) (hb _ gb) (Nat.mod_lt _ (by decide))
    clear hf2 hl2 ga gb
    by_cases hd : dAt a b i = true
    · by_cases h0 : f < 0
      · have ih := ih0 (i + 1) (i : Int) (i : Int) hstep p1 p2 p1 p2
        have e : pbF (dAt a b) (m + 1) i f l = pbF (dAt a b) m (i + 1) (i : Int) (i : Int) := by rw [pbF, if_pos hd, if_pos h0]
        rw [e]
        refine Ev.step (fun k => ?_) ih
        simp only [crc_Burst.l0]
        rw [if_pos c1, w1, if_pos c2, if_pos c3, if_pos c4, w2, if_pos c5, r1, r2, if_pos (hx.2 hd), if_pos h0, w3]
      · have ih := ih0 (i + 1) f (i : Int) hstep hf p3 p1 p2
        have e : pbF (dAt a b) (m + 1) i f l = pbF (dAt a b) m (i + 1) f (i : Int) := by rw [pbF, if_pos hd, if_neg h0]
        rw [e]
        refine Ev.step (fun k => ?_) ih
        simp only [crc_Burst.l0]
        rw [if_pos c1, w1, if_pos c2, if_pos c3, if_pos c4, w2, if_pos c5, r1, r2, if_pos (hx.2 hd), if_neg h0, w3]
    · have ih := ih0 (i + 1) f l hstep hf p3 hl p4
      have e : pbF (dAt a b) (m + 1) i f l = pbF (dAt a b) m (i + 1) f l := by rw [pbF, if_neg hd]
      rw [e]
      refine Ev.step (fun k => ?_) ih
      simp only [crc_Burst.l0]
      rw [if_pos c1, w1, if_pos c2, if_pos c3, if_pos c4, w2, if_pos c5, r1, r2, if_neg (fun h => hd (hx.1 h)), w3]
theorem burst_ev (a b : List Int) (ha : ∀ c ∈ a, 0 ≤ c ∧ c < 256) (hb : ∀ c ∈ b, 0 ≤ c ∧ c < 256) (hm : a.length ≤ 17592186044415) : Ev (fun k => crc_Burst.f k a b) (if a.length = b.length then pbF (dAt a b) (8 * a.length) 0 (-1) (-1) else -1) := by
  unfold crc_Burst.f
  by_cases h : a.length = b.length
  · rw [if_pos h]
    refine Ev.pos (by omega) ?_
    have := burst_loop a b h ha hb hm (8 * a.length) 0 (-1) (-1) (by omega) (by omega) (by omega) (by omega) (by omega)
    rw [show wrap64 (8 * (a.length : Int)) = ((8 * a.length : Nat) : Int) by rw [w64 _ (by omega) (by omega)]; omega]
    exact this
  · rw [if_neg h]
    exact Ev.neg (by omega) (Ev.all fun k => rfl)
end Go.Proofs.Ytgiodeiibmbhhaa.BkCrcSeals
