/- Tape: what is checked and what is written. -/
import Derived.Test.YtlgbhaigpecdoaaVFnTapeWrites
import Derived.Test.YtlgbhaigpecdoaaVKit2
set_option linter.unusedVariables false
set_option linter.unusedSimpArgs false
namespace Go.Proofs.Ytlgbhaigpecdoaa.V
open Go

abbrev Blk := Int × (List Int × Unit)
theorem lt_of {j n : Nat} (h : j < n) : decide ((j : Int) < (n : Int)) = true := by simp; omega
theorem eq33 (a b : List Int) (h : a.length ≤ 140737488355328) : f33 a b = some ((decide (a = b), ()), ()) := by
  unfold f33 f33_k
  by_cases hl : a.length = b.length
  · have h0 : (((List.length a : Nat) : Int) != ((List.length b : Nat) : Int)) = false := by simp [hl]
    rw [h0]
    simp only [cond_false, f33_l4]
    rcases search (Y := Unit ⊕ Unit) (g := f33_l4_g a b ((List.length a : Nat) : Int)) a.length (fun j => a.getD j 0 != b.getD j 0) (fun _ => .inl ()) (.inr ()) (fun j hj => by
      unfold f33_l4_g f33_l4_k
      rw [lt_of hj]
      simp only [cond_true]
      rw [if_pos ⟨by omega, by omega⟩, if_pos ⟨by omega, by omega⟩, wi (by omega) (by omega)]
      simp only [Int.toNat_natCast]
      cases hc : (a.getD j 0 != b.getD j 0) <;> simp [hc]) (by
      unfold f33_l4_g f33_l4_k
      simp) with ⟨m, h1, h2, h3, e⟩ | ⟨h1, e⟩
    · rw [e]
      simp only [some_bind, Sum.elim_inl]
      rw [decide_eq_false]
      intro hh; subst hh; simp at h2
    · rw [e]
      simp only [some_bind, Sum.elim_inr]
      rw [decide_eq_true]
      exact getD_ext 0 hl fun j hj => by simpa using h1 j hj
  · have h0 : (((List.length a : Nat) : Int) != ((List.length b : Nat) : Int)) = true := by simp; omega
    rw [h0]
    simp only [cond_true]
    rw [decide_eq_false]
    intro hh; exact hl (by rw [hh])
theorem eq24 (a b : List Int) (h : a.length ≤ 140737488355328) : f24 a b = some ((decide (a = b), ()), ()) := eq33 a b h
theorem eq47 (a b : List Blk) (h : a.length ≤ 140737488355328) (hb : ∀ x ∈ a, x.2.1.length ≤ 140737488355328) : f47 a b () = some ((decide (a = b), ()), ()) := by
  unfold f47 f47_k
  by_cases hl : a.length = b.length
  · have h0 : (((List.length a : Nat) : Int) != ((List.length b : Nat) : Int)) = false := by simp [hl]
    rw [h0]
    simp only [cond_false, f47_l4]
    rcases search (Y := Unit ⊕ Unit) (g := f47_l4_g b a ((List.length a : Nat) : Int)) a.length (fun j => !decide (a.getD j (0, ([], ())) = b.getD j (0, ([], ())))) (fun _ => .inl ()) (.inr ()) (fun j hj => by
      unfold f47_l4_g f47_l4_k
      rw [lt_of hj]
      simp only [cond_true]
      rw [if_pos ⟨by omega, by omega⟩, if_pos ⟨by omega, by omega⟩, wi (by omega) (by omega)]
      simp only [Int.toNat_natCast, f48, f48_k]
      have hm := hb _ (getD_mem (d := (0, ([], ()))) hj)
      rw [eq24 _ _ hm]
      simp only [some_bind]
      generalize a.getD j (0, ([], ())) = x
      generalize b.getD j (0, ([], ())) = y
      obtain ⟨x1, x2, ⟨⟩⟩ := x
      obtain ⟨y1, y2, ⟨⟩⟩ := y
      by_cases c1 : x1 = y1
      · by_cases c2 : x2 = y2 <;> simp [c1, c2]
      · have e : (x1 == y1) = false := beq_eq_false_iff_ne.2 c1
        rw [e]; simp [c1]) (by
      unfold f47_l4_g f47_l4_k
      simp) with ⟨m, h1, h2, h3, e⟩ | ⟨h1, e⟩
    · rw [e]
      simp only [some_bind, Sum.elim_inl]
      rw [decide_eq_false]
      intro hh; subst hh; simp at h2
    · rw [e]
      simp only [some_bind, Sum.elim_inr]
      rw [decide_eq_true]
      exact getD_ext (0, ([], ())) hl fun j hj => by simpa using h1 j hj
  · have h0 : (((List.length a : Nat) : Int) != ((List.length b : Nat) : Int)) = true := by simp; omega
    rw [h0]
    simp only [cond_true]
    rw [decide_eq_false]
    intro hh; exact hl (by rw [hh])
/-! ### The check -/
structure Good (a : List Blk) : Prop where
  len : a.length ≤ 8
  row : ∀ b ∈ a, b.2.1.length ≤ 256 ∧ 4 ≤ b.1 ∧ b.1 ≤ 1000
theorem check43 (a : List Blk) : f43 a = f42 a := rfl
theorem check42 (a : List Blk) : ∃ e : Int, f42 a = some ((e, ()), ()) ∧ (e = 0 → Good a) := by
  unfold f42 f42_k
  by_cases c0 : ((List.length a : Nat) : Int) > 8
  · exact ⟨2, by rw [decide_eq_true c0]; rfl, fun h => by omega⟩
  rw [decide_eq_false c0]
  simp only [cond_false, f42_l4]
  rcases search (Y := Int ⊕ Unit) (g := f42_l4_g a ((List.length a : Nat) : Int)) a.length (fun j => decide (((List.length (a.getD j (0, ([], ()))).2.1 : Nat) : Int) > 256) || decide ((a.getD j (0, ([], ()))).1 < 4) || decide ((a.getD j (0, ([], ()))).1 > 1000)) (fun j => .inl (if ((List.length (a.getD j (0, ([], ()))).2.1 : Nat) : Int) > 256 then 2 else 1)) (.inr ()) (fun j hj => by
    unfold f42_l4_g f42_l4_k
    rw [lt_of hj]
    simp only [cond_true]
    rw [if_pos ⟨by omega, by omega⟩, wi (by omega) (by omega)]
    simp only [Int.toNat_natCast]
    obtain ⟨x, hx⟩ : ∃ x, a.getD j (0, ([], ())) = x := ⟨_, rfl⟩
    simp only [hx]
    by_cases c1 : ((List.length x.2.1 : Nat) : Int) > 256
    · simp [c1]
    · by_cases c2 : x.1 < 4
      · simp only [c1, c2, decide_true, decide_false, cond_true, cond_false, Bool.or_true, Bool.true_or, Bool.false_or, if_true, if_false]
      · by_cases c3 : x.1 > 1000
        · simp only [c1, c2, c3, decide_true, decide_false, cond_true, cond_false, Bool.or_true, Bool.true_or, Bool.false_or, if_true, if_false]
        · simp [c1, c2, c3]) (by
    unfold f42_l4_g f42_l4_k
    simp) with ⟨m, h1, h2, h3, e⟩ | ⟨h1, e⟩
  · rw [e]
    exact ⟨_, rfl, fun h => by split at h <;> omega⟩
  · rw [e]
    refine ⟨0, rfl, fun _ => ⟨by omega, fun b hb => ?_⟩⟩
    obtain ⟨j, hj, rfl⟩ := mem_getD (0, ([], ())) hb
    have := h1 j hj
    simp only [Bool.or_eq_false_iff, decide_eq_false_iff_not] at this
    omega
/-! ### The sums -/
abbrev Bytes (l : List Int) : Prop := ∀ x ∈ l, 0 ≤ x ∧ x < 256
theorem xor99 (l : List Int) (hb : Bytes l) (h : l.length ≤ 140737488355328) : f99 l = some ((((xorN l : Nat) : Int), ()), ()) := by
  unfold f99 f99_k
  simp only [f99_l3]
  rw [loop_go (x0 := ((0 : Int), (0 : Int))) (g := f99_l3_g l ((List.length l : Nat) : Int)) (fun j => (((xorN (l.take j) : Nat) : Int), (j : Int))) l.length (y := ((xorN l : Nat) : Int)) rfl (fun j hj => by
    unfold f99_l3_g f99_l3_k
    simp only
    rw [lt_of hj]
    simp only [cond_true]
    have hm := hb _ (getD_mem (d := 0) hj)
    have hx := xorN_lt (in_take hb j)
    rw [if_pos ⟨by omega, by omega⟩, wi (n := (j : Int) + 1) (by omega) (by omega)]
    simp only [Int.toNat_natCast]
    rw [wi (by omega) (by omega), show l.getD j 0 = (((l.getD j 0).toNat : Nat) : Int) by omega, xor64 _ _ (by omega) (by omega), xorN_take hj]
    rfl) (by
    unfold f99_l3_g f99_l3_k
    simp)]
  rfl
theorem xor103 (l : List Int) (hb : Bytes l) (h : l.length ≤ 140737488355328) : f103 l = some ((((xorN l : Nat) : Int), ()), ()) := by
  unfold f103 f103_k
  simp only [f103_l3]
  rw [loop_go (x0 := ((0 : Int), (0 : Int))) (g := f103_l3_g l ((List.length l : Nat) : Int)) (fun j => (((xorN (l.take j) : Nat) : Int), (j : Int))) l.length (y := ((xorN l : Nat) : Int)) rfl (fun j hj => by
    unfold f103_l3_g f103_l3_k
    simp only
    rw [lt_of hj]
    simp only [cond_true]
    have hm := hb _ (getD_mem (d := 0) hj)
    have hx := xorN_lt (in_take hb j)
    rw [if_pos ⟨by omega, by omega⟩, wi (n := (j : Int) + 1) (by omega) (by omega)]
    simp only [Int.toNat_natCast]
    rw [show l.getD j 0 = (((l.getD j 0).toNat : Nat) : Int) by omega, xor8 _ _ (by omega) (by omega), xorN_take hj]
    rfl) (by
    unfold f103_l3_g f103_l3_k
    simp)]
  rfl
/-! ### Bits -/
def bitV (b : Int) (j : Nat) : Bool := decide (b * 2 ^ j % 256 ≥ 128)
def bitsB (b : Int) : List Bool := (List.range 8).map (bitV b)
def pul (u : Int) (b : Bool) : List Int := if b = true then [4 * u, 4 * u] else [2 * u, 2 * u]
def wrB (u b : Int) : List Int := (bitsB b).flatMap (pul u)
theorem pul_len (u : Int) (b : Bool) : (pul u b).length = 2 := by unfold pul; split <;> rfl
theorem wrB_len (u b : Int) : (wrB u b).length = 16 := by
  unfold wrB bitsB
  simp [List.range_succ, pul_len]
def rowB (d : List Int) : List Int := [((d.length / 256 : Nat) : Int), ((d.length % 256 : Nat) : Int)] ++ d ++ [((xorN d : Nat) : Int)]
def blkW (b : Blk) : List Int := List.replicate 16 (8 * b.1) ++ [16 * b.1] ++ (rowB b.2.1).flatMap (wrB b.1)
theorem rowB_len (d : List Int) : (rowB d).length = d.length + 3 := by unfold rowB; simp
theorem flat16 (u : Int) : ∀ l : List Int, (l.flatMap (wrB u)).length = 16 * l.length
  | [] => rfl
  | x :: l => by simp only [List.flatMap_cons, List.length_append, flat16 u l, wrB_len, List.length_cons]; omega
theorem blkW_len (b : Blk) : (blkW b).length = 17 + 16 * (b.2.1.length + 3) := by
  unfold blkW; rw [List.length_append, flat16, rowB_len]; simp
theorem rowB_bytes {d : List Int} (h : Bytes d) (hl : d.length ≤ 256) : Bytes (rowB d) := by
  intro x hx
  unfold rowB at hx
  simp only [List.mem_append, List.mem_cons, List.not_mem_nil, or_false] at hx
  have := xorN_lt h
  rcases hx with (h1 | h1) | h1
  · omega
  · exact h x h1
  · omega
theorem bit_eq {b : Int} (h0 : 0 ≤ b) (h1 : b < 256) {j : Nat} (hj : j < 8) : (bitop .u8 .and (Int.fdiv b (2 ^ (min (Int.toNat (7 - (j : Int))) 8))) 1 == 1) = bitV b j := by
  obtain ⟨n, rfl⟩ : ∃ n : Nat, b = (n : Int) := ⟨b.toNat, by omega⟩
  have e : Int.fdiv (n : Int) (2 ^ (min (Int.toNat (7 - (j : Int))) 8)) = ((n / 2 ^ (7 - j) : Nat) : Int) := by
    rw [show min (Int.toNat (7 - (j : Int))) 8 = 7 - j by omega, show ((2 : Int) ^ (7 - j)) = (((2 ^ (7 - j) : Nat)) : Int) by simp]
    exact (Int.ofNat_fdiv _ _).symm
  have hlt : n / 2 ^ (7 - j) < 256 := Nat.lt_of_le_of_lt (Nat.div_le_self _ _) (by omega)
  rw [e, and1_8 _ hlt]
  unfold bitV
  rw [Bool.eq_iff_iff]
  simp only [beq_iff_eq, decide_eq_true_eq]
  have : j = 0 ∨ j = 1 ∨ j = 2 ∨ j = 3 ∨ j = 4 ∨ j = 5 ∨ j = 6 ∨ j = 7 := by omega
  rcases this with rfl | rfl | rfl | rfl | rfl | rfl | rfl | rfl <;> simp <;> omega
theorem fdiv8 {n : Nat} (h : n ≤ 256) : Int.fdiv (n : Int) (2 ^ (min 8 64)) = ((n / 256 : Nat) : Int) := by
  rw [show ((2 : Int) ^ (min 8 64)) = ((256 : Nat) : Int) from rfl]
  exact (Int.ofNat_fdiv _ _).symm
/-! ### The writing -/
theorem loop17 {b : Int} (h0 : 0 ≤ b) (h1 : b < 256) {bl : Blk} (hu : 4 ≤ bl.1 ∧ bl.1 ≤ 1000) (out : List Int) (ho : out.length ≤ 100000) (a2 : List Blk) (a3 a4 a5 a6 : Int) (a9 : List Int) :
    f41_l17 b a2 a3 a4 a5 a6 bl a9 (7, out) = some (out ++ wrB bl.1 b) := by
  unfold f41_l17
  refine loop_go (fun j => (7 - (j : Int), out ++ ((List.range j).map (bitV b)).flatMap (pul bl.1))) 8 (by simp) (fun j hj => ?_) ?_
  · unfold f41_l17_g f41_l17_k
    simp only
    rw [decide_eq_true (show 7 - (j : Int) ≥ 0 by omega)]
    simp only [cond_true]
    rw [if_neg (by omega), bit_eq h0 h1 hj, wi (n := 2 * bl.1) (by omega) (by omega), wi (n := 4 * bl.1) (by omega) (by omega), wi (n := 7 - (j : Int) - 1) (by omega) (by omega)]
    have hl : (out ++ ((List.range j).map (bitV b)).flatMap (pul bl.1)).length ≤ 100016 := by
      rw [List.length_append]
      have := flatMap_len (pul bl.1) 2 ((List.range j).map (bitV b)) (fun x _ => by rw [pul_len]; omega)
      simp at this
      simp
      omega
    have e : ((List.range (j + 1)).map (bitV b)).flatMap (pul bl.1) = ((List.range j).map (bitV b)).flatMap (pul bl.1) ++ pul bl.1 (bitV b j) := by
      rw [List.range_succ]; simp
    rw [e, if_pos ⟨by rw [most_eq]; omega, by decide, by decide⟩, if_pos ⟨by rw [most_eq]; omega, by decide, by decide⟩]
    have e2 : (7 : Int) - ((j + 1 : Nat) : Int) = 7 - (j : Int) - 1 := by omega
    rw [e2, ← List.append_assoc]
    cases bitV b j <;> rfl
  · unfold f41_l17_g f41_l17_k
    simp only
    rw [decide_eq_false (by simp)]
    rfl
theorem loop14 {bl : Blk} (hu : 4 ≤ bl.1 ∧ bl.1 ≤ 1000) (out bs : List Int) (hb : Bytes bs) (hl : bs.length ≤ 300) (ho : out.length ≤ 50000) (a2 : List Blk) (a3 a4 : Int) :
    f41_l14 a2 a3 a4 ((List.length bs : Nat) : Int) bl bs (0, out) = some (out ++ bs.flatMap (wrB bl.1)) := by
  unfold f41_l14
  refine loop_go (fun j => ((j : Int), out ++ (bs.take j).flatMap (wrB bl.1))) bs.length (by simp) (fun j hj => ?_) ?_
  · unfold f41_l14_g f41_l14_k
    simp only
    rw [lt_of hj]
    simp only [cond_true]
    have hm := hb _ (getD_mem (d := 0) hj)
    rw [if_pos ⟨by omega, by omega⟩]
    simp only [Int.toNat_natCast]
    rw [loop17 hm.1 hm.2 hu _ (by rw [List.length_append, flat16, List.length_take]; omega), wi (by omega) (by omega), flatMap_take_succ (d := 0) hj, List.append_assoc]
    rfl
  · unfold f41_l14_g f41_l14_k
    simp
theorem loop9 {bl : Blk} (hu : 4 ≤ bl.1 ∧ bl.1 ≤ 1000) (out : List Int) (ho : out.length ≤ 50000) (a0 : List Blk) (a1 a2 : Int) :
    f41_l9 a0 a1 a2 bl (0, out) = some (out ++ List.replicate 16 (8 * bl.1)) := by
  unfold f41_l9
  refine loop_go (fun j => ((j : Int), out ++ List.replicate j (8 * bl.1))) 16 (by simp) (fun j hj => ?_) ?_
  · unfold f41_l9_g f41_l9_k
    simp only
    rw [decide_eq_true (show (j : Int) < 16 by omega)]
    simp only [cond_true]
    rw [wi (n := 8 * bl.1) (by omega) (by omega), if_pos ⟨by rw [most_eq]; simp; omega, by decide, by decide⟩, wi (by omega) (by omega), List.append_assoc, ← List.replicate_succ']
    rfl
  · unfold f41_l9_g f41_l9_k
    simp
theorem loop6 (a : List Blk) (hg : Good a) (hb : ∀ b ∈ a, Bytes b.2.1) : f41_l6 a ((List.length a : Nat) : Int) (0, []) = some (a.flatMap blkW) := by
  unfold f41_l6
  have hlen := hg.len
  refine loop_go (fun j => ((j : Int), (a.take j).flatMap blkW)) a.length (by simp) (fun j hj => ?_) (by
    unfold f41_l6_g f41_l6_k
    simp)
  unfold f41_l6_g f41_l6_k
  simp only
  rw [lt_of hj]
  simp only [cond_true]
  rw [if_pos ⟨by omega, by omega⟩]
  simp only [Int.toNat_natCast]
  have hr := hg.row _ (getD_mem (d := (0, ([], ()))) hj)
  have hbb := hb _ (getD_mem (d := (0, ([], ()))) hj)
  have hol : ((a.take j).flatMap blkW).length ≤ 33300 := by
    have := flatMap_len blkW 4161 (a.take j) (fun x hx => by
      have := hg.row x (List.mem_of_mem_take hx)
      rw [blkW_len]; omega)
    rw [List.length_take] at this
    omega
  rw [flatMap_take_succ (d := (0, ([], ()))) hj]
  obtain ⟨bl, hbl⟩ : ∃ x, a.getD j (0, ([], ())) = x := ⟨_, rfl⟩
  simp only [hbl] at hr hbb ⊢
  rw [loop9 hr.2 _ (by omega)]
  simp only [some_bind]
  rw [wi (n := 16 * bl.1) (by omega) (by omega), if_pos ⟨by rw [most_eq, List.length_append, List.length_replicate]; omega, by decide, by decide⟩, fdiv8 hr.1, if_pos ⟨by rw [most_eq]; omega, by decide, by decide⟩, xor99 _ hbb (by omega)]
  simp only [some_bind]
  have hx := xorN_lt hbb
  rw [wu (n := ((bl.2.1.length / 256 : Nat) : Int)) (by omega) (by omega), wu (n := ((xorN bl.2.1 : Nat) : Int)) (by omega) (by omega)]
  rw [show IntKind.u8.wrap ((List.length bl.2.1 : Nat) : Int) = ((bl.2.1.length % 256 : Nat) : Int) by rw [IntKind.wrap_u8]; omega]
  rw [if_pos ⟨by rw [most_eq]; simp; omega, by decide, by decide⟩]
  have e : ([((bl.2.1.length / 256 : Nat) : Int), ((bl.2.1.length % 256 : Nat) : Int)] ++ bl.2.1 ++ [((xorN bl.2.1 : Nat) : Int)]) = rowB bl.2.1 := rfl
  rw [e, loop14 hr.2 _ _ (rowB_bytes hbb hr.1) (by rw [rowB_len]; omega) (by rw [List.length_append, List.length_append, List.length_replicate]; simp only [List.length_cons, List.length_nil]; omega)]
  simp only [some_bind]
  rw [wi (by omega) (by omega)]
  simp only [blkW, List.append_assoc]
  rfl
theorem write41 (a : List Blk) (hb : ∀ b ∈ a, Bytes b.2.1) : ∃ e : Int, f42 a = some ((e, ()), ()) ∧ (e = 0 → Good a) ∧ f41 a = some (if e = 0 then ((a.flatMap blkW, (0, ())), ()) else (([], (e, ())), ())) := by
  obtain ⟨e, he, hg⟩ := check42 a
  refine ⟨e, he, hg, ?_⟩
  unfold f41 f41_k
  rw [check43, he]
  simp only [some_bind]
  by_cases h0 : e = 0
  · subst h0
    simp only [bne_self_eq_false, cond_false]
    rw [loop6 a (hg rfl) hb]
    rfl
  · have : (e != 0) = true := by simpa using h0
    rw [this, if_neg h0]
    rfl
/-! ### The reference's writing -/
theorem bits6 {b : Int} (h0 : 0 ≤ b) (out : List Bool) (ho : out.length ≤ 100000) (a1 : List Int) (a2 a3 : Int) : f101_l6 b a1 a2 a3 (0, out) = some (out ++ bitsB b) := by
  unfold f101_l6
  refine loop_go (fun j => ((j : Int), out ++ (List.range j).map (bitV b))) 8 (by simp) (fun j hj => ?_) ?_
  · unfold f101_l6_g f101_l6_k
    simp only
    rw [decide_eq_true (show (j : Int) < 8 by omega)]
    simp only [cond_true]
    rw [if_neg (by omega), show min (Int.toNat (j : Int)) 8 = j by omega, IntKind.wrap_u8, if_pos ⟨by rw [most_eq]; simp; omega, by decide, by decide⟩, wi (by omega) (by omega), List.range_succ, List.map_append, List.append_assoc]
    rfl
  · unfold f101_l6_g f101_l6_k
    simp [bitsB]
theorem bits101 (l : List Int) (hb : Bytes l) (h : l.length ≤ 1000) : f101 l = some ((l.flatMap bitsB, ()), ()) := by
  unfold f101 f101_k
  simp only [f101_l3]
  have fl : ∀ m : List Int, (m.flatMap bitsB).length = 8 * m.length := by
    intro m
    induction m with
    | nil => rfl
    | cons x m ih => simp only [List.flatMap_cons, List.length_append, ih, List.length_cons, bitsB, List.length_map, List.length_range]; omega
  rw [loop_go (x0 := ((0 : Int), ([] : List Bool))) (g := f101_l3_g l ((List.length l : Nat) : Int)) (fun j => ((j : Int), (l.take j).flatMap bitsB)) l.length (y := l.flatMap bitsB) (by simp) (fun j hj => by
    unfold f101_l3_g f101_l3_k
    simp only
    rw [lt_of hj]
    simp only [cond_true]
    have hm := hb _ (getD_mem (d := 0) hj)
    rw [if_pos ⟨by omega, by omega⟩]
    simp only [Int.toNat_natCast]
    rw [bits6 hm.1 _ (by rw [fl, List.length_take]; omega)]
    simp only [some_bind]
    rw [wi (by omega) (by omega), flatMap_take_succ (d := 0) hj]
    rfl) (by
    unfold f101_l3_g f101_l3_k
    simp)]
  rfl
theorem concat102 (a b c : List Int) (h1 : a.length ≤ 1000) (h2 : b.length ≤ 1000) (h3 : c.length ≤ 1000) : f102 [a, b, c] = some ((a ++ b ++ c, ()), ()) := by
  unfold f102 f102_k
  simp only [f102_l3, f102_l11]
  rw [loop_go (x0 := ((0 : Int), (0 : Int))) (g := f102_l3_g [a, b, c] [a, b, c] ((List.length [a, b, c] : Nat) : Int)) (fun j => ((([0, a.length, a.length + b.length, a.length + b.length + c.length].getD j 0 : Nat) : Int), (j : Int))) 3 (y := ((a.length + b.length + c.length : Nat) : Int)) (by simp) (fun j hj => by
    unfold f102_l3_g f102_l3_k
    have : j = 0 ∨ j = 1 ∨ j = 2 := by omega
    rcases this with rfl | rfl | rfl
    · simp
      rw [wi (by omega) (by omega), decide_eq_false (by omega)]
      rfl
    · simp
      rw [wi (by omega) (by omega), decide_eq_false (by omega)]
      rfl
    · simp
      rw [wi (by omega) (by omega), decide_eq_false (by omega)]
      rfl) (by
    unfold f102_l3_g f102_l3_k
    simp)]
  simp only [some_bind]
  have hg : f133 () ((a.length + b.length + c.length : Nat) : Int) = some (([], ()), ()) := by
    unfold f133 f133_k
    rw [decide_eq_false (by omega)]
    simp only [cond_false]
    rw [Int.sub_zero, wi (by omega) (by omega)]
    by_cases h0 : (((a.length + b.length + c.length : Nat) : Int)) > 0
    · rw [decide_eq_true h0]
      simp only [cond_true]
      rw [if_pos ⟨h0, by rw [most_eq]; omega, by decide, by decide⟩, if_pos ⟨by omega, by omega, by omega⟩]
      rfl
    · rw [decide_eq_false h0]
      rfl
  rw [hg]
  simp only [some_bind]
  rw [loop_go (x0 := ((0 : Int), ([] : List Int))) (g := f102_l11_g [a, b, c] ((List.length [a, b, c] : Nat) : Int)) (fun j => ((j : Int), [[], a, a ++ b, a ++ b ++ c].getD j [])) 3 (y := a ++ b ++ c) (by simp) (fun j hj => by
    unfold f102_l11_g f102_l11_k
    have : j = 0 ∨ j = 1 ∨ j = 2 := by omega
    rcases this with rfl | rfl | rfl
    · simp
      exact ⟨by rw [most_eq]; omega, rfl⟩
    · simp
      exact ⟨by rw [most_eq]; omega, rfl⟩
    · simp
      exact ⟨by rw [most_eq]; omega, rfl⟩) (by
    unfold f102_l11_g f102_l11_k
    simp)]
  rfl
theorem mul64 : f131 1 16 = some ((0, (16, ())), ()) := by kernel_rfl
theorem rep100 (v : Int) : f100 [v] 16 = some ((List.replicate 16 v, ()), ()) := by
  unfold f100 f100_k
  rw [decide_eq_false (by omega)]
  simp only [cond_false]
  unfold f100_t3 f100_t3_k
  rw [show IntKind.u64.wrap ((List.length [v] : Nat) : Int) = 1 from rfl, show IntKind.u64.wrap 16 = 16 from rfl]
  simp only [mul64, some_bind]
  rw [decide_eq_false (by omega), decide_eq_false (by omega)]
  simp only [cond_false]
  unfold f100_t6 f100_t6_k
  rw [show IntKind.i64.wrap 16 = 16 from rfl, if_pos ⟨by omega, by omega, by rw [most_eq]; omega, by decide, by decide⟩, if_pos ⟨by simp, by simp⟩]
  have e : f100_l8 ((((min (List.length [v]) (List.length (List.replicate (Int.toNat 16) (0 : Int))) : Nat)) : Int), spl (List.replicate (Int.toNat 16) 0) 0 (min (List.length [v]) (List.length (List.replicate (Int.toNat 16) (0 : Int)))) [v]) = some (List.replicate 16 v) := by
    unfold f100_l8
    refine loop_go (fun j => (((2 ^ j : Nat) : Int), List.replicate (2 ^ j) v ++ List.replicate (16 - 2 ^ j) (0 : Int))) 4 rfl (fun j hj => ?_) rfl
    have : j = 0 ∨ j = 1 ∨ j = 2 ∨ j = 3 := by omega
    rcases this with rfl | rfl | rfl | rfl <;> rfl
  simp only [e, some_bind]
theorem wi2 {u : Int} (h : 4 ≤ u ∧ u ≤ 1000) : IntKind.i64.wrap (2 * u) = 2 * u := wi (by omega) (by omega)
theorem refl9 {bl : Blk} (hu : 4 ≤ bl.1 ∧ bl.1 ≤ 1000) (out : List Int) (bs : List Bool) (hl : bs.length ≤ 5000) (ho : out.length ≤ 50000) (a0 : List Blk) (a1 a2 : Int) :
    f44_l9 a0 a1 a2 ((List.length bs : Nat) : Int) bl bs (0, out) = some (out ++ bs.flatMap (pul bl.1)) := by
  unfold f44_l9
  refine loop_go (fun j => ((j : Int), out ++ (bs.take j).flatMap (pul bl.1))) bs.length (by simp) (fun j hj => ?_) ?_
  · unfold f44_l9_g f44_l9_k
    simp only
    rw [lt_of hj]
    simp only [cond_true]
    have hol : (out ++ (bs.take j).flatMap (pul bl.1)).length ≤ 60000 := by
      have := flatMap_len (pul bl.1) 2 (bs.take j) (fun x _ => by rw [pul_len]; omega)
      rw [List.length_take] at this
      rw [List.length_append]
      omega
    rw [if_pos ⟨by omega, by omega⟩, wi2 hu, wi (n := 2 * bl.1 * 2) (by omega) (by omega), if_pos ⟨by rw [most_eq]; omega, by decide, by decide⟩, if_pos ⟨by rw [most_eq]; omega, by decide, by decide⟩, wi (by omega) (by omega), flatMap_take_succ (d := false) hj, ← List.append_assoc]
    simp only [Int.toNat_natCast]
    rw [show 2 * bl.1 * 2 = 4 * bl.1 by omega]
    cases bs.getD j false <;> rfl
  · unfold f44_l9_g f44_l9_k
    simp
theorem refl3 (a : List Blk) (hg : Good a) (hb : ∀ b ∈ a, Bytes b.2.1) : f44_l3 a ((List.length a : Nat) : Int) (0, []) = some (a.flatMap blkW) := by
  unfold f44_l3
  have hlen := hg.len
  refine loop_go (fun j => ((j : Int), (a.take j).flatMap blkW)) a.length (by simp) (fun j hj => ?_) (by
    unfold f44_l3_g f44_l3_k
    simp)
  unfold f44_l3_g f44_l3_k
  simp only
  rw [lt_of hj]
  simp only [cond_true]
  rw [if_pos ⟨by omega, by omega⟩]
  simp only [Int.toNat_natCast]
  have hr := hg.row _ (getD_mem (d := (0, ([], ()))) hj)
  have hbb := hb _ (getD_mem (d := (0, ([], ()))) hj)
  have hol : ((a.take j).flatMap blkW).length ≤ 33300 := by
    have := flatMap_len blkW 4161 (a.take j) (fun x hx => by
      have := hg.row x (List.mem_of_mem_take hx)
      rw [blkW_len]; omega)
    rw [List.length_take] at this
    omega
  rw [flatMap_take_succ (d := (0, ([], ()))) hj]
  obtain ⟨bl, hbl⟩ : ∃ x, a.getD j (0, ([], ())) = x := ⟨_, rfl⟩
  simp only [hbl] at hr hbb ⊢
  rw [wi (n := 8 * bl.1) (by omega) (by omega), rep100]
  simp only [some_bind]
  have hx := xorN_lt hbb
  rw [if_pos ⟨by rw [most_eq, List.length_replicate]; omega, by decide, by decide⟩, wi (n := 16 * bl.1) (by omega) (by omega), if_pos ⟨by rw [most_eq, List.length_append, List.length_replicate]; omega, by decide, by decide⟩]
  rw [xor103 _ hbb (by omega)]
  simp only [some_bind]
  rw [Int.tdiv_eq_ediv_of_nonneg (by omega), Int.tmod_eq_emod_of_nonneg (by omega), wi (n := ((List.length bl.2.1 : Nat) : Int) / 256) (by omega) (by omega), wu (n := ((List.length bl.2.1 : Nat) : Int) / 256) (by omega) (by omega), wu (n := ((List.length bl.2.1 : Nat) : Int) % 256) (by omega) (by omega)]
  rw [concat102 _ _ _ (by simp) (by omega) (by simp)]
  simp only [some_bind]
  have e : ([((List.length bl.2.1 : Nat) : Int) / 256, ((List.length bl.2.1 : Nat) : Int) % 256] ++ bl.2.1 ++ [((xorN bl.2.1 : Nat) : Int)]) = rowB bl.2.1 := rfl
  rw [e, bits101 _ (rowB_bytes hbb hr.1) (by rw [rowB_len]; omega)]
  simp only [some_bind]
  have fl : ∀ m : List Int, (m.flatMap bitsB).length = 8 * m.length := by
    intro m
    induction m with
    | nil => rfl
    | cons x m ih => simp only [List.flatMap_cons, List.length_append, ih, List.length_cons, bitsB, List.length_map, List.length_range]; omega
  rw [refl9 hr.2 _ _ (by rw [fl, rowB_len]; omega) (by rw [List.length_append, List.length_append, List.length_replicate]; simp only [List.length_cons, List.length_nil]; omega)]
  simp only [some_bind]
  rw [wi (by omega) (by omega), List.flatMap_assoc]
  simp only [blkW, List.append_assoc]
  rfl
theorem taped44 (a : List Blk) (hg : Good a) (hb : ∀ b ∈ a, Bytes b.2.1) : f44 a = some ((a.flatMap blkW, ()), ()) := by
  unfold f44 f44_k
  rw [refl3 a hg hb]
  rfl
theorem begin41 : ∃ l : List Int, f41 [((4 : Int), (([] : List Int), ()))] = some ((l, (0, ())), ()) ∧ l.length = 65 := by
  have hb : ∀ b ∈ [((4 : Int), (([] : List Int), ()))], Bytes b.2.1 := by
    intro b hb; simp at hb; subst hb; intro x hx; cases hx
  refine ⟨[((4 : Int), (([] : List Int), ()))].flatMap blkW, ?_, by simp [blkW_len]⟩
  have hg : Good [((4 : Int), (([] : List Int), ()))] := ⟨by simp, by intro b hb; simp at hb; subst hb; simp⟩
  unfold f41 f41_k
  have e43 : f43 [((4 : Int), (([] : List Int), ()))] = some ((0, ()), ()) := by
    rw [check43]
    unfold f42 f42_k f42_l4
    rw [decide_eq_false (by simp)]
    simp only [cond_false]
    rw [loop_go (x0 := (0 : Int)) (fun j => (j : Int)) 1 (y := .inr ()) rfl (fun j hj => by
      have : j = 0 := by omega
      subst this
      rfl) rfl]
    rfl
  rw [e43]
  simp only [some_bind, bne_self_eq_false, cond_false]
  rw [loop6 _ hg hb]
  rfl
end Go.Proofs.Ytlgbhaigpecdoaa.V
