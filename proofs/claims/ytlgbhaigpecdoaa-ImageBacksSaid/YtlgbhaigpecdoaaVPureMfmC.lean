/- Mfm, the reading: numbers of cells, places. -/
import Derived.Test.YtlgbhaigpecdoaaVPureMfmB
set_option linter.unusedVariables false
set_option linter.unusedSimpArgs false
namespace Go.Proofs.Ytlgbhaigpecdoaa.V
open Go
def badP (p : Int) : Bool := decide (p < 1 ∨ p > 100000)
def chkT (t : List Int) : Int := if t.length > 40000 then 2 else if t.any badP = true then 1 else 0
theorem check104 (t : List Int) : f104 t = some ((chkT t, ()), ()) := by
  unfold f104 f104_k chkT
  by_cases c : t.length > 40000
  · rw [if_pos c, decide_eq_true (by omega : ((t.length : Nat) : Int) > 40000)]; rfl
  rw [if_neg c, decide_eq_false (by omega : ¬ ((t.length : Nat) : Int) > 40000)]
  simp only [cond_false, f104_l4]
  rcases search (Y := Unit ⊕ Unit) (g := f104_l4_g t ((List.length t : Nat) : Int)) t.length (fun j => badP (t.getD j 0)) (fun _ => .inl ()) (.inr ()) (fun j hj => by
    unfold f104_l4_g f104_l4_k
    rw [dlt hj]
    simp only [cond_true]
    rw [if_pos (in_row hj), Int.toNat_natCast, wi (by omega) (by omega)]
    unfold badP
    generalize t.getD j 0 = p
    by_cases c1 : p < 1
    · simp [c1]
    by_cases c2 : p > 100000
    · simp [c1, c2]
    · simp [c1, c2]) (by
    unfold f104_l4_g f104_l4_k
    rw [dge]; rfl) with ⟨m, h1, h2, h3, e⟩ | ⟨h1, e⟩
  · rw [e, if_pos (List.any_eq_true.2 ⟨_, getD_mem (d := 0) h1, h2⟩)]; rfl
  · have : t.any badP = false := by
      rw [List.any_eq_false]
      intro x hx
      obtain ⟨j, hj, rfl⟩ := mem_getD 0 hx
      simpa using h1 j hj
    rw [e, if_neg (by simp [this])]; rfl
theorem any137 (t : List Int) (h : t.length ≤ 40000) : f137 t () = some ((t.any badP, ()), ()) := by
  unfold f137 f137_k f156 f156_k f156_l2
  have one : ∀ p : Int, f138 p = some ((badP p, ()), ()) := fun p => by
    unfold f138 f138_k badP
    by_cases c1 : p ≤ 0
    · rw [decide_eq_true c1, decide_eq_true (by omega : p < 1 ∨ p > 100000)]; rfl
    · rw [decide_eq_false c1]
      simp only [cond_false]
      by_cases c2 : p > 100000
      · rw [decide_eq_true c2, decide_eq_true (by omega : p < 1 ∨ p > 100000)]
      · rw [decide_eq_false c2, decide_eq_false (by omega : ¬ (p < 1 ∨ p > 100000))]
  rcases search (Y := Int ⊕ Unit) (g := f156_l2_g t ((List.length t : Nat) : Int)) t.length (fun j => badP (t.getD j 0)) (fun m => .inl (m : Int)) (.inr ()) (fun j hj => by
    unfold f156_l2_g f156_l2_k
    rw [dlt hj]
    simp only [cond_true]
    rw [if_pos (in_row hj), Int.toNat_natCast, wi (by omega) (by omega), one]
    simp only [some_bind]
    cases badP (t.getD j 0) <;> rfl) (by
    unfold f156_l2_g f156_l2_k
    rw [dge]; rfl) with ⟨m, h1, h2, h3, e⟩ | ⟨h1, e⟩
  · rw [e]
    simp only [some_bind, Sum.elim_inl]
    have : t.any badP = true := List.any_eq_true.2 ⟨_, getD_mem (d := 0) h1, h2⟩
    rw [this, decide_eq_true (by omega)]
  · rw [e]
    simp only [some_bind, Sum.elim_inr]
    have : t.any badP = false := by
      rw [List.any_eq_false]
      intro x hx
      obtain ⟨j, hj, rfl⟩ := mem_getD 0 hx
      simpa using h1 j hj
    rw [this]; rfl
theorem check106 (t : List Int) : f106 t = some ((chkT t, ()), ()) := by
  unfold f106 f106_k chkT
  by_cases c : t.length > 40000
  · rw [if_pos c, decide_eq_true (by omega : ((t.length : Nat) : Int) > 40000)]; rfl
  rw [if_neg c, decide_eq_false (by omega : ¬ ((t.length : Nat) : Int) > 40000)]
  simp only [cond_false]
  rw [any137 t (by omega)]
  simp only [some_bind]
  cases t.any badP <;> rfl
theorem chkT_ok {t : List Int} (h : chkT t = 0) : t.length ≤ 40000 ∧ ∀ p ∈ t, 1 ≤ p ∧ p ≤ 100000 := by
  unfold chkT at h
  split at h
  · cases h
  · split at h
    · cases h
    · rename_i h1 h2
      refine ⟨by omega, fun p hp => ?_⟩
      have h2 : t.any badP = false := by simpa using h2
      rw [List.any_eq_false] at h2
      have := h2 p hp
      simp [badP] at this
      omega
def countN (p c : Nat) : Nat := p / c + (if 2 * (p % c) ≥ c then 1 else 0)
theorem count_eq (p c : Nat) (hc : 0 < c) : (2 * p + c) / (2 * c) = countN p c := by
  unfold countN
  have hp := Nat.div_add_mod p c
  have hr := Nat.mod_lt p hc
  generalize p / c = q at hp
  generalize p % c = r at hp hr
  subst hp
  have e : 2 * (c * q + r) + c = 2 * c * q + (2 * r + c) := by rw [Nat.mul_add, ← Nat.mul_assoc]; omega
  rw [e, Nat.mul_add_div (by omega)]
  congr 1
  split
  · rename_i h
    rw [Nat.div_eq_of_lt_le (k := 1) (by omega) (by omega)]
  · rename_i h
    rw [Nat.div_eq_of_lt (by omega)]
theorem count_le (p c : Nat) (hc : 2 ≤ c) (hp : p ≤ 100000) : countN p c ≤ 50001 := by
  unfold countN
  have : p / c ≤ p / 2 := Nat.div_le_div_left hc (by omega)
  have : p / 2 ≤ 50000 := by omega
  split <;> omega
def cntL (cell most : Int) : List Int → Option (List Nat)
  | [] => some []
  | p :: l => if countN p.toNat cell.toNat = 0 ∨ ((countN p.toNat cell.toNat : Nat) : Int) > most then none else (cntL cell most l).map (countN p.toNat cell.toNat :: ·)
def cellStep (cell most : Int) (p : Int) (s : List Int) : List Int ⊕ (Unit ⊕ List Int) := if countN p.toNat cell.toNat = 0 ∨ ((countN p.toNat cell.toNat : Nat) : Int) > most then .inr (.inl ()) else .inl (s ++ [((countN p.toNat cell.toNat : Nat) : Int)])
theorem foldE_cells (cell most : Int) : ∀ (l : List Int) (s : List Int), foldE (cellStep cell most) (fun s => .inr s) l s = match cntL cell most l with | none => .inl () | some L => .inr (s ++ nat2 L)
  | [], s => by simp [foldE_nil, cntL, nat2]
  | p :: l, s => by
    rw [foldE_cons]
    simp only [cntL]
    by_cases c : countN p.toNat cell.toNat = 0 ∨ ((countN p.toNat cell.toNat : Nat) : Int) > most
    · rw [show cellStep cell most p s = .inr (.inl ()) from if_pos c, if_pos c]
    · rw [show cellStep cell most p s = .inl (s ++ [((countN p.toNat cell.toNat : Nat) : Int)]) from if_neg c, if_neg c]
      simp only
      rw [foldE_cells cell most l]
      cases cntL cell most l with
      | none => rfl
      | some L => simp [nat2]
def cellsR (t : List Int) (cell most : Int) : List Int × (Int × Unit) :=
  if chkT t ≠ 0 then ([], (chkT t, ())) else if wrongCell cell = true then ([], (1, ())) else match cntL cell most t with | none => ([], (18, ())) | some L => (nat2 L, (0, ()))
theorem cells84 (t : List Int) (cell most : Int) : f84 t cell most = some (cellsR t cell most, ()) := by
  unfold f84 f84_k cellsR
  rw [check104]
  simp only [some_bind]
  by_cases c0 : ¬ chkT t = 0
  · rw [if_pos c0, show (chkT t != 0) = true by simp [c0]]; rfl
  have c0 := Decidable.not_not.1 c0
  rw [if_neg (by simp [c0]), c0]
  obtain ⟨ht, hp⟩ := chkT_ok c0
  by_cases c1 : cell < 2
  · have hw : wrongCell cell = true := decide_eq_true (Or.inl c1)
    rw [decide_eq_true c1, hw]; rfl
  by_cases c2 : cell > 1000
  · have hw : wrongCell cell = true := decide_eq_true (Or.inr c2)
    rw [decide_eq_false c1, decide_eq_true c2, hw]; rfl
  have hw : wrongCell cell = false := decide_eq_false (by omega : ¬ (cell < 2 ∨ cell > 1000))
  rw [decide_eq_false c1, decide_eq_false c2, hw]
  simp only [bne_self_eq_false, cond_false, Bool.false_eq_true, if_false]
  unfold f84_l8
  rw [loop_list (g := f84_l8_g cell most t ((List.length t : Nat) : Int)) (0 : Int) t (fun j (s : List Int) => ((j : Int), s)) (fun j s => s.length = j) (cellStep cell most) (fun s => .inr s)
    (fun j s hj hs => by
      have hpj := hp _ (getD_mem (d := 0) hj)
      generalize hp0 : t.getD j 0 = p at *
      have ec : (2 * p + cell).tdiv (2 * cell) = ((countN p.toNat cell.toNat : Nat) : Int) := by
        rw [← count_eq p.toNat cell.toNat (by omega)]
        rw [show 2 * p + cell = ((2 * p.toNat + cell.toNat : Nat) : Int) by omega, show 2 * cell = ((2 * cell.toNat : Nat) : Int) by omega]
        exact Int.ofNat_tdiv _ _
      have hcl := count_le p.toNat cell.toNat (by omega) (by omega)
      refine ⟨?_, fun s' hs' => ?_⟩
      · unfold f84_l8_g f84_l8_k cellStep
        simp only
        rw [dlt hj]
        simp only [cond_true]
        rw [if_pos (in_row hj), Int.toNat_natCast, hp0, wj (by omega)]
        rw [wi (by omega : -9223372036854775808 ≤ 2 * p) (by omega), wi (by omega : -9223372036854775808 ≤ 2 * p + cell) (by omega), wi (by omega : -9223372036854775808 ≤ 2 * cell) (by omega), if_neg (by omega), ec]
        generalize countN p.toNat cell.toNat = n at hcl
        rw [wi (by omega) (by omega)]
        have r1 := room1 (l := s) (n := 1) (b := 8) (c := 1) (by omega) (by decide) (by decide)
        simp only [if_pos r1]
        by_cases k1 : n = 0
        · rw [decide_eq_true (by omega : (n : Int) < 1), if_pos (.inl k1)]; rfl
        rw [decide_eq_false (by omega : ¬ (n : Int) < 1)]
        simp only [cond_false]
        by_cases k2 : (n : Int) > most
        · rw [decide_eq_true k2, if_pos (.inr k2)]; rfl
        rw [decide_eq_false k2, if_neg (by omega)]
        rfl
      · unfold cellStep at hs'
        split at hs'
        · cases hs'
        · cases hs'; simp [hs])
    (fun s hs => by
      unfold f84_l8_g f84_l8_k
      simp only
      rw [dge]; rfl) [] rfl (x0 := ((0 : Int), [])) rfl]
  rw [foldE_cells]
  cases cntL cell most t <;> rfl
theorem counts89 (t : List Int) (cell most : Int) : f89 t cell most = some (cellsR t cell most, ()) := by
  unfold f89 f89_k cellsR
  rw [check106]
  simp only [some_bind]
  by_cases c0 : ¬ chkT t = 0
  · rw [if_pos c0, show (chkT t != 0) = true by simp [c0]]; rfl
  have c0 := Decidable.not_not.1 c0
  rw [if_neg (by simp [c0]), c0]
  obtain ⟨ht, hp⟩ := chkT_ok c0
  by_cases c1 : cell < 2
  · have hw : wrongCell cell = true := decide_eq_true (Or.inl c1)
    rw [decide_eq_true c1, hw]; rfl
  by_cases c2 : cell > 1000
  · have hw : wrongCell cell = true := decide_eq_true (Or.inr c2)
    rw [decide_eq_false c1, decide_eq_true c2, hw]; rfl
  have hw : wrongCell cell = false := decide_eq_false (by omega : ¬ (cell < 2 ∨ cell > 1000))
  rw [decide_eq_false c1, decide_eq_false c2, hw]
  simp only [bne_self_eq_false, cond_false, Bool.false_eq_true, if_false]
  unfold f89_l8
  rw [loop_list (g := f89_l8_g cell most t ((List.length t : Nat) : Int)) (0 : Int) t (fun j (s : List Int) => ((j : Int), s)) (fun j s => s.length = j) (cellStep cell most) (fun s => .inr s)
    (fun j s hj hs => by
      have hpj := hp _ (getD_mem (d := 0) hj)
      generalize hp0 : t.getD j 0 = p at *
      have eq1 : p.tdiv cell = ((p.toNat / cell.toNat : Nat) : Int) := by
        have := Int.ofNat_tdiv p.toNat cell.toNat
        rw [show ((p.toNat : Nat) : Int) = p by omega, show ((cell.toNat : Nat) : Int) = cell by omega] at this
        exact this.symm
      have eq2 : p.tmod cell = ((p.toNat % cell.toNat : Nat) : Int) := by
        have := Int.ofNat_tmod p.toNat cell.toNat
        rw [show ((p.toNat : Nat) : Int) = p by omega, show ((cell.toNat : Nat) : Int) = cell by omega] at this
        exact this.symm
      have hcl := count_le p.toNat cell.toNat (by omega) (by omega)
      have hr := Nat.mod_lt p.toNat (by omega : 0 < cell.toNat)
      have hcn : countN p.toNat cell.toNat = p.toNat / cell.toNat + (if 2 * (p.toNat % cell.toNat) ≥ cell.toNat then 1 else 0) := rfl
      refine ⟨?_, fun s' hs' => ?_⟩
      · unfold f89_l8_g f89_l8_k
        simp only
        rw [dlt hj]
        simp only [cond_true]
        rw [if_pos (in_row hj), Int.toNat_natCast, hp0, wj (by omega), if_neg (by omega), if_neg (by omega), eq1, eq2]
        unfold cellStep
        generalize countN p.toNat cell.toNat = n at hcl hcn
        generalize p.toNat / cell.toNat = q at hcn
        generalize p.toNat % cell.toNat = r at hcn hr
        rw [wi (by omega : -9223372036854775808 ≤ (q : Int)) (by split at hcn <;> omega), wi (by omega : -9223372036854775808 ≤ 2 * (r : Int)) (by omega)]
        have tail : ∀ m : Nat, m ≤ 50001 → f89_t13 cell most (m : Int) t ((List.length t : Nat) : Int) (j : Int) s = some (if m = 0 ∨ (m : Int) > most then .inl () else .inr (s ++ [(m : Int)])) := by
          intro m hm
          unfold f89_t13 f89_t13_k
          have r1 := room1 (l := s) (n := 1) (b := 8) (c := 1) (by omega) (by decide) (by decide)
          simp only [if_pos r1]
          by_cases k1 : m = 0
          · rw [if_pos (.inl k1), show ((m : Int) == 0) = true by simp [k1]]; rfl
          rw [show ((m : Int) == 0) = false by simp [k1]]
          simp only [cond_false]
          by_cases k2 : (m : Int) > most
          · rw [decide_eq_true k2, if_pos (.inr k2)]; rfl
          rw [decide_eq_false k2, if_neg (by omega)]
          rfl
        by_cases k : 2 * r ≥ cell.toNat
        · rw [if_pos k] at hcn
          rw [decide_eq_true (by omega : (2 : Int) * (r : Int) ≥ cell)]
          simp only [cond_true]
          rw [wj (by omega), ← hcn, tail n hcl]
          split <;> rfl
        · rw [if_neg k] at hcn
          rw [decide_eq_false (by omega : ¬ (2 : Int) * (r : Int) ≥ cell)]
          simp only [cond_false]
          rw [show q = n by omega, tail n hcl]
          split <;> rfl
      · unfold cellStep at hs'
        split at hs'
        · cases hs'
        · cases hs'; simp [hs])
    (fun s hs => by
      unfold f89_l8_g f89_l8_k
      simp only
      rw [dge]; rfl) [] rfl (x0 := ((0 : Int), [])) rfl]
  rw [foldE_cells]
  cases cntL cell most t <;> rfl
theorem cntL_ok {cell most : Int} : ∀ {t : List Int} {L : List Nat}, cntL cell most t = some L → L.length = t.length ∧ ∀ n ∈ L, 1 ≤ n ∧ (n : Int) ≤ most
  | [], L, h => by cases h; simp
  | p :: l, L, h => by
    simp only [cntL] at h
    split at h
    · cases h
    · rename_i c
      obtain ⟨L', h1, h2⟩ := Option.map_eq_some_iff.1 h
      subst h2
      obtain ⟨k1, k2⟩ := cntL_ok h1
      refine ⟨by simp [k1], fun n hn => ?_⟩
      rcases List.mem_cons.1 hn with e | hn
      · subst e; omega
      · exact k2 n hn
def unp1 (n : Nat) : List Bool := List.replicate (n - 1) false ++ [true]
def unp (L : List Nat) : List Bool := L.flatMap unp1
theorem unp1_len {n : Nat} (h : 1 ≤ n) : (unp1 n).length = n := by simp [unp1]; omega
def sumN : List Nat → Nat
  | [] => 0
  | n :: l => n + sumN l
theorem sumN_append (a b : List Nat) : sumN (a ++ b) = sumN a + sumN b := by
  induction a with
  | nil => simp [sumN]
  | cons p a ih => simp [sumN, ih]; omega
theorem unp_len : ∀ {L : List Nat}, (∀ n ∈ L, 1 ≤ n) → (unp L).length = sumN L
  | [], _ => rfl
  | n :: L, h => by
    have h1 := unp1_len (h n (List.mem_cons_self ..))
    have h2 := unp_len (L := L) (fun m hm => h m (List.mem_cons_of_mem _ hm))
    simp only [unp] at h2
    simp only [unp, List.flatMap_cons, List.length_append, h1, h2, sumN]
theorem sumN_le {k : Nat} : ∀ {L : List Nat}, (∀ n ∈ L, n ≤ k) → sumN L ≤ L.length * k
  | [], _ => by simp [sumN]
  | n :: L, h => by
    have h1 := h n (List.mem_cons_self ..)
    have h2 := sumN_le (L := L) (fun m hm => h m (List.mem_cons_of_mem _ hm))
    simp only [sumN, List.length_cons, Nat.add_mul]; omega
theorem sum_take (L : List Nat) (j : Nat) : sumN (L.take j) ≤ sumN L := by
  have : L = L.take j ++ L.drop j := (List.take_append_drop j L).symm
  rw [congrArg sumN this, sumN_append]; omega
theorem sum_take1 (L : List Nat) (j : Nat) (hj : j < L.length) : sumN (L.take (j + 1)) = sumN (L.take j) + L.getD j 0 := by
  rw [take_succ_getD (d := 0) hj, sumN_append]; simp [sumN]
theorem nat2_get (L : List Nat) (j : Nat) : (nat2 L).getD j 0 = ((L.getD j 0 : Nat) : Int) := by
  unfold nat2
  rw [List.getD_eq_getElem?_getD, List.getElem?_map, List.getD_eq_getElem?_getD]
  cases L[j]? <;> rfl
theorem nat2_len (L : List Nat) : (nat2 L).length = L.length := by simp [nat2]
def small (L : List Nat) : Prop := L.length ≤ 40000 ∧ ∀ n ∈ L, 1 ≤ n ∧ n ≤ 4
theorem small_sum {L : List Nat} (h : small L) : sumN L ≤ 160000 := by
  have := sumN_le (k := 4) (fun n hn => (h.2 n hn).2)
  have := h.1
  omega
theorem unplaced90 (L : List Nat) (h : small L) : f90 (nat2 L) = some ((unp L, ()), ()) := by
  unfold f90 f90_k f90_l3
  rw [nat2_len]
  have inner : ∀ (j : Int) (n : Nat) (acc : List Bool), acc.length + n ≤ 200000 → f90_l6 (nat2 L) ((List.length L : Nat) : Int) j (n : Int) ((0 : Int), acc) = some (acc ++ List.replicate n false) := by
    intro j n acc hl
    unfold f90_l6
    refine loop_go (fun i => ((i : Int), acc ++ List.replicate i false)) n (by simp) (fun i hi => ?_) ?_
    · unfold f90_l6_g f90_l6_k
      simp only
      rw [dlt hi]
      simp only [cond_true]
      rw [if_pos (room1 (by simp; omega) (by decide) (by decide)), wj (by omega)]
      simp [List.replicate_succ']
    · unfold f90_l6_g f90_l6_k
      simp only
      rw [dge]; rfl
  have := loop_all (g := f90_l3_g (nat2 L) ((List.length L : Nat) : Int)) 0 L (fun j (s : List Bool) => ((j : Int), s)) (fun j s => s.length ≤ 4 * j) (fun s n => s ++ unp1 n) (y := unp L)
    (fun j s hj hs => by
      have hn := h.2 _ (getD_mem (d := 0) hj)
      have hL := h.1
      generalize hn0 : L.getD j 0 = n at *
      refine ⟨?_, by simp [unp1_len hn.1]; omega⟩
      unfold f90_l3_g f90_l3_k
      simp only
      rw [dlt hj]
      simp only [cond_true]
      rw [if_pos (by rw [nat2_len]; exact in_row hj), Int.toNat_natCast, nat2_get, hn0, wj (by omega)]
      have e1 : IntKind.i64.wrap ((n : Int) - 1) = ((n - 1 : Nat) : Int) := by rw [wi (by omega) (by omega)]; omega
      rw [e1, inner _ _ _ (by omega)]
      simp only [some_bind]
      rw [if_pos (room1 (by simp; omega) (by decide) (by decide))]
      simp [unp1]) [] (by simp) (x0 := ((0 : Int), [])) rfl (fun hp => by
      unfold f90_l3_g f90_l3_k
      simp only
      rw [dge]
      simp only [cond_false]
      rw [foldl_app]; rfl)
  rw [this.1]
  rfl
def datas (P : List Bool) (m : Nat) : List Bool := (List.range m).map fun i => P.getD (2 * i + 1) false
def clocks (P : List Bool) (m : Nat) : List Bool := (List.range m).map fun i => P.getD (2 * i) false
theorem datas_len (P : List Bool) (m : Nat) : (datas P m).length = m := by simp [datas]
theorem clocks_len (P : List Bool) (m : Nat) : (clocks P m).length = m := by simp [clocks]
theorem datas_get (P : List Bool) {m i : Nat} (h : i < m) : (datas P m).getD i false = P.getD (2 * i + 1) false := by
  unfold datas
  rw [List.getD_eq_getElem?_getD, List.getElem?_map, List.getElem?_range h]; rfl
theorem clocks_get (P : List Bool) {m i : Nat} (h : i < m) : (clocks P m).getD i false = P.getD (2 * i) false := by
  unfold clocks
  rw [List.getD_eq_getElem?_getD, List.getElem?_map, List.getElem?_range h]; rfl
theorem map_range_set (f : Nat → Bool) (m i : Nat) (b : Bool) : ((List.range m).map f).set i b = (List.range m).map fun k => if k = i then b else f k := by
  apply List.ext_getElem (by simp)
  intro k h1 h2
  rw [List.getElem_set]
  simp only [List.getElem_map, List.getElem_range]
  by_cases e : i = k
  · rw [if_pos e, if_pos e.symm]
  · rw [if_neg e, if_neg (Ne.symm e)]
theorem unp1_get (n i : Nat) : (unp1 n).getD i false = decide (i = n - 1) := by
  unfold unp1
  rw [getD_app, List.length_replicate]
  split
  · rename_i h
    rw [decide_eq_false (by omega), List.getD_eq_getElem?_getD, List.getElem?_replicate, if_pos h]; rfl
  · rename_i h
    by_cases e : i = n - 1
    · rw [decide_eq_true e, e]; simp
    · rw [decide_eq_false e]
      obtain ⟨k, hk⟩ : ∃ k, i - (n - 1) = k + 1 := ⟨i - (n - 1) - 1, by omega⟩
      rw [hk]; rfl
theorem add_get (P : List Bool) (n i : Nat) (hn : 1 ≤ n) : (P ++ unp1 n).getD i false = if i = P.length + n - 1 then true else P.getD i false := by
  rw [getD_app, unp1_get]
  by_cases h : i < P.length
  · rw [if_pos h, if_neg (by omega)]
  · rw [if_neg h]
    by_cases e : i = P.length + n - 1
    · rw [if_pos e, decide_eq_true (by omega)]
    · rw [if_neg e, decide_eq_false (by omega), List.getD_eq_getElem?_getD, List.getElem?_eq_none (by omega)]; rfl
theorem bits85 (L : List Nat) (h : small L) : f85 (nat2 L) = some ((if sumN L % 2 = 1 ∨ sumN L < 2 then ([], ([], ((3 : Int), ()))) else if (sumN L / 2 - 1) % 8 ≠ 0 then ([], ([], ((13 : Int), ()))) else (datas (unp L) (sumN L / 2), (clocks (unp L) (sumN L / 2), ((0 : Int), ())))), ()) := by
  unfold f85 f85_k
  have hsm := small_sum h
  have h1 : ∀ n ∈ L, 1 ≤ n := fun n hn => (h.2 n hn).1
  rw [nat2_len]
  have sum : f85_l3 (nat2 L) (nat2 L) ((List.length L : Nat) : Int) ((0 : Int), (0 : Int)) = some ((sumN L : Nat) : Int) := by
    unfold f85_l3
    have := loop_all (g := f85_l3_g (nat2 L) (nat2 L) ((List.length L : Nat) : Int)) 0 L (fun j (s : Nat) => ((s : Int), (j : Int))) (fun j s => s = sumN (L.take j)) (fun s n => s + n) (y := ((sumN L : Nat) : Int))
      (fun j s hj hs => by
        have h2 := sum_take1 L j hj
        have h3 := sum_take L (j + 1)
        have hL := h.1
        refine ⟨?_, by rw [h2, hs]⟩
        unfold f85_l3_g f85_l3_k
        simp only
        rw [dlt hj]
        simp only [cond_true]
        rw [if_pos (by rw [nat2_len]; exact in_row hj), Int.toNat_natCast, nat2_get, wj (by omega), wi (by omega) (by omega)]
        rfl) 0 rfl (x0 := ((0 : Int), (0 : Int))) rfl (fun hp => by
        unfold f85_l3_g f85_l3_k
        simp only
        rw [dge]
        simp only [cond_false]
        rw [hp, List.take_length])
    exact this.1
  rw [sum]
  simp only [some_bind]
  have e2 : ((sumN L : Nat) : Int).tmod 2 = ((sumN L % 2 : Nat) : Int) := (Int.ofNat_tmod _ 2).symm
  have e3 : ((sumN L : Nat) : Int).tdiv 2 = ((sumN L / 2 : Nat) : Int) := (Int.ofNat_tdiv _ 2).symm
  rw [e2, e3]
  by_cases c1 : sumN L % 2 = 1
  · rw [if_pos (Or.inl c1 : sumN L % 2 = 1 ∨ sumN L < 2), show (((sumN L % 2 : Nat) : Int) == 1) = true by simp [c1]]; rfl
  rw [show (((sumN L % 2 : Nat) : Int) == 1) = false by simp; omega]
  simp only [cond_false]
  by_cases c2 : sumN L < 2
  · rw [if_pos (Or.inr c2 : sumN L % 2 = 1 ∨ sumN L < 2), decide_eq_true (by omega : ((sumN L : Nat) : Int) < 2)]; rfl
  rw [if_neg (by omega : ¬ (sumN L % 2 = 1 ∨ sumN L < 2)), decide_eq_false (by omega : ¬ ((sumN L : Nat) : Int) < 2)]
  simp only [cond_false]
  rw [wi (by omega : -9223372036854775808 ≤ ((sumN L / 2 : Nat) : Int)) (by omega)]
  have hc : (0 : Int) ≤ ((sumN L / 2 : Nat) : Int) ∧ ((sumN L / 2 : Nat) : Int) ≤ ((sumN L / 2 : Nat) : Int) ∧ ((sumN L / 2 : Nat) : Int) * 1 ≤ (most : Int) ∧ 0 < 1 ∧ 0 < 1 := ⟨by omega, by omega, by rw [most_eq]; omega, by decide, by decide⟩
  rw [if_pos hc, if_pos hc, Int.toNat_natCast]
  have rep : ∀ m, List.replicate m false = datas (unp ([] : List Nat)) m := fun m => by
    unfold datas unp
    apply List.ext_getElem (by simp)
    intro i a b; simp
  have rep2 : ∀ m, List.replicate m false = clocks (unp ([] : List Nat)) m := fun m => by
    unfold clocks unp
    apply List.ext_getElem (by simp)
    intro i a b; simp
  have main : f85_l12 ((sumN L : Nat) : Int) (nat2 L) ((List.length L : Nat) : Int) ((0 : Int), (0 : Int), List.replicate (sumN L / 2) false, List.replicate (sumN L / 2) false) = some (datas (unp L) (sumN L / 2), clocks (unp L) (sumN L / 2)) := by
    unfold f85_l12
    refine loop_go (fun j => (((sumN (L.take j) : Nat) : Int), (j : Int), datas (unp (L.take j)) (sumN L / 2), clocks (unp (L.take j)) (sumN L / 2))) L.length ?_ (fun j hj => ?_) ?_
    · simp only [List.take_zero, sumN]
      rw [← rep, ← rep2]; rfl
    · have h2 := sum_take1 L j hj
      have h3 := sum_take L (j + 1)
      have hn := h.2 _ (getD_mem (d := 0) hj)
      have hul : (unp (L.take j)).length = sumN (L.take j) := unp_len fun n hn => h1 n (List.mem_of_mem_take hn)
      have hu : unp (L.take (j + 1)) = unp (L.take j) ++ unp1 (L.getD j 0) := flatMap_take_succ hj unp1
      have hL := h.1
      rw [hu]
      unfold f85_l12_g f85_l12_k
      simp only
      rw [dlt hj]
      simp only [cond_true]
      rw [if_pos (by rw [nat2_len]; exact in_row hj), Int.toNat_natCast, nat2_get, wj (by omega)]
      rw [h2]
      generalize L.getD j 0 = n at *
      generalize hs : sumN (L.take j) = s at *
      generalize hP : unp (L.take j) = P at *
      have ea : IntKind.i64.wrap ((s : Int) + (n : Int)) = ((s + n : Nat) : Int) := by rw [wi (by omega) (by omega)]; omega
      rw [ea]
      have m2 : ((s + n : Nat) : Int).tmod 2 = (((s + n) % 2 : Nat) : Int) := (Int.ofNat_tmod _ 2).symm
      have d2 : ((s + n : Nat) : Int).tdiv 2 = (((s + n) / 2 : Nat) : Int) := (Int.ofNat_tdiv _ 2).symm
      rw [m2, d2, wi (by omega : -9223372036854775808 ≤ (((s + n) / 2 : Nat) : Int)) (by omega)]
      by_cases c : (s + n) % 2 = 0
      · rw [show ((((s + n) % 2 : Nat) : Int) == 0) = true by simp [c]]
        simp only [cond_true]
        have ev : IntKind.i64.wrap ((((s + n) / 2 : Nat) : Int) - 1) = (((s + n) / 2 - 1 : Nat) : Int) := by rw [wi (by omega) (by omega)]; omega
        rw [ev, if_pos (by rw [datas_len]; omega), Int.toNat_natCast]
        congr 3
        have f1 : (datas P (sumN L / 2)).set ((s + n) / 2 - 1) true = datas (P ++ unp1 n) (sumN L / 2) := by
          unfold datas
          rw [map_range_set]
          apply List.map_congr_left
          intro i _
          rw [add_get P n _ hn.1, hul]
          by_cases e : i = (s + n) / 2 - 1
          · rw [if_pos e, if_pos (by omega)]
          · rw [if_neg e, if_neg (by omega)]
        have f2 : clocks P (sumN L / 2) = clocks (P ++ unp1 n) (sumN L / 2) := by
          unfold clocks
          apply List.map_congr_left
          intro i _
          rw [add_get P n _ hn.1, hul, if_neg (by omega)]
        rw [f1, ← f2]
      · rw [show ((((s + n) % 2 : Nat) : Int) == 0) = false by simp; omega]
        simp only [cond_false]
        rw [if_pos (by rw [clocks_len]; omega), Int.toNat_natCast]
        congr 3
        have f1 : (clocks P (sumN L / 2)).set ((s + n) / 2) true = clocks (P ++ unp1 n) (sumN L / 2) := by
          unfold clocks
          rw [map_range_set]
          apply List.map_congr_left
          intro i _
          rw [add_get P n _ hn.1, hul]
          by_cases e : i = (s + n) / 2
          · rw [if_pos e, if_pos (by omega)]
          · rw [if_neg e, if_neg (by omega)]
        have f2 : datas P (sumN L / 2) = datas (P ++ unp1 n) (sumN L / 2) := by
          unfold datas
          apply List.map_congr_left
          intro i _
          rw [add_get P n _ hn.1, hul, if_neg (by omega)]
        rw [f1, ← f2]
    · unfold f85_l12_g f85_l12_k
      simp only
      rw [dge, List.take_length]; rfl
  rw [main]
  simp only [some_bind]
  have ev : IntKind.i64.wrap (((sumN L / 2 : Nat) : Int) - 1) = ((sumN L / 2 - 1 : Nat) : Int) := by rw [wi (by omega) (by omega)]; omega
  have m8 : ((sumN L / 2 - 1 : Nat) : Int).tmod 8 = (((sumN L / 2 - 1) % 8 : Nat) : Int) := (Int.ofNat_tmod _ 8).symm
  rw [ev, m8]
  by_cases c3 : (sumN L / 2 - 1) % 8 = 0
  · rw [show ((((sumN L / 2 - 1) % 8 : Nat) : Int) != 0) = false by simp [c3], if_neg (by simp [c3])]; rfl
  · rw [show ((((sumN L / 2 - 1) % 8 : Nat) : Int) != 0) = true by simp; omega, if_pos c3]; rfl
end Go.Proofs.Ytlgbhaigpecdoaa.V
