/- Tape: what is read. -/
import Derived.Test.YtlgbhaigpecdoaaVPureTapeA
set_option linter.unusedVariables false
set_option linter.unusedSimpArgs false
namespace Go.Proofs.Ytlgbhaigpecdoaa.V
open Go

structure Trk (T : List Int) : Prop where
  len : T.length ≤ 40000
  row : ∀ x ∈ T, 1 ≤ x ∧ x ≤ 100000
def badP (x : Int) : Bool := decide (x < 1) || decide (x > 100000)
def errT (T : List Int) : Int := if ((List.length T : Nat) : Int) > 40000 then 2 else if T.any badP = true then 1 else 0
theorem any_of {α : Type} {d : α} {l : List α} {f : α → Bool} {m : Nat} (h : m < l.length) (hf : f (l.getD m d) = true) : l.any f = true := List.any_eq_true.2 ⟨_, getD_mem (d := d) h, hf⟩
theorem none_of {α : Type} {d : α} {l : List α} {f : α → Bool} (h : ∀ j, j < l.length → f (l.getD j d) = false) : l.any f = false := by
  rw [List.any_eq_false]
  intro x hx
  obtain ⟨j, hj, rfl⟩ := mem_getD d hx
  rw [h j hj]; simp
theorem chk104 (T : List Int) (hl : T.length ≤ 140737488355328) : f104 T = some ((errT T, ()), ()) := by
  unfold f104 f104_k errT
  by_cases c0 : ((List.length T : Nat) : Int) > 40000
  · rw [decide_eq_true c0, if_pos c0]; rfl
  rw [decide_eq_false c0, if_neg c0]
  simp only [cond_false, f104_l4]
  rcases search (Y := Unit ⊕ Unit) (g := f104_l4_g T ((List.length T : Nat) : Int)) T.length (fun j => badP (T.getD j 0)) (fun j => .inl ()) (.inr ()) (fun j hj => by
    unfold f104_l4_g f104_l4_k
    rw [lt_of hj]
    simp only [cond_true]
    rw [if_pos ⟨by omega, by omega⟩, wi (by omega) (by omega)]
    simp only [Int.toNat_natCast, badP]
    by_cases c1 : T.getD j 0 < 1 <;> by_cases c2 : T.getD j 0 > 100000 <;> simp only [c1, c2, decide_true, decide_false, cond_true, cond_false, Bool.or_true, Bool.true_or, Bool.or_false, if_true, if_false] <;> rfl) (by
    unfold f104_l4_g f104_l4_k
    simp) with ⟨m, h1, h2, h3, e⟩ | ⟨h1, e⟩
  · rw [e, if_pos (any_of h1 h2)]; rfl
  · rw [e, none_of h1]; rfl
theorem chk106 (T : List Int) (hl : T.length ≤ 140737488355328) : f106 T = some ((errT T, ()), ()) := by
  unfold f106 f106_k errT
  by_cases c0 : ((List.length T : Nat) : Int) > 40000
  · rw [decide_eq_true c0, if_pos c0]; rfl
  rw [decide_eq_false c0, if_neg c0]
  simp only [cond_false]
  unfold f137 f137_k f156 f156_k
  simp only [f156_l2]
  rcases search (Y := Int ⊕ Unit) (g := f156_l2_g T ((List.length T : Nat) : Int)) T.length (fun j => badP (T.getD j 0)) (fun j => .inl (j : Int)) (.inr ()) (fun j hj => by
    unfold f156_l2_g f156_l2_k
    rw [lt_of hj]
    simp only [cond_true]
    rw [if_pos ⟨by omega, by omega⟩, wi (by omega) (by omega)]
    simp only [Int.toNat_natCast, badP, f138, f138_k]
    have e : decide (T.getD j 0 ≤ 0) = decide (T.getD j 0 < 1) := decide_eq_decide.2 (by omega)
    rw [e]
    by_cases c1 : T.getD j 0 < 1 <;> by_cases c2 : T.getD j 0 > 100000 <;> simp only [c1, c2, decide_true, decide_false, cond_true, cond_false, Bool.or_true, Bool.true_or, Bool.or_false, if_true, if_false, some_bind] <;> rfl) (by
    unfold f156_l2_g f156_l2_k
    simp) with ⟨m, h1, h2, h3, e⟩ | ⟨h1, e⟩
  · rw [e, if_pos (any_of h1 h2)]
    simp only [some_bind, Sum.elim_inl]
    rw [decide_eq_true (by omega)]
    rfl
  · rw [e, none_of h1]; rfl
theorem errT_ok {T : List Int} (h : errT T = 0) : Trk T := by
  unfold errT at h
  split at h
  · omega
  · split at h
    · omega
    · rename_i h1 h2
      refine ⟨by omega, fun x hx => ?_⟩
      have h2 : T.any badP = false := by simpa using h2
      rw [List.any_eq_false] at h2
      have := h2 x hx
      simp only [badP, Bool.or_eq_true, decide_eq_true_eq] at this
      omega
/-! ### Pulses -/
def rnd (u x : Int) : Int := (2 * x + u) / (2 * u)
def isN (q n : Int) : Bool := decide (4 * q ≥ 3 * n) && decide (4 * q ≤ 5 * n)
abbrev Reader := List Int × (Int × (Int × Unit))
abbrev rdr (T : List Int) (p : Nat) (u : Int) : Reader := (T, ((p : Int), (u, ())))
theorem rnd_bound {u x : Int} (hu : 4 ≤ u) (hx : 0 ≤ x) : 0 ≤ rnd u x ∧ rnd u x ≤ 2 * x + u := by
  unfold rnd
  exact ⟨Int.ediv_nonneg (by omega) (by omega), Int.ediv_le_self _ (by omega)⟩
theorem rnd_eq {u x : Int} (hu : 4 ≤ u) (hx : 0 ≤ x) : rnd u x = if 2 * (x % u) ≥ u then x / u + 1 else x / u := by
  have h1 := Int.emod_nonneg x (show u ≠ 0 by omega)
  have h2 := Int.emod_lt_of_pos x (show 0 < u by omega)
  have h3 := Int.mul_ediv_add_emod x u
  have e : 2 * x + u = (2 * (x % u) + u) + (2 * u) * (x / u) := by
    rw [Int.mul_assoc]; omega
  unfold rnd
  rw [e, Int.add_mul_ediv_left _ _ (by omega)]
  split
  · have e2 : (2 * (x % u) + u) = (2 * (x % u) - u) + (2 * u) * 1 := by omega
    rw [e2, Int.add_mul_ediv_left _ _ (by omega), Int.ediv_eq_zero_of_lt (by omega) (by omega)]
    omega
  · rw [Int.ediv_eq_zero_of_lt (by omega) (by omega)]
    omega
theorem pulse135 {T : List Int} (hT : Trk T) {u : Int} (hu : 4 ≤ u ∧ u ≤ 1000) {p : Nat} (hp : p < T.length) : f135 (rdr T p u) = some ((rnd u (T.getD p 0), ()), (rdr T (p + 1) u, ())) := by
  unfold f135 f135_k
  have hl := hT.len
  have hx := hT.row _ (getD_mem (d := 0) hp)
  simp only
  rw [wi (n := (p : Int) + 1) (by omega) (by omega), wi (n := (p : Int) + 1 - 1) (by omega) (by omega)]
  rw [if_pos ⟨by omega, by omega⟩, show Int.toNat ((p : Int) + 1 - 1) = p by omega]
  rw [wi (n := 2 * T.getD p 0) (by omega) (by omega), wi (n := 2 * T.getD p 0 + u) (by omega) (by omega), wi (n := 2 * u) (by omega) (by omega)]
  rw [if_neg (by omega), Int.tdiv_eq_ediv_of_nonneg (by omega)]
  have := rnd_bound (u := u) (x := T.getD p 0) (by omega) (by omega)
  unfold rnd at this ⊢
  rw [wi (by omega) (by omega)]
  rfl
theorem is134 {q n : Int} (hq : 0 ≤ q ∧ q ≤ 1000000) (hn : 0 ≤ n ∧ n ≤ 100) : f134 q n = some ((isN q n, ()), ()) := by
  unfold f134 f134_k isN
  rw [wi (n := 4 * q) (by omega) (by omega), wi (n := 3 * n) (by omega) (by omega), wi (n := 5 * n) (by omega) (by omega)]
  simp only
  cases decide (4 * q ≥ 3 * n) <;> rfl
theorem about139 {x u n : Int} (hx : 1 ≤ x ∧ x ≤ 100000) (hu : 4 ≤ u ∧ u ≤ 1000) (hn : 0 ≤ n ∧ n ≤ 100) : f139 x u n = some ((isN (rnd u x) n, ()), ()) := by
  have h1 := Int.emod_nonneg x (show u ≠ 0 by omega)
  have h2 := Int.emod_lt_of_pos x (show 0 < u by omega)
  have h3 : 0 ≤ x / u := Int.ediv_nonneg (by omega) (by omega)
  have h4 : x / u ≤ x := Int.ediv_le_self _ (by omega)
  have key : ∀ c : Int, 0 ≤ c → c ≤ 200000 → f139_t4 n c = some (isN c n) := by
    intro c h1 h2
    unfold f139_t4 f139_t4_k isN
    rw [wi (n := 4 * c) (by omega) (by omega), wi (n := 3 * n) (by omega) (by omega), wi (n := 5 * n) (by omega) (by omega)]
    simp only
    cases decide (4 * c ≥ 3 * n) <;> rfl
  unfold f139 f139_k
  rw [if_neg (by omega), if_neg (by omega), Int.tdiv_eq_ediv_of_nonneg (by omega), Int.tmod_eq_emod_of_nonneg (by omega), wi (n := x / u) (by omega) (by omega), wi (n := 2 * (x % u)) (by omega) (by omega), wi (n := x / u + 1) (by omega) (by omega), rnd_eq (by omega) (by omega)]
  simp only
  by_cases c : 2 * (x % u) ≥ u
  · rw [decide_eq_true c, if_pos c]
    simp only [cond_true]
    rw [key _ (by omega) (by omega)]
    rfl
  · rw [decide_eq_false c, if_neg c]
    simp only [cond_false]
    rw [key _ (by omega) (by omega)]
    rfl
/-! ### Bits -/
def bitE (a b : Int) : Int × Int := if isN a 2 = true ∧ isN b 2 = true then (0, 0) else if isN a 4 = true ∧ isN b 4 = true then (1, 0) else (0, 18)
theorem bitE_cases (a b : Int) : (bitE a b).2 = 18 ∨ ((bitE a b).2 = 0 ∧ ((bitE a b).1 = 0 ∨ (bitE a b).1 = 1)) := by
  unfold bitE; split
  · simp
  · split <;> simp
theorem bit155 {T : List Int} (hT : Trk T) {u : Int} (hu : 4 ≤ u ∧ u ≤ 1000) {p : Nat} (hp : p + 2 ≤ T.length) :
    f155 (rdr T p u) = some (((bitE (rnd u (T.getD p 0)) (rnd u (T.getD (p + 1) 0))).1, ((bitE (rnd u (T.getD p 0)) (rnd u (T.getD (p + 1) 0))).2, ())), (rdr T (p + 2) u, ())) := by
  have hl := hT.len
  have h1 := hT.row _ (getD_mem (d := 0) (show p < T.length by omega))
  have h2 := hT.row _ (getD_mem (d := 0) (show p + 1 < T.length by omega))
  have b1 := rnd_bound (u := u) (x := T.getD p 0) (by omega) (by omega)
  have b2 := rnd_bound (u := u) (x := T.getD (p + 1) 0) (by omega) (by omega)
  unfold f155 f155_k
  simp only
  rw [wi (by omega) (by omega), decide_eq_false (by omega)]
  simp only [cond_false]
  rw [pulse135 hT hu (by omega)]
  simp only [some_bind]
  rw [pulse135 hT hu (by omega)]
  simp only [some_bind]
  rw [is134 (by omega) (by omega), is134 (by omega) (by omega), is134 (by omega) (by omega), is134 (by omega) (by omega)]
  simp only [some_bind]
  unfold bitE
  cases isN (rnd u (T.getD p 0)) 2 <;> cases isN (rnd u (T.getD (p + 1) 0)) 2 <;> cases isN (rnd u (T.getD p 0)) 4 <;> cases isN (rnd u (T.getD (p + 1) 0)) 4 <;> rfl
theorem bit155e {T : List Int} (hT : Trk T) {u : Int} {p : Nat} (hp : T.length < p + 2) (hp2 : p ≤ T.length) :
    f155 (rdr T p u) = some ((0, (13, ())), (rdr T p u, ())) := by
  have hl := hT.len
  unfold f155 f155_k
  simp only
  rw [wi (by omega) (by omega), decide_eq_true (by omega)]
  rfl
theorem getD_drop (T : List Int) (p j : Nat) : (T.drop p).getD j 0 = T.getD (p + j) 0 := by simp [List.getD_eq_getElem?_getD, List.getElem?_drop]
theorem excl {q : Int} (h : isN q 4 = true) : isN q 2 = false := by
  unfold isN at *
  simp only [Bool.and_eq_true, decide_eq_true_eq, Bool.and_eq_false_iff, decide_eq_false_iff_not] at *
  omega
theorem step24 {T : List Int} (hT : Trk T) {u : Int} (hu : 4 ≤ u ∧ u ≤ 1000) {p : Nat} (hp : p + 2 ≤ T.length) (a2 : Int) (a5 : Blk) (a6 : List Int) {acc i : Int} (hi : 0 ≤ i ∧ i < 8) (ha : 0 ≤ acc ∧ acc < 256) :
    f107_l24_g u a2 a5 a6 (T.drop p, acc, i) = some (if (bitE (rnd u (T.getD p 0)) (rnd u (T.getD (p + 1) 0))).2 = 0 then .inl (T.drop (p + 2), 2 * acc + (bitE (rnd u (T.getD p 0)) (rnd u (T.getD (p + 1) 0))).1, i + 1) else .inr (.inl (18, (0, ([], ()))))) := by
  have hl := hT.len
  have h1 := hT.row _ (getD_mem (d := 0) (show p < T.length by omega))
  have h2 := hT.row _ (getD_mem (d := 0) (show p + 1 < T.length by omega))
  unfold f107_l24_g f107_l24_k
  simp only [List.length_drop]
  rw [decide_eq_true hi.2]
  simp only [cond_true]
  rw [decide_eq_false (by omega)]
  simp only [cond_false]
  rw [getD_drop, getD_drop, Nat.add_zero]
  rw [about139 h1 hu (by omega), about139 h1 hu (by omega), about139 h2 hu (by omega), about139 h2 hu (by omega)]
  rw [if_pos ⟨by omega, by omega⟩, if_pos ⟨by omega, by omega⟩, if_pos ⟨by omega, by omega⟩, if_pos ⟨by omega, by omega⟩, if_pos ⟨by omega, by omega⟩, if_pos ⟨by omega, by omega, by omega⟩]
  simp only [some_bind]
  rw [List.take_of_length_le (by simp; omega), List.drop_drop, wi (n := 2 * acc) (by omega) (by omega), wi (n := 2 * acc + 1) (by omega) (by omega), wi (n := i + 1) (by omega) (by omega)]
  have x1 := @excl (rnd u (T.getD p 0))
  have x2 := @excl (rnd u (T.getD (p + 1) 0))
  have eq0 : 2 * acc + 0 = 2 * acc := by omega
  unfold bitE
  cases h1 : isN (rnd u (T.getD p 0)) 2 <;> cases h2 : isN (rnd u (T.getD (p + 1) 0)) 2 <;> cases h3 : isN (rnd u (T.getD p 0)) 4 <;> cases h4 : isN (rnd u (T.getD (p + 1) 0)) 4 <;> simp_all
theorem step24e {T : List Int} {u : Int} {p : Nat} (hp : T.length < p + 2) (a2 : Int) (a5 : Blk) (a6 : List Int) {acc i : Int} (hi : 0 ≤ i ∧ i < 8) :
    f107_l24_g u a2 a5 a6 (T.drop p, acc, i) = some (.inr (.inl (13, (0, ([], ()))))) := by
  unfold f107_l24_g f107_l24_k
  simp only [List.length_drop]
  rw [decide_eq_true hi.2]
  simp only [cond_true]
  rw [decide_eq_true (by omega)]
  rfl
/-! ### Bytes -/
theorem byteSim {T : List Int} (hT : Trk T) {u : Int} (hu : 4 ≤ u ∧ u ≤ 1000) {p : Nat} (hp : p ≤ T.length) (a2 : Int) (a5 : Blk) (a6 : List Int) :
    (∃ e r', e ≠ 0 ∧ f136 (rdr T p u) = some ((0, (e, ())), (r', ())) ∧ f107_l24 u a2 a5 a6 (T.drop p, 0, 0) = some (.inl (e, (0, ([], ())))))
    ∨ (∃ v : Int, 0 ≤ v ∧ v < 256 ∧ p + 16 ≤ T.length ∧ f136 (rdr T p u) = some ((v, (0, ())), (rdr T (p + 16) u, ())) ∧ f107_l24 u a2 a5 a6 (T.drop p, 0, 0) = some (.inr (T.drop (p + 16), v))) := by
  have sim := loop_sim (g := f136_l3_g) (g' := f107_l24_g u a2 a5 a6)
    (fun x x' => ∃ (k : Nat) (acc : Int), k ≤ 8 ∧ 0 ≤ acc ∧ acc < 2 ^ k ∧ p + 2 * k ≤ T.length ∧ x = (acc, (k : Int), rdr T (p + 2 * k) u) ∧ x' = (T.drop (p + 2 * k), acc, (k : Int)))
    (fun y y' => (∃ e r', e ≠ 0 ∧ y = .inl (e, r') ∧ y' = .inl (e, (0, ([], ())))) ∨ (∃ v : Int, 0 ≤ v ∧ v < 256 ∧ p + 16 ≤ T.length ∧ y = .inr (v, rdr T (p + 16) u) ∧ y' = .inr (T.drop (p + 16), v)))
    (fun x => 8 - x.2.1.toNat) (by
      intro x x' ⟨k, acc, hk, ha0, ha1, hpl, ex, ex'⟩
      subst ex; subst ex'
      by_cases h8 : k = 8
      · subst h8
        left
        refine ⟨_, _, ?_, ?_, .inr ⟨acc, ha0, by simpa using ha1, hpl, rfl, rfl⟩⟩
        · unfold f136_l3_g f136_l3_k
          rw [decide_eq_false (by simp)]
          rfl
        · unfold f107_l24_g f107_l24_k
          rw [decide_eq_false (by simp)]
          rfl
      · have h2 : acc < 128 := by
          have : k ≤ 7 := by omega
          have h3 : (2 : Int) ^ k ≤ 2 ^ 7 := by
            have := Nat.pow_le_pow_right (n := 2) (by decide) this
            exact_mod_cast this
          have : (2 : Int) ^ 7 = 128 := rfl
          omega
        by_cases hs : T.length < p + 2 * k + 2
        · left
          refine ⟨.inl (13, rdr T (p + 2 * k) u), .inl (13, (0, ([], ()))), ?_, step24e hs _ _ _ (by omega), .inl ⟨13, _, by decide, rfl, rfl⟩⟩
          unfold f136_l3_g f136_l3_k
          simp only
          rw [decide_eq_true (by omega)]
          simp only [cond_true]
          rw [bit155e hT hs (by omega)]
          rfl
        · have e1 := bit155 hT hu (p := p + 2 * k) (by omega)
          have e2 := step24 hT hu (p := p + 2 * k) (by omega) a2 a5 a6 (acc := acc) (i := (k : Int)) (by omega) (by omega)
          rcases bitE_cases (rnd u (T.getD (p + 2 * k) 0)) (rnd u (T.getD (p + 2 * k + 1) 0)) with hb | ⟨hb, hb1⟩
          · left
            rw [hb] at e1 e2
            refine ⟨.inl (18, rdr T (p + 2 * k + 2) u), .inl (18, (0, ([], ()))), ?_, by rw [e2]; rfl, .inl ⟨18, _, by decide, rfl, rfl⟩⟩
            unfold f136_l3_g f136_l3_k
            simp only
            rw [decide_eq_true (by omega)]
            simp only [cond_true]
            rw [e1]
            rfl
          · right
            rw [hb, if_pos rfl] at e2
            rw [hb] at e1
            have e1 := e1
            obtain ⟨b, hbb⟩ : ∃ b, (bitE (rnd u (T.getD (p + 2 * k) 0)) (rnd u (T.getD (p + 2 * k + 1) 0))).1 = b := ⟨_, rfl⟩
            rw [hbb] at e1 e2 hb1
            refine ⟨(2 * acc + b, ((k + 1 : Nat) : Int), rdr T (p + 2 * k + 2) u), _, ?_, e2, ⟨k + 1, 2 * acc + b, by omega, by omega, by rw [Int.pow_succ]; omega, by omega, rfl, rfl⟩, by
              show 8 - ((k + 1 : Nat) : Int).toNat < 8 - (k : Int).toNat
              omega⟩
            unfold f136_l3_g f136_l3_k
            simp only
            rw [decide_eq_true (by omega)]
            simp only [cond_true]
            rw [e1]
            simp only [some_bind, bne_self_eq_false, cond_false]
            rw [wi (n := 2 * acc) (by omega) (by omega), wi (n := 2 * acc + b) (by omega) (by omega), wi (n := (k : Int) + 1) (by omega) (by omega)]
            rfl)
    (0, 0, rdr T p u) (T.drop p, 0, 0) ⟨0, 0, by omega, by omega, by simp, by omega, rfl, rfl⟩
  obtain ⟨y, y', e1, e2, h⟩ := sim
  have e3 : f136 (rdr T p u) = (Sum.elim (fun z5 : Int × Reader => some (((0 : Int), (z5.1, ())), (z5.2, ()))) (fun z6 : Int × Reader => some ((z6.1, ((0 : Int), ())), (z6.2, ())))) y := by
    unfold f136 f136_k f136_l3
    rw [e1]
    rfl
  rw [e3]
  rcases h with ⟨e, r', h0, hy, hy'⟩ | ⟨v, h0, h1, hl, hy, hy'⟩
  · left
    refine ⟨e, r', h0, by rw [hy]; rfl, ?_⟩
    unfold f107_l24
    rw [e2, hy']
  · right
    refine ⟨v, h0, h1, hl, by rw [hy]; rfl, ?_⟩
    unfold f107_l24
    rw [e2, hy']
/-! ### The head of a block -/
theorem sum_bound : ∀ {l : List Int}, (∀ x ∈ l, 1 ≤ x ∧ x ≤ 100000) → 0 ≤ l.sum ∧ l.sum ≤ 100000 * (l.length : Int)
  | [], _ => by simp
  | x :: l, h => by
    have h1 := h x (List.mem_cons_self ..)
    have h2 := sum_bound (l := l) (fun y hy => h y (List.mem_cons_of_mem _ hy))
    simp only [List.sum_cons, List.length_cons]
    omega
theorem sum_take {l : List Int} {j : Nat} (h : j < l.length) : (l.take (j + 1)).sum = (l.take j).sum + l.getD j 0 := by
  rw [take_succ_getD (d := 0) h]; simp
theorem sum105 {l : List Int} (h : ∀ x ∈ l, 1 ≤ x ∧ x ≤ 100000) (hl : l.length ≤ 40000) (a4 : Reader) (a5 : Blk) : f105_l5 l ((List.length l : Nat) : Int) a4 a5 (0, 0) = some l.sum := by
  unfold f105_l5
  refine loop_go (fun j => ((l.take j).sum, (j : Int))) l.length (by simp) (fun j hj => ?_) ?_
  · unfold f105_l5_g f105_l5_k
    simp only
    rw [lt_of hj]
    simp only [cond_true]
    have hm := h _ (getD_mem (d := 0) hj)
    have hs := sum_bound (in_take h j)
    rw [List.length_take] at hs
    rw [if_pos ⟨by omega, by omega⟩]
    simp only [Int.toNat_natCast]
    rw [wi (n := (l.take j).sum + l.getD j 0) (by omega) (by omega), wi (n := (j : Int) + 1) (by omega) (by omega), sum_take hj]
    rfl
  · unfold f105_l5_g f105_l5_k
    simp
theorem sum107 {l : List Int} (h : ∀ x ∈ l, 1 ≤ x ∧ x ≤ 100000) (hl : l.length ≤ 40000) (a0 : List Int) (a5 : Blk) : f107_l5 a0 l ((List.length l : Nat) : Int) a5 (0, 0) = some l.sum := by
  unfold f107_l5
  refine loop_go (fun j => ((l.take j).sum, (j : Int))) l.length (by simp) (fun j hj => ?_) ?_
  · unfold f107_l5_g f107_l5_k
    simp only
    rw [lt_of hj]
    simp only [cond_true]
    have hm := h _ (getD_mem (d := 0) hj)
    have hs := sum_bound (in_take h j)
    rw [List.length_take] at hs
    rw [if_pos ⟨by omega, by omega⟩]
    simp only [Int.toNat_natCast]
    rw [wi (n := (l.take j).sum + l.getD j 0) (by omega) (by omega), wi (n := (j : Int) + 1) (by omega) (by omega), sum_take hj]
    rfl
  · unfold f107_l5_g f107_l5_k
    simp
def nn (j : Nat) : Int := if j < 16 then 8 else 16
def badH (T : List Int) (u : Int) (p j : Nat) : Bool := !isN (rnd u (T.getD (p + j) 0)) (nn j)
theorem head105 {T : List Int} (hT : Trk T) {u : Int} (hu : 4 ≤ u ∧ u ≤ 1000) {p : Nat} (hp : p + 17 ≤ T.length) (blk : Blk) :
    (∃ m r', m < 16 ∧ badH T u p m = true ∧ f105_l13 blk (0, rdr T p u) = some (.inl (r', (0, ([], ()))))) ∨ ((∀ j, j < 16 → badH T u p j = false) ∧ f105_l13 blk (0, rdr T p u) = some (.inr (rdr T (p + 16) u))) := by
  have hl := hT.len
  rcases searchS (Y := f105_l13_Y) (g := f105_l13_g blk) (fun j => ((j : Int), rdr T (p + j) u)) 16 (badH T u p) (fun j => .inl (rdr T (p + j + 1) u, (0, ([], ())))) (.inr (rdr T (p + 16) u)) (fun j hj _ => by
    unfold f105_l13_g f105_l13_k
    simp only
    rw [decide_eq_true (by omega)]
    simp only [cond_true]
    rw [pulse135 hT hu (by omega)]
    simp only [some_bind]
    have hx := hT.row _ (getD_mem (d := 0) (show p + j < T.length by omega))
    have hb := rnd_bound (u := u) (x := T.getD (p + j) 0) (by omega) (by omega)
    rw [is134 (by omega) (by omega)]
    simp only [some_bind]
    rw [wi (by omega) (by omega)]
    have e : badH T u p j = !isN (rnd u (T.getD (p + j) 0)) 8 := by unfold badH nn; rw [if_pos hj]
    rw [e]
    cases isN (rnd u (T.getD (p + j) 0)) 8 <;> rfl) (fun _ => by
    unfold f105_l13_g f105_l13_k
    simp) with ⟨m, h1, h2, h3, e⟩ | ⟨h1, e⟩
  · exact .inl ⟨m, _, h1, h2, e⟩
  · exact .inr ⟨h1, e⟩
theorem getD_take {l : List Int} {n j : Nat} (h : j < n) : (l.take n).getD j 0 = l.getD j 0 := by
  simp [List.getD_eq_getElem?_getD, List.getElem?_take_of_lt h]
theorem head107 {T : List Int} (hT : Trk T) {u : Int} (hu : 4 ≤ u ∧ u ≤ 1000) {p : Nat} (hp : p + 17 ≤ T.length) (a0 : List Int) (blk : Blk) :
    (∃ m, m < 17 ∧ badH T u p m = true ∧ f107_l13 a0 u ((T.drop p).take 17) 17 blk 0 = some (.inl (0, ([], ())))) ∨ ((∀ j, j < 17 → badH T u p j = false) ∧ f107_l13 a0 u ((T.drop p).take 17) 17 blk 0 = some (.inr ())) := by
  have hl := hT.len
  rcases searchS (Y := f107_l13_Y) (g := f107_l13_g a0 u ((T.drop p).take 17) 17 blk) (fun j => (j : Int)) 17 (badH T u p) (fun j => .inl (0, ([], ()))) (.inr ()) (fun j hj _ => by
    unfold f107_l13_g f107_l13_k
    simp only
    rw [decide_eq_true (by omega)]
    simp only [cond_true]
    rw [if_pos ⟨by omega, by simp; omega⟩, Int.tdiv_eq_ediv_of_nonneg (by omega), wi (n := (j : Int) / 16) (by omega) (by omega), if_pos ⟨by omega, by omega⟩]
    simp only [Int.toNat_natCast]
    rw [getD_take hj, getD_drop]
    have hx := hT.row _ (getD_mem (d := 0) (show p + j < T.length by omega))
    have en : ([8, 16] : List Int).getD ((j : Int) / 16).toNat 0 = nn j := by
      unfold nn
      split
      · rw [show ((j : Int) / 16).toNat = 0 by omega]; rfl
      · rw [show ((j : Int) / 16).toNat = 1 by omega]; rfl
    rw [en, about139 hx hu (by unfold nn; split <;> omega)]
    simp only [some_bind]
    rw [wi (by omega) (by omega)]
    unfold badH
    cases isN (rnd u (T.getD (p + j) 0)) (nn j) <;> rfl) (fun _ => by
    unfold f107_l13_g f107_l13_k
    simp) with ⟨m, h1, h2, h3, e⟩ | ⟨h1, e⟩
  · exact .inl ⟨m, h1, h2, e⟩
  · exact .inr ⟨h1, e⟩
/-! ### The bytes of a block -/
theorem bytesSim {T : List Int} (hT : Trk T) {u : Int} (hu : 4 ≤ u ∧ u ≤ 1000) {p : Nat} (hp : p ≤ T.length) (b1 b2 : Blk) :
    ∃ y y', f105_l21 b1 (0, 3, rdr T p u, []) = some y ∧ f107_l21 u b2 (T.drop p, 3, []) = some y' ∧
      ((∃ e r', e ≠ 0 ∧ y = .inl (e, r', (0, ([], ()))) ∧ y' = .inl (e, (0, ([], ())))) ∨ (∃ (q : Nat) (b : List Int), p ≤ q ∧ q ≤ T.length ∧ 3 ≤ b.length ∧ b.length ≤ 259 ∧ Bytes b ∧ y = .inr (rdr T q u, b) ∧ y' = .inr (T.drop q, b))) := by
  unfold f105_l21 f107_l21
  refine loop_sim (g := f105_l21_g b1) (g' := f107_l21_g u b2)
    (fun x x' => ∃ (q : Nat) (b : List Int) (need : Int), p ≤ q ∧ q ≤ T.length ∧ 3 ≤ need ∧ need ≤ 259 ∧ (b.length : Int) ≤ need ∧ Bytes b ∧ x = ((b.length : Int), need, rdr T q u, b) ∧ x' = (T.drop q, need, b))
    (fun (y : f105_l21_Y) (y' : f107_l21_Y) => (∃ (e : Int) (r' : Reader), e ≠ 0 ∧ y = .inl (e, r', (0, ([], ()))) ∧ y' = .inl (e, (0, ([], ())))) ∨ (∃ (q : Nat) (b : List Int), p ≤ q ∧ q ≤ T.length ∧ 3 ≤ b.length ∧ b.length ≤ 259 ∧ Bytes b ∧ y = .inr (rdr T q u, b) ∧ y' = .inr (T.drop q, b)))
    (fun x => 300 - x.1.toNat) ?_ _ _ ⟨p, [], 3, by omega, hp, by omega, by omega, by simp, (fun x hx => by cases hx), rfl, rfl⟩
  intro x x' ⟨q, b, need, hq0, hq1, hn0, hn1, hbn, hby, ex, ex'⟩
  subst ex; subst ex'
  by_cases hend : (b.length : Int) = need
  · left
    refine ⟨.inr (rdr T q u, b), .inr (T.drop q, b), ?_, ?_, .inr ⟨q, b, hq0, hq1, by omega, by omega, hby, rfl, rfl⟩⟩
    · unfold f105_l21_g f105_l21_k
      simp only
      rw [decide_eq_false (by omega)]
      rfl
    · unfold f107_l21_g f107_l21_k
      simp only
      rw [decide_eq_false (by omega)]
      rfl
  · rcases byteSim hT hu hq1 need b2 b with ⟨e, r', h0, h1, h2⟩ | ⟨v, v0, v1, hl, h1, h2⟩
    · left
      refine ⟨.inl (e, r', (0, ([], ()))), .inl (e, (0, ([], ()))), ?_, ?_, .inl ⟨e, r', h0, rfl, rfl⟩⟩
      · unfold f105_l21_g f105_l21_k
        simp only
        rw [decide_eq_true (by omega)]
        simp only [cond_true]
        rw [h1]
        have : (e != 0) = true := by simpa using h0
        simp only [some_bind]
        rw [this]
        rfl
      · unfold f107_l21_g f107_l21_k
        simp only
        rw [decide_eq_true (by omega)]
        simp only [cond_true]
        rw [h2]
        rfl
    · have hby2 : Bytes (b ++ [v]) := by
        intro x hx
        rcases List.mem_append.1 hx with hx | hx
        · exact hby x hx
        · simp at hx; subst hx; exact ⟨v0, v1⟩
      by_cases hone : b.length = 1
      · obtain ⟨c, rfl⟩ : ∃ c, b = [c] := List.length_eq_one_iff.1 hone
        have hc := hby c (by simp)
        by_cases hbig : 256 * c + v + 3 > 259
        · left
          refine ⟨.inl (2, rdr T (q + 16) u, (0, ([], ()))), .inl (2, (0, ([], ()))), ?_, ?_, .inl ⟨2, _, by decide, rfl, rfl⟩⟩
          · unfold f105_l21_g f105_l21_k
            simp only
            rw [decide_eq_true (by omega)]
            simp only [cond_true]
            rw [h1]
            simp only [some_bind, bne_self_eq_false, cond_false]
            rw [if_pos ⟨by rw [most_eq]; simp, by decide, by decide⟩, wu v0 v1]
            simp only [List.cons_append, List.nil_append, List.length_cons, List.length_nil, List.getD_cons_zero, List.getD_cons_succ]
            rw [if_pos ⟨by omega, by omega⟩, if_pos ⟨by omega, by omega⟩, wi (n := c) (by omega) (by omega), wi (n := v) (by omega) (by omega), show (2 : Int) ^ (min 8 64) = 256 from rfl, wi (n := c * 256) (by omega) (by omega), wi (n := c * 256 + v) (by omega) (by omega), wi (n := c * 256 + v + 3) (by omega) (by omega), decide_eq_true (by omega)]
            rfl
          · unfold f107_l21_g f107_l21_k
            simp only
            rw [decide_eq_true (by omega)]
            simp only [cond_true]
            rw [h2]
            simp only [some_bind, Sum.elim_inr]
            rw [if_pos ⟨by rw [most_eq]; simp, by decide, by decide⟩, wu v0 v1]
            simp only [List.cons_append, List.nil_append, List.length_cons, List.length_nil, List.getD_cons_zero, List.getD_cons_succ]
            rw [if_pos ⟨by omega, by omega⟩, if_pos ⟨by omega, by omega⟩, wi (n := c) (by omega) (by omega), wi (n := v) (by omega) (by omega), wi (n := 256 * c) (by omega) (by omega), wi (n := 256 * c + v) (by omega) (by omega), wi (n := 256 * c + v + 3) (by omega) (by omega), decide_eq_true hbig]
            rfl
        · right
          refine ⟨(2, 256 * c + v + 3, rdr T (q + 16) u, [c, v]), (T.drop (q + 16), 256 * c + v + 3, [c, v]), ?_, ?_, ⟨q + 16, [c, v], 256 * c + v + 3, by omega, hl, by omega, by omega, by simp; omega, hby2, rfl, rfl⟩, by simp⟩
          · unfold f105_l21_g f105_l21_k
            simp only
            rw [decide_eq_true (by omega)]
            simp only [cond_true]
            rw [h1]
            simp only [some_bind, bne_self_eq_false, cond_false]
            rw [if_pos ⟨by rw [most_eq]; simp, by decide, by decide⟩, wu v0 v1]
            simp only [List.cons_append, List.nil_append, List.length_cons, List.length_nil, List.getD_cons_zero, List.getD_cons_succ]
            rw [if_pos ⟨by omega, by omega⟩, if_pos ⟨by omega, by omega⟩, wi (n := c) (by omega) (by omega), wi (n := v) (by omega) (by omega), show (2 : Int) ^ (min 8 64) = 256 from rfl, wi (n := c * 256) (by omega) (by omega), wi (n := c * 256 + v) (by omega) (by omega), wi (n := c * 256 + v + 3) (by omega) (by omega), decide_eq_false (by omega), Int.mul_comm c 256]
            rfl
          · unfold f107_l21_g f107_l21_k
            simp only
            rw [decide_eq_true (by omega)]
            simp only [cond_true]
            rw [h2]
            simp only [some_bind, Sum.elim_inr]
            rw [if_pos ⟨by rw [most_eq]; simp, by decide, by decide⟩, wu v0 v1]
            simp only [List.cons_append, List.nil_append, List.length_cons, List.length_nil, List.getD_cons_zero, List.getD_cons_succ]
            rw [if_pos ⟨by omega, by omega⟩, if_pos ⟨by omega, by omega⟩, wi (n := c) (by omega) (by omega), wi (n := v) (by omega) (by omega), wi (n := 256 * c) (by omega) (by omega), wi (n := 256 * c + v) (by omega) (by omega), wi (n := 256 * c + v + 3) (by omega) (by omega), decide_eq_false hbig]
            rfl
      · right
        refine ⟨((b.length : Int) + 1, need, rdr T (q + 16) u, b ++ [v]), (T.drop (q + 16), need, b ++ [v]), ?_, ?_, ⟨q + 16, b ++ [v], need, by omega, hl, hn0, hn1, by simp; omega, hby2, by simp, rfl⟩, by show 300 - ((b.length : Int) + 1).toNat < 300 - (b.length : Int).toNat; omega⟩
        · unfold f105_l21_g f105_l21_k
          simp only
          rw [decide_eq_true (by omega)]
          simp only [cond_true]
          rw [h1]
          simp only [some_bind, bne_self_eq_false, cond_false]
          have e1 : (((List.length b : Nat) : Int) == 1) = false := by rw [beq_eq_false_iff_ne]; omega
          rw [if_pos ⟨by rw [most_eq]; omega, by decide, by decide⟩, wu v0 v1, e1, wi (n := ((List.length b : Nat) : Int) + 1) (by omega) (by omega)]
          rfl
        · unfold f107_l21_g f107_l21_k
          simp only
          rw [decide_eq_true (by omega)]
          simp only [cond_true]
          rw [h2]
          simp only [some_bind, Sum.elim_inr]
          have e1 : (((List.length (b ++ [v]) : Nat) : Int) == 2) = false := by rw [beq_eq_false_iff_ne]; simp; omega
          rw [if_pos ⟨by rw [most_eq]; omega, by decide, by decide⟩, wu v0 v1, e1]
          rfl
/-! ### A block -/
theorem clone76 (a : List Int) (h : a.length ≤ 140737488355328) : f76 a = some ((a, ()), ()) := by
  unfold f76 f76_k
  rw [if_pos ⟨by rw [most_eq]; omega, by decide, by decide⟩]
  cases a with
  | nil => exact nilT_same _ _
  | cons x l => rfl
theorem drop2 {b : List Int} (h : 3 ≤ b.length) : b.drop 2 = (b.drop 2).take (b.length - 3) ++ [b.getD (b.length - 1) 0] := by
  have h1 : b.length - 3 < (b.drop 2).length := by rw [List.length_drop]; omega
  have e := take_succ_getD (d := 0) h1
  rw [getD_drop, show 2 + (b.length - 3) = b.length - 1 by omega] at e
  rw [← e, List.take_of_length_le (by rw [List.length_drop]; omega)]
theorem xor_zero (a b : Nat) : a ^^^ b = 0 ↔ a = b := by
  constructor
  · intro h
    have := congrArg (fun x => x ^^^ b) h
    simpa [Nat.xor_assoc] using this
  · rintro rfl; simp
theorem blockSim {T : List Int} (hT : Trk T) {p : Nat} (hp : p ≤ T.length) (u0 : Int) :
    (∃ (e : Int) (bl bl' : Blk) (rest : List Int) (r' : Reader), e ≠ 0 ∧ f105 (rdr T p u0) = some ((bl, (e, ())), (r', ())) ∧ f107 (T.drop p) = some ((bl', (rest, (e, ()))), ()))
    ∨ (∃ (bl : Blk) (q : Nat) (u : Int), p < q ∧ q ≤ T.length ∧ bl.2.1.length ≤ 256 ∧ f105 (rdr T p u0) = some ((bl, (0, ())), (rdr T q u, ())) ∧ f107 (T.drop p) = some ((bl, (T.drop q, (0, ()))), ())) := by
  have hl := hT.len
  unfold f105 f105_k f107 f107_k
  simp only [List.length_drop, List.drop_zero]
  rw [wi (n := ((List.length T : Nat) : Int) - (p : Int)) (by omega) (by omega)]
  by_cases hs : T.length < p + 17
  · left
    rw [decide_eq_true (show ((List.length T : Nat) : Int) - (p : Int) < 17 by omega), decide_eq_true (show ((T.length - p : Nat) : Int) < 17 by omega)]
    exact ⟨13, _, _, _, _, by decide, rfl, rfl⟩
  rw [decide_eq_false (show ¬ ((List.length T : Nat) : Int) - (p : Int) < 17 by omega), decide_eq_false (show ¬ ((T.length - p : Nat) : Int) < 17 by omega)]
  simp only [cond_false]
  rw [wi (n := (p : Int) + 16) (by omega) (by omega), if_pos ⟨by omega, by omega, by omega⟩, if_pos ⟨by omega, by omega, by omega⟩]
  rw [show Int.toNat ((p : Int) + 16) - Int.toNat (p : Int) = 16 by omega]
  simp only [Int.toNat_natCast]
  have hrow : ∀ x ∈ (T.drop p).take 16, 1 ≤ x ∧ x ≤ 100000 := fun x hx => hT.row x (List.mem_of_mem_drop (List.mem_of_mem_take hx))
  have hlen16 : ((T.drop p).take 16).length = 16 := by rw [List.length_take, List.length_drop]; omega
  have hlen17 : ((T.drop p).take 17).length = 17 := by rw [List.length_take, List.length_drop]; omega
  have hsum := sum_bound hrow
  rw [hlen16] at hsum
  rw [sum105 hrow (by omega), sum107 hrow (by omega)]
  simp only [some_bind]
  obtain ⟨s, hss⟩ : ∃ s, ((T.drop p).take 16).sum = s := ⟨_, rfl⟩
  rw [hss] at hsum ⊢
  rw [wi (n := 2 * s) (by omega) (by omega), wi (n := 2 * s + 128) (by omega) (by omega), wi (n := s + 64) (by omega) (by omega), Int.tdiv_eq_ediv_of_nonneg (by omega), Int.tdiv_eq_ediv_of_nonneg (by omega), wi (n := (2 * s + 128) / 256) (by omega) (by omega), wi (n := (s + 64) / 128) (by omega) (by omega), show (2 * s + 128) / 256 = (s + 64) / 128 by omega]
  obtain ⟨u, huu⟩ : ∃ u, (s + 64) / 128 = u := ⟨_, rfl⟩
  rw [huu]
  by_cases c1 : u < 4
  · left
    rw [decide_eq_true c1]
    exact ⟨3, _, _, _, _, by decide, rfl, rfl⟩
  by_cases c2 : u > 1000
  · left
    rw [decide_eq_false c1, decide_eq_true c2]
    exact ⟨3, _, _, _, _, by decide, rfl, rfl⟩
  have hu : 4 ≤ u ∧ u ≤ 1000 := by omega
  rw [decide_eq_false c1, decide_eq_false c2]
  simp only [cond_false]
  rw [if_pos ⟨by omega, by omega, by omega⟩, hlen17]
  rcases head107 hT hu (p := p) (by omega) (T.drop p) (0, (([] : List Int), ())) with ⟨m, hm, hb, e7⟩ | ⟨hgood, e7⟩
  · -- the head is bad
    left
    have e7' : f107_l13 (T.drop p) u ((T.drop p).take 17) ((17 : Nat) : Int) (0, (([] : List Int), ())) 0 = some (.inl (0, ([], ()))) := e7
    rw [e7']
    rcases head105 hT hu (p := p) (by omega) (0, (([] : List Int), ())) with ⟨m', r', hm', hb', e5⟩ | ⟨hgood, e5⟩
    · rw [e5]
      exact ⟨3, _, _, _, _, by decide, rfl, rfl⟩
    · rw [e5]
      simp only [some_bind, Sum.elim_inr]
      have hm16 : m = 16 := by
        rcases Nat.lt_or_ge m 16 with h | h
        · rw [hgood m h] at hb; cases hb
        · omega
      subst hm16
      rw [pulse135 hT hu (by omega)]
      simp only [some_bind]
      have hx := hT.row _ (getD_mem (d := 0) (show p + 16 < T.length by omega))
      have hbd := rnd_bound (u := u) (x := T.getD (p + 16) 0) (by omega) (by omega)
      rw [is134 (by omega) (by omega)]
      simp only [some_bind]
      have : (!isN (rnd u (T.getD (p + 16) 0)) 16) = true := hb
      rw [this]
      exact ⟨3, _, _, _, _, by decide, rfl, rfl⟩
  have e7' : f107_l13 (T.drop p) u ((T.drop p).take 17) ((17 : Nat) : Int) (0, (([] : List Int), ())) 0 = some (.inr ()) := e7
  rw [e7']
  rcases head105 hT hu (p := p) (by omega) (0, (([] : List Int), ())) with ⟨m', r', hm', hb', e5⟩ | ⟨_, e5⟩
  · rw [hgood m' (by omega)] at hb'; cases hb'
  rw [e5]
  simp only [some_bind, Sum.elim_inr]
  rw [pulse135 hT hu (by omega)]
  simp only [some_bind]
  have hx := hT.row _ (getD_mem (d := 0) (show p + 16 < T.length by omega))
  have hbd := rnd_bound (u := u) (x := T.getD (p + 16) 0) (by omega) (by omega)
  rw [is134 (by omega) (by omega)]
  simp only [some_bind]
  have h16 : (!isN (rnd u (T.getD (p + 16) 0)) 16) = false := hgood 16 (by omega)
  rw [h16, if_pos ⟨by omega, by omega, by omega⟩]
  simp only [cond_false]
  rw [List.take_of_length_le (l := (T.drop p).drop 17) (by simp; omega), List.drop_drop]
  obtain ⟨y, y', h1, h2, hq⟩ := bytesSim hT hu (p := p + 17) (by omega) (0, (([] : List Int), ())) (0, (([] : List Int), ()))
  rw [h1, h2]
  rcases hq with ⟨e, r', h0, ey, ey'⟩ | ⟨q, b, q0, q1, b0, b1, hby, ey, ey'⟩
  · left
    subst ey; subst ey'
    exact ⟨e, _, _, _, _, h0, rfl, rfl⟩
  subst ey; subst ey'
  simp only [some_bind, Sum.elim_inr]
  have hbl : ((List.take (b.length - 3) (List.drop 2 b)).length : Nat) = b.length - 3 := by rw [List.length_take, List.length_drop]; omega
  have hd2 : Bytes (List.drop 2 b) := fun x hx => hby x (List.mem_of_mem_drop hx)
  have hdd : Bytes (List.take (b.length - 3) (List.drop 2 b)) := fun x hx => hd2 x (List.mem_of_mem_take hx)
  have hlast := hby _ (getD_mem (d := 0) (show b.length - 1 < b.length by omega))
  have c1 : (0 : Int) ≤ 2 ∧ (2 : Int) ≤ ((List.length b : Nat) : Int) - 1 ∧ ((List.length b : Nat) : Int) - 1 ≤ ((List.length b : Nat) : Int) := ⟨by omega, by omega, by omega⟩
  have c2 : (0 + List.length (List.take (b.length - 3) (List.drop 2 b))) * 1 ≤ most ∧ 0 < 1 ∧ 0 < 1 := ⟨by rw [most_eq]; omega, by decide, by decide⟩
  have c3 : (0 : Int) ≤ ((List.length b : Nat) : Int) - 1 ∧ ((List.length b : Nat) : Int) - 1 < ((List.length b : Nat) : Int) := ⟨by omega, by omega⟩
  have c4 : (0 : Int) ≤ 2 ∧ (2 : Int) ≤ ((List.length b : Nat) : Int) ∧ ((List.length b : Nat) : Int) ≤ ((List.length b : Nat) : Int) := ⟨by omega, by omega, by omega⟩
  rw [wi (n := ((List.length b : Nat) : Int) - 1) (by omega) (by omega), if_pos c1, if_pos c1, if_pos c4]
  rw [show Int.toNat (((List.length b : Nat) : Int) - 1) - 2 = b.length - 3 by omega, show Int.toNat (((List.length b : Nat) : Int) - 1) = b.length - 1 by omega]
  rw [if_pos c2, List.nil_append, xor99 _ hdd (by omega), clone76 _ (by omega)]
  rw [List.take_of_length_le (i := b.length - 2) (l := List.drop 2 b) (by simp), xor103 _ hd2 (by simp; omega)]
  simp only [some_bind]
  rw [if_pos c3, wi (n := b.getD (b.length - 1) 0) (by omega) (by omega)]
  have hxn := xorN_lt hdd
  have key : ((((xorN (List.take (b.length - 3) (List.drop 2 b)) : Nat) : Int)) != b.getD (b.length - 1) 0) = ((((xorN (List.drop 2 b) : Nat) : Int)) != 0) := by
    conv => rhs; rw [drop2 b0]
    rw [xorN_append, Bool.eq_iff_iff, bne_iff_ne, bne_iff_ne]
    have := xor_zero (xorN (List.take (b.length - 3) (List.drop 2 b))) (b.getD (b.length - 1) 0).toNat
    omega
  rw [key]
  cases ((((xorN (List.drop 2 b) : Nat) : Int)) != 0)
  · right
    exact ⟨(u, (List.take (b.length - 3) (List.drop 2 b), ())), q, u, by omega, q1, by show List.length (List.take (b.length - 3) (List.drop 2 b)) ≤ 256; omega, rfl, rfl⟩
  · left
    exact ⟨12, _, _, _, _, by decide, rfl, rfl⟩
end Go.Proofs.Ytlgbhaigpecdoaa.V
