/- Mfm, the reference's writing: bits, places, changes. -/
import Derived.Test.YtlgbhaigpecdoaaVFnMfm
import Derived.Test.YtlgbhaigpecdoaaVKit3
set_option linter.unusedVariables false
set_option linter.unusedSimpArgs false
namespace Go.Proofs.Ytlgbhaigpecdoaa.V
open Go
abbrev Part := Bool × (List Int × Unit)
def byteL (l : List Int) : Prop := ∀ x ∈ l, 0 ≤ x ∧ x < 256
theorem foldl_app {A B : Type} (f : A → List B) : ∀ (l : List A) (s : List B), l.foldl (fun s a => s ++ f a) s = s ++ l.flatMap f
  | [], s => by simp
  | a :: l, s => by rw [List.foldl_cons, foldl_app f l]; simp
def bitC (c : Int) (k : Nat) : Bool := decide (IntKind.u8.wrap (c * 2 ^ (min k 8)) ≥ 128)
def bits8 (c : Int) : List Bool := (List.range 8).map (bitC c)
theorem bits8_len (c : Int) : (bits8 c).length = 8 := by simp [bits8]
theorem bits_in (c : Int) (xs : List Int) (n j : Int) (acc : List Bool) (h : acc.length + 8 ≤ 140737488355328) : f101_l6 c xs n j ((0 : Int), acc) = some (acc ++ bits8 c) := by
  unfold f101_l6
  refine loop_go (fun i => ((i : Int), acc ++ (List.range i).map (bitC c))) 8 (by simp) (fun i hi => ?_) ?_
  · unfold f101_l6_g f101_l6_k
    have e1 : decide ((i : Int) < (8 : Int)) = true := by simp; omega
    simp only
    rw [e1]
    simp only [cond_true]
    rw [if_neg (by omega), if_pos (room1 (by simp; omega) (by decide) (by decide)), wj (by omega)]
    simp only [Int.toNat_natCast, List.range_succ, List.map_append, List.map_cons, List.map_nil, bitC, List.append_assoc]
  · unfold f101_l6_g f101_l6_k
    simp only
    rw [show decide (((8 : Nat) : Int) < (8 : Int)) = false from rfl]
    rfl
theorem bits101 (b : List Int) (h : b.length * 8 ≤ 140737488355328) : f101 b = some ((b.flatMap bits8, ()), ()) := by
  unfold f101 f101_k f101_l3
  have := loop_all (g := f101_l3_g b ((List.length b : Nat) : Int)) (0 : Int) b (fun j (s : List Bool) => ((j : Int), s)) (fun j s => s.length = 8 * j) (fun s a => s ++ bits8 a) (y := b.flatMap bits8)
    (fun j s hj hp => by
      refine ⟨?_, by simp [bits8_len, hp]; omega⟩
      unfold f101_l3_g f101_l3_k
      simp only
      rw [dlt hj]
      simp only [cond_true]
      rw [if_pos (in_row hj), bits_in _ _ _ _ _ (by omega)]
      simp only [some_bind]
      rw [wj (by omega), Int.toNat_natCast]) [] rfl (x0 := ((0 : Int), [])) rfl (fun hp => by
      unfold f101_l3_g f101_l3_k
      simp only
      rw [dge]
      simp only [cond_false]
      rw [foldl_app]; simp)
  rw [this.1]
  rfl
def mark8 : List (Bool × Bool) := (List.range 8).map fun k => (bitC 161 k, k == 5)
def plain8 (b : List Int) : List (Bool × Bool) := (b.flatMap bits8).map fun x => (x, false)
def bbP (p : Part) : List (Bool × Bool) := (if p.1 = true then mark8 else []) ++ plain8 p.2.1
def bbL (l : List Part) : List (Bool × Bool) := l.flatMap bbP
def szP (p : Part) : Nat := p.2.1.length + (if p.1 = true then 1 else 0)
def tot : List Part → Nat
  | [] => 0
  | p :: l => szP p + tot l
theorem tot_append (a b : List Part) : tot (a ++ b) = tot a + tot b := by
  induction a with
  | nil => simp [tot]
  | cons p a ih => simp [tot, ih]; omega
theorem flat8_len (b : List Int) : (b.flatMap bits8).length = 8 * b.length := by
  induction b with
  | nil => rfl
  | cons c b ih => simp [bits8_len, ih]; omega
theorem bbP_len (p : Part) : (bbP p).length = 8 * szP p := by
  unfold bbP szP plain8 mark8
  rw [List.length_append, List.length_map, flat8_len]
  split <;> simp <;> omega
theorem bbL_len : ∀ l : List Part, (bbL l).length = 8 * tot l
  | [] => rfl
  | p :: l => by
    have := bbL_len l
    simp only [bbL] at this
    simp only [bbL, List.flatMap_cons, List.length_append, bbP_len, tot, this]; omega
theorem bbL_take (l : List Part) (j : Nat) (hj : j < l.length) : bbL (l.take (j + 1)) = bbL (l.take j) ++ bbP (l.getD j (false, ([], ()))) := flatMap_take_succ hj bbP
theorem tot_take (l : List Part) (j : Nat) : tot (l.take j) ≤ tot l := by
  have : l = l.take j ++ l.drop j := (List.take_append_drop j l).symm
  rw [congrArg tot this, tot_append]; omega
def MR (m : List (Int × Bool)) (B : List (Bool × Bool)) : Prop := ∀ i : Nat, (mfind (.int .i64) .bool m (i : Int)).getD false = (B.getD i (false, false)).2
theorem mfind_mset (m : List (Int × Bool)) (a b : Int) (v : Bool) : mfind (.int .i64) .bool (mset (.int .i64) .bool m a v) b = if b = a then some v else mfind (.int .i64) .bool m b := by
  induction m with
  | nil => simp [mset, mfind, keq]
  | cons p m ih =>
    simp only [mset]
    by_cases h : a = p.1
    · rw [if_pos (by simp [keq, h])]
      simp only [mfind, keq]
      by_cases h2 : b = p.1
      · simp [h, h2]
      · have : ¬ b = a := by rw [h]; exact h2
        simp [h2, this]
    · rw [if_neg (by simp [keq, h])]
      simp only [mfind, keq]
      by_cases h2 : b = p.1
      · have : ¬ b = a := by rw [h2]; exact fun e => h e.symm
        simp [h2, this]
        intro e; exact absurd e.symm h
      · simp [h2, ih]
theorem getD_app {α : Type} (a b : List α) (i : Nat) (d : α) : (a ++ b).getD i d = if i < a.length then a.getD i d else b.getD (i - a.length) d := by
  simp only [List.getD_eq_getElem?_getD, List.getElem?_append]
  split <;> rfl
theorem plain8_snd (b : List Int) (i : Nat) : ((plain8 b).getD i (false, false)).2 = false := by
  unfold plain8
  rw [List.getD_eq_getElem?_getD, List.getElem?_map]
  cases (b.flatMap bits8)[i]? <;> rfl
theorem mark8_eq : mark8 = [(true, false), (false, false), (true, false), (false, false), (false, false), (false, true), (false, false), (true, false)] := by decide +kernel
theorem mark8_fst : mark8.map (·.1) = bits8 161 := by decide +kernel
theorem mark8_snd (i : Nat) : (mark8.getD i (false, false)).2 = decide (i = 5) := by
  rw [mark8_eq]
  match i with
  | 0 | 1 | 2 | 3 | 4 | 5 | 6 | 7 => rfl
  | n + 8 => simp
theorem MR_plain {m : List (Int × Bool)} {B : List (Bool × Bool)} (h : MR m B) (b : List Int) : MR m (B ++ plain8 b) := by
  intro i
  rw [h i, getD_app]
  split
  · rfl
  · rename_i hi
    rw [plain8_snd, List.getD_eq_getElem?_getD, List.getElem?_eq_none (by omega)]; rfl
theorem MR_mark {m : List (Int × Bool)} {B : List (Bool × Bool)} (h : MR m B) : MR (mset (.int .i64) .bool m ((B.length + 5 : Nat) : Int) true) (B ++ mark8) := by
  intro i
  rw [mfind_mset, getD_app]
  by_cases e : i = B.length + 5
  · rw [if_pos (by rw [e]), if_neg (by omega), mark8_snd, e]
    simp
  · rw [if_neg (by omega), h i]
    split
    · rfl
    · rename_i hi
      rw [mark8_snd, List.getD_eq_getElem?_getD, List.getElem?_eq_none (by omega), decide_eq_false (by omega)]; rfl
theorem bits86 (l : List Part) (h : tot l ≤ 1099511627776) (hl : l.length ≤ 140737488355328) : ∃ m, f86 l = some (((bbL l).map (·.1), (m, ())), ()) ∧ MR m (bbL l) := by
  unfold f86 f86_k f86_l4
  have hb : ∀ j, (bbL (l.take j)).length ≤ 8796093022208 := fun j => by rw [bbL_len]; have := tot_take l j; omega
  have := loop_all (g := f86_l4_g l ((List.length l : Nat) : Int)) (false, (([] : List Int), ())) l (fun j (s : List Bool × List (Int × Bool)) => ((j : Int), s.1, s.2))
    (fun j s => s.1 = (bbL (l.take j)).map (·.1) ∧ MR s.2 (bbL (l.take j)))
    (fun s p => ((s.1 ++ (if p.1 = true then bits8 161 else [])) ++ p.2.1.flatMap bits8, if p.1 = true then mset (.int .i64) .bool s.2 ((s.1.length + 5 : Nat) : Int) true else s.2))
    (y := ((bbL l).map (·.1), (l.foldl (fun (s : List Bool × List (Int × Bool)) p => ((s.1 ++ (if p.1 = true then bits8 161 else [])) ++ p.2.1.flatMap bits8, if p.1 = true then mset (.int .i64) .bool s.2 ((s.1.length + 5 : Nat) : Int) true else s.2)) ([], [])).2))
    (fun j s hj hp => by
      obtain ⟨s1, s2⟩ := s
      obtain ⟨h1, h2⟩ := hp
      dsimp only at h1 h2 ⊢
      have hb1 := hb (j + 1)
      rw [bbL_take l j hj, List.length_append, bbP_len] at hb1
      have hs1 : s1.length = (bbL (l.take j)).length := by rw [h1, List.length_map]
      rw [bbL_take l j hj]
      generalize hp0 : l.getD j (false, ([], ())) = p at hb1
      obtain ⟨mk, b, ⟨⟩⟩ := p
      have hbl : (b.flatMap bits8).length = 8 * b.length := flat8_len b
      unfold szP at hb1
      dsimp only at hb1
      refine ⟨?_, ?_, ?_⟩
      · unfold f86_l4_g f86_l4_k
        simp only
        rw [dlt hj]
        simp only [cond_true]
        rw [if_pos (in_row hj), Int.toNat_natCast, hp0, wj (by omega)]
        cases mk with
        | true =>
          simp only [cond_true, if_true]
          rw [bits101 [161] (by simp), bits101 b (by simp only [if_true] at hb1; omega)]
          simp only [some_bind]
          have e161 : [(161 : Int)].flatMap bits8 = bits8 161 := by simp
          rw [e161]
          simp only [if_true] at hb1
          rw [if_pos (room1 (by rw [bits8_len]; omega) (by decide) (by decide)), if_pos (room1 (by rw [List.length_append, bits8_len, hbl]; omega) (by decide) (by decide)), wi (by omega) (by omega)]
          rw [show ((s1.length : Nat) : Int) + 5 = ((s1.length + 5 : Nat) : Int) by omega]
        | false =>
          simp only [cond_false, Bool.false_eq_true, if_false]
          rw [bits101 b (by simp at hb1; omega)]
          simp only [some_bind]
          rw [if_pos (room1 (by rw [hbl]; simp at hb1; omega) (by decide) (by decide))]
          simp
      · dsimp only
        rw [h1]
        cases mk with
        | true => simp [bbP, ← mark8_fst, plain8, Function.comp_def]
        | false => simp [bbP, plain8, Function.comp_def]
      · dsimp only
        cases mk with
        | true =>
          simp only [if_true, bbP]
          rw [hs1, ← List.append_assoc]
          exact MR_plain (MR_mark h2) b
        | false =>
          simp only [Bool.false_eq_true, if_false, bbP, List.nil_append]
          exact MR_plain h2 b)
    ([], []) ⟨by simp [bbL], fun i => by simp [mfind, bbL]⟩ (x0 := ((0 : Int), [], ([] : List (Int × Bool)))) rfl (fun hp => by
      unfold f86_l4_g f86_l4_k
      simp only
      rw [dge]
      simp only [cond_false]
      rw [hp.1, List.take_length])
  obtain ⟨e, hp⟩ := this
  rw [List.take_length] at hp
  exact ⟨_, by rw [e]; rfl, hp.2⟩
def plcs : Bool → List (Bool × Bool) → List Bool
  | _, [] => []
  | last, p :: l => (!p.1 && !last && !p.2) :: p.1 :: plcs p.1 l
def lastB : Bool → List (Bool × Bool) → Bool
  | last, [] => last
  | _, p :: l => lastB p.1 l
theorem plcs_len : ∀ (a : List (Bool × Bool)) (last : Bool), (plcs last a).length = 2 * a.length
  | [], _ => rfl
  | p :: a, last => by simp [plcs, plcs_len a]; omega
theorem clone130 (a : List Bool) (h : a.length ≤ 140737488355328) : f130 a = some ((a, ()), ()) := by
  unfold f130 f130_k
  rw [if_pos ⟨by rw [most_eq]; omega, by decide, by decide⟩]
  cases a with
  | nil => exact nilT_same _ _
  | cons x l => rfl
theorem foldl_plcs : ∀ (l : List (Bool × Bool)) (s : Bool × List Bool), l.foldl (fun (s : Bool × List Bool) a => (a.1, s.2 ++ [!a.1 && !s.1 && !a.2, a.1])) s = (lastB s.1 l, s.2 ++ plcs s.1 l)
  | [], s => by simp [lastB, plcs]
  | p :: l, s => by rw [List.foldl_cons, foldl_plcs l]; simp [lastB, plcs]
theorem places88 (B : List (Bool × Bool)) (m : List (Int × Bool)) (hm : MR m B) (h : B.length ≤ 8796093022208) : f88 (B.map (·.1)) m = some ((plcs true (B ++ [(true, false)]), ()), ()) := by
  unfold f88 f88_k
  rw [clone130 _ (by rw [List.length_map]; omega)]
  simp only [some_bind]
  rw [if_pos (room1 (by rw [List.length_map]; omega) (by decide) (by decide))]
  have hmap : B.map (·.1) ++ [true] = (B ++ [(true, false)]).map (·.1) := by simp
  rw [hmap]
  have hx : ∀ j : Nat, (mfind (.int .i64) .bool m (j : Int)).getD false = ((B ++ [(true, false)]).getD j (false, false)).2 := fun j => by
    rw [hm j, getD_app]
    split
    · rfl
    · rename_i hi
      rw [List.getD_eq_getElem?_getD, List.getElem?_eq_none (by omega)]
      cases hji : j - B.length <;> rfl
  have hlen : (B ++ [(true, false)]).length = B.length + 1 := by simp
  generalize B ++ [(true, false)] = X at hx hlen
  have hg : ∀ j : Nat, (X.map (·.1)).getD j false = (X.getD j (false, false)).1 := fun j => by
    rw [List.getD_eq_getElem?_getD, List.getElem?_map, List.getD_eq_getElem?_getD]
    cases X[j]? <;> rfl
  unfold f88_l4
  rw [List.length_map]
  have := loop_all (g := f88_l4_g m ((List.length X : Nat) : Int) (X.map (·.1))) (false, false) X (fun j (s : Bool × List Bool) => (s.1, (j : Int), s.2)) (fun j s => s.2.length = 2 * j)
    (fun s a => (a.1, s.2 ++ [!a.1 && !s.1 && !a.2, a.1])) (y := plcs true X)
    (fun j s hj hp => by
      refine ⟨?_, by simp [hp]; omega⟩
      unfold f88_l4_g f88_l4_k
      simp only
      rw [dlt hj]
      simp only [cond_true]
      rw [if_pos (by rw [List.length_map]; exact in_row hj), Int.toNat_natCast, hg, hx, wj (by omega)]
      have r2 := room1 (l := s.2) (n := 2) (b := 1) (by omega) (by decide) (c := 1) (by decide)
      simp only [if_pos r2]
      generalize X.getD j (false, false) = p
      obtain ⟨p1, p2⟩ := p
      obtain ⟨s1, s2⟩ := s
      cases p1 <;> cases s1 <;> cases p2 <;> rfl) (true, []) rfl (x0 := (true, (0 : Int), [])) rfl (fun hp => by
      unfold f88_l4_g f88_l4_k
      simp only
      rw [dge]
      simp only [cond_false]
      rw [foldl_plcs]; simp)
  rw [this.1]
  rfl
def wrongCell (cell : Int) : Bool := decide (cell < 2 ∨ cell > 1000)
end Go.Proofs.Ytlgbhaigpecdoaa.V
