/-
  WeakShows: what weak.Shows and bakeref2.Guarded answer. Conditions stand in each lemma.
-/
import Derived.Test.YtgiodeiibmbhhaaZEv
import Derived.Test.YtgiodeiibmbhhaaPWeakShowsx0
import Derived.Test.YtgiodeiibmbhhaaPWeakShowsx1
import Derived.Test.YtgiodeiibmbhhaaPWeakShowsx2
import Derived.Test.YtgiodeiibmbhhaaPWeakShowsx3
import Derived.Test.YtgiodeiibmbhhaaPWeakShowsx4
set_option linter.unusedVariables false
set_option linter.unusedSimpArgs false
namespace Go.Proofs.Ytgiodeiibmbhhaa.BkWeakShows
open Go Go.RowKit Go.Proofs.YtgiodeiibmbhhaaW.PrintWords Go.Proofs.YtgiodeiibmbhhaaW.PrintLast Go.Proofs.YtgiodeiibmbhhaaW.PrintMore Go.Proofs.Ytgiodeiibmbhhaa.PWeakShows Go.Proofs.Ytgiodeiibmbhhaa.Bk
theorem slices_Equal_byte_byte_loop (l r : List Int) (hm : l.length ≤ 140737488355328) : ∀ (suf suf' pre : List Int), l = pre ++ suf → r = pre ++ suf' → suf.length = suf'.length →
    Ev (fun k => slices_Equal_byte_byte.l0 k l r (l.length : Int) (pre.length : Int)) (decide (suf = suf'))
  | [], [], pre, hl, hr, _ => Ev.done fun k => by simp only [slices_Equal_byte_byte.l0]; rw [if_neg (at_end hl)]; rfl
  | [], _ :: _, _, _, _, h => by simp at h
  | _ :: _, [], _, _, _, h => by simp at h
  | x :: suf, y :: suf', pre, hl, hr, h => by
    have a := at_mid hl hm
    have hlen : l.length = r.length := by rw [hl, hr]; simp at h ⊢; exact h
    have b := at_mid hr (by omega)
    by_cases e : x = y
    · subst e
      have ih := slices_Equal_byte_byte_loop l r hm suf suf' (pre ++ [x]) (next_mid hl) (next_mid hr) (by simpa using h)
      have e2 : decide (x :: suf = x :: suf') = decide (suf = suf') := by simp
      rw [e2]
      refine Ev.step (fun k => ?_) ih
      simp only [slices_Equal_byte_byte.l0]
      rw [if_pos a.2.1, if_pos a.1, if_pos a.2.1, if_pos b.2.1, a.2.2.1, b.2.2.1, if_pos rfl, a.2.2.2]
    · refine Ev.done fun k => ?_
      simp only [slices_Equal_byte_byte.l0]
      rw [if_pos a.2.1, if_pos a.1, if_pos a.2.1, if_pos b.2.1, a.2.2.1, b.2.2.1, if_neg e]
      simp [e]
theorem slices_Equal_byte_byte_ev (l r : List Int) (hm : l.length ≤ 140737488355328) : Ev (fun k => slices_Equal_byte_byte.f k l r) (decide (l = r)) := by
  by_cases h : l.length = r.length
  · refine Ev.congr (fun k => ?_) (slices_Equal_byte_byte_loop l r hm l r [] rfl rfl h)
    unfold slices_Equal_byte_byte.f
    rw [if_pos (by omega)]; rfl
  · refine Ev.all fun k => ?_
    unfold slices_Equal_byte_byte.f
    rw [if_neg (by omega)]
    have : ¬ l = r := fun e => h (by rw [e])
    simp [this]
theorem at_g {α : Type} (d : α) {l pre suf : List α} {x : α} (hl : l = pre ++ x :: suf) (hm : l.length ≤ 140737488355328) :
    (0 : Int) ≤ (pre.length : Int) ∧ (pre.length : Int) < (l.length : Int) ∧ l.getD (pre.length : Int).toNat d = x ∧ wrap64 ((pre.length : Int) + 1) = ((pre ++ [x]).length : Int) := by
  have h1 : l.length = pre.length + 1 + suf.length := by rw [hl]; simp; omega
  refine ⟨by omega, by omega, by rw [hl]; simp, ?_⟩
  rw [w64 _ (by omega) (by omega)]
  simp
theorem at_S {l pre suf : List S107} {x : S107} (hl : l = pre ++ x :: suf) (hm : l.length ≤ 140737488355328) :
    (0 : Int) ≤ (pre.length : Int) ∧ (pre.length : Int) < (l.length : Int) ∧ rd_T107 l (pre.length : Int) = x ∧ wrap64 ((pre.length : Int) + 1) = ((pre ++ [x]).length : Int) := at_g z107 hl hm
theorem at_R {l pre suf : List (List S107)} {x : List S107} (hl : l = pre ++ x :: suf) (hm : l.length ≤ 140737488355328) :
    (0 : Int) ≤ (pre.length : Int) ∧ (pre.length : Int) < (l.length : Int) ∧ rd_L5 l (pre.length : Int) = x ∧ wrap64 ((pre.length : Int) + 1) = ((pre ++ [x]).length : Int) := at_g ([] : List S107) hl hm
theorem at_F {l pre suf : List (List Int)} {x : List Int} (hl : l = pre ++ x :: suf) (hm : l.length ≤ 140737488355328) :
    (0 : Int) ≤ (pre.length : Int) ∧ (pre.length : Int) < (l.length : Int) ∧ rd_L2 l (pre.length : Int) = x ∧ wrap64 ((pre.length : Int) + 1) = ((pre ++ [x]).length : Int) := at_g ([] : List Int) hl hm
def fnd (l : List S107) (n : Int) : List S107 := l.filter (fun z => decide (z.f1 = n))
theorem fnd_add (p : List S107) (x : S107) (n : Int) : fnd (p ++ [x]) n = if x.f1 = n then fnd p n ++ [x] else fnd p n := by
  unfold fnd
  rw [List.filter_append]
  by_cases h : x.f1 = n <;> simp [h]
theorem fnd_le (p : List S107) (n : Int) : (fnd p n).length ≤ p.length := List.length_filter_le _ _
theorem found_loop (n : Int) (l : List S107) (hm : l.length ≤ 2932031007400) : ∀ (suf pre : List S107), l = pre ++ suf → Ev (fun k => weak_found.l0 k n (fnd pre n) l (l.length : Int) (pre.length : Int)) (fnd l n)
  | [], pre, hl => Ev.done fun k => by simp only [weak_found.l0]; rw [if_neg (at_end hl)]; simp [hl]
  | x :: suf, pre, hl => by
    have a := at_S hl (by omega)
    have ih := found_loop n l hm suf (pre ++ [x]) (next_mid hl)
    have hle := fnd_le pre n
    refine Ev.step (fun k => ?_) ih
    simp only [weak_found.l0]
    rw [if_pos a.2.1, if_pos a.1, if_pos a.2.1, a.2.2.1, a.2.2.2, fnd_add]
    by_cases h : x.f1 = n
    · rw [if_pos h, if_pos (by omega), if_pos h]
    · rw [if_neg h, if_neg h]
theorem found_ev (l : List S107) (n : Int) (hm : l.length ≤ 2932031007400) : Ev (fun k => weak_found.f k l n) (fnd l n) := found_loop n l hm l [] rfl
theorem bad_loop (l : List S107) (hm : l.length ≤ 2932031007400) : ∀ (suf pre : List S107), l = pre ++ suf → ∃ i, Ev (fun k => slices_IndexFunc_weak_one_1.l0 k l (l.length : Int) (pre.length : Int)) i ∧ decide (i ≥ 0) = !(suf.all (fun z => z.f3))
  | [], pre, hl => ⟨-1, Ev.done fun k => by simp only [slices_IndexFunc_weak_one_1.l0]; rw [if_neg (at_end hl)], by simp⟩
  | x :: suf, pre, hl => by
    have a := at_S hl (by omega)
    obtain ⟨i, ih, hi⟩ := bad_loop l hm suf (pre ++ [x]) (next_mid hl)
    by_cases h : x.f3 = true
    · refine ⟨i, Ev.step (fun k => ?_) ih, by simp [h, hi]⟩
      simp only [slices_IndexFunc_weak_one_1.l0, weak_one_1.f]
      rw [if_pos a.2.1, if_pos a.1, if_pos a.2.1, a.2.2.1, a.2.2.2, h]
      simp
    · refine ⟨(pre.length : Int), Ev.done fun k => ?_, by simp [h]⟩
      simp only [slices_IndexFunc_weak_one_1.l0, weak_one_1.f]
      rw [if_pos a.2.1, if_pos a.1, if_pos a.2.1, a.2.2.1]
      simp [h]
theorem bad_ev (l : List S107) (hm : l.length ≤ 2932031007400) : Ev (fun k => slices_ContainsFunc_weak_one_1.f k l) (!(l.all (fun z => z.f3))) := by
  obtain ⟨i, h, hi⟩ := bad_loop l hm l [] rfl
  unfold slices_ContainsFunc_weak_one_1.f slices_IndexFunc_weak_one_1.f
  exact Ev.bind h (Ev.all fun k => by rw [hi])
theorem strange_loop (g0 g1 g2 : Int) (l : List S107) (hm : l.length ≤ 2932031007400) : ∀ (suf pre : List S107), l = pre ++ suf → Ev (fun k => weak_one.l0 k l (l.length : Int) (pre.length : Int) g0 g1 g2) (suf.any (fun z => decide (¬ z.f0 = g1)))
  | [], pre, hl => Ev.done fun k => by simp only [weak_one.l0]; rw [if_neg (at_end hl)]; simp
  | x :: suf, pre, hl => by
    have a := at_S hl (by omega)
    have ih := strange_loop g0 g1 g2 l hm suf (pre ++ [x]) (next_mid hl)
    by_cases h : x.f0 = g1
    · rw [show List.any (x :: suf) (fun z => decide (¬ z.f0 = g1)) = List.any suf (fun z => decide (¬ z.f0 = g1)) by simp [h]]
      refine Ev.step (fun k => ?_) ih
      simp only [weak_one.l0]
      rw [if_pos a.2.1, if_pos a.1, if_pos a.2.1, a.2.2.1, if_pos h, a.2.2.2]
    · refine Ev.done fun k => ?_
      simp only [weak_one.l0]
      rw [if_pos a.2.1, if_pos a.1, if_pos a.2.1, a.2.2.1, if_neg h]
      simp [h]
/-- what one reading shows -/
def oneM (g0 g1 g2 : Int) (l : List S107) : Bool :=
  if g0 = 0 then ((fnd l g2).length : Int) == 0 else if g0 = 1 then decide (((fnd l g2).length : Int) > 0) && (fnd l g2).all (fun z => z.f3)
  else if g0 = 2 then decide (((fnd l g2).length : Int) > 1) else if g0 = 4 then (fnd l g2).any (fun z => decide (¬ z.f0 = g1)) else false
theorem one_ev (g0 g1 g2 : Int) (l : List S107) (hm : l.length ≤ 2932031007400) : Ev (fun k => weak_one.f k g0 g1 g2 l) (oneM g0 g1 g2 l) := by
  have hle := fnd_le l g2
  unfold weak_one.f oneM
  refine Ev.bind (found_ev l g2 hm) ?_
  by_cases h0 : g0 = 0
  · rw [if_pos h0]; exact Ev.pos h0 (Ev.all fun k => rfl)
  rw [if_neg h0]; refine Ev.neg h0 ?_
  by_cases h1 : g0 = 1
  · rw [if_pos h1]; refine Ev.pos h1 ?_
    by_cases hp : ((fnd l g2).length : Int) > 0
    · refine Ev.pos hp (Ev.bind (bad_ev _ (by omega)) (Ev.all fun k => ?_))
      rw [decide_eq_true hp]; simp
    · exact Ev.neg hp (Ev.all fun k => by rw [decide_eq_false hp]; simp)
  rw [if_neg h1]; refine Ev.neg h1 ?_
  by_cases h2 : g0 = 2
  · rw [if_pos h2]; exact Ev.pos h2 (Ev.all fun k => rfl)
  rw [if_neg h2]; refine Ev.neg h2 ?_
  by_cases h4 : g0 = 4
  · rw [if_pos h4]; exact Ev.pos h4 (strange_loop g0 g1 g2 _ (by omega) _ [] rfl)
  rw [if_neg h4]; exact Ev.neg h4 (Ev.all fun k => rfl)
theorem shows_all (g0 g1 g2 : Int) (l : List (List S107)) (hm : l.length ≤ 140737488355328) (hr : ∀ r ∈ l, r.length ≤ 2932031007400) : ∀ (suf pre : List (List S107)), l = pre ++ suf →
    Ev (fun k => weak_Shows.l0 k l (l.length : Int) (pre.length : Int) g0 g1 g2) (suf.all (oneM g0 g1 g2), 0)
  | [], pre, hl => Ev.done fun k => by simp only [weak_Shows.l0]; rw [if_neg (at_end hl)]; simp
  | x :: suf, pre, hl => by
    have a := at_R hl hm
    have ih := shows_all g0 g1 g2 l hm hr suf (pre ++ [x]) (next_mid hl)
    refine Ev.step (f := fun k => (weak_one.f k g0 g1 g2 x).bind fun t => if t = true then weak_Shows.l0 k l (l.length : Int) (((pre ++ [x]).length : Nat) : Int) g0 g1 g2 else some (false, 0)) (fun k => ?_) (Ev.bind (one_ev g0 g1 g2 x (hr x (by simp [hl]))) ?_)
    · simp only [weak_Shows.l0]
      rw [if_pos a.2.1, if_pos a.1, if_pos a.2.1, a.2.2.1, a.2.2.2, decide_eq_true (show (pre.length : Int) ≥ 0 from a.1)]; rfl
    · by_cases h : oneM g0 g1 g2 x = true
      · rw [show List.all (x :: suf) (oneM g0 g1 g2) = List.all suf (oneM g0 g1 g2) by simp [h]]; exact Ev.pos h ih
      · rw [show List.all (x :: suf) (oneM g0 g1 g2) = false by simp [h]]; exact Ev.neg h (Ev.all fun k => rfl)
/-- two readings whose first sectors differ -/
def uns (n : Int) : Bool → List Int → List (List S107) → Bool
  | _, _, [] => false
  | h, b, r :: rs => match fnd r n with
    | [] => uns n h b rs
    | z :: _ => if h = true then (if z.f2 = b then uns n h b rs else true) else uns n true z.f2 rs
theorem shows_uns (g0 g1 n : Int) (l : List (List S107)) (hm : l.length ≤ 140737488355328) (hr : ∀ r ∈ l, r.length ≤ 2932031007400) (hb : ∀ r ∈ l, ∀ z ∈ r, z.f2.length ≤ 140737488355328) : ∀ (suf pre : List (List S107)) (b : List Int) (h : Bool), l = pre ++ suf →
    Ev (fun k => weak_Shows.l1 k b h l (l.length : Int) (pre.length : Int) g0 g1 n) (uns n h b suf, 0)
  | [], pre, b, h, hl => Ev.done fun k => by simp only [weak_Shows.l1]; rw [if_neg (at_end hl)]; rfl
  | x :: suf, pre, b, h, hl => by
    have a := at_R hl hm
    have ih := fun b h => shows_uns g0 g1 n l hm hr hb suf (pre ++ [x]) b h (next_mid hl)
    have hx : x ∈ l := by simp [hl]
    refine Ev.step (f := fun k => (weak_found.f k x n).bind fun t => if (t.length : Int) = 0 then weak_Shows.l1 k b h l (l.length : Int) (((pre ++ [x]).length : Nat) : Int) g0 g1 n else (if h = true then (if 0 < (t.length : Int) then ((slices_Equal_byte_byte.f k ((rd_T107 t 0).f2) b).bind fun u => if u = true then weak_Shows.l1 k b h l (l.length : Int) (((pre ++ [x]).length : Nat) : Int) g0 g1 n else some (true, 0)) else none) else (if 0 < (t.length : Int) then weak_Shows.l1 k (rd_T107 t 0).f2 true l (l.length : Int) (((pre ++ [x]).length : Nat) : Int) g0 g1 n else none))) (fun k => ?_) (Ev.bind (found_ev x n (hr x hx)) ?_)
    · simp only [weak_Shows.l1]
      rw [if_pos a.2.1, if_pos a.1, if_pos a.2.1, a.2.2.1, a.2.2.2]
    · rcases hf : fnd x n with _ | ⟨z, zs⟩
      · rw [show uns n h b (x :: suf) = uns n h b suf by simp only [uns, hf]]
        exact Ev.pos rfl (ih b h)
      · have hz : z ∈ x := by have : z ∈ fnd x n := by rw [hf]; simp
                              exact (List.mem_filter.mp this).1
        have e : (rd_T107 (z :: zs) 0) = z := by simp [rd_T107]
        have hp : (0 : Int) < ((z :: zs).length : Int) := by simp only [List.length_cons]; omega
        refine Ev.neg (by omega) ?_
        by_cases hh : h = true
        · refine Ev.pos hh (Ev.pos hp ?_)
          rw [e]
          refine Ev.bind (slices_Equal_byte_byte_ev z.f2 b (hb x hx z hz)) ?_
          by_cases hq : z.f2 = b
          · rw [show uns n h b (x :: suf) = uns n h b suf by simp only [uns, hf]; rw [if_pos hh, if_pos hq], decide_eq_true hq]
            exact Ev.pos rfl (ih b h)
          · rw [show uns n h b (x :: suf) = true by simp only [uns, hf]; rw [if_pos hh, if_neg hq], decide_eq_false hq]
            exact Ev.neg (by simp) (Ev.all fun k => rfl)
        · refine Ev.neg hh (Ev.pos hp ?_)
          rw [e, show uns n h b (x :: suf) = uns n true z.f2 suf by simp only [uns, hf]; rw [if_neg hh]]
          exact ih z.f2 true
/-- what the readings show -/
def showM (g0 g1 g2 : Int) (l : List (List S107)) : Bool × Int :=
  if g0 < 0 ∨ g0 ≥ 5 then (false, 1) else if l.length = 0 then (false, 4) else if g0 = 3 then (uns g2 false [] l, 0) else (l.all (oneM g0 g1 g2), 0)
theorem shows_ev (g0 g1 g2 : Int) (l : List (List S107)) (hm : l.length ≤ 140737488355328) (hr : ∀ r ∈ l, r.length ≤ 2932031007400) (hb : ∀ r ∈ l, ∀ z ∈ r, z.f2.length ≤ 140737488355328) :
    Ev (fun k => weak_Shows.f k g0 g1 g2 l) (showM g0 g1 g2 l) := by
  have j (b : Bool) (hbv : b = decide (g0 < 0 ∨ g0 ≥ 5)) : Ev (fun k => weak_Shows.j0 k l b g0 g1 g2) (showM g0 g1 g2 l) := by
    unfold showM
    by_cases h : g0 < 0 ∨ g0 ≥ 5
    · rw [decide_eq_true h] at hbv
      rw [if_pos h, hbv]
      exact Ev.done fun k => by simp only [weak_Shows.j0]; rw [if_pos trivial]
    · rw [decide_eq_false h] at hbv
      rw [if_neg h, hbv]
      by_cases h0 : l.length = 0
      · rw [if_pos h0]
        exact Ev.done fun k => by simp only [weak_Shows.j0]; rw [if_neg (by simp), if_pos (by omega)]
      · rw [if_neg h0]
        by_cases h3 : g0 = 3
        · rw [if_pos h3]
          refine Ev.step (fun k => ?_) (shows_uns g0 g1 g2 l hm hr hb l [] [] false rfl)
          simp only [weak_Shows.j0]; rw [if_neg (by simp), if_neg (by omega), if_pos h3]; rfl
        · rw [if_neg h3]
          refine Ev.step (fun k => ?_) (shows_all g0 g1 g2 l hm hr l [] rfl)
          simp only [weak_Shows.j0]; rw [if_neg (by simp), if_neg (by omega), if_neg h3]; rfl
  unfold weak_Shows.f
  by_cases h : g0 < 0
  · exact Ev.pos h (j true (by rw [decide_eq_true (.inl h)]))
  · refine Ev.neg h (j _ ?_)
    rw [decide_eq_decide]; omega
/-- the first sectors' bytes of the readings that have one -/
def fsts (n : Int) : List (List S107) → List (List Int)
  | [] => []
  | r :: rs => match fnd r n with
    | [] => fsts n rs
    | z :: _ => z.f2 :: fsts n rs
theorem fsts_add (n : Int) (r : List S107) : ∀ p : List (List S107), fsts n (p ++ [r]) = fsts n p ++ (match fnd r n with | [] => [] | z :: _ => [z.f2])
  | [] => by
    show fsts n [r] = _
    rcases hf : fnd r n with _ | ⟨z, zs⟩ <;> simp [fsts, hf]
  | q :: p => by
    have ih := fsts_add n r p
    show fsts n (q :: (p ++ [r])) = _
    simp only [fsts]
    rcases hq : fnd q n with _ | ⟨z, zs⟩
    · exact ih
    · simp only [ih, List.cons_append]
theorem fsts_le (n : Int) : ∀ p : List (List S107), (fsts n p).length ≤ p.length
  | [] => Nat.le_refl _
  | q :: p => by
    have ih := fsts_le n p
    simp only [fsts, List.length_cons]
    split
    · omega
    · simp only [List.length_cons]; omega
theorem fsts_mem (n : Int) : ∀ (p : List (List S107)) (b : List Int), b ∈ fsts n p → ∃ r ∈ p, ∃ z ∈ r, z.f2 = b
  | q :: p, b, h => by
    simp only [fsts] at h
    rcases hq : fnd q n with _ | ⟨z, zs⟩
    · rw [hq] at h
      obtain ⟨r, hr, z, hz, e⟩ := fsts_mem n p b h
      exact ⟨r, List.mem_cons_of_mem _ hr, z, hz, e⟩
    · rw [hq] at h
      rcases List.mem_cons.mp h with rfl | h
      · have : z ∈ fnd q n := by rw [hq]; simp
        exact ⟨q, by simp, z, (List.mem_filter.mp this).1, rfl⟩
      · obtain ⟨r, hr, z, hz, e⟩ := fsts_mem n p b h
        exact ⟨r, List.mem_cons_of_mem _ hr, z, hz, e⟩
theorem uns_true (n : Int) (b : List Int) : ∀ l : List (List S107), uns n true b l = (fsts n l).any (fun x => decide (¬ x = b))
  | [] => rfl
  | r :: rs => by
    have ih := uns_true n b rs
    simp only [uns, fsts]
    rcases hf : fnd r n with _ | ⟨z, zs⟩
    · exact ih
    · by_cases h : z.f2 = b
      · simp [h, ih]
      · simp [h]
theorem uns_false (n : Int) : ∀ l : List (List S107), uns n false [] l = (fsts n l).any (fun x => decide (¬ x = (fsts n l).getD 0 []))
  | [] => rfl
  | r :: rs => by
    have ih := uns_false n rs
    rcases hf : fnd r n with _ | ⟨z, zs⟩
    · simp only [uns, fsts, hf]; exact ih
    · simp only [uns, fsts, hf]; simp [uns_true]
/-- what the reference says of one reading -/
def gdM (g0 g1 n : Int) (r : List S107) : Bool :=
  rdOf false [((fnd r n).length : Int) == 0, decide (((fnd r n).length : Int) > 0) && (fnd r n).all (fun z => z.f3), decide (((fnd r n).length : Int) > 1), true, (fnd r n).any (fun z => decide (¬ z.f0 = g1))] g0
theorem gd_one (g0 g1 n : Int) (r : List S107) (h : 0 ≤ g0 ∧ g0 < 5 ∧ ¬ g0 = 3) : gdM g0 g1 n r = oneM g0 g1 n r := by
  have : g0 = 0 ∨ g0 = 1 ∨ g0 = 2 ∨ g0 = 4 := by omega
  rcases this with rfl | rfl | rfl | rfl <;> rfl
theorem guard_in (g0 g1 n : Int) (hg : 0 ≤ g0 ∧ g0 < 5) (all : Bool) (l : List (List S107)) (i : Int) (F : List (List Int)) (hF : F.length < 5864062014805) (r : List S107) (hr : r.length ≤ 2932031007400) (R : Bool)
    (next : Ev (fun k => bakeref2_Guarded.l0 k (all && gdM g0 g1 n r) l (l.length : Int) (wrap64 (i + 1)) g0 g1 n (F ++ (match fnd r n with | [] => [] | z :: _ => [z.f2]))) R) :
    ∀ (suf pre : List S107), r = pre ++ suf → Ev (fun k => bakeref2_Guarded.l1 k all (fnd pre n) ((fnd pre n).all (fun z => z.f3)) ((fnd pre n).any (fun z => decide (¬ z.f0 = g1))) l (l.length : Int) i r (r.length : Int) (pre.length : Int) g0 g1 n F) R
  | [], pre, hl => by
    have hp : r = pre := by simpa using hl
    subst hp
    refine Ev.step (fun k => ?_) next
    simp only [bakeref2_Guarded.l1]
    rw [if_neg (by omega)]
    have hg4 : g0 < ((([((fnd r n).length : Int) == 0, (fnd r n).all (fun z => z.f3), decide (((fnd r n).length : Int) > 1), true, (fnd r n).any (fun z => decide (¬ z.f0 = g1))] : List Bool).length : Nat) : Int) := by simp only [List.length_cons, List.length_nil]; omega
    unfold gdM
    rcases hf : fnd r n with _ | ⟨z, zs⟩
    · cases all
      · simp
      · simp [hg.1, show g0 < 5 from hg.2]
    · have e0 : (rd_T107 (z :: zs) 0) = z := by simp [rd_T107]
      rw [e0]
      have e1 : (0 : Int) < ((z :: zs).length : Int) := by simp only [List.length_cons]; omega
      cases all
      · rw [if_neg (by simp), if_pos e1, if_pos e1, if_pos hF]
        simp
      · rw [if_pos rfl, if_pos e1, Option.bind_some, if_pos hg.1, if_pos (by simp only [List.length_cons, List.length_nil]; omega), if_pos e1, if_pos hF, decide_eq_true (show ((z :: zs).length : Int) > 0 from e1)]
        simp
  | x :: suf, pre, hl => by
    have a := at_S hl (by omega)
    have ih := guard_in g0 g1 n hg all l i F hF r hr R next suf (pre ++ [x]) (next_mid hl)
    have hle := fnd_le pre n
    refine Ev.step (fun k => ?_) ih
    simp only [bakeref2_Guarded.l1]
    rw [if_pos a.2.1, if_pos a.1, if_pos a.2.1, a.2.2.1, a.2.2.2, fnd_add]
    by_cases h : x.f1 = n
    · rw [if_pos h, if_pos (by omega), if_pos h, Option.bind_some, List.all_append, List.any_append]
      have e2 : (x.f0 != g1) = decide (¬ x.f0 = g1) := by
        by_cases hx : x.f0 = g1 <;> simp [hx]
      generalize (fnd pre n).all (fun z => z.f3) = u
      generalize (fnd pre n).any (fun z => decide (¬ z.f0 = g1)) = v
      cases u <;> cases v <;> simp [e2]
    · rw [if_neg h, if_neg h]
theorem guard_firsts (F : List (List Int)) (hm : F.length ≤ 140737488355328) (hb : ∀ b ∈ F, b.length ≤ 140737488355328) : ∀ (suf pre : List (List Int)), F = pre ++ suf →
    Ev (fun k => bakeref2_Guarded.l2 k F (F.length : Int) (pre.length : Int) F) (suf.any (fun x => decide (¬ x = F.getD 0 [])))
  | [], pre, hl => Ev.done fun k => by simp only [bakeref2_Guarded.l2]; rw [if_neg (at_end hl)]; simp
  | x :: suf, pre, hl => by
    have a := at_F hl hm
    have ih := guard_firsts F hm hb suf (pre ++ [x]) (next_mid hl)
    refine Ev.step (f := fun k => (slices_Equal_byte_byte.f k x (F.getD 0 [])).bind fun t => if t = true then bakeref2_Guarded.l2 k F (F.length : Int) (((pre ++ [x]).length : Nat) : Int) F else some true) (fun k => ?_) (Ev.bind (slices_Equal_byte_byte_ev x (F.getD 0 []) (hb x (by simp [hl]))) ?_)
    · simp only [bakeref2_Guarded.l2]
      rw [if_pos a.2.1, if_pos a.1, if_pos a.2.1, if_pos (by omega), a.2.2.1, a.2.2.2, decide_eq_true (show (pre.length : Int) ≥ 0 from a.1)]; rfl
    · by_cases h : x = F.getD 0 []
      · rw [show List.any (x :: suf) (fun x => decide (¬ x = F.getD 0 [])) = List.any suf (fun x => decide (¬ x = F.getD 0 [])) by rw [List.any_cons, decide_eq_false (by simpa using h)]; rfl]
        exact Ev.pos (decide_eq_true h) ih
      · rw [show List.any (x :: suf) (fun x => decide (¬ x = F.getD 0 [])) = true by rw [List.any_cons, decide_eq_true h]; rfl]
        exact Ev.neg (by rw [decide_eq_false h]; simp) (Ev.all fun k => rfl)
theorem guard_loop (g0 g1 n : Int) (hg : 0 ≤ g0 ∧ g0 < 5) (l : List (List S107)) (hm : l.length < 5864062014805) (hr : ∀ r ∈ l, r.length ≤ 2932031007400) (hb : ∀ r ∈ l, ∀ z ∈ r, z.f2.length ≤ 140737488355328) : ∀ (suf pre : List (List S107)) (all : Bool), l = pre ++ suf →
    Ev (fun k => bakeref2_Guarded.l0 k all l (l.length : Int) (pre.length : Int) g0 g1 n (fsts n pre)) (if g0 = 3 then uns n false [] l else all && suf.all (gdM g0 g1 n))
  | [], pre, all, hl => by
    have hp : l = pre := by simpa using hl
    subst hp
    by_cases h3 : g0 = 3
    · rw [if_pos h3, uns_false]
      refine Ev.step (fun k => ?_) (guard_firsts (fsts n l) (by have := fsts_le n l; omega) (fun b h => by obtain ⟨r, hr2, z, hz, rfl⟩ := fsts_mem n l b h; exact hb r hr2 z hz) _ [] rfl)
      simp only [bakeref2_Guarded.l0]
      rw [if_neg (by omega), if_pos h3]; rfl
    · rw [if_neg h3]
      refine Ev.done fun k => ?_
      simp only [bakeref2_Guarded.l0]
      rw [if_neg (by omega), if_neg h3]; simp
  | x :: suf, pre, all, hl => by
    have a := at_R hl (by omega)
    have ih := guard_loop g0 g1 n hg l hm hr hb suf (pre ++ [x]) (all && gdM g0 g1 n x) (next_mid hl)
    rw [fsts_add, ← a.2.2.2] at ih
    have hle := fsts_le n pre
    have hlt : pre.length < l.length := by have := a.2.1; omega
    have e : (if g0 = 3 then uns n false [] l else all && (x :: suf).all (gdM g0 g1 n)) = (if g0 = 3 then uns n false [] l else (all && gdM g0 g1 n x) && suf.all (gdM g0 g1 n)) := by rw [List.all_cons, Bool.and_assoc]
    rw [e]
    refine Ev.step (fun k => ?_) (guard_in g0 g1 n hg all l (pre.length : Int) (fsts n pre) (by omega) x (hr x (by simp [hl])) _ ih x [] rfl)
    simp only [bakeref2_Guarded.l0]
    rw [if_pos a.2.1, if_pos a.1, if_pos a.2.1, a.2.2.1]; rfl
theorem guard_ev (g0 g1 n : Int) (hg : 0 ≤ g0 ∧ g0 < 5) (l : List (List S107)) (hm : l.length < 5864062014805) (hr : ∀ r ∈ l, r.length ≤ 2932031007400) (hb : ∀ r ∈ l, ∀ z ∈ r, z.f2.length ≤ 140737488355328) :
    Ev (fun k => bakeref2_Guarded.f k g0 g1 n l) (if g0 = 3 then uns n false [] l else l.all (gdM g0 g1 n)) := by
  have h := guard_loop g0 g1 n hg l hm hr hb l [] true rfl
  rw [Bool.true_and] at h
  exact h
end Go.Proofs.Ytgiodeiibmbhhaa.BkWeakShows
