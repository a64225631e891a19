/- Orders in which something is born. -/
import Derived.Test.YtlgbhaigpecdoaaVOrder
set_option linter.unusedVariables false
set_option linter.unusedSimpArgs false
namespace Go.Proofs.Ytlgbhaigpecdoaa.V
open Go

/-! ### What is forgotten -/
theorem forget_noU {p : Bool → Nat → Path → Bool} : ∀ {s : SV}, noU (forget p s) = true → forget p s = s
  | .agg a b, h => by
    simp only [forget, noU, Bool.and_eq_true] at h ⊢
    rw [forget_noU h.1, forget_noU h.2]
  | .tcons a b, h => by
    simp only [forget, noU, Bool.and_eq_true] at h ⊢
    rw [forget_noU h.1, forget_noU h.2]
  | .fn f c, h => by
    simp only [forget, noU] at h ⊢
    rw [forget_noU h]
  | .ref s q, h => by
    simp only [forget] at h ⊢
    split
    · rename_i e; rw [if_pos e] at h; simp [noU] at h
    · rfl
  | .sub s q lo n, h => by
    simp only [forget] at h ⊢
    split
    · rename_i e; rw [if_pos e] at h; simp [noU] at h
    · rfl
  | .ptr s q, h => by
    simp only [forget] at h ⊢
    split
    · rename_i e; rw [if_pos e] at h; simp [noU] at h
    · rfl
  | .undef, _ => rfl
  | .con _ _, _ => rfl
  | .raw _, _ => rfl
  | .emp, _ => rfl
  | .tnil, _ => rfl
  | .pro _ _, _ => rfl
theorem forget_off {p : Bool → Nat → Path → Bool} : ∀ {s : SV}, (∀ r ∈ roots s, ∀ b q, p b r q = false) → forget p s = s
  | .agg a b, h => by
    simp only [forget]
    rw [forget_off (fun r hr => h r (by simp [roots, hr])), forget_off (fun r hr => h r (by simp [roots, hr]))]
  | .tcons a b, h => by
    simp only [forget]
    rw [forget_off (fun r hr => h r (by simp [roots, hr])), forget_off (fun r hr => h r (by simp [roots, hr]))]
  | .fn f c, h => by
    simp only [forget]
    rw [forget_off (fun r hr => h r (by simpa [roots] using hr))]
  | .ref s q, h => by simp [forget, h s (by simp [roots])]
  | .sub s q lo n, h => by simp [forget, h s (by simp [roots])]
  | .ptr s q, h => by simp [forget, h s (by simp [roots])]
  | .undef, _ => rfl
  | .con _ _, _ => rfl
  | .raw _, _ => rfl
  | .emp, _ => rfl
  | .tnil, _ => rfl
  | .pro _ _, _ => rfl
theorem forget_nil {p : Bool → Nat → Path → Bool} {s : SV} (h : roots s = []) : forget p s = s := forget_off (by rw [h]; simp)
theorem forget_comm (p q : Bool → Nat → Path → Bool) : ∀ s : SV, forget p (forget q s) = forget q (forget p s)
  | .agg a b => by simp only [forget]; rw [forget_comm p q a, forget_comm p q b]
  | .tcons a b => by simp only [forget]; rw [forget_comm p q a, forget_comm p q b]
  | .fn f c => by simp only [forget]; rw [forget_comm p q c]
  | .ref s r => by by_cases h1 : p false s r = true <;> by_cases h2 : q false s r = true <;> simp [forget, h1, h2]
  | .sub s r lo n => by by_cases h1 : p false s r = true <;> by_cases h2 : q false s r = true <;> simp [forget, h1, h2]
  | .ptr s r => by by_cases h1 : p true s r = true <;> by_cases h2 : q true s r = true <;> simp [forget, h1, h2]
  | .undef => rfl
  | .con _ _ => rfl
  | .raw _ => rfl
  | .emp => rfl
  | .tnil => rfl
  | .pro _ _ => rfl
/-! ### Boxes that are laid -/
theorem bset_comm {i j : Nat} (h : i ≠ j) (b c : Bx) : ∀ l : List (Nat × Bx), bset i b (bset j c l) = bset j c (bset i b l)
  | [] => by
    rcases Nat.lt_or_gt_of_ne h with h1 | h1
    · simp [bset, h1, Nat.not_lt.2 (Nat.le_of_lt h1), h.symm]
    · simp [bset, h1, Nat.not_lt.2 (Nat.le_of_lt h1), h]
  | (k, d) :: l => by
    have ih := bset_comm h b c l
    by_cases h1 : j < k
    · by_cases h2 : i < k
      · rcases Nat.lt_or_gt_of_ne h with h3 | h3
        · simp [bset, h1, h2, h3, Nat.not_lt.2 (Nat.le_of_lt h3), h.symm]
        · simp [bset, h1, h2, h3, Nat.not_lt.2 (Nat.le_of_lt h3), h]
      · have h4 : ¬ i < j := by omega
        by_cases h5 : i = k
        · subst h5; simp [bset, h1, h2, h4, h]
        · simp [bset, h1, h2, h4, h, h5]
    · by_cases h2 : i < k
      · have h4 : ¬ j < i := by omega
        by_cases h5 : j = k
        · subst h5; simp [bset, h1, h2, h4, h.symm]
        · simp [bset, h1, h2, h4, h.symm, h5]
      · by_cases h5 : i = k
        · by_cases h6 : j = k
          · omega
          · subst h5; simp [bset, h1, h2, h6]
        · by_cases h6 : j = k
          · subst h6; simp [bset, h1, h2, h5]
          · simp [bset, h1, h2, h5, h6, ih]
theorem bget_bset_ne {i j : Nat} (h : j ≠ i) (b : Bx) : ∀ l : List (Nat × Bx), bget (bset i b l) j = bget l j
  | [] => by simp [bset, bget, h]
  | (k, c) :: l => by
    simp only [bset]
    split
    · simp [bget, h]
    · split
      · rename_i e; subst e; simp [bget, h]
      · simp only [bget]
        split
        · rfl
        · exact bget_bset_ne h b l
/-- What leads to a box, or to what lies below its rows. -/
abbrev KF := Bool → Path → Bool
def kAll : KF := fun _ _ => true
def kDeep : KF := fun _ q => !decide (lev q = 0)
def kTurn (L : Nat) : KF := fun isPtr q => cond isPtr (decide (L < lev q)) (decide (L ≤ lev q))
def kNone : KF := fun _ _ => false
def killF (f : KF) (i : Nat) : SV → SV := forget fun p s q => decide (s = i) && f p q
def St.upd (st : St) (i : Nat) (f : KF) (b : Bx) : St := { slots := st.slots.map (killF f i), boxes := bset i b st.boxes }
theorem lay_upd (st : St) (i : Nat) (b : Bx) : st.lay i b = st.upd i kAll b := by
  have : killAll i = killF kAll i := by
    unfold killAll killF
    congr 1; funext _ s q; simp [kAll]
  simp only [St.lay, St.upd, this]
theorem take_upd (st : St) (r : Nat) (q : Path) (b : Bx) : st.take r q b = st.upd r kDeep { b with m := mput b.m q .dead } := rfl
abbrev Upd := Nat × KF × Bx
theorem turn_upd (st : St) (r L : Nat) (b : Bx) : st.turn r L b = st.upd r (kTurn L) b := rfl
theorem kill1_upd (st : St) (r : Nat) (b : Bx) : ({ slots := st.slots.map (kill1 r), boxes := bset r b st.boxes } : St) = st.upd r kDeep b := rfl
theorem none_upd (st : St) (r : Nat) (b : Bx) : ({ st with boxes := bset r b st.boxes } : St) = st.upd r kNone b := by
  have : st.slots.map (killF kNone r) = st.slots := by
    rw [List.map_congr_left (g := id) (fun s _ => ?_), List.map_id]
    exact forget_off fun j _ p q => by simp [kNone]
  simp only [St.upd, this]
def St.lays (st : St) : List Upd → St
  | [] => st
  | (i, f, b) :: l => (st.upd i f b).lays l
theorem lays_append (st : St) : ∀ l m : List Upd, st.lays (l ++ m) = (st.lays l).lays m
  | [], _ => rfl
  | (i, f, b) :: l, m => lays_append (st.upd i f b) l m
theorem upd_comm (st : St) {i j : Nat} (h : i ≠ j) (f g : KF) (b c : Bx) : (st.upd i f b).upd j g c = (st.upd j g c).upd i f b := by
  simp only [St.upd, List.map_map]
  congr 1
  · congr 1; funext s; exact forget_comm _ _ s
  · exact (bset_comm h b c st.boxes).symm
theorem lays_upd (st : St) {j : Nat} (g : KF) (c : Bx) : ∀ (l : List Upd), (∀ p ∈ l, p.1 ≠ j) → (st.lays l).upd j g c = (st.upd j g c).lays l
  | [], _ => rfl
  | (i, f, b) :: l, h => by
    simp only [St.lays]
    rw [lays_upd (st.upd i f b) g c l (fun p hp => h p (List.mem_cons_of_mem _ hp)), upd_comm st (h (i, f, b) (List.mem_cons_self ..))]
theorem lays_comm (st : St) : ∀ (m l : List Upd), (∀ p ∈ l, ∀ q ∈ m, p.1 ≠ q.1) → (st.lays l).lays m = (st.lays m).lays l
  | [], _, _ => rfl
  | (j, g, c) :: m, l, h => by
    simp only [St.lays]
    rw [lays_upd st g c l (fun p hp => h p hp (j, g, c) (List.mem_cons_self ..))]
    exact lays_comm (st.upd j g c) m l (fun p hp q hq => h p hp q (List.mem_cons_of_mem _ hq))
theorem sset_map (f : SV → SV) : ∀ (l : List SV) (d : Nat) (s : SV), f s = s → (sset l d s).map f = sset (l.map f) d s
  | [], _, _, _ => rfl
  | a :: l, 0, s, h => by simp [sset, h]
  | a :: l, d + 1, s, h => by simp [sset, sset_map f l d s h]
theorem set_upd (st : St) (d : Option Tmp) (s : SV) (i : Nat) (f : KF) (b : Bx) (h : i ∉ roots s) : (st.set d s).upd i f b = (st.upd i f b).set d s := by
  cases d with
  | none => rfl
  | some d =>
    simp only [St.set, St.upd]
    congr 1
    refine sset_map _ _ _ _ (forget_off fun r hr b q => ?_)
    have : ¬ r = i := fun e => h (e ▸ hr)
    simp [this]
theorem set_lays (d : Option Tmp) (s : SV) : ∀ (l : List Upd) (st : St), (∀ p ∈ l, p.1 ∉ roots s) → (st.set d s).lays l = (st.lays l).set d s
  | [], _, _ => rfl
  | (i, f, b) :: l, st, h => by
    simp only [St.lays]
    rw [set_upd st d s i f b (h (i, f, b) (List.mem_cons_self ..)), set_lays d s l _ (fun p hp => h p (List.mem_cons_of_mem _ hp))]
/-- What a slot holds behind. -/
theorem lays_ev_U : ∀ (l : List Upd) (st : St) (x : Operand), noU ((st.lays l).ev x) = true → (st.lays l).ev x = st.ev x
  | [], _, _, _ => rfl
  | (i, f, b) :: l, st, x, h => by
    simp only [St.lays] at h ⊢
    have e := lays_ev_U l (st.upd i f b) x h
    rw [e] at h ⊢
    cases x with
    | tmp t =>
      have e2 : (st.upd i f b).ev (.tmp t) = killF f i (st.ev (.tmp t)) := sget_map _ _ _
      rw [e2] at h ⊢
      exact forget_noU h
    | _ => rfl
theorem lays_ev_off : ∀ (l : List Upd) (st : St) (x : Operand), (∀ p ∈ l, p.1 ∉ roots (st.ev x)) → (st.lays l).ev x = st.ev x
  | [], _, _, _ => rfl
  | (i, f, b) :: l, st, x, h => by
    have e2 : (st.upd i f b).ev x = st.ev x := by
      cases x with
      | tmp t =>
        have e2 : (st.upd i f b).ev (.tmp t) = killF f i (st.ev (.tmp t)) := sget_map _ _ _
        rw [e2]
        refine forget_off fun r hr b' q => ?_
        have : ¬ r = i := fun e => h (i, f, b) (List.mem_cons_self ..) (e ▸ hr)
        simp [this]
      | _ => rfl
    simp only [St.lays]
    rw [lays_ev_off l (st.upd i f b) x (fun p hp => by rw [e2]; exact h p (List.mem_cons_of_mem _ hp)), e2]
theorem lays_boxes : ∀ (l : List Upd) (st : St) (r : Nat), (∀ p ∈ l, p.1 ≠ r) → bget (st.lays l).boxes r = bget st.boxes r
  | [], _, _, _ => rfl
  | (i, f, b) :: l, st, r, h => by
    simp only [St.lays]
    rw [lays_boxes l (st.upd i f b) r (fun p hp => h p (List.mem_cons_of_mem _ hp))]
    exact bget_bset_ne (Ne.symm (h (i, f, b) (List.mem_cons_self ..))) b st.boxes
theorem bget_bset_eq (i : Nat) (b : Bx) : ∀ l : List (Nat × Bx), bget (bset i b l) i = some b
  | [] => by simp [bset, bget]
  | (k, c) :: l => by
    simp only [bset]
    split
    · simp [bget]
    · split
      · simp [bget]
      · rename_i h; simp only [bget, if_neg h]; exact bget_bset_eq i b l
theorem lays_congr : ∀ (l : List Upd) {st st' : St} {r : Nat}, bget st'.boxes r = bget st.boxes r → bget (st'.lays l).boxes r = bget (st.lays l).boxes r
  | [], _, _, _, h => h
  | (i, f, b) :: l, st, st', r, h => by
    simp only [St.lays]
    refine lays_congr l ?_
    show bget (bset i b st'.boxes) r = bget (bset i b st.boxes) r
    by_cases e : r = i
    · subst e; rw [bget_bset_eq, bget_bset_eq]
    · rw [bget_bset_ne e, bget_bset_ne e]; exact h
/-! ### What is taken -/
theorem rowAt_bind {R : Type} (bs : List (Nat × Bx)) (r : Nat) (q : Path) (t : Ty) (K : Bx → List (den t) → Md → Option R) : rowAt bs r q t K = (rowAt bs r q t fun b xs m => some (b, xs, m)).bind fun p => K p.1 p.2.1 p.2.2 := by
  unfold rowAt
  split <;> (try rfl) <;> (repeat' split) <;> rfl
theorem rowAt_map {R S : Type} (bs : List (Nat × Bx)) (r : Nat) (q : Path) (t : Ty) (f : S → Option R) (K : Bx → List (den t) → Md → Option S) : (rowAt bs r q t K).bind f = rowAt bs r q t fun b xs m => (K b xs m).bind f := by
  unfold rowAt
  split <;> (try rfl) <;> (repeat' split) <;> rfl
def toCE : St → SV → (t : Ty) → Md → Option (den t × Md × List Upd)
  | st, .con t' x, t, w => if h : t' = t then some (h ▸ x, .ro, []) else none
  | st, .raw v, t, w => match parse t v.cells.toList with
    | some (x, []) => some (x, fitM t w, [])
    | _ => none
  | st, .emp, .slc t, w => some ([], fitM (.slc t) w, [])
  | st, .agg a b, .pair ta tb, w => (toCE st a ta w.fst).bind fun p => (toCE (st.lays p.2.2) (shallow b) tb w.snd).bind fun q => some ((p.1, q.1), Md.mk p.2.1 q.2.1, p.2.2 ++ q.2.2)
  | st, .ref r q, .slc t, w => if lev q = 0 then rowAt st.boxes r q t fun b xs m =>
      match w with
      | .ro => if live t m = true then some (xs, .ro, [(r, kDeep, { b with m := mput b.m q .dead })]) else none
      | _ => some (xs, .own m, [(r, kDeep, { b with m := mput b.m q .dead })])
    else none
  | st, .sub r q lo n, .slc t, w => if lev q = 0 then rowAt st.boxes r q t fun b xs m =>
      match w with
      | .ro => if live t m = true then some ((xs.drop lo).take n, .ro, [(r, kDeep, { b with m := mput b.m q .dead })]) else none
      | _ => some ((xs.drop lo).take n, .own m, [(r, kDeep, { b with m := mput b.m q .dead })])
    else none
  | _, _, _, _ => none
theorem toC_E : ∀ {t : Ty} {w : Md} {s : SV} {R : Type} (st : St) (K : den t → Md → St → Option R), toC st s t w K = (toCE st s t w).bind fun p => K p.1 p.2.1 (st.lays p.2.2) := by
  intro t
  induction t with
  | pair ta tb iha ihb =>
    intro w s R st K
    cases s <;> simp only [toC, toCE] <;> (try rfl)
    · split <;> rfl
    · generalize parse _ _ = o; rcases o with _ | ⟨x, _ | ⟨y, l⟩⟩ <;> rfl
    · rw [iha]
      cases toCE st _ ta w.fst with
      | none => rfl
      | some p =>
        simp only [Option.bind]
        rw [ihb]
        cases toCE (st.lays p.2.2) _ tb w.snd with
        | none => rfl
        | some q => simp only [Option.bind, lays_append]
  | slc t ih =>
    intro w s R st K
    cases s <;> simp only [toC, toCE] <;> (try rfl)
    · split <;> rfl
    · generalize parse _ _ = o; rcases o with _ | ⟨x, _ | ⟨y, l⟩⟩ <;> rfl
    · split
      · rw [rowAt_map]
        congr 1; funext b xs m
        cases w <;> (try rfl)
        simp only
        split <;> rfl
      · rfl
    · split
      · rw [rowAt_map]
        congr 1; funext b xs m
        cases w <;> (try rfl)
        simp only
        split <;> rfl
      · rfl
  | _ =>
    intro w s R st K
    cases s <;> simp only [toC, toCE] <;> (try rfl)
    · split <;> rfl
    all_goals (generalize parse _ _ = o; rcases o with _ | ⟨x, _ | ⟨y, l⟩⟩ <;> rfl)
theorem roots_off (p : Bool → Nat → Path → Bool) : ∀ {s : SV} {j : Nat}, j ∈ roots (forget p s) → j ∈ roots s
  | .agg a b, j, h => by
    simp only [forget, roots, List.mem_append] at h ⊢
    exact h.imp (roots_off p) (roots_off p)
  | .tcons a b, j, h => by
    simp only [forget, roots, List.mem_append] at h ⊢
    exact h.imp (roots_off p) (roots_off p)
  | .fn f c, j, h => by
    simp only [forget, roots] at h ⊢
    exact roots_off p h
  | .ref s q, j, h => by
    simp only [forget] at h
    split at h
    · simp [roots] at h
    · exact h
  | .sub s q lo n, j, h => by
    simp only [forget] at h
    split at h
    · simp [roots] at h
    · exact h
  | .ptr s q, j, h => by
    simp only [forget] at h
    split at h
    · simp [roots] at h
    · exact h
  | .undef, _, h => h
  | .con _ _, _, h => h
  | .raw _, _, h => h
  | .emp, _, h => h
  | .tnil, _, h => h
  | .pro _ _, _, h => h
theorem rowAt_local {R : Type} {bs bs' : List (Nat × Bx)} {r : Nat} (h : bget bs' r = bget bs r) (q : Path) (t : Ty) (K : Bx → List (den t) → Md → Option R) : rowAt bs' r q t K = rowAt bs r q t K := by
  unfold rowAt; rw [h]
theorem toCE_local : ∀ {t : Ty} {w : Md} {s : SV} {st st' : St}, (∀ j ∈ roots s, bget st'.boxes j = bget st.boxes j) → toCE st' s t w = toCE st s t w := by
  intro t
  induction t with
  | pair ta tb iha ihb =>
    intro w s st st' h
    cases s <;> simp only [toCE]
    rename_i a b
    rw [iha (fun j hj => h j (by simp [roots, hj]))]
    congr 1; funext p
    rw [ihb (fun j hj => lays_congr _ (h j (by simp [roots, roots_off _ hj])))]
  | slc t ih =>
    intro w s st st' h
    cases s <;> simp only [toCE]
    · rw [rowAt_local (h _ (by simp [roots]))]
    · rw [rowAt_local (h _ (by simp [roots]))]
  | _ =>
    intro w s st st' h
    cases s <;> simp only [toCE]
theorem rowAt_out {R : Type} {bs : List (Nat × Bx)} {r : Nat} {q : Path} {t : Ty} {K : Bx → List (den t) → Md → Option R} {x : R} (h : rowAt bs r q t K = some x) : ∃ b xs m, K b xs m = some x := by
  unfold rowAt at h
  split at h
  · split at h
    · split at h
      · exact ⟨_, _, _, h⟩
      · cases h
    · cases h
  · cases h
theorem toCE_keys : ∀ {t : Ty} {w : Md} {s : SV} {st : St} {x : den t} {m : Md} {E : List Upd}, toCE st s t w = some (x, m, E) → ∀ p ∈ E, p.1 ∈ roots s := by
  intro t
  induction t with
  | pair ta tb iha ihb =>
    intro w s st x m E h
    cases s <;> simp only [toCE, reduceCtorEq] at h
    · split at h
      · cases h; simp
      · cases h
    · split at h
      · cases h; simp
      · cases h
    · obtain ⟨p, hp, h⟩ := Option.bind_eq_some_iff.1 h
      obtain ⟨q, hq, h⟩ := Option.bind_eq_some_iff.1 h
      cases h
      intro e he
      simp only [roots, List.mem_append]
      rcases List.mem_append.1 he with he | he
      · exact .inl (iha hp e he)
      · exact .inr (roots_off _ (ihb hq e he))
  | slc t ih =>
    intro w s st x m E h
    cases s <;> simp only [toCE, reduceCtorEq] at h
    · split at h
      · cases h; simp
      · cases h
    · split at h
      · cases h; simp
      · cases h
    · cases h; simp
    · split at h
      · obtain ⟨b, xs, m2, h⟩ := rowAt_out h
        cases w <;> simp only at h
        · split at h
          · cases h; simp [roots]
          · cases h
        all_goals (cases h; simp [roots])
      · cases h
    · split at h
      · obtain ⟨b, xs, m2, h⟩ := rowAt_out h
        cases w <;> simp only at h
        · split at h
          · cases h; simp [roots]
          · cases h
        all_goals (cases h; simp [roots])
      · cases h
  | _ =>
    intro w s st x m E h
    cases s <;> simp only [toCE, reduceCtorEq] at h
    · split at h
      · cases h; simp
      · cases h
    · split at h
      · cases h; simp
      · cases h
def elemsE (t : Ty) (m : Md) : List SV → St → Option (List (den t) × List Upd)
  | [], _ => some ([], [])
  | s :: l, st => (toCE st (shallow s) t m).bind fun p => if sameM t p.2.1 m = true then (elemsE t m l (st.lays p.2.2)).bind fun q => some (p.1 :: q.1, p.2.2 ++ q.2) else none
theorem elems_E (t : Ty) (m : Md) : ∀ {l : List SV} {R : Type} (st : St) (K : List (den t) → St → Option R), elems t m l st K = (elemsE t m l st).bind fun q => K q.1 (st.lays q.2)
  | [], _, _, _ => rfl
  | s :: l, R, st, K => by
    simp only [elems, elemsE]
    rw [toC_E]
    cases toCE st (shallow s) t m with
    | none => rfl
    | some p =>
      simp only [Option.bind]
      by_cases hs : sameM t p.2.1 m = true
      · rw [if_pos hs, if_pos hs, elems_E t m (l := l)]
        cases elemsE t m l (st.lays p.2.2) with
        | none => rfl
        | some q => simp only [Option.bind, lays_append]
      · rw [if_neg hs, if_neg hs]
theorem elemsE_local (t : Ty) (m : Md) : ∀ {l : List SV} {st st' : St}, (∀ s ∈ l, ∀ j ∈ roots s, bget st'.boxes j = bget st.boxes j) → elemsE t m l st' = elemsE t m l st
  | [], _, _, _ => rfl
  | s :: l, st, st', h => by
    simp only [elemsE]
    rw [toCE_local (s := shallow s) (st := st) (fun j hj => h s (List.mem_cons_self ..) j (roots_off _ hj))]
    congr 1; funext p
    split
    · rw [elemsE_local t m (l := l) (fun s hs j hj => lays_congr _ (h s (List.mem_cons_of_mem _ hs) j hj))]
    · rfl
theorem elemsE_keys (t : Ty) (m : Md) : ∀ {l : List SV} {st : St} {xs : List (den t)} {E : List Upd}, elemsE t m l st = some (xs, E) → ∀ p ∈ E, ∃ s ∈ l, p.1 ∈ roots s
  | [], st, xs, E, h => by cases h; simp
  | s :: l, st, xs, E, h => by
    simp only [elemsE] at h
    obtain ⟨p, hp, h⟩ := Option.bind_eq_some_iff.1 h
    split at h
    · obtain ⟨q, hq, h⟩ := Option.bind_eq_some_iff.1 h
      cases h
      intro e he
      rcases List.mem_append.1 he with he | he
      · exact ⟨s, List.mem_cons_self .., roots_off _ (toCE_keys hp e he)⟩
      · obtain ⟨s', hs, hr⟩ := elemsE_keys t m hq e he
        exact ⟨s', List.mem_cons_of_mem _ hs, hr⟩
    · cases h
/-! ### What is given where nothing is taken -/
/-! ### The append -/
def appGoE (st : St) (d : Nat) (te : TE) (v : SV) (xs : List (den te.ty)) (free : Bool) (m : Md) : Option (List Upd × SV) :=
  if flat te.ty = true then (look st.boxes (shallow v) (.slc te.ty) some).bind fun ys => fin ys .ro []
  else (toCE st (shallow v) (.slc te.ty) (.own m)).bind fun p => match p.2.1 with
    | .ro => fin p.1 .ro p.2.2
    | .own m' => fin p.1 m' p.2.2
    | _ => none
where
  fin (ys : List (den te.ty)) (m' : Md) (E : List Upd) : Option (List Upd × SV) :=
    if free = true ∨ sameM te.ty m' m = true ∨ flat te.ty = true then
      (if (xs.length + ys.length) * te.bytes ≤ most ∧ 0 < te.bytes ∧ 0 < sz te.ty then
        some (E ++ [(d * 16, kAll, { mem := none, t := .slc te.ty, m := .own (if free = true then m' else m), x := xs ++ ys })], .ref (d * 16) [])
      else none)
    else none
theorem appGo_E {R : Type} (st : St) (d : Nat) (te : TE) (v : SV) (xs : List (den te.ty)) (free : Bool) (m : Md) (K : St → Option R) :
    appGo st d te v xs free m K = (appGoE st d te v xs free m).bind fun p => K ((st.lays p.1).set (some d) p.2) := by
  have hfin : ∀ (ys : List (den te.ty)) (m' : Md) (E : List Upd), (if free = true ∨ sameM te.ty m' m = true ∨ flat te.ty = true then
      (if (xs.length + ys.length) * te.bytes ≤ most ∧ 0 < te.bytes ∧ 0 < sz te.ty then
        K (((st.lays E).lay (d * 16) { mem := none, t := .slc te.ty, m := .own (if free = true then m' else m), x := xs ++ ys }).set (some d) (.ref (d * 16) []))
      else none) else none) = (appGoE.fin d te xs free m ys m' E).bind fun p => K ((st.lays p.1).set (some d) p.2) := by
    intro ys m' E
    unfold appGoE.fin
    by_cases h1 : free = true ∨ sameM te.ty m' m = true ∨ flat te.ty = true
    · rw [if_pos h1, if_pos h1]
      by_cases h2 : (xs.length + ys.length) * te.bytes ≤ most ∧ 0 < te.bytes ∧ 0 < sz te.ty
      · rw [if_pos h2, if_pos h2]
        simp only [Option.bind, lays_append, St.lays, lay_upd]
      · rw [if_neg h2, if_neg h2]; rfl
    · rw [if_neg h1, if_neg h1]; rfl
  unfold appGo newS appGoE
  by_cases hf : flat te.ty = true
  · rw [if_pos hf, if_pos hf, look_bind]
    cases look st.boxes (shallow v) (.slc te.ty) some with
    | none => rfl
    | some ys => exact hfin ys .ro []
  · rw [if_neg hf, if_neg hf, toC_E]
    cases toCE st (shallow v) (.slc te.ty) (.own m) with
    | none => rfl
    | some p =>
      obtain ⟨ys, mm, E⟩ := p
      simp only [Option.bind]
      cases mm with
      | ro => exact hfin ys .ro E
      | own m' => exact hfin ys m' E
      | dead => rfl
      | pair a b => rfl
def appE (c : Cx) (st : St) (d : Nat) (te : TE) (s v : SV) : Option (List Upd × SV) :=
  if isAgg s = true ∨ isAgg v = true then none else match s with
  | .raw (.slice none 0 0) => appGoE st d te v [] true (c.mode d (.slc te.ty)).elem
  | .emp => appGoE st d te v [] true (c.mode d (.slc te.ty)).elem
  | s => (toCE st s (.slc te.ty) (.own .ro)).bind fun p => match p.2.1 with
    | .own m => (appGoE (st.lays p.2.2) d te v p.1 false m).bind fun q => some (p.2.2 ++ q.1, q.2)
    | _ => none
theorem app_E {R : Type} (c : Cx) (st : St) (d : Nat) (te : TE) (s v : SV) (K : St → Option R) : appS c st d te s v K = (appE c st d te s v).bind fun p => K ((st.lays p.1).set (some d) p.2) := by
  unfold appS appE
  by_cases h : isAgg s = true ∨ isAgg v = true
  · rw [if_pos h, if_pos h]; rfl
  · rw [if_neg h, if_neg h]
    split
    · exact appGo_E ..
    · exact appGo_E ..
    · rename_i hx1 hx2
      split
      · exact (hx1 rfl).elim
      · exact (hx2 rfl).elim
      · rw [toC_E]
        cases toCE st s (.slc te.ty) (.own .ro) with
        | none => rfl
        | some p =>
          obtain ⟨xs, mm, E⟩ := p
          simp only [Option.bind]
          cases mm with
          | own m =>
            simp only
            rw [appGo_E]
            cases appGoE (st.lays E) d te v xs false m with
            | none => rfl
            | some q => simp only [Option.bind, lays_append]
          | ro => rfl
          | dead => rfl
          | pair a b => rfl
theorem appGoE_local {st st' : St} {d : Nat} {te : TE} {v : SV} {xs : List (den te.ty)} {free : Bool} {m : Md} (h : ∀ j ∈ roots v, bget st'.boxes j = bget st.boxes j) : appGoE st' d te v xs free m = appGoE st d te v xs free m := by
  unfold appGoE
  rw [look_local (s := shallow v) (bs := st.boxes) (fun j hj => h j (roots_off _ hj)), toCE_local (s := shallow v) (st := st) (fun j hj => h j (roots_off _ hj))]
theorem appE_local {c : Cx} {st st' : St} {d : Nat} {te : TE} {s v : SV} (hs : ∀ j ∈ roots s, bget st'.boxes j = bget st.boxes j) (hv : ∀ j ∈ roots v, bget st'.boxes j = bget st.boxes j) : appE c st' d te s v = appE c st d te s v := by
  unfold appE
  congr 1
  split
  · exact appGoE_local hv
  · exact appGoE_local hv
  · rw [toCE_local hs]
    congr 1; funext p
    split
    · rw [appGoE_local (st := st.lays p.2.2) (fun j hj => lays_congr _ (hv j hj))]
    · rfl
theorem appGoE_keys {st : St} {d : Nat} {te : TE} {v : SV} {xs : List (den te.ty)} {free : Bool} {m : Md} {E : List Upd} {s : SV} (h : appGoE st d te v xs free m = some (E, s)) : ∀ p ∈ E, p.1 = d * 16 ∨ (flat te.ty = false ∧ p.1 ∈ roots v) := by
  have hfin : ∀ {ys : List (den te.ty)} {m' : Md} {E' : List Upd}, appGoE.fin d te xs free m ys m' E' = some (E, s) → (∀ p ∈ E', flat te.ty = false ∧ p.1 ∈ roots v) → ∀ p ∈ E, p.1 = d * 16 ∨ (flat te.ty = false ∧ p.1 ∈ roots v) := by
    intro ys m' E' h hE p hp
    unfold appGoE.fin at h
    split at h
    · split at h
      · cases h
        rcases List.mem_append.1 hp with hp | hp
        · exact .inr (hE p hp)
        · simp at hp; subst hp; exact .inl rfl
      · cases h
    · cases h
  unfold appGoE at h
  split at h
  · obtain ⟨ys, _, h⟩ := Option.bind_eq_some_iff.1 h
    exact hfin h (fun p hp => by cases hp)
  · rename_i hf
    obtain ⟨q, hq, h⟩ := Option.bind_eq_some_iff.1 h
    obtain ⟨ys, mm, E'⟩ := q
    have hk : ∀ p ∈ E', flat te.ty = false ∧ p.1 ∈ roots v := fun p hp => ⟨by simpa using hf, roots_off _ (toCE_keys hq p hp)⟩
    split at h
    · exact hfin h hk
    · exact hfin h hk
    · cases h
theorem appE_keys {c : Cx} {st : St} {d : Nat} {te : TE} {s v : SV} {E : List Upd} {z : SV} (h : appE c st d te s v = some (E, z)) : ∀ p ∈ E, p.1 = d * 16 ∨ p.1 ∈ roots s ∨ (flat te.ty = false ∧ p.1 ∈ roots v) := by
  unfold appE at h
  split at h
  · cases h
  · split at h
    · exact fun p hp => (appGoE_keys h p hp).imp id .inr
    · exact fun p hp => (appGoE_keys h p hp).imp id .inr
    · obtain ⟨q, hq, h⟩ := Option.bind_eq_some_iff.1 h
      split at h
      · obtain ⟨r, hr, h⟩ := Option.bind_eq_some_iff.1 h
        cases h
        intro p hp
        rcases List.mem_append.1 hp with hp | hp
        · exact .inr (.inl (toCE_keys hq p hp))
        · exact (appGoE_keys hr p hp).imp id .inr
      · cases h
/-! ### The copy -/
def copyBE (st : St) (r lo : Nat) (nn : Option Nat) (te : TE) (v : SV) : Option (List Upd × SV) :=
  match bget st.boxes r with
  | some b => if h : b.t = .slc te.ty then
      if b.mem.isNone = true ∧ copyB.isRow b.m = true ∧ flat te.ty = true ∧ sz te.ty = 1 ∧ isAgg v = false then
        (look st.boxes v (.slc te.ty) some).bind fun ys =>
          if 0 < List.length ys ∧ 0 < (nn.getD (List.length (h ▸ b.x : den (.slc te.ty)))) then
            some ([(r, kDeep, { b with x := (h.symm ▸ spl (h ▸ b.x : den (.slc te.ty)) lo (min (List.length ys) (nn.getD (List.length (h ▸ b.x : den (.slc te.ty))))) ys : den b.t) })],
              .con (.int .i64) ((min (List.length ys) (nn.getD (List.length (h ▸ b.x : den (.slc te.ty)))) : Nat) : Int))
          else none
      else none
    else none
  | none => none
def copyE (st : St) (te : TE) (s v : SV) : Option (List Upd × SV) :=
  match s with
  | .ref r [] => copyBE st r 0 none te v
  | .sub r [] lo n => copyBE st r lo (some n) te v
  | _ => none
theorem copyB_E {R : Type} (st : St) (r lo : Nat) (nn : Option Nat) (te : TE) (v : SV) (d : Option Tmp) (K : St → Option R) :
    copyB st r lo nn te v (fun n st => K (st.set d (.con (.int .i64) (n : Nat)))) = (copyBE st r lo nn te v).bind fun p => K ((st.lays p.1).set d p.2) := by
  unfold copyB copyBE
  cases bget st.boxes r with
  | none => rfl
  | some b =>
    simp only
    split
    · split
      · rw [look_bind]
        cases look st.boxes v (.slc te.ty) some with
        | none => rfl
        | some ys =>
          simp only [Option.bind]
          split <;> rfl
      · rfl
    · rfl
theorem copy_E {R : Type} (st : St) (te : TE) (s v : SV) (d : Option Tmp) (K : St → Option R) :
    copyS st te s v (fun n st => K (st.set d (.con (.int .i64) (n : Nat)))) = (copyE st te s v).bind fun p => K ((st.lays p.1).set d p.2) := by
  unfold copyS copyE
  split
  · exact copyB_E ..
  · exact copyB_E ..
  · rename_i h1 h2
    split
    · rename_i r; exact (h1 r rfl).elim
    · rename_i r lo n; exact (h2 r lo n rfl).elim
    · rfl
theorem copyBE_local {st st' : St} {r lo : Nat} {nn : Option Nat} {te : TE} {v : SV} (hr : bget st'.boxes r = bget st.boxes r) (hv : ∀ j ∈ roots v, bget st'.boxes j = bget st.boxes j) : copyBE st' r lo nn te v = copyBE st r lo nn te v := by
  unfold copyBE
  rw [hr]
  simp only [look_local (s := v) (bs := st.boxes) hv]
theorem copyE_local {st st' : St} {te : TE} {s v : SV} (hs : ∀ j ∈ roots s, bget st'.boxes j = bget st.boxes j) (hv : ∀ j ∈ roots v, bget st'.boxes j = bget st.boxes j) : copyE st' te s v = copyE st te s v := by
  unfold copyE
  split
  · exact copyBE_local (hs _ (by simp [roots])) hv
  · exact copyBE_local (hs _ (by simp [roots])) hv
  · rfl
theorem copyBE_keys {st : St} {r lo : Nat} {nn : Option Nat} {te : TE} {v : SV} {E : List Upd} {z : SV} (h : copyBE st r lo nn te v = some (E, z)) : ∀ p ∈ E, p.1 = r := by
  unfold copyBE at h
  split at h
  · split at h
    · split at h
      · obtain ⟨ys, _, h⟩ := Option.bind_eq_some_iff.1 h
        split at h
        · cases h; simp
        · cases h
      · cases h
    · cases h
  · cases h
theorem copyE_keys {st : St} {te : TE} {s v : SV} {E : List Upd} {z : SV} (h : copyE st te s v = some (E, z)) : ∀ p ∈ E, p.1 ∈ roots s := by
  unfold copyE at h
  split at h
  · intro p hp; simp [roots, copyBE_keys h p hp]
  · intro p hp; simp [roots, copyBE_keys h p hp]
  · cases h
/-! ### The store -/
def storeE (c : Cx) (st : St) (t : Ty) (a v : SV) : Option (List Upd × SV) :=
  match a with
  | .ptr r q => match bget st.boxes r with
    | some b0 => if lev q = 0 ∨ (roots v).contains r = false then (toCE st v t (if lev q = 0 then mget (c.mode (r / 16) b0.t) q else mget b0.m q)).bind fun p => match bget (st.lays p.2.2).boxes r with
      | some b => if h : ctype b.t q = t then
          (if lev q = 0 then (if flat t = true then some (p.2.2 ++ [(r, kNone, { b with x := cput b.t b.x q (h ▸ p.1) })], .tnil)
              else some (p.2.2 ++ [(r, kTurn 0, { b with x := cput b.t b.x q (h ▸ p.1), m := mput b.m q p.2.1 })], .tnil))
            else if flat t = true then some (p.2.2 ++ [(r, kNone, { b with x := cput b.t b.x q (h ▸ p.1) })], .tnil)
            else if sameM t p.2.1 (mget b.m q) = true then some (p.2.2 ++ [(r, kTurn (lev q), { b with x := cput b.t b.x q (h ▸ p.1) })], .tnil) else none)
        else none
      | none => none
      else none
    | none => none
  | _ => none
theorem store_E {R : Type} (c : Cx) (st : St) (t : Ty) (a v : SV) (d : Option Tmp) (K : St → Option R) :
    storeS c st t a v (fun st => K (st.set d .tnil)) = (storeE c st t a v).bind fun p => K ((st.lays p.1).set d p.2) := by
  cases a with
  | ptr r q =>
    unfold storeS storeE
    simp only
    cases bget st.boxes r with
    | none => rfl
    | some b0 =>
      simp only
      split
      · rw [toC_E]
        cases toCE st v t (if lev q = 0 then mget (c.mode (r / 16) b0.t) q else mget b0.m q) with
        | none => rfl
        | some p =>
          simp only [Option.bind]
          cases bget (st.lays p.2.2).boxes r with
          | none => rfl
          | some b =>
            simp only
            split
            · split
              · split
                · simp only [lays_append, St.lays, none_upd]
                · simp only [lays_append, St.lays, turn_upd]
              · split
                · simp only [lays_append, St.lays, none_upd]
                · split
                  · simp only [lays_append, St.lays, turn_upd]
                  · rfl
            · rfl
      · rfl
  | _ => rfl
theorem storeE_local {c : Cx} {st st' : St} {t : Ty} {s v : SV} (hs : ∀ j ∈ roots s, bget st'.boxes j = bget st.boxes j) (hv : ∀ j ∈ roots v, bget st'.boxes j = bget st.boxes j) : storeE c st' t s v = storeE c st t s v := by
  unfold storeE
  split
  · rename_i r q
    have hr := hs r (by simp [roots])
    rw [hr]
    split
    · split
      · rw [toCE_local hv]
        congr 1; funext p
        rw [lays_congr p.2.2 hr]
      · rfl
    · rfl
  · rfl
theorem storeE_keys {c : Cx} {st : St} {t : Ty} {s v : SV} {E : List Upd} {z : SV} (h : storeE c st t s v = some (E, z)) : ∀ p ∈ E, p.1 ∈ roots s ∨ p.1 ∈ roots v := by
  unfold storeE at h
  split at h
  · rename_i r q
    split at h
    · split at h
      · obtain ⟨p, hp, h⟩ := Option.bind_eq_some_iff.1 h
        have hk : ∀ p' ∈ p.2.2, p'.1 ∈ roots v := fun e he => toCE_keys hp e he
        have key : ∀ (k : KF) (b : Bx) (z' : SV), some (p.2.2 ++ [(r, k, b)], z') = some (E, z) → ∀ p ∈ E, p.1 ∈ roots (SV.ptr r q) ∨ p.1 ∈ roots v := by
          intro k b z' e e1 he
          cases e
          rcases List.mem_append.1 he with he | he
          · exact .inr (hk _ he)
          · simp at he; subst he; exact .inl (by simp [roots])
        split at h
        · split at h
          · split at h
            · split at h
              · exact key _ _ _ h
              · exact key _ _ _ h
            · split at h
              · exact key _ _ _ h
              · split at h
                · exact key _ _ _ h
                · cases h
          · cases h
        · cases h
      · cases h
    · cases h
  · cases h
/-! ### All three -/
noncomputable def deedE (c : Cx) (st : St) : Deed → SV → SV → Option (List Upd × SV)
  | .app d ee, s, v => appE c st d ee s v
  | .cp ee, s, v => copyE st ee s v
  | .sto te, s, v => storeE c st te.ty s v
theorem lookL_bind (bs : List (Nat × Bx)) : ∀ (ts : List Ty) (s : SV) {R : Type} (K : denL ts → Option R), lookL bs ts s K = (lookL bs ts s some).bind K
  | [], s, R, K => by cases s <;> rfl
  | t :: ts, s, R, K => by
    cases s <;> try rfl
    rename_i a b
    simp only [lookL]
    split
    · rw [look_bind, look_bind (K := fun x => lookL bs ts b fun y => some (x, y))]
      cases look bs a t some with
      | none => rfl
      | some x =>
        simp only [Option.bind]
        rw [lookL_bind bs ts b, lookL_bind bs ts b (K := fun y => some (x, y))]
        cases lookL bs ts b some <;> rfl
    · rfl
theorem args_plain (bs : List (Nat × Bx)) : ∀ {ps : List PK} {ss : List SV} {R : Type} (st : St) (K : ArgT ps → List Nat → List Nat → List Nat → St → Option R), plainPs ps = true →
    args bs ps ss st K = (args bs ps ss ⟨[], []⟩ fun a _ lo _ _ => some (a, lo)).bind fun p => K p.1 [] p.2 [] st
  | [], [], _, _, _, _ => rfl
  | [], _ :: _, _, _, _, _ => rfl
  | .ro t :: ps, [], _, _, _, _ => rfl
  | .ro t :: ps, s :: ss, R, st, K, h => by
    simp only [args]
    split
    · rw [look_bind, look_bind (K := fun x => args bs ps ss ⟨[], []⟩ fun a io lo mv st => some ((x, a), roots s ++ lo))]
      cases look bs s t some with
      | none => rfl
      | some x =>
        simp only [Option.bind]
        rw [args_plain bs st _ (by simpa [plainPs] using h), args_plain bs ⟨[], []⟩ (fun a io lo mv st => some ((x, a), roots s ++ lo)) (by simpa [plainPs] using h)]
        cases args bs ps ss ⟨[], []⟩ fun a _ lo _ _ => some (a, lo) <;> rfl
    · rfl
  | .fn f cs :: ps, [], _, _, _, _ => rfl
  | .fn f cs :: ps, s :: ss, R, st, K, h => by
    simp only [args]
    split
    · split
      · rename_i g caps _
        rw [lookL_bind, lookL_bind (K := fun x => args bs ps ss ⟨[], []⟩ fun a io lo mv st => some ((x, a), roots caps ++ lo))]
        cases lookL bs cs caps some with
        | none => rfl
        | some x =>
          simp only [Option.bind]
          rw [args_plain bs st _ (by simpa [plainPs] using h), args_plain bs ⟨[], []⟩ (fun a io lo mv st => some ((x, a), roots caps ++ lo)) (by simpa [plainPs] using h)]
          cases args bs ps ss ⟨[], []⟩ fun a _ lo _ _ => some (a, lo) <;> rfl
      · rfl
    · rfl
  | .nil :: ps, [], _, _, _, _ => rfl
  | .nil :: ps, s :: ss, R, st, K, h => by
    simp only [args]
    split
    · rw [args_plain bs st _ (by simpa [plainPs] using h), args_plain bs ⟨[], []⟩ (fun a io lo mv st => some (((), a), lo)) (by simpa [plainPs] using h)]
      cases args bs ps ss ⟨[], []⟩ fun a _ lo _ _ => some (a, lo) <;> rfl
    · rfl
  | .mv _ _ :: ps, _, _, _, _, h => by simp [plainPs] at h
  | .io _ _ _ :: ps, _, _, _, _, h => by simp [plainPs] at h
theorem outsB_plain : ∀ {ps : List PK} (o : OutT ps) (bs : List (Nat × Bx)), plainPs ps = true → outsB ps o [] bs = bs
  | [], _, _, _ => rfl
  | .ro _ :: ps, o, bs, h => outsB_plain (ps := ps) o bs (by simpa [plainPs] using h)
  | .fn _ _ :: ps, o, bs, h => outsB_plain (ps := ps) o bs (by simpa [plainPs] using h)
  | .nil :: ps, o, bs, h => outsB_plain (ps := ps) o bs (by simpa [plainPs] using h)
  | .mv _ _ :: ps, _, _, h => by simp [plainPs] at h
  | .io _ _ _ :: ps, _, _, h => by simp [plainPs] at h
/-! ### What a call gives -/
def gotE (base : Nat) : (t : Ty) → Md → den t → Nat → SV × Nat × List Upd
  | .pair a b, m, x, k =>
    let p := gotE base a m.fst x.1 k
    let p' := gotE base b m.snd x.2 p.2.1
    (.agg p.1 p'.1, p'.2.1, p.2.2 ++ p'.2.2)
  | .slc t, .own m, x, k => (.ref (base + k) [], k + 1, [(base + k, kAll, { mem := none, t := .slc t, m := .own m, x := x })])
  | .slc t, .ro, x, k => (.con (.slc t) x, k, [])
  | .slc _, _, _, k => (.undef, k, [])
  | t, _, x, k => (.con t x, k, [])
theorem got_eq (base : Nat) : ∀ {t : Ty} {m : Md} {x : den t} {k : Nat} {st : St}, got base t m x k st = ((gotE base t m x k).1, (gotE base t m x k).2.1, st.lays (gotE base t m x k).2.2)
  | .pair a b, m, x, k, st => by
    simp only [got, gotE]
    rw [got_eq base (t := a), got_eq base (t := b)]
    simp [lays_append]
  | .slc t, .own m, x, k, st => by simp only [got, gotE, St.lays, lay_upd]
  | .slc t, .ro, x, k, st => rfl
  | .slc _, .dead, _, k, st => rfl
  | .slc _, .pair _ _, _, k, st => rfl
  | .int _, _, _, _, _ => rfl
  | .bool, _, _, _, _ => rfl
  | .str, _, _, _, _ => rfl
  | .raw, _, _, _, _ => rfl
  | .unit, _, _, _, _ => rfl
theorem gotE_keys (base : Nat) : ∀ {t : Ty} {m : Md} {x : den t} {k : Nat}, (gotE base t m x k).2.1 ≤ k + cntT t ∧ k ≤ (gotE base t m x k).2.1 ∧ ∀ p ∈ (gotE base t m x k).2.2, base + k ≤ p.1 ∧ p.1 < base + (gotE base t m x k).2.1
  | .pair a b, m, x, k => by
    simp only [gotE, cntT]
    have h1 := gotE_keys base (t := a) (m := m.fst) (x := x.1) (k := k)
    have h2 := gotE_keys base (t := b) (m := m.snd) (x := x.2) (k := (gotE base a m.fst x.1 k).2.1)
    refine ⟨by omega, by omega, fun p hp => ?_⟩
    rcases List.mem_append.1 hp with hp | hp
    · have := h1.2.2 p hp; omega
    · have := h2.2.2 p hp; omega
  | .slc t, .own m, x, k => ⟨by simp [gotE, cntT], by simp [gotE], fun p hp => by simp [gotE] at hp ⊢; subst hp; simp⟩
  | .slc t, .ro, x, k => ⟨by simp [gotE, cntT], by simp [gotE], fun p hp => by simp [gotE] at hp⟩
  | .slc _, .dead, _, k => ⟨by simp [gotE, cntT], by simp [gotE], fun p hp => by simp [gotE] at hp⟩
  | .slc _, .pair _ _, _, k => ⟨by simp [gotE, cntT], by simp [gotE], fun p hp => by simp [gotE] at hp⟩
  | .int _, _, _, _ => ⟨by simp [gotE, cntT], by simp [gotE], fun p hp => by simp [gotE] at hp⟩
  | .bool, _, _, _ => ⟨by simp [gotE, cntT], by simp [gotE], fun p hp => by simp [gotE] at hp⟩
  | .str, _, _, _ => ⟨by simp [gotE, cntT], by simp [gotE], fun p hp => by simp [gotE] at hp⟩
  | .raw, _, _, _ => ⟨by simp [gotE, cntT], by simp [gotE], fun p hp => by simp [gotE] at hp⟩
  | .unit, _, _, _ => ⟨by simp [gotE, cntT], by simp [gotE], fun p hp => by simp [gotE] at hp⟩
def gotsE (base : Nat) : (rs : List (Ty × Md)) → ResT rs → Nat → SV × Nat × List Upd
  | [], _, k => (.tnil, k, [])
  | (t, m) :: rs, x, k =>
    let p := gotE base t m x.1 k
    let p' := gotsE base rs x.2 p.2.1
    (.tcons p.1 p'.1, p'.2.1, p.2.2 ++ p'.2.2)
theorem gots_eq (base : Nat) : ∀ {rs : List (Ty × Md)} {x : ResT rs} {k : Nat} {st : St}, gots base rs x k st = ((gotsE base rs x k).1, (gotsE base rs x k).2.1, st.lays (gotsE base rs x k).2.2)
  | [], _, _, _ => rfl
  | (t, m) :: rs, x, k, st => by
    simp only [gots, gotsE]
    rw [got_eq, gots_eq base (rs := rs)]
    simp [lays_append]
theorem gotsE_keys (base : Nat) : ∀ {rs : List (Ty × Md)} {x : ResT rs} {k : Nat}, (gotsE base rs x k).2.1 ≤ k + cntR rs ∧ k ≤ (gotsE base rs x k).2.1 ∧ ∀ p ∈ (gotsE base rs x k).2.2, base + k ≤ p.1 ∧ p.1 < base + (gotsE base rs x k).2.1
  | [], _, k => ⟨by simp [gotsE], by simp [gotsE], fun p hp => by simp [gotsE] at hp⟩
  | (t, m) :: rs, x, k => by
    simp only [gotsE, cntR]
    have h1 := gotE_keys base (t := t) (m := m) (x := x.1) (k := k)
    have h2 := gotsE_keys base (rs := rs) (x := x.2) (k := (gotE base t m x.1 k).2.1)
    refine ⟨by omega, by omega, fun p hp => ?_⟩
    rcases List.mem_append.1 hp with hp | hp
    · have := h1.2.2 p hp; omega
    · have := h2.2.2 p hp; omega
end Go.Proofs.Ytlgbhaigpecdoaa.V
