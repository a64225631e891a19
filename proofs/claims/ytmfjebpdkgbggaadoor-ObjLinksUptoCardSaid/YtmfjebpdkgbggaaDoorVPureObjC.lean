/- Objects: what is filled in. -/
import Derived.Test.YtmfjebpdkgbggaaDoorVPureObjB
set_option linter.unusedVariables false
set_option linter.unusedSimpArgs false
namespace Go.Proofs.YtmfjebpdkgbggaaDoor.V
open Go
def hiB (v : Int) : Int := Int.fdiv v (2 ^ (min 8 64))
def u8 (v : Int) : Int := IntKind.u8.wrap v
def put (k : Int) (out : List Int) (p : Nat) (v : Int) : List Int :=
  if k = 1 then out.set p (u8 (hiB v)) else if k = 2 then (out.set p (u8 v)).set (p + 1) (u8 (hiB v)) else out.set p (u8 v)
theorem put_len (k : Int) (out : List Int) (p : Nat) (v : Int) : (put k out p v).length = out.length := by
  unfold put; split
  · rw [List.length_set]
  · split
    · rw [List.length_set, List.length_set]
    · rw [List.length_set]
def filF (b : Int) (L : List LbT) (a : Nat) (f : FxT) (out : List Int) : List Int ⊕ ((Int × CdT) ⊕ List Int) :=
  match lkup f.2.2.1 L with
  | none => .inr (.inl (15, zC))
  | some ad =>
    if f.2.1 = 3 then (if ad + f.2.2.2.1 - (b + (a + f.1) + 1) < -128 then .inr (.inl (19, zC)) else if ad + f.2.2.2.1 - (b + (a + f.1) + 1) > 127 then .inr (.inl (19, zC)) else .inl (put 3 out (a + f.1).toNat (ad + f.2.2.2.1 - (b + (a + f.1) + 1))))
    else if ad + f.2.2.2.1 < 0 then .inr (.inl (21, zC)) else if ad + f.2.2.2.1 > 65535 then .inr (.inl (21, zC)) else .inl (put f.2.1 out (a + f.1).toNat (ad + f.2.2.2.1))
theorem filF_len {b : Int} {L : List LbT} {a : Nat} {f : FxT} {out out' : List Int} (h : filF b L a f out = .inl out') : out'.length = out.length := by
  unfold filF at h
  repeat' split at h
  all_goals cases h
  all_goals exact put_len _ _ _ _
theorem fixE_facts {n : Nat} {f : FxT} (h : fixE n f = 0) : 0 ≤ f.2.1 ∧ f.2.1 ≤ 3 ∧ -65535 ≤ f.2.2.2.1 ∧ f.2.2.2.1 ≤ 65535 ∧ 0 ≤ f.1 ∧ f.1 + (if f.2.1 = 2 then 2 else 1) ≤ (n : Int) := by
  unfold fixE at h
  by_cases h1 : f.2.1 < 0 ∨ f.2.1 > 3 ∨ f.2.2.2.1 < -65535 ∨ f.2.2.2.1 > 65535
  · rw [if_pos h1] at h; exact absurd h (by decide)
  rw [if_neg h1] at h
  by_cases h2 : f.1 < 0 ∨ f.1 + (if f.2.1 = 2 then 2 else 1) > (n : Int)
  · rw [if_pos h2] at h; exact absurd h (by decide)
  exact ⟨by omega, by omega, by omega, by omega, by omega, by omega⟩
theorem lkup_ok {L : List LbT} (h : LabOk L) {n : ByteArray} {ad : Int} (hl : lkup n L = some ad) : 0 ≤ ad ∧ ad ≤ 200000 := by
  unfold lkup at hl
  rw [Option.map_eq_some_iff] at hl
  obtain ⟨x, hx, rfl⟩ := hl
  exact h x (List.mem_of_find?_eq_some hx)
theorem idx21 {L : List LbT} (hl : L.length ≤ 140737488355328) (f : FxT) : (∃ m, m < L.length ∧ f21x2 L (f, ()) = some (((m : Int), ()), ()) ∧ lkup f.2.2.1 L = some (L.getD m lb0).2.1) ∨ (f21x2 L (f, ()) = some ((-1, ()), ()) ∧ lkup f.2.2.1 L = none) := by
  have e : ∀ z, f21x2_l2 L f ((List.length L : Nat) : Int) 0 = some z → f21x2 L (f, ()) = some (((match z with | .inl r => r | .inr _ => (-1 : Int)), ()), ()) := fun z hz => by
    unfold f21x2 f21x2_k
    simp only
    rw [hz]
    cases z <;> rfl
  rcases idx_of (l := L) lb0 (fun y => strEq y.1 f.2.2.1) (g := f21x2_l2_g L f ((List.length L : Nat) : Int)) (fun j hj => by
    unfold f21x2_l2_g f21x2_l2_k
    rw [dlt hj]
    simp only [cond_true]
    rw [if_pos (in_row hj), Int.toNat_natCast, wj (by omega)]
    unfold f22 f22_k
    simp only [some_bind]
    have : (List.getD L j (ByteArray.empty, ((0 : Int), ()))) = L.getD j lb0 := rfl
    rw [this]
    cases strEq (L.getD j lb0).1 f.2.2.1 <;> rfl) (by unfold f21x2_l2_g f21x2_l2_k; rw [dge]; rfl) with ⟨m, m1, m2, m3, h, ha⟩ | ⟨ha, h⟩
  · refine .inl ⟨m, m1, e _ h, ?_⟩
    unfold lkup
    have hd : L = L.take m ++ L.getD m lb0 :: L.drop (m + 1) := by
      conv => lhs; rw [← List.take_append_drop m L]
      rw [List.drop_eq_getElem_cons m1]
      congr 2
      rw [List.getD_eq_getElem?_getD, List.getElem?_eq_getElem m1]; rfl
    have hn : (L.take m).find? (fun x => strEq f.2.2.1 x.1) = none := by
      rw [List.find?_eq_none]
      intro x hx
      obtain ⟨j, hj, rfl⟩ := mem_getD lb0 hx
      rw [List.length_take] at hj
      have hj' : j < m := by omega
      have e9 : (L.take m).getD j lb0 = L.getD j lb0 := by
        rw [List.getD_eq_getElem?_getD, List.getD_eq_getElem?_getD, List.getElem?_take_of_lt hj']
      rw [e9, strEq_comm, m3 j hj']; simp
    have : (L.take m ++ L.getD m lb0 :: L.drop (m + 1)).find? (fun x => strEq f.2.2.1 x.1) = some (L.getD m lb0) := by
      rw [List.find?_append, hn, List.find?_cons, strEq_comm, m2]; rfl
    rw [← hd] at this
    rw [this]; rfl
  · refine .inr ⟨e _ h, ?_⟩
    unfold lkup
    have : L.find? (fun x => strEq f.2.2.1 x.1) = none := by
      rw [List.find?_eq_none]
      intro x hx hh
      rw [strEq_comm] at hh
      exact (List.any_eq_false.1 ha x hx) hh
    rw [this]; rfl
theorem fill23 {out : List Int} {f : FxT} (hk : 0 ≤ f.2.1 ∧ f.2.1 ≤ 2) {p : Nat} (hp : p + (if f.2.1 = 2 then 2 else 1) ≤ out.length) (hl : out.length ≤ 65536) {v : Int} : f23 out f (p : Int) v = some (if v < 0 then ((21, ()), (out, ())) else if v > 65535 then ((21, ()), (out, ())) else ((0, ()), (put f.2.1 out p v, ()))) := by
  unfold f23 f23_k put
  by_cases c1 : v < 0
  · rw [decide_eq_true c1, if_pos c1]; rfl
  rw [decide_eq_false c1, if_neg c1]
  by_cases c2 : v > 65535
  · rw [decide_eq_true c2, if_pos c2]; rfl
  rw [decide_eq_false c2, if_neg c2]
  simp only [cond_false]
  have hp1 : p < out.length := by split at hp <;> omega
  rcases (show f.2.1 = 0 ∨ f.2.1 = 1 ∨ f.2.1 = 2 by omega) with c | c | c
  · rw [c]
    show (if (0 : Int) ≤ (p : Int) ∧ (p : Int) < ((List.length out : Nat) : Int) then _ else _) = _
    rw [if_pos (in_row hp1), Int.toNat_natCast]; rfl
  · rw [c]
    show (if (0 : Int) ≤ (p : Int) ∧ (p : Int) < ((List.length out : Nat) : Int) then _ else _) = _
    rw [if_pos (in_row hp1), Int.toNat_natCast]; rfl
  · rw [c] at hp ⊢
    rw [if_pos rfl] at hp
    have e1 : IntKind.i64.wrap ((p : Int) + 1) = ((p + 1 : Nat) : Int) := wj (by omega)
    rw [e1]
    show (if (0 : Int) ≤ (p : Int) ∧ (p : Int) < ((List.length out : Nat) : Int) then (if (0 : Int) ≤ ((p + 1 : Nat) : Int) ∧ ((p + 1 : Nat) : Int) < ((List.length (List.set out ((p : Int)).toNat (IntKind.u8.wrap v)) : Nat) : Int) then _ else _) else _) = _
    rw [if_pos (in_row hp1), if_pos ⟨by omega, by rw [List.length_set]; omega⟩, Int.toNat_natCast, Int.toNat_natCast]; rfl
structure At (b : Int) (L : List LbT) (a n N : Nat) : Prop where
  hb : 0 ≤ b ∧ b ≤ 65535
  lab : LabOk L
  len : L.length ≤ 1024
  fit : a + n ≤ N
  top : N ≤ 65536
theorem fil8 {b : Int} {L : List LbT} {a n N : Nat} (h : At b L a n N) {fs : List FxT} (hfl : fs.length ≤ 256) (hf : ∀ f ∈ fs, fixE n f = 0) {out : List Int} (ho : out.length = N) (a2 : List ObT) (a3 a4 : Int) (a9 : ObT) :
    f8_l20 b (a : Int) a2 a3 a4 fs ((List.length fs : Nat) : Int) zC a9 L ((0 : Int), out) = some (foldE (filF b L a) (fun s => (.inr s : (Int × CdT) ⊕ List Int)) fs out) := by
  obtain ⟨hb, hlab, hlen, hfit, htop⟩ := h
  unfold f8_l20
  refine loop_list fx0 fs (fun j s => ((j : Int), s)) (fun _ s => s.length = N) (filF b L a) (fun s => .inr s) (fun j s hj hp => ⟨?_, fun s' hs => (filF_len hs).trans hp⟩) (fun s hp => ?_) out ho rfl
  · obtain ⟨k1, k2, k3, k4, k5, k6⟩ := fixE_facts (hf _ (getD_mem (d := fx0) hj))
    unfold f8_l20_g f8_l20_k
    rw [dlt hj]
    simp only [cond_true]
    rw [if_pos (in_row hj), Int.toNat_natCast]
    have e0 : (List.getD fs j ((0 : Int), ((0 : Int), (ByteArray.empty, ((0 : Int), ()))))) = fs.getD j fx0 := rfl
    rw [e0, wj (by omega)]
    generalize fs.getD j fx0 = f at k1 k2 k3 k4 k5 k6
    obtain ⟨p, hpn⟩ : ∃ p : Nat, f.1 = (p : Int) := ⟨f.1.toNat, by omega⟩
    have hx : (if f.2.1 = 2 then (2 : Int) else 1) = ((if f.2.1 = 2 then 2 else 1 : Nat) : Int) := by split <;> rfl
    rw [hx] at k6
    have hone : 1 ≤ (if f.2.1 = 2 then 2 else 1 : Nat) := by split <;> omega
    have hpa : a + p + (if f.2.1 = 2 then 2 else 1 : Nat) ≤ s.length := by omega
    rcases idx21 (L := L) (by omega) f with ⟨m, m1, m2, m3⟩ | ⟨m2, m3⟩
    · obtain ⟨q1, q2⟩ := lkup_ok hlab m3
      rw [m2]
      simp only [some_bind]
      rw [decide_eq_false (by omega)]
      simp only [cond_false]
      have e1 : (List.getD L m (ByteArray.empty, ((0 : Int), ()))) = L.getD m lb0 := rfl
      rw [if_pos (in_row m1), Int.toNat_natCast, e1]
      unfold filF
      rw [m3]
      simp only
      generalize (L.getD m lb0).2.1 = ad at q1 q2
      rw [wi (n := ad + f.2.2.2.1) (by omega) (by omega), wi (n := (a : Int) + f.1) (by omega) (by omega)]
      by_cases c3 : f.2.1 = 3
      · rw [beq_iff_eq.2 c3, if_pos c3]
        simp only [cond_true]
        rw [wi (n := b + ((a : Int) + f.1)) (by omega) (by omega), wi (n := b + ((a : Int) + f.1) + 1) (by omega) (by omega), wi (n := ad + f.2.2.2.1 - (b + ((a : Int) + f.1) + 1)) (by omega) (by omega)]
        by_cases d1 : ad + f.2.2.2.1 - (b + ((a : Int) + f.1) + 1) < -128
        · rw [decide_eq_true d1, if_pos d1]; rfl
        rw [decide_eq_false d1, if_neg d1]
        simp only [cond_false]
        by_cases d2 : ad + f.2.2.2.1 - (b + ((a : Int) + f.1) + 1) > 127
        · rw [decide_eq_true d2, if_pos d2]; rfl
        rw [decide_eq_false d2, if_neg d2]
        simp only [cond_false]
        rw [if_pos ⟨by omega, by omega⟩]
        rfl
      · rw [beq_eq_false_iff_ne.2 c3, if_neg c3]
        simp only [cond_false]
        have e2 : (a : Int) + f.1 = ((a + p : Nat) : Int) := by omega
        rw [e2, fill23 ⟨k1, by omega⟩ hpa (by omega), Int.toNat_natCast]
        simp only [some_bind]
        by_cases d1 : ad + f.2.2.2.1 < 0
        · rw [if_pos d1, if_pos d1]; rfl
        rw [if_neg d1, if_neg d1]
        by_cases d2 : ad + f.2.2.2.1 > 65535
        · rw [if_pos d2, if_pos d2]; rfl
        rw [if_neg d2, if_neg d2]
        rfl
    · rw [m2]
      simp only [some_bind]
      rw [decide_eq_true (by decide)]
      unfold filF
      rw [m3]
      rfl
  · unfold f8_l20_g f8_l20_k
    rw [dge]; rfl
theorem spl_one {out : List Int} {p : Nat} (hp : p < out.length) (x : Int) : spl out p 1 [x] = out.set p x := by
  unfold spl
  rw [List.set_eq_take_append_cons_drop, if_pos hp]
  simp
theorem spl_two {out : List Int} {p : Nat} (hp : p + 2 ≤ out.length) (x y : Int) : spl out p 2 [x, y] = (out.set p x).set (p + 1) y := by
  refine getD_ext 0 ?_ fun j hj => ?_
  · unfold spl
    rw [List.length_set, List.length_set]
    simp; omega
  · have hl : (spl out p 2 [x, y]).length = out.length := by unfold spl; simp; omega
    rw [hl] at hj
    unfold spl
    simp only [List.getD_eq_getElem?_getD, List.getElem?_set, List.length_set]
    congr 1
    by_cases c1 : j < p
    · rw [List.append_assoc, List.getElem?_append_left (by rw [List.length_take]; omega), List.getElem?_take_of_lt c1, if_neg (by omega), if_neg (by omega)]
    · rw [List.append_assoc, List.getElem?_append_right (by rw [List.length_take]; omega), List.length_take, Nat.min_eq_left (by omega)]
      rcases (show j = p ∨ j = p + 1 ∨ p + 2 ≤ j by omega) with c | c | c
      · subst c
        rw [Nat.sub_self, if_neg (by omega), if_pos rfl, if_pos (by omega)]; rfl
      · subst c
        rw [if_pos rfl, if_pos (by omega), Nat.add_sub_cancel_left]; rfl
      · rw [if_neg (by omega), if_neg (by omega), List.getElem?_append_right (by simp; omega), List.getElem?_drop]
        congr 1
        simp; omega
def both (v k : Int) : List Int := List.getD [[u8 v], [u8 (hiB v)], [u8 v, u8 (hiB v)], [u8 v]] (Int.toNat k) ([] : List Int)
theorem both_put {out : List Int} {k : Int} (hk : 0 ≤ k ∧ k ≤ 3) {p : Nat} (hp : p + (if k = 2 then 2 else 1) ≤ out.length) (v : Int) : 0 < (both v k).length ∧ (both v k).length ≤ out.length - p ∧ spl out p (both v k).length (both v k) = put k out p v := by
  rcases (show k = 0 ∨ k = 1 ∨ k = 2 ∨ k = 3 by omega) with c | c | c | c <;> subst c
  · exact ⟨Nat.zero_lt_one, by show 1 ≤ _; simp at hp; omega, spl_one (by simp at hp; omega) _⟩
  · exact ⟨Nat.zero_lt_one, by show 1 ≤ _; simp at hp; omega, spl_one (by simp at hp; omega) _⟩
  · exact ⟨Nat.succ_pos 1, by show 2 ≤ _; simp at hp; omega, spl_two (by simpa using hp) _ _⟩
  · exact ⟨Nat.zero_lt_one, by show 1 ≤ _; simp at hp; omega, spl_one (by simp at hp; omega) _⟩
theorem cop9 {b : Int} {out : List Int} {L : List LbT} {f : FxT} (hk : 0 ≤ f.2.1 ∧ f.2.1 ≤ 3) {p : Nat} (hp : p + (if f.2.1 = 2 then 2 else 1) ≤ out.length) (v a0 a1 : Int) (a4 : List ObT) (a5 a6 : Int) (a7 : List FxT) (a8 a9 : Int) (a10 : CdT) (a12 : ObT) (a14 : List (ByteArray × Int)) :
    f9_t48 a0 a1 v (p : Int) a4 a5 a6 a7 a8 a9 a10 (cd b out L) a12 f a14 = some (cd b (put f.2.1 out p v) L) := by
  have e : (List.getD [(List.take 1 (List.drop 0 [(IntKind.u8.wrap v), (IntKind.u8.wrap (Int.fdiv v (2 ^ (min 8 64))))])), (List.take 1 (List.drop 1 [(IntKind.u8.wrap v), (IntKind.u8.wrap (Int.fdiv v (2 ^ (min 8 64))))])), [(IntKind.u8.wrap v), (IntKind.u8.wrap (Int.fdiv v (2 ^ (min 8 64))))], (List.take 1 (List.drop 0 [(IntKind.u8.wrap v), (IntKind.u8.wrap (Int.fdiv v (2 ^ (min 8 64))))]))] (Int.toNat f.2.1) ([] : List Int)) = both v f.2.1 := rfl
  obtain ⟨h1, h2, h3⟩ := both_put hk hp v
  have hpl : p ≤ out.length := by split at hp <;> omega
  unfold f9_t48 f9_t48_k
  simp only
  have e1 : (cd b out L).2.1 = out := rfl
  rw [e, e1, if_pos ⟨by omega, by omega, by omega⟩, if_pos ⟨hk.1, by omega⟩, Int.toNat_natCast, Int.toNat_natCast, if_pos ⟨h1, h2⟩, h3]
  rfl
def gFil (b : Int) (L : List LbT) : (Int × CdT) ⊕ List Int → (Int × CdT) ⊕ CdT
  | .inl e => .inl e
  | .inr s => .inr (cd b s L)
theorem fil9 {b : Int} {L : List LbT} {a n N : Nat} (h : At b L a n N) {fs : List FxT} (hfl : fs.length ≤ 256) (hf : ∀ f ∈ fs, fixE n f = 0) {out : List Int} (ho : out.length = N) (a2 : List ObT) (a3 a4 : Int) (a10 : ObT) :
    f9_l35 b (a : Int) a2 a3 a4 fs ((List.length fs : Nat) : Int) zC a10 (kn L) ((0 : Int), cd b out L) = some (gFil b L (foldE (filF b L a) (fun s => (.inr s : (Int × CdT) ⊕ List Int)) fs out)) := by
  obtain ⟨hb, hlab, hlen, hfit, htop⟩ := h
  unfold f9_l35
  rw [← foldE_g (f2 := fun f s => match filF b L a f s with | .inl s' => .inl s' | .inr y => .inr (gFil b L y)) (fin2 := fun s => gFil b L (.inr s)) (gFil b L) (fun f s => by cases filF b L a f s <;> rfl) (fun _ => rfl)]
  refine loop_list fx0 fs (fun j s => ((j : Int), cd b s L)) (fun _ s => s.length = N) _ _ (fun j s hj hp => ⟨?_, fun s' hs => ?_⟩) (fun s hp => ?_) out ho rfl
  · obtain ⟨k1, k2, k3, k4, k5, k6⟩ := fixE_facts (hf _ (getD_mem (d := fx0) hj))
    unfold f9_l35_g f9_l35_k
    rw [dlt hj]
    simp only [cond_true]
    rw [if_pos (in_row hj), Int.toNat_natCast]
    have e0 : (List.getD fs j ((0 : Int), ((0 : Int), (ByteArray.empty, ((0 : Int), ()))))) = fs.getD j fx0 := rfl
    rw [e0, wj (by omega), kn_find]
    generalize fs.getD j fx0 = f at k1 k2 k3 k4 k5 k6
    obtain ⟨p, hpn⟩ : ∃ p : Nat, f.1 = (p : Int) := ⟨f.1.toNat, by omega⟩
    have hx : (if f.2.1 = 2 then (2 : Int) else 1) = ((if f.2.1 = 2 then 2 else 1 : Nat) : Int) := by split <;> rfl
    rw [hx] at k6
    have hpa : a + p + (if f.2.1 = 2 then 2 else 1 : Nat) ≤ s.length := by omega
    unfold filF
    cases m3 : lkup f.2.2.1 L with
    | none => rfl
    | some ad =>
      obtain ⟨q1, q2⟩ := lkup_ok hlab m3
      rw [Option.isSome_some, Bool.not_true, show (some ad).getD (0 : Int) = ad from rfl]
      simp only [cond_false]
      have e2 : (a : Int) + f.1 = ((a + p : Nat) : Int) := by omega
      rw [wi (n := ad + f.2.2.2.1) (by omega) (by omega), wi (n := (a : Int) + f.1) (by omega) (by omega)]
      by_cases c3 : f.2.1 = 3
      · rw [beq_iff_eq.2 c3, if_pos c3]
        simp only [cond_true]
        rw [wi (n := b + ((a : Int) + f.1)) (by omega) (by omega), wi (n := b + ((a : Int) + f.1) + 1) (by omega) (by omega), wi (n := ad + f.2.2.2.1 - (b + ((a : Int) + f.1) + 1)) (by omega) (by omega)]
        by_cases d1 : ad + f.2.2.2.1 - (b + ((a : Int) + f.1) + 1) < -128
        · rw [decide_eq_true d1, if_pos d1]; rfl
        rw [decide_eq_false d1, if_neg d1]
        simp only [cond_false]
        by_cases d2 : ad + f.2.2.2.1 - (b + ((a : Int) + f.1) + 1) > 127
        · rw [decide_eq_true d2, if_pos d2]; rfl
        rw [decide_eq_false d2, if_neg d2]
        simp only [cond_false]
        rw [e2, cop9 ⟨k1, k2⟩ hpa, Int.toNat_natCast, c3]
        rfl
      · rw [beq_eq_false_iff_ne.2 c3, if_neg c3]
        simp only [cond_false]
        by_cases d1 : ad + f.2.2.2.1 < 0
        · rw [decide_eq_true d1, if_pos d1]; rfl
        rw [decide_eq_false d1, if_neg d1]
        simp only [cond_false]
        by_cases d2 : ad + f.2.2.2.1 > 65535
        · rw [decide_eq_true d2, if_pos d2]; rfl
        rw [decide_eq_false d2, if_neg d2]
        simp only [cond_false]
        rw [e2, cop9 ⟨k1, k2⟩ hpa, Int.toNat_natCast]
        rfl
  · cases hf2 : filF b L a (fs.getD j fx0) s with
    | inl s2 =>
      rw [hf2] at hs
      have hs : s2 = s' := by simpa using hs
      subst hs
      exact (filF_len hf2).trans hp
    | inr y => rw [hf2] at hs; cases hs
  · unfold f9_l35_g f9_l35_k
    rw [dge]; rfl
def lnkF (b : Int) (L : List LbT) (o : ObT) (s : Nat × List Int) : (Nat × List Int) ⊕ ((Int × CdT) ⊕ List Int) :=
  match foldE (filF b L s.1) (fun s => (.inr s : (Int × CdT) ⊕ List Int)) o.2.2.2.1 s.2 with
  | .inl e => .inr (.inl e)
  | .inr out => .inl (s.1 + o.2.1.length, out)
def lnkM (b : Int) (L : List LbT) (l : List ObT) (out : List Int) : (Int × CdT) ⊕ List Int := foldE (lnkF b L) (fun s => .inr s.2) l (0, out)
theorem fil_len {b : Int} {L : List LbT} {a : Nat} : ∀ (fs : List FxT) (out out' : List Int), foldE (filF b L a) (fun s => (.inr s : (Int × CdT) ⊕ List Int)) fs out = .inr out' → out'.length = out.length
  | [], _, _, h => by cases h; rfl
  | f :: fs, out, out', h => by
    rw [foldE_cons] at h
    cases hf : filF b L a f out with
    | inl s => rw [hf] at h; exact (fil_len fs s out' h).trans (filF_len hf)
    | inr y =>
      rw [hf] at h
      have h : y = .inr out' := h
      subst h
      unfold filF at hf
      repeat' split at hf
      all_goals cases hf
theorem lnkF_inl {b : Int} {L : List LbT} {o : ObT} {s s' : Nat × List Int} (h : lnkF b L o s = .inl s') : s'.1 = s.1 + o.2.1.length ∧ s'.2.length = s.2.length := by
  unfold lnkF at h
  split at h
  · cases h
  · rename_i out ho; cases h; exact ⟨rfl, fil_len _ _ _ ho⟩
theorem tot_take {l : List ObT} {j : Nat} (hj : j < l.length) : tot (l.take (j + 1)) = tot (l.take j) + (l.getD j ob0).2.1.length := by
  unfold tot
  rw [take_succ_getD (d := ob0) hj, List.map_append, List.sum_append]
  simp
theorem tot_le {l : List ObT} {j : Nat} (hj : j ≤ l.length) : tot (l.take j) ≤ tot l := by
  have : tot l = tot (l.take j) + tot (l.drop j) := by
    unfold tot
    conv => lhs; rw [← List.take_append_drop j l]
    rw [List.map_append, List.sum_append]
  omega
theorem lnk8 {b : Int} (hb : 0 ≤ b ∧ b ≤ 65535) {l : List ObT} (hl : l.length ≤ 16) (hg : ∀ o ∈ l, GoodO o) {L : List LbT} (hL : LabOk L) (hLl : L.length ≤ 1024) {out : List Int} (ho : out.length = tot l) (ht : tot l ≤ 65536) :
    f8_l17 b l ((List.length l : Nat) : Int) zC L ((0 : Int), (0 : Int), out) = some (lnkM b L l out) := by
  unfold f8_l17 lnkM
  refine loop_list ob0 l (fun j s => ((s.1 : Int), (j : Int), s.2)) (fun j s => s.1 = tot (l.take j) ∧ s.2.length = tot l) (lnkF b L) (fun s => .inr s.2) (fun j s hj hp => ⟨?_, fun s' hs => ?_⟩) (fun s hp => ?_) (0, out) ⟨rfl, ho⟩ rfl
  · have hgj := hg _ (getD_mem (d := ob0) hj)
    have h1 := tot_take hj
    have h2 := tot_le (l := l) (j := j + 1) (by omega)
    have h3 := hgj.bl
    unfold f8_l17_g f8_l17_k
    rw [dlt hj]
    simp only [cond_true]
    rw [if_pos (in_row hj), Int.toNat_natCast]
    have e0 : List.getD l j (ByteArray.empty, (([] : List Int), (([] : List LbT), (([] : List FxT), ())))) = l.getD j ob0 := rfl
    rw [e0, fil8 (n := (l.getD j ob0).2.1.length) (N := tot l) ⟨hb, hL, hLl, by rw [hp.1]; omega, ht⟩ hgj.fl hgj.fx hp.2, wj (by omega)]
    simp only [some_bind]
    unfold lnkF
    cases foldE (filF b L s.1) (fun s => (.inr s : (Int × CdT) ⊕ List Int)) (l.getD j ob0).2.2.2.1 s.2 with
    | inl e => rfl
    | inr out =>
      simp only [Sum.elim_inr]
      rw [wi (n := ((s.1 : Nat) : Int) + (((l.getD j ob0).2.1.length : Nat) : Int)) (by omega) (by have := hp.1; omega)]
      rfl
  · obtain ⟨e1, e2⟩ := lnkF_inl hs
    exact ⟨by rw [e1, hp.1, tot_take hj], e2.trans hp.2⟩
  · unfold f8_l17_g f8_l17_k
    rw [dge]; rfl
theorem lnk9 {b : Int} (hb : 0 ≤ b ∧ b ≤ 65535) {l : List ObT} (hl : l.length ≤ 16) (hg : ∀ o ∈ l, GoodO o) {L : List LbT} (hL : LabOk L) (hLl : L.length ≤ 1024) {out : List Int} (ho : out.length = tot l) (ht : tot l ≤ 65536) :
    f9_l32 b l ((List.length l : Nat) : Int) zC (kn L) ((0 : Int), (0 : Int), cd b out L) = some (gFil b L (lnkM b L l out)) := by
  unfold f9_l32 lnkM
  rw [← foldE_g (f2 := fun o s => match lnkF b L o s with | .inl s' => .inl s' | .inr y => .inr (gFil b L y)) (fin2 := fun s => gFil b L (.inr s.2)) (gFil b L) (fun f s => by cases lnkF b L f s <;> rfl) (fun _ => rfl)]
  refine loop_list ob0 l (fun j s => ((s.1 : Int), (j : Int), cd b s.2 L)) (fun j s => s.1 = tot (l.take j) ∧ s.2.length = tot l) _ _ (fun j s hj hp => ⟨?_, fun s' hs => ?_⟩) (fun s hp => ?_) (0, out) ⟨rfl, ho⟩ rfl
  · have hgj := hg _ (getD_mem (d := ob0) hj)
    have h1 := tot_take hj
    have h2 := tot_le (l := l) (j := j + 1) (by omega)
    have h3 := hgj.bl
    unfold f9_l32_g f9_l32_k
    rw [dlt hj]
    simp only [cond_true]
    rw [if_pos (in_row hj), Int.toNat_natCast]
    have e0 : List.getD l j (ByteArray.empty, (([] : List Int), (([] : List LbT), (([] : List FxT), ())))) = l.getD j ob0 := rfl
    rw [e0, fil9 (n := (l.getD j ob0).2.1.length) (N := tot l) ⟨hb, hL, hLl, by rw [hp.1]; omega, ht⟩ hgj.fl hgj.fx hp.2, wj (by omega)]
    simp only [some_bind]
    unfold lnkF
    cases foldE (filF b L s.1) (fun s => (.inr s : (Int × CdT) ⊕ List Int)) (l.getD j ob0).2.2.2.1 s.2 with
    | inl e => rfl
    | inr out =>
      simp only [gFil, Sum.elim_inr]
      rw [wi (n := ((s.1 : Nat) : Int) + (((l.getD j ob0).2.1.length : Nat) : Int)) (by omega) (by have := hp.1; omega)]
      rfl
  · cases hf2 : lnkF b L (l.getD j ob0) s with
    | inl s2 =>
      rw [hf2] at hs
      have hs : s2 = s' := by simpa using hs
      subst hs
      obtain ⟨e1, e2⟩ := lnkF_inl hf2
      exact ⟨by rw [e1, hp.1, tot_take hj], e2.trans hp.2⟩
    | inr y => rw [hf2] at hs; cases hs
  · unfold f9_l32_g f9_l32_k
    rw [dge]; rfl
def linkM (l : List ObT) (b : Int) : CdT × Int :=
  if b < 0 then (zC, 1) else if b > 65535 then (zC, 1) else if l.length > 16 then (zC, 2) else
  match allM l with
  | .inl e => (e.2, e.1)
  | .inr _ => match plcM b l with
    | .inl _ => (zC, 5)
    | .inr s => if b + (s.1.length : Int) > 65536 then (zC, 19) else match lnkM b s.2 l s.1 with
      | .inl e => (e.2, e.1)
      | .inr out => (cd b out s.2, 0)
theorem plc_all {b : Int} (hb : 0 ≤ b ∧ b ≤ 65535) {l : List ObT} (hl : l.length ≤ 16) (hg : ∀ o ∈ l, GoodO o) {s : List Int × List LbT} (h : plcM b l = .inr s) : LabOk s.2 ∧ s.2.length ≤ 1024 ∧ s.1.length = tot l ∧ tot l ≤ 65536 := by
  obtain ⟨r1, r2⟩ := plc_tot hb l 0 ([], []) (by omega) hg ⟨Nat.le_refl _, Nat.le_refl _, fun x hx => by cases hx⟩ s h
  have h1 := r1.a
  have h2 := r1.b
  have r2 : s.1.length = tot l := by rw [r2]; simp
  exact ⟨r1.c, by omega, r2, by omega⟩
theorem link8 {l : List ObT} (hll : l.length ≤ 1048576) (h : ∀ o ∈ l, OkO o) {b : Int} (hb : i64 b) : f8 l b = some (((linkM l b).1, ((linkM l b).2, ())), ()) := by
  unfold f8 f8_k linkM
  by_cases c1 : b < 0
  · rw [decide_eq_true c1, if_pos c1]; rfl
  rw [decide_eq_false c1, if_neg c1]
  by_cases c2 : b > 65535
  · rw [decide_eq_true c2, if_pos c2]; rfl
  rw [decide_eq_false c2, if_neg c2]
  by_cases c3 : l.length > 16
  · rw [decide_eq_true (show ((List.length l : Nat) : Int) > 16 by omega), if_pos c3]; rfl
  rw [decide_eq_false (show ¬ ((List.length l : Nat) : Int) > 16 by omega), if_neg c3]
  simp only [cond_false]
  have hz : ((0 : Int), (([] : List Int), (([] : List LbT), ()))) = zC := rfl
  rw [hz, all8 hll h]
  simp only [some_bind]
  cases ha : allM l with
  | inl e => rfl
  | inr u =>
    have hg := all_good l h ha
    have hb' : 0 ≤ b ∧ b ≤ 65535 := ⟨by omega, by omega⟩
    simp only [Sum.elim_inr]
    unfold f20 f20_k
    rw [plc20 hb' (by omega) hg]
    simp only [some_bind]
    cases hp : plcM b l with
    | inl u => rfl
    | inr s =>
      obtain ⟨s1, s2, s3, s4⟩ := plc_all hb' (by omega) hg hp
      simp only [Sum.elim_inr]
      rw [wi (n := b + ((s.1.length : Nat) : Int)) (by omega) (by omega)]
      by_cases c4 : b + ((s.1.length : Nat) : Int) > 65536
      · rw [decide_eq_true c4, if_pos c4]; rfl
      rw [decide_eq_false c4, if_neg c4]
      simp only [cond_false, some_bind]
      have z0 : ((0 : Int) != 0) = false := rfl
      rw [z0]
      simp only [cond_false]
      rw [lnk8 hb' (by omega) hg s1 s2 s3 s4]
      simp only [some_bind]
      cases lnkM b s.2 l s.1 <;> rfl
theorem link9 {l : List ObT} (hll : l.length ≤ 1048576) (h : ∀ o ∈ l, OkO o) {b : Int} (hb : i64 b) : f9 l b = some (((linkM l b).1, ((linkM l b).2, ())), ()) := by
  unfold f9 f9_k linkM
  by_cases c1 : b < 0
  · rw [decide_eq_true c1, if_pos c1]; rfl
  rw [decide_eq_false c1, if_neg c1]
  by_cases c2 : b > 65535
  · rw [decide_eq_true c2, if_pos c2]; rfl
  rw [decide_eq_false c2, if_neg c2]
  by_cases c3 : l.length > 16
  · rw [decide_eq_true (show ((List.length l : Nat) : Int) > 16 by omega), if_pos c3]; rfl
  rw [decide_eq_false (show ¬ ((List.length l : Nat) : Int) > 16 by omega), if_neg c3]
  simp only [cond_false]
  have hz : ((0 : Int), (([] : List Int), (([] : List LbT), ()))) = zC := rfl
  rw [hz, all9 hll h]
  simp only [some_bind]
  cases ha : allM l with
  | inl e => rfl
  | inr u =>
    have hg := all_good l h ha
    have hb' : 0 ≤ b ∧ b ≤ 65535 := ⟨by omega, by omega⟩
    simp only [Sum.elim_inr]
    rw [plc9 hb' (by omega) hg]
    simp only [some_bind]
    cases hp : plcM b l with
    | inl u => rfl
    | inr s =>
      obtain ⟨s1, s2, s3, s4⟩ := plc_all hb' (by omega) hg hp
      simp only [gPlc, Sum.elim_inr]
      have e1 : (cd b s.1 s.2).2.1 = s.1 := rfl
      rw [e1, wi (n := b + ((s.1.length : Nat) : Int)) (by omega) (by omega), wi (n := b + ((s.1.length : Nat) : Int) - 1) (by omega) (by omega)]
      by_cases c4 : b + ((s.1.length : Nat) : Int) > 65536
      · rw [decide_eq_true (show b + ((s.1.length : Nat) : Int) - 1 > 65535 by omega), if_pos c4]; rfl
      rw [decide_eq_false (show ¬ b + ((s.1.length : Nat) : Int) - 1 > 65535 by omega), if_neg c4]
      simp only [cond_false]
      rw [lnk9 hb' (by omega) hg s1 s2 s3 s4]
      simp only [some_bind]
      cases lnkM b s.2 l s.1 <;> rfl
end Go.Proofs.YtmfjebpdkgbggaaDoor.V
