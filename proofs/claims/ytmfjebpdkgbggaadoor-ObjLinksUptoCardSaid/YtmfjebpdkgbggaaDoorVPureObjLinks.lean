/- Objects: what is missing; the law. -/
import Derived.Test.YtmfjebpdkgbggaaDoorVPureObjC
set_option linter.unusedVariables false
set_option linter.unusedSimpArgs false
namespace Go.Proofs.YtmfjebpdkgbggaaDoor.V
open Go
theorem eq24 {l : List Int} (hl : l.length ≤ 140737488355328) : f24 l l = some ((true, ()), ()) := by
  unfold f24 f24_k f24_l4
  rw [bne_self_eq_false]
  simp only [cond_false]
  rw [loop_go (x0 := (0 : Int)) (y := Sum.inr ()) (fun j => ((j : Nat) : Int)) l.length rfl (fun j hj => by
    unfold f24_l4_g f24_l4_k
    rw [dlt hj]
    simp only [cond_true]
    rw [if_pos (in_row hj), if_pos (in_row hj), bne_self_eq_false, wj (by omega)]
    rfl) (by unfold f24_l4_g f24_l4_k; rw [dge]; rfl)]
  rfl
theorem eq11 {l : List ByteArray} (hl : l.length ≤ 140737488355328) : f11 l l = some ((true, ()), ()) := by
  unfold f11 f11_k f11_l4
  rw [bne_self_eq_false]
  simp only [cond_false]
  rw [loop_go (x0 := (0 : Int)) (y := Sum.inr ()) (fun j => ((j : Nat) : Int)) l.length rfl (fun j hj => by
    unfold f11_l4_g f11_l4_k
    rw [dlt hj]
    simp only [cond_true]
    rw [if_pos (in_row hj), if_pos (in_row hj), strEq_refl, wj (by omega)]
    rfl) (by unfold f11_l4_g f11_l4_k; rw [dge]; rfl)]
  rfl
theorem eqD_lb (x : LbT) : eqD (.pair .str (.pair (.int .i64) .unit)) x x = true := by
  show (strEq x.1 x.1 && (decide (x.2.1 = x.2.1) && true)) = true
  rw [strEq_refl]; simp
theorem eq25 {l : List LbT} (hl : l.length ≤ 140737488355328) : f25 l l = some ((true, ()), ()) := by
  unfold f25 f25_k f25_l4
  rw [bne_self_eq_false]
  simp only [cond_false]
  rw [loop_go (x0 := (0 : Int)) (y := Sum.inr ()) (fun j => ((j : Nat) : Int)) l.length rfl (fun j hj => by
    unfold f25_l4_g f25_l4_k
    rw [dlt hj]
    simp only [cond_true]
    rw [if_pos (in_row hj), if_pos (in_row hj), eqD_lb, wj (by omega)]
    rfl) (by unfold f25_l4_g f25_l4_k; rw [dge]; rfl)]
  rfl
def SmallC (c : CdT) : Prop := c.2.1.length ≤ 140737488355328 ∧ c.2.2.1.length ≤ 140737488355328
theorem small_zC : SmallC zC := ⟨by decide, by decide⟩
theorem same10 {c : CdT} (h : SmallC c) : f10 c c = some ((true, ()), ()) := by
  unfold f10 f10_k
  rw [beq_self_eq_true]
  simp only [cond_true]
  rw [eq24 h.1, eq25 h.2]
  rfl
theorem all_err : ∀ (l : List ObT) {e : Int × CdT}, allM l = .inl e → e.2 = zC
  | [], _, h => by cases h
  | a :: l, e, h => by
    unfold allM at h
    rw [foldE_cons] at h
    unfold allF at h
    by_cases c : chkO a = 0
    · rw [if_neg (fun hh => hh c)] at h
      exact all_err l h
    · rw [if_pos c] at h
      cases h; rfl
theorem fil_err {b : Int} {L : List LbT} {a : Nat} : ∀ (fs : List FxT) (out : List Int) {e : Int × CdT}, foldE (filF b L a) (fun s => (.inr s : (Int × CdT) ⊕ List Int)) fs out = .inl e → e.2 = zC
  | [], _, _, h => by cases h
  | f :: fs, out, e, h => by
    rw [foldE_cons] at h
    cases hf : filF b L a f out with
    | inl s => rw [hf] at h; exact fil_err fs s h
    | inr y =>
      rw [hf] at h
      have h : y = .inl e := h
      subst h
      unfold filF at hf
      repeat' split at hf
      all_goals cases hf
      all_goals rfl
theorem lnk_ok {b : Int} {L : List LbT} : ∀ (l : List ObT) (s : Nat × List Int), (∀ e, foldE (lnkF b L) (fun s => (.inr s.2 : (Int × CdT) ⊕ List Int)) l s = .inl e → e.2 = zC) ∧ (∀ out, foldE (lnkF b L) (fun s => (.inr s.2 : (Int × CdT) ⊕ List Int)) l s = .inr out → out.length = s.2.length)
  | [], s => ⟨fun e h => (by cases h), fun out h => (by cases h; rfl)⟩
  | o :: l, s => by
    rw [foldE_cons]
    cases hf : lnkF b L o s with
    | inl s2 =>
      obtain ⟨r1, r2⟩ := lnk_ok (b := b) (L := L) l s2
      exact ⟨r1, fun out h => (r2 out h).trans (lnkF_inl hf).2⟩
    | inr y =>
      refine ⟨fun e h => ?_, fun out h => ?_⟩
      · have h : y = .inl e := h
        subst h
        unfold lnkF at hf
        split at hf
        · rename_i e' he
          cases hf
          exact fil_err _ _ he
        · cases hf
      · have h : y = .inr out := h
        subst h
        unfold lnkF at hf
        split at hf <;> cases hf
theorem link_small {l : List ObT} (h : ∀ o ∈ l, OkO o) (b : Int) : SmallC (linkM l b).1 := by
  unfold linkM
  by_cases c1 : b < 0
  · rw [if_pos c1]; exact small_zC
  rw [if_neg c1]
  by_cases c2 : b > 65535
  · rw [if_pos c2]; exact small_zC
  rw [if_neg c2]
  by_cases c3 : l.length > 16
  · rw [if_pos c3]; exact small_zC
  rw [if_neg c3]
  cases ha : allM l with
  | inl e =>
    show SmallC e.2
    rw [all_err l ha]; exact small_zC
  | inr u =>
    have hg := all_good l h ha
    cases hp : plcM b l with
    | inl u => exact small_zC
    | inr s =>
      obtain ⟨s1, s2, s3, s4⟩ := plc_all (b := b) ⟨by omega, by omega⟩ (by omega) hg hp
      simp only
      by_cases c4 : b + ((s.1.length : Nat) : Int) > 65536
      · rw [if_pos c4]; exact small_zC
      rw [if_neg c4]
      obtain ⟨r1, r2⟩ := lnk_ok (b := b) (L := s.2) l (0, s.1)
      cases hk : lnkM b s.2 l s.1 with
      | inl e =>
        show SmallC e.2
        rw [r1 e hk]; exact small_zC
      | inr out =>
        have := r2 out hk
        show out.length ≤ _ ∧ s.2.length ≤ _
        simp only at this
        omega
def tdO (s : List ByteArray) (o : ObT) : List ByteArray := o.2.2.1.foldl (fun s x => s ++ [x.1]) s
def ddO (s : List ByteArray) (o : ObT) : List ByteArray := o.2.2.1.foldl (fun s x => addN s x.1) s
def tdM (l : List ObT) : List ByteArray := l.foldl tdO []
def ddM (l : List ObT) : List ByteArray := l.foldl ddO []
theorem td_dd_in : ∀ (xs : List LbT) (s a : List ByteArray), (∀ n, has n s = has n a) → ∀ n, has n (xs.foldl (fun s x => s ++ [x.1]) s) = has n (xs.foldl (fun s x => addN s x.1) a)
  | [], s, a, h => h
  | x :: xs, s, a, h => by
    rw [List.foldl_cons, List.foldl_cons]
    exact td_dd_in xs _ _ fun n => by rw [has_app, has_one, has_addN, h n]
theorem td_dd_go : ∀ (l : List ObT) (s a : List ByteArray), (∀ n, has n s = has n a) → ∀ n, has n (l.foldl tdO s) = has n (l.foldl ddO a)
  | [], s, a, h => h
  | o :: l, s, a, h => by
    rw [List.foldl_cons, List.foldl_cons]
    exact td_dd_go l _ _ (td_dd_in _ _ _ h)
theorem td_dd (l : List ObT) (n : ByteArray) : has n (tdM l) = has n (ddM l) := td_dd_go l [] [] (fun _ => rfl) n
theorem td_len : ∀ (xs : List LbT) (s : List ByteArray), (xs.foldl (fun s x => s ++ [x.1]) s).length = s.length + xs.length
  | [], s => rfl
  | x :: xs, s => by
    rw [List.foldl_cons, td_len xs, List.length_append, List.length_singleton, List.length_cons]; omega
theorem told3 {l : List ObT} (hl : l.length ≤ 1048576) (h : ∀ o ∈ l, OkO o) (a1 : Int) : f3_l5 l a1 l ((List.length l : Nat) : Int) ((0 : Int), []) = some (.inr (tdM l)) := by
  unfold f3_l5 tdM
  refine (loop_all ob0 l (fun j s => ((j : Int), s)) (fun j s => s.length ≤ 1048576 * j) tdO (fun j s hj hp => ?_) [] (Nat.zero_le _) rfl (fun _ => ?_)).1
  · have ho := h _ (getD_mem (d := ob0) hj)
    have hel := ho.el
    refine ⟨?_, by unfold tdO; rw [td_len]; omega⟩
    unfold f3_l5_g f3_l5_k
    rw [dlt hj]
    simp only [cond_true]
    rw [if_pos (in_row hj), Int.toNat_natCast]
    have e0 : List.getD l j (ByteArray.empty, (([] : List Int), (([] : List LbT), (([] : List FxT), ())))) = l.getD j ob0 := rfl
    rw [e0, chk5 ho, chk6 ho, wj (by omega)]
    simp only [some_bind]
    rw [bne_self_eq_false]
    simp only [cond_false]
    have hin : f3_l10 l a1 l ((List.length l : Nat) : Int) (j : Int) (l.getD j ob0).2.2.1 ((List.length (l.getD j ob0).2.2.1 : Nat) : Int) ((0 : Int), s) = some (tdO s (l.getD j ob0)) := by
      unfold f3_l10 tdO
      refine (loop_all lb0 (l.getD j ob0).2.2.1 (fun i t => ((i : Int), t)) (fun i t => t.length ≤ 1048576 * j + i) (fun s x => s ++ [x.1]) (fun i t hi ht => ?_) s (by omega) rfl (fun _ => ?_)).1
      · refine ⟨?_, by rw [List.length_append, List.length_singleton]; omega⟩
        unfold f3_l10_g f3_l10_k
        rw [dlt hi]
        simp only [cond_true]
        have hroom : (t.length + 1) * 16 ≤ most ∧ 0 < 16 ∧ 0 < 1 := ⟨by rw [most_eq]; omega, by decide, by decide⟩
        rw [if_pos (in_row hi), Int.toNat_natCast, if_pos hroom, wj (by omega)]
        rfl
      · unfold f3_l10_g f3_l10_k
        rw [dge]; rfl
    rw [hin]
    rfl
  · unfold f3_l5_g f3_l5_k
    rw [dge]; rfl
theorem told12 {l : List ObT} (hl : l.length ≤ 1048576) (h : ∀ o ∈ l, OkO o) : f12_l3 l l ((List.length l : Nat) : Int) ((0 : Int), ([] : List (ByteArray × Bool))) = some (kt (ddM l)) := by
  unfold f12_l3 ddM
  refine (loop_all ob0 l (fun j s => ((j : Int), kt s)) (fun j s => True) ddO (fun j s hj hp => ?_) [] trivial rfl (fun _ => ?_)).1
  · have ho := h _ (getD_mem (d := ob0) hj)
    have hel := ho.el
    refine ⟨?_, trivial⟩
    unfold f12_l3_g f12_l3_k
    rw [dlt hj]
    simp only [cond_true]
    rw [if_pos (in_row hj), Int.toNat_natCast]
    have e0 : List.getD l j (ByteArray.empty, (([] : List Int), (([] : List LbT), (([] : List FxT), ())))) = l.getD j ob0 := rfl
    rw [e0, wj (by omega)]
    have hin : f12_l6 l l ((List.length l : Nat) : Int) (j : Int) (l.getD j ob0).2.2.1 ((List.length (l.getD j ob0).2.2.1 : Nat) : Int) ((0 : Int), kt s) = some (kt (ddO s (l.getD j ob0))) := by
      unfold f12_l6 ddO
      refine (loop_all lb0 (l.getD j ob0).2.2.1 (fun i t => ((i : Int), kt t)) (fun i t => True) (fun s x => addN s x.1) (fun i t hi ht => ?_) s trivial rfl (fun _ => ?_)).1
      · refine ⟨?_, trivial⟩
        unfold f12_l6_g f12_l6_k
        rw [dlt hi]
        simp only [cond_true]
        rw [if_pos (in_row hi), Int.toNat_natCast, kt_set, wj (by omega)]
        rfl
      · unfold f12_l6_g f12_l6_k
        rw [dge]; rfl
    rw [hin]
    rfl
  · unfold f12_l3_g f12_l3_k
    rw [dge]; rfl
def ndF (T : List ByteArray) (s : List ByteArray) (f : FxT) : List ByteArray := if has f.2.2.1 T = true then s else if has f.2.2.1 s = true then s else s ++ [f.2.2.1]
def ndO (T : List ByteArray) (s : List ByteArray) (o : ObT) : List ByteArray := o.2.2.2.1.foldl (ndF T) s
def ndM (T : List ByteArray) (l : List ObT) : List ByteArray := l.foldl (ndO T) []
theorem ndF_len (T s : List ByteArray) (f : FxT) : (ndF T s f).length ≤ s.length + 1 := by
  unfold ndF
  split
  · omega
  · split
    · omega
    · rw [List.length_append, List.length_singleton]; omega
theorem nd_len (T : List ByteArray) : ∀ (fs : List FxT) (s : List ByteArray), (fs.foldl (ndF T) s).length ≤ s.length + fs.length
  | [], s => Nat.le_refl _
  | f :: fs, s => by
    rw [List.foldl_cons, List.length_cons]
    have := nd_len T fs (ndF T s f)
    have := ndF_len T s f
    omega
theorem ndO_len {T s : List ByteArray} {o : ObT} (h : OkO o) : (ndO T s o).length ≤ s.length + 1048576 := by
  have := nd_len T o.2.2.2.1 s
  have := h.fl
  unfold ndO; omega
theorem con7 {l : List ByteArray} (hl : l.length ≤ 140737488355328) (n : ByteArray) : f7 l n = some ((has n l, ()), ()) := by
  have e : ∀ z, f19_l2 l n ((List.length l : Nat) : Int) 0 = some z → f7 l n = some ((decide ((match z with | .inl r => r | .inr _ => (-1 : Int)) ≥ 0), ()), ()) := fun z hz => by
    unfold f7 f7_k f19 f19_k
    rw [hz]
    cases z <;> rfl
  unfold has
  rcases idx_of (l := l) ByteArray.empty (strEq n) (g := f19_l2_g l n ((List.length l : Nat) : Int)) (fun j hj => by
    unfold f19_l2_g f19_l2_k
    rw [dlt hj]
    simp only [cond_true]
    rw [if_pos (in_row hj), Int.toNat_natCast, wj (by omega)]
    cases strEq n (l.getD j ByteArray.empty) <;> rfl) (by unfold f19_l2_g f19_l2_k; rw [dge]; rfl) with ⟨m, _, _, _, h, ha⟩ | ⟨ha, h⟩
  · rw [e _ h, ha]
    simp only
    rw [decide_eq_true (by omega)]
  · rw [e _ h, ha]
    rfl
theorem need3 {l : List ObT} (hl : l.length ≤ 1048576) (h : ∀ o ∈ l, OkO o) {T : List ByteArray} (hT : T.length ≤ 1048576 * 1048576) (a1 : Int) : f3_l16 l a1 l ((List.length l : Nat) : Int) T ((0 : Int), []) = some (ndM T l) := by
  unfold f3_l16 ndM
  refine (loop_all ob0 l (fun j s => ((j : Int), s)) (fun j s => s.length ≤ 1048576 * j) (ndO T) (fun j s hj hp => ?_) [] (Nat.zero_le _) rfl (fun _ => ?_)).1
  · have ho := h _ (getD_mem (d := ob0) hj)
    have hfl := ho.fl
    refine ⟨?_, by have := ndO_len (T := T) (s := s) ho; omega⟩
    unfold f3_l16_g f3_l16_k
    rw [dlt hj]
    simp only [cond_true]
    rw [if_pos (in_row hj), Int.toNat_natCast]
    have e0 : List.getD l j (ByteArray.empty, (([] : List Int), (([] : List LbT), (([] : List FxT), ())))) = l.getD j ob0 := rfl
    rw [e0, wj (by omega)]
    have hin : f3_l19 l a1 l ((List.length l : Nat) : Int) (j : Int) (l.getD j ob0).2.2.2.1 ((List.length (l.getD j ob0).2.2.2.1 : Nat) : Int) T ((0 : Int), s) = some (ndO T s (l.getD j ob0)) := by
      unfold f3_l19 ndO
      refine (loop_all fx0 (l.getD j ob0).2.2.2.1 (fun i t => ((i : Int), t)) (fun i t => t.length ≤ 1048576 * j + i) (ndF T) (fun i t hi ht => ?_) s (by omega) rfl (fun _ => ?_)).1
      · refine ⟨?_, by have := ndF_len T t ((l.getD j ob0).2.2.2.1.getD i fx0); omega⟩
        unfold f3_l19_g f3_l19_k
        rw [dlt hi]
        simp only [cond_true]
        have hroom : (t.length + 1) * 16 ≤ most ∧ 0 < 16 ∧ 0 < 1 := ⟨by rw [most_eq]; omega, by decide, by decide⟩
        have e1 : (List.getD (l.getD j ob0).2.2.2.1 i ((0 : Int), ((0 : Int), (ByteArray.empty, ((0 : Int), ()))))) = (l.getD j ob0).2.2.2.1.getD i fx0 := rfl
        rw [if_pos (in_row hi), Int.toNat_natCast, e1, con7 (by omega), con7 (by omega), if_pos hroom, wj (by omega)]
        simp only [some_bind]
        unfold ndF
        cases has ((l.getD j ob0).2.2.2.1.getD i fx0).2.2.1 T with
        | true => rfl
        | false =>
          cases has ((l.getD j ob0).2.2.2.1.getD i fx0).2.2.1 t <;> rfl
      · unfold f3_l19_g f3_l19_k
        rw [dge]; rfl
    rw [hin]
    rfl
  · unfold f3_l16_g f3_l16_k
    rw [dge]; rfl
theorem need12 {l : List ObT} (hl : l.length ≤ 1048576) (h : ∀ o ∈ l, OkO o) {T D : List ByteArray} (hTD : ∀ n, has n T = has n D) : f12_l13 l ((List.length l : Nat) : Int) ((0 : Int), [], kt D) = some (ndM T l) := by
  unfold f12_l13 ndM
  refine (loop_all ob0 l (fun j s => ((j : Int), s, kt (D ++ s))) (fun j s => s.length ≤ 1048576 * j) (ndO T) (fun j s hj hp => ?_) [] (Nat.zero_le _) (by rw [List.append_nil]; rfl) (fun _ => ?_)).1
  · have ho := h _ (getD_mem (d := ob0) hj)
    have hfl := ho.fl
    refine ⟨?_, by have := ndO_len (T := T) (s := s) ho; omega⟩
    unfold f12_l13_g f12_l13_k
    rw [dlt hj]
    simp only [cond_true]
    rw [if_pos (in_row hj), Int.toNat_natCast]
    have e0 : List.getD l j (ByteArray.empty, (([] : List Int), (([] : List LbT), (([] : List FxT), ())))) = l.getD j ob0 := rfl
    rw [e0, wj (by omega)]
    have hin : f12_l16 l ((List.length l : Nat) : Int) (j : Int) (l.getD j ob0).2.2.2.1 ((List.length (l.getD j ob0).2.2.2.1 : Nat) : Int) ((0 : Int), s, kt (D ++ s)) = some (ndO T s (l.getD j ob0), kt (D ++ ndO T s (l.getD j ob0))) := by
      unfold f12_l16
      refine (loop_all fx0 (l.getD j ob0).2.2.2.1 (fun i t => ((i : Int), t, kt (D ++ t))) (fun i t => t.length ≤ 1048576 * j + i) (ndF T) (fun i t hi ht => ?_) s (by omega) rfl (fun _ => ?_)).1
      · refine ⟨?_, by have := ndF_len T t ((l.getD j ob0).2.2.2.1.getD i fx0); omega⟩
        unfold f12_l16_g f12_l16_k
        rw [dlt hi]
        simp only [cond_true]
        have hroom : (t.length + 1) * 16 ≤ most ∧ 0 < 16 ∧ 0 < 1 := ⟨by rw [most_eq]; omega, by decide, by decide⟩
        have e1 : (List.getD (l.getD j ob0).2.2.2.1 i ((0 : Int), ((0 : Int), (ByteArray.empty, ((0 : Int), ()))))) = (l.getD j ob0).2.2.2.1.getD i fx0 := rfl
        rw [if_pos (in_row hi), Int.toNat_natCast, e1, kt_find, kt_set, has_app, ← hTD, if_pos hroom, wj (by omega)]
        unfold ndF
        cases h1 : has ((l.getD j ob0).2.2.2.1.getD i fx0).2.2.1 T with
        | true => rfl
        | false =>
          cases h2 : has ((l.getD j ob0).2.2.2.1.getD i fx0).2.2.1 t with
          | true => rfl
          | false =>
            have e2 : addN (D ++ t) ((l.getD j ob0).2.2.2.1.getD i fx0).2.2.1 = D ++ (t ++ [((l.getD j ob0).2.2.2.1.getD i fx0).2.2.1]) := by
              unfold addN
              rw [has_app, ← hTD, h1, h2, List.append_assoc]; rfl
            rw [e2]
            rfl
      · unfold f12_l16_g f12_l16_k ndO
        rw [dge]; rfl
    rw [hin]
    rfl
  · unfold f12_l13_g f12_l13_k
    rw [dge]; rfl
theorem miss12 {l : List ObT} (hl : l.length ≤ 1048576) (h : ∀ o ∈ l, OkO o) : f12 l = some ((ndM (tdM l) l, ()), ()) := by
  unfold f12 f12_k
  rw [told12 hl h]
  simp only [some_bind]
  rw [need12 hl h (T := tdM l) (D := ddM l) (td_dd l)]
  rfl
theorem td_size {l : List ObT} (h : ∀ o ∈ l, OkO o) : (tdM l).length ≤ 1048576 * l.length := by
  have go : ∀ (l : List ObT) (s : List ByteArray), (∀ o ∈ l, OkO o) → (l.foldl tdO s).length ≤ s.length + 1048576 * l.length := by
    intro l
    induction l with
    | nil => intro s _; simp
    | cons o l ih =>
      intro s h
      rw [List.foldl_cons, List.length_cons]
      have h1 := ih (tdO s o) (fun x hx => h x (List.mem_cons_of_mem _ hx))
      have h2 : (tdO s o).length = s.length + o.2.2.1.length := td_len _ _
      have h3 := (h o (List.mem_cons_self ..)).el
      omega
  have := go l [] h
  unfold tdM
  simpa using this
theorem nd_size {T : List ByteArray} {l : List ObT} (h : ∀ o ∈ l, OkO o) : (ndM T l).length ≤ 1048576 * l.length := by
  have go : ∀ (l : List ObT) (s : List ByteArray), (∀ o ∈ l, OkO o) → (l.foldl (ndO T) s).length ≤ s.length + 1048576 * l.length := by
    intro l
    induction l with
    | nil => intro s _; simp
    | cons o l ih =>
      intro s h
      rw [List.foldl_cons, List.length_cons]
      have h1 := ih (ndO T s o) (fun x hx => h x (List.mem_cons_of_mem _ hx))
      have h2 := ndO_len (T := T) (s := s) (h o (List.mem_cons_self ..))
      omega
  have := go l [] h
  unfold ndM
  simpa using this
theorem begun4 : f4 = some ((true, ()), ()) := by
  have ho : OkO ((⟨#[97]⟩ : ByteArray), (([] : List Int), (([] : List LbT), (([] : List FxT), ())))) := ⟨by decide, by decide, by decide, fun x hx => (by cases hx), by decide, fun x hx => (by cases hx)⟩
  have hn : nameB (⟨#[97]⟩ : ByteArray) = true := by decide +kernel
  have hc : chkO ((⟨#[97]⟩ : ByteArray), (([] : List Int), (([] : List LbT), (([] : List FxT), ())))) = 0 := by
    unfold chkO
    simp only [hn]
    rfl
  have h5 := chk5 ho
  rw [hc] at h5
  unfold f4 f4_k f13 f13_k
  rw [h5]
  simp only [some_bind]
  have e1 : f13_l6 (((⟨#[111, 98, 106, 101, 99, 116, 32]⟩ : ByteArray) ++ (⟨#[97]⟩ : ByteArray)) ++ (⟨#[10]⟩ : ByteArray)) (0 : Int) ((⟨#[97]⟩ : ByteArray), (([] : List Int), (([] : List LbT), (([] : List FxT), ())))) () = some () := by
    unfold f13_l6; exact loopO_out rfl
  have e2 : f13_l10 (((⟨#[111, 98, 106, 101, 99, 116, 32]⟩ : ByteArray) ++ (⟨#[97]⟩ : ByteArray)) ++ (⟨#[10]⟩ : ByteArray)) ([] : List LbT) ((List.length ([] : List LbT) : Nat) : Int) (0 : Int) ((⟨#[97]⟩ : ByteArray), (([] : List Int), (([] : List LbT), (([] : List FxT), ())))) () = some () := by
    unfold f13_l10; exact loopO_out rfl
  have e3 : f13_l15 (((⟨#[111, 98, 106, 101, 99, 116, 32]⟩ : ByteArray) ++ (⟨#[97]⟩ : ByteArray)) ++ (⟨#[10]⟩ : ByteArray)) ([] : List FxT) ((List.length ([] : List FxT) : Nat) : Int) (0 : Int) () = some () := by
    unfold f13_l15; exact loopO_out rfl
  rw [e1, e2, e3]
  have z : ((0 : Int) != 0) = false := rfl
  rw [z]
  have s1 : ByteArray.size (⟨#[111, 98, 106, 101, 99, 116, 32]⟩ : ByteArray) + ByteArray.size (⟨#[97]⟩ : ByteArray) ≤ 9223372036854775807 := by decide
  have s2 : ByteArray.size ((⟨#[111, 98, 106, 101, 99, 116, 32]⟩ : ByteArray) ++ (⟨#[97]⟩ : ByteArray)) + ByteArray.size (⟨#[10]⟩ : ByteArray) ≤ 9223372036854775807 := by decide +kernel
  have s3 : strEq (((⟨#[111, 98, 106, 101, 99, 116, 32]⟩ : ByteArray) ++ (⟨#[97]⟩ : ByteArray)) ++ (⟨#[10]⟩ : ByteArray)) (⟨#[111, 98, 106, 101, 99, 116, 32, 97, 10]⟩ : ByteArray) = true := by decide +kernel
  simp only [cond_false, some_bind]
  rw [if_pos s1, if_pos s2]
  simp only [some_bind]
  rw [s3]
  rfl
theorem Pure.ObjLinks (x0 : den (.slc (.pair .str (.pair (.slc (.int .u8)) (.pair (.slc (.pair .str (.pair (.int .i64) .unit))) (.pair (.slc (.pair (.int .i64) (.pair (.int .i64) (.pair .str (.pair (.int .i64) .unit))))) .unit)))))) (x1 : Int) (w0 : ∀ y0 ∈ x0, ((y0.1.size ≤ maxLen) ∧ ((∀ y1 ∈ y0.2.1, ((Lit.int .u8 y1).wf = true)) ∧ ((∀ y1 ∈ y0.2.2.1, ((y1.1.size ≤ maxLen) ∧ (((Lit.int .i64 y1.2.1).wf = true) ∧ (True)))) ∧ ((∀ y1 ∈ y0.2.2.2.1, (((Lit.int .i64 y1.1).wf = true) ∧ (((Lit.int .i64 y1.2.1).wf = true) ∧ ((y1.2.2.1.size ≤ maxLen) ∧ (((Lit.int .i64 y1.2.2.2.1).wf = true) ∧ (True)))))) ∧ (True)))))) (s0 : List.length x0 ≤ 1048576 ∧ ∀ y0 ∈ x0, ((y0.1.size ≤ 1048576) ∧ ((List.length y0.2.1 ≤ 1048576 ∧ ∀ y1 ∈ y0.2.1, (True)) ∧ ((List.length y0.2.2.1 ≤ 1048576 ∧ ∀ y1 ∈ y0.2.2.1, ((y1.1.size ≤ 1048576) ∧ ((True) ∧ (True)))) ∧ ((List.length y0.2.2.2.1 ≤ 1048576 ∧ ∀ y1 ∈ y0.2.2.2.1, ((True) ∧ ((True) ∧ ((y1.2.2.1.size ≤ 1048576) ∧ ((True) ∧ (True)))))) ∧ (True)))))) (w1 : (Lit.int .i64 x1).wf = true) : f3 x0 x1 = some ((true, ()), ()) := by
  have hl : List.length x0 ≤ 1048576 := s0.1
  have h : ∀ o ∈ (x0 : List ObT), OkO o := fun o ho => by
    obtain ⟨a1, a2, a3, a4, _⟩ := s0.2 o ho
    obtain ⟨b1, b2, b3, b4, _⟩ := w0 o ho
    exact ⟨a1, a2.1, a3.1, fun x hx => ⟨(a3.2 x hx).1, wf_i64 (b3 x hx).2.1⟩, a4.1, fun f hf => ⟨wf_i64 (b4 f hf).1, wf_i64 (b4 f hf).2.1, (a4.2 f hf).2.2.1, wf_i64 (b4 f hf).2.2.2.1⟩⟩
  have hT := td_size (l := x0) h
  have hN := nd_size (T := tdM x0) (l := x0) h
  show f3 x0 x1 = some ((true, ()), ())
  unfold f3 f3_k
  rw [begun4]
  simp only [some_bind, Bool.not_true, cond_false]
  rw [told3 hl h]
  simp only [some_bind, Sum.elim_inr]
  rw [need3 hl h (by omega), link8 hl h (wf_i64 w1), link9 hl h (wf_i64 w1)]
  simp only [some_bind]
  rw [beq_self_eq_true]
  simp only [cond_true]
  rw [same10 (link_small h x1)]
  simp only [some_bind, cond_true]
  rw [miss12 hl h]
  simp only [some_bind]
  rw [eq11 (by omega)]
  rfl
end Go.Proofs.YtmfjebpdkgbggaaDoor.V
