/- Paths are cut at slashes. -/
import Derived.Test.YtgdaiifhedpffaaDoorVPureNames
import Derived.Test.YtgdaiifhedpffaaDoorVKit2
import Derived.KernelRfl
set_option linter.unusedVariables false
set_option linter.unusedSimpArgs false
namespace Go.Proofs.YtgdaiifhedpffaaDoor.V
open Go
theorem fold_loop {β : Type} (f : β → UInt8 → β) (bs : ByteArray) (stop : Nat) (h : stop ≤ bs.size) : ∀ (i j : Nat) (b : β), i + j = stop →
    (ByteArray.foldlM.loop (m := _root_.Id) (fun x y => pure (f x y)) bs stop h i j b).run = ((bs.data.toList.drop j).take i).foldl f b := by
  intro i
  induction i with
  | zero =>
    intro j b e
    unfold ByteArray.foldlM.loop
    rw [dif_neg (by omega)]; rfl
  | succ i ih =>
    intro j b e
    unfold ByteArray.foldlM.loop
    rw [dif_pos (by omega)]
    have hj : j < bs.data.toList.length := by
      have : bs.size = bs.data.toList.length := (Array.length_toList (xs := bs.data)).symm
      omega
    rw [List.drop_eq_getElem_cons hj, List.take_succ_cons, List.foldl_cons]
    exact ih (j + 1) _ (by omega)
theorem cntB_list (l : List UInt8) (c : UInt8) : cntB ⟨l.toArray⟩ c = ((l.countP (· == c) : Nat) : Int) := by
  have h0 : cntB ⟨l.toArray⟩ c = l.foldl (fun n x => if x == c then n + 1 else n) ((0 : Nat) : Int) := by
    unfold cntB ByteArray.foldl ByteArray.foldlM
    rw [dif_pos (Nat.le_refl _)]
    have := fold_loop (fun (n : Int) x => if x == c then n + 1 else n) ⟨l.toArray⟩ (ByteArray.mk l.toArray).size (Nat.le_refl _) ((ByteArray.mk l.toArray).size - 0) 0 ((0 : Nat) : Int) (by omega)
    refine this.trans ?_
    simp [ByteArray.size]
  rw [h0]
  have : ∀ (l : List UInt8) (a : Nat), l.foldl (fun n x => if x == c then n + 1 else n) ((a : Nat) : Int) = ((a + l.countP (· == c) : Nat) : Int) := by
    intro l
    induction l with
    | nil => intro a; simp
    | cons x l ih =>
      intro a
      rw [List.foldl_cons, List.countP_cons]
      by_cases h : (x == c) = true
      · rw [if_pos h, if_pos h]
        have := ih (a + 1)
        rw [show ((a : Nat) : Int) + 1 = ((a + 1 : Nat) : Int) by omega, this]
        congr 1; omega
      · rw [if_neg h, if_neg h, ih a]; congr 1
  have := this l 0
  rw [this]; simp
theorem u8_eq {x c : Int} (hx : 0 ≤ x ∧ x < 256) (hc : 0 ≤ c ∧ c < 256) : (UInt8.ofNat x.toNat == c.toNat.toUInt8) = (x == c) := by
  have hu : ∀ n : Nat, n < 256 → (UInt8.ofNat n).toNat = n := fun n hn => by
    rw [UInt8.toNat_ofNat']; exact Nat.mod_eq_of_lt hn
  have e1 := hu x.toNat (by omega)
  have e2 : (c.toNat.toUInt8).toNat = c.toNat := hu c.toNat (by omega)
  rw [Bool.eq_iff_iff, beq_iff_eq, beq_iff_eq]
  constructor
  · intro h
    have := congrArg UInt8.toNat h
    rw [e1, e2] at this; omega
  · intro h; subst h; rfl
theorem cnt_b2s {l : List Int} (hb : byteL l) {c : Int} (hc : 0 ≤ c ∧ c < 256) : cntB (b2s l) c.toNat.toUInt8 = ((l.countP (· == c) : Nat) : Int) := by
  unfold b2s
  rw [cntB_list, List.countP_map]
  congr 1
  apply List.countP_congr
  intro x hx
  simp only [Function.comp]
  rw [u8_eq (hb x hx) hc]
theorem first_b2s {l : List Int} (hb : byteL l) {c : Int} (hc : 0 ≤ c ∧ c < 256) :
    firstIdx (b2s l) c.toNat.toUInt8 = if (l.takeWhile (fun x => x != c)).length < l.length then (((l.takeWhile (fun x => x != c)).length : Nat) : Int) else -1 := by
  have hsz : (b2s l).size = l.length := by simp [b2s, ByteArray.size]
  have hget : ∀ i, i < l.length → ((b2s l)[i]! == c.toNat.toUInt8) = (l.getD i 0 == c) := by
    intro i hi
    rw [getElem!_pos (b2s l) i (by rw [hsz]; exact hi)]
    have : (b2s l)[i]'(by rw [hsz]; exact hi) = UInt8.ofNat (l.getD i 0).toNat := by
      simp [b2s, ByteArray.get, ByteArray.getElem_eq_getElem_data, List.getD_eq_getElem?_getD, List.getElem?_eq_getElem hi]
    rw [this]
    exact u8_eq (byteL_getD hb i) hc
  have tw : ∀ (l : List Int), (∀ j, j < (l.takeWhile (fun x => x != c)).length → (l.getD j 0 == c) = false) ∧ ((l.takeWhile (fun x => x != c)).length < l.length → (l.getD (l.takeWhile (fun x => x != c)).length 0 == c) = true) := by
    intro l
    induction l with
    | nil => exact ⟨fun j hj => by simp at hj, fun h => by simp at h⟩
    | cons x l ih =>
      by_cases h : x = c
      · subst h
        simp [List.takeWhile_cons]
      · have hx : (x != c) = true := by simpa using h
        simp only [List.takeWhile_cons, hx, if_true, List.length_cons]
        refine ⟨fun j hj => ?_, fun hj => ?_⟩
        · cases j with
          | zero => simpa using h
          | succ j => exact ih.1 j (by omega)
        · exact ih.2 (by omega)
  obtain ⟨t1, t2⟩ := tw l
  unfold firstIdx
  rw [hsz]
  by_cases hlt : (l.takeWhile (fun x => x != c)).length < l.length
  · have : (List.range l.length).find? (fun i => (b2s l)[i]! == c.toNat.toUInt8) = some (l.takeWhile (fun x => x != c)).length := by
      rw [List.find?_range_eq_some]
      refine ⟨by rw [hget _ hlt]; exact t2 hlt, by simpa using hlt, fun j hj => ?_⟩
      rw [hget j (by omega), t1 j hj]; rfl
    rw [this, if_pos hlt]
  · have : (List.range l.length).find? (fun i => (b2s l)[i]! == c.toNat.toUInt8) = none := by
      rw [List.find?_range_eq_none]
      intro j hj
      rw [hget j hj, t1 j (by omega)]; rfl
    rw [this, if_neg hlt]
theorem ext_b2s (l : List Int) (a b : Nat) : ByteArray.extract (b2s l) a b = b2s ((l.take b).drop a) := by
  apply ByteArray.ext
  rw [ByteArray.data_extract]
  apply Array.ext'
  simp [b2s, List.drop_take]
def tw (l : List Int) : Nat := (l.takeWhile (fun x => x != 47)).length
def sl (l : List Int) : Nat := l.countP (fun x => x == 47)
theorem tw_lt : ∀ {l : List Int}, 0 < sl l → tw l < l.length
  | [], h => by simp [sl] at h
  | x :: l, h => by
    by_cases e : x = 47
    · subst e; simp [tw]
    · have hx : (x != 47) = true := by simpa using e
      have hy : (x == 47) = false := by simpa using e
      have h' : 0 < sl l := by simpa [sl, List.countP_cons, hy] using h
      have := tw_lt h'
      simp only [tw, List.takeWhile_cons, hx, if_true, List.length_cons]
      unfold tw at this; omega
theorem tw_sl : ∀ {l : List Int}, 0 < sl l → sl (l.drop (tw l + 1)) + 1 = sl l
  | [], h => by simp [sl] at h
  | x :: l, h => by
    by_cases e : x = 47
    · subst e; simp [tw, sl]
    · have hx : (x != 47) = true := by simpa using e
      have hy : (x == 47) = false := by simpa using e
      have h' : 0 < sl l := by simpa [sl, List.countP_cons, hy] using h
      have := tw_sl h'
      have e1 : tw (x :: l) = tw l + 1 := by simp [tw, List.takeWhile_cons, hx]
      have e2 : sl (x :: l) = sl l := by simp [sl, List.countP_cons, hy]
      rw [e1, e2, List.drop_succ_cons]; exact this
theorem sl_le (l : List Int) : sl l ≤ l.length := List.countP_le_length
def restL (l : List Int) : Nat → List Int
  | 0 => l
  | j + 1 => (restL l j).drop (tw (restL l j) + 1)
theorem rest_sl (l : List Int) : ∀ j, j ≤ sl l → sl (restL l j) + j = sl l
  | 0, _ => rfl
  | j + 1, h => by
    have := rest_sl l j (by omega)
    have h2 := tw_sl (l := restL l j) (by omega)
    show sl ((restL l j).drop (tw (restL l j) + 1)) + (j + 1) = _
    omega
theorem rest_byte {l : List Int} (hb : byteL l) : ∀ j, byteL (restL l j)
  | 0 => hb
  | j + 1 => byteL_drop (rest_byte hb j) _
theorem rest_len (l : List Int) : ∀ j, (restL l j).length ≤ l.length
  | 0 => Nat.le_refl _
  | j + 1 => by
    have := rest_len l j
    show ((restL l j).drop _).length ≤ _
    rw [List.length_drop]; omega
def pieceL (l : List Int) (j : Nat) : ByteArray := b2s ((restL l j).take (tw (restL l j)))
def arrL (l : List Int) (n j : Nat) : List ByteArray := (List.range j).map (pieceL l) ++ List.replicate (n - j) ByteArray.empty
theorem arrL_len {l : List Int} {n j : Nat} (h : j ≤ n) : (arrL l n j).length = n := by simp [arrL]; omega
theorem arrL_set {l : List Int} {n j : Nat} (h : j < n) (x : ByteArray) : (arrL l n j).set j x = (List.range j).map (pieceL l) ++ x :: List.replicate (n - (j + 1)) ByteArray.empty := by
  unfold arrL
  obtain ⟨m, hm⟩ : ∃ m, n - j = m + 1 := ⟨n - j - 1, by omega⟩
  rw [hm, show n - (j + 1) = m by omega, List.replicate_succ, List.set_append_right _ _ (by simp)]
  simp
theorem arrL_step {l : List Int} {n j : Nat} (h : j < n) : (arrL l n j).set j (pieceL l j) = arrL l n (j + 1) := by
  rw [arrL_set h]
  unfold arrL
  rw [List.range_succ, List.map_append]
  simp
def total (ps : List ByteArray) : Nat := (ps.map fun x => x.size + 1).sum
theorem rest_total (l : List Int) : ∀ j, j ≤ sl l → total ((List.range j).map (pieceL l)) + (restL l j).length = l.length
  | 0, _ => by simp [total, restL]
  | j + 1, h => by
    have := rest_total l j (by omega)
    have h1 := rest_sl l j (by omega)
    have h2 := tw_lt (l := restL l j) (by omega)
    have h3 : (pieceL l j).size = tw (restL l j) := by unfold pieceL; rw [b2s_size, List.length_take]; omega
    have h4 : (restL l (j + 1)).length = (restL l j).length - (tw (restL l j) + 1) := by
      show ((restL l j).drop _).length = _
      rw [List.length_drop]
    rw [List.range_succ, List.map_append, h4]
    have : total ((List.range j).map (pieceL l) ++ [j].map (pieceL l)) = total ((List.range j).map (pieceL l)) + (tw (restL l j) + 1) := by
      simp [total, h3]
    omega
theorem index33 {r : List Int} (hb : byteL r) : f33 (b2s r) (⟨#[47]⟩ : ByteArray) = some (((if tw r < r.length then ((tw r : Nat) : Int) else -1, ()), ())) := by
  have e : (⟨#[47]⟩ : ByteArray) = b2s [47] := rfl
  have h1 : (((ByteArray.size (⟨#[47]⟩ : ByteArray) : Nat) : Int) == (0 : Int)) = false := rfl
  have h2 : (((ByteArray.size (⟨#[47]⟩ : ByteArray) : Nat) : Int) == (1 : Int)) = true := rfl
  have h3 : strEq (⟨#[47]⟩ : ByteArray) (b2s r) = decide ([47] = r) := by rw [e]; exact strEq_b2s (fun x hx => by simp at hx; omega) hb
  have h4 : f34 (b2s r) (bt (⟨#[47]⟩ : ByteArray) (0 : Int)) = some ((if tw r < r.length then ((tw r : Nat) : Int) else -1, ()), ()) := by
    have : bt (⟨#[47]⟩ : ByteArray) (0 : Int) = 47 := by decide +kernel
    rw [this]
    unfold f34 f34_k eStr
    rw [first_b2s hb (c := 47) (by decide)]
    rfl
  unfold f33 f33_k f44 f44_k
  rw [h1, h2, h3, h4]
  by_cases hr : [47] = r
  · subst hr
    simp only [decide_true, cond_true, cond_false, some_bind]
    rfl
  · rw [decide_eq_false hr]
    simp only [cond_true, cond_false, some_bind]
    rw [if_pos ⟨by decide, by decide⟩]
    rfl
def piecesL (l : List Int) : List ByteArray := (List.range (sl l)).map (pieceL l) ++ [b2s (restL l (sl l))]
theorem split26 {l : List Int} (hb : byteL l) (hl : l.length ≤ 1048576) : f26 (b2s l) (⟨#[47]⟩ : ByteArray) 0 (-1) = some ((piecesL l, ()), ()) := by
  have hs := sl_le l
  have hcnt : f32 (b2s l) (⟨#[47]⟩ : ByteArray) = some ((((sl l : Nat) : Int), ()), ()) := by
    have : bt (⟨#[47]⟩ : ByteArray) (0 : Int) = 47 := by decide +kernel
    unfold f32 f32_k
    rw [show (((ByteArray.size (⟨#[47]⟩ : ByteArray) : Nat) : Int) == (0 : Int)) = false from rfl, show (((ByteArray.size (⟨#[47]⟩ : ByteArray) : Nat) : Int) == (1 : Int)) = true from rfl, this]
    simp only [cond_true, cond_false]
    rw [if_pos ⟨by decide, by decide⟩]
    unfold eCntS
    rw [cnt_b2s hb (c := 47) (by decide)]
    rfl
  have hloop : f26_l11 (⟨#[47]⟩ : ByteArray) 0 ((sl l : Nat) : Int) (b2s l, (0 : Int), List.replicate (sl l + 1) ByteArray.empty) = some (b2s (restL l (sl l)), (((sl l : Nat) : Int), arrL l (sl l + 1) (sl l))) := by
    unfold f26_l11
    refine loop_go (fun j => (b2s (restL l j), ((j : Int), arrL l (sl l + 1) j))) (sl l) (by simp [restL, arrL]) (fun j hj => ?_) ?_
    · have h1 := rest_sl l j (by omega)
      have h2 := tw_lt (l := restL l j) (by omega)
      have h3 := rest_len l j
      unfold f26_l11_g f26_l11_k
      simp only
      rw [dlt hj, index33 (rest_byte hb j)]
      simp only [cond_true, some_bind, if_pos h2]
      have c1 : decide (((tw (restL l j) : Nat) : Int) < 0) = false := by simp
      rw [c1]
      simp only [cond_false]
      have e1 : ((ByteArray.size (⟨#[47]⟩ : ByteArray) : Nat) : Int) = 1 := rfl
      rw [e1, wi (by omega) (by omega), Int.add_zero, wj (by omega), wj (by omega), b2s_size]
      rw [if_pos ⟨by omega, by omega, by omega⟩, if_pos ⟨by omega, by rw [arrL_len (by omega)]; omega⟩, if_pos ⟨by omega, by omega, by omega⟩]
      simp only [Int.toNat_natCast]
      rw [ext_b2s, ext_b2s, List.drop_zero, List.take_length]
      have e2 : (arrL l (sl l + 1) j).set j (b2s ((restL l j).take (tw (restL l j)))) = arrL l (sl l + 1) (j + 1) := arrL_step (by omega)
      rw [e2]
      rfl
    · unfold f26_l11_g f26_l11_k
      simp only
      rw [dge]
      rfl
  unfold f26 f26_k
  rw [show ((-1 : Int) == (0 : Int)) = false from rfl, show strEq (⟨#[47]⟩ : ByteArray) (⟨#[]⟩ : ByteArray) = false by decide +kernel, show decide ((-1 : Int) < (0 : Int)) = true from rfl, hcnt]
  simp only [cond_true, cond_false, some_bind]
  rw [wj (by omega)]
  have ht : f26_t7 (b2s l) (⟨#[47]⟩ : ByteArray) 0 (((sl l + 1 : Nat) : Nat) : Int) = some (0, (sl l + 1, (arrL l (sl l + 1) (sl l)).set (sl l) (b2s (restL l (sl l))))) := by
    unfold f26_t7 f26_t7_k
    simp only
    rw [b2s_size, wj (by omega)]
    have hm : (if ((l.length + 1 : Nat) : Int) < ((sl l + 1 : Nat) : Int) then ((l.length + 1 : Nat) : Int) else ((sl l + 1 : Nat) : Int)) = ((sl l + 1 : Nat) : Int) := by rw [if_neg (by omega)]
    rw [hm, if_pos ⟨by omega, by omega, by rw [most_eq]; omega, by decide, by decide⟩, wi (by omega) (by omega), show ((sl l + 1 : Nat) : Int) - 1 = ((sl l : Nat) : Int) by omega, Int.toNat_natCast, hloop]
    simp only [some_bind]
    rw [if_pos ⟨by omega, by rw [arrL_len (by omega)]; omega⟩, wj (by omega), Int.toNat_natCast, if_pos ⟨by omega, by omega, by rw [List.length_set, arrL_len (by omega)]; omega⟩]
    rfl
  rw [ht]
  simp only [some_bind, List.drop_zero]
  rw [arrL_set (by omega)]
  unfold piecesL
  simp only [Nat.sub_self, List.replicate_zero]
  rw [List.take_of_length_le (by simp)]
theorem pieces_total (l : List Int) : total (piecesL l) = l.length + 1 := by
  have := rest_total l (sl l) (Nat.le_refl _)
  unfold piecesL
  have e : total ((List.range (sl l)).map (pieceL l) ++ [b2s (restL l (sl l))]) = total ((List.range (sl l)).map (pieceL l)) + ((restL l (sl l)).length + 1) := by
    simp [total, b2s_size]
  omega
theorem total_mem : ∀ {ps : List ByteArray} {x : ByteArray}, x ∈ ps → x.size + 1 ≤ total ps
  | y :: ps, x, h => by
    rcases List.mem_cons.1 h with rfl | h
    · simp [total]
    · have := total_mem h
      simp only [total, List.map_cons, List.sum_cons] at this ⊢
      omega
theorem total_le : ∀ {ps : List ByteArray} {k : Nat}, (∀ x ∈ ps, x.size ≤ k) → total ps ≤ ps.length * (k + 1)
  | [], k, _ => by simp [total]
  | y :: ps, k, h => by
    have h1 := h y (List.mem_cons_self ..)
    have := total_le (ps := ps) (k := k) fun x hx => h x (List.mem_cons_of_mem _ hx)
    simp only [total, List.map_cons, List.sum_cons, List.length_cons] at this ⊢
    rw [Nat.add_mul]; omega
theorem total_len : ∀ (ps : List ByteArray), ps.length ≤ total ps
  | [] => Nat.le_refl _
  | y :: ps => by
    have := total_len ps
    simp only [total, List.map_cons, List.sum_cons, List.length_cons] at this ⊢
    omega
def nameS (x : ByteArray) : Bool := nameOk (s2b x)
theorem s2b_len (x : ByteArray) : (s2b x).length = x.size := by unfold s2b; rw [List.length_map]; rfl
theorem prog19 {x : ByteArray} (h : x.size ≤ 140737488355328) : f19 x = some ((nameS x, ()), ()) := by
  have := name39 (s2b_byte x) (by rw [s2b_len]; exact h)
  rwa [b2s_s2b] at this
theorem ref22 {x : ByteArray} (h : x.size ≤ 140737488355328) : f22 x = some ((nameS x, ()), ()) := by
  have := name40 (s2b_byte x) (by rw [s2b_len]; exact h)
  rwa [b2s_s2b] at this
theorem name_size {x : ByteArray} (h : nameS x = true) : 1 ≤ x.size ∧ x.size ≤ 20 := by
  unfold nameS nameOk headOk at h
  simp only [Bool.and_eq_true, decide_eq_true_eq, s2b_len] at h
  exact ⟨h.1.1, h.1.2.1⟩
theorem bad16 {ps : List ByteArray} (hs : ∀ x ∈ ps, x.size ≤ 140737488355328) (hl : ps.length ≤ 140737488355328) : f16 ps () = some ((ps.any (fun x => !nameS x), ()), ()) := by
  unfold f16 f16_k f25 f25_k f25_l2
  rcases search (Y := Int ⊕ Unit) (g := f25_l2_g ps ((List.length ps : Nat) : Int)) ps.length (fun j => !nameS (ps.getD j ByteArray.empty)) (fun m => .inl (m : Int)) (.inr ()) (fun j hj => by
      unfold f25_l2_g f25_l2_k
      rw [dlt hj]
      simp only [cond_true]
      rw [if_pos ⟨by omega, by omega⟩, Int.toNat_natCast]
      unfold f18 f18_k
      rw [prog19 (hs _ (getD_mem hj)), wj (by omega)]
      cases nameS (ps.getD j ByteArray.empty) <;> rfl) (by
      unfold f25_l2_g f25_l2_k
      rw [dge]; rfl) with ⟨m, m1, m2, m3, e⟩ | ⟨m1, e⟩
  · rw [e]
    have : ps.any (fun x => !nameS x) = true := by
      rw [List.any_eq_true]
      exact ⟨_, getD_mem (d := ByteArray.empty) m1, m2⟩
    rw [this]
    simp only [some_bind, Sum.elim_inl]
    rw [decide_eq_true (by omega)]
  · rw [e]
    have : ps.any (fun x => !nameS x) = false := by
      rw [List.any_eq_false]
      intro x hx
      obtain ⟨j, hj, rfl⟩ := mem_getD ByteArray.empty hx
      simpa using m1 j hj
    rw [this]
    rfl
theorem bad16x {ps : List ByteArray} (hs : ∀ x ∈ ps, x.size ≤ 140737488355328) (hl : ps.length ≤ 140737488355328) : f16x1 ps () = some ((ps.any (fun x => !nameS x), ()), ()) := by
  unfold f16x1 f16x1_k f25x1 f25x1_k f25x1_l2
  rcases search (Y := Int ⊕ Unit) (g := f25x1_l2_g ps ((List.length ps : Nat) : Int)) ps.length (fun j => !nameS (ps.getD j ByteArray.empty)) (fun m => .inl (m : Int)) (.inr ()) (fun j hj => by
      unfold f25x1_l2_g f25x1_l2_k
      rw [dlt hj]
      simp only [cond_true]
      rw [if_pos ⟨by omega, by omega⟩, Int.toNat_natCast]
      unfold f21 f21_k
      rw [ref22 (hs _ (getD_mem hj)), wj (by omega)]
      cases nameS (ps.getD j ByteArray.empty) <;> rfl) (by
      unfold f25x1_l2_g f25x1_l2_k
      rw [dge]; rfl) with ⟨m, m1, m2, m3, e⟩ | ⟨m1, e⟩
  · rw [e]
    have : ps.any (fun x => !nameS x) = true := by
      rw [List.any_eq_true]
      exact ⟨_, getD_mem (d := ByteArray.empty) m1, m2⟩
    rw [this]
    simp only [some_bind, Sum.elim_inl]
    rw [decide_eq_true (by omega)]
  · rw [e]
    have : ps.any (fun x => !nameS x) = false := by
      rw [List.any_eq_false]
      intro x hx
      obtain ⟨j, hj, rfl⟩ := mem_getD ByteArray.empty hx
      simpa using m1 j hj
    rw [this]
    rfl
def pathOk (s : ByteArray) : Bool := decide ((piecesL (s2b s)).length ≤ 8) && !((piecesL (s2b s)).any fun x => !nameS x)
theorem split20 (s : ByteArray) (h : s.size ≤ 1048576) : f20 s (⟨#[47]⟩ : ByteArray) = some ((piecesL (s2b s), ()), ()) := by
  have := split26 (s2b_byte s) (by rw [s2b_len]; exact h)
  rw [b2s_s2b] at this
  unfold f20 f20_k
  rw [this]; rfl
theorem pieces_small {s : ByteArray} (h : s.size ≤ 1048576) : (∀ x ∈ piecesL (s2b s), x.size ≤ 140737488355328) ∧ (piecesL (s2b s)).length ≤ 140737488355328 := by
  have ht := pieces_total (s2b s)
  rw [s2b_len] at ht
  refine ⟨fun x hx => ?_, ?_⟩
  · have := total_mem hx; omega
  · have := total_len (piecesL (s2b s)); omega
theorem ref8 (s : ByteArray) (h : s.size ≤ 1048576) : f8 s = some ((pathOk s, ()), ()) := by
  obtain ⟨h1, h2⟩ := pieces_small h
  unfold f8 f8_k pathOk
  rw [split20 s h]
  simp only [some_bind]
  rw [bad16x h1 h2]
  by_cases c : (piecesL (s2b s)).length ≤ 8
  · rw [decide_eq_true c, decide_eq_true (by omega)]; rfl
  · rw [decide_eq_false c, decide_eq_false (by omega)]; rfl
theorem path7 (s : ByteArray) (h : s.size ≤ 1048576) : f7 s = some ((pathOk s, ()), ()) := by
  obtain ⟨h1, h2⟩ := pieces_small h
  have ht := pieces_total (s2b s)
  rw [s2b_len] at ht
  have he : strEq s (⟨#[]⟩ : ByteArray) = decide (s2b s = []) := by
    have := str_empty (s2b_byte s)
    rwa [b2s_s2b] at this
  have hall : pathOk s = true → 1 ≤ s.size ∧ s.size ≤ 168 := by
    intro hp
    unfold pathOk at hp
    simp only [Bool.and_eq_true, decide_eq_true_eq, Bool.not_eq_true', List.any_eq_false, Bool.not_eq_false] at hp
    obtain ⟨p1, p2⟩ := hp
    have hn : ∀ x ∈ piecesL (s2b s), 1 ≤ x.size ∧ x.size ≤ 20 := fun x hx => name_size (by simpa using p2 x hx)
    have := total_le (k := 20) fun x hx => (hn x hx).2
    have hm : (b2s (restL (s2b s) (sl (s2b s)))) ∈ piecesL (s2b s) := by unfold piecesL; simp
    have q1 := total_mem hm
    have q2 := (hn _ hm).1
    omega
  unfold f7 f7_k
  rw [he]
  by_cases c0 : s2b s = []
  · have hz : s.size = 0 := by rw [← s2b_len, c0]; rfl
    have : pathOk s = false := by
      cases hp : pathOk s with
      | false => rfl
      | true => have := hall hp; omega
    rw [decide_eq_true c0, this]; rfl
  · rw [decide_eq_false c0]
    simp only [Bool.not_false, cond_true]
    by_cases c1 : s.size ≤ 168
    · rw [decide_eq_true (by omega)]
      have h17 : f17 s = some ((piecesL (s2b s), ()), ()) := by
        unfold f17 f17_k
        rw [he, decide_eq_false c0, split20 s h]; rfl
      rw [h17]
      simp only [cond_true, some_bind]
      rw [bad16 h1 h2]
      simp only [some_bind]
      unfold pathOk
      cases (piecesL (s2b s)).any fun x => !nameS x with
      | true => simp
      | false =>
        simp only [Bool.not_false, cond_true, Bool.and_true]
        by_cases c : (piecesL (s2b s)).length ≤ 8
        · rw [decide_eq_true c, decide_eq_true (by omega)]
        · rw [decide_eq_false c, decide_eq_false (by omega)]
    · have : pathOk s = false := by
        cases hp : pathOk s with
        | false => rfl
        | true => have := hall hp; omega
      rw [decide_eq_false (by omega), this]; rfl
end Go.Proofs.YtgdaiifhedpffaaDoor.V
