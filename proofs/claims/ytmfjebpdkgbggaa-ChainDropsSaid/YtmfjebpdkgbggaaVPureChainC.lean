/- Chains: the entries of the directory, read by both. -/
import Derived.Test.YtmfjebpdkgbggaaVPureChainB
set_option linter.unusedVariables false
set_option linter.unusedSimpArgs false
namespace Go.Proofs.Ytmfjebpdkgbggaa.V
open Go
def nz (b : List Int) : Bool := b.any (fun x => x != 0)
theorem nz_search {l : List Int} {g : Int → Option (Int ⊕ (Int ⊕ Unit))} (hl : l.length ≤ 140737488355328) (hin : ∀ j : Nat, j < l.length → g (j : Int) = some (if (l.getD j 0 != 0) = true then .inr (.inl (j : Int)) else .inl ((j : Int) + 1))) (hout : g (l.length : Int) = some (.inr (.inr ()))) :
    ∃ y, loopO g 0 = some y ∧ decide (Sum.elim (fun z => z) (fun _ => (-1 : Int)) y ≥ 0) = nz l := by
  rcases search (Y := Int ⊕ Unit) (g := g) l.length (fun j => l.getD j 0 != 0) (fun m => .inl (m : Int)) (.inr ()) hin hout with ⟨m, m1, m2, m3, e⟩ | ⟨m1, e⟩
  · refine ⟨_, e, ?_⟩
    have : nz l = true := List.any_eq_true.2 ⟨_, getD_mem (d := 0) m1, m2⟩
    rw [this]; simp
  · refine ⟨_, e, ?_⟩
    have : nz l = false := by
      unfold nz
      rw [List.any_eq_false]
      intro x hx
      obtain ⟨j, hj, rfl⟩ := mem_getD 0 hx
      have := m1 j hj
      simpa using this
    rw [this]; rfl
theorem any146 {l : List Int} (hl : l.length ≤ 140737488355328) : f96 l () = some ((nz l, ()), ()) := by
  obtain ⟨y, e, h⟩ := nz_search (l := l) (g := f130_l2_g l ((List.length l : Nat) : Int)) hl (fun j hj => by
    unfold f130_l2_g f130_l2_k
    rw [dlt hj]
    simp only [cond_true]
    rw [if_pos (in_row hj), Int.toNat_natCast, wj (by omega)]
    simp only [f97, f97_k, some_bind]
    cases l.getD j 0 != 0 <;> rfl) (by
    unfold f130_l2_g f130_l2_k
    rw [dge]; rfl)
  unfold f96 f96_k f130 f130_k f130_l2
  rw [e]
  rw [Bool.eq_iff_iff, decide_eq_true_iff] at h
  cases y <;> simp only [some_bind, Sum.elim_inl, Sum.elim_inr] at h ⊢ <;> congr 3 <;> rw [Bool.eq_iff_iff, decide_eq_true_iff] <;> exact h
theorem any146x {l : List Int} (hl : l.length ≤ 140737488355328) : f96x1 l () = some ((nz l, ()), ()) := by
  obtain ⟨y, e, h⟩ := nz_search (l := l) (g := f130x1_l2_g l ((List.length l : Nat) : Int)) hl (fun j hj => by
    unfold f130x1_l2_g f130x1_l2_k
    rw [dlt hj]
    simp only [cond_true]
    rw [if_pos (in_row hj), Int.toNat_natCast, wj (by omega)]
    simp only [f131, f131_k, some_bind]
    cases l.getD j 0 != 0 <;> rfl) (by
    unfold f130x1_l2_g f130x1_l2_k
    rw [dge]; rfl)
  unfold f96x1 f96x1_k f130x1 f130x1_k f130x1_l2
  rw [e]
  rw [Bool.eq_iff_iff, decide_eq_true_iff] at h
  cases y <;> simp only [some_bind, Sum.elim_inl, Sum.elim_inr] at h ⊢ <;> congr 3 <;> rw [Bool.eq_iff_iff, decide_eq_true_iff] <;> exact h
theorem count_nz {l : List Int} : (l.countP (· == 0) = l.length) ↔ nz l = false := by
  rw [List.countP_eq_length]
  unfold nz
  rw [List.any_eq_false]
  constructor
  · intro h x hx
    have := h x hx
    simpa using this
  · intro h x hx
    have := h x hx
    simpa using this
def endsOk (b : List Int) : Bool := decide (nmL b ++ List.replicate (20 - (nmL b).length) 0 = b.take 20) && !nz (b.drop 23)
theorem pad_iff {b : List Int} (hl : b.length = 32) : nmL b ++ List.replicate (20 - (nmL b).length) 0 = b.take 20 ↔ ∀ j, j < 20 - (nmL b).length → b.getD ((nmL b).length + j) 0 = 0 := by
  have h20 := nmL_len b
  constructor
  · intro h j hj
    have h1 : (b.take 20).getD ((nmL b).length + j) 0 = b.getD ((nmL b).length + j) 0 := getD_take (by omega)
    rw [← h1, ← h, List.getD_eq_getElem?_getD, List.getElem?_append_right (by omega), Nat.add_sub_cancel_left, List.getElem?_replicate, if_pos hj]
    rfl
  · intro h
    refine getD_ext (d := 0) (by rw [List.length_append, List.length_replicate, List.length_take]; omega) (fun j hj => ?_)
    rw [List.length_append, List.length_replicate] at hj
    rw [getD_take (by omega)]
    by_cases hlt : j < (nmL b).length
    · rw [List.getD_eq_getElem?_getD, List.getElem?_append_left hlt, ← List.getD_eq_getElem?_getD, ← nmL_take, getD_take hlt]
    · have := h (j - (nmL b).length) (by omega)
      rw [show (nmL b).length + (j - (nmL b).length) = j by omega] at this
      rw [this, List.getD_eq_getElem?_getD, List.getElem?_append_right (by omega), List.getElem?_replicate, if_pos (by omega)]
      rfl
theorem ends148 {b : List Int} (hl : b.length = 32) : f98 b = some ((endsOk b, ()), ()) := by
  have h20 := nmL_len b
  have h23 : (b.drop 23).length ≤ 140737488355328 := by rw [List.length_drop]; omega
  unfold f98 f98_k
  rw [name125 hl]
  simp only [some_bind, b2s_size]
  have hs := searchS (Y := Unit ⊕ Unit) (g := f98_l2_g b) (fun j => (((nmL b).length + j : Nat) : Int)) (20 - (nmL b).length) (fun j => b.getD ((nmL b).length + j) 0 != 0) (fun m => .inl ()) (.inr ()) (fun j hj _ => by
    unfold f98_l2_g f98_l2_k
    rw [decide_eq_true (by omega)]
    simp only [cond_true]
    rw [if_pos ⟨by omega, by omega⟩, Int.toNat_natCast, wj (by omega)]
    cases b.getD ((nmL b).length + j) 0 != 0 <;> rfl) (fun _ => by
    unfold f98_l2_g f98_l2_k
    rw [decide_eq_false (by omega)]; rfl)
  have hx : f98_l2 b (((nmL b).length : Nat) : Int) = loopO (f98_l2_g b) ((fun j => (((nmL b).length + j : Nat) : Int)) 0) := rfl
  rw [hx]
  have hc : (0 : Int) ≤ 23 ∧ (23 : Int) ≤ ((List.length b : Nat) : Int) ∧ ((List.length b : Nat) : Int) ≤ ((List.length b : Nat) : Int) := ⟨by omega, by omega, by omega⟩
  have e23 : List.take (((List.length b : Nat) : Int).toNat - 23) (b.drop 23) = b.drop 23 := by
    rw [Int.toNat_natCast, List.take_of_length_le (by rw [List.length_drop]; omega)]
  rcases hs with ⟨m, m1, m2, m3, e⟩ | ⟨m1, e⟩
  · rw [e]
    have : endsOk b = false := by
      unfold endsOk
      rw [decide_eq_false (by rw [pad_iff hl]; intro h; have := h m m1; rw [this] at m2; simp at m2)]; rfl
    rw [this]; rfl
  · rw [e]
    simp only [some_bind, Sum.elim_inr]
    rw [if_pos hc, e23, any146x h23]
    have : endsOk b = !nz (b.drop 23) := by
      unfold endsOk
      rw [decide_eq_true (by rw [pad_iff hl]; intro j hj; have := m1 j hj; simpa using this)]; rfl
    rw [this]; rfl
def ent (b : List Int) (seen : List (List Int)) : Int ⊕ Option (List Int) :=
  if b.getD 0 0 = 0 then (if nz b = true then .inl 3 else .inr none)
  else if nameOk (nmL b) = false then .inl 15
  else if endsOk b = false then .inl 15
  else if nmL b ∈ seen then .inl 5
  else .inr (some (nmL b))
def entF (d : Disk) (i : Nat) (es : List (Nat × List Int)) : List (Nat × List Int) ⊕ (Int ⊕ List (Nat × List Int)) :=
  match ent (slotL d i) (es.map (·.2)) with
  | .inl e => .inr (.inl e)
  | .inr none => .inl es
  | .inr (some nm) => .inl (es ++ [(i, nm)])
def dirM (d : Disk) : Int ⊕ List (Nat × List Int) := foldE (entF d) (fun es => .inr es) (List.range 32) []
def EsOk (d : Disk) (es : List (Nat × List Int)) : Prop := (∀ p ∈ es, p.1 < 32 ∧ p.2 = nmL (slotL d p.1) ∧ byteL p.2 ∧ (slotL d p.1).getD 0 0 ≠ 0)
theorem nmL_byte {b : List Int} (h : byteL b) : byteL (nmL b) := by rw [← nmL_take]; exact byteL_take h _
theorem entF_ok {d : Disk} (h : GoodD d) {i : Nat} (hi : i < 32) {es es' : List (Nat × List Int)} (he : EsOk d es) (hf : entF d i es = .inl es') : EsOk d es' := by
  unfold entF ent at hf
  split at hf
  · cases hf
  · cases hf; exact he
  · rename_i nm hx
    split at hx
    · split at hx <;> cases hx
    · rename_i h0
      split at hx
      · cases hx
      · split at hx
        · cases hx
        · split at hx
          · cases hx
          · cases hx
            cases hf
            intro p hp
            rcases List.mem_append.1 hp with hp | hp
            · exact he p hp
            · simp only [List.mem_singleton] at hp
              subst hp
              exact ⟨hi, rfl, nmL_byte (slotL_byte h hi), h0⟩
theorem entF_len {d : Disk} {i : Nat} {es es' : List (Nat × List Int)} (hf : entF d i es = .inl es') : es'.length ≤ es.length + 1 := by
  unfold entF at hf
  split at hf
  · cases hf
  · cases hf; omega
  · cases hf; simp
theorem range_getD {n j : Nat} (h : j < n) : (List.range n).getD j 0 = j := by
  rw [List.getD_eq_getElem?_getD, List.getElem?_range h]; rfl
def seenM (es : List (Nat × List Int)) : List (ByteArray × Bool) := es.map fun p => (b2s p.2, true)
theorem seen_find {d : Disk} : ∀ {es : List (Nat × List Int)} {nm : List Int}, (∀ p ∈ es, byteL p.2) → byteL nm → mfind .str .bool (seenM es) (b2s nm) = if nm ∈ es.map (·.2) then some true else none
  | [], _, _, _ => by simp [seenM, mfind]
  | p :: es, nm, he, hn => by
    have ih := seen_find (d := d) (es := es) (fun q hq => he q (List.mem_cons_of_mem _ hq)) hn
    have e : mfind .str .bool (seenM (p :: es)) (b2s nm) = if strEq (b2s nm) (b2s p.2) = true then some true else mfind .str .bool (seenM es) (b2s nm) := rfl
    rw [e, strEq_b2s hn (he p (List.mem_cons_self ..)), ih]
    by_cases h : nm = p.2
    · simp [h]
    · rw [decide_eq_false h, if_neg (by simp)]
      have : nm ∈ (p :: es).map (·.2) ↔ nm ∈ es.map (·.2) := by
        rw [List.map_cons, List.mem_cons]
        exact ⟨fun hh => hh.resolve_left h, .inr⟩
      by_cases hm : nm ∈ es.map (·.2)
      · rw [if_pos hm, if_pos (this.2 hm)]
      · rw [if_neg hm, if_neg (fun hh => hm (this.1 hh))]
theorem seen_set {es : List (Nat × List Int)} {nm : List Int} {i : Nat} (h : mfind .str .bool (seenM es) (b2s nm) = none) : mset .str .bool (seenM es) (b2s nm) true = seenM (es ++ [(i, nm)]) := by
  have key : ∀ (l : List (ByteArray × Bool)), mfind .str .bool l (b2s nm) = none → mset .str .bool l (b2s nm) true = l ++ [(b2s nm, true)] := by
    intro l
    induction l with
    | nil => intro _; rfl
    | cons p l ih =>
      intro h
      have e : mfind .str .bool (p :: l) (b2s nm) = if keq .str (b2s nm) p.1 = true then some p.2 else mfind .str .bool l (b2s nm) := rfl
      rw [e] at h
      have e2 : mset .str .bool (p :: l) (b2s nm) true = if keq .str (b2s nm) p.1 = true then (p.1, true) :: l else p :: mset .str .bool l (b2s nm) true := rfl
      rw [e2]
      by_cases hk : keq .str (b2s nm) p.1 = true
      · rw [if_pos hk] at h; cases h
      · rw [if_neg hk] at h ⊢
        rw [ih h]; rfl
  rw [key _ h]
  simp [seenM]
theorem dir118 {d : Disk} (h : GoodD d) : f68_l16 d ((0 : Int), []) = some (match dirM d with | .inl e => .inl e | .inr _ => .inr ()) := by
  have := loop_list (A := Nat) (S := List (Nat × List Int)) (g := f68_l16_g d) (Y := Int ⊕ Unit) 0 (List.range 32) (fun j es => ((j : Int), seenM es)) (fun j es => EsOk d es)
    (fun i es => match entF d i es with | .inl es' => .inl es' | .inr (.inl e) => .inr (.inl e) | .inr (.inr _) => .inr (.inr ())) (fun _ => .inr ()) (fun j es hj hp => by
      rw [List.length_range] at hj
      rw [range_getD hj]
      have hs := slotL_len h hj
      have hb := slotL_byte h hj
      have hnb := nmL_byte hb
      refine ⟨?_, fun es' he => ?_⟩
      · unfold f68_l16_g f68_l16_k
        simp only
        rw [decide_eq_true (by omega)]
        simp only [cond_true]
        rw [slot119 h hj]
        simp only [some_bind]
        have hc : (0 : Int) ≤ 0 ∧ (0 : Int) < ((List.length (slotL d j) : Nat) : Int) := ⟨by omega, by omega⟩
        rw [if_pos hc, any146 (by omega), name125 hs, ends148 hs, wj (by omega)]
        simp only [some_bind]
        rw [name39 hnb (by have := nmL_len (slotL d j); omega), seen_find (d := d) (fun p hq => (hp p hq).2.2.1) hnb]
        simp only [some_bind, entF, ent]
        by_cases c0 : (slotL d j).getD 0 0 = 0
        · have : ((slotL d j).getD 0 0 == 0) = true := by simpa using c0
          rw [this, if_pos c0]
          cases nz (slotL d j) <;> rfl
        · have : ((slotL d j).getD 0 0 == 0) = false := by simpa using c0
          rw [this, if_neg c0]
          simp only [cond_false]
          cases hn : nameOk (nmL (slotL d j)) with
          | false => rfl
          | true =>
            cases hq : endsOk (slotL d j) with
            | false => rfl
            | true =>
              by_cases hm : nmL (slotL d j) ∈ es.map (·.2)
              · simp only [if_pos hm]; rfl
              · have hnone : mfind .str .bool (seenM es) (b2s (nmL (slotL d j))) = none := by rw [seen_find (d := d) (fun p hq => (hp p hq).2.2.1) hnb, if_neg hm]
                simp only [if_neg hm, seen_set (i := j) hnone]; rfl
      · have : entF d j es = .inl es' := by
          cases hf : entF d j es with
          | inl x => rw [hf] at he; cases he; rfl
          | inr x => rw [hf] at he; cases x <;> cases he
        exact entF_ok h hj hp this) (fun es hp => by
      rw [List.length_range]; rfl) [] (fun p hp => by simp at hp) (x0 := ((0 : Int), [])) rfl
  unfold f68_l16
  rw [this]
  congr 1
  unfold dirM
  generalize ([] : List (Nat × List Int)) = s0
  generalize List.range 32 = l
  induction l generalizing s0 with
  | nil => rfl
  | cons a l ih =>
    rw [foldE_cons, foldE_cons]
    cases entF d a s0 with
    | inl s => exact ih s
    | inr y => cases y <;> rfl
end Go.Proofs.Ytmfjebpdkgbggaa.V
