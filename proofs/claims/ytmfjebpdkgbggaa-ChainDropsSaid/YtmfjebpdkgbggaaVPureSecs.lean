/- Valid disks: the sectors of files, entries, and the entry with a name. -/
import Derived.Test.YtmfjebpdkgbggaaVPureChainChecks
set_option linter.unusedVariables false
set_option linter.unusedSimpArgs false
namespace Go.Proofs.Ytmfjebpdkgbggaa.V
open Go
theorem walk_fresh {d : Disk} : ∀ (k : Nat) (c : Int) (u u2 : List Bool) (out out2 : List Int) {r : List Bool × List Int}, 0 ≤ c → u.length = d.2.2.1.length → u2.length = d.2.2.1.length → (∀ i : Nat, u2.getD i false = true → u.getD i false = true) → walkM d k c u out = .inr r →
    ∃ r2 l, walkM d k c u2 out2 = .inr r2 ∧ r.2 = out ++ l ∧ r2.2 = out2 ++ l ∧ (∀ s ∈ l, 10 ≤ s ∧ s < (d.2.2.1.length : Int)) ∧ (∀ i : Nat, u.getD i false = true → r.1.getD i false = true) := by
  intro k
  induction k with
  | zero => intro c u u2 out out2 r _ _ _ _ h; cases h
  | succ k ih =>
    intro c u u2 out out2 r hc hl hl2 hsub h
    unfold walkM at h ⊢
    split at h
    · rename_i c1
      cases h
      rw [if_pos c1]
      exact ⟨_, [], rfl, by simp, by simp, fun s hs => by simp at hs, fun i hi => hi⟩
    · rename_i c1
      rw [if_neg c1]
      split at h
      · cases h
      · rename_i c2
        rw [if_neg c2]
        split at h
        · cases h
        · rename_i c3
          rw [if_neg c3]
          split at h
          · cases h
          · rename_i c4
            rw [if_neg c4]
            split at h
            · cases h
            · rename_i c5
              have c6 : ¬ u2.getD c.toNat false = true := fun hh => c5 (hsub _ hh)
              rw [if_neg c6]
              have hset : ∀ (w : List Bool) (i : Nat), w.length = d.2.2.1.length → (w.set c.toNat true).getD i false = if c.toNat = i then true else w.getD i false := fun w i hw => by
                rw [List.getD_eq_getElem?_getD, List.getElem?_set]
                by_cases e : c.toNat = i
                · rw [if_pos e, if_pos e, if_pos (by omega)]; rfl
                · rw [if_neg e, if_neg e, ← List.getD_eq_getElem?_getD]
              have hmono : ∀ i : Nat, (u2.set c.toNat true).getD i false = true → (u.set c.toNat true).getD i false = true := fun i hi => by
                rw [hset u2 i hl2] at hi
                rw [hset u i hl]
                by_cases e : c.toNat = i
                · rw [if_pos e]
                · rw [if_neg e] at hi ⊢; exact hsub i hi
              by_cases htb : 0 ≤ tb d c.toNat
              · obtain ⟨r2, l, h1, h2, h3, h4, h5⟩ := ih (tb d c.toNat) (u.set c.toNat true) (u2.set c.toNat true) (out ++ [c]) (out2 ++ [c]) htb (by rw [List.length_set]; exact hl) (by rw [List.length_set]; exact hl2) hmono h
                refine ⟨r2, c :: l, h1, by rw [h2]; simp, by rw [h3]; simp, fun s hs => ?_, fun i hi => h5 i ?_⟩
                · rcases List.mem_cons.1 hs with rfl | hs
                  · omega
                  · exact h4 s hs
                · rw [hset u i hl]
                  by_cases e : c.toNat = i
                  · rw [if_pos e]
                  · rw [if_neg e]; exact hi
              · cases k with
                | zero => cases h
                | succ k =>
                  unfold walkM at h
                  rw [if_neg (by omega), if_pos (by omega)] at h
                  cases h
def secsOf (d : Disk) (i : Nat) : List Int := match folM d (slotL d i) (noneU d) with | .inr r => r.2 | .inl _ => []
structure SecOk (d : Disk) (i : Nat) : Prop where
  fol : ∃ u, folM d (slotL d i) (noneU d) = .inr (u, secsOf d i)
  len : ((secsOf d i).length : Int) = need (slotL d i)
  rng : ∀ s ∈ secsOf d i, 10 ≤ s ∧ s < (d.2.2.1.length : Int)
theorem sec_ok {d : Disk} (h : GoodD d) {i : Nat} (hi : i < 32) {u : List Bool} (hu : u.length = d.2.2.1.length) {r : List Bool × List Int} (hf : folM d (slotL d i) u = .inr r) : SecOk d i ∧ r.2 = secsOf d i := by
  have hb := slotL_byte h hi
  have h20 := byteL_getD hb 20
  have hu2 : (noneU d).length = d.2.2.1.length := List.length_replicate
  unfold folM at hf
  split at hf
  · cases hf
  · rename_i r' hw
    split at hf
    · cases hf
    · rename_i hn
      cases hf
      have hn : (r.2.length : Int) = need (slotL d i) := by simpa using hn
      obtain ⟨r2, l, h1, h2, h3, h4, h5⟩ := walk_fresh 241 _ u (noneU d) [] [] h20.1 hu hu2 (fun j hj => by
        unfold noneU at hj
        rw [List.getD_eq_getElem?_getD, List.getElem?_replicate] at hj
        split at hj <;> cases hj) hw
      have e1 : r.2 = l := by simpa using h2
      have e2 : r2.2 = l := by simpa using h3
      have hfol : folM d (slotL d i) (noneU d) = .inr r2 := by
        unfold folM
        rw [h1]
        simp only
        rw [if_neg (by rw [e2, ← e1]; simpa using hn)]
      have hs : secsOf d i = l := by unfold secsOf; rw [hfol]; exact e2
      refine ⟨⟨⟨r2.1, by rw [hfol, hs, ← e2]⟩, by rw [hs, ← e1]; exact hn, by rw [hs]; exact h4⟩, by rw [hs, e1]⟩
theorem ch_secs {d : Disk} (h : GoodD d) : ∀ (es : List (Nat × List Int)) (u : List Bool) (acc : List Lk) {q : List Bool × List Lk}, (∀ p ∈ es, p.1 < 32) → u.length = d.2.2.1.length → chM d es u acc = .inr q →
    (∀ p ∈ es, SecOk d p.1) ∧ q.2 = acc ++ es.map fun p => secOf (lk d p) (secsOf d p.1)
  | [], u, acc, q, _, _, hc => by cases hc; exact ⟨fun p hp => by simp at hp, by simp⟩
  | p :: es, u, acc, q, he, hu, hc => by
    unfold chM at hc
    cases hf : folM d (slotL d p.1) u with
    | inl e' => rw [hf] at hc; cases hc
    | inr r =>
      rw [hf] at hc
      obtain ⟨h1, h2⟩ := sec_ok h (he p (List.mem_cons_self ..)) hu hf
      obtain ⟨h3, h4⟩ := ch_secs h es r.1 _ (fun x hx => he x (List.mem_cons_of_mem _ hx)) (by rw [folM_len hf]; exact hu) hc
      refine ⟨fun x hx => ?_, ?_⟩
      · rcases List.mem_cons.1 hx with rfl | hx
        · exact h1
        · exact h3 x hx
      · rw [h4, h2]; simp
def isF (d : Disk) (i : Nat) : Bool := decide ((slotL d i).getD 0 0 ≠ 0)
def idsM (d : Disk) : List Nat := (List.range 32).filter (isF d)
theorem ids_mem {d : Disk} {i : Nat} (h : i ∈ idsM d) : i < 32 ∧ isF d i = true := by
  unfold idsM at h
  rw [List.mem_filter, List.mem_range] at h
  exact h
theorem ids_len (d : Disk) : (idsM d).length ≤ 32 := by
  have := List.length_filter_le (isF d) (List.range 32)
  rw [List.length_range] at this
  exact this
structure ValD (d : Disk) : Prop where
  good : GoodD d
  sec : ∀ i ∈ idsM d, SecOk d i
def findM (d : Disk) (s : ByteArray) : Option Nat := (List.range 32).find? fun i => isF d i && strEq (b2s (nmL (slotL d i))) s
theorem find122 {d : Disk} (h : GoodD d) (s : ByteArray) : f35 d s = some ((match findM d s with | some i => (i : Int) | none => -1, ()), ()) := by
  have hin : ∀ j : Nat, j < 32 → f35_l2_g s d (j : Int) = some (if (isF d j && strEq (b2s (nmL (slotL d j))) s) = true then .inr (.inl (j : Int)) else .inl ((j : Int) + 1)) := fun j hj => by
    have hs := slotL_len h hj
    unfold f35_l2_g f35_l2_k
    rw [decide_eq_true (by omega)]
    simp only [cond_true]
    rw [slot119 h hj]
    simp only [some_bind]
    have hc : (0 : Int) ≤ 0 ∧ (0 : Int) < ((List.length (slotL d j) : Nat) : Int) := ⟨by omega, by omega⟩
    rw [if_pos hc, wj (by omega), name125 hs]
    simp only [some_bind]
    by_cases c0 : (slotL d j).getD 0 0 = 0
    · have e1 : ((slotL d j).getD 0 0 != 0) = false := by simpa using c0
      have e2 : isF d j = false := by unfold isF; simpa using c0
      rw [e1, e2]; rfl
    · have e1 : ((slotL d j).getD 0 0 != 0) = true := by simpa using c0
      have e2 : isF d j = true := by unfold isF; simpa using c0
      rw [e1, e2]
      cases strEq (b2s (nmL (slotL d j))) s <;> rfl
  unfold f35 f35_k f35_l2
  rcases search (Y := Int ⊕ Unit) 32 (fun i => isF d i && strEq (b2s (nmL (slotL d i))) s) (fun m => .inl (m : Int)) (.inr ()) hin (by unfold f35_l2_g f35_l2_k; rfl) with ⟨m, m1, m2, m3, e⟩ | ⟨m1, e⟩
  · have hf : findM d s = some m := by
      unfold findM
      rw [List.find?_range_eq_some]
      exact ⟨m2, List.mem_range.2 m1, fun j hj => by rw [m3 j hj]; rfl⟩
    rw [e, hf]; rfl
  · have hf : findM d s = none := by
      unfold findM
      rw [List.find?_range_eq_none]
      exact fun j hj => by rw [m1 j hj]; rfl
    rw [e, hf]; rfl
end Go.Proofs.Ytmfjebpdkgbggaa.V
