/- Sectors are formatted alike. -/
import Derived.Test.YtlgbhaigpecdoaaVFnTracks
import Derived.Test.YtlgbhaigpecdoaaVPureSectA
set_option linter.unusedVariables false
set_option linter.unusedSimpArgs false
namespace Go.Proofs.Ytlgbhaigpecdoaa.V
open Go

def bodyF (s : Sec) : List Int := if s.2.2.2.1 = true then (sealB (251 :: s.2.2.1)).set 130 (255 - (sealB (251 :: s.2.2.1)).getD 130 0) else sealB (251 :: s.2.2.1)
def secParts (s : Sec) : List Part := [(true, (sealB [254, s.1, s.2.1] ++ gap8, ())), (true, (bodyF s ++ gap8, ()))]
def partsF (l : List Sec) : List Part := (false, (gap8, ())) :: l.flatMap secParts
def okS1 (s : Sec) : Prop := 0 ≤ s.1 ∧ s.1 ≤ 255 ∧ 0 ≤ s.2.1 ∧ s.2.1 ≤ 255 ∧ s.2.2.1.length = 128
theorem gap8_byte : byteL gap8 := by
  intro x hx
  simp only [gap8, List.mem_cons, List.not_mem_nil, or_false] at hx
  omega
theorem xor255 : ∀ x : Fin 256, bitop .u8 .xor (x.val : Int) 255 = 255 - (x.val : Int) := by decide +kernel
theorem bodyF_len (s : Sec) : (bodyF s).length = s.2.2.1.length + 3 := by
  unfold bodyF
  split
  · rw [List.length_set, sealB_len]; simp
  · rw [sealB_len]; simp
theorem byteL_cons {x : Int} {l : List Int} (hx : 0 ≤ x ∧ x < 256) (h : byteL l) : byteL (x :: l) := fun y hy => (List.mem_cons.1 hy).elim (fun e => e ▸ hx) (h y)
theorem byteL_nil : byteL [] := fun x hx => by cases hx
theorem bodyF_byte {s : Sec} (hb : byteL s.2.2.1) : byteL (bodyF s) := by
  have h0 : byteL (sealB (251 :: s.2.2.1)) := sealB_byte (byteL_cons (by omega) hb)
  unfold bodyF
  split
  · intro x hx
    rcases List.mem_or_eq_of_mem_set hx with hx | hx
    · exact h0 x hx
    · subst hx
      by_cases hl : 130 < (sealB (251 :: s.2.2.1)).length
      · have := h0 _ (getD_mem (d := 0) hl); omega
      · rw [List.getD_eq_getElem?_getD, List.getElem?_eq_none (by omega)]; simp
  · exact h0
theorem head_byte {s : Sec} (h : okS1 s) : byteL [254, s.1, s.2.1] := by
  obtain ⟨h1, h2, h3, h4, _⟩ := h
  intro x hx
  simp only [List.mem_cons, List.not_mem_nil, or_false] at hx
  omega
theorem partsF_ok {l : List Sec} (h : ∀ s ∈ l, okS1 s) (hb : ∀ s ∈ l, byteL s.2.2.1) : partsOk (partsF l) := by
  intro p hp
  rcases List.mem_cons.1 hp with e | hp
  · subst e; exact gap8_byte
  · obtain ⟨s, hs, hp⟩ := List.mem_flatMap.1 hp
    simp only [secParts, List.mem_cons, List.not_mem_nil, or_false] at hp
    rcases hp with e | e <;> subst e
    · exact byteL_app (sealB_byte (head_byte (h s hs))) gap8_byte
    · exact byteL_app (bodyF_byte (hb s hs)) gap8_byte
theorem partsF_small {l : List Sec} (h : ∀ s ∈ l, okS1 s) : ∀ p ∈ partsF l, p.2.1.length ≤ 139 := by
  intro p hp
  rcases List.mem_cons.1 hp with e | hp
  · subst e; decide
  · obtain ⟨s, hs, hp⟩ := List.mem_flatMap.1 hp
    simp only [secParts, List.mem_cons, List.not_mem_nil, or_false] at hp
    have := (h s hs).2.2.2.2
    rcases hp with e | e <;> subst e
    · simp [sealB_len, gap8]
    · simp [bodyF_len, gap8, this]
theorem partsF_len (l : List Sec) : (partsF l).length = 1 + 2 * l.length := by
  unfold partsF
  rw [List.length_cons]
  have : ∀ l : List Sec, (l.flatMap secParts).length = 2 * l.length := by
    intro l
    induction l with
    | nil => rfl
    | cons s l ih => simp [secParts, ih]; omega
  rw [this]; omega
theorem tot_le' {k : Nat} : ∀ {l : List Part}, (∀ p ∈ l, p.2.1.length ≤ k) → tot l ≤ l.length * (k + 1)
  | [], _ => by simp [tot]
  | p :: l, h => by
    have h1 := h p (List.mem_cons_self ..)
    have h2 := tot_le' (l := l) (fun q hq => h q (List.mem_cons_of_mem _ hq))
    simp only [tot, szP, List.length_cons, Nat.add_mul]
    split <;> omega
theorem body_get {s : Sec} (h : okS1 s) (hb : byteL s.2.2.1) : 0 ≤ (sealB (251 :: s.2.2.1)).getD 130 0 ∧ (sealB (251 :: s.2.2.1)).getD 130 0 < 256 := by
  have h0 : byteL (sealB (251 :: s.2.2.1)) := sealB_byte (byteL_cons (by omega) hb)
  exact h0 _ (getD_mem (by rw [sealB_len]; simp [h.2.2.2.2]))
theorem loop57 (l : List Sec) (cell : Int) (h : ∀ s ∈ l, okS1 s) (hb : ∀ s ∈ l, byteL s.2.2.1) (hl : l.length ≤ 12) :
    f57_l6 cell l ((List.length l : Nat) : Int) ((0 : Int), [(false, (gap8, ()))]) = some (partsF l) := by
  unfold f57_l6
  have := loop_all (g := f57_l6_g cell l ((List.length l : Nat) : Int)) zSec l (fun j (s : List Part) => ((j : Int), s)) (fun j s => s.length = 1 + 2 * j) (fun s x => s ++ secParts x) (y := partsF l)
    (fun j s hj hs => by
      have ho := h _ (getD_mem (d := zSec) hj)
      have hbb := hb _ (getD_mem (d := zSec) hj)
      refine ⟨?_, by rw [List.length_append, hs]; simp [secParts]; omega⟩
      unfold f57_l6_g f57_l6_k
      simp only
      rw [dlt hj]
      simp only [cond_true]
      rw [if_pos (in_row hj), Int.toNat_natCast, wj (by omega)]
      generalize l.getD j zSec = x at ho hbb
      have hg := body_get ho hbb
      have hhd := head_byte ho
      obtain ⟨t, n, d, b, ⟨⟩⟩ := x
      obtain ⟨o1, o2, o3, o4, o5⟩ := ho
      dsimp only at o1 o2 o3 o4 o5 hbb hg hhd ⊢
      rw [wu (n := t) (by omega) (by omega), wu (n := n) (by omega) (by omega), seal115 _ hhd (by simp)]
      simp only [some_bind]
      rw [if_pos ⟨by rw [most_eq]; omega, by decide, by decide⟩]
      have eb : [(251 : Int)] ++ d = 251 :: d := rfl
      rw [eb, seal115 _ (byteL_cons (by omega) hbb) (by simp; omega)]
      simp only [some_bind]
      rw [gap114]
      simp only [some_bind]
      have hl1 : (sealB [254, t, n]).length = 5 := by rw [sealB_len]; rfl
      have hl2 : (sealB (251 :: d)).length = 131 := by rw [sealB_len]; simp [o5]
      have hgl : gap8.length = 8 := rfl
      have r1 : (List.length (sealB [254, t, n]) + List.length gap8) * 1 ≤ most ∧ 0 < 1 ∧ 0 < 1 := ⟨by rw [most_eq, hl1, hgl]; decide, by decide, by decide⟩
      have r2 : (List.length (sealB (251 :: d)) + List.length gap8) * 1 ≤ most ∧ 0 < 1 ∧ 0 < 1 := ⟨by rw [most_eq, hl2, hgl]; decide, by decide, by decide⟩
      have r3 : (List.length s + 2) * 32 ≤ most ∧ 0 < 32 ∧ 0 < 2 := ⟨by rw [most_eq]; omega, by decide, by decide⟩
      cases b with
      | true =>
        simp only [cond_true]
        have e7 : IntKind.i64.wrap (((sealB (251 :: d)).length : Int) - 1) = 130 := by rw [hl2]; rfl
        rw [e7, if_pos ⟨by decide, by rw [hl2]; decide⟩, if_pos ⟨by decide, by rw [hl2]; decide⟩, if_pos r1, if_pos ⟨by rw [List.length_set]; exact r2.1, by decide, by decide⟩, if_pos r3]
        have ex := xor255 ⟨((sealB (251 :: d)).getD 130 0).toNat, by omega⟩
        dsimp only at ex
        rw [show ((((sealB (251 :: d)).getD 130 0).toNat : Nat) : Int) = (sealB (251 :: d)).getD 130 0 by omega] at ex
        have e130 : Int.toNat 130 = 130 := rfl
        rw [e130, ex]
        simp [secParts, bodyF]
      | false =>
        simp only [cond_false]
        rw [if_pos r1, if_pos r2, if_pos r3]
        simp [secParts, bodyF])
    [(false, (gap8, ()))] rfl (x0 := ((0 : Int), [(false, (gap8, ()))])) rfl (fun hp => by
      unfold f57_l6_g f57_l6_k
      simp only
      rw [dge]
      simp only [cond_false]
      rw [foldl_app]; rfl)
  exact this.1
def formR (track : Int) (l : List Sec) (cell : Int) : List Int × (Int × Unit) := if secE track l ≠ 0 then ([], (secE track l, ())) else mfmW (partsF l) cell
theorem secE_ok' {track : Int} {l : List Sec} (h : secE track l = 0) : l.length ≤ 12 ∧ ∀ s ∈ l, okS1 s := secE_ok h
theorem form57 (track : Int) (l : List Sec) (cell : Int) (hb : ∀ s ∈ l, byteL s.2.2.1) : f57 track l cell = some (formR track l cell, ()) := by
  unfold f57 f57_k formR
  rw [check58]
  simp only [some_bind]
  by_cases c0 : secE track l ≠ 0
  · rw [if_pos c0, show (secE track l != 0) = true from bne_iff_ne.2 c0]; rfl
  have c1 : secE track l = 0 := Decidable.not_not.1 c0
  obtain ⟨hl, ho⟩ := secE_ok' c1
  rw [if_neg c0, c1]
  simp only [bne_self_eq_false, cond_false]
  rw [gap114]
  simp only [some_bind]
  rw [loop57 l cell ho hb hl]
  simp only [some_bind]
  rw [write29 _ cell (partsF_ok ho hb) (by rw [partsF_len]; omega) (fun p hp => by have := partsF_small ho p hp; omega)]
  rfl
theorem tail52 (a0 : Int) (a2 : List Sec) (a3 a4 : Int) (out : List Part) (x : Sec) (bo : List Int) (ho : okS1 x) (hbo : bo.length = 131) (hout : out.length ≤ 1000) :
    f52_t12 a0 gap8 a2 a3 a4 out x bo = some (out ++ [(true, (sealB [254, x.1, x.2.1] ++ gap8, ())), (true, (bo ++ gap8, ()))]) := by
  unfold f52_t12 f52_t12_k
  have hhd := head_byte ho
  obtain ⟨o1, o2, o3, o4, o5⟩ := ho
  rw [wu (n := x.1) (by omega) (by omega), wu (n := x.2.1) (by omega) (by omega), seal109 _ hhd (by simp)]
  simp only [some_bind]
  rw [concat102 _ (by simp [sealB_len, gap8]) (by simp), concat102 _ (by simp [hbo, gap8]) (by simp)]
  simp only [some_bind]
  rw [if_pos ⟨by rw [most_eq]; omega, by decide, by decide⟩]
  simp
theorem loop52 (l : List Sec) (cell : Int) (h : ∀ s ∈ l, okS1 s) (hb : ∀ s ∈ l, byteL s.2.2.1) (hl : l.length ≤ 12) :
    f52_l7 cell gap8 l ((List.length l : Nat) : Int) ((0 : Int), [(false, (gap8, ()))]) = some (partsF l) := by
  unfold f52_l7
  have := loop_all (g := f52_l7_g cell gap8 l ((List.length l : Nat) : Int)) zSec l (fun j (s : List Part) => ((j : Int), s)) (fun j s => s.length = 1 + 2 * j) (fun s x => s ++ secParts x) (y := partsF l)
    (fun j s hj hs => by
      have ho := h _ (getD_mem (d := zSec) hj)
      have hbb := hb _ (getD_mem (d := zSec) hj)
      refine ⟨?_, by rw [List.length_append, hs]; simp [secParts]; omega⟩
      unfold f52_l7_g f52_l7_k
      simp only
      rw [dlt hj]
      simp only [cond_true]
      rw [if_pos (in_row hj), Int.toNat_natCast, wj (by omega)]
      generalize l.getD j zSec = x at ho hbb
      have hg := body_get ho hbb
      have hd := ho.2.2.2.2
      have eb : [(251 : Int)] ++ x.2.2.1 = 251 :: x.2.2.1 := rfl
      rw [if_pos ⟨by rw [most_eq]; omega, by decide, by decide⟩, eb, seal109 _ (byteL_cons (by omega) hbb) (by simp; omega)]
      simp only [some_bind]
      have hl2 : (sealB (251 :: x.2.2.1)).length = 131 := by rw [sealB_len]; simp [hd]
      cases hbad : x.2.2.2.1 with
      | true =>
        simp only [cond_true]
        rw [if_pos ⟨by decide, by rw [hl2]; decide⟩, if_pos ⟨by decide, by rw [hl2]; decide⟩, wu (by omega) (by omega), tail52 _ _ _ _ s x _ ho (by rw [List.length_set, hl2]) (by omega)]
        simp [secParts, bodyF, hbad]
      | false =>
        simp only [cond_false]
        rw [tail52 _ _ _ _ s x _ ho hl2 (by omega)]
        simp [secParts, bodyF, hbad])
    [(false, (gap8, ()))] rfl (x0 := ((0 : Int), [(false, (gap8, ()))])) rfl (fun hp => by
      unfold f52_l7_g f52_l7_k
      simp only
      rw [dge]
      simp only [cond_false]
      rw [foldl_app]; rfl)
  exact this.1
theorem form52 (track : Int) (l : List Sec) (cell : Int) (hb : ∀ s ∈ l, byteL s.2.2.1) : f52 track l cell = some (formR track l cell, ()) := by
  unfold f52 f52_k formR
  rw [check59]
  simp only [some_bind]
  by_cases c0 : secE track l ≠ 0
  · rw [if_pos c0, show (secE track l != 0) = true from bne_iff_ne.2 c0]; rfl
  have c1 : secE track l = 0 := Decidable.not_not.1 c0
  obtain ⟨hl, ho⟩ := secE_ok' c1
  rw [if_neg c0, c1]
  simp only [bne_self_eq_false, cond_false]
  rw [repeat97]
  simp only [some_bind]
  rw [loop52 l cell ho hb hl]
  simp only [some_bind]
  have hs := partsF_small ho
  have ht := tot_le' hs
  rw [partsF_len] at ht
  rw [write31 _ cell (by omega) (by rw [partsF_len]; omega)]
  rfl
theorem formR_len (track : Int) (l : List Sec) (cell : Int) : (formR track l cell).1.length ≤ 40000 := by
  unfold formR
  split
  · simp
  · exact mfmW_len _ _
end Go.Proofs.Ytlgbhaigpecdoaa.V
