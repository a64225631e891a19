/- image.Copy, by hand: its loop, and the whole. -/
import Derived.Test.YtmfjebpdkgbggaaVImg
set_option linter.unusedVariables false
set_option linter.unusedSimpArgs false
set_option maxRecDepth 100000
namespace Go.Proofs.Ytmfjebpdkgbggaa.V
open Go
structure ImgJ (w00 : World) (Im0 : Nat → Prop) (xs : List (List Int)) (d1 d2 : Value) (b1 b2 B off cap i : Nat) (Im : Nat → Prop) (c : Array Value) (e : TypeId) (h : Frag) (w : World) : Prop where
  hb1 : w.heap[b1]? = some (.cells #[d1, d2, .slice (some ⟨B, off, none⟩) xs.length cap] 24 (0, 0))
  hb2 : ∃ z : Array Value, z.size = 3 ∧ w.heap[b2]? = some (.cells z 24 (0, 0))
  hB : w.heap[B]? = some (.cells c e (0, 0))
  hc : off + cap ≤ c.size
  hcap : xs.length ≤ cap
  hmax : cap ≤ maxLen
  keep : Keep ⟨w00, [], Im0, fun _ _ => .bool false⟩ w
  grow : Grow w00 w Im0 Im
  imr : ∀ k, Im k → k < w.heap.size ∧ (Im0 k ∨ w00.heap.size ≤ k)
  nod : ([b1, b2, B] ++ keys h).Nodup
  fresh : ∀ k ∈ [b1, b2, B] ++ keys h, ¬ Im k ∧ w00.heap.size ≤ k
  heap : HeapOK w h
  own : RepL (fun x cs h => Rep w Im (.slc (.int .u8)) (.own .ro) x cs h) (xs.take i) (c.toList.drop off) h
  rest : RepL (fun x cs h => Rep w Im (.slc (.int .u8)) .ro x cs h) (xs.drop i) (c.toList.drop (off + i)) []
section
variable {w00 : World} {Im0 : Nat → Prop} {xs : List (List Int)} {d1 d2 : Value} {b1 b2 B off cap i : Nat} {Im : Nat → Prop} {c : Array Value} {e : TypeId} {h : Frag} {w : World}
theorem ImgJ.lt (J : ImgJ w00 Im0 xs d1 d2 b1 b2 B off cap i Im c e h w) : ∀ k ∈ [b1, b2, B] ++ keys h, k < w.heap.size := by
  intro k hk
  rcases List.mem_append.1 hk with hk | hk
  · simp only [List.mem_cons, List.not_mem_nil, or_false] at hk
    rcases hk with rfl | rfl | rfl
    · exact (Array.getElem?_eq_some_iff.1 J.hb1).1
    · obtain ⟨z, _, hz⟩ := J.hb2
      exact (Array.getElem?_eq_some_iff.1 hz).1
    · exact (Array.getElem?_eq_some_iff.1 J.hB).1
  · obtain ⟨p, hp, rfl⟩ := keys_mem.1 hk
    exact (Array.getElem?_eq_some_iff.1 (J.heap p hp)).1
theorem ImgJ.row (J : ImgJ w00 Im0 xs d1 d2 b1 b2 B off cap i Im c e h w) (hi : i < xs.length) : ∃ vi, c.toList[off + i]? = some vi ∧ Rep w Im (.slc (.int .u8)) .ro xs[i] [vi] [] := by
  have hr := J.rest
  rw [List.drop_eq_getElem_cons hi] at hr
  obtain ⟨c1, c2, h1, h2, e1, e2, r1, r2⟩ := hr
  obtain ⟨rfl, rfl⟩ : h1 = [] ∧ h2 = [] := by simpa using e2.symm
  have l1 : c1.length = 1 := r1.len
  match c1, l1 with
  | [v], _ =>
    refine ⟨v, ?_, r1⟩
    have : (c.toList.drop (off + i))[0]? = some v := by rw [e1]; rfl
    rw [List.getElem?_drop] at this
    simpa using this
theorem ImgJ.next (J : ImgJ w00 Im0 xs d1 d2 b1 b2 B off cap i Im c e h w) (hi : i < xs.length) {v : Value} {w2 : World} (hm : ImgMid w.drew Im xs[i] v w2) :
    ∃ ImN g, ImgJ w00 Im0 xs d1 d2 b1 b2 B off cap (i + 1) ImN (c.toList.take (off + i) ++ [v] ++ c.toList.drop (off + i + 1)).toArray e (h ++ g) (w2.setRow B (c.toList.take (off + i) ++ [v] ++ c.toList.drop (off + i + 1)).toArray) := by
  obtain ⟨ImN, g, r1, r2, r3, r4, r5, r6, r7⟩ := hm
  have hlt := J.lt
  have hlen : off + i < c.toList.length := by have := J.hc; have := J.hcap; simp; omega
  have hold : ∀ k, k < w.heap.size → w2.heap[k]? = w.heap[k]? := fun k hk => r7.block k hk (by simp)
  have hsz : w.heap.size ≤ w2.heap.size := r7.size
  have nod := J.nod
  have hb1B : b1 ≠ B := by intro hh; subst hh; simp at nod
  have hb2B : b2 ≠ B := by intro hh; subst hh; simp at nod
  have hBlt : B < w.heap.size := hlt B (by simp)
  have hBh : B ∉ keys h := by intro hh; simp [hh] at nod
  have hBw2 : w2.heap[B]? = some (.cells c e (0, 0)) := (hold B hBlt).trans J.hB
  have hImN : ∀ k, k < w.heap.size → ¬ Im k → ¬ ImN k := fun k hk hn hN => by
    rcases (r6 k hN).2 with h1 | h1
    · exact hn h1
    · have h1 : w.heap.size ≤ k := h1
      omega
  have hNB : ¬ ImN B := hImN B hBlt (J.fresh B (by simp)).1
  have gg : Grow w2 (w2.setRow B (c.toList.take (off + i) ++ [v] ++ c.toList.drop (off + i + 1)).toArray) ImN ImN := ⟨fun _ hh => hh, fun k hk => setRow_other _ _ _ _ (by rintro rfl; exact hNB hk)⟩
  have g0 : Grow w w2 Im ImN := ⟨r5.im, fun k hk => r5.heap k hk⟩
  have gall := g0.trans gg
  have hgk : ∀ k ∈ keys g, w.heap.size ≤ k := fun k hk => (r4 k hk).2
  have hcl : (c.toList.take (off + i) ++ [v] ++ c.toList.drop (off + i + 1)).length = c.toList.length := by
    simp only [List.length_append, List.length_take, List.length_drop, List.length_singleton]; omega
  refine ⟨ImN, g, ?_, ?_, ?_, ?_, J.hcap, J.hmax, ?_, ?_, ?_, ?_, ?_, ?_, ?_, ?_⟩
  · rw [setRow_other _ _ _ _ hb1B, hold b1 (hlt b1 (by simp))]; exact J.hb1
  · obtain ⟨z, hz, hz2⟩ := J.hb2
    exact ⟨z, hz, by rw [setRow_other _ _ _ _ hb2B, hold b2 (hlt b2 (by simp))]; exact hz2⟩
  · exact setRow_heap w2 B c _ e (0, 0) hBw2
  · simp only [List.size_toArray]; rw [hcl]; simpa using J.hc
  · have k1 : Keep ⟨w00, [], Im0, fun _ _ => .bool false⟩ w2 := ⟨r7.os.trans J.keep.os, r7.tape.trans J.keep.tape, r7.output.trans J.keep.output, Nat.le_trans J.keep.size hsz, fun b hb hn => (hold b (Nat.lt_of_lt_of_le hb J.keep.size)).trans (J.keep.block b hb hn)⟩
    exact k1.setRow (.inl (J.fresh B (by simp)).2)
  · exact J.grow.trans gall
  · intro k hk
    obtain ⟨q1, q2⟩ := r6 k hk
    refine ⟨by rw [setRow_size]; exact q1, ?_⟩
    rcases q2 with q2 | q2
    · exact (J.imr k q2).2
    · have q2 : w.heap.size ≤ k := q2
      exact .inr (Nat.le_trans J.keep.size q2)
  · rw [keys_append, ← List.append_assoc]
    refine List.nodup_append.2 ⟨nod, r3, fun x hx z hz hh => ?_⟩
    subst hh
    have := hlt x hx; have := hgk x hz; omega
  · intro k hk
    rw [keys_append, ← List.append_assoc] at hk
    rcases List.mem_append.1 hk with hk | hk
    · exact ⟨hImN k (hlt k hk) (J.fresh k hk).1, (J.fresh k hk).2⟩
    · exact ⟨(r4 k hk).1, Nat.le_trans J.keep.size (hgk k hk)⟩
  · intro p hp
    rcases List.mem_append.1 hp with hp | hp
    · have hpk : p.1 ∈ keys h := keys_mem.2 ⟨p, hp, rfl⟩
      rw [setRow_other _ _ _ _ (by rintro rfl; exact hBh hpk), hold p.1 (hlt p.1 (List.mem_append_right _ hpk))]
      exact J.heap p hp
    · have hpk : p.1 ∈ keys g := keys_mem.2 ⟨p, hp, rfl⟩
      rw [setRow_other _ _ _ _ (by intro hh; have := hgk p.1 hpk; omega)]
      exact r2 p hp
  · have hn1 : ∀ (x : den (.slc (.int .u8))) (cs : List Value) (h : Frag), Rep (w2.setRow B (c.toList.take (off + i) ++ [v] ++ c.toList.drop (off + i + 1)).toArray) ImN (.slc (.int .u8)) (.own .ro) x cs h → cs.length = 1 := fun _ _ _ r => r.len
    rw [List.take_succ_eq_append_getElem hi]
    have htl : (xs.take i).length * 1 = i := by rw [List.length_take]; omega
    have r1' := r1.grow gg
    refine RepL.app (n := 1) hn1 (J.own.mono fun _ _ _ r => r.grow gall) ⟨[v], c.toList.drop (off + i + 1), g, [], ?_, by simp, r1', rfl⟩ ?_
    · rw [htl, List.toList_toArray, List.drop_drop]
      rw [List.append_assoc, List.drop_append_of_le_length (by rw [List.length_take]; omega), List.drop_of_length_le (by rw [List.length_take]; omega)]
      rfl
    · rw [htl, List.toList_toArray]
      rw [List.append_assoc, List.drop_append_of_le_length (by rw [List.length_take]; omega), List.take_append_of_le_length (by rw [List.length_drop, List.length_take]; omega)]
      rw [List.drop_take, Nat.add_sub_cancel_left, List.take_take, Nat.min_self]
  · have hr := J.rest
    rw [List.drop_eq_getElem_cons hi] at hr
    obtain ⟨c1, c2, h1, h2, q1, q2, p1, p2⟩ := hr
    obtain ⟨rfl, rfl⟩ : h1 = [] ∧ h2 = [] := by simpa using q2.symm
    have l1 : c1.length = 1 := p1.len
    have e2 : (c.toList.take (off + i) ++ [v] ++ c.toList.drop (off + i + 1)).toArray.toList.drop (off + (i + 1)) = c2 := by
      rw [List.toList_toArray, show off + (i + 1) = (c.toList.take (off + i) ++ [v]).length by simp only [List.length_append, List.length_take, List.length_singleton]; omega, List.drop_left]
      have : (c.toList.drop (off + i)).drop 1 = c2 := by rw [q1, ← l1, List.drop_left]
      rw [← this, List.drop_drop]
    rw [e2]
    exact p2.mono fun _ _ _ r => r.grow gall
end
end Go.Proofs.Ytmfjebpdkgbggaa.V
