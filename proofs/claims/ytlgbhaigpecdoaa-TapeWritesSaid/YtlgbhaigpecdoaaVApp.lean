/- Rows that grow. -/
import Derived.Test.YtlgbhaigpecdoaaVStoreOp
import Derived.Deep.Upon
set_option linter.unusedVariables false
set_option linter.unusedSimpArgs false
namespace Go.Proofs.Ytlgbhaigpecdoaa.V
open Go

theorem flat_im {w w' : World} {Im Im' : Nat → Prop} : ∀ {t : Ty} {m m' : Md} {x : den t} {cs : List Value} {h : Frag}, flat t = true → Rep w Im t m x cs h → h = [] ∧ Rep w' Im' t m' x cs []
  | .int _, _, _, _, _, _, _, r => ⟨r.2, r.1, rfl⟩
  | .bool, _, _, _, _, _, _, r => ⟨r.2, r.1, rfl⟩
  | .str, _, _, _, _, _, _, r => ⟨r.2, r.1, rfl⟩
  | .raw, _, _, _, _, _, _, r => ⟨r.2.2, r.1, r.2.1, rfl⟩
  | .unit, _, _, _, _, _, _, r => ⟨r.2, r.1, rfl⟩
  | .pair a b, m, m', x, cs, h, hf, ⟨c1, c2, h1, h2, e1, e2, r1, r2⟩ => by
    simp only [flat, Bool.and_eq_true] at hf
    obtain ⟨f1, g1⟩ := flat_im (m' := m'.fst) hf.1 r1
    obtain ⟨f2, g2⟩ := flat_im (m' := m'.snd) hf.2 r2
    subst f1; subst f2
    exact ⟨e2, c1, c2, [], [], e1, rfl, g1, g2⟩
  | .slc t, _, _, _, _, _, hf, _ => by simp [flat] at hf
theorem flat_rows {w w' : World} {Im Im' : Nat → Prop} {t : Ty} {m m' : Md} (hf : flat t = true) : ∀ {xs : List (den t)} {cs : List Value} {h : Frag}, RepL (fun x cs h => Rep w Im t m x cs h) xs cs h → h = [] ∧ RepL (fun x cs h => Rep w' Im' t m' x cs h) xs cs []
  | [], _, _, r => ⟨r, rfl⟩
  | _ :: _, _, _, ⟨c1, c2, h1, h2, e1, e2, r1, r2⟩ => by
    obtain ⟨f1, g1⟩ := flat_im (m' := m') hf r1
    obtain ⟨f2, g2⟩ := flat_rows (m' := m') hf r2
    subst f1; subst f2
    exact ⟨e2, c1, c2, [], [], e1, rfl, g1, g2⟩
section
variable {P : Program} {G : Gl} {I0 : Nat → Prop} {st st1 : St} {a : Act} {vs : Array Value} {w w' : World} {Im : Nat → Prop} {R : Real} {hand hand' : Frag} {o : Oper} {T : Type} {K : St → Option T} {r0 : T} {Q : Exit → Act → World → Prop} {E : Env}
/-- A block in hand turns. -/
theorem Inv.setHand {h' : Frag} {k0 : Nat} {c0 : Array Value} {e0 : TypeId} (h : Inv G st vs w Im R ((k0, (c0, e0)) :: h')) (cN : Array Value) : Inv G st vs (w.setRow k0 cN) Im R ((k0, (cN, e0)) :: h') := by
  have hin : (k0, (c0, e0)) ∈ own R ((k0, (c0, e0)) :: h') 0 := List.mem_cons_self ..
  have kin : k0 ∈ keys (own R ((k0, (c0, e0)) :: h') 0) := keys_mem.2 ⟨_, hin, rfl⟩
  have hh0 : w.heap[k0]? = some (.cells c0 e0 (0, 0)) := h.sep.heap 0 _ hin
  have other : ∀ k, k ≠ k0 → (w.setRow k0 cN).heap[k]? = w.heap[k]? := fun k hk => setRow_other w k0 k cN hk
  have g : Grow w (w.setRow k0 cN) Im Im := ⟨fun _ h => h, fun k hk => other k (fun e => h.sep.im _ _ kin (e ▸ hk))⟩
  have hsv := h.sv g (R' := R) (p := fun _ _ _ => false) (fun j => .inl ⟨rfl, fun b2 rb2 hb2 k hk => other k (fun e => by
    subst e
    refine h.sep.sep 0 (j + 1) (by simp) k kin ?_
    rw [own_at hb2]; obtain ⟨p, hp, e⟩ := keys_mem.1 hk; exact keys_mem.2 ⟨p, fragOf_sub p hp, e⟩)⟩)
  have hk : ∀ i, keys (own R ((k0, (cN, e0)) :: h') i) = keys (own R ((k0, (c0, e0)) :: h') i) := fun i => by cases i <;> rfl
  refine ⟨h.box, fun j b r hb => (h.rep j b r hb).grow g, ⟨fun i => by rw [hk]; exact h.sep.nod i, fun i j hij k => by rw [hk, hk]; exact h.sep.sep i j hij k, fun i p hp => ?_, fun i k => by rw [hk]; exact h.sep.im i k, fun i k => by rw [hk]; exact h.sep.fresh i k,
    fun k hk => by rw [Keep.setRow.setRow_size']; exact h.sep.imlt k hk, h.sep.imok⟩, fun n => ?_, h.len, h.keep.setRow (h.sep.fresh 0 k0 kin)⟩
  · cases i with
    | zero =>
      rcases List.mem_cons.1 hp with e | hp
      · subst e; exact setRow_heap w k0 c0 cN e0 (0, 0) hh0
      · have hne : p.1 ≠ k0 := fun e => by
          have := h.sep.nod 0
          rw [own_zero, keys_cons] at this
          exact (List.nodup_cons.1 this).1 (keys_mem.2 ⟨p, hp, e⟩)
        rw [other _ hne]; exact h.sep.heap 0 p (List.mem_cons_of_mem _ hp)
    | succ i =>
      have hne : p.1 ≠ k0 := fun e => h.sep.sep (i + 1) 0 (by simp) p.1 (keys_mem.2 ⟨p, hp, rfl⟩) (e ▸ kin)
      rw [other _ hne]; exact h.sep.heap (i + 1) p hp
  · have := hsv.2 (h.slots n); rwa [forget_none] at this
/-- What is appended, as cells. -/
theorem src_of {tx e' : TypeId} (hk : P.underlying tx = some (.slice e')) {t : Ty} {m m1 : Md} {ys : List (den t)} {v : Value} {h : Frag} (r : Rep w Im (.slc t) m ys [v] h) (hh : ∀ p ∈ h, w.heap[p.1]? = some (.cells p.2.1 p.2.2 (0, 0)))
    (hm : (m = .ro ∧ m1 = .ro) ∨ m = .own m1) : ∃ news h2, Src P (sz t) tx v ys.length news w ∧ RepL (fun x cs h => Rep w Im t m1 x cs h) ys news h2 ∧ List.Sublist h2 h := by
  have go : ∀ {b o : Nat} {c : Array Value} {e : TypeId} {fz : Nat × Nat} {cap : Nat} {h2 : Frag}, w.heap[b]? = some (.cells c e fz) → RepL (fun x cs h => Rep w Im t m1 x cs h) ys (c.toList.drop o) h2 →
      ∃ news, Src P (sz t) tx (.slice (some ⟨b, o, none⟩) ys.length cap) ys.length news w ∧ RepL (fun x cs h => Rep w Im t m1 x cs h) ys news h2 := by
    intro b o c e fz cap h2 hb hr
    have hlen := hr.len (n := sz t) (fun _ _ _ r => r.len)
    refine ⟨(c.toList.drop o).take (ys.length * sz t), Src.ofSlice w hk _ _ _ _ (by rw [List.length_take]; omega) (fun j u hu => ?_) (hr.all (fun _ _ _ r => r.one) (fun _ _ _ r => r.len)), hr.cut (fun _ _ _ r => r.len) (by rw [List.take_take, Nat.min_self])⟩
    have hj : j < ys.length * sz t := by
      have := (List.getElem?_eq_some_iff.1 hu).1
      rw [List.length_take] at this; omega
    rw [List.getElem?_take_of_lt hj, List.getElem?_drop] at hu
    rw [add_at]
    simp only [World.cell?, hb]
    simpa using hu
  have nil : ∀ {A : Option Addr} {cap : Nat}, Src P (sz t) tx (.slice A 0 cap) 0 [] w := by
    intro A cap
    cases A with
    | none => exact Src.ofNil w hk cap
    | some a => exact Src.ofSlice w hk a 0 cap [] (by simp) (fun j u hu => by simp at hu) (fun _ h => by cases h)
  rcases hm with ⟨rfl, rfl⟩ | rfl
  · obtain ⟨h0, A, cap, e, hc, hr⟩ := r
    simp at e; subst e
    by_cases hy : ys = []
    · subst hy; exact ⟨[], [], nil, rfl, List.nil_sublist _⟩
    · obtain ⟨b, o, c, e, fz, rfl, _, hb, hr⟩ := hr hy
      obtain ⟨news, s1, s2⟩ := go (cap := cap) hb hr
      exact ⟨news, [], s1, s2, List.nil_sublist _⟩
  · rcases r with ⟨e0, ⟨A, e⟩, e2⟩ | ⟨b, o, c, e, cap, h', e1, e2, e3, e4, e5, hr⟩
    · subst e0; simp at e; subst e; exact ⟨[], [], nil, rfl, List.nil_sublist _⟩
    · simp at e1; subst e1; subst e2
      obtain ⟨news, s1, s2⟩ := go (cap := cap) (hh _ (List.mem_cons_self ..)) hr
      exact ⟨news, h', s1, s2, List.sublist_cons_self ..⟩
theorem run_append_room_row (t tx ty e : TypeId) (i : TypeInfo) (ht : P.underlying t = some (.slice e)) (hi : P.info? e = some i) (b off sLen sCap : Nat) (x : Value) (n : Nat) (news : List Value) (hs : Src P i.size tx x n news w)
    (hroom : sLen + n ≤ sCap) {cur : Array Value} {e' : TypeId} (hh : w.heap[b]? = some (.cells cur e' (0, 0))) (hb : off + sLen * i.size + news.length ≤ cur.size) :
    (Builtin.append_ #[t, tx] ty #[.slice (some ⟨b, off, none⟩) sLen sCap, x]).run P w = .ok (.slice (some ⟨b, off, none⟩) (sLen + n) sCap)
      (w.setRow b (cur.toList.take (off + sLen * i.size) ++ news ++ cur.toList.drop (off + sLen * i.size + news.length)).toArray) := by
  have hst := run_storeCells_at P b (off + sLen * i.size) e' news 0 cur w hh (by simpa using hb) hs.one
  simp only [Nat.add_zero] at hst
  rcases hs.kind with ⟨e', hk⟩ | hk <;> simp [Builtin.append_, run_underlying ht, run_underlying hk, sizeOf, typeInfo, hi, hs.len, hroom, hs.cells, Addr.add_lit, hst]
/-- The append of elements that are owned as the row's own are. -/
theorem append_own {t tx ty e e' : TypeId} {te : TE} {i : TypeInfo} (hk : P.underlying t = some (.slice e)) (hi : InfoOk P e te i) (hz : te.z = true) {mm : Md} {xs ys : List (den te.ty)} {v1 v2 : Value} {h1 h2 : Frag} {news : List Value}
    (h : Inv G st vs w Im R (h1 ++ h2)) (r1 : Rep w Im (.slc te.ty) (.own mm) xs [v1] h1) (src : Src P (sz te.ty) tx v2 ys.length news w) (r2 : RepL (fun x cs h => Rep w Im te.ty mm x cs h) ys news h2)
    (hmost : (xs.length + ys.length) * te.bytes ≤ most) (hby : 0 < te.bytes) :
    ∃ v' w' h', (Builtin.append_ #[t, tx] ty #[v1, v2]).run P w = .ok v' w' ∧ Inv G st vs w' Im R h' ∧ Rep w' Im (.slc te.ty) (.own mm) (xs ++ ys) [v'] h' ∧ Grow w w' Im Im := by
  obtain ⟨z, hz1, hz2⟩ := hi.zero hz
  have hnl := src.newsLen
  have hlen63 : xs.length + ys.length ≤ 140737488355328 := by
    have : (xs.length + ys.length) * 1 ≤ (xs.length + ys.length) * te.bytes := Nat.mul_le_mul_left _ hby
    have e1 : most = 140737488355328 := rfl
    omega
  have grow : ∀ {A : Option Addr} {cap : Nat} {olds : List Value} {g1 : Frag}, v1 = .slice A xs.length cap → cap < xs.length + ys.length →
      (∀ w : World, w.heap = w.heap → True) → (Builtin.firstCells i.size xs.length (.slice A xs.length cap)).run P w.drew = .ok olds.toArray w.drew → olds.length = xs.length * sz te.ty →
      RepL (fun x cs h => Rep w Im te.ty mm x cs h) xs olds g1 → List.Sublist g1 h1 →
      ∃ v' w' h', (Builtin.append_ #[t, tx] ty #[v1, v2]).run P w = .ok v' w' ∧ Inv G st vs w' Im R h' ∧ Rep w' Im (.slc te.ty) (.own mm) (xs ++ ys) [v'] h' ∧ Grow w w' Im Im := by
    intro A cap olds g1 e1 hg _ hold hol hr1 hsub
    subst e1
    rw [← hi.size] at src
    have hrun := run_append_grow_src (P := P) w t tx ty e i z hk hi.info hz1 A xs.length cap olds hold v2 ys.length news src hg (by omega) (growslice_fits hg (by rw [hi.bytes]; exact hmost))
    have hge := grownCap_ge w (xs.length + ys.length) cap e
    have hcm := grownCap_le_maxLen w (xs.length + ys.length) cap e (by simp only [maxLen]; omega)
    have h3 := (h.less (hand := []) (h2 := g1 ++ h2) (hsub.append (List.Sublist.refl _))).drew.alloc ((olds ++ news).toArray ++ Builtin.zeroCells z.cells (grownCap w (xs.length + ys.length) cap e - (xs.length + ys.length))) e
    have g : Grow w (w.drew.alloc (.cells ((olds ++ news).toArray ++ Builtin.zeroCells z.cells (grownCap w (xs.length + ys.length) cap e - (xs.length + ys.length))) e)) Im Im :=
      ⟨fun _ h => h, fun b hb => Go.heap_alloc_old w.drew _ (h.sep.imlt b hb)⟩
    refine ⟨_, _, (w.heap.size, (_, e)) :: (g1 ++ h2), hrun, h3.perm (by
      rw [List.nil_append]
      exact List.perm_append_singleton _ (g1 ++ h2)), .inr ⟨w.heap.size, 0, _, e, _, g1 ++ h2, by simp, rfl, by simpa using hge, hcm, ?_, ?_⟩, g⟩
    · have hzs : z.cells.size = sz te.ty := by rw [← zcells_len, ← hz2]; simp
      simp only [Array.size_append, List.size_toArray, size_zeroCells, hzs, List.length_append, hol, hnl, ← Nat.add_mul]
      rw [Nat.zero_add]
      exact Nat.mul_le_mul_right _ (by omega)
    · have k1 : RepL (fun x cs h => Rep (w.drew.alloc (.cells ((olds ++ news).toArray ++ Builtin.zeroCells z.cells (grownCap w (xs.length + ys.length) cap e - (xs.length + ys.length))) e)) Im te.ty mm x cs h) xs olds g1 := hr1.mono (fun _ _ _ r => r.grow g)
      have k2 := r2.mono (fun _ _ _ r => Rep.grow g r)
      simp only [Array.toList_append, List.drop_zero]
      refine RepL.app (n := sz te.ty) (cs := olds) (fun _ _ _ r => r.len) k1 ?_ ?_
      · rw [← hol]
        have : ((olds ++ news) ++ (Builtin.zeroCells z.cells (grownCap w (xs.length + ys.length) cap e - (xs.length + ys.length))).toList).drop olds.length = news ++ (Builtin.zeroCells z.cells (grownCap w (xs.length + ys.length) cap e - (xs.length + ys.length))).toList := by simp
        rw [this]
        exact RepL.cut (n := sz te.ty) (fun _ _ _ r => r.len) k2 (by rw [← hnl]; simp)
      · rw [← hol]; simp
  rcases r1 with ⟨e0, ⟨A, e1⟩, e2⟩ | ⟨b, o, c, eb, cap, g1, e1, e2, e3, e4, e5, e6⟩
  · simp at e1
    by_cases hy : ys = []
    · subst e0; subst hy; subst e1; subst e2
      have r2 : h2 = [] := r2
      subst r2
      simp at hnl; subst hnl
      rw [← hi.size] at src
      exact ⟨_, w, [], run_append_nothing w t tx ty e i hk hi.info A 0 0 (Nat.le_refl _) v2 src, h, .inl ⟨rfl, ⟨A, rfl⟩, rfl⟩, Grow.refl _ _⟩
    · have hpos : 0 < ys.length := by cases ys with
        | nil => exact absurd rfl hy
        | cons _ _ => simp
      refine grow (A := A) (cap := 0) (olds := []) (g1 := []) (by rw [e0, e1]; rfl) (by omega) (fun _ _ => trivial) ?_ (by rw [e0]; simp) (by rw [e0]; rfl) (List.nil_sublist _)
      rw [e0]
      cases A with
      | none => exact run_firstCells_none w.drew _ 0 0 0
      | some a => exact run_firstCells_some w.drew _ 0 a 0 0 [] (by simp) (fun j u hu => by simp at hu)
  · simp at e1
    subst e2
    have hh0 : w.heap[b]? = some (.cells c eb (0, 0)) := h.sep.heap 0 (b, (c, eb)) (by rw [own_zero]; simp)
    have hl6 := e6.len (n := sz te.ty) (fun _ _ _ r => r.len)
    by_cases hroom : xs.length + ys.length ≤ cap
    · have hle : o + xs.length * i.size + news.length ≤ c.size := by
        rw [hi.size, hnl]
        have := Nat.mul_le_mul_right (sz te.ty) hroom
        rw [Nat.add_mul] at this; omega
      rw [← hi.size] at src
      have hrun := run_append_room_row (P := P) (w := w) t tx ty e i hk hi.info b o xs.length cap v2 ys.length news src hroom hh0 hle
      rw [hi.size] at hrun hle
      have h4 := h.setHand (c.toList.take (o + xs.length * sz te.ty) ++ news ++ c.toList.drop (o + xs.length * sz te.ty + news.length)).toArray
      have g : Grow w (w.setRow b (c.toList.take (o + xs.length * sz te.ty) ++ news ++ c.toList.drop (o + xs.length * sz te.ty + news.length)).toArray) Im Im :=
        ⟨fun _ h => h, fun k hk => setRow_other _ _ _ _ (by rintro rfl; exact h.sep.im 0 _ (by rw [own_zero]; simp [keys]) hk)⟩
      rw [e1]
      refine ⟨_, _, _, hrun, h4, .inr ⟨b, o, _, eb, cap, g1 ++ h2, by simp, rfl, by simpa using hroom, e4, ?_, ?_⟩, g⟩
      · simp; omega
      · have hol : (c.toList.take (o + xs.length * sz te.ty)).length = o + xs.length * sz te.ty := by simp; omega
        have hd : ((c.toList.take (o + xs.length * sz te.ty) ++ news ++ c.toList.drop (o + xs.length * sz te.ty + news.length)).toArray.toList).drop o =
            (c.toList.drop o).take (xs.length * sz te.ty) ++ (news ++ c.toList.drop (o + xs.length * sz te.ty + news.length)) := by
          simp only [List.append_assoc]
          rw [List.drop_append_of_le_length (by rw [hol]; omega), List.drop_take, Nat.add_sub_cancel_left]
        rw [hd]
        have hx : ((c.toList.drop o).take (xs.length * sz te.ty)).length = xs.length * sz te.ty := by rw [List.length_take]; omega
        refine RepL.app (n := sz te.ty) (fun _ _ _ r => r.len) (e6.mono fun _ _ _ r => Rep.grow g r) ?_ ?_
        · have e8 : (List.take (xs.length * sz te.ty) (List.drop o c.toList) ++ (news ++ List.drop (o + xs.length * sz te.ty + news.length) c.toList)).drop (xs.length * sz te.ty) = news ++ List.drop (o + xs.length * sz te.ty + news.length) c.toList := by
            rw [List.drop_append_of_le_length (by omega), List.drop_of_length_le (by omega)]; simp
          rw [e8]
          exact RepL.cut (n := sz te.ty) (fun _ _ _ r => r.len) (r2.mono fun _ _ _ r => Rep.grow g r) (by rw [← hnl]; simp)
        · rw [List.take_append_of_le_length (by omega), List.take_take, Nat.min_self]
    · refine grow (A := some ⟨b, o, none⟩) (cap := cap) (olds := (c.toList.drop o).take (xs.length * sz te.ty)) (g1 := g1) e1 (by omega) (fun _ _ => trivial) ?_ ?_ ?_ (List.sublist_cons_self ..)
      · refine run_firstCells_some w.drew _ _ _ _ _ _ (by rw [List.length_take, hi.size]; omega) (fun j u hu => ?_)
        have hj : j < xs.length * sz te.ty := by
          have := (List.getElem?_eq_some_iff.1 hu).1
          rw [List.length_take] at this; omega
        rw [List.getElem?_take_of_lt hj, List.getElem?_drop] at hu
        rw [add_at]
        have : w.drew.heap[b]? = some (.cells c eb (0, 0)) := hh0
        simp only [World.cell?, this]
        simpa using hu
      · rw [List.length_take]; omega
      · exact e6.cut (fun _ _ _ r => r.len) (by rw [List.take_take, Nat.min_self])
end
end Go.Proofs.Ytlgbhaigpecdoaa.V
