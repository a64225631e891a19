/- Structs and rows that are written out. -/
import Derived.Test.YtlgbhaigpecdoaaVApp
import Derived.Great.BuildSlice
set_option linter.unusedVariables false
set_option linter.unusedSimpArgs false
namespace Go.Proofs.Ytlgbhaigpecdoaa.V
open Go

theorem fill_parts {places : List (Nat × Nat)} : ∀ (parts : List (Nat × Value)) (fcs : List (List Value)), (∀ j c, fcs[j]? = some c → places[j]? = some ((fcs.take j).flatten.length, c.length)) →
    (∀ p ∈ parts, ∃ c, fcs[p.1]? = some c ∧ p.2.cells.size = c.length) →
    Instr.fill (places.toArray[·]?) fcs.flatten.toArray parts = some (parts.foldl (fun l p => l.set p.1 p.2.cells.toList) fcs).flatten.toArray
  | [], fcs, _, _ => rfl
  | (i, v) :: parts, fcs, hp, hv => by
    obtain ⟨c, h1, h2⟩ := hv (i, v) (List.mem_cons_self ..)
    have h1 : fcs[i]? = some c := h1
    have h2 : v.cells.size = c.length := h2
    obtain ⟨hlt, hc⟩ := List.getElem?_eq_some_iff.1 h1
    have hpi := hp i c h1
    have e0 : fcs = fcs.take i ++ c :: fcs.drop (i + 1) := by
      rw [← hc]; exact (by rw [← List.drop_eq_getElem_cons hlt, List.take_append_drop])
    have e1 : fcs.set i v.cells.toList = fcs.take i ++ v.cells.toList :: fcs.drop (i + 1) := List.set_eq_take_append_cons_drop.trans (by rw [if_pos hlt])
    have f0 : fcs.flatten = (fcs.take i).flatten ++ (c ++ (fcs.drop (i + 1)).flatten) := by
      conv => lhs; rw [e0]
      simp
    have f1 : (fcs.set i v.cells.toList).flatten = (fcs.take i).flatten ++ (v.cells.toList ++ (fcs.drop (i + 1)).flatten) := by
      rw [e1]; simp
    have hle : ¬ ((fcs.take i).flatten.length + v.cells.size > fcs.flatten.toArray.size) := by
      rw [List.size_toArray, f0]; simp; omega
    have hpi' : places.toArray[i]? = some ((fcs.take i).flatten.length, c.length) := by rw [List.getElem?_toArray]; exact hpi
    have key : Array.foldl (fun cs (x : Value × Nat) => cs.setIfInBounds ((fcs.take i).flatten.length + x.2) x.1) fcs.flatten.toArray v.cells.zipIdx = (fcs.set i v.cells.toList).flatten.toArray := by
      rw [← Array.foldl_toList, Array.toList_zipIdx]
      obtain ⟨g1, g2⟩ := Great.foldl_set (fcs.take i).flatten.length v.cells.toList 0 fcs.flatten.toArray
      apply Array.ext_getElem?
      intro k
      rw [g2 k, f1]
      simp only [Nat.add_zero, List.size_toArray, Array.length_toList, List.getElem?_toArray, h2]
      have hl : v.cells.toList.length = c.length := by rw [Array.length_toList, h2]
      by_cases k1 : k < (fcs.take i).flatten.length
      · rw [if_neg (by omega), f0, List.getElem?_append_left k1, List.getElem?_append_left k1]
      · rw [List.getElem?_append_right (by omega)]
        by_cases k2 : k < (fcs.take i).flatten.length + c.length
        · rw [if_pos ⟨by omega, k2, by rw [f0, List.length_append, List.length_append]; omega⟩, List.getElem?_append_left (by omega)]
        · rw [if_neg (by omega), f0, List.getElem?_append_right (by omega), List.getElem?_append_right (by omega), List.getElem?_append_right (by omega), hl]
    refine Eq.trans ?_ (fill_parts (places := places) parts (fcs.set i v.cells.toList) (fun j c' hj => ?_) (fun p hpp => ?_))
    · rw [← key]
      simp only [Instr.fill, hpi', h2]
      rw [if_neg (by rw [h2] at hle; simp at hle ⊢; exact hle)]
    · have hl : v.cells.toList.length = c.length := by rw [Array.length_toList, h2]
      by_cases hij : i = j
      · subst hij
        rw [List.getElem?_set_self hlt] at hj
        cases hj
        rw [hpi, List.take_set_of_le (Nat.le_refl _), hl]
      · rw [List.getElem?_set_ne hij] at hj
        rw [hp j c' hj]
        congr 2
        by_cases hji : i < j
        · have e2 : ((fcs.set i v.cells.toList).take j).flatten.length = (fcs.take j).flatten.length := by
            rw [List.take_set]
            have e3 : (fcs.take j)[i]? = some c := by rw [List.getElem?_take_of_lt hji]; exact h1
            obtain ⟨q1, q2⟩ := List.getElem?_eq_some_iff.1 e3
            have e4 : fcs.take j = (fcs.take j).take i ++ c :: (fcs.take j).drop (i + 1) := by
              rw [← q2]; exact (by rw [← List.drop_eq_getElem_cons q1, List.take_append_drop])
            rw [List.set_eq_take_append_cons_drop, if_pos q1]
            conv => rhs; rw [e4]
            simp [hl]
          exact e2.symm
        · rw [List.take_set_of_le (by omega)]
    · obtain ⟨c', q1, q2⟩ := hv p (List.mem_cons_of_mem _ hpp)
      have hl : v.cells.toList.length = c.length := by rw [Array.length_toList, h2]
      by_cases hij : i = p.1
      · subst hij
        rw [h1] at q1; cases q1
        exact ⟨v.cells.toList, List.getElem?_set_self hlt, by rw [hl]; exact q2⟩
      · exact ⟨c', by rw [List.getElem?_set_ne hij]; exact q1, q2⟩
section
variable {P : Program} {G : Gl} {I0 : Nat → Prop} {st st1 : St} {a : Act} {vs : Array Value} {w w' : World} {Im : Nat → Prop} {R : Real} {hand hand' : Frag} {o : Oper} {T : Type} {K : St → Option T} {r0 : T} {Q : Exit → Act → World → Prop} {E : Env}
theorem zsv_ok : ∀ t : Ty, SVX w Im R (zsv t) false (zcells t)
  | .pair a b => ⟨_, _, rfl, zsv_ok a, zsv_ok b⟩
  | .slc t => by simp [zsv, SVX, zcells, Value.cells]
  | .int k => dflt_rep (.int k) .ro
  | .bool => dflt_rep .bool .ro
  | .str => dflt_rep .str .ro
  | .raw => dflt_rep .raw .ro
  | .unit => dflt_rep .unit .ro
/-- Struct fields and their cells, side by side. -/
def SVL (w : World) (Im : Nat → Prop) (R : Real) : List SV → List (List Value) → List Ty → Prop
  | [], [], [] => True
  | s :: l, c :: fcs, t :: tys => SVX w Im R s false c ∧ c.length = sz t ∧ SVL w Im R l fcs tys
  | _, _, _ => False
theorem SVL.zero : ∀ tys : List Ty, SVL w Im R (tys.map zsv) (tys.map zcells) tys
  | [] => trivial
  | t :: tys => ⟨zsv_ok t, zcells_len t, SVL.zero tys⟩
theorem SVL.agg : ∀ {l : List SV} {fcs : List (List Value)} {tys : List Ty}, SVL w Im R l fcs tys → SVX w Im R (aggOf l) false fcs.flatten
  | [], [], [], _ => ⟨rfl, rfl⟩
  | s :: l, c :: fcs, t :: tys, ⟨h1, _, h2⟩ => ⟨c, fcs.flatten, by simp, h1, h2.agg⟩
theorem SVL.set : ∀ {l : List SV} {fcs : List (List Value)} {tys : List Ty} {i : Nat} {t : Ty} {s : SV} {c : List Value}, SVL w Im R l fcs tys → tys[i]? = some t → SVX w Im R s false c → c.length = sz t → SVL w Im R (l.set i s) (fcs.set i c) tys
  | [], [], [], _, _, _, _, _, ht, _, _ => by simp at ht
  | s :: l, c :: fcs, t :: tys, 0, t', s', c', ⟨h1, h2, h3⟩, ht, hs, hc => by simp at ht; subst ht; exact ⟨hs, hc, h3⟩
  | s :: l, c :: fcs, t :: tys, i + 1, t', s', c', ⟨h1, h2, h3⟩, ht, hs, hc => ⟨h1, h2, h3.set (by simpa using ht) hs hc⟩
theorem SVL.get : ∀ {l : List SV} {fcs : List (List Value)} {tys : List Ty} {i : Nat} {t : Ty}, SVL w Im R l fcs tys → tys[i]? = some t → ∃ c, fcs[i]? = some c ∧ c.length = sz t
  | [], [], [], _, _, _, ht => by simp at ht
  | s :: l, c :: fcs, t :: tys, 0, t', ⟨h1, h2, h3⟩, ht => by simp at ht; subst ht; exact ⟨c, rfl, h2⟩
  | s :: l, c :: fcs, t :: tys, i + 1, t', ⟨h1, h2, h3⟩, ht => h3.get (by simpa using ht)
theorem known_cells {bs : List (Nat × Bx)} {s : SV} {v : Value} (hk : known bs s = true) (hs : SVV w Im R s v) : ∃ cs, (if isAgg s = true then v = .agg cs.toArray else cs = [v]) ∧ SVX w Im R s false cs := by
  refine hs.cells ?_ ?_ ?_
  · rintro rfl; simp [known] at hk
  · rintro rfl; simp [known] at hk
  · rintro x y rfl; simp [known] at hk
theorem Inv.cell1 (h : Inv G st vs w Im R hand) {s : SV} {v : Value} (hk : known st.boxes s = true) (hs : SVX w Im R s false [v]) (hn : isAgg s = false) : v.oneCell' = true := by
  cases s with
  | undef => simp [known] at hk
  | tnil => simp [known] at hk
  | tcons a b => simp [known] at hk
  | con t x => exact Rep.one hs v (List.mem_singleton_self _)
  | raw u =>
    have hs : [v] = u.cells.toList := hs
    cases u <;> simp [isAgg] at hn <;> simp [known] at hk <;> simp [Value.cells] at hs <;> subst hs <;> rfl
  | emp => obtain ⟨A, e⟩ := hs; simp at e; subst e; rfl
  | agg a b => simp [isAgg] at hn
  | ref r q =>
    obtain ⟨b, hb⟩ := Option.isSome_iff_exists.1 hk
    obtain ⟨u, e, hr⟩ := hs
    simp at e; subst e
    obtain ⟨h1, rb, _, n2, _⟩ := h.ref hb hr
    exact n2.one v (List.mem_singleton_self _)
  | sub r q lo n =>
    obtain ⟨b, hb⟩ := Option.isSome_iff_exists.1 hk
    obtain ⟨u, e, u2, hr, hh⟩ := hs
    simp at e; subst e
    obtain ⟨rb, hrr⟩ := h.real hb
    obtain ⟨t, A, len, cap, A', cap', _, _, e2, _⟩ := hh b rb hrr
    subst e2; rfl
  | ptr r q =>
    obtain ⟨b, hb⟩ := Option.isSome_iff_exists.1 hk
    obtain ⟨u, e, hr⟩ := hs
    simp at e; subst e
    obtain ⟨rb, hrr⟩ := h.real hb
    obtain ⟨_, cs, b', o, _, e2⟩ := hr b rb hrr
    subst e2; rfl
  | pro t x => obtain ⟨b, o, c, e, fz, e1, _⟩ := hs; simp at e1; subst e1; rfl
  | fn f c => obtain ⟨caps, e, _⟩ := hs; simp at e; subst e; rfl
/-- The cells of a value that is known. -/
theorem Inv.cells1 (h : Inv G st vs w Im R hand) {s : SV} {v : Value} (hk : known st.boxes s = true) (hs : SVV w Im R s v) : ∃ cs, v.cells.toList = cs ∧ (if isAgg s = true then v = .agg cs.toArray else cs = [v]) ∧ SVX w Im R s false cs := by
  obtain ⟨cs, e, hx⟩ := known_cells hk hs
  refine ⟨cs, ?_, e, hx⟩
  by_cases ha : isAgg s = true
  · rw [if_pos ha] at e; subst e; simp [Value.cells]
  · rw [if_neg ha] at e
    subst e
    have := h.cell1 hk hx (by simpa using ha)
    cases v <;> simp_all [Value.cells, Value.oneCell']
theorem buildL_some {a : Act} (h : Inv G st a.tmps w Im R hand) : ∀ {parts : List (Nat × Operand)} {tys : List Ty} {l l' : List SV} {fcs : List (List Value)}, buildL st parts tys l = some l' → SVL w Im R l fcs tys →
    SVL w Im R l' ((parts.map fun p => (p.1, a.eval p.2)).foldl (fun l p => l.set p.1 p.2.cells.toList) fcs) tys ∧ ∀ p ∈ parts.map (fun p => (p.1, a.eval p.2)), ∃ t, tys[p.1]? = some t ∧ p.2.cells.size = sz t
  | [], tys, l, l', fcs, hb, hl => by
    simp only [buildL, Option.some.injEq] at hb; subst hb
    exact ⟨hl, fun p hp => by simp at hp⟩
  | (i, x) :: parts, tys, l, l', fcs, hb, hl => by
    simp only [buildL] at hb
    split at hb
    · rename_i t ht
      split at hb
      · rename_i hc
        simp only [Bool.and_eq_true] at hc
        obtain ⟨cs, e1, e2, hx⟩ := h.cells1 hc.1 (h.ev x)
        have hlen := fits_len hc.2 hx
        have := buildL_some h hb (hl.set ht hx hlen)
        refine ⟨?_, fun p hp => ?_⟩
        · simp only [List.map_cons, List.foldl_cons]
          rw [e1]; exact this.1
        · rcases List.mem_cons.1 hp with e | hp
          · subst e; exact ⟨t, ht, by rw [← hlen, ← e1]; simp⟩
          · exact this.2 p hp
      · cases hb
    · cases hb
theorem places_some : ∀ {fs : List Field}, (∀ f ∈ fs, ∃ i, P.info? f.type = some i) → ∃ places : List (Nat × Nat), fs.mapM (fun f => (P.info? f.type).map fun i => (f.offset, i.size)) = some places ∧ ∀ (j : Nat) (f : Field) (i : TypeInfo), fs[j]? = some f → P.info? f.type = some i → places[j]? = some (f.offset, i.size)
  | [], _ => ⟨[], rfl, fun j f i h => by simp at h⟩
  | f :: fs, h => by
    obtain ⟨i, hi⟩ := h f (List.mem_cons_self ..)
    obtain ⟨places, h1, h2⟩ := places_some (fs := fs) (fun g hg => h g (List.mem_cons_of_mem _ hg))
    refine ⟨(f.offset, i.size) :: places, by simp [List.mapM_cons, hi, h1], fun j g k hj hk => ?_⟩
    cases j with
    | zero => simp at hj; subst hj; rw [hi] at hk; cases hk; rfl
    | succ j => simpa using h2 j g k (by simpa using hj) hk
theorem zcells_struct : ∀ {t : Ty}, structTy t = true → zcells t = ((fieldTys t).map zcells).flatten
  | .unit, _ => rfl
  | .pair a b, h => by simp [zcells, fieldTys, zcells_struct (t := b) h]
theorem foff_len : ∀ {t : Ty} {j : Nat}, j < (fieldTys t).length → foff t j = (((fieldTys t).map zcells).take j).flatten.length
  | .pair a b, 0, _ => by simp [foff]
  | .pair a b, j + 1, h => by
    simp only [foff, fieldTys, List.map_cons, List.take_succ_cons, List.flatten_cons, List.length_append, zcells_len]
    rw [foff_len (t := b) (j := j) (by simpa [fieldTys] using h)]
theorem step_build (hE : EnvOk P E) (hd : a.defers = []) (hI : ∀ b, I0 b → Im b) (h : Inv G st a.tmps w Im R []) {tid : TypeId} {parts : Array (Nat × Operand)} (ho : o.op = .build tid parts) {te : TE} (ht : E.get tid = some te) {fl : List TypeId} (hdd : te.d = .struct fl) (hz : te.z = true)
    (hk : (buildL st parts.toList (fieldTys te.ty) ((fieldTys te.ty).map zsv)).bind (fun l => K (st.set o.dst (aggOf l))) = some r0) : o.wp P a w (Post G I0 K r0) Q := by
  obtain ⟨l, hl, hk⟩ := Option.bind_eq_some_iff.1 hk
  obtain ⟨⟨it, hi⟩, hu⟩ := hE tid te ht
  obtain ⟨z, hz1, hz2⟩ := hi.zero hz
  unfold UndOk at hu
  rw [hdd] at hu
  obtain ⟨fields, u1, u2, u3, u4⟩ := hu
  obtain ⟨g1, g2⟩ := buildL_some h hl (SVL.zero (w := w) (Im := Im) (R := R) (fieldTys te.ty))
  have finfo : ∀ j f, fields[j]? = some f → ∃ i t, P.info? f.type = some i ∧ i.size = sz t ∧ (fieldTys te.ty)[j]? = some t ∧ f.offset = foff te.ty j := by
    intro j f hj
    obtain ⟨e1, fe, e2, e3, e4⟩ := u4 j f hj
    obtain ⟨⟨i, hi⟩, _⟩ := hE _ fe e2
    exact ⟨i, fe.ty, hi.info, hi.size, e3, e1⟩
  obtain ⟨places, p1, p2⟩ := places_some (P := P) (fs := fields.toList) (fun f hf => by
    obtain ⟨j, hj⟩ := List.getElem?_of_mem hf
    obtain ⟨i, t, e1, _⟩ := finfo j f (by simpa using hj)
    exact ⟨i, e1⟩)
  have hfill := fill_parts (places := places) ((parts.map fun (p : Nat × Operand) => (p.1, a.eval p.2)).toList) ((fieldTys te.ty).map zcells) (fun j c hc => by
      rw [List.getElem?_map] at hc
      obtain ⟨t, ht, rfl⟩ := Option.map_eq_some_iff.1 hc
      have hlt := (List.getElem?_eq_some_iff.1 ht).1
      obtain ⟨f, hf⟩ : ∃ f, fields[j]? = some f := ⟨fields[j]'(by rw [u3]; exact hlt), by rw [Array.getElem?_eq_getElem]⟩
      obtain ⟨i, t', e1, e2, e3, e4⟩ := finfo j f hf
      rw [ht] at e3; cases e3
      rw [p2 j f i (by simpa using hf) e1, e4, foff_len hlt, zcells_len, e2]) (fun p hp => by
      rw [Array.toList_map] at hp
      obtain ⟨t, q1, q2⟩ := g2 p hp
      exact ⟨zcells t, by rw [List.getElem?_map, q1]; rfl, by rw [q2, zcells_len]⟩)
  have hb : P.built tid (parts.map fun (p : Nat × Operand) => (p.1, a.eval p.2)).toList = some (((parts.map fun (p : Nat × Operand) => (p.1, a.eval p.2)).toList.foldl (fun l p => l.set p.1 p.2.cells.toList) ((fieldTys te.ty).map zcells)).flatten.toArray) := by
    unfold Program.built
    rw [hi.info, u1]
    simp only [hz1, p1]
    have : z.cells = ((fieldTys te.ty).map zcells).flatten.toArray := by rw [← zcells_struct u2, ← hz2]
    rw [this]; exact hfill
  have hrun : (execOp a.eval o).run P w = .ok (.value (.agg ((parts.map fun (p : Nat × Operand) => (p.1, a.eval p.2)).toList.foldl (fun l p => l.set p.1 p.2.cells.toList) ((fieldTys te.ty).map zcells)).flatten.toArray)) w := by
    unfold execOp
    simp only [ho, Sem.run_bind]
    rw [show (parts.map fun x => match x with | (i, x) => (i, a.eval x)) = parts.map fun (p : Nat × Operand) => (p.1, a.eval p.2) from rfl, run_build w tid _ _ hb]
    rfl
  refine wp_value hrun hd hI h (.ofCells ?_ ?_) hk
  · rw [Array.toList_map]; exact g1.agg
  · cases l <;> rfl
end
end Go.Proofs.Ytlgbhaigpecdoaa.V
