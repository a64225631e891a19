/- Single operations. -/
import Derived.Test.YtlgbhaigpecdoaaVElems
import Derived.Laws.IdiomStrings
set_option linter.unusedVariables false
set_option linter.unusedSimpArgs false
namespace Go.Proofs.Ytlgbhaigpecdoaa.V
open Go

section
variable {P : Program} {G : Gl} {I0 : Nat → Prop} {st st1 : St} {a : Act} {vs : Array Value} {w w' : World} {Im Im' : Nat → Prop} {R R' : Real} {hand hand' : Frag} {o : Oper} {T : Type} {K : St → Option T} {r0 : T} {Q : Exit → Act → World → Prop} {E : Env}
theorem EnvOk.und (hE : EnvOk P E) {t : TypeId} {te : TE} (ht : E.get t = some te) : ∃ d, P.underlying t = some d := by
  obtain ⟨d, h, _⟩ := und_row hE ht; exact ⟨d, h⟩
theorem EnvOk.int (hE : EnvOk P E) {t : TypeId} {te : TE} (ht : E.get t = some te) {k : IntKind} (hd : te.d = .int k) : P.underlying t = some (.int k) := by
  have hu := (hE t te ht).2; unfold UndOk at hu; rw [hd] at hu; exact hu.1
theorem EnvOk.str (hE : EnvOk P E) {t : TypeId} {te : TE} (ht : E.get t = some te) (hd : te.d = .str) : P.underlying t = some .string := by
  have hu := (hE t te ht).2; unfold UndOk at hu; rw [hd] at hu; exact hu.1
theorem EnvOk.bool (hE : EnvOk P E) {t : TypeId} {te : TE} (ht : E.get t = some te) (hd : te.d = .bool) : P.underlying t = some .bool := by
  have hu := (hE t te ht).2; unfold UndOk at hu; rw [hd] at hu; exact hu.1
theorem EnvOk.slc (hE : EnvOk P E) {t e : TypeId} {te : TE} (ht : E.get t = some te) (hd : te.d = .slc e) : P.underlying t = some (.slice e) ∧ ∃ ee, E.get e = some ee ∧ te.ty = .slc ee.ty := by
  have hu := (hE t te ht).2; unfold UndOk at hu; rw [hd] at hu; exact hu
/-- A new block that is never turned. -/
theorem Inv.allocIm (h : Inv G st vs w Im R hand) (c : Array Value) (e : TypeId) (fz : Nat × Nat) :
    Inv G st vs (w.alloc (.cells c e fz)) (fun k => Im k ∨ k = w.heap.size) R hand ∧ Grow w (w.alloc (.cells c e fz)) Im (fun k => Im k ∨ k = w.heap.size) := by
  have hold : ∀ k, k < w.heap.size → (w.alloc (.cells c e fz)).heap[k]? = w.heap[k]? := fun k hk => Go.heap_alloc_old w _ hk
  have h1 := h.world (w' := w.alloc (.cells c e fz)) hold (by show _ ≤ (w.heap.push _).size; simp) (h.keep.alloc _)
  have g : Grow w (w.alloc (.cells c e fz)) Im (fun k => Im k ∨ k = w.heap.size) := ⟨fun _ h => .inl h, fun b hb => hold b (h.sep.imlt b hb)⟩
  have g1 : Grow (w.alloc (.cells c e fz)) (w.alloc (.cells c e fz)) Im (fun k => Im k ∨ k = w.heap.size) := ⟨fun _ h => .inl h, fun b hb => rfl⟩
  have hs := h1.sv g1 (R' := R) (p := fun _ _ _ => false) (fun r => .inl ⟨rfl, fun _ _ _ _ _ => rfl⟩)
  refine ⟨⟨h.box, fun i b r hb => (h1.rep i b r hb).grow g1, ⟨h1.sep.nod, h1.sep.sep, h1.sep.heap, fun i k hk => ?_, h1.sep.fresh, fun k hk => ?_, fun k hk => ?_⟩, fun n => ?_, h.len, h1.keep⟩, g⟩
  · rintro (h2 | h2)
    · exact h.sep.im i k hk h2
    · have := h.sep.lt hk; omega
  · have hsz : (w.alloc (.cells c e fz)).heap.size = w.heap.size + 1 := by show (w.heap.push _).size = _; simp
    rcases hk with hk | hk
    · have := h.sep.imlt k hk; omega
    · omega
  · rcases hk with hk | hk
    · exact h.sep.imok k hk
    · exact .inr (.inl (by rw [hk]; exact h.keep.size))
  · have := hs.2 (h1.slots n); rwa [forget_none] at this
theorem nth_some : ∀ {i : Nat} {s s' : SV} {vs : List Value}, nth i s = some s' → SVX w Im R s true vs → ∃ v, vs[i]? = some v ∧ SVV w Im R s' v
  | 0, .tcons a b, s', vs, h, hx => by
    simp only [nth, Option.some.injEq] at h; subst h
    obtain ⟨_, v, vs', e, h1, _⟩ := hx
    subst e
    exact ⟨v, rfl, h1.elim .inl (fun h => .inr (.inr h))⟩
  | n + 1, .tcons a b, s', vs, h, hx => by
    obtain ⟨_, v, vs', e, _, h2⟩ := hx
    subst e
    exact nth_some (i := n) h h2
theorem single1_ok {s : SV} {v : Value} (h : SVV w Im R s v) : single1 s = .undef ∨ ∃ cs, (if isAgg (single1 s) = true then v = .agg cs.toArray else cs = [v]) ∧ SVX w Im R (single1 s) false cs := by
  cases s with
  | tnil => exact .inl rfl
  | tcons a b => exact .inl rfl
  | undef => exact .inl rfl
  | _ => exact .inr (h.cells (by simp) (by simp) (by simp))
theorem tupleOf_ok : ∀ {l : List (SV × Value)}, (∀ p ∈ l, SVV w Im R p.1 p.2) → SVX w Im R (tupleOf (l.map (·.1))) true (l.map (·.2))
  | [], _ => ⟨rfl, rfl⟩
  | (s, v) :: l, h => ⟨rfl, v, l.map (·.2), rfl, single1_ok (h (s, v) (List.mem_cons_self ..)), tupleOf_ok fun p hp => h p (List.mem_cons_of_mem _ hp)⟩
theorem step_len (hE : EnvOk P E) (hd : a.defers = []) (hI : ∀ b, I0 b → Im b) (h : Inv G st a.tmps w Im R []) {cl : Call} (ho : o.op = .call cl) (hc : cl.callee = .builtin .len) {x : Operand} (harg : cl.args = #[x]) {t : TypeId} (hty : cl.argTypes = #[t]) {te : TE} (ht : E.get t = some te)
    (hdd : (te.d = .str ∧ strS (st.ev x) = true) ∨ ((∃ e, te.d = .slc e) ∧ strS (st.ev x) = false)) (hk : lenS st.boxes (st.ev x) (fun n => K (st.set o.dst (.con (.int .i64) n))) = some r0) : o.wp P a w (Post G I0 K r0) Q := by
  obtain ⟨n, hk, hv⟩ := len_some h hk (h.ev x)
  have hrun : (execOp a.eval o).run P w = .ok (.value (.int .i64 n)) w := by
    rcases hdd with ⟨e1, e2⟩ | ⟨⟨e, e1⟩, e2⟩
    · rcases hv with ⟨_, s, hv, rfl⟩ | ⟨h, _⟩
      · simp [execOp, ho, resolve, invoke, builtin, hc, harg, hty, Builtin.len_, run_underlying (hE.str ht e1), hv, goInt, Result.andThen]
      · rw [h] at e2; cases e2
    · rcases hv with ⟨h, _⟩ | ⟨_, A, k, c, hv, rfl⟩
      · rw [h] at e2; cases e2
      · simp [execOp, ho, resolve, invoke, builtin, hc, harg, hty, Builtin.len_, run_underlying (hE.slc ht e1).1, hv, goInt, Result.andThen]
  exact wp_value hrun hd hI h (.ofInt _ _) hk
theorem step_cap0 (hE : EnvOk P E) (hd : a.defers = []) (hI : ∀ b, I0 b → Im b) (h : Inv G st a.tmps w Im R []) {cl : Call} (ho : o.op = .call cl) (hc : cl.callee = .builtin .cap) {x : Operand} (harg : cl.args = #[x]) {t e : TypeId} (hty : cl.argTypes = #[t]) {te : TE} (ht : E.get t = some te)
    (hdd : te.d = .slc e) (hv : ∃ A, a.eval x = .slice A 0 0) (hk : K (st.set o.dst (.con (.int .i64) (0 : Int))) = some r0) : o.wp P a w (Post G I0 K r0) Q := by
  obtain ⟨A, hv⟩ := hv
  have hrun : (execOp a.eval o).run P w = .ok (.value (.int .i64 0)) w := by
    simp [execOp, ho, resolve, invoke, builtin, hc, harg, hty, Builtin.cap_, run_underlying (hE.slc ht hdd).1, hv, goInt, Result.andThen]
  exact wp_value hrun hd hI h (.ofInt _ _) hk
theorem step_min (hd : a.defers = []) (hI : ∀ b, I0 b → Im b) (h : Inv G st a.tmps w Im R []) {cl : Call} (ho : o.op = .call cl) (hc : cl.callee = .builtin .min) {x y : Operand} (harg : cl.args = #[x, y]) {k : IntKind} {m n : Int} (hx : st.ev x = .con (.int k) m) (hy : st.ev y = .con (.int k) n)
    (hk : K (st.set o.dst (.con (.int k) (if n < m then n else m))) = some r0) : o.wp P a w (Post G I0 K r0) Q := by
  have e1 : a.eval x = .int k m := (hx ▸ h.ev x : SVV w Im R (.con (.int k) m) (a.eval x)).int
  have e2 : a.eval y = .int k n := (hy ▸ h.ev y : SVV w Im R (.con (.int k) n) (a.eval y)).int
  have hrun : (execOp a.eval o).run P w = .ok (.value (.int k (if n < m then n else m))) w := by
    simp [execOp, ho, resolve, invoke, builtin, hc, harg, Builtin.min_, e1, e2, Builtin.min2, Result.andThen]
  exact wp_value hrun hd hI h (.ofInt _ _) hk
theorem step_max (hd : a.defers = []) (hI : ∀ b, I0 b → Im b) (h : Inv G st a.tmps w Im R []) {cl : Call} (ho : o.op = .call cl) (hc : cl.callee = .builtin .max) {x y : Operand} (harg : cl.args = #[x, y]) {k : IntKind} {m n : Int} (hx : st.ev x = .con (.int k) m) (hy : st.ev y = .con (.int k) n)
    (hk : K (st.set o.dst (.con (.int k) (if n > m then n else m))) = some r0) : o.wp P a w (Post G I0 K r0) Q := by
  have e1 : a.eval x = .int k m := (hx ▸ h.ev x : SVV w Im R (.con (.int k) m) (a.eval x)).int
  have e2 : a.eval y = .int k n := (hy ▸ h.ev y : SVV w Im R (.con (.int k) n) (a.eval y)).int
  have hrun : (execOp a.eval o).run P w = .ok (.value (.int k (if n > m then n else m))) w := by
    simp [execOp, ho, resolve, invoke, builtin, hc, harg, Builtin.max_, e1, e2, Builtin.max2, Result.andThen]
  exact wp_value hrun hd hI h (.ofInt _ _) hk
/-- A byte string's cells, as numbers. -/
theorem byteRows {m : Md} : ∀ {l : List Int} {cs : List Value} {h : Frag}, RepL (fun x cs h => Rep w Im (.int .u8) m x cs h) l cs h → ∀ j, j < l.length → cs[j]? = some (.int .u8 (l.getD j 0))
  | _ :: _, _, _, ⟨c1, c2, h1, h2, e1, e2, r1, r2⟩, 0, _ => by
    have : c1 = [_] := r1.1
    subst this; subst e1; rfl
  | _ :: _, _, _, ⟨c1, c2, h1, h2, e1, e2, r1, r2⟩, j + 1, hj => by
    have : c1 = [_] := r1.1
    subst this; subst e1
    simpa using byteRows r2 j (by simpa using hj)
theorem step_toString (hE : EnvOk P E) (hd : a.defers = []) (hI : ∀ b, I0 b → Im b) (h : Inv G st a.tmps w Im R []) {src dst e : TypeId} {x : Operand} (ho : o.op = .convert src dst x) {ts td te : TE} (h1 : E.get src = some ts) (h2 : E.get dst = some td) (h3 : E.get e = some te)
    (d1 : ts.d = .slc e) (d2 : td.d = .str) (d3 : te.d = .int .u8) (hna : isAgg (st.ev x) = false) (hk : look st.boxes (st.ev x) (.slc (.int .u8)) (fun l => K (st.set o.dst (.con .str (b2s l)))) = some r0) : o.wp P a w (Post G I0 K r0) Q := by
  have hne : st.ev x ≠ .undef ∧ st.ev x ≠ .tnil ∧ ∀ a b, st.ev x ≠ .tcons a b := by
    refine ⟨?_, ?_, ?_⟩
    · intro h; rw [h] at hk; simp [look] at hk
    · intro h; rw [h] at hk; simp [look] at hk
    · intro a b h; rw [h] at hk; simp [look] at hk
  obtain ⟨cs, e1, hx⟩ := (h.ev x).cells hne.1 hne.2.1 hne.2.2
  rw [if_neg (by simp [hna])] at e1
  subst e1
  obtain ⟨l, hk, _, A, cap, e2, hc, hr⟩ := look_some h hk hx
  simp at e2
  have hrun : (convert src dst (a.eval x)).run P w = .ok (.string (b2s l)) w := by
    rw [e2, run_convert_bytes_string w src dst e A (List.length l) cap (hE.slc h1 d1).1 (hE.int h3 d3) (hE.str h2 d2)]
    by_cases hl : l = []
    · subst hl
      cases A with
      | none => simp [Conv.bytesToString, b2s]; rfl
      | some ad =>
        have := run_bytesToString (P := P) w ad 0 cap [] (by simpa using run_loadCells_list (P := P) w ad [] (fun j v hj => by simp at hj))
        rw [List.length_nil, this]; rfl
    · obtain ⟨b, o', c, el, fz, rfl, _, hh, hrr⟩ := hr hl
      have hcell : ∀ j v, (l.map (Value.int .u8))[j]? = some v → w.cell? ((⟨b, o', none⟩ : Addr).add j) = some v := by
        intro j v hj
        have hlt : j < List.length l := by have := (List.getElem?_eq_some_iff.1 hj).1; simpa using this
        have := byteRows hrr j hlt
        rw [List.getElem?_drop] at this
        rw [add_at]
        simp only [World.cell?, hh]
        rw [List.getElem?_map, List.getElem?_eq_getElem hlt] at hj
        simp at hj
        subst hj
        simp only [List.getD_eq_getElem?_getD, List.getElem?_eq_getElem hlt, Option.getD_some] at this
        simpa using this
      have hl2 := run_loadCells_list (P := P) w ⟨b, o', none⟩ (l.map (Value.int .u8)) hcell
      simp only [List.length_map] at hl2
      rw [run_bytesToString w _ _ cap l hl2]
      congr 2
      have key : ∀ (l : List Int) (r : ByteArray), l.foldl (fun r n => r.push (UInt8.ofNat n.toNat)) r = ⟨r.data ++ (l.map fun n => UInt8.ofNat n.toNat).toArray⟩ := by
        intro l
        induction l with
        | nil => intro r; simp
        | cons n l ih => intro r; rw [List.foldl_cons, ih]; simp [ByteArray.push]
      rw [key]
      have e0 : ByteArray.empty.data = #[] := rfl
      rw [e0]; simp [b2s]
  have hrun2 : (execOp a.eval o).run P w = .ok (.value (.string (b2s l))) w := by
    unfold execOp
    simp only [ho, Sem.run_bind, hrun, Result.andThen_ok]; rfl
  exact wp_value hrun2 hd hI h (.ofStr _) hk
theorem step_toBytes (hE : EnvOk P E) (hd : a.defers = []) (hI : ∀ b, I0 b → Im b) (h : Inv G st a.tmps w Im R []) {src dst e : TypeId} {x : Operand} (ho : o.op = .convert src dst x) {ts td te : TE} (h1 : E.get src = some ts) (h2 : E.get dst = some td) (h3 : E.get e = some te)
    (d1 : ts.d = .str) (d2 : td.d = .slc e) (d3 : te.d = .int .u8) {s : ByteArray} (hx : st.ev x = .con .str s) (hk : K (st.set o.dst (.con (.slc (.int .u8)) (s2b s))) = some r0) : o.wp P a w (Post G I0 K r0) Q := by
  have ex : a.eval x = .string s := (hx ▸ h.ev x : SVV w Im R (.con .str s) (a.eval x)).str
  have hrun : (execOp a.eval o).run P w = .ok (.value (.slice (some ⟨w.heap.size, 0, none⟩) s.size (grownCap w s.size 0 e)))
      (w.drew.alloc (.cells (bytesRow s (grownCap w s.size 0 e)) e ((bytesRow s (grownCap w s.size 0 e)).size, (bytesRow s (grownCap w s.size 0 e)).size + 1))) := by
    unfold execOp
    simp only [ho, ex, Sem.run_bind, run_bytes_of_string w src dst e s (hE.str h1 d1) (hE.slc h2 d2).1 (hE.int h3 d3), Result.andThen_ok]; rfl
  obtain ⟨hi, g⟩ := h.drew.allocIm (bytesRow s (grownCap w s.size 0 e)) e ((bytesRow s (grownCap w s.size 0 e)).size, (bytesRow s (grownCap w s.size 0 e)).size + 1)
  have hl : List.length (s2b s) = s.size := by unfold s2b; rw [List.length_map, Array.length_toList]; rfl
  refine wp_to hrun hd (fun b hb => .inl (hI b hb)) hi (.ofCell (s := .con (.slc (.int .u8)) (s2b s)) ⟨rfl, _, grownCap w s.size 0 e, ?_, ?_, fun _ => ⟨w.heap.size, 0, bytesRow s (grownCap w s.size 0 e), e, ((bytesRow s (grownCap w s.size 0 e)).size, (bytesRow s (grownCap w s.size 0 e)).size + 1), rfl, .inr rfl, ?_, ?_⟩⟩ rfl) hk
  · rw [hl]
  · rw [hl]; exact grownCap_ge w s.size 0 e
  · show (w.heap.push _)[w.heap.size]? = _; simp
  · have : (bytesRow s (grownCap w s.size 0 e)).toList = (s2b s).map (Value.int .u8) ++ (Array.replicate (grownCap w s.size 0 e - s.size) (Value.int .u8 0)).toList := by
      simp [bytesRow, s2b]
    rw [List.drop_zero, this]
    generalize (Array.replicate (grownCap w s.size 0 e - s.size) (Value.int .u8 0)).toList = rest
    generalize s2b s = l
    induction l with
    | nil => rfl
    | cons n l ih => exact ⟨[.int .u8 n], l.map (Value.int .u8) ++ rest, [], [], rfl, rfl, ⟨rfl, rfl⟩, ih⟩
end
end Go.Proofs.Ytlgbhaigpecdoaa.V
