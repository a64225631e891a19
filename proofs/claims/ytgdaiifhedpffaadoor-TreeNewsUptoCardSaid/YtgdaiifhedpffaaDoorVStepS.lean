/- One operation, whatever it is. -/
import Derived.Test.YtgdaiifhedpffaaDoorVElems
import Derived.Laws.IdiomStrings
import Derived.Laws.Cover3
import Derived.Laws.CopyRow
import Derived.Lib.BufferWrite
import Derived.MapKept
import Derived.Laws.StructEq
import Derived.ChangeKeysEq
set_option linter.unusedVariables false
set_option linter.unusedSimpArgs false
namespace Go.Proofs.YtgdaiifhedpffaaDoor.V
open Go
section
variable {P : Program} {G : Gl} {I0 : Nat → Prop} {st st1 : St} {a : Act} {vs : Array Value} {w w' : World} {Im Im' : Nat → Prop} {R R' : Real} {hand hand' : Frag} {o : Oper} {T : Type} {K : St → Option T} {r0 : T} {Q : Exit → Act → World → Prop} {E : Env}
theorem EnvOk.und (hE : EnvOk P E) {t : TypeId} {te : TE} (ht : E.get t = some te) : ∃ d, P.underlying t = some d := by
  obtain ⟨d, h, _⟩ := und_row hE ht; exact ⟨d, h⟩
theorem EnvOk.int (hE : EnvOk P E) {t : TypeId} {te : TE} (ht : E.get t = some te) {k : IntKind} (hd : te.d = .int k) : P.underlying t = some (.int k) := by
  have hu := (hE t te ht).2.1; unfold UndOk at hu; rw [hd] at hu; exact hu.1
theorem EnvOk.str (hE : EnvOk P E) {t : TypeId} {te : TE} (ht : E.get t = some te) (hd : te.d = .str) : P.underlying t = some .string := by
  have hu := (hE t te ht).2.1; unfold UndOk at hu; rw [hd] at hu; exact hu.1
theorem EnvOk.bool (hE : EnvOk P E) {t : TypeId} {te : TE} (ht : E.get t = some te) (hd : te.d = .bool) : P.underlying t = some .bool := by
  have hu := (hE t te ht).2.1; unfold UndOk at hu; rw [hd] at hu; exact hu.1
theorem EnvOk.slc (hE : EnvOk P E) {t e : TypeId} {te : TE} (ht : E.get t = some te) (hd : te.d = .slc e) : P.underlying t = some (.slice e) ∧ ∃ ee, E.get e = some ee ∧ te.ty = .slc ee.ty := by
  have hu := (hE t te ht).2.1; unfold UndOk at hu; rw [hd] at hu; exact hu
theorem Inv.allocIm (h : Inv G st vs w Im R hand) (c : Array Value) (e : TypeId) (fz : Nat × Nat) :
    Inv G st vs (w.alloc (.cells c e fz)) (fun k => Im k ∨ k = w.heap.size) R hand ∧ Grow w (w.alloc (.cells c e fz)) Im (fun k => Im k ∨ k = w.heap.size) := by
  have hold : ∀ k, k < w.heap.size → (w.alloc (.cells c e fz)).heap[k]? = w.heap[k]? := fun k hk => Go.heap_alloc_old w _ hk
  have h1 := h.world (w' := w.alloc (.cells c e fz)) hold (by show _ ≤ (w.heap.push _).size; simp) (h.keep.alloc _)
  have g : Grow w (w.alloc (.cells c e fz)) Im (fun k => Im k ∨ k = w.heap.size) := ⟨fun _ h => .inl h, fun b hb => hold b (h.sep.imlt b hb)⟩
  have g1 : Grow (w.alloc (.cells c e fz)) (w.alloc (.cells c e fz)) Im (fun k => Im k ∨ k = w.heap.size) := ⟨fun _ h => .inl h, fun b hb => rfl⟩
  have hs := h1.sv g1 (R' := R) (p := fun _ _ _ => false) (fun r => .inl ⟨rfl, fun _ _ _ _ _ => rfl⟩)
  refine ⟨⟨h.box, fun i b r hb => (h1.rep i b r hb).grow g1, ⟨h1.sep.nod, h1.sep.sep, h1.sep.heap, fun i k hk => ?_, h1.sep.fresh, fun k hk => ?_, fun k hk => ?_⟩, fun n => ?_, h.len, h1.keep, h.row⟩, g⟩
  · rintro (h2 | h2)
    · exact h.sep.im i k hk h2
    · have := h.sep.lt hk; omega
  · have hsz : (w.alloc (.cells c e fz)).heap.size = w.heap.size + 1 := by show (w.heap.push _).size = _; simp
    rcases hk with hk | hk
    · have := h.sep.imlt k hk; omega
    · omega
  · rcases hk with hk | hk
    · exact h.sep.imok k hk
    · exact .inr (.inl (by rw [hk]; exact h.keep.size))
  · have := hs.2 (h1.slots n); rwa [forget_none] at this
theorem nth_some : ∀ {i : Nat} {s s' : SV} {vs : List Value}, nth i s = some s' → SVX w Im R s true vs → ∃ v, vs[i]? = some v ∧ SVV w Im R s' v
  | 0, .tcons a b, s', vs, h, hx => by
    simp only [nth, Option.some.injEq] at h; subst h
    obtain ⟨_, v, vs', e, h1, _⟩ := hx
    subst e
    exact ⟨v, rfl, h1.elim .inl (fun h => .inr (.inr h))⟩
  | n + 1, .tcons a b, s', vs, h, hx => by
    obtain ⟨_, v, vs', e, _, h2⟩ := hx
    subst e
    exact nth_some (i := n) h h2
theorem single1_ok {s : SV} {v : Value} (h : SVV w Im R s v) : single1 s = .undef ∨ ∃ cs, (if isAgg (single1 s) = true then v = .agg cs.toArray else cs = [v]) ∧ SVX w Im R (single1 s) false cs := by
  cases s with
  | tnil => exact .inl rfl
  | tcons a b => exact .inl rfl
  | undef => exact .inl rfl
  | _ => exact .inr (h.cells (by simp) (by simp) (by simp))
theorem tupleOf_ok : ∀ {l : List (SV × Value)}, (∀ p ∈ l, SVV w Im R p.1 p.2) → SVX w Im R (tupleOf (l.map (·.1))) true (l.map (·.2))
  | [], _ => ⟨rfl, rfl⟩
  | (s, v) :: l, h => ⟨rfl, v, l.map (·.2), rfl, single1_ok (h (s, v) (List.mem_cons_self ..)), tupleOf_ok fun p hp => h p (List.mem_cons_of_mem _ hp)⟩
theorem step_len (hE : EnvOk P E) (hd : a.defers = []) (hI : ∀ b, I0 b → Im b) (h : Inv G st a.tmps w Im R []) {cl : Call} (ho : o.op = .call cl) (hc : cl.callee = .builtin .len) {x : Operand} (harg : cl.args = #[x]) {t : TypeId} (hty : cl.argTypes = #[t]) {te : TE} (ht : E.get t = some te)
    (hdd : (te.d = .str ∧ strS (st.ev x) = true) ∨ ((∃ e, te.d = .slc e) ∧ strS (st.ev x) = false)) (hk : lenS st.boxes (st.ev x) (fun n => K (st.set o.dst (.con (.int .i64) n))) = some r0) : o.wp P a w (Post G I0 K r0) Q := by
  obtain ⟨n, hk, hv⟩ := len_some h hk (h.ev x)
  have hrun : (execOp a.eval o).run P w = .ok (.value (.int .i64 n)) w := by
    rcases hdd with ⟨e1, e2⟩ | ⟨⟨e, e1⟩, e2⟩
    · rcases hv with ⟨_, s, hv, rfl⟩ | ⟨h, _⟩
      · simp [execOp, ho, resolve, invoke, builtin, hc, harg, hty, Builtin.len_, run_underlying (hE.str ht e1), hv, goInt, Result.andThen]
      · rw [h] at e2; cases e2
    · rcases hv with ⟨h, _⟩ | ⟨_, A, k, c, hv, rfl⟩
      · rw [h] at e2; cases e2
      · simp [execOp, ho, resolve, invoke, builtin, hc, harg, hty, Builtin.len_, run_underlying (hE.slc ht e1).1, hv, goInt, Result.andThen]
  exact wp_value hrun hd hI h (.ofInt _ _) hk
theorem step_cap0 (hE : EnvOk P E) (hd : a.defers = []) (hI : ∀ b, I0 b → Im b) (h : Inv G st a.tmps w Im R []) {cl : Call} (ho : o.op = .call cl) (hc : cl.callee = .builtin .cap) {x : Operand} (harg : cl.args = #[x]) {t e : TypeId} (hty : cl.argTypes = #[t]) {te : TE} (ht : E.get t = some te)
    (hdd : te.d = .slc e) (hv : ∃ A, a.eval x = .slice A 0 0) (hk : K (st.set o.dst (.con (.int .i64) (0 : Int))) = some r0) : o.wp P a w (Post G I0 K r0) Q := by
  obtain ⟨A, hv⟩ := hv
  have hrun : (execOp a.eval o).run P w = .ok (.value (.int .i64 0)) w := by
    simp [execOp, ho, resolve, invoke, builtin, hc, harg, hty, Builtin.cap_, run_underlying (hE.slc ht hdd).1, hv, goInt, Result.andThen]
  exact wp_value hrun hd hI h (.ofInt _ _) hk
theorem step_min (hd : a.defers = []) (hI : ∀ b, I0 b → Im b) (h : Inv G st a.tmps w Im R []) {cl : Call} (ho : o.op = .call cl) (hc : cl.callee = .builtin .min) {x y : Operand} (harg : cl.args = #[x, y]) {k : IntKind} {m n : Int} (hx : st.ev x = .con (.int k) m) (hy : st.ev y = .con (.int k) n)
    (hk : K (st.set o.dst (.con (.int k) (if n < m then n else m))) = some r0) : o.wp P a w (Post G I0 K r0) Q := by
  have e1 : a.eval x = .int k m := (hx ▸ h.ev x : SVV w Im R (.con (.int k) m) (a.eval x)).int
  have e2 : a.eval y = .int k n := (hy ▸ h.ev y : SVV w Im R (.con (.int k) n) (a.eval y)).int
  have hrun : (execOp a.eval o).run P w = .ok (.value (.int k (if n < m then n else m))) w := by
    simp [execOp, ho, resolve, invoke, builtin, hc, harg, Builtin.min_, e1, e2, Builtin.min2, Result.andThen]
  exact wp_value hrun hd hI h (.ofInt _ _) hk
theorem step_max (hd : a.defers = []) (hI : ∀ b, I0 b → Im b) (h : Inv G st a.tmps w Im R []) {cl : Call} (ho : o.op = .call cl) (hc : cl.callee = .builtin .max) {x y : Operand} (harg : cl.args = #[x, y]) {k : IntKind} {m n : Int} (hx : st.ev x = .con (.int k) m) (hy : st.ev y = .con (.int k) n)
    (hk : K (st.set o.dst (.con (.int k) (if n > m then n else m))) = some r0) : o.wp P a w (Post G I0 K r0) Q := by
  have e1 : a.eval x = .int k m := (hx ▸ h.ev x : SVV w Im R (.con (.int k) m) (a.eval x)).int
  have e2 : a.eval y = .int k n := (hy ▸ h.ev y : SVV w Im R (.con (.int k) n) (a.eval y)).int
  have hrun : (execOp a.eval o).run P w = .ok (.value (.int k (if n > m then n else m))) w := by
    simp [execOp, ho, resolve, invoke, builtin, hc, harg, Builtin.max_, e1, e2, Builtin.max2, Result.andThen]
  exact wp_value hrun hd hI h (.ofInt _ _) hk
theorem byteRows {m : Md} : ∀ {l : List Int} {cs : List Value} {h : Frag}, RepL (fun x cs h => Rep w Im (.int .u8) m x cs h) l cs h → ∀ j, j < l.length → cs[j]? = some (.int .u8 (l.getD j 0))
  | _ :: _, _, _, ⟨c1, c2, h1, h2, e1, e2, r1, r2⟩, 0, _ => by
    have : c1 = [_] := r1.1
    subst this; subst e1; rfl
  | _ :: _, _, _, ⟨c1, c2, h1, h2, e1, e2, r1, r2⟩, j + 1, hj => by
    have : c1 = [_] := r1.1
    subst this; subst e1
    simpa using byteRows r2 j (by simpa using hj)
theorem step_toString (hE : EnvOk P E) (hd : a.defers = []) (hI : ∀ b, I0 b → Im b) (h : Inv G st a.tmps w Im R []) {src dst e : TypeId} {x : Operand} (ho : o.op = .convert src dst x) {ts td te : TE} (h1 : E.get src = some ts) (h2 : E.get dst = some td) (h3 : E.get e = some te)
    (d1 : ts.d = .slc e) (d2 : td.d = .str) (d3 : te.d = .int .u8) (hna : isAgg (st.ev x) = false) (hk : look st.boxes (st.ev x) (.slc (.int .u8)) (fun l => K (st.set o.dst (.con .str (b2s l)))) = some r0) : o.wp P a w (Post G I0 K r0) Q := by
  have hne : st.ev x ≠ .undef ∧ st.ev x ≠ .tnil ∧ ∀ a b, st.ev x ≠ .tcons a b := by
    refine ⟨?_, ?_, ?_⟩
    · intro h; rw [h] at hk; simp [look] at hk
    · intro h; rw [h] at hk; simp [look] at hk
    · intro a b h; rw [h] at hk; simp [look] at hk
  obtain ⟨cs, e1, hx⟩ := (h.ev x).cells hne.1 hne.2.1 hne.2.2
  rw [if_neg (by simp [hna])] at e1
  subst e1
  obtain ⟨l, hk, _, A, cap, e2, hc, hr⟩ := look_some h hk hx
  simp at e2
  have hrun : (convert src dst (a.eval x)).run P w = .ok (.string (b2s l)) w := by
    rw [e2, run_convert_bytes_string w src dst e A (List.length l) cap (hE.slc h1 d1).1 (hE.int h3 d3) (hE.str h2 d2)]
    by_cases hl : l = []
    · subst hl
      cases A with
      | none => simp [Conv.bytesToString, b2s]; rfl
      | some ad =>
        have := run_bytesToString (P := P) w ad 0 cap [] (by simpa using run_loadCells_list (P := P) w ad [] (fun j v hj => by simp at hj))
        rw [List.length_nil, this]; rfl
    · obtain ⟨b, o', c, el, fz, rfl, _, hh, hrr⟩ := hr hl
      have hcell : ∀ j v, (l.map (Value.int .u8))[j]? = some v → w.cell? ((⟨b, o', none⟩ : Addr).add j) = some v := by
        intro j v hj
        have hlt : j < List.length l := by have := (List.getElem?_eq_some_iff.1 hj).1; simpa using this
        have := byteRows hrr j hlt
        rw [List.getElem?_drop] at this
        rw [add_at]
        simp only [World.cell?, hh]
        rw [List.getElem?_map, List.getElem?_eq_getElem hlt] at hj
        simp at hj
        subst hj
        simp only [List.getD_eq_getElem?_getD, List.getElem?_eq_getElem hlt, Option.getD_some] at this
        simpa using this
      have hl2 := run_loadCells_list (P := P) w ⟨b, o', none⟩ (l.map (Value.int .u8)) hcell
      simp only [List.length_map] at hl2
      rw [run_bytesToString w _ _ cap l hl2]
      congr 2
      have key : ∀ (l : List Int) (r : ByteArray), l.foldl (fun r n => r.push (UInt8.ofNat n.toNat)) r = ⟨r.data ++ (l.map fun n => UInt8.ofNat n.toNat).toArray⟩ := by
        intro l
        induction l with
        | nil => intro r; simp
        | cons n l ih => intro r; rw [List.foldl_cons, ih]; simp [ByteArray.push]
      rw [key]
      have e0 : ByteArray.empty.data = #[] := rfl
      rw [e0]; simp [b2s]
  have hrun2 : (execOp a.eval o).run P w = .ok (.value (.string (b2s l))) w := by
    unfold execOp
    simp only [ho, Sem.run_bind, hrun, Result.andThen_ok]; rfl
  exact wp_value hrun2 hd hI h (.ofStr _) hk
theorem step_toBytes (hE : EnvOk P E) (hd : a.defers = []) (hI : ∀ b, I0 b → Im b) (h : Inv G st a.tmps w Im R []) {src dst e : TypeId} {x : Operand} (ho : o.op = .convert src dst x) {ts td te : TE} (h1 : E.get src = some ts) (h2 : E.get dst = some td) (h3 : E.get e = some te)
    (d1 : ts.d = .str) (d2 : td.d = .slc e) (d3 : te.d = .int .u8) {s : ByteArray} (hx : st.ev x = .con .str s) (hk : K (st.set o.dst (.con (.slc (.int .u8)) (s2b s))) = some r0) : o.wp P a w (Post G I0 K r0) Q := by
  have ex : a.eval x = .string s := (hx ▸ h.ev x : SVV w Im R (.con .str s) (a.eval x)).str
  have hrun : (execOp a.eval o).run P w = .ok (.value (.slice (some ⟨w.heap.size, 0, none⟩) s.size (grownCap w s.size 0 e)))
      (w.drew.alloc (.cells (bytesRow s (grownCap w s.size 0 e)) e ((bytesRow s (grownCap w s.size 0 e)).size, (bytesRow s (grownCap w s.size 0 e)).size + 1))) := by
    unfold execOp
    simp only [ho, ex, Sem.run_bind, run_bytes_of_string w src dst e s (hE.str h1 d1) (hE.slc h2 d2).1 (hE.int h3 d3), Result.andThen_ok]; rfl
  obtain ⟨hi, g⟩ := h.drew.allocIm (bytesRow s (grownCap w s.size 0 e)) e ((bytesRow s (grownCap w s.size 0 e)).size, (bytesRow s (grownCap w s.size 0 e)).size + 1)
  have hl : List.length (s2b s) = s.size := by unfold s2b; rw [List.length_map, Array.length_toList]; rfl
  refine wp_to hrun hd (fun b hb => .inl (hI b hb)) hi (.ofCell (s := .con (.slc (.int .u8)) (s2b s)) ⟨rfl, _, grownCap w s.size 0 e, ?_, ?_, fun _ => ⟨w.heap.size, 0, bytesRow s (grownCap w s.size 0 e), e, ((bytesRow s (grownCap w s.size 0 e)).size, (bytesRow s (grownCap w s.size 0 e)).size + 1), rfl, .inr rfl, ?_, ?_⟩⟩ rfl) hk
  · rw [hl]
  · rw [hl]; exact grownCap_ge w s.size 0 e
  · show (w.heap.push _)[w.heap.size]? = _; simp
  · have : (bytesRow s (grownCap w s.size 0 e)).toList = (s2b s).map (Value.int .u8) ++ (Array.replicate (grownCap w s.size 0 e - s.size) (Value.int .u8 0)).toList := by
      simp [bytesRow, s2b]
    rw [List.drop_zero, this]
    generalize (Array.replicate (grownCap w s.size 0 e - s.size) (Value.int .u8 0)).toList = rest
    generalize s2b s = l
    induction l with
    | nil => rfl
    | cons n l ih => exact ⟨[.int .u8 n], l.map (Value.int .u8) ++ rest, [], [], rfl, rfl, ⟨rfl, rfl⟩, ih⟩
end
end Go.Proofs.YtgdaiifhedpffaaDoor.V
set_option linter.unusedVariables false
set_option linter.unusedSimpArgs false
namespace Go.Proofs.YtgdaiifhedpffaaDoor.V
open Go
section
variable {P : Program} {G : Gl} {I0 : Nat → Prop} {st st1 : St} {a : Act} {vs : Array Value} {w w' : World} {Im Im' : Nat → Prop} {R R' : Real} {hand hand' : Frag} {o : Oper} {T : Type} {K : St → Option T} {r0 : T} {Q : Exit → Act → World → Prop} {E : Env}
theorem run_append_zeros (w : World) (t tx ty e : TypeId) (k k2 : IntKind) (i : TypeInfo) (z : Value) (ht : P.underlying t = some (.slice e)) (hk : P.underlying tx = some (.int k)) (hi : P.info? e = some i) (hz : i.zero = some z) (n : Nat) (h0 : 0 < n) (hs : 0 < i.size)
    (hb : n * i.bytes ≤ 140737488355328) (hn : n ≤ 140737488355328) :
    (Builtin.append_ #[t, tx] ty #[.slice none 0 0, .int k2 n]).run P w =
      .ok (.slice (some ⟨w.heap.size, 0, none⟩) n (grownCap w n 0 e)) (w.drew.alloc (.cells (Builtin.zeroCells z.cells n ++ Builtin.zeroCells z.cells (grownCap w n 0 e - n)) e)) := by
  have hfit := growslice_fits (need := n) (old := 0) h0 hb
  have hw : IntKind.i64.wrap (n : Int) = n := by rw [IntKind.wrap_i64]; omega
  have h1 : ¬ ((n : Int) < 0) := by omega
  have h2 : ¬ (281474976710656 < (n : Int) * (i.bytes : Int)) := by
    have : ((n * i.bytes : Nat) : Int) ≤ ((140737488355328 : Nat) : Int) := Int.ofNat_le.2 hb
    rw [Int.natCast_mul] at this; omega
  have h3 : ¬ (n = 0 ∨ i.size = 0) := by omega
  have h4 : ¬ n = 0 := by omega
  have h5 : ¬ (9223372036854775807 < (n : Int)) := by omega
  have h6 : ¬ (281474976710656 < Builtin.nextslicecap n 0 * i.bytes) := by omega
  have h7 : ¬ (n * i.size = 0) := by rw [Nat.mul_eq_zero]; exact h3
  simp [Builtin.append_, run_underlying ht, run_underlying hk, sizeOf, typeInfo, zeroValue, hi, hz, Go.asInt, asIntOf, hw, h1, h2, h3, h4, h5, h6, Question.forced, newRow, grownCap, run_firstCells_none]
  intro h8; exact absurd h8 h7
theorem Runs.zeros {w : World} {t tx ty e : TypeId} {k k2 : IntKind} {i : TypeInfo} {z : Value} (ht : P.underlying t = some (.slice e)) (hk : P.underlying tx = some (.int k)) (hi : P.info? e = some i) (hz : i.zero = some z) (hsz : z.cells.size = i.size) (n : Nat) (hs : 0 < i.size)
    (hb : n * i.bytes ≤ 140737488355328) (hn : n ≤ 140737488355328) (hone : ∀ v ∈ (Builtin.zeroCells z.cells n).toList, v.oneCell' = true) : Runs P w t tx ty e i (.int k2 n) n (Builtin.zeroCells z.cells n).toList := by
  have hw : IntKind.i64.wrap (n : Int) = n := by rw [IntKind.wrap_i64]; omega
  have h1 : ¬ ((n : Int) < 0) := by omega
  have h2 : ¬ (281474976710656 < (n : Int) * (i.bytes : Int)) := by
    have : ((n * i.bytes : Nat) : Int) ≤ ((140737488355328 : Nat) : Int) := Int.ofNat_le.2 hb
    rw [Int.natCast_mul] at this; omega
  have hnl : (Builtin.zeroCells z.cells n).toList.length = n * i.size := by rw [Array.length_toList, size_zeroCells, hsz]
  have hcase : (n * i.size = 0 ∧ (Builtin.zeroCells z.cells n).toList = []) ∨ ¬ (n * i.size = 0) := by
    by_cases h : n * i.size = 0
    · exact .inl ⟨h, List.length_eq_zero_iff.1 (by rw [hnl]; exact h)⟩
    · exact .inr h
  refine ⟨hnl, fun h0 A => ?_, fun b off sLen sCap cur e' hroom hh hb2 => ?_, fun z' hz' base sLen sCap olds hold hg h63 hfit => ?_⟩
  · subst h0
    have hw0 : IntKind.i64.wrap 0 = 0 := by rw [IntKind.wrap_i64]; omega
    cases A <;> simp [Builtin.append_, run_underlying ht, run_underlying hk, sizeOf, typeInfo, zeroValue, hi, hz, Go.asInt, asIntOf, hw0, storeCells]
  · have hst := run_storeCells_at P b (off + sLen * i.size) e' (Builtin.zeroCells z.cells n).toList 0 cur w hh (by simpa using hb2) hone
    simp only [Nat.add_zero] at hst
    rcases hcase with ⟨h3, h4⟩ | h3
    · have h5 : n = 0 ∨ i.size = 0 := Nat.mul_eq_zero.1 h3
      rw [h4] at hst ⊢
      simp only [List.length_nil, Nat.add_zero] at hst ⊢
      simp [Builtin.append_, run_underlying ht, run_underlying hk, sizeOf, typeInfo, zeroValue, hi, hz, Go.asInt, asIntOf, hw, h1, h2, h5, hroom, Addr.add_lit, hst]
      exact fun hc => absurd h3 hc
    · have h5 : ¬ (n = 0 ∨ i.size = 0) := fun h => h3 (Nat.mul_eq_zero.2 h)
      simp [Builtin.append_, run_underlying ht, run_underlying hk, sizeOf, typeInfo, zeroValue, hi, hz, Go.asInt, asIntOf, hw, h1, h2, h5, hroom, Addr.add_lit, hst]
      exact fun hc => absurd hc h3
  · rw [hz] at hz'; cases hz'
    have hg' : ¬ (sLen + n ≤ sCap) := by omega
    have h6 : ¬ (9223372036854775807 < ((sLen : Int) + (n : Int))) := by omega
    have h7 : ¬ (281474976710656 < Builtin.nextslicecap (sLen + n) sCap * i.bytes) := by omega
    rcases hcase with ⟨h3, h4⟩ | h3
    · have h4' : Builtin.zeroCells z.cells n = #[] := Array.toList_eq_nil_iff.1 h4
      have h5 : n = 0 ∨ i.size = 0 := by
        rcases Nat.mul_eq_zero.1 h3 with h | h
        · exact .inl h
        · exact .inr h
      simp [Builtin.append_, run_underlying ht, run_underlying hk, sizeOf, typeInfo, zeroValue, hi, hz, Go.asInt, asIntOf, hw, h1, h2, hg', h5, h6, h7, Question.forced, newRow, grownCap, hold, h4']
      try exact fun hc => absurd h3 hc
    · have h5 : ¬ (n = 0 ∨ i.size = 0) := fun h => h3 (Nat.mul_eq_zero.2 h)
      simp [Builtin.append_, run_underlying ht, run_underlying hk, sizeOf, typeInfo, zeroValue, hi, hz, Go.asInt, asIntOf, hw, h1, h2, hg', h5, h6, h7, Question.forced, newRow, grownCap, hold]
      rw [if_neg h3]
      congr 3
      apply Array.ext'; simp
theorem step_zeros (hE : EnvOk P E) (hd : a.defers = []) (hI : ∀ b, I0 b → Im b) (h : Inv G st a.tmps w Im R []) {cl : Call} (ho : o.op = .call cl) (hc : cl.callee = .builtin .append) {x y : Operand} (harg : cl.args = #[x, y]) {t u e : TypeId} (hty : cl.argTypes = #[t, u])
    {te ue ee : TE} (ht : E.get t = some te) (hdd : te.d = .slc e) (hue : E.get u = some ue) {k k2 : IntKind} (hdu : ue.d = .int k) (hee : E.get e = some ee) (hz : ee.z = true) {d : Tmp} (hdst : o.dst = some d) {m : Md} {n : Int} (hx : a.eval x = .slice none 0 0) (hy : a.eval y = .int k2 n)
    (hb : 0 < n ∧ n * ee.bytes ≤ (most : Int) ∧ 0 < sz ee.ty ∧ 0 < ee.bytes)
    (hk : K ((st.lay (d * 16) { mem := none, t := .slc ee.ty, m := .own (fitM ee.ty m), x := List.replicate n.toNat (dflt ee.ty) }).set (some d) (.ref (d * 16) [])) = some r0) : o.wp P a w (Post G I0 K r0) Q := by
  obtain ⟨⟨i, hi⟩, _⟩ := hE e ee hee
  obtain ⟨z, hz1, hz2⟩ := hi.zero hz
  obtain ⟨b0, b1, b2, b3⟩ := hb
  obtain ⟨n', rfl⟩ : ∃ n' : Nat, n = (n' : Int) := ⟨n.toNat, by omega⟩
  have e1 : most = 140737488355328 := rfl
  have hb' : n' * ee.bytes ≤ 140737488355328 := by
    have : ((n' * ee.bytes : Nat) : Int) ≤ ((140737488355328 : Nat) : Int) := by rw [Int.natCast_mul]; rw [e1] at b1; exact b1
    exact Int.ofNat_le.1 this
  have hn' : n' ≤ 140737488355328 := Nat.le_trans (Nat.le_mul_of_pos_right _ b3) hb'
  have hun := (hE u ue hue).2.1
  unfold UndOk at hun; rw [hdu] at hun
  have hr := run_append_zeros (P := P) w t u o.type e k k2 i z (hE.slc ht hdd).1 hun.1 hi.info hz1 n' (by omega) (by rw [hi.size]; exact b2) (by rw [hi.bytes]; exact hb') hn'
  have hrun : (execOp a.eval o).run P w = .ok (.value (.slice (some ⟨w.heap.size, 0, none⟩) n' (grownCap w n' 0 e))) (w.drew.alloc (.cells (Builtin.zeroCells z.cells n' ++ Builtin.zeroCells z.cells (grownCap w n' 0 e - n')) e)) := by
    simp [execOp, ho, resolve, invoke, builtin, hc, harg, hty, hx, hy, hr, Result.andThen]
  have hge := grownCap_ge w n' 0 e
  have hcm := grownCap_le_maxLen w n' 0 e (by simp only [maxLen]; omega)
  have hzs : z.cells.size = sz ee.ty := by rw [← zcells_len, ← hz2]; simp
  have hzc : (Builtin.zeroCells z.cells n').toList = zeros ee.ty n' := by
    have := zeros_range (z := z.cells) hz2 b2 n'
    rw [← this]
    simp [Builtin.zeroCells, hzs]
  have h1 := h.drew.alloc (Builtin.zeroCells z.cells n' ++ Builtin.zeroCells z.cells (grownCap w n' 0 e - n')) e
  have h2 := h1.lay (d * 16) (b := { mem := none, t := .slc ee.ty, m := .own (fitM ee.ty m), x := List.replicate n' (dflt ee.ty) })
    (rb := ⟨0, [.slice (some ⟨w.heap.size, 0, none⟩) n' (grownCap w n' 0 e)], [(w.heap.size, .cells (Builtin.zeroCells z.cells n' ++ Builtin.zeroCells z.cells (grownCap w n' 0 e - n')) e)]⟩)
    (.inr ⟨w.heap.size, 0, _, e, grownCap w n' 0 e, [], by simp, rfl, by simpa using hge, hcm, by
      simp only [Array.size_append, size_zeroCells, hzs, ← Nat.add_mul, Nat.zero_add]
      exact Nat.mul_le_mul_right _ (by omega), by
      rw [Array.toList_append, hzc, List.drop_zero]
      exact zeros_rep ee.ty m n' _⟩) rfl
  rw [← hdst] at hk
  exact wp_to hrun hd hI h2 (ref_ok rfl rfl R) hk
theorem zer_go (hE : EnvOk P E) {t tx e : TypeId} {te : TE} (hu : P.underlying t = some (.slice e)) {i : TypeInfo} (hi : InfoOk P e te i) (hz : te.z = true) (hd : a.defers = []) {Im0 : Nat → Prop} (hI : ∀ b, I0 b → Im0 b) (g0 : Grow w w Im0 Im)
    {xs : List (den te.ty)} {free : Bool} {m : Md} {v1 v2 : Value} {h1 : Frag} (h : Inv G st a.tmps w Im R h1) (r1 : Rep w Im (.slc te.ty) (.own m) xs [v1] h1) (hfree : free = true → xs = [] ∧ h1 = [] ∧ ∃ A, v1 = .slice A 0 0)
    {ys : List (den te.ty)} {news : List Value} {ty : TypeId} (src : Runs P w t tx ty e i v2 ys.length news) (hfl : flat te.ty = true) (hys : ∀ mm, RepL (fun x cs h => Rep w Im te.ty mm x cs h) ys news [])
    {d : Tmp} (hdst : o.dst = some d) (hrun : ∀ v' w', (Builtin.append_ #[t, tx] ty #[v1, v2]).run P w = .ok v' w' → (execOp a.eval o).run P w = .ok (.value v') w')
    (hk : appGo st d te (.con (.slc te.ty) ys) xs free m K = some r0) : o.wp P a w (Post G I0 K r0) Q := by
  unfold appGo newS at hk
  rw [if_pos hfl] at hk
  simp only [V.shallow, V.forget, look, dite_true] at hk
  split at hk
  · split at hk
    · rename_i hb
      have rr1 : Rep w Im (.slc te.ty) (.own (if free = true then .ro else m)) xs [v1] h1 := by
        by_cases hf : free = true
        · rw [if_pos hf]
          obtain ⟨e1, e2, A, e3⟩ := hfree hf
          exact .inl ⟨e1, ⟨A, by rw [e3]⟩, e2⟩
        · rw [if_neg hf]; exact r1
      obtain ⟨v', w', h', k1, k2, k3, g2⟩ := append_gen (ty := ty) (e' := e) (h2 := []) hu hi hz (by rw [List.append_nil]; exact h) rr1 src (hys _) hb.1 hb.2.1
      have h3 := Inv.lay (hand := []) (hand' := h') k2 (d * 16) (b := { mem := none, t := .slc te.ty, m := .own (if free = true then .ro else m), x := xs ++ ys }) (rb := ⟨0, [v'], h'⟩) k3 rfl
      rw [← hdst] at hk
      exact wp_to (hrun _ _ k1) hd (fun b hb => g0.im b (hI b hb)) h3 (ref_ok rfl rfl R) hk
    · cases hk
  · cases hk
theorem step_appz (hE : EnvOk P E) (hd : a.defers = []) (hI : ∀ b, I0 b → Im b) (h : Inv G st a.tmps w Im R []) {c : Cx} {cl : Call} (ho : o.op = .call cl) (hc : cl.callee = .builtin .append) {x y : Operand} (harg : cl.args = #[x, y]) {t u e : TypeId} (hty : cl.argTypes = #[t, u])
    {te ue ee : TE} (ht : E.get t = some te) (hdd : te.d = .slc e) (hue : E.get u = some ue) {k : IntKind} (hdu : ue.d = .int k) (hee : E.get e = some ee) (hz : ee.z = true) {d : Tmp} (hdst : o.dst = some d) (hk : zerosK ee (st.ev y) (fun z => appS c st d ee (st.ev x) z K) = some r0) : o.wp P a w (Post G I0 K r0) Q := by
  obtain ⟨⟨i, hi⟩, _⟩ := hE e ee hee
  obtain ⟨zz, hz1, hz2⟩ := hi.zero hz
  unfold zerosK at hk
  obtain ⟨k2, n, e2, hk⟩ := asInt_some hk
  split at hk
  · rename_i hb
    obtain ⟨b0, b1, bf, b2, b3⟩ := hb
    obtain ⟨n', rfl⟩ : ∃ n' : Nat, n = (n' : Int) := ⟨Int.toNat n, (Int.toNat_of_nonneg b0).symm⟩
    have e1 : most = 140737488355328 := rfl
    have hb' : n' * ee.bytes ≤ 140737488355328 := by
      have : ((n' * ee.bytes : Nat) : Int) ≤ ((140737488355328 : Nat) : Int) := by rw [Int.natCast_mul]; rw [e1] at b1; exact b1
      exact Int.ofNat_le.1 this
    have hn' : n' ≤ 140737488355328 := Nat.le_trans (Nat.le_mul_of_pos_right _ b3) hb'
    have hun := (hE u ue hue).2.1
    unfold UndOk at hun; rw [hdu] at hun
    have hvy : a.eval y = .int k2 n' := (e2 ▸ h.ev y : SVV w Im R (.con (.int k2) (n' : Int)) (a.eval y)).int
    have hzs : zz.cells.size = sz ee.ty := by rw [← zcells_len, ← hz2]; simp
    have hzc : (Builtin.zeroCells zz.cells n').toList = zeros ee.ty n' := by
      have := zeros_range (z := zz.cells) hz2 b2 n'
      rw [← this]
      simp [Builtin.zeroCells, hzs]
    have hys : ∀ mm, RepL (fun x cs h => Rep w Im ee.ty mm x cs h) (List.replicate n' (dflt ee.ty)) (Builtin.zeroCells zz.cells n').toList [] := fun mm => by
      rw [hzc]
      have := zeros_rep (w := w) (Im := Im) ee.ty .ro n' []
      rw [List.append_nil] at this
      exact (flat_rows bf this).2
    have hone : ∀ v ∈ (Builtin.zeroCells zz.cells n').toList, v.oneCell' = true := fun v hv => by
      refine (hys .ro).all (n := sz ee.ty) (fun _ _ _ r => r.one) (fun _ _ _ r => r.len) v ?_
      rw [List.take_of_length_le (by rw [hzc, zeros_len, List.length_replicate]; exact Nat.le_refl _)]
      exact hv
    have src : Runs P w t u o.type e i (a.eval y) (List.replicate n' (dflt ee.ty)).length (Builtin.zeroCells zz.cells n').toList := by
      rw [hvy, List.length_replicate]
      exact Runs.zeros (hE.slc ht hdd).1 hun.1 hi.info hz1 (by rw [hzs, hi.size]) n' (by rw [hi.size]; exact b2) (by rw [hi.bytes]; exact hb') hn' hone
    have hrun : ∀ v' w', (Builtin.append_ #[t, u] o.type #[a.eval x, a.eval y]).run P w = .ok v' w' → (execOp a.eval o).run P w = .ok (.value v') w' := by
      intro v' w' hr
      simp [execOp, ho, resolve, invoke, builtin, hc, harg, hty, hr, Result.andThen]
    have hx := h.ev x
    simp only [Int.toNat_natCast] at hk
    unfold appS at hk
    split at hk
    · cases hk
    · rename_i hag
      simp only [not_or, Bool.not_eq_true] at hag
      split at hk
      · rename_i he
        rw [he] at hx
        have hv := hx.raw
        exact zer_go hE (hE.slc ht hdd).1 hi hz hd hI (Grow.refl _ _) h (.inl ⟨rfl, ⟨none, by rw [hv]⟩, rfl⟩) (fun _ => ⟨rfl, rfl, none, hv⟩) src bf hys hdst hrun hk
      · rename_i he
        rw [he] at hx
        obtain ⟨A, hv⟩ := hx.cell (by simp) (by simp) (by simp) rfl
        simp at hv
        exact zer_go hE (hE.slc ht hdd).1 hi hz hd hI (Grow.refl _ _) h (.inl ⟨rfl, ⟨A, by rw [hv]⟩, rfl⟩) (fun _ => ⟨rfl, rfl, A, hv⟩) src bf hys hdst hrun hk
      · obtain ⟨cs, xs, m, st', Im', R', h1, e1, _, hk, hi', hrep, g, hsv, _⟩ := toC_cv hk h (CV.of hx)
        rw [if_neg (by simp [hag.1])] at e1
        subst e1
        split at hk
        · exact zer_go hE (hE.slc ht hdd).1 hi hz hd hI g hi' hrep (fun h => by cases h) src bf (fun mm => (flat_rows (w' := w) (Im' := Im') (m' := mm) bf (hys .ro)).2) hdst hrun hk
        · cases hk
  · cases hk
end
end Go.Proofs.YtgdaiifhedpffaaDoor.V
set_option linter.unusedVariables false
set_option linter.unusedSimpArgs false
namespace Go.Proofs.YtgdaiifhedpffaaDoor.V
open Go
section
variable {P : Program} {G : Gl} {I0 : Nat → Prop} {st st1 : St} {a : Act} {vs : Array Value} {w w' : World} {Im Im' : Nat → Prop} {R R' : Real} {hand hand' : Frag} {o : Oper} {T : Type} {K : St → Option T} {r0 : T} {Q : Exit → Act → World → Prop} {E : Env}
theorem nilT_some {b : Bool} {x y : Option T} {r : T} (h : nilT b x y = some r) : y = some r ∧ (b = true → x = some r) := by
  unfold nilT at h
  split at h
  · split at h
    · rename_i e; exact ⟨by rw [← e]; exact h, fun _ => h⟩
    · cases h
  · rename_i hb; exact ⟨h, fun hh => absurd hh hb⟩
theorem nil_some {op : BinOp} {s : SV} {K : Bool → Option T} {u : Value} (h : nilS op s K = some r0) (hs : SVV w Im R s u) : ∃ A l c, u = .slice A l c ∧ ((op = .eql ∧ K A.isNone = some r0) ∨ (op = .neq ∧ K (!A.isNone) = some r0)) := by
  unfold nilS at h
  split at h
  · rename_i t xs
    have hx := hs.cell (by simp) (by simp) (by simp) rfl
    have hx : Rep w Im (.slc t) .ro xs [u] [] := hx
    obtain ⟨h0, A, cap, e, hc, hr⟩ := hx
    simp at e; subst e
    refine ⟨A, _, _, rfl, ?_⟩
    split at h
    · obtain ⟨h1, h2⟩ := nilT_some h
      refine .inl ⟨rfl, ?_⟩
      cases xs with
      | nil => cases A with
        | none => exact h2 rfl
        | some a => exact h1
      | cons x xs =>
        obtain ⟨b, o, c, e, fz, hA, _⟩ := hr (by simp)
        rw [hA]; exact h1
    · obtain ⟨h1, h2⟩ := nilT_some h
      refine .inr ⟨rfl, ?_⟩
      cases xs with
      | nil => cases A with
        | none => exact h2 rfl
        | some a => exact h1
      | cons x xs =>
        obtain ⟨b, o, c, e, fz, hA, _⟩ := hr (by simp)
        rw [hA]; exact h1
    · cases h
  · rename_i t xs
    have hx := hs.cell (by simp) (by simp) (by simp) rfl
    have hx : Rep w Im (.slc t) .rz xs [u] [] := hx
    obtain ⟨⟨h0, A, cap, e, hc, hr⟩, hz⟩ := hx
    have hA : List.isEmpty xs = A.isNone := by
      cases xs with
      | nil =>
        have := hz rfl
        simp only [List.cons.injEq, and_true] at e this
        rw [e] at this
        cases this; rfl
      | cons x xs =>
        obtain ⟨b, o, c, e, fz, hA, _⟩ := hr (by simp)
        rw [hA]; rfl
    simp at e; subst e
    refine ⟨A, _, _, rfl, ?_⟩
    rw [hA] at h
    split at h
    · exact .inl ⟨rfl, h⟩
    · exact .inr ⟨rfl, h⟩
    · cases h
  · have hv := hs.raw
    refine ⟨none, 0, 0, hv, ?_⟩
    split at h
    · exact .inl ⟨rfl, h⟩
    · exact .inr ⟨rfl, h⟩
    · cases h
  · cases h
theorem step_nil (hE : EnvOk P E) (hd : a.defers = []) (hI : ∀ b, I0 b → Im b) (h : Inv G st a.tmps w Im R []) {op : BinOp} {t : TypeId} {x y : Operand} {b : TypeId} (ho : o.op = .binOp op t x y b) (hy : isNilC y = true) (ht : slcId E t = true)
    (hk : nilS op (st.ev x) (fun b => K (st.set o.dst (.con .bool b))) = some r0) : o.wp P a w (Post G I0 K r0) Q := by
  obtain ⟨A, l, c, hu, hk2⟩ := nil_some hk (h.ev x)
  have ey : a.eval y = .slice none 0 0 := by
    unfold isNilC at hy
    split at hy
    · rfl
    · cases hy
  have hs : ∃ e, P.underlying t = some (.slice e) := by
    unfold slcId at ht
    split at ht
    · rename_i te hte
      split at ht
      · rename_i e hdd
        exact ⟨e, (hE.slc hte hdd).1⟩
      · cases ht
    · cases ht
  obtain ⟨e, hs⟩ := hs
  have hq := run_equal_slice_nil (P := P) w t e A l c hs
  rcases hk2 with ⟨rfl, hk2⟩ | ⟨rfl, hk2⟩
  · refine wp_value (v := .bool A.isNone) ?_ hd hI h (.ofBool _) hk2
    simp only [execOp, ho, hu, ey]
    rw [Sem.run_bind]
    have eg : (eqGuard .eql t x y (.slice A l c) (.slice none 0 0)).run P w = .ok () w := by unfold eqGuard; simp
    rw [Sem.run_bind, eg]
    show (((do pure (.bool (← Op.equal t (.slice A l c) (.slice none 0 0))) : Sem Value)).run P w).andThen _ = _
    simp only [Sem.run_bind, hq, Result.andThen_ok]; rfl
  · refine wp_value (v := .bool (!A.isNone)) ?_ hd hI h (.ofBool _) hk2
    simp only [execOp, ho, hu, ey]
    rw [Sem.run_bind]
    have eg : (eqGuard .neq t x y (.slice A l c) (.slice none 0 0)).run P w = .ok () w := by unfold eqGuard; simp
    rw [Sem.run_bind, eg]
    show (((do pure (.bool (!(← Op.equal t (.slice A l c) (.slice none 0 0)))) : Sem Value)).run P w).andThen _ = _
    simp only [Sem.run_bind, hq, Result.andThen_ok]; rfl
end
end Go.Proofs.YtgdaiifhedpffaaDoor.V
set_option linter.unusedVariables false
set_option linter.unusedSimpArgs false
namespace Go.Proofs.YtgdaiifhedpffaaDoor.V
open Go
section
variable {P : Program} {G : Gl} {I0 : Nat → Prop} {st st1 : St} {a : Act} {vs : Array Value} {w w' : World} {Im Im' : Nat → Prop} {R R' : Real} {hand hand' : Frag} {o : Oper} {T : Type} {K : St → Option T} {r0 : T} {Q : Exit → Act → World → Prop} {E : Env}
theorem look_ne0 {s : SV} {bs : List (Nat × Bx)} {t : Ty} {K : den t → Option T} (hk : look bs s t K = some r0) : s ≠ .undef ∧ s ≠ .tnil ∧ ∀ a b, s ≠ .tcons a b := by
  refine ⟨?_, ?_, ?_⟩
  · intro h; rw [h] at hk; simp [look] at hk
  · intro h; rw [h] at hk; simp [look] at hk
  · intro a b h; rw [h] at hk; simp [look] at hk
theorem spl_rows {t : Ty} {m : Md} (hs : sz t = 1) {f : den t → List Value → Frag → Prop} (hn : ∀ x c h, f x c h → c.length = 1) {xs ys : List (den t)} {c d : List Value} {lo k : Nat} (h1 : RepL f xs c []) (h2 : RepL f ys d []) (hk : k ≤ ys.length) (hlo : lo + k ≤ xs.length) (hc : xs.length ≤ c.length) :
    RepL f (spl xs lo k ys) (c.take lo ++ d.take k ++ c.drop (lo + k)) [] := by
  have hd : ys.length ≤ d.length := by have := h2.len hn; omega
  obtain ⟨a1, a2, e1, s1, s2⟩ := RepL.split hn (lo + k) h1 hlo
  obtain ⟨b1, b2, e2, t1, t2⟩ := RepL.split hn lo s1 (by rw [List.length_take]; omega)
  obtain ⟨d1, d2, e3, u1, u2⟩ := RepL.split hn k h2 hk
  have z1 : a1 = [] ∧ a2 = [] := by simpa using e1.symm
  have z3 : d1 = [] ∧ d2 = [] := by simpa using e3.symm
  have z2 : b1 = [] ∧ b2 = [] := by rw [z1.1] at e2; simpa using e2.symm
  rw [z2.1] at t1
  rw [z3.1] at u1
  rw [z1.2] at s2
  have ex : (xs.take (lo + k)).take lo = xs.take lo := by rw [List.take_take, Nat.min_eq_left (by omega)]
  rw [ex] at t1
  have l1 : (xs.take lo).length = lo := by rw [List.length_take]; omega
  have l2 : (ys.take k).length = k := by rw [List.length_take]; omega
  have l3 : (c.take lo).length = lo := by rw [List.length_take]; omega
  have l4 : (d.take k).length = k := by rw [List.length_take]; omega
  have p1 : RepL f (xs.take lo ++ ys.take k) (c.take lo ++ d.take k ++ c.drop (lo + k)) [] := by
    refine RepL.app (n := 1) (h := []) (k := []) hn t1 ?_ ?_
    · rw [l1, Nat.mul_one, List.append_assoc, List.drop_append_of_le_length (by omega), List.drop_of_length_le (by omega), List.nil_append]
      refine u1.cut hn ?_
      rw [l2, Nat.mul_one, List.take_append_of_le_length (by omega), List.take_take, Nat.min_self]
    · rw [l1, Nat.mul_one, List.append_assoc, List.take_append_of_le_length (by omega), List.take_take, Nat.min_self]
  unfold spl
  refine RepL.app (n := 1) (h := []) (k := []) hn p1 ?_ rfl
  rw [List.length_append, l1, l2, Nat.mul_one]
  have : (c.take lo ++ d.take k ++ c.drop (lo + k)).drop (lo + k) = c.drop (lo + k) := by
    rw [List.drop_append_of_le_length (by rw [List.length_append]; omega), List.drop_of_length_le (by rw [List.length_append]; omega), List.nil_append]
  rw [this]
  simpa using s2
theorem copyB_some (hE : EnvOk P E) (hd : a.defers = []) (hI : ∀ b, I0 b → Im b) (h : Inv G st a.tmps w Im R []) {cl : Call} (ho : o.op = .call cl) (hc : cl.callee = .builtin .copy) {x y : Operand} (harg : cl.args = #[x, y]) {t u e e2 : TypeId} (hty : cl.argTypes = #[t, u])
    (hu : P.underlying t = some (.slice e)) {ee : TE} (hee : E.get e = some ee) {r lo : Nat} {nn : Option Nat}
    (hdst : ∀ b rb, R r = some (b, rb) → (∃ m, b.m = .own m) → b.t = .slc ee.ty → ∃ hd len cap A dl dc, rb.cs = [.slice hd len cap] ∧ a.eval x = .slice A dl dc ∧ (∀ t', b.t = .slc t' → sz t' = 1 → lo + dl ≤ len ∧ (0 < dl → A = hd.map fun a => a.add lo)) ∧ dl = nn.getD len)
    (hk : copyB st r lo nn ee (st.ev y) (fun k st => K (st.set o.dst (.con (.int .i64) (k : Nat)))) = some r0) : o.wp P a w (Post G I0 K r0) Q := by
  unfold copyB at hk
  split at hk
  · rename_i b hb
    obtain ⟨rb, hr⟩ := h.real hb
    split at hk
    · rename_i hbt
      split at hk
      · rename_i hcond
        obtain ⟨hmem, hrow, hfl, hsz, hag⟩ := hcond
        -- what is copied
        have hne := look_ne0 hk
        obtain ⟨cs2, e1, hy⟩ := (CV.of (h.ev y)) hne.1 hne.2.1 hne.2.2
        rw [if_neg (by simp [hag])] at e1
        subst e1
        obtain ⟨ys, hk, hrep2⟩ := look_some h hk hy
        obtain ⟨_, A2, cap2, ey, hc2, hys⟩ := hrep2
        simp only [List.cons.injEq, and_true] at ey
        -- where it goes
        obtain ⟨mem, ty, md, bx, pin, row⟩ := b
        dsimp only at hbt hmem hrow hk
        subst hbt
        have hrepb : Rep w Im (.slc ee.ty) md bx rb.cs rb.h := h.rep r _ rb hr
        cases md with
        | own m =>
          obtain ⟨hdr, len, cap, A, dl, dc, ecs, ex, hA, hdl⟩ := hdst _ rb hr ⟨m, rfl⟩ rfl
          split at hk
          · rename_i hpos
            obtain ⟨hp1, hp2⟩ := hpos
            rcases hrepb with ⟨hx0, ⟨A0, ecs0⟩, eh0⟩ | ⟨bk, off, c, el, cap', h', ecs0, eh, hcap, hmax, hfit, hrows⟩
            · rw [ecs] at ecs0
              simp only [List.cons.injEq, and_true, Value.slice.injEq] at ecs0
              exfalso
              obtain ⟨_, hl, _⟩ := ecs0
              have h2 := (hA ee.ty rfl hsz).1
              have e0 : List.length bx = 0 := by rw [hx0]; rfl
              have hp2 : 0 < nn.getD (List.length bx) := hp2
              rw [e0] at hp2
              rw [hl] at hdl h2
              omega
            · rw [ecs] at ecs0
              simp only [List.cons.injEq, and_true, Value.slice.injEq] at ecs0
              obtain ⟨rfl, rfl, rfl⟩ := ecs0
              have hp2 : 0 < nn.getD (List.length bx) := hp2
              rw [← hdl] at hp2
              have hk : K (({ slots := st.slots.map (kill1 r), boxes := bset r { mem := mem, t := .slc ee.ty, m := .own m, x := spl bx lo (min (List.length ys) (nn.getD (List.length bx))) ys, pin := pin, row := row } st.boxes } : St).set o.dst (.con (.int .i64) ((min (List.length ys) (nn.getD (List.length bx)) : Nat) : Int))) = some r0 := hk
              rw [← hdl] at hk
              obtain ⟨hle, hAA⟩ := hA ee.ty rfl hsz
              have hAA := hAA hp2
              obtain ⟨b2, o2, c2, el2, fz2, eA2, _, hh2, hrows2⟩ := hys (by intro h0; rw [h0] at hp1; simp at hp1)
              obtain ⟨eh', hrowsF⟩ := flat_rows (w' := w) (Im' := Im) (m' := m) hfl hrows
              subst eh'
              have hnn : ∀ (w : World) (Im : Nat → Prop) (x : den ee.ty) (c : List Value) (h : Frag), Rep w Im ee.ty m x c h → c.length = 1 := fun _ _ _ _ _ r => by rw [r.len, hsz]
              have hl2 : ys.length ≤ (c2.toList.drop o2).length := by
                have := hrows2.len (n := 1) (fun _ _ _ r => by rw [r.len, hsz]); omega
              have hl1 : bx.length ≤ (c.toList.drop off).length := by
                have := hrowsF.len (n := 1) (hnn w Im); omega
              have hk0 : w.heap[bk]? = some (.cells c el (0, 0)) := h.heapOK hr (bk, .cells c el) (fragOf_sub _ (by rw [eh]; exact List.mem_cons_self ..))
              generalize hkk : min ys.length dl = k at hk
              have hk1 : k ≤ ys.length := by omega
              have hk2 : k ≤ dl := by omega
              have hk3 : 0 < k := by omega
              have hcsl : ((c2.toList.drop o2).take k).length = k := by rw [List.length_take]; omega
              have hi1 : (P.info? e).map (·.size) = some 1 := by
                obtain ⟨⟨i, hi⟩, _⟩ := hE e ee hee
                rw [hi.info]; simp [hi.size, hsz]
              have ecN : (c.toList.drop off).length = c.size - off := by simp
              have hrun := run_copy_row (P := P) w t u o.type e bk (off + lo) dl dc ⟨b2, o2, none⟩ ys.length cap2 c el ((c2.toList.drop o2).take k) hu hi1 hk0 (by rw [hcsl, ← hkk]) (fun j v hj => by
                have hj2 : j < k := by
                  have := (List.getElem?_eq_some_iff.1 hj).1
                  rw [hcsl] at this; exact this
                rw [List.getElem?_take_of_lt hj2, List.getElem?_drop] at hj
                rw [add_at]
                simp only [World.cell?, hh2]
                simpa using hj) (by rw [hcsl]; rw [ecN] at hl1; omega) (by
                have hall := hrows2.all (p := fun v => v.oneCell' = true) (n := 1) (fun _ _ _ r => r.one) (fun _ _ _ r => by rw [r.len, hsz])
                intro v hv
                exact hall v (by rw [Nat.mul_one]; exact List.take_subset_take_left _ hk1 hv))
              rw [hcsl] at hrun
              have eAdr : A = some ⟨bk, off + lo, none⟩ := by rw [hAA]; simp [add_at]
              have hex : (execOp a.eval o).run P w = .ok (.value (.int .i64 (k : Int))) (w.setRow bk (c.toList.take (off + lo) ++ (c2.toList.drop o2).take k ++ c.toList.drop (off + lo + k)).toArray) := by
                simp [execOp, ho, resolve, invoke, builtin, hc, harg, hty, ex, ey, eAdr, eA2, hrun, Result.andThen, goInt]
              -- the new box
              have hnoIm : ¬ Im bk := h.sep.im (r + 1) bk (by rw [own_at hr]; exact keys_mem.2 ⟨_, fragOf_sub _ (by rw [eh]; exact List.mem_cons_self ..), rfl⟩)
              have hnewc : (c.toList.take (off + lo) ++ (c2.toList.drop o2).take k ++ c.toList.drop (off + lo + k)).drop off = (c.toList.drop off).take lo ++ (c2.toList.drop o2).take k ++ (c.toList.drop off).drop (lo + k) := by
                rw [List.append_assoc, List.drop_append_of_le_length (by rw [List.length_take]; rw [ecN] at hl1; simp; omega), List.drop_take, Nat.add_sub_cancel_left, List.drop_drop, List.append_assoc, Nat.add_assoc]
              have hnewR : ∀ (w1 : World), Rep w1 Im (.slc ee.ty) (.own m) (spl bx lo k ys) [.slice (some ⟨bk, off, none⟩) bx.length cap] [(bk, .cells (c.toList.take (off + lo) ++ (c2.toList.drop o2).take k ++ c.toList.drop (off + lo + k)).toArray el)] := by
                intro w1
                have hlen : (spl bx lo k ys).length = bx.length := by
                  unfold spl
                  simp only [List.length_append, List.length_take, List.length_drop]
                  omega
                refine .inr ⟨bk, off, _, el, cap, [], by rw [hlen], rfl, by rw [hlen]; exact hcap, hmax, ?_, ?_⟩
                · simp only [List.size_toArray, List.length_append, List.length_take, List.length_drop, Array.length_toList]
                  rw [ecN] at hl1
                  simp only [List.length_drop, Array.length_toList] at hl2
                  omega
                · simp only [List.toList_toArray]
                  rw [hnewc]
                  exact spl_rows (m := m) hsz (hnn w1 Im) (flat_rows (w' := w1) (Im' := Im) (m' := m) hfl hrowsF).2 (flat_rows (w' := w1) (Im' := Im) (m' := m) hfl hrows2).2 hk1 (by omega) hl1
              have hfr0 : fragOf ({ mem := mem, t := .slc ee.ty, m := .own m, x := bx, pin := pin, row := row } : Bx) rb = rb.h := by
                cases mem with
                | none => rfl
                | some _ => simp at hmem
              have hch := Inv.change (hand := []) (hand' := []) (st' := { slots := st.slots.map (kill1 r), boxes := bset r { mem := mem, t := .slc ee.ty, m := .own m, x := spl bx lo k ys, pin := pin, row := row } st.boxes }) (p := fun _ s q => decide (s = r) && !decide (lev q = 0)) (bN := { mem := mem, t := .slc ee.ty, m := .own m, x := spl bx lo k ys, pin := pin, row := row }) (rbN := { rb with h := [(bk, .cells (c.toList.take (off + lo) ++ (c2.toList.drop o2).take k ++ c.toList.drop (off + lo + k)).toArray el)] })
                h hr (k0 := bk) (c0 := c) (cN := (c.toList.take (off + lo) ++ (c2.toList.drop o2).take k ++ c.toList.drop (off + lo + k)).toArray) (e0 := el) (by rw [hfr0, eh]; exact List.mem_cons_self ..)
                (fun p hp => by
                  have : fragOf ({ mem := mem, t := .slc ee.ty, m := .own m, x := spl bx lo k ys, pin := pin, row := row } : Bx) { rb with h := [(bk, .cells (c.toList.take (off + lo) ++ (c2.toList.drop o2).take k ++ c.toList.drop (off + lo + k)).toArray el)] } = [(bk, .cells (c.toList.take (off + lo) ++ (c2.toList.drop o2).take k ++ c.toList.drop (off + lo + k)).toArray el)] := by
                    cases mem with
                    | none => rfl
                    | some _ => simp at hmem
                  rw [this] at hp
                  exact .inr (.inr (List.mem_singleton.1 hp)))
                (by
                  have : fragOf ({ mem := mem, t := .slc ee.ty, m := .own m, x := spl bx lo k ys, pin := pin, row := row } : Bx) { rb with h := [(bk, .cells (c.toList.take (off + lo) ++ (c2.toList.drop o2).take k ++ c.toList.drop (off + lo + k)).toArray el)] } = [(bk, .cells (c.toList.take (off + lo) ++ (c2.toList.drop o2).take k ++ c.toList.drop (off + lo + k)).toArray el)] := by
                    cases mem with
                    | none => rfl
                    | some _ => simp at hmem
                  rw [this]; simp [keys])
                (by rw [show rb.cs = [.slice (some ⟨bk, off, none⟩) bx.length cap] from ecs]; exact hnewR _)
                (fun j => by rw [bget_bset]) rfl
                ⟨fun q v hp hh => by
                    have h0 : lev q = 0 := by simpa using hp
                    intro bb rbb hbb
                    simp only [if_true] at hbb; cases hbb
                    obtain ⟨hv, ht', ad, hn⟩ := hh _ rb hr
                    cases q with
                    | nil => exact ⟨trivial, rfl, ad, hn⟩
                    | cons s q => cases s <;> simp [Valid, VStep, lev] at hv h0,
                  fun q lo' n' v hp ⟨u', hh, hsub⟩ => by
                    have h0 : lev q = 0 := by simpa using hp
                    have h00 := hh
                    refine ⟨u', ?_, ?_⟩
                    · intro bb rbb hbb
                      simp only [if_true] at hbb; cases hbb
                      obtain ⟨hv, ht', ad, hn⟩ := hh _ rb hr
                      cases q with
                      | nil => exact ⟨trivial, rfl, ad, hn⟩
                      | cons s q => cases s <;> simp [Valid, VStep, lev] at hv h0
                    · intro bb rbb hbb
                      simp only [if_true] at hbb; cases hbb
                      have := hsub _ rb hr
                      cases q with
                      | nil => exact this
                      | cons s q =>
                        obtain ⟨hv, _⟩ := h00 _ rb hr
                        cases s <;> simp [Valid, VStep, lev] at hv h0,
                  fun q v hp hh => by
                    have h0 : lev q = 0 := by simpa using hp
                    intro bb rbb hbb
                    simp only [if_true] at hbb; cases hbb
                    obtain ⟨hv, cs3, b3, o3, hn, e3⟩ := hh _ rb hr
                    cases q with
                    | nil =>
                      refine ⟨trivial, cs3, b3, o3, ?_, e3⟩
                      simp only [nav] at hn ⊢
                      rw [← hn]
                      unfold locOf
                      cases mem with
                      | none => rfl
                      | some _ => simp at hmem
                    | cons s q => cases s <;> simp [Valid, VStep, lev] at hv h0⟩
              exact wp_to hex hd hI hch (.ofInt _ _) hk
          · cases hk
        | ro => simp [copyB.isRow] at hrow
        | dead => simp [copyB.isRow] at hrow
        | rz => simp [copyB.isRow] at hrow
        | pair _ _ => simp [copyB.isRow] at hrow
      · cases hk
    · cases hk
  · cases hk
theorem step_copy (hE : EnvOk P E) (hd : a.defers = []) (hI : ∀ b, I0 b → Im b) (h : Inv G st a.tmps w Im R []) {cl : Call} (ho : o.op = .call cl) (hc : cl.callee = .builtin .copy) {x y : Operand} (harg : cl.args = #[x, y]) {t u e e2 : TypeId} (hty : cl.argTypes = #[t, u])
    (hu : P.underlying t = some (.slice e)) {ee : TE} (hee : E.get e = some ee)
    (hk : copyS0 st ee (st.ev x) (st.ev y) (fun k st => K (st.set o.dst (.con (.int .i64) (k : Nat)))) = some r0) : o.wp P a w (Post G I0 K r0) Q := by
  unfold copyS0 at hk
  split at hk
  · rename_i r hx
    obtain ⟨v, ev, hv⟩ := (hx ▸ h.ev x : SVV w Im R (.ref r []) (a.eval x)).cell (by simp) (by simp) (by simp) rfl
    refine copyB_some (e2 := e2) hE hd hI h ho hc harg hty hu hee ?_ hk
    intro b rb hr hm hbt
    obtain ⟨_, _, ad, hn⟩ := hv b rb hr
    obtain ⟨t', ht⟩ : ∃ t', ctype b.t [] = .slc t' := ⟨_, hbt⟩
    simp only [List.cons.injEq, and_true] at ev
    subst ev
    simp only [nav, Option.some.injEq, Prod.mk.injEq] at hn
    have hrep := h.rep r _ rb hr
    obtain ⟨mem, ty, md, bx, pin, row⟩ := b
    obtain ⟨m, hm⟩ := hm
    dsimp only at hm hrep ht hn
    have ht : ty = .slc t' := ht
    subst ht
    subst hm
    rcases hrep with ⟨_, ⟨A0, ecs0⟩, _⟩ | ⟨bk, off, c, el, cap', h', ecs0, _⟩
    · rw [hn.1] at ecs0
      simp only [List.cons.injEq, and_true] at ecs0
      exact ⟨A0, 0, 0, A0, 0, 0, by rw [hn.1, ecs0], ecs0, fun t'' e1 e2 => ⟨Nat.le_refl _, fun h0 => absurd h0 (by omega)⟩, rfl⟩
    · rw [hn.1] at ecs0
      simp only [List.cons.injEq, and_true] at ecs0
      exact ⟨some ⟨bk, off, none⟩, bx.length, cap', some ⟨bk, off, none⟩, bx.length, cap', by rw [hn.1, ecs0], ecs0, fun t'' e1 e2 => ⟨by omega, fun h0 => by simp [add_at]⟩, rfl⟩
  · rename_i r lo n hx
    obtain ⟨v, ev, hv⟩ := (hx ▸ h.ev x : SVV w Im R (.sub r [] lo n) (a.eval x)).cell (by simp) (by simp) (by simp) rfl
    refine copyB_some (e2 := e2) hE hd hI h ho hc harg hty hu hee ?_ hk
    intro b rb hr hm hbt
    simp only [List.cons.injEq, and_true] at ev
    subst ev
    obtain ⟨u, hu1, hu2⟩ := hv
    obtain ⟨_, _, ad, hn⟩ := hu1 b rb hr
    obtain ⟨t', A, len, cap, A', cap', ht, eu, evv, l1, l2, l3, hA⟩ := hu2 b rb hr
    simp only [nav, Option.some.injEq, Prod.mk.injEq] at hn
    have ht : b.t = .slc t' := ht
    refine ⟨A, len, cap, A', n, cap', by rw [hn.1, eu], evv, fun t'' e1 e2 => ⟨l1, fun h0 => ?_⟩, rfl⟩
    rw [ht] at e1
    cases e1
    rw [hA (by omega), e2, Nat.mul_one]
  · cases hk
end
end Go.Proofs.YtgdaiifhedpffaaDoor.V
set_option linter.unusedVariables false
set_option linter.unusedSimpArgs false
namespace Go.Proofs.YtgdaiifhedpffaaDoor.V
open Go
def St.push (st : St) (s : SV) : St := { st with slots := st.slots ++ [s] }
theorem sget_append : ∀ (l m : List SV) (n : Nat), sget (l ++ m) n = if n < l.length then sget l n else sget m (n - l.length)
  | [], m, n => by simp
  | s :: l, m, 0 => by simp [sget]
  | s :: l, m, n + 1 => by simp [sget, sget_append l m n]
theorem sget_over : ∀ (l : List SV) (n : Nat), l.length ≤ n → sget l n = .undef
  | [], n, _ => by cases n <;> rfl
  | s :: l, 0, h => by simp at h
  | s :: l, n + 1, h => by simp only [sget]; exact sget_over l n (by simpa using h)
theorem cast_back {t t' : Ty} (h : t = t') (x : den t) : (h.symm ▸ (h ▸ x : den t') : den t) = x := by subst h; rfl
theorem cput_cget' : ∀ (q : Path) {t : Ty} {m : Md} {x : den t}, Valid t x m q → cput t x q (cget t x q) = x
  | [], _, _, _, _ => rfl
  | s :: q, t, m, x, ⟨hs, hv⟩ => by
    cases t <;> cases s <;> simp only [VStep] at hs <;> (try exact hs.elim)
    · have := cput_cget' q hv
      simp only [cput, cget, vstep, vput, tstep] at this ⊢
      rw [this]
    · have := cput_cget' q hv
      simp only [cput, cget, vstep, vput, tstep] at this ⊢
      rw [this]
    · have := cput_cget' q hv
      simp only [cput, cget, vstep, vput, tstep] at this ⊢
      rw [this]
      exact set_getD' hs.1
where
  set_getD' {α : Type} {a : List α} {d : α} {j : Nat} (h : j < a.length) : a.set j (a.getD j d) = a := by
    apply List.ext_getElem (by simp)
    intro i h1 h2
    rw [List.getElem_set]
    split
    · rename_i e; subst e
      simp [List.getD_eq_getElem?_getD, List.getElem?_eq_getElem h2]
    · rfl
theorem cast_fwd {t t' : Ty} (h : t = t') (x : den t') : (h ▸ (h.symm ▸ x : den t) : den t') = x := by subst h; rfl
theorem cput_idx (j : Nat) : ∀ (q : Path) {t : Ty} {x : den t} {ty : Ty} (ht : ctype t q = .slc ty) (hi : ctype t (q ++ [.idx j]) = ty) (y : den ty),
    cput t x (q ++ [.idx j]) (hi.symm ▸ y) = cput t x q (ht.symm ▸ (List.set (ht ▸ cget t x q : den (.slc ty)) j y : den (.slc ty)))
  | [], t, x, ty, ht, hi, y => by
    have ht : t = .slc ty := ht
    subst ht
    rfl
  | s :: q, t, x, ty, ht, hi, y => congrArg (vput t x s) (cput_idx j q (t := tstep t s) (x := vstep t x s) ht hi y)
theorem vstep_vput {t : Ty} {x : den t} {m : Md} {s : Step} (h : VStep t x m s) (y : den (tstep t s)) : vstep t (vput t x s y) s = y := by
  cases t <;> cases s <;> simp only [VStep] at h <;> (try exact h.elim)
  · rfl
  · rfl
  · rename_i t i
    exact set_at x i y (dflt t) h.1
where
  set_at {α : Type} (x : List α) (i : Nat) (y d : α) (h : i < x.length) : (x.set i y).getD i d = y := by
    rw [List.getD_eq_getElem?_getD, List.getElem?_set_self h]; rfl
theorem vput_vput {t : Ty} {x : den t} {s : Step} (y z : den (tstep t s)) : vput t (vput t x s y) s z = vput t x s z := by
  cases t <;> cases s <;> (try rfl)
  rename_i t i
  exact set_two x i y z
where
  set_two {α : Type} (x : List α) (i : Nat) (y z : α) : (x.set i y).set i z = x.set i z := by simp
theorem cget_cput : ∀ (q : Path) {t : Ty} {m : Md} {x : den t}, Valid t x m q → ∀ y, cget t (cput t x q y) q = y
  | [], _, _, _, _, _ => rfl
  | s :: q, t, m, x, ⟨hs, hv⟩, y => by
    show cget (tstep t s) (vstep t (vput t x s _) s) q = y
    rw [vstep_vput hs]
    exact cget_cput q hv y
theorem cput_cput : ∀ (q : Path) {t : Ty} {m : Md} {x : den t}, Valid t x m q → ∀ y z, cput t (cput t x q y) q z = cput t x q z
  | [], _, _, _, _, _, _ => rfl
  | s :: q, t, m, x, ⟨hs, hv⟩, y, z => by
    have e0 : vput t (vput t x s (cput (tstep t s) (vstep t x s) q y)) s (cput (tstep t s) (vstep t (vput t x s (cput (tstep t s) (vstep t x s) q y)) s) q z) = vput t x s (cput (tstep t s) (vstep t (vput t x s (cput (tstep t s) (vstep t x s) q y)) s) q z) := vput_vput _ _
    refine e0.trans (congrArg (vput t x s) ?_)
    have e1 : vstep t (vput t x s (cput (tstep t s) (vstep t x s) q y)) s = cput (tstep t s) (vstep t x s) q y := vstep_vput hs _
    exact (congrArg (fun v => cput (tstep t s) v q z) e1).trans (cput_cput q hv y z)
theorem VStep_idx {t ty : Ty} {x : den t} {m : Md} {j : Nat} (ht : t = .slc ty) (hj : j < List.length (ht ▸ x : den (.slc ty))) : VStep t x (.own m) (.idx j) := by
  subst ht
  exact ⟨hj, m, rfl⟩
theorem spl_cons {α : Type} (xs : List α) (lo k : Nat) (y : α) (ys : List α) (h : lo < xs.length) : spl (xs.set lo y) (lo + 1) k ys = spl xs lo (k + 1) (y :: ys) := by
  unfold spl
  have e : (xs.set lo y).take (lo + 1) = xs.take lo ++ [y] := by
    rw [List.take_succ_eq_append_getElem (by simpa using h), List.take_set_of_le (Nat.le_refl _)]
    simp
  rw [List.drop_set_of_lt (by omega), e]
  rw [show lo + 1 + k = lo + (k + 1) by omega]
  simp
theorem spl_nil {α : Type} (xs : List α) (lo : Nat) (ys : List α) : spl xs lo 0 ys = xs := by simp [spl]
section
variable {P : Program} {G : Gl} {I0 : Nat → Prop} {st st1 : St} {a : Act} {vs : Array Value} {w w' : World} {Im Im' : Nat → Prop} {R R' : Real} {hand hand' : Frag} {o : Oper} {T : Type} {K : St → Option T} {r0 : T} {Q : Exit → Act → World → Prop} {E : Env}
theorem Inv.push (h : Inv G st vs w Im R hand) {s : SV} {v : Value} (hs : SVV w Im R s v) : Inv G (st.push s) (vs.push v) w Im R hand := by
  refine ⟨h.box, h.rep, h.sep, fun n => ?_, by simp [St.push, h.len], h.keep, h.row⟩
  show SVV w Im R (sget (st.slots ++ [s]) n) _
  rw [sget_append, Array.getD_eq_getD_getElem?, Array.getElem?_push, h.len]
  by_cases h1 : n < vs.size
  · rw [if_pos h1, if_neg (by omega)]
    have := h.slots n
    rwa [Array.getD_eq_getD_getElem?] at this
  · rw [if_neg h1]
    by_cases h2 : n = vs.size
    · rw [if_pos h2, h2, Nat.sub_self]; exact hs
    · rw [if_neg h2]
      obtain ⟨k, hk⟩ : ∃ k, n - vs.size = k + 1 := ⟨n - vs.size - 1, by omega⟩
      rw [hk]; exact .inl rfl
theorem Inv.pop {bs bs' : List (Nat × Bx)} {sl : List SV} {s : SV} {v : Value} (h : Inv G { slots := sl ++ [s], boxes := bs } (vs.push v) w Im R hand) (hb : ∀ j, bget bs' j = bget bs j) : Inv G { slots := sl, boxes := bs' } vs w Im R hand ∧ SVV w Im R s v := by
  have hl : sl.length = vs.size := by have := h.len; simpa using this
  refine ⟨⟨fun i => (hb i).trans (h.box i), h.rep, h.sep, fun n => ?_, hl, h.keep, h.row⟩, ?_⟩
  · by_cases h1 : n < vs.size
    · have := h.slots n
      rw [sget_append, if_pos (by omega), Array.getD_eq_getD_getElem?, Array.getElem?_push, if_neg (by omega)] at this
      rwa [Array.getD_eq_getD_getElem?]
    · rw [show sget ({ slots := sl, boxes := bs' } : St).slots n = .undef from sget_over sl n (by omega)]
      exact .inl rfl
  · have := h.slots vs.size
    rw [sget_append, if_neg (by omega), Array.getD_eq_getD_getElem?, Array.getElem?_push, if_pos rfl, hl, Nat.sub_self] at this
    exact this
theorem Inv.reb {bs bs' : List (Nat × Bx)} {sl : List SV} (h : Inv G { slots := sl, boxes := bs } vs w Im R hand) (hb : ∀ j, bget bs' j = bget bs j) : Inv G { slots := sl, boxes := bs' } vs w Im R hand :=
  ⟨fun i => (hb i).trans (h.box i), h.rep, h.sep, h.slots, h.len, h.keep, h.row⟩
theorem bset_same {bs : List (Nat × Bx)} {r : Nat} {b : Bx} (hb : bget bs r = some b) (j : Nat) : bget (bset r b bs) j = bget bs j := by
  rw [bget_bset]; split
  · rename_i e; rw [e, hb]
  · rfl
theorem splice_inv {ty : Ty} (hfl : flat ty = true) (hsz : sz ty = 1) {r : Nat} {q : Path} {bk off len cap : Nat} {sl : List SV} : ∀ (l : List (den ty)) (cs : List Value) {lo : Nat} {bs : List (Nat × Bx)} {w : World} {R : Real} {b : Bx} {cur : Array Value} {e : TypeId},
    Inv G { slots := sl, boxes := bs } vs w Im R hand → bget bs r = some b → RefOK w R r q (.slice (some ⟨bk, off, none⟩) len cap) → (ht : ctype b.t q = .slc ty) → (∃ m, mget b.m q = .own m) → w.heap[bk]? = some (.cells cur e (0, 0)) →
    RepL (fun x c h => Rep w Im ty .ro x c h) l cs [] → cs.length = l.length → lo + l.length ≤ List.length (ht ▸ cget b.t b.x q : den (.slc ty)) →
    ∃ R', Inv G { slots := sl, boxes := bset r { b with x := cput b.t b.x q (ht.symm ▸ (spl (ht ▸ cget b.t b.x q : den (.slc ty)) lo (List.length l) l : den (.slc ty))) } bs } vs (w.setRow bk (cur.toList.take (off + lo) ++ cs ++ cur.toList.drop (off + lo + cs.length)).toArray) Im R' hand := by
  intro l
  induction l with
  | nil =>
    intro cs lo bs w R b cur e h hb hu ht hm hh hrep hcl hlo
    have : cs = [] := List.length_eq_zero_iff.1 hcl
    subst this
    obtain ⟨rb, hr⟩ := h.real hb
    have hv := (hu b rb hr).1
    refine ⟨R, ?_⟩
    have e1 : (ht.symm ▸ (spl (ht ▸ cget b.t b.x q : den (.slc ty)) lo (List.length ([] : List (den ty))) [] : den (.slc ty)) : den (ctype b.t q)) = cget b.t b.x q := by
      rw [show (spl (ht ▸ cget b.t b.x q : den (.slc ty)) lo (List.length ([] : List (den ty))) [] : List (den ty)) = (ht ▸ cget b.t b.x q : den (.slc ty)) from spl_nil _ _ _]
      exact cast_back ht _
    rw [e1, cput_cget' q hv]
    have e2 : (cur.toList.take (off + lo) ++ ([] : List Value) ++ cur.toList.drop (off + lo + ([] : List Value).length)).toArray = cur := by simp
    rw [e2, setRow_self w bk cur e (0, 0) hh]
    exact h.reb (fun j => bset_same hb j)
  | cons y l ih =>
    intro cs lo bs w R b cur e h hb hu ht hm hh hrep hcl hlo
    obtain ⟨c1, c2, h1, h2, ec, eh, rep1, rep2⟩ := hrep
    obtain ⟨rfl, rfl⟩ : h1 = [] ∧ h2 = [] := by simpa using eh.symm
    obtain ⟨rb, hr⟩ := h.real hb
    obtain ⟨hv, _, ad, hn⟩ := hu b rb hr
    obtain ⟨m, hm⟩ := hm
    have hlen : lo < List.length (ht ▸ cget b.t b.x q : den (.slc ty)) := by simp only [List.length_cons] at hlo; omega
    have hi : ctype b.t (q ++ [.idx lo]) = ty := by rw [ctype_append, ht]; rfl
    have hv1 : Valid b.t b.x b.m (q ++ [.idx lo]) := (Valid_append q _).2 ⟨hv, by rw [hm]; exact VStep_idx ht hlen, trivial⟩
    obtain ⟨cc, hn1⟩ : ∃ cc, nav w b.t rb.cs (locOf b rb) (q ++ [.idx lo]) = some (cc, some (bk, off + lo)) := by
      refine ⟨(cur.toList.drop (off + lo * sz ty)).take (sz ty), ?_⟩
      rw [nav_append, hn]
      simp only [Option.bind]
      rw [ht]
      simp only [nav, navStep, hh]
      rw [hsz, Nat.mul_one]
    have l1 : c1.length = 1 := by rw [rep1.len, hsz]
    have hp := h.push (s := .ref r q) (.ofCell ⟨_, rfl, hu⟩ rfl)
    have hy : Rep w Im (ctype b.t (q ++ [.idx lo])) .ro (hi.symm ▸ y) c1 [] := rep1.cast hi.symm
    obtain ⟨cur2, e2, R1, k1, k2, k3⟩ := Inv.place (hand := hand) (hand' := []) (fl := true) (by rw [List.append_nil]; exact hp) hr hv1 hn1 hy (by rw [hi]; exact hfl.symm) (by simp)
    rw [hh] at k1
    simp only [Option.some.injEq, Obj.cells.injEq] at k1
    obtain ⟨rfl, rfl, _⟩ := k1
    have k4 := k3 { slots := sl ++ [.ref r q], boxes := bset r { b with x := cput b.t b.x (q ++ [.idx lo]) (hi.symm ▸ y) } bs } (fun j => by
      show bget (bset r _ bs) j = _
      rw [bget_bset, if_neg (show ¬ (true = false ∧ _) by simp)]
      simp only [if_neg (show ¬ lev (q ++ [Step.idx lo]) = 0 by rw [lev_append]; simp [lev])]
      rfl) (by rw [if_pos rfl]; rfl)
    obtain ⟨k5, k6⟩ := Inv.pop k4 (fun j => rfl)
    obtain ⟨v', ev', hu1⟩ := k6.cell (by simp) (by simp) (by simp) rfl
    simp only [List.cons.injEq, and_true] at ev'
    subst ev'
    have hb1 : bget (bset r { b with x := cput b.t b.x (q ++ [.idx lo]) (hi.symm ▸ y) } bs) r = some { b with x := cput b.t b.x (q ++ [.idx lo]) (hi.symm ▸ y) } := by rw [bget_bset, if_pos rfl]
    have ex1 : cput b.t b.x (q ++ [.idx lo]) (hi.symm ▸ y) = cput b.t b.x q (ht.symm ▸ (List.set (ht ▸ cget b.t b.x q : den (.slc ty)) lo y : den (.slc ty))) := cput_idx lo q ht hi y
    have eg1 : (ht ▸ cget b.t (cput b.t b.x (q ++ [.idx lo]) (hi.symm ▸ y)) q : den (.slc ty)) = (List.set (ht ▸ cget b.t b.x q : den (.slc ty)) lo y : List (den ty)) := by
      rw [ex1, cget_cput q hv, cast_fwd ht]
    have hl2 : c2.length = l.length := by rw [ec] at hcl; simp only [List.length_append, List.length_cons, l1] at hcl; omega
    have hheap := setRow_heap w bk cur (cur.toList.take (off + lo) ++ c1 ++ cur.toList.drop (off + lo + c1.length)).toArray e (0, 0) hh
    obtain ⟨R2, k7⟩ := ih c2 (lo := lo + 1) (b := { b with x := cput b.t b.x (q ++ [.idx lo]) (hi.symm ▸ y) }) k5 hb1 hu1 ht ⟨m, hm⟩ hheap (flat_rows (w' := w.setRow bk (cur.toList.take (off + lo) ++ c1 ++ cur.toList.drop (off + lo + c1.length)).toArray) (Im' := Im) (m' := .ro) hfl rep2).2 hl2 (by
      show _ ≤ List.length (ht ▸ cget b.t (cput b.t b.x (q ++ [.idx lo]) (hi.symm ▸ y)) q : den (.slc ty))
      rw [eg1, List.length_set]
      simp only [List.length_cons] at hlo
      omega)
    refine ⟨R2, ?_⟩
    rw [setRow_setRow] at k7
    have earr : ((cur.toList.take (off + lo) ++ c1 ++ cur.toList.drop (off + lo + c1.length)).toArray.toList.take (off + (lo + 1)) ++ c2 ++ (cur.toList.take (off + lo) ++ c1 ++ cur.toList.drop (off + lo + c1.length)).toArray.toList.drop (off + (lo + 1) + c2.length)) = cur.toList.take (off + lo) ++ cs ++ cur.toList.drop (off + lo + cs.length) := by
      have hle : off + lo + c1.length ≤ cur.toList.length := by simpa using k2
      have t1 : (cur.toList.take (off + lo) ++ c1).length = off + (lo + 1) := by rw [List.length_append, List.length_take, l1, Nat.min_eq_left (by omega)]; omega
      have d1 : (cur.toList.take (off + lo) ++ c1 ++ cur.toList.drop (off + lo + c1.length)).drop (off + (lo + 1) + c2.length) = cur.toList.drop (off + lo + cs.length) := by
        rw [show off + (lo + 1) + c2.length = (cur.toList.take (off + lo) ++ c1).length + c2.length by omega, List.drop_append, List.drop_of_length_le (by omega), List.nil_append, List.drop_drop]
        congr 1
        rw [ec]; simp only [List.length_append]; omega
      have d2 : (cur.toList.take (off + lo) ++ c1 ++ cur.toList.drop (off + lo + c1.length)).take (off + (lo + 1)) = cur.toList.take (off + lo) ++ c1 := by
        rw [← t1, List.take_left]
      rw [List.toList_toArray, d1, d2, ec]
      simp only [List.append_assoc]
    rw [earr] at k7
    refine k7.reb (fun j => ?_)
    rw [bget_bset, bget_bset, bget_bset]
    split
    · congr 2
      show cput b.t b.x q _ = cput b.t (cput b.t b.x (q ++ [.idx lo]) (hi.symm ▸ y)) q (ht.symm ▸ (spl (ht ▸ cget b.t (cput b.t b.x (q ++ [.idx lo]) (hi.symm ▸ y)) q : den (.slc ty)) (lo + 1) l.length l : den (.slc ty)))
      rw [eg1, spl_cons _ _ _ _ _ hlen, ex1, cput_cput q hv]
      rfl
    · rfl
theorem spliceB_some (h : Inv G st vs w Im R hand) {r : Nat} {q : Path} {lo : Nat} {nn : Option Nat} {ty : Ty} {ys : Nat → List (den ty)} {KK : Nat → St → Option T} (hk : spliceB st r q lo nn ty ys KK = some r0) {u v : Value} (hu : RefOK w R r q u)
    (hv : ∀ b rb t A len cap, R r = some (b, rb) → ctype b.t q = .slc t → u = .slice A len cap → ∃ A' n c', v = .slice A' n c' ∧ n = nn.getD len ∧ lo + n ≤ len ∧ (0 < n → A' = A.map fun a => a.add (lo * sz t))) :
    ∃ bk off n c' st', v = .slice (some ⟨bk, off, none⟩) n c' ∧ 0 < List.length (ys n) ∧ List.length (ys n) ≤ n ∧ KK (List.length (ys n)) st' = some r0 ∧ sz ty = 1 ∧ ∃ cur e, w.heap[bk]? = some (.cells cur e (0, 0)) ∧ off + n ≤ cur.size ∧
      ∀ cs, RepL (fun x c h => Rep w Im ty .ro x c h) (ys n) cs [] → cs.length = List.length (ys n) → ∃ R', Inv G st' vs (w.setRow bk (cur.toList.take off ++ cs ++ cur.toList.drop (off + cs.length)).toArray) Im R' hand := by
  unfold spliceB at hk
  split at hk
  case h_2 => cases hk
  rename_i b hb
  split at hk
  case isFalse => cases hk
  rename_i ht
  split at hk
  case isFalse => cases hk
  rename_i hc
  split at hk
  case isFalse => cases hk
  rename_i hpos
  obtain ⟨hrow, hfl, hsz⟩ := hc
  obtain ⟨m, hm⟩ : ∃ m, mget b.m q = .own m := by
    generalize mget b.m q = mm at hrow
    cases mm <;> simp [copyB.isRow] at hrow
    exact ⟨_, rfl⟩
  obtain ⟨h1, rb, hr, hrep, hsub⟩ := h.ref hb hu
  have hrep := hrep.cast ht
  rw [hm] at hrep
  obtain ⟨A, cap, eu, _⟩ := Rep.ownLen hrep
  obtain ⟨A', n, c', ev, en, hle, hA⟩ := hv b rb ty A _ cap hr ht eu
  rw [← en] at hpos hk
  have hn0 : 0 < n := by omega
  have hne : (ht ▸ cget b.t b.x q : den (.slc ty)) ≠ ([] : List (den ty)) := by
    intro h0
    have : List.length (ht ▸ cget b.t b.x q : den (.slc ty)) = 0 := by rw [h0]; rfl
    omega
  obtain ⟨bk, off, c, e, cap2, h', ecs, eh, hcap, _, hfit, _⟩ := hrep.own_cons hne
  rw [eu] at ecs
  simp only [List.cons.injEq, and_true, Value.slice.injEq] at ecs
  obtain ⟨eA, _, ecap⟩ := ecs
  have hcell : w.heap[bk]? = some (.cells c e (0, 0)) := h.heapOK hr (bk, .cells c e) (fragOf_sub _ (hsub _ (by rw [eh]; exact List.mem_cons_self ..)))
  have hA := hA hn0
  rw [eA] at hA
  simp only [Option.map_some, add_at, hsz, Nat.mul_one] at hA
  rw [hsz, Nat.mul_one] at hfit
  refine ⟨bk, off + lo, n, c', _, by rw [ev, hA], hpos.1, hpos.2, hk, hsz, c, e, hcell, by omega, fun cs hcs hcl => ?_⟩
  rw [eu, eA] at hu
  obtain ⟨R', hR⟩ := splice_inv hfl hsz (ys n) cs (lo := lo) (sl := st.slots) (bs := st.boxes) h hb hu ht ⟨m, hm⟩ hcell hcs hcl (by omega)
  exact ⟨R', hR⟩
theorem spliceS_some (h : Inv G st vs w Im R hand) {s : SV} {ty : Ty} {ys : Nat → List (den ty)} {KK : Nat → St → Option T} (hk : spliceS st s ty ys KK = some r0) {v : Value} (hs : SVV w Im R s v) :
    ∃ bk off n c' st', v = .slice (some ⟨bk, off, none⟩) n c' ∧ 0 < List.length (ys n) ∧ List.length (ys n) ≤ n ∧ KK (List.length (ys n)) st' = some r0 ∧ sz ty = 1 ∧ ∃ cur e, w.heap[bk]? = some (.cells cur e (0, 0)) ∧ off + n ≤ cur.size ∧
      ∀ cs, RepL (fun x c h => Rep w Im ty .ro x c h) (ys n) cs [] → cs.length = List.length (ys n) → ∃ R', Inv G st' vs (w.setRow bk (cur.toList.take off ++ cs ++ cur.toList.drop (off + cs.length)).toArray) Im R' hand := by
  unfold spliceS at hk
  split at hk
  · rename_i r q
    obtain ⟨v', ev, hu⟩ := hs.cell (by simp) (by simp) (by simp) rfl
    simp only [List.cons.injEq, and_true] at ev
    subst ev
    refine spliceB_some h hk hu (fun b rb t A len cap _ _ e => ⟨A, len, cap, e, rfl, by omega, fun _ => ?_⟩)
    cases A <;> simp [Addr.add]
  · rename_i r q lo n
    obtain ⟨v', ev, u, hu, hsub⟩ := hs.cell (by simp) (by simp) (by simp) rfl
    simp only [List.cons.injEq, and_true] at ev
    subst ev
    refine spliceB_some h hk hu (fun b rb t A len cap hr ht e => ?_)
    obtain ⟨t1, A1, len1, cap1, A', cap', q1, q2, q3, q4, q5, q6, q7⟩ := hsub b rb hr
    rw [ht] at q1
    cases q1
    rw [e] at q2
    cases q2
    exact ⟨A', n, cap', q3, rfl, q4, fun h0 => q7 (by omega)⟩
  · cases hk
theorem s2b_rows : ∀ (l : List UInt8), RepL (fun x c h => Rep w Im (.int .u8) .ro x c h) (l.map fun b => ((b.toNat : Nat) : Int)) (Go.Lib.byteCells l) []
  | [] => rfl
  | b :: l => ⟨[.int .u8 (b.toNat : Nat)], Go.Lib.byteCells l, [], [], rfl, rfl, ⟨rfl, rfl⟩, s2b_rows l⟩
theorem zero_rows (k : IntKind) (z : Int) : ∀ n : Nat, RepL (fun x c h => Rep w Im (.int k) .ro x c h) (List.replicate n z) (List.replicate n (Value.int k z)) []
  | 0 => rfl
  | n + 1 => ⟨[.int k z], List.replicate n (.int k z), [], [], rfl, rfl, ⟨rfl, rfl⟩, zero_rows k z n⟩
theorem step_copyS (hE : EnvOk P E) (hd : a.defers = []) (hI : ∀ b, I0 b → Im b) (h : Inv G st a.tmps w Im R []) {cl : Call} (ho : o.op = .call cl) (hc : cl.callee = .builtin .copy) {x y : Operand} (harg : cl.args = #[x, y]) {t u e : TypeId} (hty : cl.argTypes = #[t, u])
    (hu : P.underlying t = some (.slice e)) {ee : TE} (hee : E.get e = some ee) (hu8 : ee.ty = .int .u8)
    (hk : (asStr (st.ev y) fun z => spliceS st (st.ev x) (.int .u8) (fun _ => s2b z) (fun k st => K (st.set o.dst (.con (.int .i64) (k : Nat))))) = some r0) : o.wp P a w (Post G I0 K r0) Q := by
  obtain ⟨z, ez, hk⟩ := asStr_some hk
  have hy := (ez ▸ h.ev y : SVV w Im R (.con .str z) (a.eval y)).str
  obtain ⟨bk, off, n, c', st', ev, hpos, hle, hk, _, cur, el, hh, hfit, hall⟩ := spliceS_some h hk (h.ev x)
  have hl : List.length (s2b z) = z.size := by simp [s2b, ← ByteArray.size_data]
  rw [hl] at hpos hle hk
  have hlc : (Go.Lib.byteCells z.data.toList).length = List.length (s2b z) := by rw [hl, Go.Lib.byteCells_length, ← Go.Lib.size_eq]
  obtain ⟨R', hR⟩ := hall (Go.Lib.byteCells z.data.toList) (s2b_rows z.data.toList) hlc
  rw [hlc, hl] at hR
  have hi1 : (P.info? e).map (·.size) = some 1 := by
    obtain ⟨⟨i, hi⟩, _⟩ := hE e ee hee
    rw [hi.info]; simp [hi.size, hu8, sz]
  have hrun := Go.Lib.run_copy_row_string (P := P) w t u o.type e bk off n c' z cur el hu hi1 hh hle (by omega)
  have hex : (execOp a.eval o).run P w = .ok (.value (.int .i64 ((z.size : Nat) : Int))) (w.setRow bk (cur.toList.take off ++ Go.Lib.byteCells z.data.toList ++ cur.toList.drop (off + z.size)).toArray) := by
    simp [execOp, ho, resolve, invoke, builtin, hc, harg, hty, ev, hy, hrun, Result.andThen, goInt]
  exact wp_to hex hd hI hR (.ofInt _ _) hk
theorem step_copyQ (hE : EnvOk P E) (hd : a.defers = []) (hI : ∀ b, I0 b → Im b) (h : Inv G st a.tmps w Im R []) {cl : Call} (ho : o.op = .call cl) (hc : cl.callee = .builtin .copy) {x y : Operand} (harg : cl.args = #[x, y]) {t u e : TypeId} (hty : cl.argTypes = #[t, u])
    (hu : P.underlying t = some (.slice e)) {ee : TE} (hee : E.get e = some ee) {r : Nat} {q : Path} {lo n : Nat} (hx : st.ev x = .sub r q lo n)
    (hk : copyQ st r q lo n ee (st.ev y) (fun k st => K (st.set o.dst (.con (.int .i64) (k : Nat)))) = some r0) : o.wp P a w (Post G I0 K r0) Q := by
  unfold copyQ at hk
  split at hk
  case h_2 => cases hk
  rename_i t' ys0 ey0
  split at hk
  case isFalse => cases hk
  rename_i ht'
  subst ht'
  split at hk
  case isFalse => cases hk
  rename_i hu8
  obtain ⟨cs0, e0, hys⟩ : ∃ cs, cs = [a.eval y] ∧ Rep w Im (.slc ee.ty) .ro ys0 cs [] := by
    rcases (ey0 ▸ h.ev y : SVV w Im R (.con (.slc ee.ty) ys0) (a.eval y)) with e | ⟨_, _, _, e | ⟨_, _, e⟩⟩ | ⟨cs, e1, e2⟩
    · cases e
    · cases e
    · cases e
    · rw [if_neg (by simp [isAgg])] at e1
      exact ⟨cs, e1, e2⟩
  subst e0
  obtain ⟨_, A2, cap2, ey, _, hys⟩ := hys
  simp only [List.cons.injEq, and_true] at ey
  have hk : spliceS st (st.ev x) ee.ty (fun _ => ys0) (fun k st => K (st.set o.dst (.con (.int .i64) (k : Nat)))) = some r0 := by rw [hx]; exact hk
  obtain ⟨bk, off, n', c', st', ev, hpos, hle, hk, hsz, cur, el, hh, hfit, hall⟩ := spliceS_some h hk (h.ev x)
  have hpos : 0 < List.length ys0 := hpos
  obtain ⟨b2, o2, c2, el2, fz2, eA2, _, hh2, hrows2⟩ := hys (by intro h0; rw [h0] at hpos; simp at hpos)
  have hl2 : List.length ys0 ≤ (c2.toList.drop o2).length := by
    have := hrows2.len (n := 1) (fun _ _ _ r => by rw [r.len, hsz]); omega
  have hcsl : ((c2.toList.drop o2).take (List.length ys0)).length = List.length ys0 := by rw [List.length_take]; omega
  have hrows : RepL (fun x c h => Rep w Im ee.ty .ro x c h) ys0 ((c2.toList.drop o2).take (List.length ys0)) [] :=
    hrows2.cut (n := 1) (fun _ _ _ r => by rw [r.len, hsz]) (by rw [Nat.mul_one, List.take_take, Nat.min_self])
  obtain ⟨R', hR⟩ := hall _ hrows hcsl
  have hi1 : (P.info? e).map (·.size) = some 1 := by
    obtain ⟨⟨i, hi⟩, _⟩ := hE e ee hee
    rw [hi.info]; simp [hi.size, hu8, sz]
  have hle : List.length ys0 ≤ n' := hle
  have hrun := run_copy_row (P := P) w t u o.type e bk off n' c' ⟨b2, o2, none⟩ (List.length ys0) cap2 cur el ((c2.toList.drop o2).take (List.length ys0)) hu hi1 hh (by rw [hcsl]; exact (Nat.min_eq_left hle).symm) (fun j v hj => by
    have hj2 : j < List.length ys0 := by
      have := (List.getElem?_eq_some_iff.1 hj).1
      rw [hcsl] at this; exact this
    rw [List.getElem?_take_of_lt hj2, List.getElem?_drop] at hj
    rw [add_at]
    simp only [World.cell?, hh2]
    simpa using hj) (by rw [hcsl]; omega) (by
    have hall := hrows2.all (p := fun v => v.oneCell' = true) (n := 1) (fun _ _ _ r => r.one) (fun _ _ _ r => by rw [r.len, hsz])
    intro v hv
    exact hall v (by rw [Nat.mul_one]; exact hv))
  rw [hcsl] at hrun hR
  have hex : (execOp a.eval o).run P w = .ok (.value (.int .i64 ((List.length ys0 : Nat) : Int))) (w.setRow bk (cur.toList.take off ++ (c2.toList.drop o2).take (List.length ys0) ++ cur.toList.drop (off + List.length ys0)).toArray) := by
    simp [execOp, ho, resolve, invoke, builtin, hc, harg, hty, ev, ey, eA2, hrun, Result.andThen, goInt]
  exact wp_to hex hd hI hR (.ofInt _ _) hk
theorem run_clear_at (w : World) (t e ty : TypeId) (z : Value) (ht : P.underlying t = some (.slice e)) (hv : (zeroValue e).run P w = .ok z w) (hz : z.cells = #[z]) (h1 : z.oneCell' = true) (b o n c : Nat) (hn : 0 < n)
    {cur : Array Value} {el : TypeId} (hg : w.heap[b]? = some (.cells cur el (0, 0))) (hfit : o + n ≤ cur.size) :
    (Builtin.clear_ #[t] ty #[.slice (some ⟨b, o, none⟩) n c]).run P w = .ok (.tuple #[]) (w.setRow b (cur.toList.take o ++ List.replicate n z ++ cur.toList.drop (o + n)).toArray) := by
  have hzc : (Builtin.zeroCells z.cells n).toList = List.replicate n z := by
    rw [hz]
    simp [Builtin.zeroCells]
    apply List.ext_getElem
    · simp
    · intro i h1 h2
      simp [Nat.mod_one]
  have hst := run_storeCells_at P b o el (List.replicate n z) 0 cur w hg (by simpa using hfit) (by intro v hv'; rw [List.eq_of_mem_replicate hv']; exact h1)
  simp only [Nat.add_zero, List.length_replicate] at hst
  obtain ⟨m, rfl⟩ : ∃ m, n = m + 1 := ⟨n - 1, by omega⟩
  simp [Builtin.clear_, run_underlying ht, hv, hzc, hst]
theorem step_clear (hE : EnvOk P E) (hd : a.defers = []) (hI : ∀ b, I0 b → Im b) (h : Inv G st a.tmps w Im R []) {cl : Call} (ho : o.op = .call cl) (hc : cl.callee = .builtin .clear) {x : Operand} (harg : cl.args = #[x]) {t e : TypeId} (hty : cl.argTypes = #[t])
    (hu : P.underlying t = some (.slice e)) {ee : TE} (hee : E.get e = some ee) (hz : ee.z = true) (hu8 : ee.ty = .int .u8)
    (hk : (spliceS st (st.ev x) (.int .u8) (fun n => List.replicate n (0 : Int)) (fun _ st => K (st.set o.dst .tnil))) = some r0) : o.wp P a w (Post G I0 K r0) Q := by
  obtain ⟨bk, off, n, c', st', ev, hpos, hle, hk, _, cur, el, hh, hfit, hall⟩ := spliceS_some h hk (h.ev x)
  have hl : List.length (List.replicate n (0 : Int)) = n := List.length_replicate
  have hpos : 0 < n := by rw [← hl]; exact hpos
  obtain ⟨R', hR⟩ := hall (List.replicate n (.int .u8 0)) (zero_rows .u8 0 n) (by simp)
  rw [List.length_replicate] at hR
  obtain ⟨⟨i, hi⟩, _⟩ := hE e ee hee
  obtain ⟨z, hz1, hz2⟩ := hi.zero1 hz (by rw [hu8]; rfl)
  rw [hu8] at hz2
  have ez : z = .int .u8 0 := by simpa [zcells] using hz2.symm
  subst ez
  have hzero : (zeroValue e).run P w = .ok (.int .u8 0) w := by simp [zeroValue, typeInfo, hi.info, hz1]
  have hrun := run_clear_at (P := P) w t e o.type (.int .u8 0) hu hzero rfl rfl bk off n c' hpos hh hfit
  have hex : (execOp a.eval o).run P w = .ok (.value (.tuple #[])) (w.setRow bk (cur.toList.take off ++ List.replicate n (Value.int .u8 0) ++ cur.toList.drop (off + n)).toArray) := by
    simp [execOp, ho, resolve, invoke, builtin, hc, harg, hty, ev, hrun, Result.andThen]
  exact wp_to (s := .tnil) hex hd hI hR (.inr (.inl ⟨#[], rfl, ⟨rfl, rfl⟩, .inl rfl⟩)) hk
end
end Go.Proofs.YtgdaiifhedpffaaDoor.V
set_option linter.unusedVariables false
set_option linter.unusedSimpArgs false
namespace Go.Proofs.YtgdaiifhedpffaaDoor.V
open Go
def keyD : Ty → Option TypeDesc
  | .int k => some (.int k)
  | .bool => some .bool
  | .str => some .string
  | _ => none
theorem ba_beq (a b : ByteArray) : (a == b) = strEq a b := by
  unfold strEq
  rw [ByteArray.toList_eq, ByteArray.toList_eq]
  show (a.data == b.data) = _
  by_cases h : a.data = b.data
  · rw [h]; simp
  · have h2 : ¬ a.data.toList = b.data.toList := fun e => h (Array.toList_inj.1 e)
    rw [beq_eq_false_iff_ne.2 h, beq_eq_false_iff_ne.2 h2]
theorem strEq_iff (a b : ByteArray) : strEq a b = true ↔ a = b := by
  rw [← ba_beq]
  show (a.data == b.data) = true ↔ _
  rw [beq_iff_eq]
  exact ⟨ByteArray.ext, fun e => by rw [e]⟩
theorem keq_iff {t : Ty} (h : keyT t = true) (a b : den t) : keq t a b = true ↔ a = b := by
  cases t with
  | int k => simp [keq]
  | bool => simp [keq]
  | str => exact strEq_iff a b
  | _ => simp [keyT] at h
theorem sameNow_ok {t : Ty} {d : TypeDesc} (hd : keyD t = some d) {a b : den t} {u v : Value} (hu : kv t a u) (hv : kv t b v) : Instr.sameNow d u v = some (keq t a b) := by
  cases t with
  | int k =>
    cases hd; cases hu; cases hv
    simp only [Instr.sameNow, keq, if_true]
    rfl
  | bool => cases hd; cases hu; cases hv; rfl
  | str => cases hd; cases hu; cases hv; simp only [Instr.sameNow, keq, ba_beq]
  | _ => simp [keyD] at hd
theorem kv_val {t : Ty} {a : den t} {u v : Value} (hu : kv t a u) (hv : kv t a v) : u = v := by
  cases t <;> first | (cases hu; cases hv; rfl) | (simp [kv] at hu)
theorem kv_bits {t : Ty} {a : den t} {u : Value} (hu : kv t a u) (n : Nat) : Instr.sameBits n u u = true := by
  cases t <;> first | (cases hu; cases n <;> simp [Instr.sameBits, ba_beq, strEq]; done) | (simp [kv] at hu)
theorem kv_of_rep {w : World} {Im : Nat → Prop} {t : Ty} (h : keyT t = true) {m : Md} {x : den t} {v : Value} {hh : Frag} (r : Rep w Im t m x [v] hh) : kv t x v := by
  cases t with
  | int k => have := r.1; simpa [kv] using this
  | bool => have := r.1; simpa [kv] using this
  | str => have := r.1; simpa [kv] using this
  | _ => simp [keyT] at h
section
variable {α : Type} {f : α → Value → Prop}
def eget (k : Ty) : List (den k × α) → den k → Option α
  | [], _ => none
  | p :: l, a => if keq k a p.1 = true then some p.2 else eget k l a
theorem findNow_ok {t : Ty} {d : TypeDesc} (hd : keyD t = some d) {a : den t} {u : Value} (hu : kv t a u) : ∀ {x : List (den t × α)} {es : List MapEntry} (i : Nat), EntL f x es →
    (eget t x a = none ∧ Instr.findNow d u es i = some none) ∨ ∃ j e y, es[j]? = some e ∧ e.key = u ∧ eget t x a = some y ∧ f y e.val ∧ Instr.findNow d u es i = some (some (i + j, e.val))
  | [], [], i, _ => .inl ⟨rfl, rfl⟩
  | p :: x, e :: es, i, ⟨h1, h2, h3⟩ => by
    have hs := sameNow_ok hd hu h1
    by_cases hq : keq t a p.1 = true
    · refine .inr ⟨0, e, p.2, rfl, ?_, by simp [eget, hq], h2, ?_⟩
      · have hk : keyT t = true := by cases t <;> simp [keyD] at hd <;> rfl
        have := (keq_iff hk _ _).1 hq
        rw [← this] at h1
        exact kv_val h1 hu
      · simp only [Instr.findNow, hs, hq]; rfl
    · have hq : keq t a p.1 = false := by simpa using hq
      rcases findNow_ok hd hu (i + 1) h3 with ⟨g1, g2⟩ | ⟨j, e', y, g1, g2, g3, g4, g5⟩
      · exact .inl ⟨by simp [eget, hq, g1], by simp only [Instr.findNow, hs, hq]; exact g2⟩
      · exact .inr ⟨j + 1, e', y, g1, g2, by simp [eget, hq, g3], g4, by simp only [Instr.findNow, hs, hq]; rw [g5]; congr 3; omega⟩
  | [], _ :: _, _, h => h.elim
  | _ :: _, [], _, h => h.elim
end
theorem eget_mfind {k v : Ty} (x : List (den k × den v)) (a : den k) : eget k x a = mfind k v x a := by
  induction x with
  | nil => rfl
  | cons p l ih => simp [eget, mfind, ih]
theorem mset_new {k v : Ty} {f : den v → Value → Prop} {a : den k} {y : den v} {u c : Value} {born : Nat} (hu : kv k a u) (hc : f y c) : ∀ {x : List (den k × den v)} {es : List MapEntry}, EntL f x es → mfind k v x a = none → EntL f (mset k v x a y) (es ++ [⟨u, c, born⟩])
  | [], [], _, _ => ⟨hu, hc, trivial⟩
  | p :: x, e :: es, ⟨h1, h2, h3⟩, hm => by
    simp only [mfind] at hm
    split at hm
    · cases hm
    · rename_i hq
      simp only [mset, if_neg hq]
      exact ⟨h1, h2, mset_new hu hc h3 hm⟩
  | [], _ :: _, h, _ => h.elim
  | _ :: _, [], h, _ => h.elim
theorem mset_old {k v : Ty} (hk : keyT k = true) {f : den v → Value → Prop} {a : den k} {y : den v} {u c : Value} (hu : kv k a u) (hc : f y c) {g : MapEntry → MapEntry} (hg : ∀ e, (g e).key = u ∧ (g e).val = c) :
    ∀ {x : List (den k × den v)} {es : List MapEntry} {d : TypeDesc}, keyD k = some d → EntL f x es → ∀ {j i : Nat} {z : Value}, Instr.findNow d u es i = some (some (i + j, z)) → EntL f (mset k v x a y) (es.modify j g)
  | [], [], d, hd, _, j, i, z, hf => by simp [Instr.findNow] at hf
  | p :: x, e :: es, d, hd, ⟨h1, h2, h3⟩, j, i, z, hf => by
    have hs := sameNow_ok hd hu h1
    simp only [Instr.findNow, hs] at hf
    by_cases hq : keq k a p.1 = true
    · rw [hq] at hf
      simp only [Option.some.injEq, Prod.mk.injEq] at hf
      have : j = 0 := by omega
      subst this
      simp only [mset, if_pos hq]
      refine ⟨?_, ?_, h3⟩
      · have := (keq_iff hk _ _).1 hq
        rw [← this]
        show kv k a (g e).key
        rw [(hg e).1]; exact hu
      · show f y (g e).val
        rw [(hg e).2]; exact hc
    · have hq : keq k a p.1 = false := by simpa using hq
      rw [hq] at hf
      have hj : 1 ≤ j := by
        have : ∀ (es : List MapEntry) (i n : Nat) (z : Value), Instr.findNow d u es i = some (some (n, z)) → i ≤ n := by
          intro es
          induction es with
          | nil => intro i n z h; simp [Instr.findNow] at h
          | cons e es ih =>
            intro i n z h
            simp only [Instr.findNow] at h
            split at h
            · simp only [Option.some.injEq, Prod.mk.injEq] at h; omega
            · have := ih _ _ _ h; omega
            · cases h
        have := this _ _ _ _ hf
        omega
      obtain ⟨j, rfl⟩ : ∃ n, j = n + 1 := ⟨j - 1, by omega⟩
      rw [show i + (j + 1) = (i + 1) + j by omega] at hf
      simp only [mset, if_neg (by simp [hq] : ¬ keq k a p.1 = true), List.modify_succ_cons]
      exact ⟨h1, h2, mset_old hk hu hc hg hd h3 hf⟩
  | [], _ :: _, _, _, h, _, _, _, _ => h.elim
  | _ :: _, [], _, _, h, _, _, _, _ => h.elim
section
variable {P : Program} {G : Gl} {I0 : Nat → Prop} {st st1 : St} {a : Act} {vs : Array Value} {w w' : World} {Im Im' : Nat → Prop} {R R' : Real} {hand hand' : Frag} {o : Oper} {T : Type} {K : St → Option T} {r0 : T} {Q : Exit → Act → World → Prop} {E : Env}
theorem EnvOk.key (hE : EnvOk P E) {t : TypeId} {te : TE} (ht : E.get t = some te) (hk : keyT te.ty = true) : ∃ d, keyD te.ty = some d ∧ P.underlying t = some d := by
  have hu := (hE t te ht).2.1
  unfold UndOk at hu
  split at hu
  · exact ⟨_, by rw [hu.2]; rfl, hu.1⟩
  · exact ⟨_, by rw [hu.2]; rfl, hu.1⟩
  · exact ⟨_, by rw [hu.2]; rfl, hu.1⟩
  · obtain ⟨_, ee, _, e⟩ := hu; rw [e] at hk; simp [keyT] at hk
  · obtain ⟨_, _, hs, _⟩ := hu; cases ht2 : te.ty <;> rw [ht2] at hk hs <;> simp [keyT, structTy] at hk hs
  · obtain ⟨_, _, hs, _⟩ := hu; cases ht2 : te.ty <;> rw [ht2] at hk hs <;> simp [keyT, structTy] at hk hs
  · obtain ⟨_, ke, ve, _, _, e⟩ := hu; rw [e] at hk; simp [keyT] at hk
  · obtain ⟨d, _, _, e⟩ := hu; rw [e] at hk; simp [keyT] at hk
theorem EnvOk.mp (hE : EnvOk P E) {t k v : TypeId} {te ke ve : TE} (ht : E.get t = some te) (hd : te.d = .mp k v) (hk : E.get k = some ke) (hv : E.get v = some ve) : P.underlying t = some (.map k v) ∧ te.ty = .mp ke.ty ve.ty := by
  have hu := (hE t te ht).2.1
  unfold UndOk at hu
  rw [hd] at hu
  obtain ⟨h1, ke', ve', h2, h3, h4⟩ := hu
  rw [hk] at h2; cases h2
  rw [hv] at h3; cases h3
  exact ⟨h1, h4⟩
theorem run_checkKey {t : TypeId} {d : TypeDesc} (hu : P.underlying t = some d) {kt : Ty} (hd : keyD kt = some d) (b : Bool) (v : Value) : (Instr.checkKey b 10000 t v).run P w = .ok () w := by
  rw [show (10000 : Nat) = 9999 + 1 from rfl, Instr.checkKey]
  simp only [Sem.run_bind, run_underlying hu, Result.andThen_ok]
  cases kt <;> simp [keyD] at hd <;> subst hd <;> rfl
theorem run_findKey {t : TypeId} {d : TypeDesc} (hu : P.underlying t = some d) {k : Value} {es : List MapEntry} {r : Option (Nat × Value)} (hf : Instr.findNow d k es 0 = some r) : (Instr.findKey t k es).run P w = .ok r w := by
  unfold Instr.findKey
  simp only [Sem.run_bind, run_underlying hu, Result.andThen_ok, hf]
  rfl
theorem look_one (h : Inv G st a.tmps w Im R hand) {x : Operand} {t : Ty} {K : den t → Option T} (hag : isAgg (st.ev x) = false) (hk : look st.boxes (st.ev x) t K = some r0) :
    ∃ y, K y = some r0 ∧ Rep w (With Im R (roots (st.ev x))) t .ro y [a.eval x] [] := by
  have hne := look_ne0 hk
  exact look_some h hk ((h.ev x).cell hne.1 hne.2.1 hne.2.2 hag)
theorem step_makeMap (hE : EnvOk P E) (hd : a.defers = []) (hI : ∀ b, I0 b → Im b) (h : Inv G st a.tmps w Im R []) {t : TypeId} (ho : o.op = .makeMap t none) {te : TE} (ht : E.get t = some te) {k v : TypeId} (hdd : te.d = .mp k v) {d : Tmp} (hdst : o.dst = some d)
    (hk : K ((st.lay (d * 16) { mem := none, t := te.ty, m := .own (.own .ro), x := dflt te.ty }).set (some d) (.ref (d * 16) [])) = some r0) : o.wp P a w (Post G I0 K r0) Q := by
  have hu := (hE t te ht).2.1
  unfold UndOk at hu; rw [hdd] at hu
  obtain ⟨_, ke, ve, _, _, hty⟩ := hu
  have hrun : (execOp a.eval o).run P w = .ok (.value (.map (some w.heap.size))) (w.alloc (.map #[] 0)) := by
    unfold execOp
    simp only [ho, Instr.makeMap, Option.map_none, Sem.run_bind]
    rfl
  have h1 := h.allocO (.map #[] 0)
  obtain ⟨td, tty, tb, tz⟩ := te
  dsimp only at hty hk
  subst hty
  have h2 := h1.lay (d * 16) (b := { mem := none, t := .mp ke.ty ve.ty, m := .own (.own .ro), x := dflt (.mp ke.ty ve.ty) }) (rb := ⟨0, [.map (some w.heap.size)], [(w.heap.size, .map #[] 0)]⟩)
    (.inr ⟨_, #[], 0, rfl, rfl, trivial⟩) rfl
  rw [← hdst] at hk
  exact wp_to hrun hd hI h2 (ref_ok rfl rfl R) hk
theorem fitM_ro (t : Ty) : fitM t .ro = .ro := by cases t <;> rfl
theorem Rep.anyIm {t : Ty} (h : keyT t = true) {m m' : Md} {x : den t} {v : Value} (r : Rep w Im t m x [v] []) : Rep w' Im' t m' x [v] [] := by
  cases t with
  | int k => exact r
  | bool => exact r
  | str => exact r
  | _ => simp [keyT] at h
theorem look_val (h : Inv G st a.tmps w Im R hand) {x : Operand} {t : Ty} {K : den t → Option T} (hag : isAgg (st.ev x) = false) (hc : keyT t = true ∨ isCon (st.ev x) = true) (hk : look st.boxes (st.ev x) t K = some r0) :
    ∃ y, K y = some r0 ∧ Rep w Im t .ro y [a.eval x] [] := by
  rcases hc with hc | hc
  · obtain ⟨y, hk, r⟩ := look_one h hag hk
    exact ⟨y, hk, r.anyIm hc⟩
  · have hne := look_ne0 hk
    have hs := (h.ev x).cell hne.1 hne.2.1 hne.2.2 hag
    generalize st.ev x = s at hs hk hc
    cases s <;> simp [isCon] at hc
    simp only [look] at hk
    split at hk
    · rename_i e; subst e; exact ⟨_, hk, hs⟩
    · cases hk
theorem look_map (h : Inv G st vs w Im R hand) {s : SV} {k v : Ty} {K : den (.mp k v) → Option T} {u : Value} (hs : SVX w Im R s false [u]) (hk : look st.boxes s (.mp k v) K = some r0) :
    ∃ x, K x = some r0 ∧ ((x = [] ∧ u = .map none) ∨ ∃ b es clk, u = .map (some b) ∧ w.heap[b]? = some (.map es clk) ∧ EntL (fun y c => Rep w Im v .ro y [c] []) x es.toList) := by
  cases s with
  | con t' x =>
    simp only [look] at hk
    split at hk
    · rename_i e
      subst e
      obtain ⟨_, r⟩ := hs
      refine ⟨x, hk, ?_⟩
      rcases r with ⟨e1, e2⟩ | ⟨b, es, clk, e1, _, e3, r⟩
      · exact .inl ⟨e1, by simpa using e2⟩
      · exact .inr ⟨b, es, clk, by simpa using e1, e3, r⟩
    · cases hk
  | raw u' =>
    simp only [look] at hk
    split at hk
    · rename_i x hp
      have hs : [u] = u'.cells.toList := hs
      rw [← hs] at hp
      cases u with
      | map a =>
        cases a <;> simp [parse] at hp
        exact ⟨x, hk, .inl ⟨hp, rfl⟩⟩
      | _ => simp [parse] at hp
    · cases hk
  | ref r q =>
    simp only [look] at hk
    split at hk
    · rename_i b hb
      split at hk
      · rename_i e
        split at hk
        · rename_i hl
          obtain ⟨u', e1, hr⟩ := hs
          simp only [List.cons.injEq, and_true] at e1
          subst e1
          obtain ⟨h1, rb, hrr, n2, n3⟩ := h.ref hb hr
          have n2 := Rep.cast e n2
          refine ⟨_, hk, ?_⟩
          rw [e] at hl
          generalize mget b.m q = m at n2 hl
          generalize (e ▸ cget b.t b.x q : den (.mp k v)) = x at n2
          cases m with
          | ro =>
            obtain ⟨_, r⟩ := n2
            rcases r with ⟨e1, e2⟩ | ⟨b, es, clk, e1, _, e3, r⟩
            · exact .inl ⟨e1, by simpa using e2⟩
            · exact .inr ⟨b, es, clk, by simpa using e1, e3, r⟩
          | own m =>
            rcases n2 with ⟨_, e1, e2, _⟩ | ⟨b', es, clk, e1, e2, r⟩
            · exact .inl ⟨e1, by simpa using e2⟩
            · subst e2
              exact .inr ⟨b', es, clk, by simpa using e1, h.heapOK hrr _ (fragOf_sub _ (n3 _ (List.mem_singleton.2 rfl))), r⟩
          | _ => simp [live] at hl
        · cases hk
      · cases hk
    · cases hk
  | _ => simp [look] at hk
theorem step_lookup (hE : EnvOk P E) (hd : a.defers = []) (hI : ∀ b, I0 b → Im b) (h : Inv G st a.tmps w Im R []) {t : TypeId} {x ix : Operand} {ok : Bool} (ho : o.op = .lookup t x ix ok) {te ke ve : TE} (ht : E.get t = some te) {k v : TypeId} (hdd : te.d = .mp k v)
    (hke : E.get k = some ke) (hve : E.get v = some ve) (hkt : keyT ke.ty = true) (hvt : oneT ve.ty = true) (hz : ve.z = true) (hx : isAgg (st.ev x) = false) (hix : isAgg (st.ev ix) = false)
    (hk : look st.boxes (st.ev x) (.mp ke.ty ve.ty) (fun m => look st.boxes (st.ev ix) ke.ty fun key =>
              cond ok (K (st.set o.dst (.tcons (.con ve.ty ((mfind ke.ty ve.ty m key).getD (dflt ve.ty))) (.tcons (.con .bool (mfind ke.ty ve.ty m key).isSome) .tnil))))
                (K (st.set o.dst (.con ve.ty ((mfind ke.ty ve.ty m key).getD (dflt ve.ty)))))) = some r0) : o.wp P a w (Post G I0 K r0) Q := by
  obtain ⟨hu, _⟩ := hE.mp ht hdd hke hve
  obtain ⟨d, hd1, hd2⟩ := hE.key hke hkt
  obtain ⟨⟨i, hi⟩, _⟩ := hE v ve hve
  obtain ⟨z, hz1, hz2⟩ := hi.zero1 hz hvt
  have hne := look_ne0 hk
  obtain ⟨m, hk, hm⟩ := look_map h ((h.ev x).cell hne.1 hne.2.1 hne.2.2 hx) hk
  obtain ⟨key, hk, hkey⟩ := look_one h hix hk
  have hkey := kv_of_rep hkt hkey
  -- what is found
  have hfound : ∃ y c, (mfind ke.ty ve.ty m key).getD (dflt ve.ty) = y ∧ Rep w Im ve.ty .ro y [c] [] ∧
      (Instr.lookup t (a.eval x) (a.eval ix) ok).run P w = .ok (if ok then .tuple #[c, .bool (mfind ke.ty ve.ty m key).isSome] else c) w := by
    have hzero : (zeroValue v).run P w = .ok z w := by simp [zeroValue, typeInfo, hi.info, hz1]
    have hdef : Rep w Im ve.ty .ro (dflt ve.ty) [z] [] := by
      have := dflt_rep (w := w) (Im := Im) ve.ty .ro
      rw [fitM_ro, hz2] at this; exact this
    rcases hm with ⟨e1, e2⟩ | ⟨b, es, clk, e1, e2, hent⟩
    · subst e1
      refine ⟨_, z, rfl, hdef, ?_⟩
      have hf : (Instr.findKey k (a.eval ix) []).run P w = .ok none w := run_findKey hd2 rfl
      simp only [Instr.lookup, e2, Sem.run_bind, run_underlying hu, Result.andThen_ok, Sem.run_pure, run_checkKey hd2 hd1, hf, hzero]
      rfl
    · rcases findNow_ok hd1 hkey 0 hent with ⟨g1, g2⟩ | ⟨j, e, y, g1, g2, g3, g4, g5⟩
      · rw [eget_mfind] at g1
        rw [g1]
        refine ⟨_, z, rfl, hdef, ?_⟩
        have hf : (Instr.findKey k (a.eval ix) es.toList).run P w = .ok none w := run_findKey hd2 g2
        simp only [Instr.lookup, e1, Sem.run_bind, run_underlying hu, Result.andThen_ok, Sem.run_pure, run_checkKey hd2 hd1, hf, hzero, MapKept.run_getObj_map e2]
        rfl
      · rw [eget_mfind] at g3
        rw [g3]
        refine ⟨_, e.val, rfl, g4, ?_⟩
        have hf : (Instr.findKey k (a.eval ix) es.toList).run P w = .ok (some (0 + j, e.val)) w := run_findKey hd2 g5
        simp only [Instr.lookup, e1, Sem.run_bind, run_underlying hu, Result.andThen_ok, Sem.run_pure, run_checkKey hd2 hd1, hf, hzero, MapKept.run_getObj_map e2]
        rfl
  obtain ⟨y, c, ey, hrep, hrun⟩ := hfound
  rw [ey] at hk
  have hagc : isAgg (.con ve.ty y) = false := by rw [isAgg_con]; cases h : ve.ty <;> rw [h] at hvt <;> first | rfl | simp [oneT] at hvt
  cases ok with
  | true =>
    refine wp_value (v := .tuple #[c, .bool (mfind ke.ty ve.ty m key).isSome]) (by simp [execOp, ho, hrun, Result.andThen]) hd hI h (.inr (.inl ⟨_, rfl, ?_, .inr ⟨_, _, rfl⟩⟩)) hk
    exact ⟨rfl, c, [_], rfl, .inr ⟨[c], by rw [if_neg (by simp [hagc])], hrep⟩, rfl, _, [], rfl, .inr ⟨[_], by rw [if_neg (by simp [isAgg])], ⟨rfl, rfl⟩⟩, rfl, rfl⟩
  | false =>
    exact wp_value (v := c) (by simp [execOp, ho, hrun, Result.andThen]) hd hI h (.ofCell (s := .con ve.ty y) hrep hagc) hk
theorem Keep.setAt {k : Nat} {o : Obj} (h : Keep G w) (hk : G.w0.heap.size ≤ k ∨ k ∈ G.ks) : Keep G { w with heap := w.heap.setIfInBounds k o } :=
  ⟨h.os, h.tape, h.output, by show _ ≤ (w.heap.setIfInBounds k o).size; simp; exact h.size, fun b hb hn => by
    show (w.heap.setIfInBounds k o)[b]? = _
    rw [Array.getElem?_setIfInBounds_ne (by rintro rfl; rcases hk with hk | hk; · omega
                                            · exact hn hk)]
    exact h.block b hb hn⟩
theorem step_mapUpdate (hE : EnvOk P E) (hd : a.defers = []) (hI : ∀ b, I0 b → Im b) (h : Inv G st a.tmps w Im R []) {t : TypeId} {m ix x : Operand} (ho : o.op = .mapUpdate t m ix x) {te ke ve : TE} (ht : E.get t = some te) {k v : TypeId} (hdd : te.d = .mp k v)
    (hke : E.get k = some ke) (hve : E.get v = some ve) (hkt : keyT ke.ty = true) (hix : isAgg (st.ev ix) = false) (hx : isAgg (st.ev x) = false) (hc : keyT ve.ty = true ∨ isCon (st.ev x) = true) {r : Nat} (hm : st.ev m = .ref r [])
    {b : Bx} (hb : bget st.boxes r = some b) (hbt : b.t = .mp ke.ty ve.ty) {mm : Md} (hbm : b.m = .own (.own mm)) (hbn : b.mem = none)
    {key : den ke.ty} (hkey : kv ke.ty key (a.eval ix)) {y : den ve.ty} (hy : Rep w Im ve.ty .ro y [a.eval x] [])
    (hk : K ((({ st with boxes := bset r { b with x := (hbt.symm ▸ (mset ke.ty ve.ty (hbt ▸ b.x : den (.mp ke.ty ve.ty)) key y : den (.mp ke.ty ve.ty)) : den b.t) } st.boxes } : St)).set o.dst .tnil) = some r0) : o.wp P a w (Post G I0 K r0) Q := by
  obtain ⟨hu, _⟩ := hE.mp ht hdd hke hve
  obtain ⟨d, hd1, hd2⟩ := hE.key hke hkt
  obtain ⟨rb, hr⟩ := h.real hb
  obtain ⟨mem, ty, md, bx, pin, row⟩ := b
  dsimp only at hbt hbm hbn hk
  subst hbt; subst hbm; subst hbn
  obtain ⟨u, eu, hu1⟩ := (hm ▸ h.ev m : SVV w Im R (.ref r []) (a.eval m)).cell (by simp) (by simp) (by simp) rfl
  simp only [List.cons.injEq, and_true] at eu
  subst eu
  obtain ⟨_, _, ad, hn⟩ := hu1 _ rb hr
  simp only [nav, Option.some.injEq, Prod.mk.injEq] at hn
  have hrepb := h.rep r _ rb hr
  dsimp only at hrepb
  rw [hn.1] at hrepb
  rcases hrepb with ⟨e0, _⟩ | ⟨bk, es, clk, e1, e2, hent⟩
  · cases e0
  · simp only [List.cons.injEq, and_true] at e1
    have hh : w.heap[bk]? = some (.map es clk) := h.heapOK hr (bk, .map es clk) (fragOf_sub _ (by rw [e2]; exact List.mem_singleton.2 rfl))
    -- the run
    have hrun : ∃ es' clk', (Instr.mapUpdate t (a.eval m) (a.eval ix) (a.eval x)).run P w = .ok () { w with heap := w.heap.setIfInBounds bk (.map es' clk') } ∧ EntL (fun y c => Rep w Im ve.ty .ro y [c] []) (mset ke.ty ve.ty bx key y) es'.toList := by
      rcases findNow_ok hd1 hkey 0 hent with ⟨g1, g2⟩ | ⟨j, e, y', g1, g2, g3, g4, g5⟩
      · rw [eget_mfind] at g1
        have hf : (Instr.findKey k (a.eval ix) es.toList).run P w = .ok none w := run_findKey hd2 g2
        refine ⟨es.push ⟨a.eval ix, a.eval x, clk⟩, clk + 1, ?_, ?_⟩
        · simp only [Instr.mapUpdate, e1, Sem.run_bind, run_underlying hu, Result.andThen_ok, run_checkKey hd2 hd1, hf, MapKept.run_getObj_map hh, MapKept.run_setObj_map _ hh]
        · rw [Array.toList_push]
          exact mset_new hkey hy hent g1
      · have hf : (Instr.findKey k (a.eval ix) es.toList).run P w = .ok (some (0 + j, e.val)) w := run_findKey hd2 g5
        have hkk : ((es[0 + j]?).map (·.key)).getD (a.eval ix) = a.eval ix := by
          rw [Nat.zero_add, ← Array.getElem?_toList, g1]; simp [g2]
        refine ⟨es.modify (0 + j) fun e => { e with key := a.eval ix, val := a.eval x }, clk, ?_, ?_⟩
        · have hst : (Instr.keyThatStays (a.eval ix) (a.eval ix)).run P w = .ok (a.eval ix) w := by
            unfold Instr.keyThatStays
            rw [if_pos (kv_bits hkey _)]; rfl
          simp only [Instr.mapUpdate, e1, Sem.run_bind, run_underlying hu, Result.andThen_ok, run_checkKey hd2 hd1, hf, MapKept.run_getObj_map hh, MapKept.run_setObj_map _ hh, hkk, hst]
        · rw [Array.toList_modify, Nat.zero_add]
          exact mset_old (g := fun e => { e with key := a.eval ix, val := a.eval x }) hkt hkey hy (fun _ => ⟨rfl, rfl⟩) hd1 hent (i := 0) (j := j) g5
    obtain ⟨es', clk', hrun, hent'⟩ := hrun
    have hfr0 : ∀ (x : den (.mp ke.ty ve.ty)) (rb' : RB), fragOf ({ mem := none, t := .mp ke.ty ve.ty, m := .own (.own mm), x := x, pin := pin, row := row } : Bx) rb' = rb'.h := fun _ _ => rfl
    have hkin : bk ∈ keys (own R [] (r + 1)) := by rw [own_at hr, hfr0, e2]; simp [keys]
    have hnoIm : ¬ Im bk := h.sep.im (r + 1) bk hkin
    have hlt : bk < w.heap.size := h.sep.lt hkin
    have hother : ∀ k, k ≠ bk → (w.heap.setIfInBounds bk (.map es' clk'))[k]? = w.heap[k]? := fun k hne => Array.getElem?_setIfInBounds_ne (Ne.symm hne)
    have hch := Inv.changeO (hand := []) (hand' := []) (w' := { w with heap := w.heap.setIfInBounds bk (.map es' clk') }) (st' := { st with boxes := bset r { mem := none, t := .mp ke.ty ve.ty, m := .own (.own mm), x := mset ke.ty ve.ty bx key y, pin := pin, row := row } st.boxes }) (p := fun _ _ _ => false)
      (bN := { mem := none, t := .mp ke.ty ve.ty, m := .own (.own mm), x := mset ke.ty ve.ty bx key y, pin := pin, row := row }) (rbN := { rb with h := [(bk, .map es' clk')] }) h hr (k0 := bk) (o0 := .map es clk) (oN := .map es' clk')
      (by rw [hfr0, e2]; exact List.mem_singleton.2 rfl) hother
      (by show (w.heap.setIfInBounds bk _)[bk]? = _; rw [Array.getElem?_setIfInBounds_self_of_lt hlt]) (by show (w.heap.setIfInBounds bk _).size = _; simp) (fun hf => h.keep.setAt hf)
      (fun p hp => by rw [hfr0] at hp; exact .inr (.inr (List.mem_singleton.1 hp))) (by rw [hfr0]; simp [keys])
      (by
        show Rep _ Im (.mp ke.ty ve.ty) (.own (.own mm)) _ rb.cs [(bk, .map es' clk')]
        rw [hn.1, e1]
        exact .inr ⟨bk, es', clk', rfl, rfl, hent'.mono fun _ _ rr => rr.frame (fun _ h => h) (fun b hb => hother b (fun e => hnoIm (e ▸ hb)))⟩)
      (fun j => by rw [bget_bset]) (by
        show st.slots = _
        rw [show (forget fun _ _ _ => false) = id from funext forget_none]; simp)
      ⟨fun q v _ hh => by
          intro bb rbb hbb
          simp only [if_true] at hbb; cases hbb
          obtain ⟨hv, ht', ad, hn⟩ := hh _ rb hr
          cases q with
          | nil => exact ⟨trivial, rfl, ad, hn⟩
          | cons s q => cases s <;> simp [Valid, VStep] at hv,
        fun q lo' n' v _ ⟨u', hh, hsub⟩ => by
          exfalso
          obtain ⟨hv, ht', ad, hn⟩ := hh _ rb hr
          obtain ⟨t', _, _, _, _, _, e, _⟩ := hsub _ rb hr
          cases q with
          | nil => cases e
          | cons s q => cases s <;> simp [Valid, VStep] at hv,
        fun q v _ hh => by
          exfalso
          obtain ⟨hv, cs3, b3, o3, hn, e3⟩ := hh _ rb hr
          cases q with
          | nil => simp [nav, locOf] at hn
          | cons s q => cases s <;> simp [Valid, VStep] at hv⟩
    exact wp_skip_to (by simp [execOp, ho, hrun, Result.andThen]) hd hI hch hk
end
end Go.Proofs.YtgdaiifhedpffaaDoor.V
set_option linter.unusedVariables false
set_option linter.unusedSimpArgs false
namespace Go.Proofs.YtgdaiifhedpffaaDoor.V
open Go
def kvV : (t : Ty) → den t → Value
  | .int k, x => .int k x
  | .bool, x => .bool x
  | .str, x => .string x
  | _, _ => .nilIface
def keyCells : (t : Ty) → den t → List Value
  | .pair a b, x => kvV a x.1 :: keyCells b x.2
  | _, _ => []
section
variable {P : Program} {G : Gl} {I0 : Nat → Prop} {st : St} {a : Act} {w : World} {Im : Nat → Prop} {R : Real} {o : Oper} {T : Type} {K : St → Option T} {r0 : T} {Q : Exit → Act → World → Prop} {E : Env}
theorem key_cell {t : Ty} (ht : keyT t = true) {m : Md} {x : den t} {cs : List Value} {h : Frag} (r : Rep w Im t m x cs h) : cs = [kvV t x] := by
  cases t <;> simp [keyT] at ht
  · exact r.1
  · exact r.1
  · exact r.1
theorem key_cells : ∀ {t : Ty}, eqTy t = true → ∀ {m : Md} {x : den t} {cs : List Value} {h : Frag}, Rep w Im t m x cs h → cs = keyCells t x
  | .pair a b, ht, m, x, _, _, ⟨c1, c2, h1, h2, e1, e2, r1, r2⟩ => by
    simp only [eqTy, Bool.and_eq_true] at ht
    rw [e1, key_cell ht.1 r1, key_cells ht.2 r2]
    rfl
  | .unit, _, _, _, _, _, r => r.1
  | .int _, ht, _, _, _, _, _ => by simp [eqTy] at ht
  | .bool, ht, _, _, _, _, _ => by simp [eqTy] at ht
  | .str, ht, _, _, _, _, _ => by simp [eqTy] at ht
  | .raw, ht, _, _, _, _, _ => by simp [eqTy] at ht
  | .slc _, ht, _, _, _, _, _ => by simp [eqTy] at ht
  | .mp _ _, ht, _, _, _, _, _ => by simp [eqTy] at ht
theorem eq_foff : ∀ {t : Ty}, eqTy t = true → ∀ {j : Nat}, j < (fieldTys t).length → foff t j = j
  | .pair a b, _, 0, _ => rfl
  | .pair a b, ht, j + 1, hj => by
    simp only [eqTy, Bool.and_eq_true] at ht
    have h1 : sz a = 1 := by
      have := ht.1
      cases a <;> simp [keyT] at this <;> rfl
    simp only [fieldTys, List.length_cons] at hj
    simp only [foff]
    rw [eq_foff ht.2 (by omega), h1]; omega
  | .unit, _, _, hj => by simp [fieldTys] at hj
  | .int _, ht, _, _ => by simp [eqTy] at ht
  | .bool, ht, _, _ => by simp [eqTy] at ht
  | .str, ht, _, _ => by simp [eqTy] at ht
  | .raw, ht, _, _ => by simp [eqTy] at ht
  | .slc _, ht, _, _ => by simp [eqTy] at ht
  | .mp _ _, ht, _, _ => by simp [eqTy] at ht
theorem key_equal (hE : EnvOk P E) {e : TypeId} {fe : TE} (he : E.get e = some fe) {t : Ty} (ht : fe.ty = t) (hk : keyT t = true) (d : Nat) (x y : den t) :
    (∃ hp : P.plainKey e = true, True) ∧ (Op.equalIn (d + 1) e (kvV t x) (kvV t y)).run P w = .ok (keq t x y) w := by
  obtain ⟨D, h1, h2⟩ := hE.key he (by rw [ht]; exact hk)
  rw [ht] at h1
  cases t <;> simp [keyT] at hk
  · simp only [keyD, Option.some.injEq] at h1
    subst h1
    refine ⟨⟨by simp [Program.plainKey, h2], trivial⟩, ?_⟩
    rw [show kvV (.int _) x = .int _ x from rfl, show kvV (.int _) y = .int _ y from rfl, run_equalIn_int w d e _ _ _ _ h2]
    congr 1
  · simp only [keyD, Option.some.injEq] at h1
    subst h1
    refine ⟨⟨by simp [Program.plainKey, h2], trivial⟩, ?_⟩
    rw [show kvV .bool x = .bool x from rfl, show kvV .bool y = .bool y from rfl, run_equalIn_bool' w d e _ _ h2]
    rfl
  · simp only [keyD, Option.some.injEq] at h1
    subst h1
    refine ⟨⟨by simp [Program.plainKey, h2], trivial⟩, ?_⟩
    rw [show kvV .str x = .string x from rfl, show kvV .str y = .string y from rfl, run_equalIn_string w d e _ _ h2]
    rfl
theorem drop_head {α : Type} {l : List α} {k : Nat} {v : α} {r : List α} (h : l.drop k = v :: r) : l[k]? = some v ∧ l.drop (k + 1) = r := by
  constructor
  · have := congrArg (fun l => l[0]?) h
    simpa using this
  · rw [← List.drop_drop, h]; rfl
theorem eq_fields (hE : EnvOk P E) (d : Nat) {xs ys : Array Value} : ∀ {t : Ty} (k : Nat) (fs : List Field) (x y : den t), eqTy t = true → xs.toList.drop k = keyCells t x → ys.toList.drop k = keyCells t y → fs.length = (fieldTys t).length →
    (∀ j f, fs[j]? = some f → f.name ≠ "_" ∧ f.offset = k + j ∧ ∃ fe, E.get f.type = some fe ∧ (fieldTys t)[j]? = some fe.ty) → (Op.eqFields (d + 1) xs ys fs).run P w = .ok (eqD t x y) w
  | .pair a b, k, fs, x, y, ht, hx, hy, hl, hf => by
    simp only [eqTy, Bool.and_eq_true] at ht
    cases fs with
    | nil => simp [fieldTys] at hl
    | cons f fs =>
      obtain ⟨f1, f2, fe, f3, f4⟩ := hf 0 f rfl
      simp only [fieldTys, List.getElem?_cons_zero, Option.some.injEq] at f4
      simp only [keyCells] at hx hy
      obtain ⟨x1, x2⟩ := drop_head hx
      obtain ⟨y1, y2⟩ := drop_head hy
      obtain ⟨⟨hp, _⟩, hq⟩ := key_equal (w := w) hE f3 f4.symm ht.1 d x.1 y.1
      have p1 : (part f.type xs f.offset).run P w = .ok (kvV a x.1) w := run_part_plain w hp (by rw [f2, Nat.add_zero]; simpa using x1)
      have p2 : (part f.type ys f.offset).run P w = .ok (kvV a y.1) w := run_part_plain w hp (by rw [f2, Nat.add_zero]; simpa using y1)
      have ih := eq_fields hE d (k + 1) fs x.2 y.2 ht.2 x2 y2 (by simpa [fieldTys] using hl) (fun j g hg => by
        obtain ⟨g1, g2, ge, g3, g4⟩ := hf (j + 1) g (by simpa using hg)
        exact ⟨g1, by omega, ge, g3, by simpa [fieldTys] using g4⟩)
      simp only [Op.eqFields, f1, ne_eq, not_false_eq_true, if_true, Sem.run_bind, p1, p2, hq, Result.andThen_ok]
      show _ = Result.ok (keq a x.1 y.1 && eqD b x.2 y.2) w
      cases keq a x.1 y.1
      · simp
      · simpa using ih
  | .unit, k, fs, x, y, _, _, _, hl, _ => by
    cases fs with
    | nil => simp [Op.eqFields, eqD]
    | cons f fs => simp [fieldTys] at hl
  | .int _, _, _, _, _, ht, _, _, _, _ => by simp [eqTy] at ht
  | .bool, _, _, _, _, ht, _, _, _, _ => by simp [eqTy] at ht
  | .str, _, _, _, _, ht, _, _, _, _ => by simp [eqTy] at ht
  | .raw, _, _, _, _, ht, _, _, _, _ => by simp [eqTy] at ht
  | .slc _, _, _, _, _, ht, _, _, _, _ => by simp [eqTy] at ht
  | .mp _ _, _, _, _, _, ht, _, _, _, _ => by simp [eqTy] at ht
theorem conK_some {ty : Ty} {s : SV} {K : den ty → Option T} (h : conK ty s K = some r0) : ∃ x, s = .con ty x ∧ K x = some r0 := by
  unfold conK at h
  split at h
  · split at h
    · rename_i e; subst e; exact ⟨_, rfl, h⟩
    · cases h
  · cases h
theorem con_agg {t : Ty} (ht : eqTy t = true) {x : den t} {v : Value} (h : SVV w Im R (.con t x) v) : v = .agg (keyCells t x).toArray := by
  have ha : isAgg (.con t x) = true := by cases t <;> simp [eqTy] at ht <;> rfl
  rcases h with e | ⟨_, _, _, e | ⟨_, _, e⟩⟩ | ⟨cs, e1, e2⟩
  · cases e
  · cases e
  · cases e
  · rw [if_pos ha] at e1
    rw [e1, key_cells ht e2]
theorem step_eq (hE : EnvOk P E) (hd : a.defers = []) (hI : ∀ b, I0 b → Im b) (h : Inv G st a.tmps w Im R []) {op : BinOp} {t : TypeId} {x y : Operand} {b : TypeId} (ho : o.op = .binOp op t x y b)
    (hk : eqS E op t (st.ev x) (st.ev y) (fun s => K (st.set o.dst s)) = some r0) : o.wp P a w (Post G I0 K r0) Q := by
  unfold eqS at hk
  split at hk
  case h_2 => cases hk
  rename_i te hte
  split at hk
  case isFalse => cases hk
  rename_i hq
  obtain ⟨hq, ht⟩ := hq
  obtain ⟨xv, ex, hk⟩ := conK_some hk
  obtain ⟨yv, ey, hk⟩ := conK_some hk
  have vx := con_agg ht (ex ▸ h.ev x)
  have vy := con_agg ht (ey ▸ h.ev y)
  obtain ⟨_, hu, hQ⟩ := hE t te hte
  obtain ⟨fields, q1, q2, q3, q4⟩ := hQ hq
  have hs : te.ty = .unit ∨ ∃ a b, te.ty = .pair a b := by
    revert ht; generalize te.ty = ty; intro ht
    cases ty <;> simp [eqTy] at ht
    · exact .inl rfl
    · exact .inr ⟨_, _, rfl⟩
  have hflds : fields.size = (fieldTys te.ty).length ∧ ∀ j f, fields[j]? = some f → f.offset = foff te.ty j ∧ ∃ fe, E.get f.type = some fe ∧ (fieldTys te.ty)[j]? = some fe.ty ∧ sz fe.ty ≠ 0 := by
    unfold UndOk at hu
    split at hu
    · rw [q1] at hu; exact absurd hu.1 (by simp)
    · rw [q1] at hu; exact absurd hu.1 (by simp)
    · rw [q1] at hu; exact absurd hu.1 (by simp)
    · rw [q1] at hu; exact absurd hu.1 (by simp)
    · obtain ⟨fields', e1, e2, e3, e4⟩ := hu
      rw [q1] at e1
      cases e1
      exact ⟨e3, e4⟩
    · obtain ⟨n, e1, _⟩ := hu; rw [q1] at e1; cases e1
    · rw [q1] at hu; exact absurd hu.1 (by simp)
    · obtain ⟨D, _, _, e⟩ := hu
      rcases hs with h1 | ⟨_, _, h1⟩ <;> rw [h1] at e <;> cases e
  have hfo : P.fieldsOf t = fields := by simp [Program.fieldsOf, q1]
  have hq1 : P.underlying t = some (.struct (P.fieldsOf t)) := by rw [hfo]; exact q1
  have hrun : (Op.equalIn 10000 t (.agg (keyCells te.ty xv).toArray) (.agg (keyCells te.ty yv).toArray)).run P w = .ok (eqD te.ty xv yv) w := by
    rw [show (10000 : Nat) = 9999 + 1 from rfl, run_equalIn_agg w 9999 t _ _ hq1 q3, hfo]
    refine eq_fields hE 9998 0 fields.toList xv yv ht (by simp) (by simp) (by simpa using hflds.1) (fun j f hf => ?_)
    have hf' : fields[j]? = some f := by simpa using hf
    obtain ⟨f1, fe, f2, f3, _⟩ := hflds.2 j f hf'
    have hj : j < (fieldTys te.ty).length := (List.getElem?_eq_some_iff.1 f3).1
    exact ⟨q2 f (List.mem_of_getElem? hf), by rw [f1, eq_foff ht hj, Nat.zero_add], fe, f2, f3⟩
  have hguard : ∀ op, (eqGuard op t x y (.agg (keyCells te.ty xv).toArray) (.agg (keyCells te.ty yv).toArray)).run P w = .ok () w := fun op => run_eqGuard_agg w op t x y _ _ q4
  split at hk
  · refine wp_value (v := .bool (eqD te.ty xv yv)) ?_ hd hI h (.ofBool _) hk
    simp only [execOp, ho, vx, vy]
    rw [Sem.run_bind, Sem.run_bind, hguard]
    simp only [Result.andThen_ok]
    rw [run_eql_struct, hrun]
    rfl
  · refine wp_value (v := .bool (!eqD te.ty xv yv)) ?_ hd hI h (.ofBool _) hk
    simp only [execOp, ho, vx, vy]
    rw [Sem.run_bind, Sem.run_bind, hguard]
    simp only [Result.andThen_ok]
    rw [run_neq_struct, hrun]
    rfl
  · cases hk
end
end Go.Proofs.YtgdaiifhedpffaaDoor.V
set_option linter.unusedVariables false
set_option linter.unusedSimpArgs false
namespace Go.Proofs.YtgdaiifhedpffaaDoor.V
open Go
theorem args1 {l : Array Operand} {f : Operand → SV} {s : SV} (h : l.toList.map f = [s]) : ∃ x, l = #[x] ∧ f x = s := by
  obtain ⟨x, r, h1, h2, h3⟩ := List.map_eq_cons_iff.1 h
  rw [List.map_eq_nil_iff] at h3; subst h3
  exact ⟨x, by rw [← Array.toArray_toList (xs := l), h1], h2⟩
theorem args2 {l : Array Operand} {f : Operand → SV} {s t : SV} (h : l.toList.map f = [s, t]) : ∃ x y, l = #[x, y] ∧ f x = s ∧ f y = t := by
  obtain ⟨x, r, h1, h2, h3⟩ := List.map_eq_cons_iff.1 h
  obtain ⟨y, r2, h4, h5, h6⟩ := List.map_eq_cons_iff.1 h3
  rw [List.map_eq_nil_iff] at h6; subst h6
  exact ⟨x, y, by rw [← Array.toArray_toList (xs := l), h1, h4], h2, h5⟩
theorem tys1 {l : Array TypeId} {t : TypeId} (h : l.toList = [t]) : l = #[t] := by rw [← Array.toArray_toList (xs := l), h]
theorem tys2 {l : Array TypeId} {t u : TypeId} (h : l.toList = [t, u]) : l = #[t, u] := by rw [← Array.toArray_toList (xs := l), h]
section
variable {P : Program} {G : Gl} {I0 : Nat → Prop} {st st1 : St} {a : Act} {vs : Array Value} {w w' : World} {Im Im' : Nat → Prop} {R R' : Real} {hand hand' : Frag} {o : Oper} {T : Type} {K : St → Option T} {r0 : T} {Q : Exit → Act → World → Prop} {E : Env}
theorem builtin_some {c : Cx} (hE : EnvOk P c.E) (hd : a.defers = []) (hI : ∀ b, I0 b → Im b) (h : Inv G st a.tmps w Im R []) {cl : Call} (ho : o.op = .call cl) {b : Builtin} (hc : cl.callee = .builtin b)
    (hk : builtinS c st o b cl.argTypes.toList (cl.args.toList.map st.ev) K = some r0) : o.wp P a w (Post G I0 K r0) Q := by
  unfold builtinS at hk
  split at hk
  · rename_i s hss
    obtain ⟨x, ha, hx⟩ := args1 hss
    subst hx
    split at hk
    · rename_i t hty
      split at hk
      · rename_i te ht
        split at hk
        · rename_i hdd
          split at hk
          · rename_i hs
            exact step_len hE hd hI h ho hc ha (tys1 hty) ht (.inl ⟨hdd, hs⟩) hk
          · cases hk
        · rename_i e hdd
          split at hk
          · rename_i hs
            exact step_len hE hd hI h ho hc ha (tys1 hty) ht (.inr ⟨⟨e, hdd⟩, hs⟩) hk
          · cases hk
        · cases hk
      · cases hk
    · cases hk
  · rename_i s hss
    obtain ⟨x, ha, hx⟩ := args1 hss
    split at hk
    · rename_i t hty
      split at hk
      · rename_i te ht
        split at hk
        · rename_i e hdd
          split at hk
          · obtain ⟨A, hA⟩ := (hx ▸ h.ev x : SVV w Im R .emp (a.eval x)).cell (by simp) (by simp) (by simp) rfl
            simp at hA
            exact step_cap0 hE hd hI h ho hc ha (tys1 hty) ht hdd ⟨A, hA⟩ hk
          · have hv := (hx ▸ h.ev x : SVV w Im R (.raw (.slice none 0 0)) (a.eval x)).raw
            exact step_cap0 hE hd hI h ho hc ha (tys1 hty) ht hdd ⟨none, hv⟩ hk
          · cases hk
        · cases hk
      · cases hk
    · cases hk
  · rename_i s t hss
    obtain ⟨x, y, ha, hx, hy⟩ := args2 hss
    obtain ⟨k, m, e1, hk⟩ := asInt_some hk
    obtain ⟨j, n, e2, hk⟩ := asInt_some hk
    split at hk
    · rename_i e; subst e
      exact step_min hd hI h ho hc ha (hx.trans e1) (hy.trans e2) hk
    · cases hk
  · rename_i s t hss
    obtain ⟨x, y, ha, hx, hy⟩ := args2 hss
    obtain ⟨k, m, e1, hk⟩ := asInt_some hk
    obtain ⟨j, n, e2, hk⟩ := asInt_some hk
    split at hk
    · rename_i e; subst e
      exact step_max hd hI h ho hc ha (hx.trans e1) (hy.trans e2) hk
    · cases hk
  · rename_i s v hss
    obtain ⟨x, y, ha, hx, hy⟩ := args2 hss
    split at hk
    · rename_i d t u hdst hty
      split at hk
      · rename_i e; subst e
        split at hk
        · rename_i te ht
          split at hk
          · rename_i e hdd
            split at hk
            · rename_i ee hee
              split at hk
              · rename_i hz
                subst hx; subst hy
                exact step_append hE hd hI h ho hc ha (tys2 hty) (hE.slc ht hdd).1 hee hz hdst hk
              · cases hk
            · cases hk
          · cases hk
        · cases hk
      · split at hk
        · rename_i hs _ _ te ue ht hue
          split at hk
          · rename_i e k hdd hdu
            split at hk
            · rename_i ee hee
              split at hk
              · rename_i hz
                obtain ⟨k2, n, e2, hk⟩ := asInt_some hk
                split at hk
                · rename_i hb
                  have hvx := (hx ▸ h.ev x : SVV w Im R (.raw (.slice none 0 0)) (a.eval x)).raw
                  have hvy : a.eval y = .int k2 n := ((hy.trans e2) ▸ h.ev y : SVV w Im R (.con (.int k2) n) (a.eval y)).int
                  exact step_zeros hE hd hI h ho hc ha (tys2 hty) ht hdd hue hdu hee hz hdst hvx hvy hb hk
                · cases hk
              · cases hk
            · cases hk
          · cases hk
        · rename_i _ te ue _ ht hue
          split at hk
          · rename_i e k hdd hdu
            split at hk
            · rename_i ee hee
              split at hk
              · rename_i hz
                subst hx; subst hy
                exact step_appz (c := c) hE hd hI h ho hc ha (tys2 hty) ht hdd hue hdu hee hz hdst hk
              · cases hk
            · cases hk
          · cases hk
        · cases hk
    · cases hk
  · rename_i s v hss
    obtain ⟨x, y, ha, hx, hy⟩ := args2 hss
    split at hk
    · rename_i t u hty
      split at hk
      · rename_i te ue ht hue
        split at hk
        · rename_i e e2 hdd hdu
          split at hk
          · rename_i ee hee
            subst hx; subst hy
            unfold copyS at hk
            split at hk
            · rename_i hx
              exact step_copyQ hE hd hI h ho hc ha (tys2 hty) (hE.slc ht hdd).1 hee hx hk
            · exact step_copy (e2 := e2) hE hd hI h ho hc ha (tys2 hty) (hE.slc ht hdd).1 hee hk
          · cases hk
        · rename_i e hdd hdu
          split at hk
          · rename_i ee hee
            split at hk
            · rename_i hu8
              subst hx; subst hy
              exact step_copyS hE hd hI h ho hc ha (tys2 hty) (hE.slc ht hdd).1 hee hu8 hk
            · cases hk
          · cases hk
        · cases hk
      · cases hk
    · cases hk
  · rename_i s hss
    obtain ⟨x, ha, hx⟩ := args1 hss
    split at hk
    · rename_i t hty
      split at hk
      · rename_i te ht
        split at hk
        · rename_i e hdd
          split at hk
          · rename_i ee hee
            split at hk
            · rename_i hz
              subst hx
              exact step_clear hE hd hI h ho hc ha (tys1 hty) (hE.slc ht hdd).1 hee hz.1 hz.2 hk
            · cases hk
          · cases hk
        · cases hk
      · cases hk
    · cases hk
  · cases hk
theorem step_some {c : Cx} (hE : EnvOk P c.E) (hd : a.defers = []) (hI : ∀ b, I0 b → Im b) (h : Inv G st a.tmps w Im R [])
    (hcall : ∀ cl f g caps, o.op = .call cl → cl.callee = .value f → st.ev f = .fn g caps → ends caps = true → callS c st o.dst g (cl.args.toList.map st.ev ++ untup caps) K = some r0 → o.wp P a w (Post G I0 K r0) Q)
    (hk : stepS c st o K = some r0) : o.wp P a w (Post G I0 K r0) Q := by
  unfold stepS at hk
  split at hk
  · rename_i x ho
    exact wp_value (by simp [execOp, ho]) hd hI h (h.ev x) hk
  · rename_i x ho
    exact wp_value (by simp [execOp, ho]) hd hI h (h.ev x) hk
  · rename_i g x y ho
    obtain ⟨b, e, hk⟩ := asBool_some hk
    have eg : a.eval g = .bool b := (e ▸ h.ev g : SVV w Im R (.con .bool b) (a.eval g)).bool
    cases b with
    | true => exact wp_value (v := a.eval x) (by simp [execOp, ho, eg, Go.asBool]) hd hI h (h.ev x) hk
    | false => exact wp_value (v := a.eval y) (by simp [execOp, ho, eg, Go.asBool]) hd hI h (h.ev y) hk
  · rename_i e ho
    split at hk
    · rename_i te d ht hdst
      split at hk
      · rename_i hz
        exact step_alloc hE hd hI h ho ht hz hdst hk
      · cases hk
    · cases hk
  · rename_i e x ho
    split at hk
    · rename_i te d ht hdst
      exact step_box hE hd hI h ho ht hdst hk
    · cases hk
  · rename_i t parts ho
    split at hk
    · rename_i te ht
      split at hk
      · rename_i fl hdd
        split at hk
        · rename_i hz
          exact step_build hE hd hI h ho ht hdd hz hk
        · cases hk
      · rename_i fl hdd
        split at hk
        · rename_i hz
          exact step_buildArr hE hd hI h ho ht hdd hz hk
        · cases hk
      · cases hk
    · cases hk
  · rename_i t n parts ho
    split at hk
    · rename_i te d ht hdst
      split at hk
      · rename_i e hdd
        split at hk
        · rename_i ee hee
          split at hk
          · rename_i hc
            by_cases hro : isRo (c.mode d te.ty) = true
            · simp only [if_pos hro] at hk
              exact step_buildCon hE hd hI h ho ht hdd hee hc.1 hc.2.1 hc.2.2.1 hc.2.2.2 hdst hk
            · simp only [if_neg hro] at hk
              exact step_buildSlice hE hd hI h ho ht hdd hee hc.1 hc.2.1 hc.2.2.1 hc.2.2.2 hdst hk
          · cases hk
        · cases hk
      · cases hk
    · cases hk
  · rename_i t x ho
    split at hk
    · rename_i te ht
      obtain ⟨s', z, k1, k2, k3⟩ := load_some hE h ht hk (h.ev x)
      exact wp_value (by simp [execOp, ho, k2, Result.andThen]) hd hI h k3 k1
    · cases hk
  · rename_i t x v ho
    split at hk
    · rename_i te ht
      exact step_store hE hd hI h ho ht hk
    · cases hk
  · rename_i x ho
    have hx := h.ev x
    split at hk
    · rename_i r q he
      split at hk
      · rename_i hs
        obtain ⟨b, hb⟩ := Option.isSome_iff_exists.1 hs
        rw [he] at hx
        obtain ⟨u, e1, hp⟩ := hx.cell (by simp) (by simp) (by simp) rfl
        simp at e1
        obtain ⟨rb, hrr⟩ := h.real hb
        obtain ⟨_, cs, b', o', _, e2⟩ := hp b rb hrr
        exact wp_value (v := a.eval x) (by simp [execOp, ho, e1, e2]) hd hI h hx hk
      · cases hk
    · rename_i t y he
      rw [he] at hx
      obtain ⟨b, o', c', e', fz, e1, _⟩ := hx.cell (by simp) (by simp) (by simp) rfl
      simp at e1
      exact wp_value (v := a.eval x) (by simp [execOp, ho, e1]) hd hI h hx hk
    · rename_i f cs he
      rw [he] at hx
      obtain ⟨caps, e1, _⟩ := hx.cell (by simp) (by simp) (by simp) rfl
      simp at e1
      exact wp_value (v := a.eval x) (by simp [execOp, ho, e1]) hd hI h hx hk
    · cases hk
  · rename_i op t x y b ho
    split at hk
    · rename_i hy
      split at hk
      · rename_i ht
        exact step_nil hE hd hI h ho hy ht hk
      · cases hk
    · split at hk
      · exact step_eq hE hd hI h ho hk
      split at hk
      · rename_i hb
        obtain ⟨s', z, k1, k2, k3⟩ := bin_some (P := P) hk (h.ev x) (h.ev y) t x y (fun p q e1 e2 => by
          rw [e1] at hb
          unfold boolOk at hb
          simp only at hb
          split at hb
          · rename_i te ht
            split at hb
            · rename_i hdd; exact hE.bool ht hdd
            · cases hb
          · cases hb)
        refine wp_value ?_ hd hI h k3 k1
        simp only [execOp, ho]
        rw [Sem.run_bind, k2]; rfl
      · cases hk
  · rename_i op t x ho
    split at hk
    · obtain ⟨b, e, hk⟩ := asBool_some hk
      have ex : a.eval x = .bool b := (e ▸ h.ev x : SVV w Im R (.con .bool b) (a.eval x)).bool
      exact wp_value (by simp [execOp, ho, ex, Op.unary, Result.andThen]) hd hI h (.ofBool _) hk
    · obtain ⟨k, n, e, hk⟩ := asInt_some hk
      have ex : a.eval x = .int k n := (e ▸ h.ev x : SVV w Im R (.con (.int k) n) (a.eval x)).int
      exact wp_value (by simp [execOp, ho, ex, Op.unary, Op.intArith, Result.andThen]) hd hI h (.ofInt _ _) hk
    · obtain ⟨k, n, e, hk⟩ := asInt_some hk
      have ex : a.eval x = .int k n := (e ▸ h.ev x : SVV w Im R (.con (.int k) n) (a.eval x)).int
      have hb := bitop_run (P := P) (w := w) k (if k.signed = true then -1 else k.max) n .xor (.inr (.inr (.inl rfl)))
      exact wp_value (by simp [execOp, ho, ex, Op.unary, hb, Result.andThen]) hd hI h (.ofInt _ _) hk
    · cases hk
  · rename_i src dst x ho
    split at hk
    · rename_i ts td hs ht
      split at hk
      · rename_i k hdd
        obtain ⟨j, n, e, hk⟩ := asInt_some hk
        have ex : a.eval x = .int j n := (e ▸ h.ev x : SVV w Im R (.con (.int j) n) (a.eval x)).int
        obtain ⟨ds, hds⟩ := hE.und hs
        exact wp_value (by simp [execOp, ho, ex, convert, run_underlying hds, run_underlying (hE.int ht hdd), Conv.intToInt, Result.andThen]) hd hI h (.ofInt _ _) hk
      · rename_i e h1 h2
        split at hk
        · rename_i te h3
          split at hk
          · rename_i h4
            split at hk
            · rename_i hna
              exact step_toString hE hd hI h ho hs ht h3 h1 h2 h4 hna hk
            · cases hk
          · cases hk
        · cases hk
      · rename_i e h1 h2
        split at hk
        · rename_i te h3
          split at hk
          · rename_i h4
            obtain ⟨s, e1, hk⟩ := asStr_some hk
            exact step_toBytes hE hd hI h ho hs ht h3 h1 h2 h4 e1 hk
          · cases hk
        · cases hk
      · cases hk
    · cases hk
  · rename_i f first caps ho
    split at hk
    · rename_i hf
      have hf : first = #[] := Array.toList_eq_nil_iff.1 hf
      subst hf
      refine wp_value (v := .func (.func f) #[] (caps.map a.eval)) (by simp [execOp, ho, Instr.makeFunc, Result.andThen]) hd hI h (.ofCell (s := .fn f (tupleOf (caps.toList.map st.ev))) ⟨caps.map a.eval, rfl, ?_⟩ rfl) hk
      have := tupleOf_ok (w := w) (Im := Im) (R := R) (l := caps.toList.map fun x => (st.ev x, a.eval x)) (fun p hp => by
        obtain ⟨x, _, rfl⟩ := List.mem_map.1 hp
        exact h.ev x)
      simpa [Function.comp_def] using this
    · cases hk
  · rename_i t l cp ho
    split at hk
    · rename_i te d ht hdst
      split at hk
      · rename_i e hdd
        split at hk
        · rename_i ee hee
          split at hk
          · rename_i hz
            obtain ⟨k1, n, e1, hk⟩ := asInt_some hk
            obtain ⟨k2, m, e2, hk⟩ := asInt_some hk
            split at hk
            · rename_i hc
              exact step_make hE hd hI h ho ht hdd hee hz hdst (e1 ▸ h.ev l : SVV w Im R (.con (.int k1) n) (a.eval l)).int (e2 ▸ h.ev cp : SVV w Im R (.con (.int k2) m) (a.eval cp)).int ⟨hc.1, hc.2.1, hc.2.2.1⟩ hc.2.2.2.1 hc.2.2.2.2 hk
            · cases hk
          · cases hk
        · cases hk
      · cases hk
    · cases hk
  · rename_i t x lo hi mx ho
    split at hk
    · rename_i te ht
      split at hk
      · rename_i e hdd
        obtain ⟨s', z, k1, k2, k3⟩ := slice_some hE h ht (.inl ⟨e, hdd⟩) hk (h.ev x)
        exact wp_value (by simp [execOp, ho, k2, Result.andThen]) hd hI h k3 k1
      · rename_i hdd
        obtain ⟨s', z, k1, k2, k3⟩ := slice_some hE h ht (.inr hdd) hk (h.ev x)
        exact wp_value (by simp [execOp, ho, k2, Result.andThen]) hd hI h k3 k1
      · cases hk
    · cases hk
  · rename_i t x f ho
    split at hk
    · rename_i te ht
      split at hk
      · rename_i fl hdd
        obtain ⟨s', z, k1, k2, k3⟩ := fieldAddr_some hE h ht hdd hk (h.ev x)
        exact wp_value (by simp [execOp, ho, k2, Result.andThen]) hd hI h k3 k1
      · cases hk
    · cases hk
  · rename_i t x f ho
    split at hk
    · rename_i te ht
      split at hk
      · rename_i fl hdd
        split at hk
        · rename_i hc
          obtain ⟨z, k2, k3⟩ := field_some hE ht hdd ⟨hc.1, hc.2.1⟩ (h.ev x) (by intro hu; rw [hu] at hc; simp [isU] at hc)
          exact wp_value (by simp [execOp, ho, k2, Result.andThen]) hd hI h k3 hk
        · cases hk
      · cases hk
    · cases hk
  · rename_i t x i ho
    split at hk
    · rename_i te ht
      split at hk
      · rename_i e hdd
        obtain ⟨k, n, e1, hk⟩ := asInt_some hk
        have ei : a.eval i = .int k n := (e1 ▸ h.ev i : SVV w Im R (.con (.int k) n) (a.eval i)).int
        obtain ⟨s', z, k1, k2, k3⟩ := elem_some hE h ht hdd (k := k) hk (h.ev x)
        exact wp_value (by simp [execOp, ho, ei, k2, Result.andThen]) hd hI h k3 k1
      · rename_i e hdd
        unfold litAt at hk
        split at hk
        · rename_i k n
          split at hk
          · rename_i hn
            obtain ⟨s', z, k1, k2, k3⟩ := arrAddr_some hE h ht hdd hn k hk (h.ev x)
            have ei : a.eval (.const (.int k n)) = .int k n := rfl
            exact wp_value (by simp [execOp, ho, ei, k2, Result.andThen]) hd hI h k3 k1
          · cases hk
        · cases hk
      · cases hk
    · cases hk
  · rename_i t x i ho
    split at hk
    · rename_i te ht
      split at hk
      · rename_i hdd
        obtain ⟨k, n, e1, hk⟩ := asInt_some hk
        obtain ⟨s, e2, hk⟩ := asStr_some hk
        have ei : a.eval i = .int k n := (e1 ▸ h.ev i : SVV w Im R (.con (.int k) n) (a.eval i)).int
        have ex : a.eval x = .string s := (e2 ▸ h.ev x : SVV w Im R (.con .str s) (a.eval x)).str
        split at hk
        · rename_i hb
          have hlt : n.toNat < s.size := by omega
          have hs : s[n.toNat]? = some s[n.toNat] := by simp [hlt]
          have hbt : bt s n = ((s[n.toNat].toNat : Nat) : Int) := by
            unfold bt
            have : s.data.toList[n.toNat]? = some s[n.toNat] := by
              rw [Array.getElem?_toList]
              exact Array.getElem?_eq_getElem (by exact hlt)
            rw [List.getD_eq_getElem?_getD, this]; rfl
          refine wp_value (v := .int .u8 (bt s n)) ?_ hd hI h (.ofInt _ _) hk
          simp [execOp, ho, ei, ex, Instr.index, asIntOf, run_underlying (hE.str ht hdd), hb.1, hs, hbt, Result.andThen]
        · cases hk
      · cases hk
    · cases hk
  · rename_i x i ho
    obtain ⟨s, hn, hk⟩ := Option.bind_eq_some_iff.1 hk
    have hx := h.ev x
    rcases hx with hu | ⟨vs, e, hx, _⟩ | ⟨cs, _, hx⟩
    · rw [hu] at hn; cases i <;> simp [nth] at hn
    · obtain ⟨v, hv, hs⟩ := nth_some hn hx
      have hv' : vs[i]? = some v := by simpa using hv
      exact wp_value (by simp [execOp, ho, e, Instr.extract, hv', Result.andThen]) hd hI h hs hk
    · cases hst : st.ev x <;> rw [hst] at hn hx <;> (try (cases i <;> simp [nth] at hn; done))
      obtain ⟨hh, _⟩ := hx
      cases hh
  · rename_i t ho
    split at hk
    · rename_i te d ht hdst
      split at hk
      · rename_i k v hdd
        exact step_makeMap hE hd hI h ho ht hdd hdst hk
      · cases hk
    · cases hk
  · rename_i t x ix ok ho
    split at hk
    · rename_i te ht
      split at hk
      · rename_i k v hdd
        split at hk
        · rename_i ke ve hke hve
          split at hk
          · rename_i hc
            exact step_lookup hE hd hI h ho ht hdd hke hve hc.1 hc.2.1 hc.2.2.1 hc.2.2.2.1 hc.2.2.2.2 hk
          · cases hk
        · cases hk
      · cases hk
    · cases hk
  · rename_i t m ix x ho
    split at hk
    · rename_i te ht
      split at hk
      · rename_i k v hdd
        split at hk
        · rename_i ke ve hke hve
          split at hk
          · rename_i hc
            split at hk
            · rename_i r hm
              obtain ⟨key, hk, hkey⟩ := look_one h hc.2.2.1 hk
              obtain ⟨y, hk, hy⟩ := look_val h hc.2.2.2.1 hc.2.2.2.2 hk
              split at hk
              · rename_i b hb
                split at hk
                · rename_i hbt
                  split at hk
                  · rename_i mm hbm hbn
                    exact step_mapUpdate hE hd hI h ho ht hdd hke hve hc.1 hc.2.2.1 hc.2.2.2.1 hc.2.2.2.2 hm hb hbt hbm hbn (kv_of_rep hc.1 hkey) hy hk
                  · cases hk
                · cases hk
              · cases hk
            · cases hk
          · cases hk
        · cases hk
      · cases hk
    · cases hk
  · rename_i cl ho
    split at hk
    · rename_i b hc
      exact builtin_some hE hd hI h ho hc hk
    · rename_i f hc
      split at hk
      · rename_i g caps he
        split at hk
        · rename_i hend
          exact hcall cl f g caps ho hc he hend hk
        · cases hk
      · cases hk
    · cases hk
  · cases hk
end
end Go.Proofs.YtgdaiifhedpffaaDoor.V
