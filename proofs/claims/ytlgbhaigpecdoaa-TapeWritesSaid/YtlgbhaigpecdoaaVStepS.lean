/- One operation: whatever it is. -/
import Derived.Test.YtlgbhaigpecdoaaVCopy
set_option linter.unusedVariables false
set_option linter.unusedSimpArgs false
namespace Go.Proofs.Ytlgbhaigpecdoaa.V
open Go

theorem args1 {l : Array Operand} {f : Operand → SV} {s : SV} (h : l.toList.map f = [s]) : ∃ x, l = #[x] ∧ f x = s := by
  obtain ⟨x, r, h1, h2, h3⟩ := List.map_eq_cons_iff.1 h
  rw [List.map_eq_nil_iff] at h3; subst h3
  exact ⟨x, by rw [← Array.toArray_toList (xs := l), h1], h2⟩
theorem args2 {l : Array Operand} {f : Operand → SV} {s t : SV} (h : l.toList.map f = [s, t]) : ∃ x y, l = #[x, y] ∧ f x = s ∧ f y = t := by
  obtain ⟨x, r, h1, h2, h3⟩ := List.map_eq_cons_iff.1 h
  obtain ⟨y, r2, h4, h5, h6⟩ := List.map_eq_cons_iff.1 h3
  rw [List.map_eq_nil_iff] at h6; subst h6
  exact ⟨x, y, by rw [← Array.toArray_toList (xs := l), h1, h4], h2, h5⟩
theorem tys1 {l : Array TypeId} {t : TypeId} (h : l.toList = [t]) : l = #[t] := by rw [← Array.toArray_toList (xs := l), h]
theorem tys2 {l : Array TypeId} {t u : TypeId} (h : l.toList = [t, u]) : l = #[t, u] := by rw [← Array.toArray_toList (xs := l), h]
section
variable {P : Program} {G : Gl} {I0 : Nat → Prop} {st st1 : St} {a : Act} {vs : Array Value} {w w' : World} {Im Im' : Nat → Prop} {R R' : Real} {hand hand' : Frag} {o : Oper} {T : Type} {K : St → Option T} {r0 : T} {Q : Exit → Act → World → Prop} {E : Env}
theorem builtin_some {c : Cx} (hE : EnvOk P c.E) (hd : a.defers = []) (hI : ∀ b, I0 b → Im b) (h : Inv G st a.tmps w Im R []) {cl : Call} (ho : o.op = .call cl) {b : Builtin} (hc : cl.callee = .builtin b)
    (hk : builtinS c st o b cl.argTypes.toList (cl.args.toList.map st.ev) K = some r0) : o.wp P a w (Post G I0 K r0) Q := by
  unfold builtinS at hk
  split at hk
  · rename_i s hss
    obtain ⟨x, ha, hx⟩ := args1 hss
    subst hx
    split at hk
    · rename_i t hty
      split at hk
      · rename_i te ht
        split at hk
        · rename_i hdd
          split at hk
          · rename_i hs
            exact step_len hE hd hI h ho hc ha (tys1 hty) ht (.inl ⟨hdd, hs⟩) hk
          · cases hk
        · rename_i e hdd
          split at hk
          · rename_i hs
            exact step_len hE hd hI h ho hc ha (tys1 hty) ht (.inr ⟨⟨e, hdd⟩, hs⟩) hk
          · cases hk
        · cases hk
      · cases hk
    · cases hk
  · rename_i s hss
    obtain ⟨x, ha, hx⟩ := args1 hss
    split at hk
    · rename_i t hty
      split at hk
      · rename_i te ht
        split at hk
        · rename_i e hdd
          split at hk
          · obtain ⟨A, hA⟩ := (hx ▸ h.ev x : SVV w Im R .emp (a.eval x)).cell (by simp) (by simp) (by simp) rfl
            simp at hA
            exact step_cap0 hE hd hI h ho hc ha (tys1 hty) ht hdd ⟨A, hA⟩ hk
          · have hv := (hx ▸ h.ev x : SVV w Im R (.raw (.slice none 0 0)) (a.eval x)).raw
            exact step_cap0 hE hd hI h ho hc ha (tys1 hty) ht hdd ⟨none, hv⟩ hk
          · cases hk
        · cases hk
      · cases hk
    · cases hk
  · rename_i s t hss
    obtain ⟨x, y, ha, hx, hy⟩ := args2 hss
    obtain ⟨k, m, e1, hk⟩ := asInt_some hk
    obtain ⟨j, n, e2, hk⟩ := asInt_some hk
    split at hk
    · rename_i e; subst e
      exact step_min hd hI h ho hc ha (hx.trans e1) (hy.trans e2) hk
    · cases hk
  · rename_i s t hss
    obtain ⟨x, y, ha, hx, hy⟩ := args2 hss
    obtain ⟨k, m, e1, hk⟩ := asInt_some hk
    obtain ⟨j, n, e2, hk⟩ := asInt_some hk
    split at hk
    · rename_i e; subst e
      exact step_max hd hI h ho hc ha (hx.trans e1) (hy.trans e2) hk
    · cases hk
  · rename_i s v hss
    obtain ⟨x, y, ha, hx, hy⟩ := args2 hss
    split at hk
    · rename_i d t u hdst hty
      split at hk
      · rename_i e; subst e
        split at hk
        · rename_i te ht
          split at hk
          · rename_i e hdd
            split at hk
            · rename_i ee hee
              split at hk
              · rename_i hz
                subst hx; subst hy
                exact step_append hE hd hI h ho hc ha (tys2 hty) (hE.slc ht hdd).1 hee hz hdst hk
              · cases hk
            · cases hk
          · cases hk
        · cases hk
      · split at hk
        · rename_i hs _ _ te ue ht hue
          split at hk
          · rename_i e k hdd hdu
            split at hk
            · rename_i ee hee
              split at hk
              · rename_i hz
                obtain ⟨k2, n, e2, hk⟩ := asInt_some hk
                split at hk
                · rename_i hb
                  have hvx := (hx ▸ h.ev x : SVV w Im R (.raw (.slice none 0 0)) (a.eval x)).raw
                  have hvy : a.eval y = .int k2 n := ((hy.trans e2) ▸ h.ev y : SVV w Im R (.con (.int k2) n) (a.eval y)).int
                  exact step_zeros hE hd hI h ho hc ha (tys2 hty) ht hdd hue hdu hee hz hdst hvx hvy hb hk
                · cases hk
              · cases hk
            · cases hk
          · cases hk
        · cases hk
    · cases hk
  · rename_i s v hss
    obtain ⟨x, y, ha, hx, hy⟩ := args2 hss
    split at hk
    · rename_i t u hty
      split at hk
      · rename_i te ue ht hue
        split at hk
        · rename_i e e2 hdd hdu
          split at hk
          · rename_i ee hee
            subst hx; subst hy
            exact step_copy (e2 := e2) hE hd hI h ho hc ha (tys2 hty) (hE.slc ht hdd).1 hee hk
          · cases hk
        · cases hk
      · cases hk
    · cases hk
  · cases hk
theorem step_some {c : Cx} (hE : EnvOk P c.E) (hd : a.defers = []) (hI : ∀ b, I0 b → Im b) (h : Inv G st a.tmps w Im R [])
    (hcall : ∀ cl f g caps, o.op = .call cl → cl.callee = .value f → st.ev f = .fn g caps → ends caps = true → callS c st o.dst g (cl.args.toList.map st.ev ++ untup caps) K = some r0 → o.wp P a w (Post G I0 K r0) Q)
    (hk : stepS c st o K = some r0) : o.wp P a w (Post G I0 K r0) Q := by
  unfold stepS at hk
  split at hk
  · rename_i x ho
    exact wp_value (by simp [execOp, ho]) hd hI h (h.ev x) hk
  · rename_i x ho
    exact wp_value (by simp [execOp, ho]) hd hI h (h.ev x) hk
  · rename_i g x y ho
    obtain ⟨b, e, hk⟩ := asBool_some hk
    have eg : a.eval g = .bool b := (e ▸ h.ev g : SVV w Im R (.con .bool b) (a.eval g)).bool
    cases b with
    | true => exact wp_value (v := a.eval x) (by simp [execOp, ho, eg, Go.asBool]) hd hI h (h.ev x) hk
    | false => exact wp_value (v := a.eval y) (by simp [execOp, ho, eg, Go.asBool]) hd hI h (h.ev y) hk
  · rename_i e ho
    split at hk
    · rename_i te d ht hdst
      split at hk
      · rename_i hz
        exact step_alloc hE hd hI h ho ht hz hdst hk
      · cases hk
    · cases hk
  · rename_i e x ho
    split at hk
    · rename_i te d ht hdst
      exact step_box hE hd hI h ho ht hdst hk
    · cases hk
  · rename_i t parts ho
    split at hk
    · rename_i te ht
      split at hk
      · rename_i fl hdd
        split at hk
        · rename_i hz
          exact step_build hE hd hI h ho ht hdd hz hk
        · cases hk
      · cases hk
    · cases hk
  · rename_i t n parts ho
    split at hk
    · rename_i te d ht hdst
      split at hk
      · rename_i e hdd
        split at hk
        · rename_i ee hee
          split at hk
          · rename_i hc
            by_cases hro : isRo (c.mode d te.ty) = true
            · simp only [if_pos hro] at hk
              exact step_buildCon hE hd hI h ho ht hdd hee hc.1 hc.2.1 hc.2.2.1 hc.2.2.2 hdst hk
            · simp only [if_neg hro] at hk
              exact step_buildSlice hE hd hI h ho ht hdd hee hc.1 hc.2.1 hc.2.2.1 hc.2.2.2 hdst hk
          · cases hk
        · cases hk
      · cases hk
    · cases hk
  · rename_i t x ho
    split at hk
    · rename_i te ht
      obtain ⟨s', z, k1, k2, k3⟩ := load_some hE h ht hk (h.ev x)
      exact wp_value (by simp [execOp, ho, k2, Result.andThen]) hd hI h k3 k1
    · cases hk
  · rename_i t x v ho
    split at hk
    · rename_i te ht
      exact step_store hE hd hI h ho ht hk
    · cases hk
  · rename_i x ho
    have hx := h.ev x
    split at hk
    · rename_i r q he
      split at hk
      · rename_i hs
        obtain ⟨b, hb⟩ := Option.isSome_iff_exists.1 hs
        rw [he] at hx
        obtain ⟨u, e1, hp⟩ := hx.cell (by simp) (by simp) (by simp) rfl
        simp at e1
        obtain ⟨rb, hrr⟩ := h.real hb
        obtain ⟨_, cs, b', o', _, e2⟩ := hp b rb hrr
        exact wp_value (v := a.eval x) (by simp [execOp, ho, e1, e2]) hd hI h hx hk
      · cases hk
    · rename_i t y he
      rw [he] at hx
      obtain ⟨b, o', c', e', fz, e1, _⟩ := hx.cell (by simp) (by simp) (by simp) rfl
      simp at e1
      exact wp_value (v := a.eval x) (by simp [execOp, ho, e1]) hd hI h hx hk
    · rename_i f cs he
      rw [he] at hx
      obtain ⟨caps, e1, _⟩ := hx.cell (by simp) (by simp) (by simp) rfl
      simp at e1
      exact wp_value (v := a.eval x) (by simp [execOp, ho, e1]) hd hI h hx hk
    · cases hk
  · rename_i op t x y b ho
    split at hk
    · rename_i hy
      split at hk
      · rename_i ht
        exact step_nil hE hd hI h ho hy ht hk
      · cases hk
    · split at hk
      · rename_i hb
        obtain ⟨s', z, k1, k2, k3⟩ := bin_some (P := P) hk (h.ev x) (h.ev y) t x y (fun p q e1 e2 => by
          rw [e1] at hb
          unfold boolOk at hb
          simp only at hb
          split at hb
          · rename_i te ht
            split at hb
            · rename_i hdd; exact hE.bool ht hdd
            · cases hb
          · cases hb)
        refine wp_value ?_ hd hI h k3 k1
        simp only [execOp, ho]
        rw [Sem.run_bind, k2]; rfl
      · cases hk
  · rename_i op t x ho
    split at hk
    · obtain ⟨b, e, hk⟩ := asBool_some hk
      have ex : a.eval x = .bool b := (e ▸ h.ev x : SVV w Im R (.con .bool b) (a.eval x)).bool
      exact wp_value (by simp [execOp, ho, ex, Op.unary, Result.andThen]) hd hI h (.ofBool _) hk
    · obtain ⟨k, n, e, hk⟩ := asInt_some hk
      have ex : a.eval x = .int k n := (e ▸ h.ev x : SVV w Im R (.con (.int k) n) (a.eval x)).int
      exact wp_value (by simp [execOp, ho, ex, Op.unary, Op.intArith, Result.andThen]) hd hI h (.ofInt _ _) hk
    · obtain ⟨k, n, e, hk⟩ := asInt_some hk
      have ex : a.eval x = .int k n := (e ▸ h.ev x : SVV w Im R (.con (.int k) n) (a.eval x)).int
      have hb := bitop_run (P := P) (w := w) k (if k.signed = true then -1 else k.max) n .xor (.inr (.inr (.inl rfl)))
      exact wp_value (by simp [execOp, ho, ex, Op.unary, hb, Result.andThen]) hd hI h (.ofInt _ _) hk
    · cases hk
  · rename_i src dst x ho
    split at hk
    · rename_i ts td hs ht
      split at hk
      · rename_i k hdd
        obtain ⟨j, n, e, hk⟩ := asInt_some hk
        have ex : a.eval x = .int j n := (e ▸ h.ev x : SVV w Im R (.con (.int j) n) (a.eval x)).int
        obtain ⟨ds, hds⟩ := hE.und hs
        exact wp_value (by simp [execOp, ho, ex, convert, run_underlying hds, run_underlying (hE.int ht hdd), Conv.intToInt, Result.andThen]) hd hI h (.ofInt _ _) hk
      · rename_i e h1 h2
        split at hk
        · rename_i te h3
          split at hk
          · rename_i h4
            split at hk
            · rename_i hna
              exact step_toString hE hd hI h ho hs ht h3 h1 h2 h4 hna hk
            · cases hk
          · cases hk
        · cases hk
      · rename_i e h1 h2
        split at hk
        · rename_i te h3
          split at hk
          · rename_i h4
            obtain ⟨s, e1, hk⟩ := asStr_some hk
            exact step_toBytes hE hd hI h ho hs ht h3 h1 h2 h4 e1 hk
          · cases hk
        · cases hk
      · cases hk
    · cases hk
  · rename_i f first caps ho
    split at hk
    · rename_i hf
      have hf : first = #[] := Array.toList_eq_nil_iff.1 hf
      subst hf
      refine wp_value (v := .func (.func f) #[] (caps.map a.eval)) (by simp [execOp, ho, Instr.makeFunc, Result.andThen]) hd hI h (.ofCell (s := .fn f (tupleOf (caps.toList.map st.ev))) ⟨caps.map a.eval, rfl, ?_⟩ rfl) hk
      have := tupleOf_ok (w := w) (Im := Im) (R := R) (l := caps.toList.map fun x => (st.ev x, a.eval x)) (fun p hp => by
        obtain ⟨x, _, rfl⟩ := List.mem_map.1 hp
        exact h.ev x)
      simpa [Function.comp_def] using this
    · cases hk
  · rename_i t l cp ho
    split at hk
    · rename_i te d ht hdst
      split at hk
      · rename_i e hdd
        split at hk
        · rename_i ee hee
          split at hk
          · rename_i hz
            obtain ⟨k1, n, e1, hk⟩ := asInt_some hk
            obtain ⟨k2, m, e2, hk⟩ := asInt_some hk
            split at hk
            · rename_i hc
              exact step_make hE hd hI h ho ht hdd hee hz hdst (e1 ▸ h.ev l : SVV w Im R (.con (.int k1) n) (a.eval l)).int (e2 ▸ h.ev cp : SVV w Im R (.con (.int k2) m) (a.eval cp)).int ⟨hc.1, hc.2.1, hc.2.2.1⟩ hc.2.2.2.1 hc.2.2.2.2 hk
            · cases hk
          · cases hk
        · cases hk
      · cases hk
    · cases hk
  · rename_i t x lo hi mx ho
    split at hk
    · rename_i te ht
      split at hk
      · rename_i e hdd
        obtain ⟨s', z, k1, k2, k3⟩ := slice_some hE h ht (.inl ⟨e, hdd⟩) hk (h.ev x)
        exact wp_value (by simp [execOp, ho, k2, Result.andThen]) hd hI h k3 k1
      · rename_i hdd
        obtain ⟨s', z, k1, k2, k3⟩ := slice_some hE h ht (.inr hdd) hk (h.ev x)
        exact wp_value (by simp [execOp, ho, k2, Result.andThen]) hd hI h k3 k1
      · cases hk
    · cases hk
  · rename_i t x f ho
    split at hk
    · rename_i te ht
      split at hk
      · rename_i fl hdd
        obtain ⟨s', z, k1, k2, k3⟩ := fieldAddr_some hE h ht hdd hk (h.ev x)
        exact wp_value (by simp [execOp, ho, k2, Result.andThen]) hd hI h k3 k1
      · cases hk
    · cases hk
  · rename_i t x f ho
    split at hk
    · rename_i te ht
      split at hk
      · rename_i fl hdd
        split at hk
        · rename_i hc
          obtain ⟨z, k2, k3⟩ := field_some hE ht hdd ⟨hc.1, hc.2.1⟩ (h.ev x) (by intro hu; rw [hu] at hc; simp [isU] at hc)
          exact wp_value (by simp [execOp, ho, k2, Result.andThen]) hd hI h k3 hk
        · cases hk
      · cases hk
    · cases hk
  · rename_i t x i ho
    split at hk
    · rename_i te ht
      split at hk
      · rename_i e hdd
        obtain ⟨k, n, e1, hk⟩ := asInt_some hk
        have ei : a.eval i = .int k n := (e1 ▸ h.ev i : SVV w Im R (.con (.int k) n) (a.eval i)).int
        obtain ⟨s', z, k1, k2, k3⟩ := elem_some hE h ht hdd (k := k) hk (h.ev x)
        exact wp_value (by simp [execOp, ho, ei, k2, Result.andThen]) hd hI h k3 k1
      · cases hk
    · cases hk
  · rename_i t x i ho
    split at hk
    · rename_i te ht
      split at hk
      · rename_i hdd
        obtain ⟨k, n, e1, hk⟩ := asInt_some hk
        obtain ⟨s, e2, hk⟩ := asStr_some hk
        have ei : a.eval i = .int k n := (e1 ▸ h.ev i : SVV w Im R (.con (.int k) n) (a.eval i)).int
        have ex : a.eval x = .string s := (e2 ▸ h.ev x : SVV w Im R (.con .str s) (a.eval x)).str
        split at hk
        · rename_i hb
          have hlt : n.toNat < s.size := by omega
          have hs : s[n.toNat]? = some s[n.toNat] := by simp [hlt]
          have hbt : bt s n = ((s[n.toNat].toNat : Nat) : Int) := by
            unfold bt
            have : s.data.toList[n.toNat]? = some s[n.toNat] := by
              rw [Array.getElem?_toList]
              exact Array.getElem?_eq_getElem (by exact hlt)
            rw [List.getD_eq_getElem?_getD, this]; rfl
          refine wp_value (v := .int .u8 (bt s n)) ?_ hd hI h (.ofInt _ _) hk
          simp [execOp, ho, ei, ex, Instr.index, asIntOf, run_underlying (hE.str ht hdd), hb.1, hs, hbt, Result.andThen]
        · cases hk
      · cases hk
    · cases hk
  · rename_i x i ho
    obtain ⟨s, hn, hk⟩ := Option.bind_eq_some_iff.1 hk
    have hx := h.ev x
    rcases hx with hu | ⟨vs, e, hx, _⟩ | ⟨cs, _, hx⟩
    · rw [hu] at hn; cases i <;> simp [nth] at hn
    · obtain ⟨v, hv, hs⟩ := nth_some hn hx
      have hv' : vs[i]? = some v := by simpa using hv
      exact wp_value (by simp [execOp, ho, e, Instr.extract, hv', Result.andThen]) hd hI h hs hk
    · cases hst : st.ev x <;> rw [hst] at hn hx <;> (try (cases i <;> simp [nth] at hn; done))
      obtain ⟨hh, _⟩ := hx
      cases hh
  · rename_i cl ho
    split at hk
    · rename_i b hc
      exact builtin_some hE hd hI h ho hc hk
    · rename_i f hc
      split at hk
      · rename_i g caps he
        split at hk
        · rename_i hend
          exact hcall cl f g caps ho hc he hend hk
        · cases hk
      · cases hk
    · cases hk
  · cases hk
end
end Go.Proofs.Ytlgbhaigpecdoaa.V
