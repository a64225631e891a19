/- Parts of rows and strings, fields of values, whole values. -/
import Derived.Test.YtlgbhaigpecdoaaVField
set_option linter.unusedVariables false
set_option linter.unusedSimpArgs false
namespace Go.Proofs.Ytlgbhaigpecdoaa.V
open Go

section
variable {P : Program} {G : Gl} {st : St} {vs : Array Value} {w : World} {Im : Nat → Prop} {R : Real} {hand : Frag} {T : Type} {r0 : T} {E : Env}
theorem und_row (hE : EnvOk P E) {tid : TypeId} {te : TE} (ht : E.get tid = some te) : ∃ d, P.underlying tid = some d ∧ d.isRow = aggTy te.ty ∧ (aggTy te.ty = false → sz te.ty = 1) := by
  have hu := (hE tid te ht).2
  unfold UndOk at hu
  split at hu
  · obtain ⟨h1, h2⟩ := hu; exact ⟨_, h1, by rw [h2]; rfl, by rw [h2]; intro _; rfl⟩
  · obtain ⟨h1, h2⟩ := hu; exact ⟨_, h1, by rw [h2]; rfl, by rw [h2]; intro _; rfl⟩
  · obtain ⟨h1, h2⟩ := hu; exact ⟨_, h1, by rw [h2]; rfl, by rw [h2]; intro _; rfl⟩
  · obtain ⟨h1, ee, _, h2⟩ := hu; exact ⟨_, h1, by rw [h2]; rfl, by rw [h2]; intro _; rfl⟩
  · obtain ⟨fs, h1, h2, _⟩ := hu; exact ⟨_, h1, by rw [struct_agg h2], fun h => by rw [struct_agg h2] at h; cases h⟩
  · obtain ⟨d, h1, h2, h3⟩ := hu; exact ⟨_, h1, by rw [h3, h2]; rfl, by rw [h3]; intro _; rfl⟩
theorem run_isAgg (hE : EnvOk P E) {tid : TypeId} {te : TE} (ht : E.get tid = some te) (w : World) : (Go.isAgg tid).run P w = .ok (aggTy te.ty) w := by
  obtain ⟨d, h1, h2, _⟩ := und_row hE ht
  unfold Go.isAgg
  rw [Sem.run_bind, run_underlying h1, ← h2]
  cases d <;> rfl
theorem run_part (hE : EnvOk P E) {tid : TypeId} {te : TE} (ht : E.get tid = some te) {arr : Array Value} {off : Nat} {cs : List Value} (hc : (arr.toList.drop off).take (sz te.ty) = cs) (hl : cs.length = sz te.ty) :
    ∃ v, (part tid arr off).run P w = .ok v w ∧ pack te.ty cs v := by
  obtain ⟨⟨i, hi⟩, _⟩ := hE tid te ht
  obtain ⟨_, _, _, hone⟩ := und_row hE ht
  cases ha : aggTy te.ty with
  | true =>
    refine ⟨.agg cs.toArray, ?_, by simp [pack, ha]⟩
    simp only [part, Sem.run_bind, run_isAgg hE ht, ha, Result.andThen_ok, if_true, run_sizeOf_ok hi]
    have : arr.extract off (off + sz te.ty) = cs.toArray := by
      apply Array.ext'; rw [← hc]; simp [List.take_drop, Nat.add_comm]
    rw [this]; rfl
  | false =>
    rw [hone ha] at hl hc
    match cs, hl with
    | [v], _ =>
      refine ⟨v, ?_, by simp [pack, ha]⟩
      have hv : arr[off]? = some v := by
        have := congrArg (fun l => l[0]?) hc
        simpa [List.getElem?_take, List.getElem?_drop] using this
      simp [part, Sem.run_bind, run_isAgg hE ht, ha, hv]
theorem field_some (hE : EnvOk P E) {tid : TypeId} {te : TE} (ht : E.get tid = some te) {l : List TypeId} (hd : te.d = .struct l) {s : SV} {v : Value} {j : Nat}
    (hf : fitsTy te.ty s = true ∧ j < (fieldTys te.ty).length) (hs : SVV w Im R s v) (hu : s ≠ .undef) :
    ∃ z, (Instr.field tid v j).run P w = .ok z w ∧ SVV w Im R (fieldOf j s) z := by
  obtain ⟨fields, f, fe, i, h1, h2, h3, h4, h5, h6, h7, h8⟩ := und_struct hE ht hd hf.2
  obtain ⟨cs, e, hx⟩ := hs.cells hu (by intro h; rw [h] at hf; cases hty : te.ty <;> simp [hty, fitsTy] at hf) (by intro a b h; rw [h] at hf; cases hty : te.ty <;> simp [hty, fitsTy] at hf)
  rw [fits_agg hf.1 hu, struct_agg h2, if_pos rfl] at e
  subst e
  obtain ⟨f1, f2⟩ := fieldOf_ok j h2 h6 hf.1 hx
  obtain ⟨z, hz, hp⟩ := run_part (w := w) hE h5 (arr := cs.toArray) (off := foff te.ty j) rfl (fits_len f2 f1)
  refine ⟨z, ?_, .ofPack f1 hp (fun h => fits_agg f2 h)⟩
  simp only [Instr.field, Sem.run_bind, run_underlying h1, Result.andThen_ok, h3, asAgg, Sem.run_pure, h4]
  exact hz

/-! ### Parts -/
theorem Rep.part {t : Ty} {xs : List (den t)} {A A' : Option Addr} {len cap cap' lo n : Nat} {h : Frag} (r : Rep w Im (.slc t) .ro xs [.slice A len cap] h) (h1 : lo + n ≤ xs.length) (h2 : n ≤ cap')
    (h3 : 0 < cap' → A' = A.map fun a => a.add (lo * sz t)) : Rep w Im (.slc t) .ro ((xs.drop lo).take n) [.slice A' n cap'] [] := by
  obtain ⟨e0, B, cap2, e, hc, hx⟩ := r
  simp at e
  obtain ⟨rfl, rfl, rfl⟩ := e
  have hl : ((xs.drop lo).take n).length = n := by simp; omega
  refine ⟨rfl, A', cap', by rw [hl], by omega, fun hne => ?_⟩
  have hn : 0 < n := by
    rcases Nat.eq_zero_or_pos n with h | h
    · subst h; simp at hne
    · exact h
  obtain ⟨b, o, c, el, fz, rfl, him, hh, hr⟩ := hx (by intro h; rw [h] at h1; simp at h1; omega)
  have hA := h3 (by omega)
  simp only [Option.map_some, add_at] at hA
  refine ⟨b, o + lo * sz t, c, el, fz, hA, him, hh, ?_⟩
  obtain ⟨g1, g2, e1, s1, s2⟩ := RepL.split (n := sz t) (fun _ _ _ r => r.len) lo hr (by omega)
  have g0 := RepL.none (fun _ _ _ r => r.ro) s2
  subst g0
  obtain ⟨g3, g4, e2, s3, s4⟩ := RepL.split (n := sz t) (fun _ _ _ r => r.len) n s2 (by simp; omega)
  have g0 := RepL.none (fun _ _ _ r => r.ro) s3
  subst g0
  rw [List.drop_drop] at s3
  exact s3
theorem optInt_some {st : St} {o : Option Operand} {d : Int} {K : Int → Option T} (h : optInt st o d K = some r0) :
    ∃ n, K n = some r0 ∧ ((o = none ∧ n = d) ∨ ∃ x k, o = some x ∧ st.ev x = .con (.int k) n) := by
  unfold optInt at h
  split at h
  · exact ⟨d, h, .inl ⟨rfl, rfl⟩⟩
  · obtain ⟨k, n, e, h⟩ := asInt_some h
    exact ⟨n, h, .inr ⟨_, k, rfl, e⟩⟩
theorem Inv.optv {a : Act} (h : Inv G st a.tmps w Im R hand) {o : Option Operand} {d n : Int} (hh : (o = none ∧ n = d) ∨ ∃ x k, o = some x ∧ st.ev x = .con (.int k) n) :
    (o.map a.eval = none ∧ n = d) ∨ ∃ k, o.map a.eval = some (.int k n) := by
  rcases hh with ⟨rfl, e⟩ | ⟨x, k, rfl, e⟩
  · exact .inl ⟨rfl, e⟩
  · have := h.ev x; rw [e] at this
    exact .inr ⟨k, by simp [this.int]⟩
theorem run_bounds {isS : Bool} {len cap : Nat} {lo hi mx : Option Value} {l h : Int} (hl : (lo = none ∧ l = 0) ∨ ∃ k, lo = some (.int k l)) (hh : (hi = none ∧ h = len) ∨ ∃ k, hi = some (.int k h))
    (h0 : 0 ≤ l) (h1 : l ≤ h) (hm : mx = none ∧ h ≤ cap) (hlen : len ≤ cap) : (Instr.sliceBounds isS len cap lo hi mx).run P w = .ok (l.toNat, h.toNat, cap) w := by
  obtain ⟨rfl, h2⟩ := hm
  have hh0 : 0 ≤ h := by omega
  have e : ((h.toNat : Nat) : Int) = h := by omega
  rcases hh with ⟨rfl, rfl⟩ | ⟨k, rfl⟩
  · rcases hl with ⟨rfl, rfl⟩ | ⟨k2, rfl⟩
    · simp [Instr.sliceBounds]
    · simp [Instr.sliceBounds, Instr.sliceBound, asIntOf, h0, h1]
  · rcases hl with ⟨rfl, rfl⟩ | ⟨k2, rfl⟩
    · simp [Instr.sliceBounds, Instr.sliceBound, asIntOf, hh0, h2]
    · simp [Instr.sliceBounds, Instr.sliceBound, asIntOf, hh0, h2, h0, e, h1]
theorem run_bounds3 {isS : Bool} {len cap : Nat} {lo hi : Option Value} {l h m : Int} {km : IntKind} (hl : (lo = none ∧ l = 0) ∨ ∃ k, lo = some (.int k l)) (hh : ∃ k, hi = some (.int k h))
    (h0 : 0 ≤ l) (h1 : l ≤ h) (h2 : h ≤ m) (h3 : m ≤ cap) : (Instr.sliceBounds isS len cap lo hi (some (.int km m))).run P w = .ok (l.toNat, h.toNat, m.toNat) w := by
  have hh0 : 0 ≤ h := by omega
  have hm0 : 0 ≤ m := by omega
  have e : ((h.toNat : Nat) : Int) = h := by omega
  have e2 : ((m.toNat : Nat) : Int) = m := by omega
  obtain ⟨k, rfl⟩ := hh
  rcases hl with ⟨rfl, rfl⟩ | ⟨k2, rfl⟩
  · simp [Instr.sliceBounds, Instr.sliceBound, asIntOf, hh0, h2, hm0, h3, e2]
  · simp [Instr.sliceBounds, Instr.sliceBound, asIntOf, hh0, h2, h0, e, h1, hm0, h3, e2]
theorem add_add (a : Addr) (x y : Nat) : (a.add x).add y = a.add (x + y) := by
  unfold Addr.add
  by_cases h : x = 0
  · subst h; simp
  · by_cases h2 : y = 0
    · subst h2; simp [h]
    · have : x + y ≠ 0 := by omega
      simp [h, h2, this, Nat.add_assoc]
theorem run_sliceAt {tid e : TypeId} {ee : TE} {i : TypeInfo} (hu : P.underlying tid = some (.slice e)) (hi : InfoOk P e ee i) {A : Option Addr} {len cap : Nat} {lo hi' mx : Option Value} {l h m : Nat}
    (hb : (Instr.sliceBounds true len cap lo hi' mx).run P w = .ok (l, h, m) w) :
    (Instr.sliceAt tid (.slice A len cap) lo hi' mx).run P w = .ok (.slice (if m = l then A else A.map fun a => a.add (l * sz ee.ty)) (h - l) (m - l)) w := by
  simp [Instr.sliceAt, Instr.slice, Sem.run_bind, run_underlying hu, hb, run_sizeOf_ok hi]
theorem isZero_some {o : Option Operand} (h : isZero o = true) {a : Act} : ∃ k, o.map a.eval = some (.int k 0) := by
  unfold isZero at h
  split at h
  · simp at h; subst h; exact ⟨_, rfl⟩
  · cases h
theorem slice_some (hE : EnvOk P E) {a : Act} (h : Inv G st a.tmps w Im R hand) {tid : TypeId} {te : TE} (ht : E.get tid = some te) (hd : (∃ e, te.d = .slc e) ∨ te.d = .str) {s : SV} {v : Value} {lo hi mx : Option Operand} {K : SV → Option T}
    (hk : sliceS st te.ty s lo hi mx K = some r0) (hs : SVV w Im R s v) :
    ∃ s' z, K s' = some r0 ∧ (Instr.sliceAt tid v (lo.map a.eval) (hi.map a.eval) (mx.map a.eval)).run P w = .ok z w ∧ SVV w Im R s' z := by
  have hu := (hE tid te ht).2
  have hslc : te.ty ≠ .str → ∃ e ee i, P.underlying tid = some (.slice e) ∧ te.ty = .slc ee.ty ∧ InfoOk P e ee i := by
    intro hne
    unfold UndOk at hu
    rcases hd with ⟨e, hd⟩ | hd
    · rw [hd] at hu; obtain ⟨h1, ee, h2, h3⟩ := hu
      obtain ⟨⟨i, hi⟩, _⟩ := hE e ee h2
      exact ⟨e, ee, i, h1, h3, hi⟩
    · rw [hd] at hu; exact absurd hu.2 hne
  have hstr : te.ty = .str → P.underlying tid = some .string := by
    intro he
    unfold UndOk at hu
    rcases hd with ⟨e, hd⟩ | hd
    · rw [hd] at hu; obtain ⟨h1, ee, h2, h3⟩ := hu; rw [he] at h3; cases h3
    · rw [hd] at hu; exact hu.1
  unfold sliceS at hk
  split at hk
  · rename_i x
    have e := hs.str; subst e
    split at hk
    · split at hk
      · rename_i he
        obtain ⟨hh, hk, hhi⟩ := optInt_some hk
        obtain ⟨l, hk, hlo⟩ := optInt_some hk
        split at hk
        · rename_i hb
          have hb' := run_bounds (P := P) (w := w) (isS := false) (len := x.size) (cap := x.size) (mx := none) (h.optv hlo) (h.optv hhi) hb.1 hb.2.1 ⟨rfl, hb.2.2⟩ (Nat.le_refl _)
          refine ⟨_, _, hk, ?_, .ofStr _⟩
          simp [Instr.sliceAt, Instr.slice, Sem.run_bind, run_underlying (hstr he), hb']
        · cases hk
      · cases hk
    · cases hk
  · have e := hs.raw; subst e
    split at hk
    · split at hk
      · cases hk
      · rename_i hne
        obtain ⟨e, ee, i, h1, h2, h3⟩ := hslc hne
        obtain ⟨hh, hk, hhi⟩ := optInt_some hk
        obtain ⟨l, hk, hlo⟩ := optInt_some hk
        split at hk
        · rename_i hb
          have hb' := run_bounds (P := P) (w := w) (isS := true) (len := 0) (cap := 0) (mx := none) (h.optv hlo) (h.optv hhi) hb.1 hb.2.1 ⟨rfl, by omega⟩ (Nat.le_refl _)
          refine ⟨_, _, hk, run_sliceAt h1 h3 hb', ?_⟩
          have : l.toNat = 0 := by omega
          have : hh.toNat = 0 := by omega
          have el : l.toNat = 0 := by omega
          have eh : hh.toNat = 0 := by omega
          rw [el, eh]; exact .ofRaw _
        · cases hk
    · cases hk
  · rename_i t xs
    split at hk
    · rename_i he
      obtain ⟨e, ee, i, h1, h2, h3⟩ := hslc (by rw [← he]; simp)
      rw [h2] at he; injection he with he; subst he
      have hrep := hs.cell (by simp) (by simp) (by simp) rfl
      obtain ⟨A, cap, rfl, hcap⟩ := Rep.roLen hrep
      split at hk
      · obtain ⟨hh, hk, hhi⟩ := optInt_some hk
        obtain ⟨l, hk, hlo⟩ := optInt_some hk
        split at hk
        · rename_i hb
          have hb' := run_bounds (P := P) (w := w) (isS := true) (len := List.length xs) (cap := cap) (mx := none) (h.optv hlo) (h.optv hhi) hb.1 hb.2.1 ⟨rfl, by omega⟩ hcap
          refine ⟨_, _, hk, run_sliceAt h1 h3 hb', .ofCell (Rep.part hrep (by omega) (by omega) (fun hp => by rw [if_neg (by omega)])) rfl⟩
        · cases hk
      · split at hk
        · rename_i hz
          obtain ⟨k1, e1⟩ := isZero_some (a := a) hz.1
          obtain ⟨k2, e2⟩ := isZero_some (a := a) hz.2.1
          have e3 : lo.map a.eval = none := by have := hz.2.2; simp at this; simp [this]
          have hb' := run_bounds3 (P := P) (w := w) (isS := true) (len := List.length xs) (cap := cap) (lo := none) (hi := some (.int k1 0)) (l := 0) (h := 0) (m := 0) (km := k2) (.inl ⟨rfl, rfl⟩) ⟨k1, rfl⟩ (by omega) (by omega) (by omega) (by omega)
          refine ⟨_, _, hk, by rw [e1, e2, e3]; exact run_sliceAt h1 h3 hb', .ofCell ⟨A, by simp⟩ rfl⟩
        · rename_i m _
          obtain ⟨km, mv, e1, hk⟩ := asInt_some hk
          have hm := h.ev m; rw [e1] at hm
          split at hk
          · rename_i his
            obtain ⟨hh, hk, hhi⟩ := optInt_some hk
            obtain ⟨l, hk, hlo⟩ := optInt_some hk
            split at hk
            · rename_i hb
              have hhi' : ∃ k, hi.map a.eval = some (.int k hh) := by
                rcases h.optv hhi with ⟨e, _⟩ | e
                · rw [Option.map_eq_none_iff] at e; rw [e] at his; cases his
                · exact e
              have hb' := run_bounds3 (P := P) (w := w) (isS := true) (len := List.length xs) (cap := cap) (km := km) (h.optv hlo) hhi' hb.1 hb.2.1 hb.2.2.1 (m := mv) (by omega)
              refine ⟨_, _, hk, by simp only [Option.map_some, hm.int]; exact run_sliceAt h1 h3 hb', .ofCell (Rep.part hrep (by omega) (by omega) (fun hp => by rw [if_neg (by omega)])) rfl⟩
            · cases hk
          · cases hk
    · cases hk
  · rename_i r q
    split at hk
    · rename_i b hb
      obtain ⟨u, e1, hr⟩ := hs.cell (by simp) (by simp) (by simp) rfl
      simp at e1; subst e1
      obtain ⟨g1, rb, hrr, n2, n3⟩ := h.ref hb hr
      obtain ⟨t', xs, m', c1, c2, n4, _, hk⟩ := rowOf_some (r0 := r0) hk n2
      split at hk
      · rename_i he
        obtain ⟨e, ee, i, h1, h2, h3⟩ := hslc (by rw [← he]; simp)
        rw [h2] at he; injection he with he; subst he
        obtain ⟨A, cap, rfl, hcap⟩ := Rep.ownLen n4
        obtain ⟨hh, hk, hhi⟩ := optInt_some hk
        obtain ⟨l, hk, hlo⟩ := optInt_some hk
        cases mx with
        | none =>
          dsimp only at hk
          split at hk
          · rename_i hbd
            have hb' := run_bounds (P := P) (w := w) (isS := true) (len := List.length xs) (cap := cap) (mx := none) (h.optv hlo) (h.optv hhi) hbd.1 hbd.2.1 ⟨rfl, by omega⟩ hcap
            refine ⟨_, _, hk, run_sliceAt h1 h3 hb', .ofCell ⟨_, rfl, _, hr, fun b2 rb2 hr2 => ?_⟩ rfl⟩
            rw [hrr] at hr2; cases hr2
            exact ⟨ee.ty, A, _, cap, _, _, c1, rfl, rfl, by omega, by omega, by omega, fun hp => by rw [if_neg (by omega)]⟩
          · cases hk
        | some m =>
          dsimp only at hk
          split at hk
          · rename_i his
            obtain ⟨km, mv, e1, hk⟩ := asInt_some hk
            have hm := h.ev m; rw [e1] at hm
            split at hk
            · rename_i hbd
              have hhi' : ∃ k, hi.map a.eval = some (.int k hh) := by
                rcases h.optv hhi with ⟨e, _⟩ | e
                · rw [Option.map_eq_none_iff] at e; rw [e] at his; cases his
                · exact e
              have hb' := run_bounds3 (P := P) (w := w) (isS := true) (len := List.length xs) (cap := cap) (km := km) (h.optv hlo) hhi' hbd.1 hbd.2.1 hbd.2.2.1 (m := mv) (by omega)
              refine ⟨_, _, hk, by simp only [Option.map_some, hm.int]; exact run_sliceAt h1 h3 hb', .ofCell ⟨_, rfl, _, hr, fun b2 rb2 hr2 => ?_⟩ rfl⟩
              rw [hrr] at hr2; cases hr2
              exact ⟨ee.ty, A, _, cap, _, _, c1, rfl, rfl, by omega, by omega, by omega, fun hp => by rw [if_neg (by omega)]⟩
            · cases hk
          · cases hk
      · cases hk
    · cases hk
  · rename_i r q o n
    split at hk
    · rename_i b hb
      obtain ⟨u, e1, u2, hr, hsub⟩ := hs.cell (by simp) (by simp) (by simp) rfl
      simp at e1; subst e1
      obtain ⟨g1, rb, hrr, n2, n3⟩ := h.ref hb hr
      obtain ⟨t', xs, m', c1, c2, n4, _, hk⟩ := rowOf_some (r0 := r0) hk n2
      split at hk
      · rename_i he
        obtain ⟨e, ee, i, h1, h2, h3⟩ := hslc (by rw [← he]; simp)
        rw [h2] at he; injection he with he; subst he
        obtain ⟨t2, A, len, cap, A', cap', f1, f2, f3, f4, f5, f6, f7⟩ := hsub b rb hrr
        rw [c1] at f1; injection f1 with f1; subst f1
        subst f3
        obtain ⟨hh, hk, hhi⟩ := optInt_some hk
        obtain ⟨l, hk, hlo⟩ := optInt_some hk
        split at hk
        · split at hk
          · rename_i hbd
            have hb' := run_bounds (P := P) (w := w) (isS := true) (len := n) (cap := cap') (mx := none) (h.optv hlo) (h.optv hhi) hbd.1 hbd.2.1 ⟨rfl, by omega⟩ f5
            refine ⟨_, _, hk, run_sliceAt h1 h3 hb', .ofCell ⟨_, rfl, _, hr, fun b2 rb2 hr2 => ?_⟩ rfl⟩
            rw [hrr] at hr2; cases hr2
            refine ⟨ee.ty, A, len, cap, _, _, c1, f2, rfl, by omega, by omega, by omega, fun hp => ?_⟩
            rw [if_neg (by omega), f7 (by omega)]
            simp only [Option.map_map]
            congr 1
            funext x
            simp only [Function.comp, add_add]
            congr 1
            rw [Nat.add_mul]
          · cases hk
        · cases hk
      · cases hk
    · cases hk
  · cases hk
end
end Go.Proofs.Ytlgbhaigpecdoaa.V
