/- Fields. -/
import Derived.Test.YtlgbhaigpecdoaaVLook
set_option linter.unusedVariables false
set_option linter.unusedSimpArgs false
namespace Go.Proofs.Ytlgbhaigpecdoaa.V
open Go

theorem structTy_cases {t : Ty} {j : Nat} {ft : Ty} (h : structTy t = true) (hj : (fieldTys t)[j]? = some ft) : ∃ a b, t = .pair a b ∧ structTy b = true := by
  cases t <;> simp [structTy, fieldTys] at h hj
  exact ⟨_, _, rfl, h⟩
theorem fits_raw {t : Ty} {v : Value} (h : fitsTy (.slc t) (.raw v) = true) : v = .slice none 0 0 := by
  cases v with
  | slice a l c => cases a <;> cases l <;> cases c <;> simp [fitsTy] at h ⊢
  | _ => simp [fitsTy] at h
theorem foff_le : ∀ (j : Nat) {t ft : Ty}, structTy t = true → (fieldTys t)[j]? = some ft → foff t j + sz ft ≤ sz t := by
  intro j
  induction j with
  | zero =>
    intro t ft h hj
    obtain ⟨a, b, rfl, _⟩ := structTy_cases h hj
    simp [fieldTys] at hj; subst hj; simp [foff, sz]
  | succ j ih =>
    intro t ft h hj
    obtain ⟨a, b, rfl, hb⟩ := structTy_cases h hj
    simp [fieldTys] at hj
    have := ih hb hj
    simp [foff, sz]; omega
theorem fpath_ok : ∀ (j : Nat) {t ft : Ty}, structTy t = true → (fieldTys t)[j]? = some ft → ∀ (w : World) (x : den t) (m : Md) (cs : List Value) (ad : Option (Nat × Nat)),
    Valid t x m (fpath j) ∧ ctype t (fpath j) = ft ∧ ∃ c, nav w t cs ad (fpath j) = some (c, ad.map fun p => (p.1, p.2 + foff t j)) := by
  intro j
  induction j with
  | zero =>
    intro t ft h hj w x m cs ad
    obtain ⟨a, b, rfl, _⟩ := structTy_cases h hj
    simp [fieldTys] at hj; subst hj
    refine ⟨⟨trivial, trivial⟩, rfl, cs.take (sz a), ?_⟩
    cases ad <;> simp [nav, navStep, fpath, foff]
  | succ j ih =>
    intro t ft h hj w x m cs ad
    obtain ⟨a, b, rfl, hb⟩ := structTy_cases h hj
    simp [fieldTys] at hj
    obtain ⟨h1, h2, c, h3⟩ := ih hb hj w x.2 m.snd (cs.drop (sz a)) (ad.map fun p => (p.1, p.2 + sz a))
    refine ⟨⟨trivial, h1⟩, h2, c, ?_⟩
    show (match navStep w (.pair a b) cs ad .snd with | some p => nav w b p.1 p.2 (fpath j) | none => none) = _
    simp only [navStep]
    rw [h3]
    cases ad <;> simp [foff, Nat.add_assoc]
section
variable {P : Program} {G : Gl} {st : St} {vs : Array Value} {w : World} {Im : Nat → Prop} {R : Real} {hand : Frag} {T : Type} {r0 : T} {E : Env}
theorem proField_ok : ∀ (j : Nat) {t ft : Ty} {x : den t} {cs : List Value}, structTy t = true → (fieldTys t)[j]? = some ft → Rep w Im t .ro x cs [] →
    ∃ y, proField j t x = .pro ft y ∧ Rep w Im ft .ro y ((cs.drop (foff t j)).take (sz ft)) [] := by
  intro j
  induction j with
  | zero =>
    intro t ft x cs h hj hr
    obtain ⟨a, b, rfl, _⟩ := structTy_cases h hj
    simp [fieldTys] at hj; subst hj
    obtain ⟨c1, c2, h1, h2, e1, e2, r1, r2⟩ := hr
    have := r1.ro; subst this
    refine ⟨x.1, rfl, ?_⟩
    have : (cs.drop (foff (.pair a b) 0)).take (sz a) = c1 := by rw [e1, ← r1.len]; simp [foff]
    rw [this]; exact r1
  | succ j ih =>
    intro t ft x cs h hj hr
    obtain ⟨a, b, rfl, hb⟩ := structTy_cases h hj
    simp [fieldTys] at hj
    obtain ⟨c1, c2, h1, h2, e1, e2, r1, r2⟩ := hr
    have := r2.ro; subst this
    obtain ⟨y, f1, f2⟩ := ih hb hj r2
    refine ⟨y, f1, ?_⟩
    have : (cs.drop (foff (.pair a b) (j + 1))).take (sz ft) = (c2.drop (foff b j)).take (sz ft) := by
      rw [e1, show foff (.pair a b) (j + 1) = c1.length + foff b j by simp [foff, r1.len], ← List.drop_drop]; simp
    rw [this]; exact f2
theorem fits_len : ∀ {t : Ty} {s : SV} {cs : List Value}, fitsTy t s = true → SVX w Im R s false cs → cs.length = sz t := by
  intro t
  induction t with
  | pair a b iha ihb =>
    intro s cs h hs
    cases s <;> simp [fitsTy] at h
    · subst h; exact Rep.len hs
    · obtain ⟨c1, c2, e, h1, h2⟩ := hs
      rw [e, List.length_append, iha h.1 h1, ihb h.2 h2]; rfl
  | unit =>
    intro s cs h hs
    cases s with
    | con t x => cases t <;> simp [fitsTy] at h; exact Rep.len hs
    | _ => simp [fitsTy] at h
  | slc t ih =>
    intro s cs h hs
    cases s with
    | con t x => simp [fitsTy] at h; subst h; exact Rep.len hs
    | raw v => rw [fits_raw h] at hs; simp [SVX, Value.cells] at hs; subst hs; rfl
    | emp => obtain ⟨A, e⟩ := hs; rw [e]; rfl
    | ref r q => obtain ⟨v, e, _⟩ := hs; rw [e]; rfl
    | sub r q lo n => obtain ⟨v, e, _⟩ := hs; rw [e]; rfl
    | undef => exact hs
    | _ => simp [fitsTy] at h
  | raw =>
    intro s cs h hs
    cases s with
    | con t x => simp [fitsTy] at h; subst h; exact Rep.len hs
    | ptr r q => obtain ⟨v, e, _⟩ := hs; rw [e]; rfl
    | pro t x => obtain ⟨b, o, c, e, fz, e1, _⟩ := hs; rw [e1]; rfl
    | fn f c => obtain ⟨caps, e, _⟩ := hs; rw [e]; rfl
    | undef => exact hs
    | _ => simp [fitsTy] at h
  | _ =>
    intro s cs h hs
    cases s with
    | con t x => simp [fitsTy] at h; subst h; exact Rep.len hs
    | undef => exact hs
    | _ => simp [fitsTy] at h
theorem fits_agg : ∀ {t : Ty} {s : SV}, fitsTy t s = true → s ≠ .undef → isAgg s = aggTy t := by
  intro t s h hu
  cases t with
  | slc t =>
    cases s with
    | con t x => simp [fitsTy] at h; subst h; rfl
    | raw v => rw [fits_raw h]; rfl
    | undef => exact absurd rfl hu
    | _ => first | rfl | simp [fitsTy] at h
  | unit =>
    cases s with
    | con t x => cases t <;> simp [fitsTy] at h; rfl
    | _ => simp [fitsTy] at h
  | _ =>
    cases s with
    | con t x => simp [fitsTy] at h; subst h; rfl
    | undef => exact absurd rfl hu
    | _ => first | rfl | simp [fitsTy] at h
theorem fieldOf_ok : ∀ (j : Nat) {t ft : Ty} {s : SV} {cs : List Value}, structTy t = true → (fieldTys t)[j]? = some ft → fitsTy t s = true → SVX w Im R s false cs →
    SVX w Im R (fieldOf j s) false ((cs.drop (foff t j)).take (sz ft)) ∧ fitsTy ft (fieldOf j s) = true := by
  intro j
  induction j with
  | zero =>
    intro t ft s cs h hj hf hs
    obtain ⟨a, b, rfl, _⟩ := structTy_cases h hj
    simp [fieldTys] at hj; subst hj
    cases s <;> simp [fitsTy] at hf
    · subst hf
      obtain ⟨c1, c2, h1, h2, e1, e2, r1, r2⟩ := hs
      have := r1.ro; subst this
      have : (cs.drop (foff (.pair a b) 0)).take (sz a) = c1 := by rw [e1, ← r1.len]; simp [foff]
      rw [this]
      refine ⟨r1, ?_⟩
      show fitsTy a (.con a _) = true
      cases a <;> simp [fitsTy]
    · obtain ⟨c1, c2, e, h1, h2⟩ := hs
      have : (cs.drop (foff (.pair a b) 0)).take (sz a) = c1 := by rw [e, ← fits_len hf.1 h1]; simp [foff]
      rw [this]
      exact ⟨h1, hf.1⟩
  | succ j ih =>
    intro t ft s cs h hj hf hs
    obtain ⟨a, b, rfl, hb⟩ := structTy_cases h hj
    simp [fieldTys] at hj
    cases s <;> simp [fitsTy] at hf
    · subst hf
      obtain ⟨c1, c2, h1, h2, e1, e2, r1, r2⟩ := hs
      have := r2.ro; subst this
      rename_i x
      have := ih (s := .con b x.2) hb hj (by cases b <;> simp [fitsTy]) r2
      have e : (cs.drop (foff (.pair a b) (j + 1))).take (sz ft) = (c2.drop (foff b j)).take (sz ft) := by
        rw [e1, show foff (.pair a b) (j + 1) = c1.length + foff b j by simp [foff, r1.len], ← List.drop_drop]; simp
      rw [e]; exact this
    · obtain ⟨c1, c2, e, h1, h2⟩ := hs
      have := ih hb hj hf.2 h2
      have e : (cs.drop (foff (.pair a b) (j + 1))).take (sz ft) = (c2.drop (foff b j)).take (sz ft) := by
        rw [e, show foff (.pair a b) (j + 1) = c1.length + foff b j by simp [foff, fits_len hf.1 h1], ← List.drop_drop]; simp
      rw [e]; exact this
theorem und_struct (hE : EnvOk P E) {tid : TypeId} {te : TE} (ht : E.get tid = some te) {l : List TypeId} (hd : te.d = .struct l) {j : Nat} (hj : j < (fieldTys te.ty).length) :
    ∃ fields f fe i, P.underlying tid = some (.struct fields) ∧ structTy te.ty = true ∧ fields[j]? = some f ∧ f.offset = foff te.ty j ∧ E.get f.type = some fe ∧ (fieldTys te.ty)[j]? = some fe.ty ∧ sz fe.ty ≠ 0 ∧ InfoOk P f.type fe i := by
  have hu := (hE tid te ht).2
  unfold UndOk at hu
  rw [hd] at hu
  obtain ⟨fields, h1, h2, h3, h4⟩ := hu
  obtain ⟨f5, fe, f6, f7, f8⟩ := h4 j fields[j] (by simp [h3, hj])
  obtain ⟨⟨i, hi⟩, _⟩ := hE _ fe f6
  exact ⟨fields, fields[j], fe, i, h1, h2, by simp [h3, hj], f5, f6, f7, f8, hi⟩
theorem fieldAddr_some (hE : EnvOk P E) (h : Inv G st vs w Im R hand) {tid : TypeId} {te : TE} (ht : E.get tid = some te) {l : List TypeId} (hd : te.d = .struct l) {s : SV} {v : Value} {j : Nat} {K : SV → Option T}
    (hk : fieldPtr st.boxes te.ty j s K = some r0) (hs : SVV w Im R s v) : ∃ s' z, K s' = some r0 ∧ (Instr.fieldAt tid v j).run P w = .ok z w ∧ SVV w Im R s' z := by
  have run : ∀ b o, j < (fieldTys te.ty).length → (Instr.fieldAt tid (.pointer (some ⟨b, o, none⟩)) j).run P w = .ok (.pointer (some ⟨b, o + foff te.ty j, none⟩)) w := by
    intro b o hj
    obtain ⟨fields, f, fe, i, h1, h2, h3, h4, h5, h6, h7, h8⟩ := und_struct hE ht hd hj
    simp [Instr.fieldAt, run_underlying h1, h3, Instr.sureAddr, fieldPlace, run_sizeOf_ok h8, h7, h4, add_at]
  unfold fieldPtr at hk
  split at hk
  · rename_i r q
    split at hk
    · rename_i b hb
      split at hk
      · rename_i hc
        obtain ⟨u, e1, hp⟩ := hs.cell (by simp) (by simp) (by simp) rfl
        simp at e1; subst e1
        obtain ⟨rb, hr⟩ := h.real hb
        obtain ⟨hv, cs, b', o, hn, rfl⟩ := hp b rb hr
        refine ⟨_, _, hk, run b' o hc.2, .ofCell ⟨_, rfl, fun b2 rb2 hr2 => ?_⟩ rfl⟩
        rw [hr] at hr2; cases hr2
        obtain ⟨fields, f, fe, i, h1, h2, h3, h4, h5, h6, h7, h8⟩ := und_struct hE ht hd hc.2
        rw [← hc.1] at h2 h6
        obtain ⟨f1, f2, c, f3⟩ := fpath_ok j h2 h6 w (cget b.t b.x q) (mget b.m q) cs (some (b', o))
        refine ⟨(Valid_append q _).2 ⟨hv, f1⟩, c, b', o + foff te.ty j, ?_, rfl⟩
        rw [nav_append, hn]
        simp only [Option.bind_some]
        rw [f3, hc.1]; rfl
      · cases hk
    · cases hk
  · rename_i t x
    split at hk
    · rename_i hc
      obtain ⟨rfl, hc⟩ := hc
      obtain ⟨b, o, c, e, fz, e1, e2, e3, e4⟩ := hs.cell (by simp) (by simp) (by simp) rfl
      simp at e1; subst e1
      obtain ⟨fields, f, fe, i, h1, h2, h3, h4, h5, h6, h7, h8⟩ := und_struct hE ht hd hc
      obtain ⟨y, f1, f2⟩ := proField_ok j h2 h6 e4
      rw [f1] at hk
      refine ⟨_, _, hk, run b o hc, .ofCell ⟨b, _, c, e, fz, rfl, e2, e3, ?_⟩ rfl⟩
      have hle : foff te.ty j + sz fe.ty ≤ sz te.ty := foff_le j h2 h6
      rw [List.drop_take, List.take_take, List.drop_drop, Nat.min_eq_left (by omega)] at f2
      exact f2
    · cases hk
  · cases hk
end
end Go.Proofs.Ytlgbhaigpecdoaa.V
