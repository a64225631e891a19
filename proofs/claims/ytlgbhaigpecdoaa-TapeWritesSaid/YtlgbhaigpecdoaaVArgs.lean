/- What a call is handed. -/
import Derived.Test.YtlgbhaigpecdoaaVCode
set_option linter.unusedVariables false
set_option linter.unusedSimpArgs false
namespace Go.Proofs.Ytlgbhaigpecdoaa.V
open Go

def CapsOk (w : World) (Im : Nat → Prop) : (ts : List Ty) → denL ts → List Value → Prop
  | [], _, vs => vs = []
  | t :: ts, x, vs => ∃ v vs' cs, vs = v :: vs' ∧ pack t cs v ∧ Rep w Im t .ro x.1 cs [] ∧ CapsOk w Im ts x.2 vs'
def ArgsOk (w : World) (Im : Nat → Prop) : (ps : List PK) → ArgT ps → List Value → Frag → Prop
  | [], _, vs, h => vs = [] ∧ h = []
  | .ro t :: ps, x, vs, h => ∃ v vs' cs, vs = v :: vs' ∧ pack t cs v ∧ Rep w Im t .ro x.1 cs [] ∧ ArgsOk w Im ps x.2 vs' h
  | .mv t m :: ps, x, vs, h => ∃ v vs' cs h1 h2, vs = v :: vs' ∧ h = h1 ++ h2 ∧ pack t cs v ∧ Rep w Im t m x.1 cs h1 ∧ ArgsOk w Im ps x.2 vs' h2
  | .io e t m :: ps, x, vs, h => ∃ vs' b cs h1 h2, vs = .pointer (some ⟨b, 0, none⟩) :: vs' ∧ h = (b, (cs.toArray, e)) :: (h1 ++ h2) ∧ Rep w Im t m x.1 cs h1 ∧ ArgsOk w Im ps x.2 vs' h2
  | .nil :: ps, x, vs, h => ∃ vs', vs = .slice none 0 0 :: vs' ∧ ArgsOk w Im ps x.2 vs' h
  | .fn f ts :: ps, x, vs, h => ∃ vs' caps, vs = .func (.func f) #[] caps :: vs' ∧ CapsOk w Im ts x.1 caps.toList ∧ ArgsOk w Im ps x.2 vs' h
/-- What the boxes own whose values come back. -/
def ioFrag (R : Real) : List Nat → Frag
  | [] => []
  | r :: l => own R [] (r + 1) ++ ioFrag R l
/-- Which boxes those are. -/
def IoOk (R : Real) : List PK → List Value → List Nat → Prop
  | [], _, io => io = []
  | .io e t m :: ps, vs, io => ∃ r io' vs' b rb, io = r :: io' ∧ vs = .pointer (some ⟨(blkOf b rb), 0, none⟩) :: vs' ∧ R r = some (b, rb) ∧ b.mem = some e ∧ b.t = t ∧ IoOk R ps vs' io'
  | .ro _ :: ps, vs, io => ∃ v vs', vs = v :: vs' ∧ IoOk R ps vs' io
  | .mv _ _ :: ps, vs, io => ∃ v vs', vs = v :: vs' ∧ IoOk R ps vs' io
  | .fn _ _ :: ps, vs, io => ∃ v vs', vs = v :: vs' ∧ IoOk R ps vs' io
  | .nil :: ps, vs, io => ∃ v vs', vs = v :: vs' ∧ IoOk R ps vs' io
theorem pack_of {s : SV} {t : Ty} {cs : List Value} {v : Value} (h : if isAgg s = true then v = .agg cs.toArray else cs = [v]) (e : isAgg s = aggTy t) : pack t cs v := by
  unfold pack; rw [← e]; exact h
section
variable {P : Program} {G : Gl} {I0 : Nat → Prop} {st st0 st1 : St} {a : Act} {vs : Array Value} {w w' : World} {Im Im0 Im' : Nat → Prop} {R R0 R' : Real} {hand hand' : Frag} {o : Oper} {T : Type} {r0 : T} {E : Env}
theorem lookL_some (h : Inv G st vs w Im R hand) : ∀ {ts : List Ty} {s : SV} {K : denL ts → Option T} {us : List Value}, lookL st.boxes ts s K = some r0 → SVX w Im R s true us → ∃ x, K x = some r0 ∧ CapsOk w (With Im R (roots s)) ts x us := by
  intro ts
  induction ts with
  | nil =>
    intro s K us hk hs
    cases s <;> simp [lookL] at hk
    obtain ⟨_, hs⟩ := hs
    exact ⟨(), hk, hs⟩
  | cons t ts ih =>
    intro s K us hk hs
    cases s <;> simp [lookL] at hk
    rename_i a b
    obtain ⟨ha, hk⟩ := hk
    obtain ⟨_, v, vs', e, h1, h2⟩ := hs
    subst e
    rcases h1 with h1 | ⟨cs, e1, h1⟩
    · subst h1; simp [look] at hk
    · obtain ⟨x, hk, r1⟩ := look_some h hk h1
      obtain ⟨y, hk, r2⟩ := ih hk h2
      refine ⟨(x, y), hk, v, vs', cs, rfl, pack_of e1 ha, r1.frame (With.mono fun r hr => by simp [roots, hr]) (fun _ _ => rfl), ?_⟩
      have : ∀ {ts : List Ty} {y : denL ts} {us : List Value}, CapsOk w (With Im R (roots b)) ts y us → CapsOk w (With Im R (roots (.tcons a b))) ts y us := by
        intro ts
        induction ts with
        | nil => intro y us h; exact h
        | cons t ts ih =>
          rintro y us ⟨v, vs', cs, e, e1, e2, e3⟩
          exact ⟨v, vs', cs, e, e1, e2.frame (With.mono fun r hr => by simp [roots, hr]) (fun _ _ => rfl), ih e3⟩
      exact this r2
theorem CapsOk.grow (g : ∀ k, Im k → Im' k) : ∀ {ts : List Ty} {y : denL ts} {us : List Value}, CapsOk w Im ts y us → CapsOk w Im' ts y us := by
  intro ts
  induction ts with
  | nil => intro y us h; exact h
  | cons t ts ih =>
    rintro y us ⟨v, vs', cs, e, e1, e2, e3⟩
    exact ⟨v, vs', cs, e, e1, e2.frame g (fun _ _ => rfl), ih e3⟩
theorem look_ne {s : SV} {bs : List (Nat × Bx)} {t : Ty} {K : den t → Option T} (hk : look bs s t K = some r0) : s ≠ .undef ∧ s ≠ .tnil ∧ ∀ a b, s ≠ .tcons a b := by
  refine ⟨?_, ?_, ?_⟩
  · intro h; rw [h] at hk; simp [look] at hk
  · intro h; rw [h] at hk; simp [look] at hk
  · intro a b h; rw [h] at hk; simp [look] at hk
theorem args_some (h0 : Inv G st0 vs w Im0 R0 []) : ∀ {ps : List PK} {l : List (SV × Value)} {st : St} {Im : Nat → Prop} {R : Real} {hand : Frag} {K : ArgT ps → List Nat → List Nat → List Nat → St → Option T},
    args st0.boxes ps (l.map (·.1)) st K = some r0 → Inv G st vs w Im R hand → (∀ p ∈ l, CV w Im0 R0 p.1 p.2) → (∀ p ∈ l, CV w Im R (V.shallow p.1) p.2) →
    ∃ x io lo mv st' Im' R' h1 H, K x io lo mv st' = some r0 ∧ Inv G st' vs w Im' R' (hand ++ h1) ∧ Grow w w Im Im' ∧ (∀ j, j ∉ mv → R' j = R j) ∧
      (∀ {s : SV} {c : List Value}, SVX w Im R s false c → SVX w Im' R' (V.shallow s) false c) ∧ List.Perm H (h1 ++ ioFrag R' io) ∧ IoOk R' ps (l.map (·.2)) io ∧
      (∀ Imc : Nat → Prop, (∀ k, Im' k → Imc k) → (∀ k, With Im0 R0 lo k → Imc k) → ArgsOk w Imc ps x (l.map (·.2)) H) := by
  intro ps
  induction ps with
  | nil =>
    intro l st Im R hand K hk h hs hs'
    cases l with
    | nil => exact ⟨(), [], [], [], st, Im, R, [], [], hk, by rw [List.append_nil]; exact h, Grow.refl _ _, fun _ _ => rfl, fun hx => hx.forget_more _, List.Perm.refl _, rfl, fun _ _ _ => ⟨rfl, rfl⟩⟩
    | cons p l => simp [args] at hk
  | cons pk ps ih =>
    intro l st Im R hand K hk h hs hs'
    cases l with
    | nil => cases pk <;> simp [args] at hk
    | cons p l =>
      obtain ⟨s, v⟩ := p
      have hsl : ∀ p ∈ l, CV w Im0 R0 p.1 p.2 := fun p hp => hs p (List.mem_cons_of_mem _ hp)
      have hsl' : ∀ p ∈ l, CV w Im R (V.shallow p.1) p.2 := fun p hp => hs' p (List.mem_cons_of_mem _ hp)
      have hs1 : CV w Im0 R0 s v := hs (s, v) (List.mem_cons_self ..)
      have hs1' : CV w Im R (V.shallow s) v := hs' (s, v) (List.mem_cons_self ..)
      cases pk with
      | ro t =>
        simp only [List.map_cons, args] at hk
        split at hk
        · rename_i ha
          obtain ⟨n1, n2, n3⟩ := look_ne hk
          obtain ⟨cs, e1, hx⟩ := hs1 n1 n2 n3
          obtain ⟨x, hk, hrep⟩ := look_some h0 hk hx
          obtain ⟨y, io, lo, mv, st', Im', R', h1, H, k1, k2, k3, k4, k5, k6, k7, k8⟩ := ih hk h hsl hsl'
          refine ⟨(x, y), io, roots s ++ lo, mv, st', Im', R', h1, H, k1, k2, k3, k4, k5, k6, ⟨v, _, rfl, k7⟩, fun Imc c1 c2 => ⟨v, _, cs, rfl, pack_of e1 ha, ?_, k8 Imc c1 fun k hk => c2 k (With.mono (fun r hr => by simp [hr]) k hk)⟩⟩
          exact hrep.frame (fun k hk => c2 k (With.mono (fun r hr => by simp [hr]) k hk)) (fun _ _ => rfl)
        · cases hk
      | mv t m =>
        simp only [List.map_cons, args] at hk
        split at hk
        · rename_i ha
          obtain ⟨cs, x, m', st1, Im1, R1, g1, e1, e2, hk, hi, hrep, g, hsv, hq⟩ := toC_cv hk h hs1'
          split at hk
          · rename_i hm
            obtain ⟨y, io, lo, mv, st', Im', R', h1, H, k1, k2, k3, k4, k5, k6, k7, k8⟩ := ih hk hi hsl (fun p hp => by
              have := (hsl' p hp).next hsv
              rw [show V.forget (fun _ _ q => !decide (lev q = 0)) (V.shallow p.1) = V.shallow p.1 from shallow_shallow p.1] at this
              exact this)
            refine ⟨(x, y), io, lo, roots s ++ mv, st', Im', R', g1 ++ h1, g1 ++ H, k1, by rw [← List.append_assoc]; exact k2, g.trans k3, fun j hj => ?_, fun hx => ?_, ?_, ⟨v, _, rfl, k7⟩, fun Imc c1 c2 => ⟨v, _, cs, g1, H, rfl, rfl, ?_, ?_, k8 Imc c1 c2⟩⟩
            · simp only [List.mem_append, not_or] at hj
              rw [k4 j hj.2, hq j (fun hm => hj.1 (roots_forget _ _ j hm))]
            · have := k5 (hsv hx)
              rwa [shallow_shallow] at this
            · rw [List.append_assoc]; exact List.Perm.append_left _ k6
            · refine pack_of e1 ?_
              rw [← ha]; exact isAgg_forget _ _
            · exact (hrep.same hm).frame (fun k hk => c1 k (k3.im k hk)) (fun _ _ => rfl)
          · cases hk
        · cases hk
      | io e t m =>
        simp only [List.map_cons, args] at hk
        split at hk
        · rename_i r
          obtain ⟨y, io, lo, mv, st', Im', R', h1, H, k1, k2, k3, k4, k5, k6, k7, k8⟩ := ih hk h hsl hsl'
          split at k1
          · rename_i b hb
            split at k1
            · rename_i hmem
              split at k1
              · rename_i hty
                split at k1
                · rename_i hm
                  have esh : V.shallow (.ptr r []) = .ptr r [] := by simp [V.shallow, V.forget, lev]
                  obtain ⟨cs, e1, hx⟩ := hs1' (by rw [esh]; simp) (by rw [esh]; simp) (by rw [esh]; simp)
                  rw [esh, if_neg (by simp [isAgg])] at e1
                  subst e1
                  have hx := k5 hx
                  rw [esh, esh] at hx
                  obtain ⟨u, e2, hp⟩ := hx
                  simp at e2; subst e2
                  obtain ⟨rb, hrr⟩ := k2.real hb
                  obtain ⟨_, cs2, b', o', hn, e3⟩ := hp b rb hrr
                  simp only [nav, locOf, hmem, Option.map_some, Option.some.injEq, Prod.mk.injEq] at hn
                  obtain ⟨rfl, rfl, rfl⟩ := hn
                  have hf : own R' [] (r + 1) = ((blkOf b rb), (rb.cs.toArray, e)) :: rb.h := by
                    rw [own_at hrr]; unfold fragOf; rw [hmem]
                  refine ⟨(hty ▸ b.x, y), r :: io, lo, mv, st', Im', R', h1, ((blkOf b rb), (rb.cs.toArray, e)) :: (rb.h ++ H), k1, k2, k3, k4, k5, ?_, ?_, fun Imc c1 c2 => ⟨_, (blkOf b rb), rb.cs, rb.h, H, by rw [e3]; rfl, rfl, ?_, k8 Imc c1 c2⟩⟩
                  · have : ioFrag R' (r :: io) = (((blkOf b rb), (rb.cs.toArray, e)) :: rb.h) ++ ioFrag R' io := by simp only [ioFrag]; rw [hf]
                    rw [this]
                    have q1 : List.Perm (((blkOf b rb), (rb.cs.toArray, e)) :: (rb.h ++ H)) ((((blkOf b rb), (rb.cs.toArray, e)) :: rb.h) ++ (h1 ++ ioFrag R' io)) := List.Perm.cons _ (List.Perm.append_left _ k6)
                    refine q1.trans ?_
                    rw [← List.append_assoc, ← List.append_assoc]
                    exact List.Perm.append_right _ List.perm_append_comm
                  · exact ⟨r, io, _, b, rb, rfl, by rw [e3]; rfl, hrr, hmem, hty, k7⟩
                  · have := (k2.rep r b rb hrr).cast hty
                    exact (this.same hm).frame c1 (fun _ _ => rfl)
                · cases k1
              · cases k1
            · cases k1
          · cases k1
        · cases hk
      | nil =>
        simp only [List.map_cons, args] at hk
        split at hk
        · obtain ⟨cs, e1, hx⟩ := hs1 (by simp) (by simp) (by simp)
          rw [if_neg (by simp [isAgg])] at e1
          subst e1
          have hx : [v] = [Value.slice none 0 0] := hx
          simp only [List.cons.injEq, and_true] at hx
          subst hx
          obtain ⟨y, io, lo, mv, st', Im', R', h1, H, k1, k2, k3, k4, k5, k6, k7, k8⟩ := ih hk h hsl hsl'
          exact ⟨((), y), io, lo, mv, st', Im', R', h1, H, k1, k2, k3, k4, k5, k6, ⟨_, _, rfl, k7⟩, fun Imc c1 c2 => ⟨_, rfl, k8 Imc c1 c2⟩⟩
        · cases hk
      | fn f ts =>
        simp only [List.map_cons, args] at hk
        split at hk
        · rename_i g caps
          split at hk
          · rename_i hg
            subst hg
            obtain ⟨cs, e1, hx⟩ := hs1 (by simp) (by simp) (by simp)
            rw [if_neg (by simp [isAgg])] at e1
            subst e1
            obtain ⟨cv, e2, hx⟩ := hx
            simp at e2
            obtain ⟨x, hk, hrep⟩ := lookL_some h0 hk hx
            obtain ⟨y, io, lo, mv, st', Im', R', h1, H, k1, k2, k3, k4, k5, k6, k7, k8⟩ := ih hk h hsl hsl'
            refine ⟨(x, y), io, roots caps ++ lo, mv, st', Im', R', h1, H, k1, k2, k3, k4, k5, k6, ⟨_, _, rfl, k7⟩, fun Imc c1 c2 => ⟨_, cv, by rw [e2]; rfl, ?_, k8 Imc c1 fun k hk => c2 k (With.mono (fun r hr => by simp [hr]) k hk)⟩⟩
            exact hrep.grow (fun k hk => c2 k (With.mono (fun r hr => by simp [hr]) k hk))
          · cases hk
        · cases hk
end
end Go.Proofs.Ytlgbhaigpecdoaa.V
