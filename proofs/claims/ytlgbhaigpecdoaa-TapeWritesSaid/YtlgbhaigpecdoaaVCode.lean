/- A function's code. -/
import Derived.Test.YtlgbhaigpecdoaaVWeak
import Derived.LoopN
set_option linter.unusedVariables false
set_option linter.unusedSimpArgs false
namespace Go.Proofs.Ytlgbhaigpecdoaa.V
open Go

section
variable {P : Program} {G : Gl} {I0 : Nat → Prop} {st st1 : St} {a : Act} {vs : Array Value} {w w' : World} {Im Im' : Nat → Prop} {R R' : Real} {hand hand' : Frag} {o : Oper} {T : Type} {r0 : T} {E : Env}
/-- Another word for what a slot holds. -/
theorem Inv.reslot (h : Inv G st vs w Im R hand) (g : Tmp) {s : SV} (hs : SVV w Im R s (vs.getD g Go.undef)) : Inv G (st.set (some g) s) vs w Im R hand := by
  refine ⟨h.box, h.rep, h.sep, fun n => ?_, ?_, h.keep⟩
  · show SVV w Im R (sget (sset st.slots g s) n) _
    rw [sget_sset]
    split
    · rename_i e; rw [e.1]; exact hs
    · exact h.slots n
  · show (sset st.slots g s).length = _
    rw [sset_length]; exact h.len
theorem Inv.adopt : ∀ {l : List (Nat × Nat × Ty × Md)} {st : St} {R : Real}, Inv G st vs w Im R [] → ∃ R', Inv G (st.adopt l) vs w Im R' []
  | [], _, R, h => ⟨R, h⟩
  | (i, r, t, m) :: l, st, R, h => by
    have go : ∀ {A : Option Addr}, vs.getD i Go.undef = .slice A 0 0 → ∃ R', Inv G ({ (st.lay r { mem := none, t := .slc t, m := .own m, x := [] }) with slots := sset (st.slots.map (killAll r)) i (.ref r []) }.adopt l) vs w Im R' [] := by
      intro A hv
      have h1 := Inv.lay (hand := []) (hand' := []) h r (b := { mem := none, t := .slc t, m := .own m, x := [] }) (rb := ⟨0, [.slice A 0 0], []⟩) (.inl ⟨rfl, ⟨A, rfl⟩, rfl⟩) rfl
      have h2 := h1.reslot i (s := .ref r []) (by rw [hv]; exact ref_ok rfl ⟨_, rfl⟩ R)
      exact Inv.adopt (l := l) h2
    have hs := h.slots i
    unfold St.adopt
    split
    · rename_i e; rw [e] at hs; exact go hs.raw
    · rename_i e; rw [e] at hs
      obtain ⟨A, hv⟩ := hs.cell (by simp) (by simp) (by simp) rfl
      exact go (by simpa using hv)
    · rename_i s q e
      split
      · exact Inv.adopt (l := l) h
      · rename_i hc
        simp only [Bool.or_eq_true, Bool.not_eq_true', decide_eq_false_iff_not, not_or, Decidable.not_not] at hc
        split
        · rename_i b hb
          split
          · rename_i ht
            split
            · rename_i m' hm
              rw [e] at hs
              obtain ⟨u, e1, hr⟩ := hs.cell (by simp) (by simp) (by simp) rfl
              simp only [List.cons.injEq, and_true] at e1
              obtain ⟨R1, h1, hi, hrep, _, _⟩ := Inv.take (hand := []) h hb hr hc.2 ht hm
              have hrep2 := hrep.cast ht
              rw [hm] at hrep2
              have h2 := Inv.lay (hand := []) hi r (b := { mem := none, t := .slc t, m := .own m', x := (ht ▸ cget b.t b.x q : den (.slc t)) }) (rb := ⟨0, [u], h1⟩) hrep2 rfl
              have h3 := h2.reslot i (s := .ref r []) (by rw [e1]; exact ref_ok rfl ⟨_, rfl⟩ R1)
              exact Inv.adopt (l := l) h3
            · exact Inv.adopt (l := l) h
          · exact Inv.adopt (l := l) h
        · exact Inv.adopt (l := l) h
    · exact Inv.adopt (l := l) h
theorem Ok.adopt (h : Ok G I0 st a w) (l : List (Nat × Nat × Ty × Md)) : Ok G I0 (st.adopt l) a w := by
  obtain ⟨hd, Im, R, hI, h⟩ := h
  obtain ⟨R1, h1⟩ := h.adopt (l := l)
  exact ⟨hd, Im, R1, hI, h1⟩
/-- What is known of the calls that a code makes. -/
def CallOk (P : Program) (c : Cx) (G : Gl) (I0 : Nat → Prop) : Prop :=
  ∀ {T : Type} {K : St → Option T} {r0 : T} {st : St} {a : Act} {w : World} {o : Oper} {Im : Nat → Prop} {R : Real} {Q : Exit → Act → World → Prop} (cl : Call) (f : Operand) (g : FuncId) (caps : SV), a.defers = [] → (∀ b, I0 b → Im b) → Inv G st a.tmps w Im R [] →
    o.op = .call cl → cl.callee = .value f → st.ev f = .fn g caps → ends caps = true → callS c st o.dst g (cl.args.toList.map st.ev ++ untup caps) K = some r0 → o.wp P a w (Post G I0 K r0) Q
theorem step_ok {c : Cx} (hE : EnvOk P c.E) (hC : CallOk P c G I0) (h : Ok G I0 st a w) {K : St → Option T} {Q : Exit → Act → World → Prop} (hk : stepS c st o K = some r0) : o.wp P a w (Post G I0 K r0) Q := by
  obtain ⟨hd, Im, R, hI, h⟩ := h
  exact step_some hE hd hI h (fun cl f g caps h1 h2 h3 h4 h5 => hC cl f g caps hd hI h h1 h2 h3 h4 h5) hk
theorem Ok.skip (h : Ok G I0 st a w) (d : Option Tmp) : Ok G I0 (st.set d .tnil) (a.put d Go.undef) w := by
  obtain ⟨hd, Im, R, hI, h⟩ := h
  exact ⟨by rw [put_defers]; exact hd, Im, R, hI, h.put d .ofUndef⟩
theorem g_some {c : Cx} (hE : EnvOk P c.E) (hC : CallOk P c G I0) {ops : Array Oper} {Q : Exit → Act → World → Prop} {K : St → Option T} {KK : Act → World → Prop} {i : Nat} (hk : gS c ops i st K = some r0) (h : Ok G I0 st a w) (hKK : ∀ a w, Post G I0 K r0 a w → KK a w) : wpOp P ops Q i KK a w := by
  simp only [gS, opsS] at hk
  unfold wpOp
  split at hk
  · cases hk
  · rename_i o ho
    simp only [ho]
    have run : ∀ {st : St}, Ok G I0 st a w → stepS c st o K = some r0 → Region.wanted o (yielded ops a.tmps) = true →
        (if Region.wanted o (yielded ops a.tmps) = true then o.wp P a w KK Q ∨ (o.asks P a w ∧ LetsOut Q) else KK (a.put o.dst Go.undef) w) := by
      intro st h hk hw
      rw [if_pos hw]
      exact .inl (Oper.wp_mono hKK (step_ok hE hC h hk))
    have skip : ∀ {st : St}, Ok G I0 st a w → K (st.set o.dst .tnil) = some r0 → Region.wanted o (yielded ops a.tmps) = false →
        (if Region.wanted o (yielded ops a.tmps) = true then o.wp P a w KK Q ∨ (o.asks P a w ∧ LetsOut Q) else KK (a.put o.dst Go.undef) w) := by
      intro st h hk hw
      rw [if_neg (by simp [hw])]
      exact hKK _ _ ⟨_, hk, h.skip o.dst⟩
    split at hk
    · rename_i hg
      exact run h hk (by simp [Region.wanted, hg])
    · rename_i j want hg
      split at hk
      · cases hk
      · rename_i g hj
        obtain ⟨hd, Im, R, hI, hi⟩ := h
        have hs := hi.slots g
        have hlt : sget st.slots g ≠ .undef → g < a.tmps.size := fun hne => by
          rw [← hi.len]
          rcases Nat.lt_or_ge g st.slots.length with h | h
          · exact h
          · exact absurd (sget_out _ _ h) hne
        split at hk
        · rename_i v hv
          have hl := hlt (by rw [hv]; simp)
          rw [hv] at hs
          have hb := hs.bool
          have hy : yielded ops a.tmps j = some v := by
            unfold yielded
            rw [hj]
            have : a.tmps[g]? = some (.bool v) := by
              rw [Array.getElem?_eq_getElem hl]
              rw [Array.getD_eq_getD_getElem?, Array.getElem?_eq_getElem hl] at hb
              simpa using hb
            simp [this]
          have hw : Region.wanted o (yielded ops a.tmps) = (v == want) := by
            simp [Region.wanted, hg, hy]
          have hok : Ok G I0 (st.set (some g) (.con .bool v)) a w := ⟨hd, Im, R, hI, hi.reslot g (by rw [hb]; exact .ofBool v)⟩
          cases v <;> cases want <;> simp only [cond_true, cond_false] at hk
          · exact run hok hk (by rw [hw]; rfl)
          · exact skip hok hk (by rw [hw]; rfl)
          · exact skip hok hk (by rw [hw]; rfl)
          · exact run hok hk (by rw [hw]; rfl)
        · rename_i hv
          have hl := hlt (by rw [hv]; simp)
          rw [hv] at hs
          have hb := hs.tnil_iff
          have hy : yielded ops a.tmps j = none := by
            unfold yielded
            rw [hj]
            have : a.tmps[g]? = some Go.undef := by
              rw [Array.getElem?_eq_getElem hl]
              rw [Array.getD_eq_getD_getElem?, Array.getElem?_eq_getElem hl] at hb
              simpa using hb
            simp [this, Go.undef]
          exact skip ⟨hd, Im, R, hI, hi⟩ hk (by simp [Region.wanted, hg, hy])
        · cases hk
theorem ops_some {c : Cx} (hE : EnvOk P c.E) (hC : CallOk P c G I0) {ops : Array Oper} {Q : Exit → Act → World → Prop} {K : St → Option T} (hQ : ∀ a w, Post G I0 K r0 a w → Q .normal a w) :
    ∀ (l : List Nat) {st : St} {a : Act} {w : World}, opsS c ops l st K = some r0 → Ok G I0 st a w → wpOps P ops Q l a w
  | [], st, a, w, hk, h => hQ a w ⟨st, hk, h⟩
  | i :: rest, st, a, w, hk, h => by
    rw [opsS_cons] at hk
    rw [wpOps_cons]
    exact g_some hE hC hk h fun a w ⟨st', hk', h'⟩ => ops_some hE hC hQ rest hk' h'
theorem Ok.drew (h : Ok G I0 st a w) : Ok G I0 st a w.drew := by
  obtain ⟨hd, Im, R, hI, h⟩ := h
  exact ⟨hd, Im, R, hI, h.drew⟩
/-- What holds where a code ends. -/
def Ends (G : Gl) (I0 : Nat → Prop) (K : Ex → St → Option T) (r0 : T) : Exit → Act → World → Prop
  | .normal, a, w => Post G I0 (K .normal) r0 a w
  | .exit id, a, w => Post G I0 (K (.exit id)) r0 a w
  | .ret, a, w => Post G I0 (K .ret) r0 a w
  | _, _, _ => False
theorem loopO_some {A B : Type} {f : A → Option (A ⊕ B)} {a : A} {b : B} (h : loopO f a = some b) : ∃ n, rounds f n a = some b := by
  unfold loopO at h
  split at h
  · rename_i hh
    cases h
    exact ⟨_, Classical.choose_spec (Classical.choose_spec hh)⟩
  · cases h
end
theorem outTake_some {G : Gl} {I0 : Nat → Prop} {a : Act} {w : World} {T : Type} {r : T} {K2 : Ex → St → Option T} : ∀ {l : List Way} {e : Ex} {st : St} {B : Type} {F : OutV l → B} {y : B} , outTake l e st (fun v => some (F v)) = some y → Ok G I0 st a w →
    ∃ v, F v = y ∧ (dispatch l K2 v = some r → ∃ st', K2 e st' = some r ∧ Ok G I0 st' a w)
  | [], e, st, B, F, y, h, hok => by simp [outTake] at h
  | p :: l, e, st, B, F, y, h, hok => by
    simp only [outTake] at h
    split at h
    · rename_i he
      obtain ⟨x, hx, hok'⟩ := (hok.adopt p.nils).take h
      cases hx
      exact ⟨.inl x, rfl, fun hd => ⟨_, by rw [← he]; exact hd, hok'⟩⟩
    · obtain ⟨v, hv, hd⟩ := outTake_some (l := l) (F := fun v => F (.inr v)) h hok
      exact ⟨.inr v, hv, hd⟩
theorem code_some {P : Program} {G : Gl} {I0 : Nat → Prop} {c : Fx} (hm : P.follows .mixedOrders = true) (hE : EnvOk P c.E) (hC : CallOk P c.toCx G I0) : ∀ (code : Code), (∀ b ∈ loops code, ∀ nd, nget c.nodes true (head b) = some nd → LoopOk c b nd) → (∀ b ∈ tails code, ∀ nd, nget c.nodes false (head b) = some nd → TailOk c b nd) →
    ∀ {T : Type} {K : Ex → St → Option T} {r0 : T} {st : St} {a : Act} {w : World}, codeS c code st K = some r0 → Ok G I0 st a w → code.wp P (Ends G I0 K r0) a w := by
  intro code
  induction code with
  | skip => intro hL hT T K r0 st a w hk h; exact wp_skip ⟨st, hk, h⟩
  | region id ops draw =>
    intro hL hT T K r0 st a w hk h
    simp only [codeS] at hk
    split at hk
    · rename_i hd
      cases draw with
      | false => exact wp_region (ops_some hE hC (Q := Ends G I0 K r0) (K := K .normal) (fun a w hp => hp) _ hk h)
      | true =>
        have hd : drawOk ops (preds ops.toList []) = true := by simpa using hd
        refine wp_region_any hm ?_
        refine any_some (K := K .normal) (r0 := r0) (fun hk h hKK => g_some hE hC hk h hKK) hd (fun a w hp => hp) ops.size (List.range ops.size) _ (by simp) (by simp) List.pairwise_lt_range (fun i => ?_) ?_ hk h.drew
        · simp only [List.mem_range]
          constructor
          · intro hi; exact ⟨hi, by simp [Array.getD_eq_getD_getElem?, hi]⟩
          · exact fun h => h.1
        · rintro i o ⟨hi, hl⟩
          simp [Array.getD_eq_getD_getElem?, hi] at hl
    · rename_i hd0
      split at hk
      case isFalse => cases hk
      rename_i hd
      cases draw with
      | false => simp at hd0
      | true =>
        refine wp_region_any hm ?_
        refine anyC_some (K := K .normal) (r0 := r0) (fun hk h hKK => g_some hE hC hk h hKK) hd (fun a w hp => hp) ops.size (List.range ops.size) _ (by simp) (by simp) List.pairwise_lt_range (fun i => ?_) ?_ hk h.drew
        · simp only [List.mem_range]
          constructor
          · intro hi; exact ⟨hi, by simp [Array.getD_eq_getD_getElem?, hi]⟩
          · exact fun h => h.1
        · rintro i o ⟨hi, hl⟩
          simp [Array.getD_eq_getD_getElem?, hi] at hl
  | seq x y ihx ihy =>
    intro hL hT T K r0 st a w hk h
    simp only [codeS] at hk
    have ihx := @ihx (fun b hb => hL b (by simp [loops, hb])) (fun b hb => hT b (by simp [tails, hb]))
    have ihy := @ihy (fun b hb => hL b (by simp [loops, hb])) (fun b hb => hT b (by simp [tails, hb]))
    refine wp_seq (wp_mono (ihx hk h) fun e a w hq => ?_)
    cases e with
    | normal =>
      obtain ⟨st', hk', h'⟩ := hq
      dsimp only at hk'
      split at hk'
      · rename_i nd hnd
        have hok := hT y (by simp [tails]) nd hnd
        unfold Node.run at hk'
        obtain ⟨v, hk', h2⟩ := (h'.adopt nd.nils).take hk'
        obtain ⟨z, hz, hk'⟩ := Option.bind_eq_some_iff.1 hk'
        rw [hok.1] at hk'
        have ht := hok.2 v z hz
        generalize nd.out v z = z at hk' ht
        refine wp_mono (ihy ht h2) fun e a w hq => ?_
        have go : ∀ e2, Post G I0 (fun st => outTake nd.outs e2 st some) z a w → Post G I0 (K e2) r0 a w := by
          rintro e2 ⟨st2, q1, q2⟩
          obtain ⟨v2, q3, q4⟩ := outTake_some (K2 := K) (r := r0) (F := id) q1 q2
          have q3 : v2 = z := q3
          subst q3
          exact q4 hk'
        cases e with
        | normal => exact go _ hq
        | exit id => exact go _ hq
        | ret => exact go _ hq
        | _ => exact hq.elim
      · exact ihy hk' h'
    | exit id => exact hq
    | ret => exact hq
    | _ => exact hq.elim
  | cond x y z ihy ihz =>
    intro hL hT T K r0 st a w hk h
    simp only [codeS] at hk
    obtain ⟨v, e, hk⟩ := asBool_some hk
    have hv : a.eval x = .bool v := by
      obtain ⟨hd, Im, R, hI, h⟩ := h
      exact (e ▸ h.ev x : SVV w Im R (.con .bool v) (a.eval x)).bool
    cases v with
    | true => exact wp_cond_true hv (ihy (fun b hb => hL b (by simp [loops, hb])) (fun b hb => hT b (by simp [tails, hb])) hk h)
    | false => exact wp_cond_false hv (ihz (fun b hb => hL b (by simp [loops, hb])) (fun b hb => hT b (by simp [tails, hb])) hk h)
  | block id b ih =>
    intro hL hT T K r0 st a w hk h
    simp only [codeS] at hk
    refine wp_block (wp_mono (ih (fun b hb => hL b (by simpa [loops] using hb)) (fun b hb => hT b (by simpa [tails] using hb)) hk h) fun e a w hq => ?_)
    cases e with
    | normal => exact hq
    | exit j =>
      obtain ⟨st', hk', h'⟩ := hq
      show if j = id then _ else _
      simp only at hk'
      split at hk'
      · rename_i e; rw [if_pos e]; exact ⟨st', hk', h'⟩
      · rename_i e; rw [if_neg e]; exact ⟨st', hk', h'⟩
    | ret => exact hq
    | _ => exact hq.elim
  | loop b ih =>
    intro hL hT T K r0 st a w hk h
    have ih := @ih (fun b hb => hL b (by simp [loops, hb])) (fun b hb => hT b (by simpa [tails] using hb))
    simp only [codeS] at hk
    split at hk
    · rename_i nd hnd
      have hok := hL b (by simp [loops]) nd hnd
      unfold Node.run at hk
      obtain ⟨v, hk, h2⟩ := (h.adopt nd.nils).take hk
      obtain ⟨z, hz, hk2⟩ := Option.bind_eq_some_iff.1 hk
      clear hk
      rw [hok.1] at hk2
      obtain ⟨n, hn⟩ := hok.2 v z hz
      generalize nd.out v z = z at hk2 hn
      refine wp_loop_rounds n ?_
      clear hz h
      induction n generalizing v a w with
      | zero => cases hn
      | succ n ihn =>
        simp only [rounds] at hn
        split at hn
        · cases hn
        · rename_i v1 hf
          refine wp_mono (ih hf h2) fun e a w hq => ?_
          have go : ∀ e2, Post G I0 (fun st => outTake nd.outs e2 st fun y => some (Sum.inr y : nd.sk.T ⊕ OutV nd.outs)) (.inl v1) a w → False := by
            rintro e2 ⟨st2, q1, q2⟩
            obtain ⟨v2, q3, q4⟩ := outTake_some (K2 := K) (r := r0) (F := fun y => (Sum.inr y : nd.sk.T ⊕ OutV nd.outs)) q1 q2
            cases q3
          cases e with
          | normal =>
            obtain ⟨st', hk', h'⟩ := hq
            obtain ⟨v2, q1, q2⟩ := (h'.adopt nd.nils).take hk'
            simp at q1; subst q1
            exact ihn v2 q2 hn
          | exit j => exact (go _ hq).elim
          | ret => exact (go _ hq).elim
          | _ => exact hq.elim
        · rename_i pp hf
          cases hn
          refine wp_mono (ih hf h2) fun e a w hq => ?_
          have go : ∀ e2, Post G I0 (fun st => outTake nd.outs e2 st fun y => some (Sum.inr y : nd.sk.T ⊕ OutV nd.outs)) (.inr z) a w → Post G I0 (K e2) r0 a w := by
            rintro e2 ⟨st2, q1, q2⟩
            obtain ⟨v2, q3, q4⟩ := outTake_some (K2 := K) (r := r0) (F := fun y => (Sum.inr y : nd.sk.T ⊕ OutV nd.outs)) q1 q2
            cases q3
            exact q4 hk2
          cases e with
          | normal =>
            obtain ⟨st', hk', h'⟩ := hq
            obtain ⟨v2, q1, q2⟩ := (h'.adopt nd.nils).take hk'
            simp at q1
          | exit j => exact go _ hq
          | ret => exact go _ hq
          | _ => exact hq.elim
    · cases hk
  | exit id => intro hL hT T K r0 st a w hk h; exact wp_exit ⟨st, hk, h⟩
  | ret => intro hL hT T K r0 st a w hk h; exact wp_ret ⟨st, hk, h⟩
  | _ => intro hL hT T K r0 st a w hk h; simp [codeS] at hk
end Go.Proofs.Ytlgbhaigpecdoaa.V
