/- Operations that make boxes of their own, in any order. -/
import Derived.Test.YtlgbhaigpecdoaaVDraw
set_option linter.unusedVariables false
set_option linter.unusedSimpArgs false
namespace Go.Proofs.Ytlgbhaigpecdoaa.V
open Go

/-- What an operation lays, and what it sets its slot to. -/
noncomputable def effO (c : Cx) (st : St) (o : Oper) : Option (List Upd × SV) :=
  if quiet o = true then (valS c st o some).bind fun s => some ([], s) else
  match appArgs c o with
  | some (A, x, y) => deedE c st A (st.ev x) (st.ev y)
  | none => match o.op with
  | .alloc e => match c.E.get e, o.dst with
    | some te, some d => if te.z = true then some ([(d * 16, kAll, { mem := some e, t := te.ty, m := fitM te.ty (c.mode d te.ty), x := dflt te.ty })], .ptr (d * 16) []) else none
    | _, _ => none
  | .box e v => match c.E.get e, o.dst with
    | some te, some d => (toCE st (st.ev v) te.ty (c.mode d te.ty)).bind fun p => some (p.2.2 ++ [(d * 16, kAll, { mem := some e, t := te.ty, m := p.2.1, x := p.1 })], .ptr (d * 16) [])
    | _, _ => none
  | .buildSlice t n parts => match c.E.get t, o.dst with
    | some te, some d => match te.d with
      | .slc e => match c.E.get e with
        | some ee => if ee.z = true ∧ n * sz ee.ty ≤ 16777216 ∧ 0 < sz ee.ty ∧ (elemsOk n parts.toList = true) then (elemsE ee.ty (fitM ee.ty (c.mode d te.ty).elem) (parts.toList.map fun p => st.ev p.2) st).bind fun q =>
          if isRo (c.mode d te.ty) = true then (if live ee.ty (fitM ee.ty (c.mode d te.ty).elem) = true then some (q.2, .con (.slc ee.ty) q.1) else none) else
          some (q.2 ++ [(d * 16, kAll, { mem := none, t := .slc ee.ty, m := .own (fitM ee.ty (c.mode d te.ty).elem), x := q.1 })], .ref (d * 16) [])
          else none
        | none => none
      | _ => none
    | _, _ => none
  | .makeSlice t l cp => match c.E.get t, o.dst with
    | some te, some d => match te.d with
      | .slc e => match c.E.get e with
        | some ee => if ee.z = true then (asInt (st.ev l) fun k n => some (k, n)).bind fun p => (asInt (st.ev cp) fun k n => some (k, n)).bind fun q =>
          if 0 ≤ p.2 ∧ p.2 ≤ q.2 ∧ q.2 * ee.bytes ≤ (most : Int) ∧ 0 < sz ee.ty ∧ 0 < ee.bytes then
            some ([(d * 16, kAll, { mem := none, t := .slc ee.ty, m := .own (fitM ee.ty (c.mode d te.ty).elem), x := List.replicate p.2.toNat (dflt ee.ty) })], .ref (d * 16) [])
          else none
          else none
        | none => none
      | _ => none
    | _, _ => none
  | .call cl => match cl.callee with
    | .value f => match st.ev f with
      | .fn f caps => if ends caps = true then match Tab.find c.T f (cl.args.toList.map st.ev ++ untup caps) with
        | some sm => (args st.boxes sm.ps (cl.args.toList.map st.ev ++ untup caps) ⟨[], []⟩ fun a _ lo _ _ => some (a, lo)).bind fun p =>
          if (p.2.isEmpty || (sm.rs.all (fun p => noRo p.1 p.2) && psNoRo sm.ps)) = true then (sm.F p.1).bind fun r =>
            some ((gotsE (o.dst.getD 0 * 16) sm.rs r.1 0).2.2, single sm.rs (gotsE (o.dst.getD 0 * 16) sm.rs r.1 0).1) else none
        | none => none
        else none
      | _ => none
    | _ => none
  | _ => none
theorem app_step {R : Type} {c : Cx} {st : St} {o : Oper} {A : Deed} {x y : Operand} (h : appArgs c o = some (A, x, y)) (K : St → Option R) :
    stepS c st o K = (deedE c st A (st.ev x) (st.ev y)).bind (fun p => K ((st.lays p.1).set o.dst p.2)) ∧ rd o = [x, y] ∧ loud o = true ∧ (∀ d ee, A = .app d ee → o.dst = some d) := by
  unfold appArgs at h
  split at h
  · rename_i t a v ho
    split at h
    · rename_i te hte
      cases h
      refine ⟨?_, ?_, ?_, ?_⟩
      · unfold stepS
        simp only [ho, hte]
        exact store_E ..
      · unfold rd; simp only [ho]
      · unfold loud; simp only [ho]
      · intro d ee e; cases e
    · cases h
  · rename_i cl ho
    split at h
    · rename_i x' y' t u hc ha ht
      split at h
      · rename_i d' hd
        split at h
        · rename_i htu
          split at h
          · rename_i te hte
            split at h
            · rename_i e hdd
              split at h
              · rename_i ee' hee
                split at h
                · rename_i hz
                  cases h
                  refine ⟨?_, ?_, ?_, ?_⟩
                  · unfold stepS
                    simp only [ho, hc, ha, ht, List.map_cons, List.map_nil, builtinS, hd, if_pos htu, hte, hdd, hee, if_pos hz]
                    exact app_E ..
                  · unfold rd
                    simp only [ho, hc, ha, List.nil_append]
                  · unfold loud
                    simp only [ho, hc]
                  · intro d ee e; cases e; exact hd
                · cases h
              · cases h
            · cases h
          · cases h
        · cases h
      · cases h
    · rename_i x' y' t u hc ha ht
      split at h
      · rename_i te ue hte hue
        split at h
        · rename_i e e2 hdd hdu
          split at h
          · rename_i ee hee
            cases h
            refine ⟨?_, ?_, ?_, ?_⟩
            · unfold stepS
              simp only [ho, hc, ha, ht, List.map_cons, List.map_nil, builtinS, hte, hue, hdd, hdu, hee]
              exact copy_E ..
            · unfold rd
              simp only [ho, hc, ha, List.nil_append]
            · unfold loud
              simp only [ho, hc]
            · intro d ee e; cases e
          · cases h
        · cases h
      · cases h
    · cases h
  · cases h
theorem tk_app {c : Cx} {o : Oper} {A : Deed} {x y : Operand} (h : appArgs c o = some (A, x, y)) : tk c o = match A with | .app _ ee => (if flat ee.ty = true then [x] else [x, y]) | .cp _ => [x] | .sto _ => [x, y] := by
  have h0 := h
  unfold appArgs at h
  unfold tk
  split at h
  · rename_i t a v ho
    simp only [ho, h0]
    cases A <;> rfl
  · rename_i cl ho
    simp only [ho, h0]
    cases A <;> rfl
  · cases h
theorem deed_keys {c : Cx} {st : St} {A : Deed} {s v : SV} {E : List Upd} {z : SV} (h : deedE c st A s v = some (E, z)) : ∀ p ∈ E, (∃ d ee, A = .app d ee ∧ p.1 = d * 16) ∨ p.1 ∈ roots s ∨ (p.1 ∈ roots v ∧ match A with | .app _ ee => flat ee.ty = false | .cp _ => False | .sto _ => True) := by
  cases A with
  | app d ee =>
    intro p hp
    rcases appE_keys h p hp with h1 | h1 | ⟨h1, h2⟩
    · exact .inl ⟨d, ee, rfl, h1⟩
    · exact .inr (.inl h1)
    · exact .inr (.inr ⟨h2, h1⟩)
  | cp ee => exact fun p hp => .inr (.inl (copyE_keys h p hp))
  | sto te =>
    intro p hp
    rcases storeE_keys h p hp with h1 | h1
    · exact .inr (.inl h1)
    · exact .inr (.inr ⟨h1, trivial⟩)
theorem deed_local {c : Cx} {st st' : St} {A : Deed} {s v : SV} (hs : ∀ j ∈ roots s, bget st'.boxes j = bget st.boxes j) (hv : ∀ j ∈ roots v, bget st'.boxes j = bget st.boxes j) : deedE c st' A s v = deedE c st A s v := by
  cases A with
  | app d ee => exact appE_local hs hv
  | cp ee => exact copyE_local hs hv
  | sto te => exact storeE_local hs hv
theorem tk_rd {c : Cx} {o : Oper} {x : Operand} (h : x ∈ tk c o) : x ∈ rd o := by
  unfold tk at h
  split at h
  · rename_i t n parts ho; simp only [rd, ho]; exact h
  · rename_i e v ho; simp only [rd, ho]; exact h
  · cases ha : appArgs c o with
    | none => rw [ha] at h; cases h
    | some q =>
      obtain ⟨A, x', y'⟩ := q
      obtain ⟨_, e, _⟩ := app_step (R := Unit) (st := ⟨[], []⟩) ha (fun _ => none)
      rw [e]
      rw [ha] at h
      cases A with
      | app d ee =>
        simp only at h
        split at h
        · simp at h; simp [h]
        · exact h
      | cp ee => simp at h; simp [h]
      | sto te => exact h
theorem map_id_forget (l : List SV) : l.map (forget (killIO [])) = l := by
  have : ∀ s ∈ l, forget (killIO []) s = id s := fun s _ => forget_off fun r _ b q => by simp [killIO]
  rw [List.map_congr_left this, List.map_id]
section
variable {R : Type} {c : Cx} {st st' : St} {o : Oper} {ops : Array Oper}
theorem eff_step (h : (quiet o || born c st o) = true) (K : St → Option R) : stepS c st o K = (effO c st o).bind fun p => K ((st.lays p.1).set o.dst p.2) := by
  unfold effO
  split
  · rename_i q
    rw [stepS_val q, valS_bind]
    cases valS c st o some <;> rfl
  · rename_i q
    have hb : born c st o = true := by simpa [q] using h
    clear h
    cases ha : appArgs c o with
    | some p =>
      obtain ⟨A, x, y⟩ := p
      exact (app_step (st := st) ha K).1
    | none =>
    simp only
    unfold stepS
    unfold born at hb
    rw [ha, Option.isSome_none, Bool.false_or] at hb
    split
    case h_3 => rename_i ho; simp [quiet, ho] at q
    case h_1 => rename_i ho; simp [quiet, ho] at q
    case h_2 => rename_i ho; simp [quiet, ho] at q
    case h_4 =>
      rename_i e ho
      simp only [ho]
      cases c.E.get e with
      | none => rfl
      | some te =>
        cases o.dst with
        | none => rfl
        | some d =>
          simp only
          split
          · simp only [Option.bind, St.lays, lay_upd]
          · rfl
    case h_5 =>
      rename_i e v ho
      simp only [ho]
      cases c.E.get e with
      | none => rfl
      | some te =>
        cases o.dst with
        | none => rfl
        | some d =>
          simp only
          rw [toC_E]
          cases toCE st (st.ev v) te.ty (c.mode d te.ty) with
          | none => rfl
          | some p => simp only [Option.bind, lays_append, St.lays, lay_upd]
    case h_7 =>
      rename_i t n parts ho
      simp only [ho] at hb ⊢
      cases c.E.get t with
      | none => rfl
      | some te =>
        cases hd : o.dst with
        | none => rfl
        | some d =>
          simp only
          generalize te.d = D
          cases D with
          | slc e =>
            simp only
            cases c.E.get e with
            | none => rfl
            | some ee =>
              simp only
              by_cases hc : ee.z = true ∧ n * sz ee.ty ≤ 16777216 ∧ 0 < sz ee.ty ∧ (elemsOk n parts.toList = true)
              · rw [if_pos hc, if_pos hc, elems_E]
                cases elemsE ee.ty (fitM ee.ty (c.mode d te.ty).elem) (parts.toList.map fun p => st.ev p.2) st with
                | none => rfl
                | some q =>
                  simp only [Option.bind]
                  by_cases hro : isRo (c.mode d te.ty) = true
                  · simp only [if_pos hro]
                    split <;> rfl
                  · simp only [if_neg hro, lays_append, St.lays, lay_upd]
              · rw [if_neg hc, if_neg hc]; rfl
          | _ => rfl
    case h_15 =>
      rename_i t l cp ho
      simp only [ho]
      cases c.E.get t with
      | none => rfl
      | some te =>
        cases o.dst with
        | none => rfl
        | some d =>
          simp only
          generalize te.d = D
          cases D with
          | slc e =>
            simp only
            cases c.E.get e with
            | none => rfl
            | some ee =>
              simp only
              by_cases hz : ee.z = true
              · rw [if_pos hz, if_pos hz, asInt_bind]
                cases asInt (st.ev l) fun k n => some (k, n) with
                | none => rfl
                | some p =>
                  simp only [Option.bind]
                  rw [asInt_bind]
                  cases asInt (st.ev cp) fun k n => some (k, n) with
                  | none => rfl
                  | some q =>
                    simp only [Option.bind]
                    by_cases hc : 0 ≤ p.2 ∧ p.2 ≤ q.2 ∧ q.2 * ee.bytes ≤ (most : Int) ∧ 0 < sz ee.ty ∧ 0 < ee.bytes
                    · rw [if_pos hc, if_pos hc]; simp only [St.lays, lay_upd]
                    · rw [if_neg hc, if_neg hc]
              · rw [if_neg hz, if_neg hz]; rfl
          | _ => rfl
    case h_22 =>
      rename_i cl ho
      simp only [ho] at hb ⊢
      cases hc : cl.callee with
      | builtin b => rw [hc] at hb; simp at hb
      | invoke a b => rw [hc] at hb; simp at hb
      | value f =>
        simp only [hc] at hb ⊢
        cases hf : st.ev f with
        | fn g caps =>
          simp only [hf] at hb ⊢
          split
          · unfold callS
            cases ht : Tab.find c.T g (cl.args.toList.map st.ev ++ untup caps) with
            | none => rfl
            | some sm =>
              simp only [ht, Bool.and_eq_true] at hb ⊢
              rw [args_plain _ st _ hb.2.1]
              cases args st.boxes sm.ps (cl.args.toList.map st.ev ++ untup caps) ⟨[], []⟩ fun a _ lo _ _ => some (a, lo) with
              | none => rfl
              | some p =>
                simp only [Option.bind, List.append_nil, List.nil_append, List.all_nil, noDup, Bool.true_and]
                by_cases hx : (p.2.isEmpty || (sm.rs.all (fun p => noRo p.1 p.2) && psNoRo sm.ps)) = true
                · rw [if_pos hx, if_pos (by simpa using hx)]
                  cases sm.F p.1 with
                  | none => rfl
                  | some r =>
                    simp only
                    rw [outsB_plain r.2 st.boxes hb.2.1, map_id_forget, gots_eq]
                · rw [if_neg hx, if_neg (by simpa using hx)]
          · rfl
        | _ => rw [hf] at hb; simp at hb
    all_goals (rename_i ho; first | (simp [quiet, ho] at q; done) | (simp [ho] at hb; done) | (exfalso; simp [ho] at hb))
theorem roots_single (rs : List (Ty × Md)) (s : SV) : ∀ r ∈ roots (single rs s), r ∈ roots s := by
  unfold single
  split
  · intro r hr; simp [roots, hr]
  · intro r hr; exact hr
theorem eff_keys {E : List Upd} {s : SV} (hb : (quiet o || born c st o) = true) (h : effO c st o = some (E, s)) : ∀ p ∈ E, loud o = true ∧ (o.dst = some (p.1 / 16) ∨ ∃ x ∈ tk c o, p.1 ∈ roots (st.ev x)) := by
  unfold effO at h
  split at h
  · cases hv : valS c st o some with
    | none => rw [hv] at h; cases h
    | some x => rw [hv] at h; cases h; simp
  · rename_i q
    have hb : born c st o = true := by simpa [q] using hb
    cases ha : appArgs c o with
    | some pp =>
      obtain ⟨A, x, y⟩ := pp
      rw [ha] at h
      obtain ⟨_, e3, e4, e2⟩ := app_step (R := Unit) (st := st) ha (fun _ => none)
      have htk := tk_app ha
      intro p hp
      refine ⟨e4, ?_⟩
      rcases deed_keys h p hp with ⟨d, ee, e, h1⟩ | h1 | ⟨h1, h2⟩
      · left; rw [e2 d ee e, h1]; congr 1; exact (Nat.mul_div_cancel d (by decide)).symm
      · right; refine ⟨x, ?_, h1⟩; rw [htk]; cases A with
        | app d ee => simp only; split <;> simp
        | cp ee => simp
        | sto te => simp
      · right; refine ⟨y, ?_, h1⟩; rw [htk]; cases A with
        | app d ee => simp only at h2 ⊢; rw [h2]; simp
        | cp ee => exact h2.elim
        | sto te => simp
    | none =>
    rw [ha] at h
    simp only at h
    unfold born at hb
    rw [ha, Option.isSome_none, Bool.false_or] at hb
    unfold loud
    split at h
    · rename_i e ho
      split at h
      · rename_i te d _ hd
        split at h
        · cases h; simp [ho, hd]
        · cases h
      · cases h
    · rename_i e v ho
      split at h
      · rename_i te d _ hd
        obtain ⟨p, hp, h⟩ := Option.bind_eq_some_iff.1 h
        cases h
        intro e he
        rcases List.mem_append.1 he with he | he
        · exact ⟨by simp [ho], .inr ⟨v, by simp [tk, ho], toCE_keys hp e he⟩⟩
        · simp at he; subst he; exact ⟨by simp [ho], .inl (by simp [hd])⟩
      · cases h
    · rename_i t n parts ho
      split at h
      · rename_i te d _ hd
        split at h
        · split at h
          · split at h
            · obtain ⟨q, hq, h⟩ := Option.bind_eq_some_iff.1 h
              have key : ∀ e ∈ q.2, loud o = true ∧ (o.dst = some (e.1 / 16) ∨ ∃ x ∈ tk c o, e.1 ∈ roots (st.ev x)) := fun e he => by
                obtain ⟨s, hs, hr⟩ := elemsE_keys _ _ hq e he
                obtain ⟨p, hp, rfl⟩ := List.mem_map.1 hs
                exact ⟨by simp [loud, ho], .inr ⟨p.2, by simp only [tk, ho]; exact List.mem_map.2 ⟨p, hp, rfl⟩, hr⟩⟩
              unfold loud at key
              simp only [ho] at key
              split at h
              · split at h
                · cases h; exact fun e he => ⟨by simp [ho], (key e he).2⟩
                · cases h
              cases h
              intro e he
              rcases List.mem_append.1 he with he | he
              · obtain ⟨s, hs, hr⟩ := elemsE_keys _ _ hq e he
                obtain ⟨p, hp, rfl⟩ := List.mem_map.1 hs
                exact ⟨by simp [ho], .inr ⟨p.2, by simp only [tk, ho]; exact List.mem_map.2 ⟨p, hp, rfl⟩, hr⟩⟩
              · simp at he; subst he; exact ⟨by simp [ho], .inl (by simp [hd])⟩
            · cases h
          · cases h
        · cases h
      · cases h
    · rename_i t l cp ho
      split at h
      · rename_i te d _ hd
        split at h
        · split at h
          · split at h
            · obtain ⟨p, _, h⟩ := Option.bind_eq_some_iff.1 h
              obtain ⟨q, _, h⟩ := Option.bind_eq_some_iff.1 h
              split at h
              · cases h; simp [ho, hd]
              · cases h
            · cases h
          · cases h
        · cases h
      · cases h
    · rename_i cl ho
      simp only [ho] at hb ⊢
      split at h
      · rename_i f hc
        simp only [hc] at hb ⊢
        split at h
        · rename_i g caps hf
          simp only [hf] at hb
          split at h
          · split at h
            · rename_i sm ht
              simp only [ht, Bool.and_eq_true, decide_eq_true_eq] at hb
              obtain ⟨p, _, h⟩ := Option.bind_eq_some_iff.1 h
              split at h
              · obtain ⟨r, _, h⟩ := Option.bind_eq_some_iff.1 h
                cases h
                intro p hp
                obtain ⟨d, hd⟩ : ∃ d : Nat, o.dst = some d := Option.isSome_iff_exists.1 hb.1
                have hk := gotsE_keys (o.dst.getD 0 * 16) (rs := sm.rs) (x := r.1) (k := 0)
                have := hk.2.2 p hp
                rw [hd] at this hk ⊢
                simp only [Option.getD_some] at this hk
                have h16 := hk.1
                have h17 : cntR sm.rs ≤ 16 := hb.2.2
                have e : p.1 / 16 = d := by
                  have h1 : d * 16 ≤ p.1 := by omega
                  have h2 : p.1 < d * 16 + 16 := by omega
                  rw [show p.1 = (p.1 - d * 16) + 16 * d from by rw [Nat.mul_comm 16 d]; exact (Nat.sub_add_cancel h1).symm, Nat.add_mul_div_left _ _ (by decide)]
                  rw [Nat.div_eq_of_lt (by omega), Nat.zero_add]
                exact ⟨trivial, .inl (by rw [e])⟩
              · cases h
            · cases h
          · cases h
        · cases h
      · cases h
    · cases h
theorem roots_untup : ∀ {s : SV}, ∀ x ∈ untup s, ∀ r ∈ roots x, r ∈ roots s
  | .tcons a b, x, hx, r, hr => by
    simp only [untup, List.mem_cons] at hx
    rcases hx with rfl | hx
    · simp [roots, hr]
    · simp [roots, roots_untup x hx r hr]
  | .undef, x, hx, _, _ => by simp [untup] at hx
  | .con _ _, x, hx, _, _ => by simp [untup] at hx
  | .raw _, x, hx, _, _ => by simp [untup] at hx
  | .emp, x, hx, _, _ => by simp [untup] at hx
  | .agg _ _, x, hx, _, _ => by simp [untup] at hx
  | .tnil, x, hx, _, _ => by simp [untup] at hx
  | .ref _ _, x, hx, _, _ => by simp [untup] at hx
  | .sub _ _ _ _, x, hx, _, _ => by simp [untup] at hx
  | .ptr _ _, x, hx, _, _ => by simp [untup] at hx
  | .pro _ _, x, hx, _, _ => by simp [untup] at hx
  | .fn _ _, x, hx, _, _ => by simp [untup] at hx
theorem lookL_local {bs bs' : List (Nat × Bx)} : ∀ {ts : List Ty} {s : SV}, (∀ j ∈ roots s, bget bs' j = bget bs j) → ∀ {R : Type} (K : denL ts → Option R), lookL bs' ts s K = lookL bs ts s K
  | [], s, _, R, K => by cases s <;> rfl
  | t :: ts, s, h, R, K => by
    cases s <;> try rfl
    rename_i a b
    simp only [lookL]
    split
    · rw [look_local (fun j hj => h j (by simp [roots, hj]))]
      congr 1; funext x
      exact lookL_local (fun j hj => h j (by simp [roots, hj])) _
    · rfl
theorem args_local {bs bs' : List (Nat × Bx)} : ∀ {ps : List PK} {ss : List SV} {R : Type} (st : St) (K : ArgT ps → List Nat → List Nat → List Nat → St → Option R), plainPs ps = true → (∀ s ∈ ss, ∀ j ∈ roots s, bget bs' j = bget bs j) →
    args bs' ps ss st K = args bs ps ss st K
  | [], [], _, _, _, _, _ => rfl
  | [], _ :: _, _, _, _, _, _ => rfl
  | .ro t :: ps, [], _, _, _, _, _ => rfl
  | .ro t :: ps, s :: ss, R, st, K, h, hs => by
    simp only [args]
    split
    · rw [look_local (hs s (List.mem_cons_self ..))]
      congr 1; funext x
      exact args_local st _ (by simpa [plainPs] using h) (fun x hx => hs x (List.mem_cons_of_mem _ hx))
    · rfl
  | .fn f cs :: ps, [], _, _, _, _, _ => rfl
  | .fn f cs :: ps, s :: ss, R, st, K, h, hs => by
    simp only [args]
    split
    · split
      · rename_i g caps _
        rw [lookL_local (fun j hj => hs _ (List.mem_cons_self ..) j (by simpa [roots] using hj))]
        congr 1; funext x
        exact args_local st _ (by simpa [plainPs] using h) (fun x hx => hs x (List.mem_cons_of_mem _ hx))
      · rfl
    · rfl
  | .nil :: ps, [], _, _, _, _, _ => rfl
  | .nil :: ps, s :: ss, R, st, K, h, hs => by
    simp only [args]
    split
    · exact args_local st _ (by simpa [plainPs] using h) (fun x hx => hs x (List.mem_cons_of_mem _ hx))
    · rfl
  | .mv _ _ :: ps, _, _, _, _, h, _ => by simp [plainPs] at h
  | .io _ _ _ :: ps, _, _, _, _, h, _ => by simp [plainPs] at h
theorem born_local (h : ∀ x ∈ rd o, st'.ev x = st.ev x) : born c st' o = born c st o := by
  unfold born
  unfold rd at h
  congr 1
  split
  · rfl
  · rfl
  · rfl
  · rfl
  · rename_i cl ho
    simp only [ho] at h
    split
    · rename_i f hc
      simp only [hc] at h
      rw [h f (by simp)]
      have e : cl.args.toList.map st'.ev = cl.args.toList.map st.ev := List.map_congr_left fun x hx => h x (by simp only [List.mem_append]; exact .inr hx)
      rw [e]
    · rfl
  · rfl
theorem eff_local (hq : (quiet o || born c st o) = true) (h : ∀ x ∈ rd o, st'.ev x = st.ev x) (hb : ∀ x ∈ rd o, ∀ j ∈ roots (st.ev x), bget st'.boxes j = bget st.boxes j) : effO c st' o = effO c st o := by
  unfold effO
  split
  · rw [valS_local h hb]
  · rename_i q
    have hq : born c st o = true := by simpa [q] using hq
    cases ha : appArgs c o with
    | some pp =>
      obtain ⟨A, x, y⟩ := pp
      obtain ⟨_, e3, _⟩ := app_step (R := Unit) (st := st) ha (fun _ => none)
      simp only
      rw [e3] at h hb
      rw [h x (by simp), h y (by simp)]
      exact deed_local (hb x (by simp)) (hb y (by simp))
    | none =>
    simp only
    unfold born at hq
    rw [ha, Option.isSome_none, Bool.false_or] at hq
    unfold rd at h hb
    split
    · rfl
    · rename_i e v ho
      simp only [ho] at h hb
      rw [h v (by simp)]
      simp only [toCE_local (hb v (by simp))]
    · rename_i t n parts ho
      simp only [ho] at h hb
      have e : (parts.toList.map fun p => st'.ev p.2) = parts.toList.map fun p => st.ev p.2 := List.map_congr_left fun p hp => h p.2 (List.mem_map.2 ⟨p, hp, rfl⟩)
      rw [e]
      have e2 : ∀ (t : Ty) (m : Md), elemsE t m (parts.toList.map fun p => st.ev p.2) st' = elemsE t m (parts.toList.map fun p => st.ev p.2) st := fun t m => elemsE_local t m fun s hs j hj => by
        obtain ⟨p, hp, rfl⟩ := List.mem_map.1 hs
        exact hb p.2 (List.mem_map.2 ⟨p, hp, rfl⟩) j hj
      simp only [e2]
    · rename_i t l cp ho
      simp only [ho] at h
      rw [h l (by simp), h cp (by simp)]
    · rename_i cl ho
      simp only [ho] at h hb hq
      split
      · rename_i f hc
        simp only [hc] at h hb hq
        rw [h f (by simp)]
        have e : cl.args.toList.map st'.ev = cl.args.toList.map st.ev := List.map_congr_left fun x hx => h x (by simp only [List.mem_append]; exact .inr hx)
        rw [e]
        split
        · rename_i g caps hf
          simp only [hf] at hq
          split
          · split
            · rename_i sm ht
              simp only [ht, Bool.and_eq_true] at hq
              rw [args_local (bs := st.boxes) _ _ hq.2.1]
              intro s hs j hj
              rcases List.mem_append.1 hs with hs | hs
              · obtain ⟨x, hx, rfl⟩ := List.mem_map.1 hs
                exact hb x (by simp only [List.mem_append]; exact .inr hx) j hj
              · exact hb f (by simp) j (by rw [hf]; simpa [roots] using roots_untup s hs j hj)
            · rfl
          · rfl
        · rfl
      · rfl
    · rfl
/-! ### With guards -/
noncomputable def gE (c : Cx) (ops : Array Oper) (i : Nat) (st : St) : Option (List Upd × SV) :=
  match ops[i]? with
  | none => none
  | some o => match o.guard with
    | none => effO c st o
    | some (j, want) => match (ops[j]?).bind (·.dst) with
      | none => none
      | some g => match sget st.slots g with
        | .con .bool v => if (v : Bool) = want then effO c st o else some ([], .tnil)
        | .tnil => some ([], .tnil)
        | _ => none
theorem sset_self : ∀ (l : List SV) (i : Nat), sset l i (sget l i) = l
  | [], _ => rfl
  | _ :: _, 0 => rfl
  | a :: l, i + 1 => by simp [sset, sget, sset_self l i]
theorem set_self {g : Tmp} {s : SV} (h : sget st.slots g = s) : st.set (some g) s = st := by
  subst h
  show St.mk (sset st.slots g (sget st.slots g)) st.boxes = st
  rw [sset_self]
theorem g_eff {i : Nat} (ho : ops[i]? = some o) (hq : (quiet o || born c st o) = true) (K : St → Option R) : gS c ops i st K = (gE c ops i st).bind fun p => K ((st.lays p.1).set o.dst p.2) := by
  unfold gS gE
  simp only [opsS, ho]
  cases hg : o.guard with
  | none => exact eff_step hq K
  | some jw =>
    obtain ⟨j, want⟩ := jw
    simp only
    cases (ops[j]?).bind (·.dst) with
    | none => rfl
    | some g =>
      simp only
      split
      · rename_i v hv
        simp only [hv]
        cases v with
        | true =>
          cases want with
          | true => simp only [cond, if_true]; rw [set_self hv]; exact eff_step hq K
          | false => simp only [cond]; rw [set_self hv]; rfl
        | false =>
          cases want with
          | true => simp only [cond]; rw [set_self hv]; rfl
          | false => simp only [cond, if_true]; rw [set_self hv]; exact eff_step hq K
      · rename_i hv
        simp only [hv]; rfl
      · rename_i h1 h2
        split
        · rename_i v hv; exact (h1 v hv).elim
        · rename_i hv; exact (h2 hv).elim
        · rfl
theorem g_keys {i : Nat} {E : List Upd} {s : SV} (ho : ops[i]? = some o) (hq : (quiet o || born c st o) = true) (h : gE c ops i st = some (E, s)) : ∀ p ∈ E, loud o = true ∧ (o.dst = some (p.1 / 16) ∨ ∃ x ∈ tk c o, p.1 ∈ roots (st.ev x)) := by
  unfold gE at h
  simp only [ho] at h
  split at h
  · exact eff_keys hq h
  · split at h
    · cases h
    · split at h
      · split at h
        · exact eff_keys hq h
        · cases h; simp
      · cases h; simp
      · cases h
theorem rdg_rd {x : Operand} (h : x ∈ rd o) : x ∈ rdg ops o := by unfold rdg; simp [h]
theorem g_local {i : Nat} (ho : ops[i]? = some o) (hq : (quiet o || born c st o) = true) (h : ∀ x ∈ rdg ops o, st'.ev x = st.ev x) (hb : ∀ x ∈ rdg ops o, ∀ j ∈ roots (st.ev x), bget st'.boxes j = bget st.boxes j) : gE c ops i st' = gE c ops i st := by
  have he : effO c st' o = effO c st o := eff_local hq (fun x hx => h x (rdg_rd hx)) (fun x hx => hb x (rdg_rd hx))
  unfold gE
  simp only [ho, he]
  cases hg : o.guard with
  | none => rfl
  | some jw =>
    obtain ⟨j, want⟩ := jw
    simp only
    cases hd : (ops[j]?).bind (·.dst) with
    | none => rfl
    | some g =>
      have : sget st'.slots g = sget st.slots g := h (.tmp g) (by unfold rdg gdst; simp [hg, hd])
      simp only [this]
end
/-! ### One ahead of the other -/
theorem apartG_spec {ops : Array Oper} {a b : Oper} (h : apartG ops a b = true) : (∀ x ∈ rdg ops b, ∀ t, a.dst = some t → x ≠ .tmp t) ∧ (∀ x ∈ rdg ops a, ∀ t, b.dst = some t → x ≠ .tmp t) ∧ (∀ t, a.dst = some t → b.dst ≠ some t) := by
  have key : ∀ {l : List Operand} {d : Tmp}, (l.any fun x => match x with | .tmp t => t == d | _ => false) = false → ∀ x ∈ l, x ≠ .tmp d := by
    intro l d hl x hx e
    subst e
    have := (List.any_eq_false.1 hl) _ hx
    simp at this
  unfold apartG at h
  simp only [Bool.and_eq_true] at h
  refine ⟨fun x hx t ht => ?_, fun x hx t ht => ?_, fun t ht => ?_⟩
  · have h1 := h.1
    rw [ht] at h1
    simp only [Bool.and_eq_true, Bool.not_eq_true'] at h1
    exact key h1.1 x hx
  · have h1 := h.2
    rw [ht] at h1
    simp only [Bool.not_eq_true'] at h1
    exact key h1 x hx
  · have h1 := h.1
    rw [ht] at h1
    simp only [Bool.and_eq_true, Bool.not_eq_true'] at h1
    intro e
    rw [e] at h1
    simp at h1
theorem avoid_spec {A : List Nat} {s : SV} {r d : Nat} (h : avoid A s = true) (hd : A.contains d = true) (hr : r / 16 = d) : r ∉ roots s := by
  intro hm
  have := (List.all_eq_true.1 h) r hm
  rw [hr] at this
  simp [hd] at this
  simp at hd
  exact this hd
theorem ev_set_dst {st : St} {d : Option Tmp} {s : SV} {x : Operand} (h : ∀ t, d = some t → x ≠ .tmp t) : (st.set d s).ev x = st.ev x := ev_set h
theorem chk_spec {c : Cx} {ops : Array Oper} {i : Nat} {A U : List Nat} {st : St} {o : Oper} (ho : ops[i]? = some o) : chk c ops i A U st = true ↔ (quiet o || born c st o) = true ∧ (∀ x ∈ rdg ops o, noU (st.ev x) = true ∧ avoid A (st.ev x) = true) ∧ (∀ x ∈ tk c o, ∀ r ∈ roots (st.ev x), r / 16 ∈ U) := by
  unfold chk
  simp only [ho]
  rw [Bool.and_eq_true, Bool.and_eq_true, and_assoc]
  refine and_congr Iff.rfl (and_congr (by simp only [List.all_eq_true, Bool.and_eq_true]) ?_)
  simp [List.all_eq_true, List.contains_iff_mem]
theorem swapC {R : Type} {c : Cx} {ops : Array Oper} {i j : Nat} {a b : Oper} {Ai Ui Aj Uj : List Nat} {st : St} {K : St → Option R} {r : R} (ha : ops[j]? = some a) (hb : ops[i]? = some b) (hap : apartG ops a b = true)
    (hla : loud a = true → ∀ d, (a.dst = some d ∨ d ∈ Uj) → Ai.contains d = true) (hlb : loud b = true → ∀ d, (b.dst = some d ∨ d ∈ Ui) → Aj.contains d = true)
    (h : (gC c ops j Aj Uj st fun st => gC c ops i Ai Ui st K) = some r) : (gC c ops i Ai Ui st fun st => gC c ops j Aj Uj st K) = some r := by
  obtain ⟨p1, p2, p3⟩ := apartG_spec hap
  -- the first
  unfold gC at h
  split at h
  case isFalse => cases h
  rename_i c1
  replace c1 := (chk_spec ha).1 c1
  have e1 := g_eff (R := R) ha c1.1 (K := fun st => if avoid Aj (dstS ops j st) = true then (if chk c ops i Ai Ui st = true then opsS c ops [i] st fun st => if avoid Ai (dstS ops i st) = true then K st else none else none) else none)
  unfold gS at e1
  rw [e1] at h
  obtain ⟨⟨Ej, sj⟩, gj, h⟩ := Option.bind_eq_some_iff.1 h
  have kj := g_keys ha c1.1 gj
  simp only at h
  split at h
  case isFalse => cases h
  rename_i vj
  split at h
  case isFalse => cases h
  rename_i c2
  replace c2 := (chk_spec hb).1 c2
  have e2 := g_eff (R := R) hb c2.1 (K := fun st => if avoid Ai (dstS ops i st) = true then K st else none)
  unfold gS at e2
  rw [e2] at h
  obtain ⟨⟨Ei, si⟩, gi, h⟩ := Option.bind_eq_some_iff.1 h
  have ki := g_keys hb c2.1 gi
  simp only at h
  split at h
  case isFalse => cases h
  rename_i vi
  have xj : ∀ p ∈ Ej, Ai.contains (p.1 / 16) = true := fun p hp => by
    obtain ⟨l1, l2⟩ := kj p hp
    exact hla l1 _ (l2.imp id fun ⟨x, hx, hr⟩ => c1.2.2 x hx _ hr)
  have xi : ∀ p ∈ Ei, Aj.contains (p.1 / 16) = true := fun p hp => by
    obtain ⟨l1, l2⟩ := ki p hp
    exact hlb l1 _ (l2.imp id fun ⟨x, hx, hr⟩ => c2.2.2 x hx _ hr)
  -- what the second reads stood there before
  have s1 : ∀ x ∈ rdg ops b, ((st.lays Ej).set a.dst sj).ev x = st.ev x := fun x hx => by
    have hU := (c2.2.1 x hx).1
    rw [ev_set_dst (p1 x hx)] at hU ⊢
    exact lays_ev_U _ _ _ hU
  have a1 : ∀ x ∈ rdg ops b, avoid Ai (st.ev x) = true := fun x hx => by rw [← s1 x hx]; exact (c2.2.1 x hx).2
  have b1 : ∀ x ∈ rdg ops b, ∀ q ∈ roots (st.ev x), bget ((st.lays Ej).set a.dst sj).boxes q = bget st.boxes q := fun x hx q hq => by
    rw [boxes_set]
    refine lays_boxes _ _ _ fun p hp e => ?_
    exact avoid_spec (a1 x hx) (xj p hp) (by rw [e]) hq
  have q2 : (quiet b || born c st b) = true := by
    have := c2.1
    rw [born_local (fun x hx => s1 x (rdg_rd hx))] at this
    exact this
  have gi' : gE c ops i st = some (Ei, si) := by rw [← g_local hb q2 s1 b1]; exact gi
  -- and what the first reads is still there
  have s2 : ∀ x ∈ rdg ops a, ((st.lays Ei).set b.dst si).ev x = st.ev x := fun x hx => by
    rw [ev_set_dst (p2 x hx)]
    refine lays_ev_off _ _ _ fun p hp => ?_
    exact avoid_spec (c1.2.1 x hx).2 (xi p hp) rfl
  have b2 : ∀ x ∈ rdg ops a, ∀ q ∈ roots (st.ev x), bget ((st.lays Ei).set b.dst si).boxes q = bget st.boxes q := fun x hx q hq => by
    rw [boxes_set]
    refine lays_boxes _ _ _ fun p hp e => ?_
    exact avoid_spec (c1.2.1 x hx).2 (xi p hp) (by rw [e]) hq
  have q1 : (quiet a || born c ((st.lays Ei).set b.dst si) a) = true := by
    rw [born_local (fun x hx => s2 x (rdg_rd hx))]; exact c1.1
  have gj' : gE c ops j ((st.lays Ei).set b.dst si) = some (Ej, sj) := by rw [g_local ha c1.1 s2 b2]; exact gj
  -- the slots that are set keep off the boxes
  have outset : ∀ {st st' : St} {d : Option Tmp} {s : SV} {A : List Nat}, (∀ v, (match d with | some d => sget (sset st.slots d s) d | none => .undef) = v → avoid A v = true) →
      ∃ t, avoid A t = true ∧ ∀ st' : St, st'.slots.length = st.slots.length → st'.set d s = st'.set d t := by
    intro st st' d s A hv
    cases d with
    | none => exact ⟨.undef, rfl, fun _ _ => rfl⟩
    | some d =>
      have h1 := hv _ rfl
      simp only [sget_sset] at h1
      by_cases hd : d < st.slots.length
      · rw [if_pos ⟨trivial, hd⟩] at h1
        exact ⟨s, h1, fun _ _ => rfl⟩
      · have go : ∀ (l : List SV) (n : Nat) (s : SV), l.length ≤ n → sset l n s = l := by
          intro l
          induction l with
          | nil => intro n s _; rfl
          | cons a l ih => intro n s h; cases n with
            | zero => simp at h
            | succ n => simp only [sset]; rw [ih n s (by simpa using h)]
        refine ⟨.undef, rfl, fun st' hl => ?_⟩
        show St.mk (sset st'.slots d s) _ = St.mk (sset st'.slots d .undef) _
        rw [go _ _ _ (by rw [hl]; exact Nat.not_lt.1 hd), go _ _ _ (by rw [hl]; exact Nat.not_lt.1 hd)]
  have ll : ∀ (E : List Upd) (st : St), (st.lays E).slots.length = st.slots.length := by
    intro E
    induction E with
    | nil => intro st; rfl
    | cons p E ih => intro st; simp only [St.lays]; rw [ih]; simp [St.upd]
  have sl : ∀ (st : St) (d : Option Tmp) (s : SV), (st.set d s).slots.length = st.slots.length := by
    intro st d s
    cases d with
    | none => rfl
    | some d => exact sset_length _ _ _
  obtain ⟨tj, aj, fj⟩ := outset (st := st.lays Ej) (st' := st) (d := a.dst) (s := sj) (A := Aj) (fun v hv => by
    unfold dstS at vj
    simp only [ha] at vj
    subst hv
    cases hd : a.dst with
    | none => rfl
    | some d => rw [hd] at vj; exact vj)
  obtain ⟨ti, ai, fi⟩ := outset (st := ((st.lays Ej).set a.dst sj).lays Ei) (st' := st) (d := b.dst) (s := si) (A := Ai) (fun v hv => by
    unfold dstS at vi
    simp only [hb] at vi
    subst hv
    cases hd : b.dst with
    | none => rfl
    | some d => rw [hd] at vi; exact vi)
  have lj : ∀ st' : St, st'.slots.length = st.slots.length → st'.set a.dst sj = st'.set a.dst tj := fun st' h => fj st' (by rw [ll]; exact h)
  have li : ∀ st' : St, st'.slots.length = st.slots.length → st'.set b.dst si = st'.set b.dst ti := fun st' h => fi st' (by rw [ll, sl, ll]; exact h)
  have rj : ∀ p ∈ Ei, p.1 ∉ roots tj := fun p hp => avoid_spec aj (xi p hp) rfl
  have ri : ∀ p ∈ Ej, p.1 ∉ roots ti := fun p hp => avoid_spec ai (xj p hp) rfl
  have kk : ∀ p ∈ Ej, ∀ q ∈ Ei, p.1 ≠ q.1 := fun p hp q hq e => by
    obtain ⟨l1, l2⟩ := kj p hp
    obtain ⟨l3, l4⟩ := ki q hq
    rcases l4 with l4 | ⟨x, hx, hr⟩
    · rcases l2 with l2 | ⟨x, hx, hr⟩
      · exact p3 _ l2 (by rw [l4, e])
      · exact avoid_spec (c1.2.1 x (rdg_rd (tk_rd hx))).2 (xi q hq) (by rw [e]) hr
    · rw [s1 x (rdg_rd (tk_rd hx))] at hr
      exact avoid_spec (a1 x (rdg_rd (tk_rd hx))) (xj p hp) (by rw [e]) hr
  have fin : (((st.lays Ei).set b.dst si).lays Ej).set a.dst sj = (((st.lays Ej).set a.dst sj).lays Ei).set b.dst si := by
    rw [li (st.lays Ei) (ll _ _), lj (st.lays Ej) (ll _ _)]
    rw [set_lays _ _ _ _ ri, set_lays _ _ _ _ rj]
    rw [lj _ (by rw [sl, ll, ll]), li _ (by rw [sl, ll, ll])]
    rw [lays_comm st Ej Ei (fun p hp q hq => (kk q hq p hp).symm)]
    exact set_comm _ _ _ (fun x hx => by
      intro hy; exact p3 x hy hx)
  -- the other way
  unfold gC
  have c3 : chk c ops i Ai Ui st = true := by
    refine (chk_spec hb).2 ⟨q2, fun x hx => ⟨by rw [← s1 x hx]; exact (c2.2.1 x hx).1, a1 x hx⟩, fun x hx r hr => ?_⟩
    rw [← s1 x (rdg_rd (tk_rd hx))] at hr
    exact c2.2.2 x hx r hr
  rw [if_pos c3]
  have e3 := g_eff (R := R) (st := st) hb q2 (K := fun st => if avoid Ai (dstS ops i st) = true then (if chk c ops j Aj Uj st = true then opsS c ops [j] st fun st => if avoid Aj (dstS ops j st) = true then K st else none else none) else none)
  unfold gS at e3
  rw [e3, gi']
  simp only [Option.bind]
  have v3 : avoid Ai (dstS ops i ((st.lays Ei).set b.dst si)) = true := by
    rw [li _ (ll _ _)]
    unfold dstS
    simp only [hb]
    cases hd : b.dst with
    | none => rfl
    | some d =>
      show avoid Ai (sget (sset _ d ti) d) = true
      rw [sget_sset]
      split
      · exact ai
      · rename_i hh; rw [sget_out _ _ (by simp at hh; exact hh)]; rfl
  rw [if_pos v3]
  have c4 : chk c ops j Aj Uj ((st.lays Ei).set b.dst si) = true := by
    refine (chk_spec ha).2 ⟨q1, fun x hx => by rw [s2 x hx]; exact c1.2.1 x hx, fun x hx r hr => ?_⟩
    rw [s2 x (rdg_rd (tk_rd hx))] at hr
    exact c1.2.2 x hx r hr
  rw [if_pos c4]
  have e4 := g_eff (R := R) (st := (st.lays Ei).set b.dst si) ha q1 (K := fun st => if avoid Aj (dstS ops j st) = true then K st else none)
  unfold gS at e4
  rw [e4, gj']
  simp only [Option.bind]
  rw [fin]
  have v4 : avoid Aj (dstS ops j ((((st.lays Ej).set a.dst sj).lays Ei).set b.dst si)) = true := by
    rw [← fin, lj _ (by rw [ll, sl, ll])]
    unfold dstS
    simp only [ha]
    cases hd : a.dst with
    | none => rfl
    | some d =>
      show avoid Aj (sget (sset _ d tj) d) = true
      rw [sget_sset]
      split
      · exact aj
      · rename_i hh; rw [sget_out _ _ (by simp at hh; exact hh)]; rfl
  rw [if_pos v4]
  exact h
end Go.Proofs.Ytlgbhaigpecdoaa.V
