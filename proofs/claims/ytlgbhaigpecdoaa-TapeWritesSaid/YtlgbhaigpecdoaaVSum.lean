/- A function's summary. -/
import Derived.Test.YtlgbhaigpecdoaaVCallOp
set_option linter.unusedVariables false
set_option linter.unusedSimpArgs false
namespace Go.Proofs.Ytlgbhaigpecdoaa.V
open Go

def St.push (st : St) (s : SV) : St := { st with slots := st.slots ++ [s] }
def capSV : (ts : List Ty) → denL ts → SV
  | [], _ => .tnil
  | t :: ts, x => .tcons (.con t x.1) (capSV ts x.2)
/-- What stands in slots and boxes at the begin. -/
def entry : (ps : List PK) → List Nat → ArgT ps → Nat → St → St
  | [], _, _, _, st => st
  | .ro t :: ps, ks, x, i, st => entry ps ks x.2 (i + 1) (st.push (.con t x.1))
  | .mv t m :: ps, ks, x, i, st => entry ps ks x.2 (i + 1) ((got (i * 16) t m x.1 0 st).2.2.push (got (i * 16) t m x.1 0 st).1)
  | .io e t m :: ps, ks, x, i, st => entry ps ks.tail x.2 (i + 1) ((st.lay (i * 16) { mem := some e, t := t, m := m, x := x.1, pin := some (ks.headD 0) }).push (.ptr (i * 16) []))
  | .nil :: ps, ks, x, i, st => entry ps ks x.2 (i + 1) (st.push (.raw (.slice none 0 0)))
  | .fn f ts :: ps, ks, x, i, st => entry ps ks x.2 (i + 1) (st.push (.fn f (capSV ts x.1)))
def St.pad (st : St) (n : Nat) : St := { st with slots := st.slots ++ List.replicate (n - st.slots.length) .undef }
def start (ps : List PK) (ks : List Nat) (x : ArgT ps) (n : Nat) : St := (entry ps ks x 0 ⟨[], []⟩).pad n
section cps
variable {R : Type}
def rvS (E : Env) (st : St) : ResultVar → (SV → Option R) → Option R
  | .tmp i, K => K (sget st.slots i)
  | .cell a t, K => match E.get t with
    | some te => loadS st.boxes te.ty (sget st.slots a) K
    | none => none
/-- What it gives. -/
def endS (E : Env) : List ResultVar → (rs : List (Ty × Md)) → St → (ResT rs → St → Option R) → Option R
  | [], [], st, K => K () st
  | rv :: rvs, (t, m) :: rs, st, K => rvS E st rv fun s => if isAgg s = aggTy t then toC st s t m fun x m' st => if sameM t m' m = true then endS E rvs rs st fun y st => K (x, y) st else none else none
  | _, _, _, _ => none
/-- What comes back in the boxes that it was given; the blocks' numbers. -/
def ioOut : (ps : List PK) → Nat → List (Nat × Bx) → (OutT ps → List (Option Nat) → Option R) → Option R
  | [], _, _, K => K () []
  | .ro _ :: ps, i, bs, K => ioOut ps (i + 1) bs K
  | .mv _ _ :: ps, i, bs, K => ioOut ps (i + 1) bs K
  | .fn _ _ :: ps, i, bs, K => ioOut ps (i + 1) bs K
  | .nil :: ps, i, bs, K => ioOut ps (i + 1) bs K
  | .io e t m :: ps, i, bs, K => match bget bs (i * 16) with
    | some b => if b.mem = some e then (if h : b.t = t then (if sameM t b.m m = true then ioOut ps (i + 1) bs fun y l => K (h ▸ b.x, y) (b.pin :: l) else none) else none) else none
    | none => none
end cps
def fin (E : Env) (rvs : List ResultVar) (ps : List PK) (rs : List (Ty × Md)) (st : St) : Option ((ResT rs × OutT ps) × List (Option Nat)) :=
  endS E rvs rs st fun y st => ioOut ps 0 st.boxes fun z l => some ((y, z), l)
def finK (E : Env) (rvs : List ResultVar) (ps : List PK) (rs : List (Ty × Md)) : Ex → St → Option ((ResT rs × OutT ps) × List (Option Nat))
  | .normal, st => fin E rvs ps rs st
  | .ret, st => fin E rvs ps rs st
  | .exit _, _ => none
/-- The blocks that it was given. -/
def ksOf : List PK → List Value → List Nat
  | .io _ _ _ :: ps, .pointer (some a) :: vs => a.block :: ksOf ps vs
  | _ :: ps, _ :: vs => ksOf ps vs
  | _, _ => []
def ioN : List PK → Nat
  | [] => 0
  | .io _ _ _ :: ps => ioN ps + 1
  | .ro _ :: ps => ioN ps
  | .mv _ _ :: ps => ioN ps
  | .fn _ _ :: ps => ioN ps
  | .nil :: ps => ioN ps
theorem ksOf_len {w : World} {Im : Nat → Prop} : ∀ {ps : List PK} {x : ArgT ps} {us : List Value} {h : Frag}, ArgsOk w Im ps x us h → (ksOf ps us).length = ioN ps := by
  intro ps
  induction ps with
  | nil => intro x us h ha; rfl
  | cons pk ps ih =>
    intro x us h ha
    cases pk with
    | ro t => obtain ⟨v, vs', cs, e, _, _, ha⟩ := ha; subst e; exact ih ha
    | mv t m => obtain ⟨v, vs', cs, g1, g2, e, _, _, _, ha⟩ := ha; subst e; exact ih ha
    | io e t m =>
      obtain ⟨vs', b, cs, g1, g2, e1, _, _, ha⟩ := ha; subst e1
      simp only [ksOf, ioN, List.length_cons]; rw [ih ha]
    | fn f ts => obtain ⟨vs', caps, e, _, ha⟩ := ha; subst e; exact ih ha
    | nil => obtain ⟨vs', e, ha⟩ := ha; subst e; exact ih ha
section
variable {P : Program} {G : Gl} {I0 : Nat → Prop} {st st0 st1 : St} {a : Act} {vs : Array Value} {w w' : World} {Im Im0 Im' : Nat → Prop} {R R0 R' : Real} {hand hand' : Frag} {o : Oper} {T : Type} {r0 : T} {E : Env}
theorem sget_append : ∀ (l m : List SV) (n : Nat), sget (l ++ m) n = if n < l.length then sget l n else sget m (n - l.length)
  | [], m, n => by simp
  | s :: l, m, 0 => by simp [sget]
  | s :: l, m, n + 1 => by simp [sget, sget_append l m n]
theorem Inv.push (h : Inv G st vs w Im R hand) {s : SV} {v : Value} (hs : SVV w Im R s v) : Inv G (st.push s) (vs.push v) w Im R hand := by
  refine ⟨h.box, h.rep, h.sep, fun n => ?_, by simp [St.push, h.len], h.keep⟩
  show SVV w Im R (sget (st.slots ++ [s]) n) _
  rw [sget_append, Array.getD_eq_getD_getElem?, Array.getElem?_push, h.len]
  by_cases h1 : n < vs.size
  · rw [if_pos h1, if_neg (by omega)]
    have := h.slots n
    rwa [Array.getD_eq_getD_getElem?] at this
  · rw [if_neg h1]
    by_cases h2 : n = vs.size
    · rw [if_pos h2, h2, Nat.sub_self]; exact hs
    · rw [if_neg h2]
      obtain ⟨k, hk⟩ : ∃ k, n - vs.size = k + 1 := ⟨n - vs.size - 1, by omega⟩
      rw [hk]; exact .inl rfl
theorem Inv.pad (h : Inv G st vs w Im R hand) (n : Nat) : Inv G (st.pad n) (vs ++ Array.replicate (n - vs.size) Go.undef) w Im R hand := by
  refine ⟨h.box, h.rep, h.sep, fun i => ?_, by simp [St.pad, h.len], h.keep⟩
  show SVV w Im R (sget (st.slots ++ List.replicate (n - st.slots.length) .undef) i) _
  rw [sget_append, h.len]
  by_cases h1 : i < vs.size
  · rw [if_pos h1, Array.getD_eq_getD_getElem?, Array.getElem?_append_left h1]
    have := h.slots i
    rwa [Array.getD_eq_getD_getElem?] at this
  · rw [if_neg h1]
    have : ∀ (k j : Nat), sget (List.replicate k .undef) j = .undef := by
      intro k
      induction k with
      | zero => intro j; rfl
      | succ k ih => intro j; cases j with
        | zero => rfl
        | succ j => exact ih j
    rw [this]; exact .inl rfl
theorem capSV_ok : ∀ {ts : List Ty} {x : denL ts} {us : List Value}, CapsOk w Im ts x us → SVX w Im R (capSV ts x) true us
  | [], _, _, h => ⟨rfl, h⟩
  | t :: ts, x, us, ⟨v, vs', cs, e, hp, r, h⟩ => ⟨rfl, v, vs', e, .inr ⟨cs, by rw [isAgg_con]; exact hp, r⟩, capSV_ok h⟩
theorem entry_ok : ∀ {ps : List PK} {x : ArgT ps} {us : List Value} {h : Frag} {i : Nat} {st : St} {vs : Array Value} {R : Real}, ArgsOk w Im ps x us h → Inv G st vs w Im R h →
    ∃ R', Inv G (entry ps (ksOf ps us) x i st) (vs ++ us.toArray) w Im R' [] := by
  intro ps
  induction ps with
  | nil =>
    intro x us h i st vs R ha hi
    obtain ⟨e1, e2⟩ := ha
    subst e1; subst e2
    exact ⟨R, by simpa [entry] using hi⟩
  | cons pk ps ih =>
    intro x us h i st vs R ha hi
    cases pk with
    | ro t =>
      obtain ⟨v, vs', cs, e, hp, hr, ha⟩ := ha
      subst e
      have h1 := hi.push (s := .con t x.1) (.ofPack (t := t) (R := R) hr hp (fun _ => isAgg_con _ _))
      obtain ⟨R', h2⟩ := ih (i := i + 1) ha h1
      refine ⟨R', ?_⟩
      have e : vs ++ (v :: vs').toArray = vs.push v ++ vs'.toArray := by apply Array.ext'; simp
      rw [e]; exact h2
    | mv t m =>
      obtain ⟨v, vs', cs, g1, g2, e, e2, hp, hr, ha⟩ := ha
      subst e; subst e2
      obtain ⟨R1, h1, hs, _, _, _, hag⟩ := got_ok (base := i * 16) (k := 0) (hand := g2) (hi.perm List.perm_append_comm) hr
      have h1 := h1.push (v := v) (.ofPack (t := t) hs hp (fun _ => hag))
      obtain ⟨R', h2⟩ := ih (i := i + 1) ha h1
      refine ⟨R', ?_⟩
      have e : vs ++ (v :: vs').toArray = vs.push v ++ vs'.toArray := by apply Array.ext'; simp
      rw [e]; exact h2
    | io e t m =>
      obtain ⟨vs', b, cs, g1, g2, e1, e2, hr, ha⟩ := ha
      subst e1; subst e2
      have hi' := hi.perm (hand' := g2 ++ ((b, (cs.toArray, e)) :: g1)) (by
        rw [← List.cons_append]; exact List.perm_append_comm)
      have h1 := hi'.lay (i * 16) (b := { mem := some e, t := t, m := m, x := x.1, pin := some b }) (rb := ⟨b, cs, g1⟩) hr rfl
      have h1 := h1.push (s := .ptr (i * 16) []) (v := .pointer (some ⟨b, 0, none⟩)) (ptr_ok (b := { mem := some e, t := t, m := m, x := x.1, pin := some b }) (rb := ⟨b, cs, g1⟩) rfl R)
      obtain ⟨R', h2⟩ := ih (i := i + 1) ha h1
      refine ⟨R', ?_⟩
      have e : vs ++ (Value.pointer (some ⟨b, 0, none⟩) :: vs').toArray = vs.push (.pointer (some ⟨b, 0, none⟩)) ++ vs'.toArray := by apply Array.ext'; simp
      rw [e]; exact h2
    | nil =>
      obtain ⟨vs', e, ha⟩ := ha
      subst e
      have h1 := hi.push (s := .raw (.slice none 0 0)) (v := .slice none 0 0) (.ofCell (by simp [SVX, Value.cells]) rfl)
      obtain ⟨R', h2⟩ := ih (i := i + 1) ha h1
      refine ⟨R', ?_⟩
      have e : vs ++ (Value.slice none 0 0 :: vs').toArray = vs.push (.slice none 0 0) ++ vs'.toArray := by apply Array.ext'; simp
      rw [e]; exact h2
    | fn f ts =>
      obtain ⟨vs', caps, e, hc, ha⟩ := ha
      subst e
      have h1 := hi.push (s := .fn f (capSV ts x.1)) (v := .func (.func f) #[] caps) (.ofCell ⟨caps, rfl, capSV_ok hc⟩ rfl)
      obtain ⟨R', h2⟩ := ih (i := i + 1) ha h1
      refine ⟨R', ?_⟩
      have e : vs ++ (Value.func (.func f) #[] caps :: vs').toArray = vs.push (.func (.func f) #[] caps) ++ vs'.toArray := by apply Array.ext'; simp
      rw [e]; exact h2
/-- A result's value. -/
def rvRun (tmps : Array Value) : ResultVar → Sem Value
  | .tmp t => pure (tmps.getD t Go.undef)
  | .cell a t => do loadVar t (← asAddr (tmps.getD a Go.undef))
theorem rv_some (hE : EnvOk P E) (h : Inv G st vs w Im R hand) {rv : ResultVar} {K : SV → Option T} (hk : rvS E st rv K = some r0) : ∃ s v, K s = some r0 ∧ (rvRun vs rv).run P w = .ok v w ∧ SVV w Im R s v := by
  cases rv with
  | tmp i => exact ⟨_, _, hk, rfl, h.slots i⟩
  | cell i t =>
    simp only [rvS] at hk
    split at hk
    · rename_i te ht
      obtain ⟨s, z, k1, k2, k3⟩ := load_some hE h ht hk (h.slots i)
      refine ⟨s, z, k1, ?_, k3⟩
      show (do loadVar t (← asAddr (vs.getD i Go.undef)) : Sem Value).run P w = _
      generalize vs.getD i Go.undef = v at k2 ⊢
      cases v with
      | pointer p =>
        cases p with
        | none => simp [Instr.loadAt, Instr.sureAddr] at k2
        | some ad => simpa [Instr.loadAt, Instr.sureAddr, asAddr] using k2
      | _ => simp [Instr.loadAt, Instr.sureAddr] at k2
    · cases hk
theorem end_some (hE : EnvOk P E) : ∀ {rvs : List ResultVar} {rs : List (Ty × Md)} {st : St} {Im : Nat → Prop} {R : Real} {hand : Frag} {K : ResT rs → St → Option T}, endS E rvs rs st K = some r0 → Inv G st vs w Im R hand →
    ∃ y st' Im' R' h1 us, K y st' = some r0 ∧ Inv G st' vs w Im' R' (hand ++ h1) ∧ Grow w w Im Im' ∧ ResOk w Im' rs y us h1 ∧ (rvs.mapM (rvRun vs)).run P w = .ok us w := by
  intro rvs
  induction rvs with
  | nil =>
    intro rs st Im R hand K hk h
    cases rs with
    | nil => exact ⟨(), st, Im, R, [], [], hk, by rw [List.append_nil]; exact h, Grow.refl _ _, ⟨rfl, rfl⟩, rfl⟩
    | cons p rs => simp [endS] at hk
  | cons rv rvs ih =>
    intro rs st Im R hand K hk h
    cases rs with
    | nil => simp [endS] at hk
    | cons p rs =>
      obtain ⟨t, m⟩ := p
      simp only [endS] at hk
      obtain ⟨s, v, hk, hrun, hs⟩ := rv_some hE h hk
      split at hk
      · rename_i ha
        obtain ⟨cs, x, m', st1, Im1, R1, h1, e1, e2, hk, hi, hrep, g, hsv, _⟩ := toC_cv hk h (CV.of hs)
        split at hk
        · rename_i hm
          obtain ⟨y, st', Im', R', h2, us, k1, k2, k3, k4, k5⟩ := ih hk hi
          refine ⟨(x, y), st', Im', R', h1 ++ h2, v :: us, k1, by rw [← List.append_assoc]; exact k2, g.trans k3, ⟨v, us, cs, h1, h2, rfl, rfl, pack_of e1 ha, (hrep.same hm).grow k3, k4⟩, ?_⟩
          simp [List.mapM_cons, hrun, k5]
        · cases hk
      · cases hk
theorem out_some (h : Inv G st vs w Im R hand) : ∀ {ps : List PK} {i : Nat} {K : OutT ps → List (Option Nat) → Option T} {us : List Value} {x : ArgT ps} {w0 : World} {Im0 : Nat → Prop} {h0 : Frag}, ioOut ps i st.boxes K = some r0 → ArgsOk w0 Im0 ps x us h0 →
    ∃ z l ids, K z l = some r0 ∧ (l = (ksOf ps us).map some → OutsOk w Im ps z us (ioFrag R ids)) ∧ noDup ids = true ∧ (∀ j ∈ ids, i * 16 ≤ j) := by
  intro ps
  induction ps with
  | nil => intro i K us x w0 Im0 h0 hk ha; exact ⟨(), [], [], hk, fun _ => rfl, rfl, fun j hj => by simp at hj⟩
  | cons pk ps ih =>
    intro i K us x w0 Im0 h0 hk ha
    cases pk with
    | ro t =>
      obtain ⟨v, vs', cs, e, hp, hr, ha⟩ := ha
      subst e
      obtain ⟨z, l, ids, k1, k2, k3, k4⟩ := ih (i := i + 1) hk ha
      exact ⟨z, l, ids, k1, fun hl => ⟨v, vs', rfl, k2 hl⟩, k3, fun j hj => by have := k4 j hj; omega⟩
    | mv t m =>
      obtain ⟨v, vs', cs, g1, g2, e, e2, hp, hr, ha⟩ := ha
      subst e
      obtain ⟨z, l, ids, k1, k2, k3, k4⟩ := ih (i := i + 1) hk ha
      exact ⟨z, l, ids, k1, fun hl => ⟨v, vs', rfl, k2 hl⟩, k3, fun j hj => by have := k4 j hj; omega⟩
    | nil =>
      obtain ⟨vs', e, ha⟩ := ha
      subst e
      obtain ⟨z, l, ids, k1, k2, k3, k4⟩ := ih (i := i + 1) hk ha
      exact ⟨z, l, ids, k1, fun hl => ⟨_, vs', rfl, k2 hl⟩, k3, fun j hj => by have := k4 j hj; omega⟩
    | fn f ts =>
      obtain ⟨vs', caps, e, hc, ha⟩ := ha
      subst e
      obtain ⟨z, l, ids, k1, k2, k3, k4⟩ := ih (i := i + 1) hk ha
      exact ⟨z, l, ids, k1, fun hl => ⟨_, vs', rfl, k2 hl⟩, k3, fun j hj => by have := k4 j hj; omega⟩
    | io e t m =>
      obtain ⟨vs', b0, cs, g1, g2, e1, e2, hr, ha⟩ := ha
      subst e1
      simp only [ioOut] at hk
      split at hk
      · rename_i b hb
        split at hk
        · rename_i hmem
          split at hk
          · rename_i hty
            split at hk
            · rename_i hm
              obtain ⟨z, l, ids, k1, k2, k3, k4⟩ := ih (i := i + 1) hk ha
              obtain ⟨rb, hrr⟩ := h.real hb
              have hne : i * 16 ∉ ids := fun hj => by have := k4 _ hj; omega
              refine ⟨(hty ▸ b.x, z), b.pin :: l, i * 16 :: ids, k1, fun hl => ?_, ?_, fun j hj => ?_⟩
              · simp only [ksOf, List.map_cons, List.cons.injEq] at hl
                obtain ⟨hpin, hl⟩ := hl
                have hblk : blkOf b rb = b0 := by unfold blkOf; rw [hpin]; rfl
                refine ⟨b0, vs', rb.cs, rb.h, ioFrag R ids, rfl, ?_, ((h.rep _ b rb hrr).cast hty).same hm, k2 hl⟩
                simp only [ioFrag]
                rw [own_at hrr]
                unfold fragOf
                rw [hmem, hblk]; rfl
              · simp only [noDup, k3, Bool.and_true, Bool.not_eq_true']
                cases hc : ids.contains (i * 16) with
                | true => exact absurd (List.contains_iff_mem.1 hc) hne
                | false => rfl
              · rcases List.mem_cons.1 hj with hj | hj
                · omega
                · have := k4 j hj; omega
            · cases hk
          · cases hk
        · cases hk
      · cases hk
theorem run_results {fn : Func} {tmps : Array Value} {us : List Value} (h : (fn.results.toList.mapM (rvRun tmps)).run P w = .ok us w) : (results fn tmps).run P w = .ok (valOf us) w := by
  have h1 : (fn.results.mapM (rvRun tmps)).run P w = .ok us.toArray w := by
    rw [Array.mapM_eq_mapM_toList]
    simp [h]
  have h2 : results fn tmps = (do let vs ← fn.results.mapM (rvRun tmps); pure (if h : vs.size = 1 then vs[0] else .tuple vs)) := rfl
  rw [h2, Sem.run_bind, h1]
  show Result.ok _ w = _
  congr 1
  match us with
  | [] => rfl
  | [u] => rfl
  | u :: v :: us =>
    have : ¬ ((u :: v :: us).toArray.size = 1) := by simp
    rw [dif_neg this]; rfl
/-- A function's summary, out of the run of its code. -/
theorem sum_ok {c : Fx} (hm : P.follows .mixedOrders = true) (hE : EnvOk P c.E) (hC : ∀ G I0, CallOk P c.toCx G I0) {f : FuncId} {fn : Func} {code : Code} (hf : P.funcs[f]? = some fn) (hb : fn.body = some code) (hL : ∀ b ∈ loops code, ∀ nd, nget c.nodes true (head b) = some nd → LoopOk c b nd) (hT : ∀ b ∈ tails code, ∀ nd, nget c.nodes false (head b) = some nd → TailOk c b nd) {sm : Sm}
    (hF : ∀ (ks : List Nat) (x : ArgT sm.ps) (r : ResT sm.rs × OutT sm.ps), ks.length = ioN sm.ps → sm.F x = some r → codeS c code (start sm.ps ks x fn.ntmps) (finK c.E fn.results.toList sm.ps sm.rs) = some (r, ks.map some)) : SmOk P f sm := by
  intro w Im us x h r himlt hargs hheap hnod hdis hr
  have hi : Inv ⟨w, keys h, Im⟩ ⟨[], []⟩ #[] w Im (fun _ => none) h := by
    refine ⟨fun i => rfl, fun i b r hb => (by cases hb), ⟨fun i => ?_, fun i j hij k hi hj => ?_, fun i p hp => ?_, fun i k hk => ?_, fun i k hk => ?_, himlt, fun k hk => .inl hk⟩, fun n => .inl rfl, rfl, ⟨rfl, rfl, rfl, Nat.le_refl _, fun _ _ _ => rfl⟩⟩
    · cases i with
      | zero => exact hnod
      | succ i => exact List.nodup_nil
    · cases i with
      | zero => cases j with
        | zero => exact hij rfl
        | succ j => simp [own, keys] at hj
      | succ i => simp [own, keys] at hi
    · cases i with
      | zero => exact hheap p hp
      | succ i => simp [own] at hp
    · cases i with
      | zero => exact hdis k hk
      | succ i => simp [own, keys] at hk
    · cases i with
      | zero => exact .inr hk
      | succ i => simp [own, keys] at hk
  obtain ⟨R1, h1⟩ := entry_ok (i := 0) hargs hi
  have h2 := h1.pad fn.ntmps
  have e0 : (#[] : Array Value) ++ us.toArray = us.toArray := by simp
  rw [e0] at h2
  have hok : Ok ⟨w, keys h, Im⟩ Im (start sm.ps (ksOf sm.ps us) x fn.ntmps) { tmps := us.toArray ++ Array.replicate (fn.ntmps - us.toArray.size) Go.undef, defers := [] } w := ⟨rfl, Im, R1, fun _ h => h, h2⟩
  refine calls_of_wp hf hb (wp_mono (code_some hm hE (hC ⟨w, keys h, Im⟩ Im) code hL hT (hF _ x r (ksOf_len hargs) hr) hok) fun e a w' hq => ?_)
  have done : Post ⟨w, keys h, Im⟩ Im (fin c.E fn.results.toList sm.ps sm.rs) (r, (ksOf sm.ps us).map some) a w' → a.defers = [] ∧ ∃ v, (results fn a.tmps).run P w' = .ok v w' ∧
      ∃ us2 ImN h1 h2, Ending.returned v = .returned (valOf us2) ∧ ResOk w' ImN sm.rs r.1 us2 h1 ∧ OutsOk w' ImN sm.ps r.2 us h2 ∧ HeapOK w' (h1 ++ h2) ∧ (keys (h1 ++ h2)).Nodup ∧
      (∀ k ∈ keys (h1 ++ h2), ¬ ImN k ∧ (w.heap.size ≤ k ∨ k ∈ keys h)) ∧ Grow w w' Im ImN ∧ (∀ k, ImN k → k < w'.heap.size ∧ (Im k ∨ w.heap.size ≤ k ∨ k ∈ keys h)) ∧ Keep ⟨w, keys h, Im⟩ w' := by
    rintro ⟨st', hk, hd, Im1, R2, hI, hi1⟩
    refine ⟨hd, ?_⟩
    unfold fin at hk
    obtain ⟨y, st2, Im2, R3, g1, us2, k1, k2, k3, k4, k5⟩ := end_some hE hk hi1
    have k2 : Inv ⟨w, keys h, Im⟩ st2 a.tmps w' Im2 R3 g1 := k2
    obtain ⟨z, l, ids, k6, k7, k8, _⟩ := out_some k2 k1 hargs
    simp only [Option.some.injEq, Prod.mk.injEq] at k6
    obtain ⟨e1, e2⟩ := k6
    subst e1; subst e2
    have k9 := k7 rfl
    have hmem : ∀ k ∈ keys (g1 ++ ioFrag R3 ids), ∃ i, k ∈ keys (own R3 g1 i) := fun k hk => by
      rw [keys_append] at hk
      rcases List.mem_append.1 hk with hk | hk
      · exact ⟨0, hk⟩
      · obtain ⟨r, _, hk⟩ := mem_ioFrag.1 hk
        exact ⟨r + 1, hk⟩
    refine ⟨valOf us2, run_results k5, us2, Im2, g1, ioFrag R3 ids, rfl, k4, k9, fun p hp => ?_, ?_, fun k hk => ?_, ⟨fun k hk => k3.im k (hI k hk), fun k hk => ?_⟩, fun k hk => ⟨k2.sep.imlt k hk, k2.sep.imok k hk⟩, k2.keep⟩
    · have : ∀ {l : List Nat}, p ∈ ioFrag R3 l → ∃ i, p ∈ own R3 g1 (i + 1) := by
        intro l
        induction l with
        | nil => intro h; simp [ioFrag] at h
        | cons r l ih =>
          intro h
          rcases List.mem_append.1 h with h | h
          · exact ⟨r, h⟩
          · exact ih h
      rcases List.mem_append.1 hp with hp | hp
      · exact k2.sep.heap 0 p hp
      · obtain ⟨i, hi⟩ := this hp; exact k2.sep.heap (i + 1) p hi
    · rw [keys_append]
      refine List.nodup_append.2 ⟨k2.sep.nod 0, ioFrag_nodup k2 k8, fun y hy z hz e => ?_⟩
      subst e
      obtain ⟨s, _, h2⟩ := mem_ioFrag.1 hz
      exact k2.sep.sep 0 (s + 1) (by simp) y hy h2
    · obtain ⟨i, hi⟩ := hmem k hk
      exact ⟨k2.sep.im i k hi, k2.sep.fresh i k hi⟩
    · exact k2.keep.block k (himlt k hk) (fun hm => hdis k hm hk)
  cases e with
  | normal => exact done hq
  | ret => exact done hq
  | exit id => obtain ⟨st', hk, _⟩ := hq; cases hk
  | _ => exact hq.elim
end
end Go.Proofs.Ytlgbhaigpecdoaa.V
