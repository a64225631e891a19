/- A call. -/
import Derived.Test.YtlgbhaigpecdoaaVGot
set_option linter.unusedVariables false
set_option linter.unusedSimpArgs false
namespace Go.Proofs.Ytlgbhaigpecdoaa.V
open Go

def OutsOk (w : World) (Im : Nat → Prop) : (ps : List PK) → OutT ps → List Value → Frag → Prop
  | [], _, _, h => h = []
  | .io e t m :: ps, o, vs, h => ∃ b vs' cs h1 h2, vs = .pointer (some ⟨b, 0, none⟩) :: vs' ∧ h = (b, (cs.toArray, e)) :: (h1 ++ h2) ∧ Rep w Im t m o.1 cs h1 ∧ OutsOk w Im ps o.2 vs' h2
  | .ro _ :: ps, o, vs, h => ∃ v vs', vs = v :: vs' ∧ OutsOk w Im ps o vs' h
  | .mv _ _ :: ps, o, vs, h => ∃ v vs', vs = v :: vs' ∧ OutsOk w Im ps o vs' h
  | .fn _ _ :: ps, o, vs, h => ∃ v vs', vs = v :: vs' ∧ OutsOk w Im ps o vs' h
  | .nil :: ps, o, vs, h => ∃ v vs', vs = v :: vs' ∧ OutsOk w Im ps o vs' h
def valOf : List Value → Value
  | [u] => u
  | us => .tuple us.toArray
/-- What is shown of a function. -/
def SmOk (P : Program) (f : FuncId) (sm : Sm) : Prop :=
  ∀ (w : World) (Im : Nat → Prop) (vs : List Value) (x : ArgT sm.ps) (h : Frag) (r : ResT sm.rs × OutT sm.ps), (∀ k, Im k → k < w.heap.size) → ArgsOk w Im sm.ps x vs h → HeapOK w h → (keys h).Nodup → (∀ k ∈ keys h, ¬ Im k) → sm.F x = some r →
    Calls P f vs.toArray w fun e w' => ∃ us ImN h1 h2, e = .returned (valOf us) ∧ ResOk w' ImN sm.rs r.1 us h1 ∧ OutsOk w' ImN sm.ps r.2 vs h2 ∧ HeapOK w' (h1 ++ h2) ∧ (keys (h1 ++ h2)).Nodup ∧
      (∀ k ∈ keys (h1 ++ h2), ¬ ImN k ∧ (w.heap.size ≤ k ∨ k ∈ keys h)) ∧ Grow w w' Im ImN ∧ (∀ k, ImN k → k < w'.heap.size ∧ (Im k ∨ w.heap.size ≤ k ∨ k ∈ keys h)) ∧ Keep ⟨w, keys h, Im⟩ w'
def TabOk (P : Program) (T : Tab) : Prop := ∀ p ∈ T, SmOk P p.1 p.2
theorem Tab.find_mem : ∀ {T : Tab} {f : FuncId} {ss : List SV} {sm : Sm}, Tab.find T f ss = some sm → (f, sm) ∈ T
  | (j, b) :: l, f, ss, sm, h => by
    simp only [Tab.find] at h
    split at h
    · rename_i e; subst e
      split at h
      · cases h; exact List.mem_cons_self ..
      · exact List.mem_cons_of_mem _ (Tab.find_mem h)
    · exact List.mem_cons_of_mem _ (Tab.find_mem h)
section
variable {P : Program} {G : Gl} {I0 : Nat → Prop} {st st0 st1 : St} {a : Act} {vs : Array Value} {w w' : World} {Im Im0 Im' : Nat → Prop} {R R0 R' : Real} {hand hand' : Frag} {o : Oper} {T : Type} {r0 : T} {E : Env}
theorem ResOk.conv {ImN Im2 : Nat → Prop} : ∀ {rs : List (Ty × Md)} {x : ResT rs} {us : List Value} {h : Frag}, ((∀ k, ImN k → Im2 k) ∨ (rs.all fun p => V.noRo p.1 p.2) = true) → ResOk w ImN rs x us h → ResOk w Im2 rs x us h
  | [], _, _, _, _, r => r
  | (t, m) :: rs, x, us, h, hc, ⟨u, us', cs, h1, h2, e1, e2, e3, r1, r2⟩ => by
    refine ⟨u, us', cs, h1, h2, e1, e2, e3, ?_, r2.conv (hc.imp id fun h => ?_)⟩
    · rcases hc with hc | hc
      · exact r1.frame hc (fun _ _ => rfl)
      · simp only [List.all_cons, Bool.and_eq_true] at hc; exact r1.noRo hc.1
    · simp only [List.all_cons, Bool.and_eq_true] at h; exact h.2
theorem OutsOk.conv {ImN Im2 : Nat → Prop} : ∀ {ps : List PK} {x : OutT ps} {us : List Value} {h : Frag}, ((∀ k, ImN k → Im2 k) ∨ psNoRo ps = true) → OutsOk w ImN ps x us h → OutsOk w Im2 ps x us h
  | [], _, _, _, _, r => r
  | .io e t m :: ps, x, us, h, hc, ⟨b, us', cs, h1, h2, e1, e2, r1, r2⟩ => by
    refine ⟨b, us', cs, h1, h2, e1, e2, ?_, r2.conv (hc.imp id fun h => ?_)⟩
    · rcases hc with hc | hc
      · exact r1.frame hc (fun _ _ => rfl)
      · simp only [psNoRo, Bool.and_eq_true] at hc; exact r1.noRo hc.1
    · simp only [psNoRo, Bool.and_eq_true] at h; exact h.2
  | .ro _ :: ps, x, us, h, hc, ⟨v, vs', e, r⟩ => ⟨v, vs', e, OutsOk.conv (ps := ps) (hc.imp id fun h => by simpa [psNoRo] using h) r⟩
  | .mv _ _ :: ps, x, us, h, hc, ⟨v, vs', e, r⟩ => ⟨v, vs', e, OutsOk.conv (ps := ps) (hc.imp id fun h => by simpa [psNoRo] using h) r⟩
  | .fn _ _ :: ps, x, us, h, hc, ⟨v, vs', e, r⟩ => ⟨v, vs', e, OutsOk.conv (ps := ps) (hc.imp id fun h => by simpa [psNoRo] using h) r⟩
  | .nil :: ps, x, us, h, hc, ⟨v, vs', e, r⟩ => ⟨v, vs', e, OutsOk.conv (ps := ps) (hc.imp id fun h => by simpa [psNoRo] using h) r⟩
/-- The boxes behind the call. -/
theorem outs_real {Im2 : Nat → Prop} : ∀ {ps : List PK} {x : OutT ps} {vs : List Value} {io : List Nat} {h : Frag}, IoOk R ps vs io → OutsOk w Im2 ps x vs h → noDup io = true →
    ∃ R2 : Real, (∀ j, j ∉ io → R2 j = R j) ∧ (∀ bs : List (Nat × Bx), (∀ j, bget bs j = (R j).map (·.1)) → ∀ j, bget (outsB ps x io bs) j = (R2 j).map (·.1)) ∧
      (∀ j ∈ io, ∃ b2 rb2 b rb, R2 j = some (b2, rb2) ∧ R j = some (b, rb) ∧ blkOf b2 rb2 = blkOf b rb ∧ b2.mem = b.mem ∧ b2.t = b.t ∧ Rep w Im2 b2.t b2.m b2.x rb2.cs rb2.h) ∧ List.Perm h (ioFrag R2 io) := by
  intro ps
  induction ps with
  | nil =>
    intro x vs io h h1 h2 _
    have h1 : io = [] := h1
    have h2 : h = [] := h2
    subst h1; subst h2
    exact ⟨R, fun _ _ => rfl, fun bs hb => hb, fun j hj => by simp at hj, List.Perm.refl _⟩
  | cons pk ps ih =>
    intro x vs io h h1 h2 hd
    cases pk with
    | ro t =>
      obtain ⟨v, vs', e, h1⟩ := h1
      obtain ⟨v2, vs2, e2, h2⟩ := h2
      rw [e] at e2; cases e2
      exact ih h1 h2 hd
    | mv t m =>
      obtain ⟨v, vs', e, h1⟩ := h1
      obtain ⟨v2, vs2, e2, h2⟩ := h2
      rw [e] at e2; cases e2
      exact ih h1 h2 hd
    | nil =>
      obtain ⟨v, vs', e, h1⟩ := h1
      obtain ⟨v2, vs2, e2, h2⟩ := h2
      rw [e] at e2; cases e2
      exact ih h1 h2 hd
    | fn f ts =>
      obtain ⟨v, vs', e, h1⟩ := h1
      obtain ⟨v2, vs2, e2, h2⟩ := h2
      rw [e] at e2; cases e2
      exact ih h1 h2 hd
    | io e t m =>
      obtain ⟨r, io', vs', b, rb, e1, e2, e3, e4, e5, h1⟩ := h1
      obtain ⟨b2, vs2, cs, g1, g2, f1, f2, f3, h2⟩ := h2
      rw [e2] at f1; cases f1
      subst e1; subst f2
      simp only [noDup, Bool.and_eq_true, Bool.not_eq_true'] at hd
      have hr : r ∉ io' := by
        intro hm
        have := List.contains_iff_mem.2 hm
        rw [hd.1] at this; cases this
      obtain ⟨R2, q1, q2, q3, q4⟩ := ih h1 h2 hd.2
      refine ⟨fun j => if j = r then some ({ mem := some e, t := t, m := m, x := x.1, pin := b.pin }, ⟨rb.blk, cs, g1⟩) else R2 j, fun j hj => ?_, fun bs hb j => ?_, fun j hj => ?_, ?_⟩
      · simp only [List.mem_cons, not_or] at hj
        simp only [if_neg hj.1]; exact q1 j hj.2
      · show bget (bset r _ (outsB ps x.2 io' bs)) j = _
        rw [bget_bset]
        by_cases hj : j = r
        · have hbr : bget bs r = some b := by rw [hb r, e3]; rfl
          simp [hj, hbr]
        · simp only [if_neg hj]; exact q2 bs hb j
      · by_cases hjr : j = r
        · subst hjr
          exact ⟨{ mem := some e, t := t, m := m, x := x.1, pin := b.pin }, ⟨rb.blk, cs, g1⟩, b, rb, by simp, e3, rfl, e4.symm, e5.symm, f3⟩
        · rcases List.mem_cons.1 hj with hj | hj
          · exact absurd hj hjr
          · obtain ⟨b2, rb2, b3, rb3, s1, s2⟩ := q3 j hj
            exact ⟨b2, rb2, b3, rb3, by simp [hjr, s1], s2⟩
      · have e6 : ∀ l : List Nat, r ∉ l → ioFrag (fun j => if j = r then some ({ mem := some e, t := t, m := m, x := x.1, pin := b.pin }, ⟨rb.blk, cs, g1⟩) else R2 j) l = ioFrag R2 l := by
          intro l
          induction l with
          | nil => intro _; rfl
          | cons a l ihl =>
            intro hl
            simp only [List.mem_cons, not_or] at hl
            simp only [ioFrag, ihl hl.2]
            congr 1
            simp only [own, if_neg (Ne.symm hl.1)]
        simp only [ioFrag]
        rw [e6 io' hr]
        have : own (fun j => if j = r then some ({ mem := some e, t := t, m := m, x := x.1, pin := b.pin }, (⟨rb.blk, cs, g1⟩ : RB)) else R2 j) [] (r + 1) = (blkOf b rb, (cs.toArray, e)) :: g1 := by
          simp only [own, if_true]; rfl
        rw [this]
        exact List.Perm.cons _ (List.Perm.append_left _ q4)
theorem mem_ioFrag {k : Nat} : ∀ {l : List Nat}, k ∈ keys (ioFrag R l) ↔ ∃ r ∈ l, k ∈ keys (own R [] (r + 1))
  | [] => by simp [ioFrag, keys]
  | r :: l => by
    simp only [ioFrag, keys_append, List.mem_append, mem_ioFrag (l := l), List.mem_cons]
    constructor
    · rintro (h | ⟨s, h1, h2⟩)
      · exact ⟨r, .inl rfl, h⟩
      · exact ⟨s, .inr h1, h2⟩
    · rintro ⟨s, h1 | h1, h2⟩
      · subst h1; exact .inl h2
      · exact .inr ⟨s, h1, h2⟩
theorem ioFrag_nodup (h : Inv G st vs w Im R hand) : ∀ {l : List Nat}, noDup l = true → (keys (ioFrag R l)).Nodup
  | [], _ => List.nodup_nil
  | r :: l, hd => by
    simp only [noDup, Bool.and_eq_true, Bool.not_eq_true'] at hd
    simp only [ioFrag, keys_append]
    refine List.nodup_append.2 ⟨h.sep.nod (r + 1), ioFrag_nodup h hd.2, fun x hx y hy e => ?_⟩
    subst e
    obtain ⟨s, h1, h2⟩ := mem_ioFrag.1 hy
    have hne : r ≠ s := by
      rintro rfl
      have := List.contains_iff_mem.2 h1
      rw [hd.1] at this; cases this
    exact h.sep.sep (r + 1) (s + 1) (by simpa using hne) x hx h2
theorem nodup_parts : ∀ {l : List Nat} {i j : Nat} {k : Nat}, (keys (ioFrag R l)).Nodup → i ∈ l → j ∈ l → i ≠ j → k ∈ keys (own R [] (i + 1)) → k ∉ keys (own R [] (j + 1))
  | r :: l, i, j, k, hn, hi, hj, hne, h1, h2 => by
    simp only [ioFrag, keys_append] at hn
    obtain ⟨n1, n2, n3⟩ := List.nodup_append.1 hn
    rcases List.mem_cons.1 hi with e1 | hi' <;> rcases List.mem_cons.1 hj with e2 | hj'
    · exact hne (e1.trans e2.symm)
    · exact n3 k (e1 ▸ h1) k (mem_ioFrag.2 ⟨j, hj', h2⟩) rfl
    · exact n3 k (e2 ▸ h2) k (mem_ioFrag.2 ⟨i, hi', h1⟩) rfl
    · exact nodup_parts n2 hi' hj' hne h1 h2
theorem part_nodup : ∀ {l : List Nat} {i : Nat}, (keys (ioFrag R l)).Nodup → i ∈ l → (keys (own R [] (i + 1))).Nodup
  | r :: l, i, hn, hi => by
    simp only [ioFrag, keys_append] at hn
    obtain ⟨n1, n2, n3⟩ := List.nodup_append.1 hn
    rcases List.mem_cons.1 hi with rfl | hi
    · exact n1
    · exact part_nodup n2 hi
theorem ioFrag_mem {p : Nat × (Array Value × TypeId)} : ∀ {l : List Nat} {i : Nat}, i ∈ l → p ∈ own R [] (i + 1) → p ∈ ioFrag R l
  | r :: l, i, hi, hp => by
    simp only [ioFrag, List.mem_append]
    rcases List.mem_cons.1 hi with rfl | hi
    · exact .inl hp
    · exact .inr (ioFrag_mem hi hp)
/-- Behind the call. -/
theorem Inv.called (h : Inv G st vs w Im R hand) {io : List Nat} {ps : List PK} {us0 : List Value} (hio : IoOk R ps us0 io) (hdup : noDup io = true) {H : Frag} (hH : List.Perm H (hand ++ ioFrag R io)) {Imc ImN : Nat → Prop} (hImc : ∀ k, Im k → Imc k) (hdis : ∀ k ∈ keys H, ¬ Imc k)
    {x : OutT ps} {h1 h2 : Frag} (hheap : HeapOK w' (h1 ++ h2)) (hnod : (keys (h1 ++ h2)).Nodup) (hnew : ∀ k ∈ keys (h1 ++ h2), ¬ ImN k ∧ (w.heap.size ≤ k ∨ k ∈ keys H)) (hN : ∀ k, ImN k → k < w'.heap.size) (hkeep : Keep ⟨w, keys H, Imc⟩ w')
    (houts : OutsOk w' (fun k => Im k ∨ (ImN k ∧ (w.heap.size ≤ k ∨ k ∈ keys H))) ps x us0 h2) :
    ∃ R2, Inv G { slots := st.slots.map (forget (killIO io)), boxes := outsB ps x io st.boxes } vs w' (fun k => Im k ∨ (ImN k ∧ (w.heap.size ≤ k ∨ k ∈ keys H))) R2 h1 := by
  obtain ⟨R2, q1, q2, q3, q4⟩ := outs_real hio houts hdup
  have kH : ∀ k, k ∈ keys H ↔ k ∈ keys hand ∨ ∃ r ∈ io, k ∈ keys (own R [] (r + 1)) := fun k => by
    have := (hH.map (·.1)).mem_iff (a := k)
    rw [show H.map (·.1) = keys H from rfl, show (hand ++ ioFrag R io).map (·.1) = keys (hand ++ ioFrag R io) from rfl, keys_append, List.mem_append, mem_ioFrag] at this
    exact this
  have k2 : ∀ k, k ∈ keys h2 ↔ ∃ r ∈ io, k ∈ keys (own R2 [] (r + 1)) := fun k => by
    have := (q4.map (·.1)).mem_iff (a := k)
    rw [show h2.map (·.1) = keys h2 from rfl, show (ioFrag R2 io).map (·.1) = keys (ioFrag R2 io) from rfl, mem_ioFrag] at this
    exact this
  have n2 : (keys (ioFrag R2 io)).Nodup := by
    rw [keys_append] at hnod
    have q5 : List.Perm (keys h2) (keys (ioFrag R2 io)) := q4.map _
    exact q5.nodup_iff.1 (List.nodup_append.1 hnod).2.1
  -- what was not handed over stays
  have stay : ∀ j, j ∉ io → own R2 [] (j + 1) = own R [] (j + 1) := fun j hj => by simp only [own, q1 j hj]
  have old : ∀ j, j ∉ io → ∀ k ∈ keys (own R [] (j + 1)), k < w.heap.size ∧ k ∉ keys H := fun j hj k hk => by
    refine ⟨h.sep.lt (i := j + 1) hk, fun hm => ?_⟩
    rcases (kH k).1 hm with hm | ⟨r, hr, hm⟩
    · exact h.sep.sep (j + 1) 0 (by simp) k hk hm
    · exact h.sep.sep (j + 1) (r + 1) (by rintro e; have e : j = r := by simpa using e
                                          subst e; exact hj hr) k hk hm
  have same : ∀ k, k < w.heap.size → k ∉ keys H → w'.heap[k]? = w.heap[k]? := hkeep.block
  have g : Grow w w' Im (fun k => Im k ∨ (ImN k ∧ (w.heap.size ≤ k ∨ k ∈ keys H))) := ⟨fun _ h => .inl h, fun k hk => same k (h.sep.imlt k hk) (fun hm => hdis k hm (hImc k hk))⟩
  have newk : ∀ k, k ∈ keys h1 ∨ k ∈ keys h2 → k ∈ keys (h1 ++ h2) := fun k hk => by rw [keys_append]; exact List.mem_append.2 hk
  have hfresh : ∀ k, (w.heap.size ≤ k ∨ k ∈ keys H) → G.w0.heap.size ≤ k ∨ k ∈ G.ks := fun k hk => by
    rcases hk with hk | hk
    · exact .inl (Nat.le_trans h.keep.size hk)
    · rcases (kH k).1 hk with hk | ⟨r, _, hk⟩
      · exact h.sep.fresh 0 k hk
      · exact h.sep.fresh (r + 1) k hk
  -- each owner's keys: of the results, of a box that came back, of another
  have cls : ∀ j, ∀ k ∈ keys (own R2 h1 j), (j = 0 ∧ k ∈ keys h1) ∨ (∃ i, j = i + 1 ∧ i ∈ io ∧ k ∈ keys h2 ∧ k ∈ keys (own R2 [] (i + 1))) ∨ (∃ i, j = i + 1 ∧ i ∉ io ∧ k ∈ keys (own R [] (i + 1))) := by
    intro j k hk
    cases j with
    | zero => exact .inl ⟨rfl, hk⟩
    | succ i =>
      have hk : k ∈ keys (own R2 [] (i + 1)) := hk
      by_cases hi : i ∈ io
      · exact .inr (.inl ⟨i, rfl, hi, (k2 k).2 ⟨i, hi, hk⟩, hk⟩)
      · exact .inr (.inr ⟨i, rfl, hi, by rw [← stay i hi]; exact hk⟩)
  have isnew : ∀ k, k ∈ keys (h1 ++ h2) → ∀ i, i ∉ io → k ∉ keys (own R [] (i + 1)) := fun k hk i hi hk2 => by
    obtain ⟨o1, o2⟩ := old i hi k hk2
    rcases (hnew k hk).2 with h | h
    · omega
    · exact o2 h
  have hsv := h.sv g (R' := R2) (p := killIO io) (fun r => by
    by_cases hr : r ∈ io
    · refine .inr ⟨fun q v hp => ?_, fun q lo n v hp => ?_, fun q v hp hh => ?_⟩
      · have := List.contains_iff_mem.2 hr; simp [killIO, hr] at hp
      · simp [killIO, hr] at hp
      · have hp : lev q = 0 := by simpa [killIO, hr] using hp
        obtain ⟨b2, rb2, b, rb, s1, s2, s3, s4, s5, s6⟩ := q3 r hr
        intro b3 rb3 hb3
        rw [s1] at hb3; cases hb3
        obtain ⟨hv, cs, b', o', hn, e⟩ := hh b rb s2
        have hv2 : Valid b2.t b2.x b2.m q := by
          have key : ∀ (t : Ty), t = b.t → ∀ (x : den t) (m : Md), Valid t x m q := by
            intro t ht x m; subst ht; exact valid0 q hp hv
          exact key b2.t s5 b2.x b2.m
        obtain ⟨c', hn2⟩ := nav0 (w' := w') (cs' := rb2.cs) q hp hv hn
        refine ⟨hv2, c', b', o', ?_, e⟩
        have hloc : locOf b2 rb2 = locOf b rb := by unfold locOf; rw [s4, s3]
        rw [hloc, s5]; exact hn2
    · refine .inl ⟨q1 r hr, fun b rb hb k hk => ?_⟩
      have hk2 : k ∈ keys (own R [] (r + 1)) := by
        rw [own_at hb]; obtain ⟨p, hp, e⟩ := keys_mem.1 hk; exact keys_mem.2 ⟨p, fragOf_sub p hp, e⟩
      obtain ⟨o1, o2⟩ := old r hr k hk2
      exact same k o1 o2)
  refine ⟨R2, q2 st.boxes h.box, fun j b rb hb => ?_, ⟨fun j => ?_, fun i j hij k hi hj => ?_, fun j p hp => ?_, fun j k hk => ?_, fun j k hk => ?_, fun k hk => ?_, fun k hk => ?_⟩, fun n => ?_, ?_, ?_⟩
  · by_cases hj : j ∈ io
    · obtain ⟨b2, rb2, b', rb', s1, _, _, _, _, s6⟩ := q3 j hj
      rw [s1] at hb; cases hb; exact s6
    · rw [q1 j hj] at hb
      exact (h.rep j b rb hb).grow g
  · cases j with
    | zero => rw [keys_append] at hnod; exact (List.nodup_append.1 hnod).1
    | succ i =>
      show (keys (own R2 [] (i + 1))).Nodup
      by_cases hi : i ∈ io
      · exact part_nodup n2 hi
      · rw [stay i hi]; exact h.sep.nod (i + 1)
  · rw [keys_append] at hnod
    have dj := (List.nodup_append.1 hnod).2.2
    rcases cls i k hi with ⟨e1, a1⟩ | ⟨i1, e1, b1, a1, c1⟩ | ⟨i1, e1, b1, a1⟩ <;> rcases cls j k hj with ⟨e2, a2⟩ | ⟨i2, e2, b2, a2, c2⟩ | ⟨i2, e2, b2, a2⟩
    · exact hij (e1.trans e2.symm)
    · exact dj k a1 k a2 rfl
    · exact isnew k (newk k (.inl a1)) i2 b2 a2
    · exact dj k a2 k a1 rfl
    · exact nodup_parts n2 b1 b2 (by rintro rfl; exact hij (e1.trans e2.symm)) c1 c2
    · exact isnew k (newk k (.inr a1)) i2 b2 a2
    · exact isnew k (newk k (.inl a2)) i1 b1 a1
    · exact isnew k (newk k (.inr a2)) i1 b1 a1
    · exact h.sep.sep (i1 + 1) (i2 + 1) (by rintro e; exact hij (by rw [e1, e2]; exact e)) k a1 a2
  · cases j with
    | zero => exact hheap p (List.mem_append_left _ hp)
    | succ i =>
      have hp : p ∈ own R2 [] (i + 1) := hp
      by_cases hi : i ∈ io
      · exact hheap p (List.mem_append_right _ (q4.mem_iff.2 (ioFrag_mem hi hp)))
      · rw [stay i hi] at hp
        obtain ⟨o1, o2⟩ := old i hi p.1 (keys_mem.2 ⟨p, hp, rfl⟩)
        rw [same p.1 o1 o2]; exact h.sep.heap (i + 1) p hp
  · have new : k ∈ keys (h1 ++ h2) → ¬ (Im k ∨ (ImN k ∧ (w.heap.size ≤ k ∨ k ∈ keys H))) := fun hm => by
      obtain ⟨m1, m2⟩ := hnew k hm
      rintro (h3 | h3)
      · rcases m2 with m2 | m2
        · have := h.sep.imlt k h3; omega
        · exact hdis k m2 (hImc k h3)
      · exact m1 h3.1
    rcases cls j k hk with ⟨_, a1⟩ | ⟨i1, _, _, a1, _⟩ | ⟨i1, e1, b1, a1⟩
    · exact new (newk k (.inl a1))
    · exact new (newk k (.inr a1))
    · obtain ⟨o1, o2⟩ := old i1 b1 k a1
      rintro (h3 | h3)
      · exact h.sep.im (i1 + 1) k a1 h3
      · rcases h3.2 with h4 | h4
        · omega
        · exact o2 h4
  · rcases cls j k hk with ⟨_, a1⟩ | ⟨i1, _, _, a1, _⟩ | ⟨i1, e1, b1, a1⟩
    · exact hfresh k (hnew k (newk k (.inl a1))).2
    · exact hfresh k (hnew k (newk k (.inr a1))).2
    · exact h.sep.fresh (i1 + 1) k a1
  · rcases hk with hk | hk
    · exact Nat.lt_of_lt_of_le (h.sep.imlt k hk) hkeep.size
    · exact hN k hk.1
  · rcases hk with hk | hk
    · exact h.sep.imok k hk
    · exact .inr (hfresh k hk.2)
  · rw [sget_map]; exact hsv.2 (h.slots n)
  · rw [List.length_map]; exact h.len
  · refine ⟨hkeep.os.trans h.keep.os, hkeep.tape.trans h.keep.tape, hkeep.output.trans h.keep.output, Nat.le_trans h.keep.size hkeep.size, fun b hb hn => ?_⟩
    rw [same b (Nat.lt_of_lt_of_le hb h.keep.size) (fun hm => ?_)]
    · exact h.keep.block b hb hn
    · rcases hfresh b (.inr hm) with h5 | h5
      · omega
      · exact hn h5
end
end Go.Proofs.Ytlgbhaigpecdoaa.V
