/- The store, as an operation; boxes. -/
import Derived.Test.YtlgbhaigpecdoaaVStore
set_option linter.unusedVariables false
set_option linter.unusedSimpArgs false
namespace Go.Proofs.Ytlgbhaigpecdoaa.V
open Go

theorem cells_of {s : SV} {v : Value} {cs : List Value} (h : if isAgg s = true then v = .agg cs.toArray else cs = [v]) (h1 : ∀ u ∈ cs, u.oneCell' = true) : v.cells.toList = cs := by
  split at h
  · subst h; simp [Value.cells]
  · subst h
    have := h1 v (List.mem_cons_self ..)
    cases v <;> simp_all [Value.cells, Value.oneCell']
section
variable {P : Program} {G : Gl} {I0 : Nat → Prop} {st st1 : St} {a : Act} {vs : Array Value} {w w' : World} {Im : Nat → Prop} {R : Real} {hand hand' : Frag} {o : Oper} {T : Type} {K : St → Option T} {r0 : T} {Q : Exit → Act → World → Prop} {E : Env}
theorem toC_ne {st : St} {s : SV} {t : Ty} {m : Md} {K : den t → Md → St → Option T} (h : toC st s t m K = some r0) : s ≠ .undef ∧ s ≠ .tnil ∧ ∀ a b, s ≠ .tcons a b := by
  refine ⟨?_, ?_, ?_⟩
  · rintro rfl; cases t <;> simp [toC] at h
  · rintro rfl; cases t <;> simp [toC] at h
  · rintro a b rfl; cases t <;> simp [toC] at h
theorem toC_val {s : SV} {v : Value} {t : Ty} {wm : Md} {K : den t → Md → St → Option T} (hk : toC st s t wm K = some r0) (h : Inv G st vs w Im R hand) (hs : SVV w Im R s v) :
    ∃ cs x m st' Im' R' h1, (if isAgg s = true then v = .agg cs.toArray else cs = [v]) ∧ v.cells.toList = cs ∧ K x m st' = some r0 ∧ Inv G st' vs w Im' R' (hand ++ h1) ∧ Rep w Im' t m x cs h1 ∧ Grow w w Im Im' ∧
      (∀ {s : SV} {c : List Value}, SVX w Im R s false c → SVX w Im' R' (shallow s) false c) ∧ (∀ j, j ∉ roots s → R' j = R j) := by
  obtain ⟨n1, n2, n3⟩ := toC_ne hk
  obtain ⟨cs, e, hx⟩ := hs.cells n1 n2 n3
  obtain ⟨x, m, st', Im', R', h1, k1, k2, k3, k4, k5, k6⟩ := toC_some hk h hx
  exact ⟨cs, x, m, st', Im', R', h1, e, cells_of e k3.one, k1, k2, k3, k4, k5, k6⟩
theorem run_storeAt (hE : EnvOk P E) {tid : TypeId} {te : TE} (ht : E.get tid = some te) {b o : Nat} {cur : Array Value} {e : TypeId} (hh : w.heap[b]? = some (.cells cur e (0, 0))) {v : Value} {cs : List Value} (hv : v.cells.toList = cs) (hl : cs.length = sz te.ty)
    (h1 : ∀ u ∈ cs, u.oneCell' = true) (hb : o + cs.length ≤ cur.size) :
    (Instr.storeAt tid (.pointer (some ⟨b, o, none⟩)) v).run P w = .ok () (w.setRow b (cur.toList.take o ++ cs ++ cur.toList.drop (o + cs.length)).toArray) := by
  obtain ⟨⟨i, hi⟩, _⟩ := hE tid te ht
  have hs := run_storeCells_at P b o e cs 0 cur w hh (by simpa using hb) h1
  simp only [Nat.add_zero] at hs
  have hsz : v.cells.size = i.size := by rw [hi.size, ← hl, ← hv]; simp
  simp only [Instr.storeAt, Instr.sureAddr, Sem.run_bind, Sem.run_pure, Result.andThen_ok, storeVar, run_sizeOf_ok hi]
  rw [if_neg (by rw [hsz, hi.size]; simp), hv]
  exact hs
theorem step_store (hE : EnvOk P E) (hd : a.defers = []) (hI : ∀ b, I0 b → Im b) (h : Inv G st a.tmps w Im R []) {tid : TypeId} {x y : Operand} (ho : o.op = .store tid x y) {te : TE} (ht : E.get tid = some te)
    {c : Cx} (hk : storeS c st te.ty (st.ev x) (st.ev y) (fun st => K (st.set o.dst .tnil)) = some r0) : o.wp P a w (Post G I0 K r0) Q := by
  have hx := h.ev x
  have hy := h.ev y
  unfold storeS at hk
  split at hk
  · rename_i r q hxe
    rw [hxe] at hx
    obtain ⟨u, e1, hp⟩ := hx.cell (by simp) (by simp) (by simp) rfl
    simp at e1
    split at hk
    · rename_i b0 hb0
      split at hk
      · rename_i hroot
        obtain ⟨cs, y', m, st', Im', R', h1, c1, c2, hk, hi, hrep, g, hsv, hq⟩ := toC_val (r0 := r0) hk h hy
        split at hk
        · rename_i b hb
          -- the pointer still leads there
          have hp' : PtrOK w R' r q u := by
            by_cases hr : r ∈ roots (st.ev y)
            · rcases hroot with h0 | h0
              · obtain ⟨v2, e2, hp2⟩ := hsv (s := .ptr r q) ⟨u, rfl, hp⟩ |> fun hh => by
                  have : shallow (.ptr r q) = .ptr r q := by simp [shallow, V.forget, h0]
                  rw [this] at hh; exact hh
                simp at e2; subst e2; exact hp2
              · exact absurd (List.contains_iff_mem.2 hr) (by rw [h0]; simp)
            · exact hp.same (hq r hr) (fun b rb hb => h.rep r b rb hb) (fun b rb hb p hp => h.heapOK hb p (fragOf_sub p hp)) (fun _ _ _ _ _ => rfl)
          obtain ⟨rb, hrr⟩ := hi.real hb
          obtain ⟨hv, cs0, b', off, hn, hu⟩ := hp' b rb hrr
          split at hk
          · rename_i hty
            have hrep' := hrep.cast hty.symm
            have hrun : ∀ cur e, w.heap[b']? = some (.cells cur e (0, 0)) → off + cs.length ≤ cur.size → (execOp a.eval o).run P w = .ok .skip (w.setRow b' (cur.toList.take off ++ cs ++ cur.toList.drop (off + cs.length)).toArray) := by
              intro cur e hh hle
              unfold execOp
              simp only [ho, e1, hu, Sem.run_bind, run_storeAt hE ht hh c2 hrep.len hrep.one hle, Result.andThen_ok]; rfl
            split at hk
            · rename_i h0
              split at hk
              · rename_i hf
                obtain ⟨cur, e, R2, k1, k2, k3⟩ := hi.place (fl := true) hrr hv hn hrep' (by rw [hty]; exact hf.symm) (by simp)
                have k3 := k3 { st' with boxes := bset r { b with x := cput b.t b.x q (hty ▸ y') } st'.boxes } (fun j => by
                  show bget (bset r _ st'.boxes) j = _
                  rw [bget_bset, if_neg (show ¬ (true = false ∧ _) by simp)]) (by rw [if_pos rfl])
                exact wp_skip_to (hrun cur e k1 k2) hd (fun b hb => g.im b (hI b hb)) k3 hk
              · rename_i hf
                obtain ⟨cur, e, R2, k1, k2, k3⟩ := hi.place (fl := false) hrr hv hn hrep' (by rw [hty]; simpa using hf) (fun _ hne => absurd h0 hne)
                have k3 := k3 (st'.turn r 0 { b with x := cput b.t b.x q (hty ▸ y'), m := mput b.m q m }) (fun j => by
                  show bget (bset r _ st'.boxes) j = _
                  rw [bget_bset, if_pos (show false = false ∧ lev q = 0 from ⟨rfl, h0⟩)]) (by rw [if_neg (by simp), h0]; rfl)
                exact wp_skip_to (hrun cur e k1 k2) hd (fun b hb => g.im b (hI b hb)) k3 hk
            · rename_i h0
              split at hk
              · rename_i hf
                obtain ⟨cur, e, R2, k1, k2, k3⟩ := hi.place (fl := true) hrr hv hn hrep' (by rw [hty]; exact hf.symm) (by simp)
                have k3 := k3 { st' with boxes := bset r { b with x := cput b.t b.x q (hty ▸ y') } st'.boxes } (fun j => by
                  show bget (bset r _ st'.boxes) j = _
                  rw [bget_bset, if_neg (show ¬ (true = false ∧ _) by simp)]) (by rw [if_pos rfl])
                exact wp_skip_to (hrun cur e k1 k2) hd (fun b hb => g.im b (hI b hb)) k3 hk
              · rename_i hf
                split at hk
                · rename_i hm
                  obtain ⟨cur, e, R2, k1, k2, k3⟩ := hi.place (fl := false) hrr hv hn (hrep'.same (n := mget b.m q) (by rw [hty]; exact hm)) (by rw [hty]; simpa using hf) (fun _ _ => rfl)
                  have k3 := k3 (st'.turn r (lev q) { b with x := cput b.t b.x q (hty ▸ y') }) (fun j => by
                    show bget (bset r _ st'.boxes) j = _
                    rw [bget_bset, if_neg (show ¬ (false = false ∧ lev q = 0) by simp [h0])]) (by rw [if_neg (by simp)]; rfl)
                  exact wp_skip_to (hrun cur e k1 k2) hd (fun b hb => g.im b (hI b hb)) k3 hk
                · cases hk
          · cases hk
        · cases hk
      · cases hk
    · cases hk
  · cases hk
theorem step_box (hE : EnvOk P E) (hd : a.defers = []) (hI : ∀ b, I0 b → Im b) (h : Inv G st a.tmps w Im R []) {e : TypeId} {x : Operand} (ho : o.op = .box e x) {te : TE} (ht : E.get e = some te) {d : Tmp} (hdst : o.dst = some d) {m : Md}
    (hk : toC st (st.ev x) te.ty m (fun x m st => K ((st.lay (d * 16) { mem := some e, t := te.ty, m := m, x := x }).set (some d) (.ptr (d * 16) []))) = some r0) : o.wp P a w (Post G I0 K r0) Q := by
  obtain ⟨cs, y', m, st', Im', R', h1, c1, c2, hk, hi, hrep, g, hsv, hq⟩ := toC_val (r0 := r0) hk h (h.ev x)
  have hrun : (execOp a.eval o).run P w = .ok (.value (.pointer (some ⟨w.heap.size, 0, none⟩))) (w.alloc (.cells (a.eval x).cells e)) := by
    unfold execOp
    simp [ho, Instr.box, newVar, newRow]
  have hi2 := hi.alloc (a.eval x).cells e
  have ec : (a.eval x).cells = cs.toArray := by rw [← c2]
  rw [ec] at hi2 hrun
  have hi3 := (hi2.perm (hand' := [] ++ ((w.heap.size, (cs.toArray, e)) :: h1)) (by simp))
  have gr : Grow w (w.alloc (.cells cs.toArray e)) Im' Im' := Grow.alloc (fun b hb => hi.sep.imlt b hb) _
  have h2 := hi3.lay (d * 16) (b := { mem := some e, t := te.ty, m := m, x := y' }) (rb := ⟨w.heap.size, cs, h1⟩) (hrep.grow gr) rfl
  rw [← hdst] at hk
  exact wp_to hrun hd (fun b hb => g.im b (hI b hb)) h2 (ptr_ok rfl R') hk
end
end Go.Proofs.Ytlgbhaigpecdoaa.V
