/- The copy of a row into another. -/
import Derived.Test.YtlgbhaigpecdoaaVNil
import Derived.Laws.CopyRow
set_option linter.unusedVariables false
set_option linter.unusedSimpArgs false
namespace Go.Proofs.Ytlgbhaigpecdoaa.V
open Go

section
variable {P : Program} {G : Gl} {I0 : Nat → Prop} {st st1 : St} {a : Act} {vs : Array Value} {w w' : World} {Im Im' : Nat → Prop} {R R' : Real} {hand hand' : Frag} {o : Oper} {T : Type} {K : St → Option T} {r0 : T} {Q : Exit → Act → World → Prop} {E : Env}
theorem look_ne0 {s : SV} {bs : List (Nat × Bx)} {t : Ty} {K : den t → Option T} (hk : look bs s t K = some r0) : s ≠ .undef ∧ s ≠ .tnil ∧ ∀ a b, s ≠ .tcons a b := by
  refine ⟨?_, ?_, ?_⟩
  · intro h; rw [h] at hk; simp [look] at hk
  · intro h; rw [h] at hk; simp [look] at hk
  · intro a b h; rw [h] at hk; simp [look] at hk
/-- Cells of which a part is overwritten hold the row of which that part is overwritten. -/
theorem spl_rows {t : Ty} {m : Md} (hs : sz t = 1) {f : den t → List Value → Frag → Prop} (hn : ∀ x c h, f x c h → c.length = 1) {xs ys : List (den t)} {c d : List Value} {lo k : Nat} (h1 : RepL f xs c []) (h2 : RepL f ys d []) (hk : k ≤ ys.length) (hlo : lo + k ≤ xs.length) (hc : xs.length ≤ c.length) :
    RepL f (spl xs lo k ys) (c.take lo ++ d.take k ++ c.drop (lo + k)) [] := by
  have hd : ys.length ≤ d.length := by have := h2.len hn; omega
  obtain ⟨a1, a2, e1, s1, s2⟩ := RepL.split hn (lo + k) h1 hlo
  obtain ⟨b1, b2, e2, t1, t2⟩ := RepL.split hn lo s1 (by rw [List.length_take]; omega)
  obtain ⟨d1, d2, e3, u1, u2⟩ := RepL.split hn k h2 hk
  have z1 : a1 = [] ∧ a2 = [] := by simpa using e1.symm
  have z3 : d1 = [] ∧ d2 = [] := by simpa using e3.symm
  have z2 : b1 = [] ∧ b2 = [] := by rw [z1.1] at e2; simpa using e2.symm
  rw [z2.1] at t1
  rw [z3.1] at u1
  rw [z1.2] at s2
  have ex : (xs.take (lo + k)).take lo = xs.take lo := by rw [List.take_take, Nat.min_eq_left (by omega)]
  rw [ex] at t1
  have l1 : (xs.take lo).length = lo := by rw [List.length_take]; omega
  have l2 : (ys.take k).length = k := by rw [List.length_take]; omega
  have l3 : (c.take lo).length = lo := by rw [List.length_take]; omega
  have l4 : (d.take k).length = k := by rw [List.length_take]; omega
  have p1 : RepL f (xs.take lo ++ ys.take k) (c.take lo ++ d.take k ++ c.drop (lo + k)) [] := by
    refine RepL.app (n := 1) (h := []) (k := []) hn t1 ?_ ?_
    · rw [l1, Nat.mul_one, List.append_assoc, List.drop_append_of_le_length (by omega), List.drop_of_length_le (by omega), List.nil_append]
      refine u1.cut hn ?_
      rw [l2, Nat.mul_one, List.take_append_of_le_length (by omega), List.take_take, Nat.min_self]
    · rw [l1, Nat.mul_one, List.append_assoc, List.take_append_of_le_length (by omega), List.take_take, Nat.min_self]
  unfold spl
  refine RepL.app (n := 1) (h := []) (k := []) hn p1 ?_ rfl
  rw [List.length_append, l1, l2, Nat.mul_one]
  have : (c.take lo ++ d.take k ++ c.drop (lo + k)).drop (lo + k) = c.drop (lo + k) := by
    rw [List.drop_append_of_le_length (by rw [List.length_append]; omega), List.drop_of_length_le (by rw [List.length_append]; omega), List.nil_append]
  rw [this]
  simpa using s2
theorem copyB_some (hE : EnvOk P E) (hd : a.defers = []) (hI : ∀ b, I0 b → Im b) (h : Inv G st a.tmps w Im R []) {cl : Call} (ho : o.op = .call cl) (hc : cl.callee = .builtin .copy) {x y : Operand} (harg : cl.args = #[x, y]) {t u e e2 : TypeId} (hty : cl.argTypes = #[t, u])
    (hu : P.underlying t = some (.slice e)) {ee : TE} (hee : E.get e = some ee) {r lo : Nat} {nn : Option Nat}
    (hdst : ∀ b rb, R r = some (b, rb) → (∃ m, b.m = .own m) → ∃ hd len cap A dl dc, rb.cs = [.slice hd len cap] ∧ a.eval x = .slice A dl dc ∧ (∀ t', b.t = .slc t' → sz t' = 1 → lo + dl ≤ len ∧ (0 < dl → A = hd.map fun a => a.add lo)) ∧ dl = nn.getD len)
    (hk : copyB st r lo nn ee (st.ev y) (fun k st => K (st.set o.dst (.con (.int .i64) (k : Nat)))) = some r0) : o.wp P a w (Post G I0 K r0) Q := by
  unfold copyB at hk
  split at hk
  · rename_i b hb
    obtain ⟨rb, hr⟩ := h.real hb
    split at hk
    · rename_i hbt
      split at hk
      · rename_i hcond
        obtain ⟨hmem, hrow, hfl, hsz, hag⟩ := hcond
        -- what is copied
        have hne := look_ne0 hk
        obtain ⟨cs2, e1, hy⟩ := (CV.of (h.ev y)) hne.1 hne.2.1 hne.2.2
        rw [if_neg (by simp [hag])] at e1
        subst e1
        obtain ⟨ys, hk, hrep2⟩ := look_some h hk hy
        obtain ⟨_, A2, cap2, ey, hc2, hys⟩ := hrep2
        simp only [List.cons.injEq, and_true] at ey
        -- where it goes
        obtain ⟨mem, ty, md, bx, pin⟩ := b
        dsimp only at hbt hmem hrow hk
        subst hbt
        have hrepb : Rep w Im (.slc ee.ty) md bx rb.cs rb.h := h.rep r _ rb hr
        cases md with
        | own m =>
          obtain ⟨hdr, len, cap, A, dl, dc, ecs, ex, hA, hdl⟩ := hdst _ rb hr ⟨m, rfl⟩
          split at hk
          · rename_i hpos
            obtain ⟨hp1, hp2⟩ := hpos
            rcases hrepb with ⟨hx0, ⟨A0, ecs0⟩, eh0⟩ | ⟨bk, off, c, el, cap', h', ecs0, eh, hcap, hmax, hfit, hrows⟩
            · rw [ecs] at ecs0
              simp only [List.cons.injEq, and_true, Value.slice.injEq] at ecs0
              exfalso
              obtain ⟨_, hl, _⟩ := ecs0
              have h2 := (hA ee.ty rfl hsz).1
              have e0 : List.length bx = 0 := by rw [hx0]; rfl
              have hp2 : 0 < nn.getD (List.length bx) := hp2
              rw [e0] at hp2
              rw [hl] at hdl h2
              omega
            · rw [ecs] at ecs0
              simp only [List.cons.injEq, and_true, Value.slice.injEq] at ecs0
              obtain ⟨rfl, rfl, rfl⟩ := ecs0
              have hp2 : 0 < nn.getD (List.length bx) := hp2
              rw [← hdl] at hp2
              have hk : K (({ slots := st.slots.map (kill1 r), boxes := bset r { mem := mem, t := .slc ee.ty, m := .own m, x := spl bx lo (min (List.length ys) (nn.getD (List.length bx))) ys, pin := pin } st.boxes } : St).set o.dst (.con (.int .i64) ((min (List.length ys) (nn.getD (List.length bx)) : Nat) : Int))) = some r0 := hk
              rw [← hdl] at hk
              obtain ⟨hle, hAA⟩ := hA ee.ty rfl hsz
              have hAA := hAA hp2
              obtain ⟨b2, o2, c2, el2, fz2, eA2, _, hh2, hrows2⟩ := hys (by intro h0; rw [h0] at hp1; simp at hp1)
              obtain ⟨eh', hrowsF⟩ := flat_rows (w' := w) (Im' := Im) (m' := m) hfl hrows
              subst eh'
              have hnn : ∀ (w : World) (Im : Nat → Prop) (x : den ee.ty) (c : List Value) (h : Frag), Rep w Im ee.ty m x c h → c.length = 1 := fun _ _ _ _ _ r => by rw [r.len, hsz]
              have hl2 : ys.length ≤ (c2.toList.drop o2).length := by
                have := hrows2.len (n := 1) (fun _ _ _ r => by rw [r.len, hsz]); omega
              have hl1 : bx.length ≤ (c.toList.drop off).length := by
                have := hrowsF.len (n := 1) (hnn w Im); omega
              have hk0 : w.heap[bk]? = some (.cells c el (0, 0)) := h.heapOK hr (bk, (c, el)) (fragOf_sub _ (by rw [eh]; exact List.mem_cons_self ..))
              generalize hkk : min ys.length dl = k at hk
              have hk1 : k ≤ ys.length := by omega
              have hk2 : k ≤ dl := by omega
              have hk3 : 0 < k := by omega
              have hcsl : ((c2.toList.drop o2).take k).length = k := by rw [List.length_take]; omega
              have hi1 : (P.info? e).map (·.size) = some 1 := by
                obtain ⟨⟨i, hi⟩, _⟩ := hE e ee hee
                rw [hi.info]; simp [hi.size, hsz]
              have ecN : (c.toList.drop off).length = c.size - off := by simp
              have hrun := run_copy_row (P := P) w t u o.type e bk (off + lo) dl dc ⟨b2, o2, none⟩ ys.length cap2 c el ((c2.toList.drop o2).take k) hu hi1 hk0 (by rw [hcsl, ← hkk]) (fun j v hj => by
                have hj2 : j < k := by
                  have := (List.getElem?_eq_some_iff.1 hj).1
                  rw [hcsl] at this; exact this
                rw [List.getElem?_take_of_lt hj2, List.getElem?_drop] at hj
                rw [add_at]
                simp only [World.cell?, hh2]
                simpa using hj) (by rw [hcsl]; rw [ecN] at hl1; omega) (by
                have hall := hrows2.all (p := fun v => v.oneCell' = true) (n := 1) (fun _ _ _ r => r.one) (fun _ _ _ r => by rw [r.len, hsz])
                intro v hv
                exact hall v (by rw [Nat.mul_one]; exact List.take_subset_take_left _ hk1 hv))
              rw [hcsl] at hrun
              have eAdr : A = some ⟨bk, off + lo, none⟩ := by rw [hAA]; simp [add_at]
              have hex : (execOp a.eval o).run P w = .ok (.value (.int .i64 (k : Int))) (w.setRow bk (c.toList.take (off + lo) ++ (c2.toList.drop o2).take k ++ c.toList.drop (off + lo + k)).toArray) := by
                simp [execOp, ho, resolve, invoke, builtin, hc, harg, hty, ex, ey, eAdr, eA2, hrun, Result.andThen, goInt]
              -- the new box
              have hnoIm : ¬ Im bk := h.sep.im (r + 1) bk (by rw [own_at hr]; exact keys_mem.2 ⟨_, fragOf_sub _ (by rw [eh]; exact List.mem_cons_self ..), rfl⟩)
              have hnewc : (c.toList.take (off + lo) ++ (c2.toList.drop o2).take k ++ c.toList.drop (off + lo + k)).drop off = (c.toList.drop off).take lo ++ (c2.toList.drop o2).take k ++ (c.toList.drop off).drop (lo + k) := by
                rw [List.append_assoc, List.drop_append_of_le_length (by rw [List.length_take]; rw [ecN] at hl1; simp; omega), List.drop_take, Nat.add_sub_cancel_left, List.drop_drop, List.append_assoc, Nat.add_assoc]
              have hnewR : ∀ (w1 : World), Rep w1 Im (.slc ee.ty) (.own m) (spl bx lo k ys) [.slice (some ⟨bk, off, none⟩) bx.length cap] [(bk, ((c.toList.take (off + lo) ++ (c2.toList.drop o2).take k ++ c.toList.drop (off + lo + k)).toArray, el))] := by
                intro w1
                have hlen : (spl bx lo k ys).length = bx.length := by
                  unfold spl
                  simp only [List.length_append, List.length_take, List.length_drop]
                  omega
                refine .inr ⟨bk, off, _, el, cap, [], by rw [hlen], rfl, by rw [hlen]; exact hcap, hmax, ?_, ?_⟩
                · simp only [List.size_toArray, List.length_append, List.length_take, List.length_drop, Array.length_toList]
                  rw [ecN] at hl1
                  simp only [List.length_drop, Array.length_toList] at hl2
                  omega
                · simp only [List.toList_toArray]
                  rw [hnewc]
                  exact spl_rows (m := m) hsz (hnn w1 Im) (flat_rows (w' := w1) (Im' := Im) (m' := m) hfl hrowsF).2 (flat_rows (w' := w1) (Im' := Im) (m' := m) hfl hrows2).2 hk1 (by omega) hl1
              have hfr0 : fragOf ({ mem := mem, t := .slc ee.ty, m := .own m, x := bx, pin := pin } : Bx) rb = rb.h := by
                cases mem with
                | none => rfl
                | some _ => simp at hmem
              have hch := Inv.change (hand := []) (hand' := []) (st' := { slots := st.slots.map (kill1 r), boxes := bset r { mem := mem, t := .slc ee.ty, m := .own m, x := spl bx lo k ys, pin := pin } st.boxes }) (p := fun _ s q => decide (s = r) && !decide (lev q = 0)) (bN := { mem := mem, t := .slc ee.ty, m := .own m, x := spl bx lo k ys, pin := pin }) (rbN := { rb with h := [(bk, ((c.toList.take (off + lo) ++ (c2.toList.drop o2).take k ++ c.toList.drop (off + lo + k)).toArray, el))] })
                h hr (k0 := bk) (c0 := c) (cN := (c.toList.take (off + lo) ++ (c2.toList.drop o2).take k ++ c.toList.drop (off + lo + k)).toArray) (e0 := el) (by rw [hfr0, eh]; exact List.mem_cons_self ..)
                (fun p hp => by
                  have : fragOf ({ mem := mem, t := .slc ee.ty, m := .own m, x := spl bx lo k ys, pin := pin } : Bx) { rb with h := [(bk, ((c.toList.take (off + lo) ++ (c2.toList.drop o2).take k ++ c.toList.drop (off + lo + k)).toArray, el))] } = [(bk, ((c.toList.take (off + lo) ++ (c2.toList.drop o2).take k ++ c.toList.drop (off + lo + k)).toArray, el))] := by
                    cases mem with
                    | none => rfl
                    | some _ => simp at hmem
                  rw [this] at hp
                  exact .inr (.inr (List.mem_singleton.1 hp)))
                (by
                  have : fragOf ({ mem := mem, t := .slc ee.ty, m := .own m, x := spl bx lo k ys, pin := pin } : Bx) { rb with h := [(bk, ((c.toList.take (off + lo) ++ (c2.toList.drop o2).take k ++ c.toList.drop (off + lo + k)).toArray, el))] } = [(bk, ((c.toList.take (off + lo) ++ (c2.toList.drop o2).take k ++ c.toList.drop (off + lo + k)).toArray, el))] := by
                    cases mem with
                    | none => rfl
                    | some _ => simp at hmem
                  rw [this]; simp [keys])
                (by rw [show rb.cs = [.slice (some ⟨bk, off, none⟩) bx.length cap] from ecs]; exact hnewR _)
                (fun j => by rw [bget_bset]) rfl
                ⟨fun q v hp hh => by
                    have h0 : lev q = 0 := by simpa using hp
                    intro bb rbb hbb
                    simp only [if_true] at hbb; cases hbb
                    obtain ⟨hv, ht', ad, hn⟩ := hh _ rb hr
                    cases q with
                    | nil => exact ⟨trivial, ⟨_, rfl⟩, ad, hn⟩
                    | cons s q => cases s <;> simp [Valid, VStep, lev] at hv h0,
                  fun q lo' n' v hp ⟨u', hh, hsub⟩ => by
                    have h0 : lev q = 0 := by simpa using hp
                    have h00 := hh
                    refine ⟨u', ?_, ?_⟩
                    · intro bb rbb hbb
                      simp only [if_true] at hbb; cases hbb
                      obtain ⟨hv, ht', ad, hn⟩ := hh _ rb hr
                      cases q with
                      | nil => exact ⟨trivial, ⟨_, rfl⟩, ad, hn⟩
                      | cons s q => cases s <;> simp [Valid, VStep, lev] at hv h0
                    · intro bb rbb hbb
                      simp only [if_true] at hbb; cases hbb
                      have := hsub _ rb hr
                      cases q with
                      | nil => exact this
                      | cons s q =>
                        obtain ⟨hv, _⟩ := h00 _ rb hr
                        cases s <;> simp [Valid, VStep, lev] at hv h0,
                  fun q v hp hh => by
                    have h0 : lev q = 0 := by simpa using hp
                    intro bb rbb hbb
                    simp only [if_true] at hbb; cases hbb
                    obtain ⟨hv, cs3, b3, o3, hn, e3⟩ := hh _ rb hr
                    cases q with
                    | nil =>
                      refine ⟨trivial, cs3, b3, o3, ?_, e3⟩
                      simp only [nav] at hn ⊢
                      rw [← hn]
                      unfold locOf
                      cases mem with
                      | none => rfl
                      | some _ => simp at hmem
                    | cons s q => cases s <;> simp [Valid, VStep, lev] at hv h0⟩
              exact wp_to hex hd hI hch (.ofInt _ _) hk
          · cases hk
        | ro => simp [copyB.isRow] at hrow
        | dead => simp [copyB.isRow] at hrow
        | pair _ _ => simp [copyB.isRow] at hrow
      · cases hk
    · cases hk
  · cases hk
theorem step_copy (hE : EnvOk P E) (hd : a.defers = []) (hI : ∀ b, I0 b → Im b) (h : Inv G st a.tmps w Im R []) {cl : Call} (ho : o.op = .call cl) (hc : cl.callee = .builtin .copy) {x y : Operand} (harg : cl.args = #[x, y]) {t u e e2 : TypeId} (hty : cl.argTypes = #[t, u])
    (hu : P.underlying t = some (.slice e)) {ee : TE} (hee : E.get e = some ee)
    (hk : copyS st ee (st.ev x) (st.ev y) (fun k st => K (st.set o.dst (.con (.int .i64) (k : Nat)))) = some r0) : o.wp P a w (Post G I0 K r0) Q := by
  unfold copyS at hk
  split at hk
  · rename_i r hx
    obtain ⟨v, ev, hv⟩ := (hx ▸ h.ev x : SVV w Im R (.ref r []) (a.eval x)).cell (by simp) (by simp) (by simp) rfl
    refine copyB_some (e2 := e2) hE hd hI h ho hc harg hty hu hee ?_ hk
    intro b rb hr hm
    obtain ⟨_, ⟨t', ht⟩, ad, hn⟩ := hv b rb hr
    simp only [List.cons.injEq, and_true] at ev
    subst ev
    simp only [nav, Option.some.injEq, Prod.mk.injEq] at hn
    have hrep := h.rep r _ rb hr
    obtain ⟨mem, ty, md, bx, pin⟩ := b
    obtain ⟨m, hm⟩ := hm
    dsimp only at hm hrep ht hn
    have ht : ty = .slc t' := ht
    subst ht
    subst hm
    rcases hrep with ⟨_, ⟨A0, ecs0⟩, _⟩ | ⟨bk, off, c, el, cap', h', ecs0, _⟩
    · rw [hn.1] at ecs0
      simp only [List.cons.injEq, and_true] at ecs0
      exact ⟨A0, 0, 0, A0, 0, 0, by rw [hn.1, ecs0], ecs0, fun t'' e1 e2 => ⟨Nat.le_refl _, fun h0 => absurd h0 (by omega)⟩, rfl⟩
    · rw [hn.1] at ecs0
      simp only [List.cons.injEq, and_true] at ecs0
      exact ⟨some ⟨bk, off, none⟩, bx.length, cap', some ⟨bk, off, none⟩, bx.length, cap', by rw [hn.1, ecs0], ecs0, fun t'' e1 e2 => ⟨by omega, fun h0 => by simp [add_at]⟩, rfl⟩
  · rename_i r lo n hx
    obtain ⟨v, ev, hv⟩ := (hx ▸ h.ev x : SVV w Im R (.sub r [] lo n) (a.eval x)).cell (by simp) (by simp) (by simp) rfl
    refine copyB_some (e2 := e2) hE hd hI h ho hc harg hty hu hee ?_ hk
    intro b rb hr hm
    simp only [List.cons.injEq, and_true] at ev
    subst ev
    obtain ⟨u, hu1, hu2⟩ := hv
    obtain ⟨_, _, ad, hn⟩ := hu1 b rb hr
    obtain ⟨t', A, len, cap, A', cap', ht, eu, evv, l1, l2, l3, hA⟩ := hu2 b rb hr
    simp only [nav, Option.some.injEq, Prod.mk.injEq] at hn
    have ht : b.t = .slc t' := ht
    refine ⟨A, len, cap, A', n, cap', by rw [hn.1, eu], evv, fun t'' e1 e2 => ⟨l1, fun h0 => ?_⟩, rfl⟩
    rw [ht] at e1
    cases e1
    rw [hA (by omega), e2, Nat.mul_one]
  · cases hk
end
end Go.Proofs.Ytlgbhaigpecdoaa.V
