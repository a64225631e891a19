/- image.Copy, by hand: the rows are the copies' own. -/
import Derived.Test.YtmfjebpdkgbggaaVFnClone
import Derived.Test.YtmfjebpdkgbggaaVDrawI
set_option linter.unusedVariables false
set_option linter.unusedSimpArgs false
set_option maxRecDepth 100000
namespace Go.Proofs.Ytmfjebpdkgbggaa.V
open Go
abbrev DiskT : Ty := .pair (.int .i64) (.pair (.int .i64) (.pair (.slc (.slc (.int .u8))) .unit))
abbrev MDt : Md := .pair .ro (.pair .ro (.pair (.own (.own .ro)) .ro))
theorem imgE : EnvOk Try.prog env := env_ok env_envB
theorem img_field (w : World) (b : Nat) : (Instr.fieldAt 24 (.pointer (some ⟨b, 0, none⟩)) 2).run Try.prog w = .ok (.pointer (some ⟨b, 2, none⟩)) w := by
  obtain ⟨fields, f, fe, i, h1, h2, h3, h4, h5, h6, h7, h8⟩ := und_struct (tid := 24) imgE rfl rfl (j := 2) (by decide)
  have h4 : f.offset = 2 := h4
  simp [Instr.fieldAt, run_underlying h1, h3, Instr.sureAddr, fieldPlace, run_sizeOf_ok h8, h7, h4, add_at]
theorem img_load {tid : TypeId} {te : TE} (ht : env.get tid = some te) (ha : aggTy te.ty = false) (hs : sz te.ty = 1) {w : World} {b o : Nat} {c : Array Value} {e : TypeId} {fz : Nat × Nat} {v : Value} (hh : w.heap[b]? = some (.cells c e fz)) (hv : c.toList[o]? = some v) :
    (Instr.loadAt tid (.pointer (some ⟨b, o, none⟩))).run Try.prog w = .ok v w := by
  have hlt : o < c.toList.length := (List.getElem?_eq_some_iff.1 hv).1
  have e1 : (c.toList.drop o).take (sz te.ty) = [v] := by
    rw [hs, List.drop_eq_getElem_cons hlt, List.take_succ_cons, List.take_zero, (List.getElem?_eq_some_iff.1 hv).2]
  obtain ⟨z, h1, h2⟩ := run_load imgE ht hh e1 (by rw [hs]; rfl)
  unfold pack at h2
  rw [if_neg (by simp [ha])] at h2
  cases h2
  exact h1
theorem one_cells {u : Value} (h : u.oneCell' = true) : u.cells.toList = [u] := by
  cases u <;> simp_all [Value.cells, Value.oneCell']
theorem wpOp_of {P : Program} {ops : Array Oper} {Q : Exit → Act → World → Prop} {i : Nat} {o : Oper} {K : Act → World → Prop} {a : Act} {w : World} (ho : ops[i]? = some o) (hg : o.guard = none) (h : o.wp P a w K Q) : wpOp P ops Q i K a w := by
  unfold wpOp
  simp only [ho, Region.wanted, hg]
  exact .inl h
theorem wpOp_val {P : Program} {ops : Array Oper} {Q : Exit → Act → World → Prop} {i : Nat} {o : Oper} {K : Act → World → Prop} {a : Act} {w w' : World} {v : Value} (ho : ops[i]? = some o) (hg : o.guard = none) (hrun : (execOp a.eval o).run P w = .ok (.value v) w') (h : K (a.put o.dst v) w') : wpOp P ops Q i K a w := by
  refine wpOp_of ho hg ?_
  unfold Oper.wp
  rw [hrun, Oper.upon_value]; exact h
theorem wpOp_skip {P : Program} {ops : Array Oper} {Q : Exit → Act → World → Prop} {i : Nat} {o : Oper} {K : Act → World → Prop} {a : Act} {w w' : World} (ho : ops[i]? = some o) (hg : o.guard = none) (hrun : (execOp a.eval o).run P w = .ok .skip w') (h : K (a.put o.dst Go.undef) w') : wpOp P ops Q i K a w := by
  refine wpOp_of ho hg ?_
  unfold Oper.wp
  rw [hrun, Oper.upon_skip]; exact h
theorem img_index {w : World} {B off n cap : Nat} (i : Nat) (hi : i < n) : (Instr.indexAt 22 (.slice (some ⟨B, off, none⟩) n cap) (.int .i64 (i : Nat))).run Try.prog w = .ok (.pointer (some ⟨B, off + i, none⟩)) w := by
  obtain ⟨⟨j, hj⟩, _⟩ := imgE 34 _ rfl
  have h := run_index_ok (tid := 22) (e := 34) (P := Try.prog) (w := w) (imgE.slc (t := 22) rfl rfl).1 hj B off n cap .i64 (i : Nat) (by omega) (by omega)
  rw [h]
  simp [sz]
def imgOps5 : Array Oper :=
  #[{ dst := some 14, op := Op.fieldAddr 24 (Operand.tmp 1) 2, type := 0, pos := "image.go:43", after := #[], guard := none },
    { dst := some 15, op := Op.load 22 (Operand.tmp 14), type := 22, pos := "image.go:43", after := #[{ on := 0, ground := Ground.data }], guard := none },
    { dst := some 16, op := Op.move (Operand.tmp 3), type := 3, pos := "image.go:43", after := #[], guard := none },
    { dst := some 17, op := Op.fieldAddr 24 (Operand.tmp 1) 2, type := 0, pos := "image.go:43", after := #[], guard := none },
    { dst := some 18, op := Op.load 22 (Operand.tmp 17), type := 22, pos := "image.go:43", after := #[{ on := 3, ground := Ground.data }], guard := none },
    { dst := some 19, op := Op.move (Operand.tmp 3), type := 3, pos := "image.go:43", after := #[], guard := none },
    { dst := some 20, op := Op.indexAddr 22 (Operand.tmp 18) (Operand.tmp 19), type := 0, pos := "image.go:43", after := #[{ on := 4, ground := Ground.data }, { on := 5, ground := Ground.data }], guard := none },
    { dst := some 21, op := Op.load 34 (Operand.tmp 20), type := 34, pos := "image.go:43", after := #[{ on := 6, ground := Ground.data }], guard := none },
    { dst := some 22, op := Op.call { callee := Callee.value (Operand.func 71), args := #[Operand.tmp 21], argTypes := #[34] }, type := 34, pos := "image.go:43", after := #[{ on := 7, ground := Ground.data }], guard := none },
    { dst := some 23, op := Op.indexAddr 22 (Operand.tmp 15) (Operand.tmp 16), type := 0, pos := "image.go:43",
      after := #[{ on := 1, ground := Ground.data }, { on := 2, ground := Ground.data }, { on := 0, ground := Ground.phase }, { on := 1, ground := Ground.phase }, { on := 2, ground := Ground.phase }, { on := 3, ground := Ground.phase }, { on := 4, ground := Ground.phase }, { on := 5, ground := Ground.phase }, { on := 6, ground := Ground.phase }, { on := 7, ground := Ground.phase }, { on := 8, ground := Ground.phase }], guard := none },
    { dst := none, op := Op.store 34 (Operand.tmp 23) (Operand.tmp 22), type := 0, pos := "image.go:43",
      after := #[{ on := 9, ground := Ground.data }, { on := 8, ground := Ground.data }, { on := 8, ground := Ground.chain }, { on := 0, ground := Ground.phase }, { on := 1, ground := Ground.phase }, { on := 2, ground := Ground.phase }, { on := 3, ground := Ground.phase }, { on := 4, ground := Ground.phase }, { on := 5, ground := Ground.phase }, { on := 6, ground := Ground.phase }, { on := 7, ground := Ground.phase }, { on := 8, ground := Ground.phase }], guard := none }]
def ImgMid (w0 : World) (Im : Nat → Prop) (y : List Int) (v : Value) (w : World) : Prop :=
  ∃ ImN h1, Rep w ImN (.slc (.int .u8)) (.own .ro) y [v] h1 ∧ HeapOK w h1 ∧ (keys h1).Nodup ∧ (∀ k ∈ keys h1, ¬ ImN k ∧ w0.heap.size ≤ k) ∧ Grow w0 w Im ImN ∧ (∀ k, ImN k → k < w.heap.size ∧ (Im k ∨ w0.heap.size ≤ k)) ∧ Keep ⟨w0, [], Im, fun _ _ => .bool false⟩ w
theorem img_clone {w0 : World} {Im : Nat → Prop} {y : List Int} {v : Value} (himlt : ∀ k, Im k → k < w0.heap.size) (hr : Rep w0 Im (.slc (.int .u8)) .ro y [v] []) (hl : List.length y ≤ most) :
    Calls Try.prog 71 #[v] w0 fun e w' => ∃ u, e = .returned u ∧ ImgMid w0 Im y u w' := by
  have hF : f71_sm.F (y, ()) = some ((y, ()), ()) := by
    show f71 y = _
    unfold f71 f71_k
    cases y with
    | nil => simp [nilT]
    | cons x l =>
      simp only [nilT, List.isEmpty_cons, Bool.false_eq_true, if_false]
      rw [if_pos (by simpa using hl)]
      rfl
  have h := f71_ok w0 Im [v] (y, ()) [] ((y, ()), ()) himlt ⟨v, [], [v], rfl, rfl, hr, rfl, rfl⟩ (fun p hp => by simp at hp) List.nodup_nil (fun k hk => by simp [keys] at hk) hF
  refine Calls.mono h fun e w' hq => ?_
  obtain ⟨us, ImN, h1, h2, rfl, q1, q2, q3, q4, q5, q6, q7, q8⟩ := hq
  rcases q1 with ⟨_, q1⟩ | ⟨q0, _⟩
  · obtain ⟨u, us', cs, g1, g2, rfl, rfl, p1, p2, rfl, rfl⟩ := q1
    obtain ⟨v1, vs1, e1, rfl, rfl⟩ := q2
    have p1 : cs = [u] := p1
    subst p1
    simp only [List.append_nil] at q3 q4 q5
    refine ⟨u, rfl, ImN, g1, p2, q3, q4, fun k hk => ?_, q6, fun k hk => ?_, q8⟩
    · have := q5 k hk
      simpa [keys] using this
    · have := q7 k hk
      simpa [keys] using this
  · cases q0
def imgPairs : List (Nat × Nat) := [(0, 1), (3, 4), (4, 6), (5, 6), (6, 7), (7, 8), (1, 9), (2, 9), (9, 10), (8, 10)]
abbrev imgBase (b1 b2 i n : Nat) : List (Nat × Value) := [(1, .pointer (some ⟨b1, 0, none⟩)), (2, .pointer (some ⟨b2, 0, none⟩)), (3, .int .i64 (i : Nat)), (10, .int .i64 (n : Nat)), (11, .int .i64 (i : Nat))]
abbrev imgL (b1 B off n cap i : Nat) (vi : Value) : List (Nat × Nat × Value) := [(0, 14, .pointer (some ⟨b1, 2, none⟩)), (1, 15, .slice (some ⟨B, off, none⟩) n cap), (2, 16, .int .i64 (i : Nat)), (3, 17, .pointer (some ⟨b1, 2, none⟩)), (4, 18, .slice (some ⟨B, off, none⟩) n cap), (5, 19, .int .i64 (i : Nat)), (6, 20, .pointer (some ⟨B, off + i, none⟩)), (7, 21, vi), (9, 23, .pointer (some ⟨B, off + i, none⟩))]
section
variable {Q : Exit → Act → World → Prop} {w0 : World} {Im : Nat → Prop} {y : List Int} {vi : Value} {b1 b2 B off n cap i : Nat} {c1 c : Array Value} {e1 e : TypeId}
theorem img_round (himlt : ∀ k, Im k → k < w0.heap.size) (hl : List.length y ≤ most) (hy : Rep w0 Im (.slc (.int .u8)) .ro y [vi] [])
    (hb1 : w0.heap[b1]? = some (.cells c1 e1 (0, 0))) (hc1 : c1.toList[2]? = some (.slice (some ⟨B, off, none⟩) n cap)) (hB : w0.heap[B]? = some (.cells c e (0, 0))) (hvi : c.toList[off + i]? = some vi) (hi : i < n) {a : Act}
    (ha : Ph 11 26 (imgBase b1 b2 i n) (imgL b1 B off n cap i vi) (Array.replicate 11 false) a)
    (hQ : ∀ a w v, Ph 11 26 (imgBase b1 b2 i n) [] #[true, true, true, true, true, true, true, true, true, true, true] a → ImgMid w0 Im y v w → Q .normal a (w.setRow B (c.toList.take (off + i) ++ [v] ++ c.toList.drop (off + i + 1)).toArray)) :
    wpAny Try.prog .any imgOps5 Q 11 (Array.replicate 11 false) a w0 := by
  have hsz : imgOps5.size = 11 := rfl
  have hpr : ∀ p ∈ imgPairs, ∀ o, imgOps5[p.2]? = some o → p.1 ∈ edges o := by
    intro p hp o ho
    simp only [imgPairs, List.mem_cons, List.not_mem_nil, or_false] at hp
    rcases hp with rfl | rfl | rfl | rfl | rfl | rfl | rfl | rfl | rfl | rfl <;> (cases ho; decide)
  have hb1l : b1 < w0.heap.size := (Array.getElem?_eq_some_iff.1 hb1).1
  have hBl : B < w0.heap.size := (Array.getElem?_eq_some_iff.1 hB).1
  refine wpAny_ind (fun l a w => Ph 11 26 (imgBase b1 b2 i n) (imgL b1 B off n cap i vi) l a ∧ (∀ p ∈ imgPairs, l.getD p.2 false = true → l.getD p.1 false = true) ∧
    ((l.getD 10 false = true ∧ ∃ v w1, ImgMid w0 Im y v w1 ∧ w = w1.setRow B (c.toList.take (off + i) ++ [v] ++ c.toList.drop (off + i + 1)).toArray) ∨
     (l.getD 10 false = false ∧ l.getD 8 false = true ∧ ImgMid w0 Im y (a.tmps.getD 22 Go.undef) w) ∨ (l.getD 10 false = false ∧ l.getD 8 false = false ∧ w = w0)))
    (fun l a w h => h.1.sz.trans hsz.symm) ?_ ?_ 11 _ a w0 (by decide) ⟨ha, ?_, .inr (.inr ⟨rfl, rfl, rfl⟩)⟩
  rotate_left
  · intro l a w ⟨hp, hD, hc⟩ hr
    have hall := all_listed (ops := imgOps5) (l := l) (hp.sz.trans hsz.symm) (fun k o ho e he => by
      have hk : k < 11 := (Array.getElem?_eq_some_iff.1 ho).1
      have : k = 0 ∨ k = 1 ∨ k = 2 ∨ k = 3 ∨ k = 4 ∨ k = 5 ∨ k = 6 ∨ k = 7 ∨ k = 8 ∨ k = 9 ∨ k = 10 := by omega
      rcases this with rfl | rfl | rfl | rfl | rfl | rfl | rfl | rfl | rfl | rfl | rfl <;> (cases ho; revert e; decide)) hr
    rcases hc with ⟨_, v, w1, h1, rfl⟩ | ⟨h10, _⟩ | ⟨h10, _⟩
    · exact hQ a w1 v ⟨rfl, hp.tz, hp.df, hp.base, fun q hq => by simp at hq⟩ h1
    · rw [hall 10 (by decide)] at h10; cases h10
    · rw [hall 10 (by decide)] at h10; cases h10
  · intro p hp h
    simp only [imgPairs, List.mem_cons, List.not_mem_nil, or_false] at hp
    rcases hp with rfl | rfl | rfl | rfl | rfl | rfl | rfl | rfl | rfl | rfl <;> exact h
  · intro l a w k ⟨hp, hD, hc⟩ hk
    obtain ⟨hlt, hun, o, ho, he⟩ := ready_iff.1 hk
    have hkl : k < l.size := by rw [hp.sz]; exact hlt
    have hun' : l.getD k false = false := by
      simp only [Array.getD_eq_getD_getElem?, Array.getElem?_eq_getElem hkl] at hun ⊢
      simpa using hun
    have hDn : ∀ p ∈ imgPairs, (l.setIfInBounds k true).getD p.2 false = true → (l.setIfInBounds k true).getD p.1 false = true := fun p hpp h => by
      by_cases hpk : p.2 = k
      · exact getD_set_true (he p.1 (hpr p hpp o (by rw [hpk]; exact ho)))
      · rw [getD_set_ne false (Ne.symm hpk)] at h
        exact getD_set_true (hD p hpp h)
    have h10 : k ≠ 10 → l.getD 10 false = false := fun hne => by
      cases h : l.getD 10 false with
      | false => rfl
      | true =>
        exfalso
        have d9 := hD (9, 10) (by decide) h
        have d8 := hD (8, 10) (by decide) h
        have d1 := hD (1, 9) (by decide) d9
        have d2 := hD (2, 9) (by decide) d9
        have d0 := hD (0, 1) (by decide) d1
        have d7 := hD (7, 8) (by decide) d8
        have d6 := hD (6, 7) (by decide) d7
        have d5 := hD (5, 6) (by decide) d6
        have d4 := hD (4, 6) (by decide) d6
        have d3 := hD (3, 4) (by decide) d4
        have : k = 0 ∨ k = 1 ∨ k = 2 ∨ k = 3 ∨ k = 4 ∨ k = 5 ∨ k = 6 ∨ k = 7 ∨ k = 8 ∨ k = 9 := by omega
        rcases this with rfl | rfl | rfl | rfl | rfl | rfl | rfl | rfl | rfl | rfl <;> simp_all
    have hold : k ≠ 10 → ∀ j, j < w0.heap.size → w.heap[j]? = w0.heap[j]? := fun hne j hj => by
      rcases hc with ⟨h, _⟩ | ⟨_, _, hm⟩ | ⟨_, _, rfl⟩
      · rw [h10 hne] at h; cases h
      · obtain ⟨_, _, _, _, _, _, _, _, hkeep⟩ := hm
        exact hkeep.block j hj (by simp)
      · rfl
    have fin : ∀ (d : Nat) (v : Value), o.dst = some d → k ≠ 8 → k ≠ 10 → d < 26 → d ≠ 22 → (∀ q ∈ imgL b1 B off n cap i vi, (q.1 = k ∧ q.2.1 = d ∧ q.2.2 = v) ∨ (q.1 ≠ k ∧ q.2.1 ≠ d)) → (∀ p ∈ imgBase b1 b2 i n, p.1 ≠ d) → o.guard = none → (execOp a.eval o).run Try.prog w = .ok (.value v) w →
        wpOp Try.prog imgOps5 Q k (fun a w => Ph 11 26 (imgBase b1 b2 i n) (imgL b1 B off n cap i vi) (l.setIfInBounds k true) a ∧ (∀ p ∈ imgPairs, (l.setIfInBounds k true).getD p.2 false = true → (l.setIfInBounds k true).getD p.1 false = true) ∧
          (((l.setIfInBounds k true).getD 10 false = true ∧ ∃ v w1, ImgMid w0 Im y v w1 ∧ w = w1.setRow B (c.toList.take (off + i) ++ [v] ++ c.toList.drop (off + i + 1)).toArray) ∨
           ((l.setIfInBounds k true).getD 10 false = false ∧ (l.setIfInBounds k true).getD 8 false = true ∧ ImgMid w0 Im y (a.tmps.getD 22 Go.undef) w) ∨ ((l.setIfInBounds k true).getD 10 false = false ∧ (l.setIfInBounds k true).getD 8 false = false ∧ w = w0))) a w := by
      intro d v hd h8 h10' hd26 hd22 hL hb hg hrun
      refine wpOp_val ho hg hrun ?_
      rw [hd]
      refine ⟨hp.step hd26 hL hb, hDn, ?_⟩
      rw [getD_set_ne false h10', getD_set_ne false h8, getD_put, if_neg (fun hh => hd22 hh.1.symm)]
      exact hc
    have t1 : a.tmps.getD 1 Go.undef = .pointer (some ⟨b1, 0, none⟩) := hp.base (1, _) (by simp [imgBase])
    have t3 : a.tmps.getD 3 Go.undef = .int .i64 (i : Nat) := hp.base (3, _) (by simp [imgBase])
    have hk11 : k = 0 ∨ k = 1 ∨ k = 2 ∨ k = 3 ∨ k = 4 ∨ k = 5 ∨ k = 6 ∨ k = 7 ∨ k = 8 ∨ k = 9 ∨ k = 10 := by have : k < 11 := hlt; omega
    have hLb : ∀ (kk d : Nat) (v : Value), (kk, d, v) ∈ imgL b1 B off n cap i vi → l.getD kk false = true → a.tmps.getD d Go.undef = v := fun kk d v hm hl => hp.done (kk, d, v) hm hl
    rcases hk11 with rfl | rfl | rfl | rfl | rfl | rfl | rfl | rfl | rfl | rfl | rfl
    · cases ho
      refine fin 14 (.pointer (some ⟨b1, 2, none⟩)) rfl (by decide) (by decide) (by decide) (by decide) (by simp [imgL]) (by simp [imgBase]) rfl ?_
      show (do let v ← Instr.fieldAt 24 (a.tmps.getD 1 Go.undef) 2; pure (Next.value v) : Sem Next).run Try.prog w = _
      rw [t1, Sem.run_bind, img_field]; rfl
    · cases ho
      have h0 := hLb 0 14 (.pointer (some ⟨b1, 2, none⟩)) (by simp [imgL]) (he 0 (by decide))
      refine fin 15 (.slice (some ⟨B, off, none⟩) n cap) rfl (by decide) (by decide) (by decide) (by decide) (by simp [imgL]) (by simp [imgBase]) rfl ?_
      show (do let v ← Instr.loadAt 22 (a.tmps.getD 14 Go.undef); pure (Next.value v) : Sem Next).run Try.prog w = _
      rw [h0, Sem.run_bind, img_load (tid := 22) rfl rfl rfl ((hold (by decide) b1 hb1l).trans hb1) hc1]; rfl
    · cases ho
      refine fin 16 (.int .i64 (i : Nat)) rfl (by decide) (by decide) (by decide) (by decide) (by simp [imgL]) (by simp [imgBase]) rfl ?_
      show (pure (Next.value (a.tmps.getD 3 Go.undef)) : Sem Next).run Try.prog w = _
      rw [t3]; rfl
    · cases ho
      refine fin 17 (.pointer (some ⟨b1, 2, none⟩)) rfl (by decide) (by decide) (by decide) (by decide) (by simp [imgL]) (by simp [imgBase]) rfl ?_
      show (do let v ← Instr.fieldAt 24 (a.tmps.getD 1 Go.undef) 2; pure (Next.value v) : Sem Next).run Try.prog w = _
      rw [t1, Sem.run_bind, img_field]; rfl
    · cases ho
      have h0 := hLb 3 17 (.pointer (some ⟨b1, 2, none⟩)) (by simp [imgL]) (he 3 (by decide))
      refine fin 18 (.slice (some ⟨B, off, none⟩) n cap) rfl (by decide) (by decide) (by decide) (by decide) (by simp [imgL]) (by simp [imgBase]) rfl ?_
      show (do let v ← Instr.loadAt 22 (a.tmps.getD 17 Go.undef); pure (Next.value v) : Sem Next).run Try.prog w = _
      rw [h0, Sem.run_bind, img_load (tid := 22) rfl rfl rfl ((hold (by decide) b1 hb1l).trans hb1) hc1]; rfl
    · cases ho
      refine fin 19 (.int .i64 (i : Nat)) rfl (by decide) (by decide) (by decide) (by decide) (by simp [imgL]) (by simp [imgBase]) rfl ?_
      show (pure (Next.value (a.tmps.getD 3 Go.undef)) : Sem Next).run Try.prog w = _
      rw [t3]; rfl
    · cases ho
      have h0 := hLb 4 18 (.slice (some ⟨B, off, none⟩) n cap) (by simp [imgL]) (he 4 (by decide))
      have h1 := hLb 5 19 (.int .i64 (i : Nat)) (by simp [imgL]) (he 5 (by decide))
      refine fin 20 (.pointer (some ⟨B, off + i, none⟩)) rfl (by decide) (by decide) (by decide) (by decide) (by simp [imgL]) (by simp [imgBase]) rfl ?_
      show (do let v ← Instr.indexAt 22 (a.tmps.getD 18 Go.undef) (a.tmps.getD 19 Go.undef); pure (Next.value v) : Sem Next).run Try.prog w = _
      rw [h0, h1, Sem.run_bind, img_index i hi]; rfl
    · cases ho
      have h0 := hLb 6 20 (.pointer (some ⟨B, off + i, none⟩)) (by simp [imgL]) (he 6 (by decide))
      refine fin 21 vi rfl (by decide) (by decide) (by decide) (by decide) (by simp [imgL]) (by simp [imgBase]) rfl ?_
      show (do let v ← Instr.loadAt 34 (a.tmps.getD 20 Go.undef); pure (Next.value v) : Sem Next).run Try.prog w = _
      rw [h0, Sem.run_bind, img_load (tid := 34) rfl rfl rfl ((hold (by decide) B hBl).trans hB) hvi]; rfl
    · have hw : w = w0 := by
        rcases hc with ⟨h, _⟩ | ⟨_, h, _⟩ | ⟨_, _, h⟩
        · rw [h10 (by decide)] at h; cases h
        · rw [hun'] at h; cases h
        · exact h
      subst hw
      cases ho
      have h0 := hLb 7 21 vi (by simp [imgL]) (he 7 (by decide))
      refine wpOp_of (o := imgOps5[8]) rfl rfl ?_
      unfold Oper.wp
      have hrun : (execOp a.eval imgOps5[8]).run Try.prog w = .ok (.enter 71 #[vi]) w := by
        rw [← h0]
        obtain ⟨fn, hfn, hn1, hn2⟩ : FnOk Try.prog 71 := ⟨Try.f71, Try.func71, by kernel_rfl, by kernel_rfl⟩
        have n1 : ¬ fn.name = "runtime.NumGoroutine" := by simpa using hn1
        have n2 : ¬ fn.body = none := by intro e; rw [e] at hn2; cases hn2
        simp [execOp, imgOps5, resolve, Deferred.ofValue, invoke, callFunc, hfn, n1, n2, Act.eval]
      rw [hrun, Oper.upon_enter]
      refine Calls.mono (img_clone himlt hy hl) fun e w2 hq => ?_
      obtain ⟨u, rfl, hm⟩ := hq
      show _ ∧ _ ∧ _
      have e22 : imgOps5[8].dst = some 22 := rfl
      rw [e22]
      refine ⟨hp.step (by decide) (by simp [imgL]) (by simp [imgBase]), hDn, .inr (.inl ⟨?_, ?_, ?_⟩)⟩
      · rw [getD_set_ne false (by decide)]; exact h10 (by decide)
      · simp [hkl]
      · rw [getD_put, if_pos ⟨rfl, by rw [hp.tz]; decide⟩]; exact hm
    · cases ho
      have h0 := hLb 1 15 (.slice (some ⟨B, off, none⟩) n cap) (by simp [imgL]) (he 1 (by decide))
      have h1 := hLb 2 16 (.int .i64 (i : Nat)) (by simp [imgL]) (he 2 (by decide))
      refine fin 23 (.pointer (some ⟨B, off + i, none⟩)) rfl (by decide) (by decide) (by decide) (by decide) (by simp [imgL]) (by simp [imgBase]) rfl ?_
      show (do let v ← Instr.indexAt 22 (a.tmps.getD 15 Go.undef) (a.tmps.getD 16 Go.undef); pure (Next.value v) : Sem Next).run Try.prog w = _
      rw [h0, h1, Sem.run_bind, img_index i hi]; rfl
    · cases ho
      have h0 := hLb 9 23 (.pointer (some ⟨B, off + i, none⟩)) (by simp [imgL]) (he 9 (by decide))
      have h8 := he 8 (by decide)
      have hm : ImgMid w0 Im y (a.tmps.getD 22 Go.undef) w := by
        rcases hc with ⟨h, _⟩ | ⟨_, _, h⟩ | ⟨_, h, _⟩
        · rw [hun'] at h; cases h
        · exact h
        · rw [h8] at h; cases h
      have hm0 := hm
      obtain ⟨ImN, g1, r1, r2, r3, r4, r5, r6, r7⟩ := hm
      have hBw : w.heap[B]? = some (.cells c e (0, 0)) := (r7.block B hBl (by simp)).trans hB
      have hoff : off + i < c.size := by have := (List.getElem?_eq_some_iff.1 hvi).1; simpa using this
      have hst := run_storeAt (P := Try.prog) imgE (tid := 34) (te := _) rfl (w := w) (b := B) (o := off + i) hBw (v := a.tmps.getD 22 Go.undef) (cs := [a.tmps.getD 22 Go.undef]) (one_cells (r1.one _ (List.mem_singleton_self _))) rfl (fun u hu => r1.one u hu) (by simp only [List.length_singleton]; omega)
      refine wpOp_skip (o := imgOps5[10]) rfl rfl (w' := w.setRow B (c.toList.take (off + i) ++ [a.tmps.getD 22 Go.undef] ++ c.toList.drop (off + i + 1)).toArray) ?_ ⟨hp.skip (by simp [imgL]), hDn, .inl ⟨by simp [hkl], _, w, hm0, rfl⟩⟩
      show (do Instr.storeAt 34 (a.tmps.getD 23 Go.undef) (a.tmps.getD 22 Go.undef); pure Next.skip : Sem Next).run Try.prog w = _
      rw [h0, Sem.run_bind, hst]; rfl
end
end Go.Proofs.Ytmfjebpdkgbggaa.V
