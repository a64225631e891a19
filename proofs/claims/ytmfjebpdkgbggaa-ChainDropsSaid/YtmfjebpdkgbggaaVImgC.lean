/- image.Copy, by hand: the whole. -/
import Derived.Test.YtmfjebpdkgbggaaVImgB
import Derived.Test.YtmfjebpdkgbggaaVKit
set_option linter.unusedVariables false
set_option linter.unusedSimpArgs false
set_option maxRecDepth 100000
namespace Go.Proofs.Ytmfjebpdkgbggaa.V
open Go
def imgOps0 : Array Oper := #[{ dst := some 1, op := Op.box 24 (Operand.tmp 0), type := 0, pos := "image.go:40", after := #[], guard := none }, { dst := some 2, op := Op.alloc 24, type := 0, pos := "image.go:40", after := #[], guard := none }]
def imgOps1 : Array Oper := #[{ dst := some 4, op := Op.fieldAddr 24 (Operand.tmp 1) 2, type := 0, pos := "image.go:41", after := #[], guard := none },
  { dst := some 5, op := Op.load 22 (Operand.tmp 4), type := 22, pos := "image.go:41", after := #[{ on := 0, ground := Ground.data }], guard := none },
  { dst := some 6, op := Op.call { callee := Callee.value (Operand.func 70), args := #[Operand.tmp 5], argTypes := #[22] }, type := 22, pos := "image.go:41", after := #[{ on := 1, ground := Ground.data }], guard := none },
  { dst := some 7, op := Op.fieldAddr 24 (Operand.tmp 1) 2, type := 0, pos := "image.go:41", after := #[{ on := 0, ground := Ground.phase }, { on := 1, ground := Ground.phase }, { on := 2, ground := Ground.phase }], guard := none },
  { dst := none, op := Op.store 22 (Operand.tmp 7) (Operand.tmp 6), type := 0, pos := "image.go:41", after := #[{ on := 3, ground := Ground.data }, { on := 2, ground := Ground.data }, { on := 2, ground := Ground.chain }, { on := 0, ground := Ground.phase }, { on := 1, ground := Ground.phase }, { on := 2, ground := Ground.phase }], guard := none }]
def imgOps2 : Array Oper := #[{ dst := some 8, op := Op.fieldAddr 24 (Operand.tmp 1) 2, type := 0, pos := "image.go:42", after := #[], guard := none },
  { dst := some 9, op := Op.load 22 (Operand.tmp 8), type := 22, pos := "image.go:42", after := #[{ on := 0, ground := Ground.data }], guard := none },
  { dst := some 10, op := Op.call { callee := Callee.builtin Builtin.len, args := #[Operand.tmp 9], argTypes := #[22] }, type := 3, pos := "image.go:42", after := #[{ on := 1, ground := Ground.data }], guard := none },
  { dst := some 11, op := Op.move (Operand.const (Value.int IntKind.i64 0)), type := 3, pos := "image.go:42", after := #[], guard := none }]
def imgOps3 : Array Oper := #[{ dst := some 12, op := Op.binOp BinOp.lss 3 (Operand.tmp 11) (Operand.tmp 10) 3, type := 0, pos := "image.go:42", after := #[], guard := none }]
def imgOps4 : Array Oper := #[{ dst := some 13, op := Op.move (Operand.tmp 11), type := 3, pos := "image.go:42", after := #[], guard := none },
  { dst := some 3, op := Op.assign (Operand.tmp 13), type := 3, pos := "image.go:42", after := #[{ on := 0, ground := Ground.data }, { on := 0, ground := Ground.phase }], guard := none }]
def imgOps6 : Array Oper := #[{ dst := some 24, op := Op.binOp BinOp.add 3 (Operand.tmp 11) (Operand.const (Value.int IntKind.i64 1)) 3, type := 3, pos := "image.go:42", after := #[], guard := none },
  { dst := some 11, op := Op.move (Operand.tmp 24), type := 3, pos := "image.go:42", after := #[{ on := 0, ground := Ground.data }], guard := none }]
def imgOps7 : Array Oper := #[{ dst := some 25, op := Op.load 24 (Operand.tmp 1), type := 24, pos := "image.go:45", after := #[], guard := none },
  { dst := none, op := Op.store 24 (Operand.tmp 2) (Operand.tmp 25), type := 0, pos := "image.go:45", after := #[{ on := 0, ground := Ground.data }, { on := 0, ground := Ground.phase }], guard := none }]
def imgBody : Code := (Code.region 3 imgOps3 false).seq ((Code.cond (Operand.tmp 12) Code.skip (Code.exit 0)).seq ((Code.block 1 ((Code.region 4 imgOps4 false).seq (Code.region 5 imgOps5 true))).seq (Code.region 6 imgOps6 false)))
def imgCode : Code := (Code.region 0 imgOps0 false).seq ((Code.region 1 imgOps1 false).seq (((Code.region 2 imgOps2 false).seq (Code.block 0 (Code.loop imgBody))).seq ((Code.region 7 imgOps7 false).seq Code.ret)))
theorem img_code : Try.f36.body = some imgCode := by kernel_rfl
structure Sl (base : List (Nat × Value)) (a : Act) : Prop where
  tz : a.tmps.size = 26
  df : a.defers = []
  base : ∀ p ∈ base, a.tmps.getD p.1 Go.undef = p.2
section
variable {P : Program} {ops : Array Oper} {Q : Exit → Act → World → Prop} {a : Act} {w w' : World} {base base' : List (Nat × Value)}
theorem Sl.put (h : Sl base a) {d : Nat} {v : Value} (hd : d < 26) (hb : ∀ p ∈ base', p = (d, v) ∨ (p ∈ base ∧ p.1 ≠ d)) : Sl base' (a.put (some d) v) := by
  refine ⟨by simp [Act.put, h.tz], by rw [put_defers]; exact h.df, fun p hp => ?_⟩
  rcases hb p hp with rfl | ⟨h1, h2⟩
  · rw [getD_put, if_pos ⟨rfl, by rw [h.tz]; exact hd⟩]
  · rw [getD_put, if_neg (fun hh => h2 hh.1)]; exact h.base p h1
theorem Sl.at (h : Sl base a) {d : Nat} {v : Value} (hm : (d, v) ∈ base) : a.tmps.getD d Go.undef = v := h.base (d, v) hm
theorem wpOps_val {i : Nat} {rest : List Nat} {o : Oper} {v : Value} (ho : ops[i]? = some o) (hg : o.guard = none) (hrun : (execOp a.eval o).run P w = .ok (.value v) w') (h : wpOps P ops Q rest (a.put o.dst v) w') : wpOps P ops Q (i :: rest) a w := by
  show (match ops[i]? with | none => _ | some o => _)
  simp only [ho, Region.wanted, hg]
  refine .inl ?_
  unfold Oper.wp
  rw [hrun, Oper.upon_value]; exact h
theorem wpOps_skip {i : Nat} {rest : List Nat} {o : Oper} (ho : ops[i]? = some o) (hg : o.guard = none) (hrun : (execOp a.eval o).run P w = .ok .skip w') (h : wpOps P ops Q rest (a.put o.dst Go.undef) w') : wpOps P ops Q (i :: rest) a w := by
  show (match ops[i]? with | none => _ | some o => _)
  simp only [ho, Region.wanted, hg]
  refine .inl ?_
  unfold Oper.wp
  rw [hrun, Oper.upon_skip]; exact h
theorem wpOps_enter {i : Nat} {rest : List Nat} {o : Oper} {f : FuncId} {args : Array Value} (ho : ops[i]? = some o) (hg : o.guard = none) (hrun : (execOp a.eval o).run P w = .ok (.enter f args) w') (h : Calls P f args w' fun e w2 => ∃ u, e = .returned u ∧ wpOps P ops Q rest (a.put o.dst u) w2) : wpOps P ops Q (i :: rest) a w := by
  show (match ops[i]? with | none => _ | some o => _)
  simp only [ho, Region.wanted, hg]
  refine .inl ?_
  unfold Oper.wp
  rw [hrun, Oper.upon_enter]
  exact Calls.mono h fun e w2 hq => by obtain ⟨u, rfl, hq⟩ := hq; exact hq
end
def ImgMid2 (w0 : World) (Im : Nat → Prop) (y : List (List Int)) (v : Value) (w : World) : Prop :=
  ∃ ImN h1, Rep w ImN (.slc (.slc (.int .u8))) (.own .ro) y [v] h1 ∧ HeapOK w h1 ∧ (keys h1).Nodup ∧ (∀ k ∈ keys h1, ¬ ImN k ∧ w0.heap.size ≤ k) ∧ Grow w0 w Im ImN ∧ (∀ k, ImN k → k < w.heap.size ∧ (Im k ∨ w0.heap.size ≤ k)) ∧ Keep ⟨w0, [], Im, fun _ _ => .bool false⟩ w
theorem img_clone2 {w0 : World} {Im : Nat → Prop} {y : List (List Int)} {v : Value} (himlt : ∀ k, Im k → k < w0.heap.size) (hr : Rep w0 Im (.slc (.slc (.int .u8))) .ro y [v] []) (hl : List.length y * 24 ≤ most) :
    Calls Try.prog 70 #[v] w0 fun e w' => ∃ u, e = .returned u ∧ ImgMid2 w0 Im y u w' := by
  have hF : f70_sm.F (y, ()) = some ((y, ()), ()) := by
    show f70 y = _
    unfold f70 f70_k
    cases y with
    | nil => simp [nilT]
    | cons x l =>
      simp only [nilT, List.isEmpty_cons, Bool.false_eq_true, if_false]
      rw [if_pos ⟨by rw [Nat.zero_add]; exact hl, by omega, by omega⟩]
      rfl
  have h := f70_ok w0 Im [v] (y, ()) [] ((y, ()), ()) himlt ⟨v, [], [v], rfl, rfl, hr, rfl, rfl⟩ (fun p hp => by simp at hp) List.nodup_nil (fun k hk => by simp [keys] at hk) hF
  refine Calls.mono h fun e w' hq => ?_
  obtain ⟨us, ImN, h1, h2, rfl, q1, q2, q3, q4, q5, q6, q7, q8⟩ := hq
  rcases q1 with ⟨_, q1⟩ | ⟨q0, _⟩
  · obtain ⟨u, us', cs, g1, g2, rfl, rfl, p1, p2, rfl, rfl⟩ := q1
    obtain ⟨v1, vs1, e1, rfl, rfl⟩ := q2
    have p1 : cs = [u] := p1
    subst p1
    simp only [List.append_nil] at q3 q4 q5
    refine ⟨u, rfl, ImN, g1, p2, q3, q4, fun k hk => ?_, q6, fun k hk => ?_, q8⟩
    · have := q5 k hk
      simpa [keys] using this
    · have := q7 k hk
      simpa [keys] using this
  · cases q0
section
variable {w00 : World} {Im0 : Nat → Prop} {xs : List (List Int)} {d1 d2 : Value} {b1 b2 B off cap : Nat} {e : TypeId}
def ImgI (w00 : World) (Im0 : Nat → Prop) (xs : List (List Int)) (d1 d2 : Value) (b1 b2 B off cap : Nat) (e : TypeId) (i : Nat) (a : Act) (w : World) : Prop :=
  Sl [(1, .pointer (some ⟨b1, 0, none⟩)), (2, .pointer (some ⟨b2, 0, none⟩)), (10, .int .i64 (xs.length : Nat)), (11, .int .i64 (i : Nat))] a ∧ ∃ Im c h, ImgJ w00 Im0 xs d1 d2 b1 b2 B off cap i Im c e h w
theorem img_body {Q : Exit → Act → World → Prop} (hl : ∀ y ∈ xs, List.length y ≤ most) {i : Nat} {a : Act} {w : World} (h : ImgI w00 Im0 xs d1 d2 b1 b2 B off cap e i a w) (hi : i ≤ xs.length)
    (hnext : i < xs.length → ∀ a w, ImgI w00 Im0 xs d1 d2 b1 b2 B off cap e (i + 1) a w → Q .normal a w) (hexit : i = xs.length → ∀ a w, ImgI w00 Im0 xs d1 d2 b1 b2 B off cap e i a w → Q (.exit 0) a w) : imgBody.wp Try.prog Q a w := by
  obtain ⟨hs, Im, c, h, J⟩ := h
  unfold imgBody
  refine wp_seq (wp_region ?_)
  have t11 := hs.at (d := 11) (v := .int .i64 (i : Nat)) (by simp)
  have t10 := hs.at (d := 10) (v := .int .i64 (xs.length : Nat)) (by simp)
  refine wpOps_val (o := imgOps3[0]) rfl rfl (v := .bool (decide ((i : Int) < (xs.length : Int)))) (w' := w) ?_ ?_
  · show (do let v ← (do eqGuard .lss 3 (.tmp 11) (.tmp 10) (a.tmps.getD 11 Go.undef) (a.tmps.getD 10 Go.undef); binOp .lss 3 (a.tmps.getD 11 Go.undef) (a.tmps.getD 10 Go.undef)); pure (Next.value v) : Sem Next).run Try.prog w = _
    rw [t11, t10]
    simp [run_eqGuard_int, run_cmp .i64 _ _ _ .lss _ rfl]
  show Exit.then _ _ .normal (a.put (some 12) (.bool (decide ((i : Int) < (xs.length : Int))))) w
  have hs1 : Sl [(1, .pointer (some ⟨b1, 0, none⟩)), (2, .pointer (some ⟨b2, 0, none⟩)), (10, .int .i64 (xs.length : Nat)), (11, .int .i64 (i : Nat)), (12, .bool (decide ((i : Int) < (xs.length : Int))))] (a.put (some 12) (.bool (decide ((i : Int) < (xs.length : Int))))) := hs.put (by decide) (by simp)
  have hs2 : Sl [(1, .pointer (some ⟨b1, 0, none⟩)), (2, .pointer (some ⟨b2, 0, none⟩)), (10, .int .i64 (xs.length : Nat)), (11, .int .i64 (i : Nat))] (a.put (some 12) (.bool (decide ((i : Int) < (xs.length : Int))))) := hs.put (by decide) (by simp)
  have t12 := hs1.at (d := 12) (v := .bool (decide ((i : Int) < (xs.length : Int)))) (by simp)
  generalize (a.put (some 12) (.bool (decide ((i : Int) < (xs.length : Int))))) = a1 at hs1 hs2 t12
  refine wp_seq ?_
  by_cases hlt : i < xs.length
  · refine wp_cond_true (by show a1.tmps.getD 12 Go.undef = _; rw [t12]; simp [hlt]) (wp_skip ?_)
    refine wp_seq (wp_block (wp_seq (wp_region ?_)))
    have t11 := hs2.at (d := 11) (v := .int .i64 (i : Nat)) (by simp)
    refine wpOps_val (o := imgOps4[0]) rfl rfl (v := .int .i64 (i : Nat)) (w' := w) (by
      show (pure (Next.value (a1.tmps.getD 11 Go.undef)) : Sem Next).run Try.prog w = _
      rw [t11]; rfl) ?_
    have hs3 : Sl [(1, .pointer (some ⟨b1, 0, none⟩)), (2, .pointer (some ⟨b2, 0, none⟩)), (10, .int .i64 (xs.length : Nat)), (11, .int .i64 (i : Nat)), (13, .int .i64 (i : Nat))] (a1.put (some 13) (.int .i64 (i : Nat))) := hs2.put (by decide) (by simp)
    show wpOps _ _ _ _ (a1.put (some 13) (.int .i64 (i : Nat))) w
    generalize (a1.put (some 13) (.int .i64 (i : Nat))) = a2 at hs3
    have t13 := hs3.at (d := 13) (v := .int .i64 (i : Nat)) (by simp)
    refine wpOps_val (o := imgOps4[1]) rfl rfl (v := .int .i64 (i : Nat)) (w' := w) (by
      show (pure (Next.value (a2.tmps.getD 13 Go.undef)) : Sem Next).run Try.prog w = _
      rw [t13]; rfl) ?_
    have hs4 : Sl (imgBase b1 b2 i xs.length) (a2.put (some 3) (.int .i64 (i : Nat))) := hs3.put (by decide) (by simp [imgBase])
    show Exit.then _ _ .normal (a2.put (some 3) (.int .i64 (i : Nat))) w
    generalize (a2.put (some 3) (.int .i64 (i : Nat))) = a3 at hs4
    refine wp_region_any mixed ?_
    obtain ⟨vi, hvi, hrow⟩ := J.row hlt
    refine img_round (w0 := w.drew) (Im := Im) (y := xs[i]) (vi := vi) (b1 := b1) (b2 := b2) (B := B) (off := off) (n := xs.length) (cap := cap) (i := i) (fun k hk => (J.imr k hk).1) (hl _ (List.getElem_mem _)) (hrow.frame (fun _ h => h) (fun _ _ => rfl)) J.hb1 rfl J.hB hvi hlt ⟨rfl, hs4.tz, hs4.df, hs4.base, fun q hq hq2 => ?_⟩ (fun a4 w4 v hp hm => ?_)
    · exfalso
      simp only [imgL, List.mem_cons, List.not_mem_nil, or_false] at hq
      rcases hq with rfl | rfl | rfl | rfl | rfl | rfl | rfl | rfl | rfl <;> simp at hq2
    · obtain ⟨ImN, g, J2⟩ := J.next hlt hm
      show (Code.region 6 imgOps6 false).wp Try.prog Q a4 _
      refine wp_region ?_
      have hs5 : Sl (imgBase b1 b2 i xs.length) a4 := ⟨hp.tz, hp.df, hp.base⟩
      have t11 := hs5.at (d := 11) (v := .int .i64 (i : Nat)) (by simp [imgBase])
      have hmx : xs.length ≤ 9223372036854775807 := by have := J.hcap; have := J.hmax; simp only [maxLen] at this; omega
      refine wpOps_val (o := imgOps6[0]) rfl rfl (v := .int .i64 ((i + 1 : Nat) : Int)) (w' := w4.setRow B (c.toList.take (off + i) ++ [v] ++ c.toList.drop (off + i + 1)).toArray) (by
        show (do let v ← (do eqGuard .add 3 (.tmp 11) (.const (.int .i64 1)) (a4.tmps.getD 11 Go.undef) (.int .i64 1); binOp .add 3 (a4.tmps.getD 11 Go.undef) (.int .i64 1)); pure (Next.value v) : Sem Next).run Try.prog _ = _
        rw [t11]
        simp only [Sem.run_bind, run_eqGuard_int, Result.andThen_ok, run_ar]
        rw [wi (by omega) (by omega)]
        rfl) ?_
      have hs6 : Sl [(1, .pointer (some ⟨b1, 0, none⟩)), (2, .pointer (some ⟨b2, 0, none⟩)), (10, .int .i64 (xs.length : Nat)), (24, .int .i64 ((i + 1 : Nat) : Int))] (a4.put (some 24) (.int .i64 ((i + 1 : Nat) : Int))) := hs5.put (by decide) (by simp [imgBase])
      show wpOps _ _ _ _ (a4.put (some 24) (.int .i64 ((i + 1 : Nat) : Int))) _
      generalize (a4.put (some 24) (.int .i64 ((i + 1 : Nat) : Int))) = a5 at hs6
      have t24 := hs6.at (d := 24) (v := .int .i64 ((i + 1 : Nat) : Int)) (by simp)
      refine wpOps_val (o := imgOps6[1]) rfl rfl (v := .int .i64 ((i + 1 : Nat) : Int)) (w' := w4.setRow B (c.toList.take (off + i) ++ [v] ++ c.toList.drop (off + i + 1)).toArray) (by
        show (pure (Next.value (a5.tmps.getD 24 Go.undef)) : Sem Next).run Try.prog _ = _
        rw [t24]; rfl) ?_
      exact hnext hlt _ _ ⟨hs6.put (by decide) (by simp), ImN, _, _, J2⟩
  · refine wp_cond_false (by show a1.tmps.getD 12 Go.undef = _; rw [t12]; simp; omega) (wp_exit ?_)
    exact hexit (by omega) _ _ ⟨hs2, Im, c, h, J⟩
theorem img_loop {Q : Exit → Act → World → Prop} (hl : ∀ y ∈ xs, List.length y ≤ most) {a : Act} {w : World} (h : ImgI w00 Im0 xs d1 d2 b1 b2 B off cap e 0 a w)
    (hexit : ∀ a w, ImgI w00 Im0 xs d1 d2 b1 b2 B off cap e xs.length a w → Q .normal a w) : (Code.block 0 (Code.loop imgBody)).wp Try.prog Q a w := by
  refine wp_block ?_
  refine wp_loop (fun a w => ∃ i, i ≤ xs.length ∧ ImgI w00 Im0 xs d1 d2 b1 b2 B off cap e i a w) (fun a w => match a.tmps.getD 11 Go.undef with | .int _ k => xs.length - k.toNat | _ => 0) ⟨0, Nat.zero_le _, h⟩ ?_
  rintro a w ⟨i, hi, h⟩
  refine img_body hl h hi (fun hlt a' w' h' => ⟨⟨i + 1, hlt, h'⟩, ?_⟩) (fun he a' w' h' => ?_)
  · have e1 := h.1.at (d := 11) (v := .int .i64 (i : Nat)) (by simp)
    have e2 := h'.1.at (d := 11) (v := .int .i64 ((i + 1 : Nat) : Int)) (by simp)
    simp only [e1, e2]
    omega
  · show Exit.inBlock 0 Q (.exit 0) a' w'
    simp only [Exit.inBlock, if_true]
    exact hexit a' w' (he ▸ h')
end
end Go.Proofs.Ytmfjebpdkgbggaa.V
