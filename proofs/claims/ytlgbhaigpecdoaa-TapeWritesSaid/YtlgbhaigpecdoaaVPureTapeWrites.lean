/- The pure statement of TapeWrites: blocks on a tape are checked, written and read alike. -/
import Derived.Test.YtlgbhaigpecdoaaVPureTapeB
set_option linter.unusedVariables false
set_option linter.unusedSimpArgs false
namespace Go.Proofs.Ytlgbhaigpecdoaa.V
open Go

abbrev Res := List Blk × (Int × (Int × Unit))
def finA : f45_l6_Y → Res := Sum.elim (fun z => (z.2.2, (z.1, (z.2.1, ())))) (fun z => (z, ((0 : Int), ((0 : Int), ()))))
def finB : f46_l5_Y → Res := Sum.elim (fun z => (z.2.2, (z.1, (z.2.1, ())))) (fun z => if ((List.length z : Nat) : Int) > 8 then ([], ((0 : Int), ((2 : Int), ()))) else (z, ((0 : Int), ((0 : Int), ()))))
def OkR (l : List Blk) : Prop := l.length ≤ 8 ∧ ∀ b ∈ l, b.2.1.length ≤ 256
theorem many {T : List Int} (hT : Trk T) : ∀ (n p : Nat) (bs : List Blk), T.length - p < n → p ≤ T.length → 8 < bs.length → bs.length ≤ p → ∃ y', loopO f46_l5_g (T.drop p, bs) = some y' ∧ finB y' = ([], ((0 : Int), ((2 : Int), ()))) := by
  have hl := hT.len
  intro n
  induction n with
  | zero => intro p bs h; omega
  | succ n ih =>
    intro p bs hn hp h8 hbp
    by_cases hend : p = T.length
    · refine ⟨.inr bs, loopO_out ?_, ?_⟩
      · unfold f46_l5_g f46_l5_k
        simp only [List.length_drop]
        rw [decide_eq_false (by omega)]
        rfl
      · show (if ((List.length bs : Nat) : Int) > 8 then _ else _) = _
        rw [if_pos (by omega)]
    · rcases blockSim hT hp 0 with ⟨e, bl, bl', rest, r', h0, h1, h2⟩ | ⟨bl, q, u, q0, q1, hb, h1, h2⟩
      · refine ⟨.inl (0, 2, []), loopO_out ?_, rfl⟩
        unfold f46_l5_g f46_l5_k
        simp only [List.length_drop]
        rw [decide_eq_true (by omega)]
        simp only [cond_true]
        rw [h2]
        have : (e != 0) = true := by simpa using h0
        simp only [some_bind]
        rw [this, decide_eq_true (by omega)]
        rfl
      · rw [loopO_next (a' := (T.drop q, bs ++ [bl])) (by
          unfold f46_l5_g f46_l5_k
          simp only [List.length_drop]
          rw [decide_eq_true (by omega)]
          simp only [cond_true]
          rw [h2]
          simp only [some_bind, bne_self_eq_false, cond_false]
          rw [if_pos ⟨by rw [most_eq]; omega, by decide, by decide⟩])]
        exact ih q (bs ++ [bl]) (by omega) q1 (by simp; omega) (by simp; omega)
theorem few {T : List Int} (hT : Trk T) : ∀ (n p : Nat) (u0 : Int) (bs : List Blk), T.length - p < n → p ≤ T.length → OkR bs → bs.length ≤ p →
    ∃ y y', loopO (f45_l6_g T) (bs, rdr T p u0) = some y ∧ loopO f46_l5_g (T.drop p, bs) = some y' ∧ finA y = finB y' ∧ OkR (finA y).1 := by
  have hl := hT.len
  intro n
  induction n with
  | zero => intro p u0 bs h; omega
  | succ n ih =>
    intro p u0 bs hn hp hok hbp
    have h8 := hok.1
    by_cases hend : p = T.length
    · refine ⟨.inr bs, .inr bs, loopO_out ?_, loopO_out ?_, ?_, hok⟩
      · unfold f45_l6_g f45_l6_k
        simp only
        rw [decide_eq_false (by omega)]
        rfl
      · unfold f46_l5_g f46_l5_k
        simp only [List.length_drop]
        rw [decide_eq_false (by omega)]
        rfl
      · show (bs, ((0 : Int), ((0 : Int), ()))) = (if ((List.length bs : Nat) : Int) > 8 then _ else _)
        rw [if_neg (by omega)]
    · rcases blockSim hT hp u0 with ⟨e, bl, bl', rest, r', h0, h1, h2⟩ | ⟨bl, q, u, q0, q1, hb, h1, h2⟩
      · have he : (e != 0) = true := by simpa using h0
        refine ⟨.inl (e, 0, bs), .inl (e, 0, bs), loopO_out ?_, loopO_out ?_, rfl, hok⟩
        · unfold f45_l6_g f45_l6_k
          simp only
          rw [decide_eq_true (by omega)]
          simp only [cond_true]
          rw [h1]
          simp only [some_bind]
          rw [he]
          rfl
        · unfold f46_l5_g f46_l5_k
          simp only [List.length_drop]
          rw [decide_eq_true (by omega)]
          simp only [cond_true]
          rw [h2]
          simp only [some_bind]
          rw [he, decide_eq_false (by omega)]
          rfl
      · have eB : loopO f46_l5_g (T.drop p, bs) = loopO f46_l5_g (T.drop q, bs ++ [bl]) := loopO_next (by
          unfold f46_l5_g f46_l5_k
          simp only [List.length_drop]
          rw [decide_eq_true (by omega)]
          simp only [cond_true]
          rw [h2]
          simp only [some_bind, bne_self_eq_false, cond_false]
          rw [if_pos ⟨by rw [most_eq]; omega, by decide, by decide⟩])
        rw [eB]
        by_cases h9 : bs.length = 8
        · obtain ⟨y', e1, e2⟩ := many hT (T.length + 1) q (bs ++ [bl]) (by omega) q1 (by simp; omega) (by simp; omega)
          refine ⟨.inl (0, 2, []), y', loopO_out ?_, e1, e2.symm, ⟨by show List.length ([] : List Blk) ≤ 8; simp, fun b hb => by cases hb⟩⟩
          unfold f45_l6_g f45_l6_k
          simp only
          rw [decide_eq_true (by omega)]
          simp only [cond_true]
          rw [h1]
          simp only [some_bind, bne_self_eq_false, cond_false]
          rw [if_pos ⟨by rw [most_eq]; omega, by decide, by decide⟩, decide_eq_true (by simp; omega)]
          rfl
        · have eA : loopO (f45_l6_g T) (bs, rdr T p u0) = loopO (f45_l6_g T) (bs ++ [bl], rdr T q u) := loopO_next (by
            unfold f45_l6_g f45_l6_k
            simp only
            rw [decide_eq_true (by omega)]
            simp only [cond_true]
            rw [h1]
            simp only [some_bind, bne_self_eq_false, cond_false]
            rw [if_pos ⟨by rw [most_eq]; omega, by decide, by decide⟩, decide_eq_false (by simp; omega)]
            rfl)
          rw [eA]
          refine ih q u (bs ++ [bl]) (by omega) q1 ⟨by simp; omega, fun b hb' => ?_⟩ (by simp; omega)
          rcases List.mem_append.1 hb' with h | h
          · exact hok.2 b h
          · simp at h; subst h; exact hb
theorem read45 (T : List Int) (hl : T.length ≤ 140737488355328) : ∃ r : Res, f45 T = some ((r.1, (r.2.1, (r.2.2.1, ()))), ()) ∧ f46 T = some ((r.1, (r.2.1, (r.2.2.1, ()))), ()) ∧ OkR r.1 := by
  unfold f45 f45_k f46 f46_k
  rw [chk104 T hl, chk106 T hl]
  simp only [some_bind]
  by_cases h0 : errT T = 0
  · have hT := errT_ok h0
    rw [h0]
    simp only [bne_self_eq_false, cond_false]
    obtain ⟨y, y', e1, e2, e3, e4⟩ := few hT (T.length + 1) 0 0 [] (by omega) (by omega) ⟨by simp, fun b hb => by cases hb⟩ (by simp)
    have e1' : f45_l6 T ([], (T, (0, (0, ())))) = some y := e1
    have e2' : f46_l5 (T, []) = some y' := by rw [List.drop_zero] at e2; exact e2
    rw [e1', e2']
    refine ⟨finA y, ?_, ?_, e4⟩
    · cases y <;> rfl
    · rw [e3]
      cases y' with
      | inl z => rfl
      | inr z =>
        simp only [some_bind, Sum.elim_inr, finB]
        by_cases h8 : ((List.length z : Nat) : Int) > 8
        · rw [decide_eq_true h8, if_pos h8]; rfl
        · rw [decide_eq_false h8, if_neg h8]; rfl
  · have : (errT T != 0) = true := by simpa using h0
    rw [this]
    exact ⟨([], (0, (errT T, ()))), rfl, rfl, by simp [OkR]⟩
theorem Pure.TapeWrites (x0 : den (.slc (.pair (.int .i64) (.pair (.slc (.int .u8)) .unit)))) (x1 : den (.slc (.int .i64))) (w0 : ∀ y0 ∈ x0, (((Lit.int .i64 y0.1).wf = true) ∧ ((∀ y1 ∈ y0.2.1, ((Lit.int .u8 y1).wf = true)) ∧ (True)))) (s0 : List.length x0 * 32 ≤ 140737488351232 ∧ ∀ y0 ∈ x0, ((True) ∧ ((List.length y0.2.1 * 1 ≤ 140737488351232 ∧ ∀ y1 ∈ y0.2.1, (True)) ∧ (True)))) (w1 : ∀ y0 ∈ x1, ((Lit.int .i64 y0).wf = true)) (s1 : List.length x1 * 8 ≤ 140737488351232 ∧ ∀ y0 ∈ x1, (True)) : f7 x0 x1 = some ((true, ()), ()) := by
  have hb : ∀ b ∈ x0, Bytes b.2.1 := fun b hb x hx => wf_u8 ((w0 b hb).2.1 x hx)
  obtain ⟨l0, hb0, hl0⟩ := begin41
  obtain ⟨e, h42, hg, h41⟩ := write41 x0 hb
  obtain ⟨r, h45, h46, hok⟩ := read45 x1 (by have := s1.1; omega)
  have h47 : f47 r.1 r.1 () = some ((true, ()), ()) := by
    rw [eq47 r.1 r.1 (by have := hok.1; omega) (fun b hb => by have := hok.2 b hb; omega)]
    simp
  unfold f7 f7_k
  rw [hb0]
  simp only [some_bind, bne_self_eq_false, cond_false]
  have e65 : (((List.length l0 : Nat) : Int) != 65) = false := by rw [hl0]; rfl
  rw [e65]
  simp only [cond_false]
  by_cases h0 : e = 0
  · subst h0
    rw [if_pos rfl] at h41
    rw [check43, h42, h41]
    simp only [some_bind, bne_self_eq_false, beq_self_eq_true, cond_false, cond_true]
    rw [h45, h46, taped44 x0 (hg rfl) hb]
    simp only [some_bind, beq_self_eq_true, cond_true]
    rw [h47, eq33 _ _ (by
      have := flatMap_len blkW 4161 x0 (fun x hx => by
        have := (hg rfl).row x hx
        rw [blkW_len]; omega)
      have := (hg rfl).len
      omega)]
    simp
  · have h1 : (e != 0) = true := by simpa using h0
    have h2 : (e == 0) = false := by simpa using h0
    rw [if_neg h0] at h41
    rw [check43, h42, h41]
    simp only [some_bind, bne_self_eq_false, beq_self_eq_true, cond_false, cond_true, h1, h2]
    rw [h45, h46]
    simp only [some_bind, beq_self_eq_true, cond_true]
    rw [h47]
    simp
end Go.Proofs.Ytlgbhaigpecdoaa.V
