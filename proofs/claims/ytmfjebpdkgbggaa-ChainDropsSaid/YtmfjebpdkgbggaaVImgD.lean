/- image.Copy, by hand: its summary. -/
import Derived.Test.YtmfjebpdkgbggaaVImgC
set_option linter.unusedVariables false
set_option linter.unusedSimpArgs false
set_option maxRecDepth 100000
namespace Go.Proofs.Ytmfjebpdkgbggaa.V
open Go
noncomputable def f36 (d : Int × Int × List (List Int) × Unit) : Option (((Int × Int × List (List Int) × Unit) × Unit) × Unit) :=
  if d.2.2.1 ≠ [] ∧ List.length d.2.2.1 * 24 ≤ most ∧ (d.2.2.1.all fun y => decide (List.length y ≤ most)) = true then some ((d, ()), ()) else none
noncomputable def f36_sm : Sm := { ps := [.ro DiskT], rs := [(DiskT, MDt)], F := fun x => f36 x.1 }
theorem ro_rows {w : World} {Im : Nat → Prop} : ∀ {xs : List (List Int)} {cs : List Value} {h : Frag}, RepL (fun x cs h => Rep w Im (.slc (.int .u8)) .ro x cs h) xs cs h → h = []
  | [], _, _, r => r
  | _ :: _, _, _, ⟨c1, c2, h1, h2, e1, e2, r1, r2⟩ => by
    have g1 : h1 = [] := r1.1
    have g2 := ro_rows r2
    rw [e2, g1, g2]; rfl
theorem al_new (w : World) (o : Obj) : (w.alloc o).heap[w.heap.size]? = some o := Go.heap_alloc_new w o
theorem al_size (w : World) (o : Obj) : (w.alloc o).heap.size = w.heap.size + 1 := Array.size_push ..
theorem img_begin {w w3 : World} {Im : Nat → Prop} (himlt : ∀ k, Im k → k < w.heap.size) {xs : List (List Int)} (hne : xs ≠ []) {d1 d2 dh u : Value} {z : Array Value} (hz : z.size = 3)
    (hm : ImgMid2 ((w.alloc (.cells #[d1, d2, dh] 24)).alloc (.cells z 24)) Im xs u w3) :
    ∃ B off cap e Im' c, u = .slice (some ⟨B, off, none⟩) xs.length cap ∧ w3.heap[w.heap.size]? = some (.cells #[d1, d2, dh] 24 (0, 0)) ∧
      ImgJ w Im xs d1 d2 w.heap.size (w.heap.size + 1) B off cap 0 Im' c e [] (w3.setRow w.heap.size #[d1, d2, u]) := by
  obtain ⟨ImN, h1, r1, r2, r3, r4, r5, r6, r7⟩ := hm
  obtain ⟨B, off, c, e, cap, h', ecs, eh, hcap, hmax, hfit, hrows⟩ := r1.own_cons hne
  have hh := ro_rows hrows
  subst hh
  simp only [List.cons.injEq, and_true] at ecs
  have hsz1 : (w.alloc (.cells #[d1, d2, dh] 24)).heap.size = w.heap.size + 1 := al_size _ _
  have hsz2 : ((w.alloc (.cells #[d1, d2, dh] 24)).alloc (.cells z 24)).heap.size = w.heap.size + 2 := by rw [al_size, al_size]
  have k0 : ∀ k, k < w.heap.size → ((w.alloc (.cells #[d1, d2, dh] 24)).alloc (.cells z 24)).heap[k]? = w.heap[k]? := fun k hk => by
    rw [Go.heap_alloc_old _ _ (by rw [hsz1]; omega), Go.heap_alloc_old _ _ hk]
  have q1 : ((w.alloc (.cells #[d1, d2, dh] 24)).alloc (.cells z 24)).heap[w.heap.size]? = some (.cells #[d1, d2, dh] 24 (0, 0)) := by
    rw [Go.heap_alloc_old _ _ (by rw [hsz1]; omega)]
    exact al_new _ _
  have q2 : ((w.alloc (.cells #[d1, d2, dh] 24)).alloc (.cells z 24)).heap[w.heap.size + 1]? = some (.cells z 24 (0, 0)) := by
    rw [← hsz1]; exact al_new _ _
  have p1 : w3.heap[w.heap.size]? = some (.cells #[d1, d2, dh] 24 (0, 0)) := (r7.block _ (by show _ < (World.heap _).size; rw [hsz2]; omega) (by simp)).trans q1
  have p2 : w3.heap[w.heap.size + 1]? = some (.cells z 24 (0, 0)) := (r7.block _ (by show _ < (World.heap _).size; rw [hsz2]; omega) (by simp)).trans q2
  have hB := r2 (B, .cells c e) (by rw [eh]; exact List.mem_cons_self ..)
  have hBk := r4 B (by rw [eh]; simp [keys])
  have hBs : w.heap.size + 2 ≤ B := by have := hBk.2; rw [hsz2] at this; exact this
  have hge : ∀ k, ImN k → Im k ∨ w.heap.size + 2 ≤ k := fun k hk => by have := (r6 k hk).2; rw [hsz2] at this; exact this
  have hno : ∀ k, w.heap.size ≤ k → k < w.heap.size + 2 → ¬ ImN k := fun k h1 h2 hk => by
    rcases hge k hk with h3 | h3
    · have := himlt k h3; omega
    · omega
  refine ⟨B, off, cap, e, ImN, c, ecs, p1, ?_, ⟨z, hz, ?_⟩, ?_, by simpa [sz] using hfit, hcap, hmax, ?_, ?_, ?_, ?_, ?_, ?_, ?_, ?_⟩
  · rw [ecs]; exact setRow_heap w3 _ _ _ _ (0, 0) p1
  · rw [setRow_other _ _ _ _ (by omega)]; exact p2
  · rw [setRow_other _ _ _ _ (by omega)]; exact hB
  · have k1 : Keep ⟨w, [], Im, fun _ _ => .bool false⟩ w3 := ⟨r7.os, r7.tape, r7.output, by have h9 : ((w.alloc (.cells #[d1, d2, dh] 24)).alloc (.cells z 24)).heap.size ≤ w3.heap.size := r7.size; rw [hsz2] at h9; show w.heap.size ≤ w3.heap.size; omega, fun b hb hn => (r7.block b (by show _ < (World.heap _).size; rw [hsz2]; have hb : b < w.heap.size := hb; omega) (by simp)).trans (k0 b hb)⟩
    exact k1.setRow (.inl (Nat.le_refl _))
  · refine ⟨r5.im, fun k hk => ?_⟩
    have hlt := himlt k hk
    rw [setRow_other _ _ _ _ (by omega), r5.heap k hk, k0 k hlt]
  · intro k hk
    refine ⟨by rw [setRow_size]; exact (r6 k hk).1, ?_⟩
    rcases hge k hk with h3 | h3
    · exact .inl h3
    · exact .inr (by omega)
  · simp [keys]; omega
  · intro k hk
    simp only [keys, List.map_nil, List.append_nil, List.mem_cons, List.not_mem_nil, or_false] at hk
    rcases hk with rfl | rfl | rfl
    · exact ⟨hno _ (Nat.le_refl _) (by omega), Nat.le_refl _⟩
    · exact ⟨hno _ (by omega) (by omega), by omega⟩
    · exact ⟨hBk.1, by omega⟩
  · intro p hp; simp at hp
  · rw [List.take_zero]; rfl
  · have g : Grow w3 (w3.setRow w.heap.size #[d1, d2, u]) ImN ImN := ⟨fun _ h => h, fun k hk => setRow_other _ _ _ _ (by rintro rfl; exact hno _ (Nat.le_refl _) (by omega) hk)⟩
    rw [List.drop_zero, Nat.add_zero]
    exact hrows.mono fun _ _ _ r => r.grow g
theorem img_wp {Q : Exit → Act → World → Prop} {w : World} {Im : Nat → Prop} (himlt : ∀ k, Im k → k < w.heap.size) {xs : List (List Int)} (hne : xs ≠ []) (hlen : List.length xs * 24 ≤ most) (hall : ∀ y ∈ xs, List.length y ≤ most) {d1 d2 dh : Value}
    (o1 : d1.oneCell' = true) (o2 : d2.oneCell' = true) (rd : Rep w Im (.slc (.slc (.int .u8))) .ro xs [dh] []) {a : Act} (hs0 : Sl [(0, .agg #[d1, d2, dh])] a)
    (hQ : ∀ a w5 B off cap e Im' c h, a.defers = [] → a.tmps.getD 2 Go.undef = .pointer (some ⟨w.heap.size + 1, 0, none⟩) → ImgJ w Im xs d1 d2 w.heap.size (w.heap.size + 1) B off cap xs.length Im' c e h w5 → Q .ret a (w5.setRow (w.heap.size + 1) #[d1, d2, .slice (some ⟨B, off, none⟩) xs.length cap])) :
    imgCode.wp Try.prog Q a w := by
  obtain ⟨⟨ti, hti⟩, _⟩ := imgE 24 _ rfl
  obtain ⟨z, hz1, hz2⟩ := hti.zero rfl
  have hzs : z.cells.size = 3 := by rw [← Array.length_toList, hz2]; rfl
  unfold imgCode
  refine wp_seq (wp_region ?_)
  refine wpOps_val (o := imgOps0[0]) rfl rfl (v := .pointer (some ⟨w.heap.size, 0, none⟩)) (w' := w.alloc (.cells #[d1, d2, dh] 24)) (by
    show (do let v ← Instr.box 24 (a.tmps.getD 0 Go.undef); pure (Next.value v) : Sem Next).run Try.prog w = _
    rw [hs0.at (d := 0) (v := .agg #[d1, d2, dh]) (by simp)]
    simp [Instr.box, newVar, newRow, Value.cells]) ?_
  have hs1 : Sl [(1, .pointer (some ⟨w.heap.size, 0, none⟩))] (a.put (some 1) (.pointer (some ⟨w.heap.size, 0, none⟩))) := hs0.put (by decide) (by simp)
  show wpOps _ _ _ _ (a.put (some 1) (.pointer (some ⟨w.heap.size, 0, none⟩))) _
  generalize (a.put (some 1) (.pointer (some ⟨w.heap.size, 0, none⟩))) = a1 at hs1
  refine wpOps_val (o := imgOps0[1]) rfl rfl (v := .pointer (some ⟨w.heap.size + 1, 0, none⟩)) (w' := (w.alloc (.cells #[d1, d2, dh] 24)).alloc (.cells z.cells 24)) (by
    show (do let v ← Instr.alloc 24 true (.tuple #[]); pure (Next.value v) : Sem Next).run Try.prog _ = _
    simp only [Instr.alloc, zeroValue, typeInfo, newVar, newRow, Sem.run_bind]
    simp [hti.info, hz1]) ?_
  have hs2 : Sl [(1, .pointer (some ⟨w.heap.size, 0, none⟩)), (2, .pointer (some ⟨w.heap.size + 1, 0, none⟩))] (a1.put (some 2) (.pointer (some ⟨w.heap.size + 1, 0, none⟩))) := hs1.put (by decide) (by simp)
  show Exit.then _ _ .normal (a1.put (some 2) (.pointer (some ⟨w.heap.size + 1, 0, none⟩))) _
  generalize (a1.put (some 2) (.pointer (some ⟨w.heap.size + 1, 0, none⟩))) = a2 at hs2
  have k0 : ∀ k, k < w.heap.size → ((w.alloc (.cells #[d1, d2, dh] 24)).alloc (.cells z.cells 24)).heap[k]? = w.heap[k]? := fun k hk => by
    rw [Go.heap_alloc_old _ _ (by rw [al_size]; omega), Go.heap_alloc_old _ _ hk]
  have q1 : ((w.alloc (.cells #[d1, d2, dh] 24)).alloc (.cells z.cells 24)).heap[w.heap.size]? = some (.cells #[d1, d2, dh] 24 (0, 0)) := by
    rw [Go.heap_alloc_old _ _ (by rw [al_size]; omega)]
    exact al_new _ _
  have hw2s : w.heap.size ≤ ((w.alloc (.cells #[d1, d2, dh] 24)).alloc (.cells z.cells 24)).heap.size := by rw [al_size, al_size]; omega
  have hbeg := fun (w3 : World) (u : Value) (hm : ImgMid2 ((w.alloc (.cells #[d1, d2, dh] 24)).alloc (.cells z.cells 24)) Im xs u w3) => img_begin himlt hne hzs hm
  have rd2 : Rep ((w.alloc (.cells #[d1, d2, dh] 24)).alloc (.cells z.cells 24)) Im (.slc (.slc (.int .u8))) .ro xs [dh] [] := rd.frame (fun _ h => h) (fun k hk => k0 k (himlt k hk))
  have him2 : ∀ k, Im k → k < ((w.alloc (.cells #[d1, d2, dh] 24)).alloc (.cells z.cells 24)).heap.size := fun k hk => Nat.lt_of_lt_of_le (himlt k hk) hw2s
  generalize ((w.alloc (.cells #[d1, d2, dh] 24)).alloc (.cells z.cells 24)) = w2 at k0 q1 hw2s hbeg rd2 him2
  refine wp_seq (wp_region ?_)
  refine wpOps_val (o := imgOps1[0]) rfl rfl (v := .pointer (some ⟨w.heap.size, 2, none⟩)) (w' := w2) (by
    show (do let v ← Instr.fieldAt 24 (a2.tmps.getD 1 Go.undef) 2; pure (Next.value v) : Sem Next).run Try.prog _ = _
    rw [hs2.at (d := 1) (v := .pointer (some ⟨w.heap.size, 0, none⟩)) (by simp), Sem.run_bind, img_field]; rfl) ?_
  have hs3 : Sl [(1, .pointer (some ⟨w.heap.size, 0, none⟩)), (2, .pointer (some ⟨w.heap.size + 1, 0, none⟩)), (4, .pointer (some ⟨w.heap.size, 2, none⟩))] (a2.put (some 4) (.pointer (some ⟨w.heap.size, 2, none⟩))) := hs2.put (by decide) (by simp)
  show wpOps _ _ _ _ (a2.put (some 4) (.pointer (some ⟨w.heap.size, 2, none⟩))) _
  generalize (a2.put (some 4) (.pointer (some ⟨w.heap.size, 2, none⟩))) = a3 at hs3
  refine wpOps_val (o := imgOps1[1]) rfl rfl (v := dh) (w' := w2) (by
    show (do let v ← Instr.loadAt 22 (a3.tmps.getD 4 Go.undef); pure (Next.value v) : Sem Next).run Try.prog _ = _
    rw [hs3.at (d := 4) (v := .pointer (some ⟨w.heap.size, 2, none⟩)) (by simp), Sem.run_bind, img_load (tid := 22) rfl rfl rfl q1 rfl]; rfl) ?_
  have hs4 : Sl [(1, .pointer (some ⟨w.heap.size, 0, none⟩)), (2, .pointer (some ⟨w.heap.size + 1, 0, none⟩)), (5, dh)] (a3.put (some 5) dh) := hs3.put (by decide) (by simp)
  show wpOps _ _ _ _ (a3.put (some 5) dh) _
  generalize (a3.put (some 5) dh) = a4 at hs4
  refine wpOps_enter (o := imgOps1[2]) (f := 70) (args := #[dh]) (w' := w2) rfl rfl (by
    obtain ⟨fn, hfn, hn1, hn2⟩ : FnOk Try.prog 70 := ⟨Try.f70, Try.func70, by kernel_rfl, by kernel_rfl⟩
    have n1 : ¬ fn.name = "runtime.NumGoroutine" := by simpa using hn1
    have n2 : ¬ fn.body = none := by intro e; rw [e] at hn2; cases hn2
    rw [← hs4.at (d := 5) (v := dh) (by simp)]
    simp [execOp, imgOps1, resolve, Deferred.ofValue, invoke, callFunc, hfn, n1, n2, Act.eval]) ?_
  refine Calls.mono (img_clone2 him2 rd2 hlen) fun en w3 hq => ?_
  obtain ⟨u, rfl, hm⟩ := hq
  refine ⟨u, rfl, ?_⟩
  obtain ⟨B, off, cap, e, Im', c, eu, hb1, J⟩ := hbeg w3 u hm
  have hs5 : Sl [(1, .pointer (some ⟨w.heap.size, 0, none⟩)), (2, .pointer (some ⟨w.heap.size + 1, 0, none⟩)), (6, u)] (a4.put (some 6) u) := hs4.put (by decide) (by simp)
  show wpOps _ _ _ _ (a4.put (some 6) u) _
  generalize (a4.put (some 6) u) = a5 at hs5
  refine wpOps_val (o := imgOps1[3]) rfl rfl (v := .pointer (some ⟨w.heap.size, 2, none⟩)) (w' := w3) (by
    show (do let v ← Instr.fieldAt 24 (a5.tmps.getD 1 Go.undef) 2; pure (Next.value v) : Sem Next).run Try.prog _ = _
    rw [hs5.at (d := 1) (v := .pointer (some ⟨w.heap.size, 0, none⟩)) (by simp), Sem.run_bind, img_field]; rfl) ?_
  have hs6 : Sl [(1, .pointer (some ⟨w.heap.size, 0, none⟩)), (2, .pointer (some ⟨w.heap.size + 1, 0, none⟩)), (6, u), (7, .pointer (some ⟨w.heap.size, 2, none⟩))] (a5.put (some 7) (.pointer (some ⟨w.heap.size, 2, none⟩))) := hs5.put (by decide) (by simp)
  show wpOps _ _ _ _ (a5.put (some 7) (.pointer (some ⟨w.heap.size, 2, none⟩))) _
  generalize (a5.put (some 7) (.pointer (some ⟨w.heap.size, 2, none⟩))) = a6 at hs6
  refine wpOps_skip (o := imgOps1[4]) rfl rfl (w' := w3.setRow w.heap.size #[d1, d2, u]) (by
    show (do Instr.storeAt 22 (a6.tmps.getD 7 Go.undef) (a6.tmps.getD 6 Go.undef); pure Next.skip : Sem Next).run Try.prog _ = _
    rw [hs6.at (d := 7) (v := .pointer (some ⟨w.heap.size, 2, none⟩)) (by simp), hs6.at (d := 6) (v := u) (by simp)]
    have hst := run_storeAt (P := Try.prog) imgE (tid := 22) (te := _) rfl (w := w3) (b := w.heap.size) (o := 2) hb1 (v := u) (cs := [u]) (by rw [eu]; rfl) rfl (by rw [eu]; simp [Value.oneCell']) (by simp)
    rw [Sem.run_bind, hst]; rfl) ?_
  show Exit.then _ _ .normal (a6.put none Go.undef) _
  have hs7 : Sl [(1, .pointer (some ⟨w.heap.size, 0, none⟩)), (2, .pointer (some ⟨w.heap.size + 1, 0, none⟩))] (a6.put none Go.undef) := ⟨hs6.tz, hs6.df, fun p hp => hs6.base p (by simp at hp ⊢; rcases hp with h | h <;> simp [h])⟩
  generalize (a6.put none Go.undef) = a7 at hs7
  subst eu
  refine wp_seq (wp_seq (wp_region ?_))
  refine wpOps_val (o := imgOps2[0]) rfl rfl (v := .pointer (some ⟨w.heap.size, 2, none⟩)) (w' := w3.setRow w.heap.size #[d1, d2, .slice (some ⟨B, off, none⟩) xs.length cap]) (by
    show (do let v ← Instr.fieldAt 24 (a7.tmps.getD 1 Go.undef) 2; pure (Next.value v) : Sem Next).run Try.prog _ = _
    rw [hs7.at (d := 1) (v := .pointer (some ⟨w.heap.size, 0, none⟩)) (by simp), Sem.run_bind, img_field]; rfl) ?_
  have hs8 : Sl [(1, .pointer (some ⟨w.heap.size, 0, none⟩)), (2, .pointer (some ⟨w.heap.size + 1, 0, none⟩)), (8, .pointer (some ⟨w.heap.size, 2, none⟩))] (a7.put (some 8) (.pointer (some ⟨w.heap.size, 2, none⟩))) := hs7.put (by decide) (by simp)
  show wpOps _ _ _ _ (a7.put (some 8) (.pointer (some ⟨w.heap.size, 2, none⟩))) _
  generalize (a7.put (some 8) (.pointer (some ⟨w.heap.size, 2, none⟩))) = a8 at hs8
  generalize (w3.setRow w.heap.size #[d1, d2, .slice (some ⟨B, off, none⟩) xs.length cap]) = w4 at J
  refine wpOps_val (o := imgOps2[1]) rfl rfl (v := .slice (some ⟨B, off, none⟩) xs.length cap) (w' := w4) (by
    show (do let v ← Instr.loadAt 22 (a8.tmps.getD 8 Go.undef); pure (Next.value v) : Sem Next).run Try.prog _ = _
    rw [hs8.at (d := 8) (v := .pointer (some ⟨w.heap.size, 2, none⟩)) (by simp), Sem.run_bind, img_load (tid := 22) rfl rfl rfl J.hb1 rfl]; rfl) ?_
  have hs9 : Sl [(1, .pointer (some ⟨w.heap.size, 0, none⟩)), (2, .pointer (some ⟨w.heap.size + 1, 0, none⟩)), (9, .slice (some ⟨B, off, none⟩) xs.length cap)] (a8.put (some 9) (.slice (some ⟨B, off, none⟩) xs.length cap)) := hs8.put (by decide) (by simp)
  show wpOps _ _ _ _ (a8.put (some 9) (.slice (some ⟨B, off, none⟩) xs.length cap)) _
  generalize (a8.put (some 9) (.slice (some ⟨B, off, none⟩) xs.length cap)) = a9 at hs9
  refine wpOps_val (o := imgOps2[2]) rfl rfl (v := .int .i64 (xs.length : Nat)) (w' := w4) (by
    rw [show execOp a9.eval imgOps2[2] = execOp a9.eval imgOps2[2] from rfl]
    have h9 := hs9.at (d := 9) (v := .slice (some ⟨B, off, none⟩) xs.length cap) (by simp)
    have hu := (imgE.slc (t := 22) rfl rfl).1
    have h9' : a9.eval (.tmp 9) = .slice (some ⟨B, off, none⟩) xs.length cap := h9
    simp [execOp, imgOps2, resolve, invoke, builtin, h9', Builtin.len_, Builtin.lenOf, run_underlying hu, goInt]) ?_
  have hs10 : Sl [(1, .pointer (some ⟨w.heap.size, 0, none⟩)), (2, .pointer (some ⟨w.heap.size + 1, 0, none⟩)), (10, .int .i64 (xs.length : Nat))] (a9.put (some 10) (.int .i64 (xs.length : Nat))) := hs9.put (by decide) (by simp)
  show wpOps _ _ _ _ (a9.put (some 10) (.int .i64 (xs.length : Nat))) _
  generalize (a9.put (some 10) (.int .i64 (xs.length : Nat))) = a10 at hs10
  refine wpOps_val (o := imgOps2[3]) rfl rfl (v := .int .i64 ((0 : Nat) : Int)) (w' := w4) rfl ?_
  have hs11 : Sl [(1, .pointer (some ⟨w.heap.size, 0, none⟩)), (2, .pointer (some ⟨w.heap.size + 1, 0, none⟩)), (10, .int .i64 (xs.length : Nat)), (11, .int .i64 ((0 : Nat) : Int))] (a10.put (some 11) (.int .i64 ((0 : Nat) : Int))) := hs10.put (by decide) (by simp)
  show Exit.then _ _ .normal (a10.put (some 11) (.int .i64 ((0 : Nat) : Int))) _
  refine img_loop hall (b2 := w.heap.size + 1) ⟨hs11, _, _, _, J⟩ (fun a w5 hI => ?_)
  obtain ⟨hs12, Im5, c5, h5, J5⟩ := hI
  show Code.wp Try.prog (Code.seq (Code.region 7 imgOps7 false) Code.ret) Q a w5
  refine wp_seq (wp_region ?_)
  obtain ⟨v5, hv5, hp5⟩ := run_load (P := Try.prog) imgE (tid := 24) (te := _) rfl (o := 0) J5.hb1 (cs := [d1, d2, .slice (some ⟨B, off, none⟩) xs.length cap]) rfl rfl
  have ev5 : v5 = .agg #[d1, d2, .slice (some ⟨B, off, none⟩) xs.length cap] := hp5
  subst ev5
  refine wpOps_val (o := imgOps7[0]) rfl rfl (v := .agg #[d1, d2, .slice (some ⟨B, off, none⟩) xs.length cap]) (w' := w5) (by
    show (do let v ← Instr.loadAt 24 (a.tmps.getD 1 Go.undef); pure (Next.value v) : Sem Next).run Try.prog _ = _
    rw [hs12.at (d := 1) (v := .pointer (some ⟨w.heap.size, 0, none⟩)) (by simp), Sem.run_bind, hv5]; rfl) ?_
  have hs13 : Sl [(2, .pointer (some ⟨w.heap.size + 1, 0, none⟩)), (25, .agg #[d1, d2, .slice (some ⟨B, off, none⟩) xs.length cap])] (a.put (some 25) (.agg #[d1, d2, .slice (some ⟨B, off, none⟩) xs.length cap])) := hs12.put (by decide) (by simp)
  show wpOps _ _ _ _ (a.put (some 25) (.agg #[d1, d2, .slice (some ⟨B, off, none⟩) xs.length cap])) _
  generalize (a.put (some 25) (.agg #[d1, d2, .slice (some ⟨B, off, none⟩) xs.length cap])) = a13 at hs13
  obtain ⟨z5, hz5, hb2⟩ := J5.hb2
  refine wpOps_skip (o := imgOps7[1]) rfl rfl (w' := w5.setRow (w.heap.size + 1) #[d1, d2, .slice (some ⟨B, off, none⟩) xs.length cap]) (by
    show (do Instr.storeAt 24 (a13.tmps.getD 2 Go.undef) (a13.tmps.getD 25 Go.undef); pure Next.skip : Sem Next).run Try.prog _ = _
    rw [hs13.at (d := 2) (v := .pointer (some ⟨w.heap.size + 1, 0, none⟩)) (by simp), hs13.at (d := 25) (v := .agg #[d1, d2, .slice (some ⟨B, off, none⟩) xs.length cap]) (by simp)]
    have hst := run_storeAt (P := Try.prog) imgE (tid := 24) (te := _) rfl (w := w5) (b := w.heap.size + 1) (o := 0) hb2 (v := .agg #[d1, d2, .slice (some ⟨B, off, none⟩) xs.length cap]) (cs := [d1, d2, .slice (some ⟨B, off, none⟩) xs.length cap]) rfl rfl (by
      intro u hu
      simp only [List.mem_cons, List.not_mem_nil, or_false] at hu
      rcases hu with rfl | rfl | rfl
      · exact o1
      · exact o2
      · rfl) (by simp [hz5])
    rw [Sem.run_bind, hst]
    have ez : z5.toList.drop 3 = [] := List.drop_of_length_le (by simp [hz5])
    simp [ez]) ?_
  show Exit.then _ _ .normal (a13.put none Go.undef) _
  exact wp_ret (hQ _ w5 B off cap e Im5 c5 h5 hs13.df (hs13.at (d := 2) (by simp)) J5)
theorem sl0 (v : Value) : Sl [(0, v)] ({ tmps := [v].toArray ++ Array.replicate (26 - ([v] : List Value).toArray.size) Go.undef, defers := [] } : Act) := by
  refine ⟨by simp, rfl, fun p hp => ?_⟩
  simp only [List.mem_singleton] at hp
  subst hp
  simp
theorem f36_ok : SmOk Try.prog 36 f36_sm := by
  intro w Im us x h r himlt hargs hheap hnod hdis hr
  obtain ⟨v, vs', cs, rfl, hp, hrep, rfl, rfl⟩ := hargs
  obtain ⟨⟨dt, ds, xs, du⟩, xu⟩ := x
  have hr : f36 (dt, ds, xs, du) = some r := hr
  unfold f36 at hr
  split at hr
  case isFalse => cases hr
  rename_i hcond
  cases hr
  obtain ⟨hne, hlen, hall⟩ := hcond
  have hall : ∀ y ∈ xs, List.length y ≤ most := fun y hy => by simpa using List.all_eq_true.1 hall y hy
  obtain ⟨c1, c2, h1, h2, ec, eh, r1, c3, c4, h3, h4, e34, eh34, r2, c5, c6, h5, h6, e56, eh56, rd, r3⟩ := hrep
  have e1 : c1 = [.int .i64 dt] := r1.1
  have e3 : c3 = [.int .i64 ds] := r2.1
  have e6 : c6 = [] := r3.1
  have rd : Rep w Im (.slc (.slc (.int .u8))) .ro xs c5 h5 := rd
  have eh5 : h5 = [] := rd.1
  subst eh5
  obtain ⟨dh, rfl⟩ : ∃ dh, c5 = [dh] := by
    have hl := rd.len
    match c5, hl with
    | [dh], _ => exact ⟨dh, rfl⟩
  subst e1; subst e3; subst e6; subst e56; subst e34
  subst ec
  have hp : v = .agg #[.int .i64 dt, .int .i64 ds, dh] := hp
  subst hp
  refine calls_of_wp (fn := Try.f36) Try.func36 img_code ?_
  have hnt : Try.f36.ntmps = 26 := rfl
  rw [hnt]
  have hs0 := sl0 (.agg #[.int .i64 dt, .int .i64 ds, dh])
  generalize hga : ({ tmps := [.agg #[.int .i64 dt, .int .i64 ds, dh]].toArray ++ Array.replicate (26 - ([.agg #[.int .i64 dt, .int .i64 ds, dh]] : List Value).toArray.size) Go.undef, defers := [] } : Act) = a0 at hs0 ⊢
  refine img_wp himlt hne hlen hall rfl rfl rd hs0 (fun a w5 B off cap e Im' c h ha t2 J => ?_)
  have hb2lt := J.lt (w.heap.size + 1) (by simp)
  obtain ⟨z5, hz5, hb2⟩ := J.hb2
  have nod := J.nod
  have hne2 : ∀ k, k ∈ keys ((B, Obj.cells c e (0, 0)) :: h) → k ≠ w.heap.size + 1 := by
    intro k hk hh
    subst hh
    rw [keys_cons] at hk
    rcases List.mem_cons.1 hk with hk | hk
    · have hk : w.heap.size + 1 = B := hk
      rw [← hk] at nod; simp at nod
    · simp [hk] at nod
  have hn2 : ¬ Im' (w.heap.size + 1) := (J.fresh _ (by simp)).1
  have gg : Grow w5 (w5.setRow (w.heap.size + 1) #[.int .i64 dt, .int .i64 ds, .slice (some ⟨B, off, none⟩) xs.length cap]) Im' Im' := ⟨fun _ h => h, fun k hk => setRow_other _ _ _ _ (by rintro rfl; exact hn2 hk)⟩
  have hkk := J.keep.setRow (k := w.heap.size + 1) (c := #[.int .i64 dt, .int .i64 ds, .slice (some ⟨B, off, none⟩) xs.length cap]) (.inl (J.fresh _ (by simp)).2)
  have hgr := J.grow.trans gg
  have hrd := setRow_heap w5 (w.heap.size + 1) z5 #[.int .i64 dt, .int .i64 ds, .slice (some ⟨B, off, none⟩) xs.length cap] 24 (0, 0) hb2
  have hho : ∀ k, k ≠ w.heap.size + 1 → (w5.setRow (w.heap.size + 1) #[.int .i64 dt, .int .i64 ds, .slice (some ⟨B, off, none⟩) xs.length cap]).heap[k]? = w5.heap[k]? := fun k hk => setRow_other _ _ _ _ hk
  have hsz6 : (w5.setRow (w.heap.size + 1) #[.int .i64 dt, .int .i64 ds, .slice (some ⟨B, off, none⟩) xs.length cap]).heap.size = w5.heap.size := setRow_size ..
  generalize (w5.setRow (w.heap.size + 1) #[.int .i64 dt, .int .i64 ds, .slice (some ⟨B, off, none⟩) xs.length cap]) = w6 at gg hkk hgr hrd hho hsz6
  obtain ⟨v6, hv6, hp6⟩ := run_load (P := Try.prog) imgE (tid := 24) (te := _) rfl (o := 0) hrd (cs := [.int .i64 dt, .int .i64 ds, .slice (some ⟨B, off, none⟩) xs.length cap]) rfl rfl
  refine ⟨ha, _, run_results (us := [v6]) ?_, [v6], Im', (B, .cells c e (0, 0)) :: h, [], rfl, .inl ⟨rfl, v6, [], [.int .i64 dt, .int .i64 ds, .slice (some ⟨B, off, none⟩) xs.length cap], (B, .cells c e (0, 0)) :: h, [], rfl, by simp, hp6, ?_, rfl, rfl⟩, ⟨_, [], rfl, rfl⟩, ?_, ?_, ?_, hgr, ?_, hkk⟩
  · show (List.mapM (rvRun a.tmps) [.cell 2 24]).run Try.prog w6 = _
    have h1 : (rvRun a.tmps (.cell 2 24)).run Try.prog w6 = .ok v6 w6 := by
      show (do loadVar 24 (← asAddr (a.tmps.getD 2 Go.undef)) : Sem Value).run Try.prog w6 = _
      rw [t2]
      simpa [Instr.loadAt, Instr.sureAddr, asAddr] using hv6
    simp [List.mapM_cons, h1]
  · refine ⟨[.int .i64 dt], [.int .i64 ds, .slice (some ⟨B, off, none⟩) xs.length cap], [], (B, .cells c e (0, 0)) :: h, rfl, rfl, ⟨rfl, rfl⟩, [.int .i64 ds], [.slice (some ⟨B, off, none⟩) xs.length cap], [], (B, .cells c e (0, 0)) :: h, rfl, rfl, ⟨rfl, rfl⟩, [.slice (some ⟨B, off, none⟩) xs.length cap], [], (B, .cells c e (0, 0)) :: h, [], rfl, by simp, ?_, rfl, rfl⟩
    have hown := J.own
    rw [List.take_length] at hown
    exact .inr ⟨B, off, c, e, cap, h, rfl, rfl, J.hcap, J.hmax, by simpa [sz] using J.hc, hown.mono fun _ _ _ r => r.grow gg⟩
  · intro p hp
    rw [List.append_nil] at hp
    rw [hho _ (hne2 _ (keys_mem.2 ⟨p, hp, rfl⟩))]
    rcases List.mem_cons.1 hp with rfl | hp
    · exact J.hB
    · exact J.heap p hp
  · rw [List.append_nil, keys_cons]
    have : ([w.heap.size, w.heap.size + 1] ++ (B :: keys h)).Nodup := nod
    exact (List.nodup_append.1 this).2.1
  · intro k hk
    rw [List.append_nil, keys_cons] at hk
    obtain ⟨f1, f2⟩ := J.fresh k (by
      rcases List.mem_cons.1 hk with rfl | hk
      · simp
      · exact List.mem_append_right _ hk)
    exact ⟨f1, .inl f2⟩
  · intro k hk
    obtain ⟨f1, f2⟩ := J.imr k hk
    exact ⟨by rw [hsz6]; exact f1, f2.imp id .inl⟩
theorem f36_c : CalOk Try.prog 36 f36_sm := .inl ⟨f36_ok, ⟨Try.f36, Try.func36, by kernel_rfl, by kernel_rfl⟩⟩
end Go.Proofs.Ytmfjebpdkgbggaa.V
