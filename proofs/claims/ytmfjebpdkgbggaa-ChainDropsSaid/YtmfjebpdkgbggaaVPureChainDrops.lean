/- chain.Drop, and the reference's: what they give. -/
import Derived.Test.YtmfjebpdkgbggaaVPureDropA
set_option linter.unusedVariables false
set_option linter.unusedSimpArgs false
namespace Go.Proofs.Ytmfjebpdkgbggaa.V
open Go
def clrS (rows : List (List Int)) (l : List Int) : List (List Int) := l.foldl (fun R s => setB R s.toNat 255) rows
theorem clrS_ok : ∀ {l : List Int} {rows : List (List Int)}, (∀ s ∈ l, s.toNat < 256) → r128 rows → 2 ≤ rows.length →
    (clrS rows l).length = rows.length ∧ r128 (clrS rows l) ∧ (∀ r, 2 ≤ r → (clrS rows l).getD r [] = rows.getD r []) ∧ rtab (clrS rows l) = l.foldl (fun T s => T.set s.toNat 255) (rtab rows)
  | [], _, _, h, _ => ⟨rfl, h, fun _ _ => rfl, rfl⟩
  | s :: l, rows, hs, h, h2 => by
    have h0 := hs s (List.mem_cons_self ..)
    have hl := setB_len rows s.toNat 255
    obtain ⟨a1, a2, a3, a4⟩ := clrS_ok (l := l) (rows := setB rows s.toNat 255) (fun x hx => hs x (List.mem_cons_of_mem _ hx)) (setB_row h _ _) (by omega)
    refine ⟨a1.trans hl, a2, fun r hr => (a3 r hr).trans (setB_ge _ h0 hr), ?_⟩
    have := rtab_set h h2 h0 255
    rw [this] at a4
    exact a4
theorem find_first {l : List Nat} {p : Nat → Bool} {m : Nat} (m1 : m < l.length) (m2 : p (l.getD m 0) = true) (m3 : ∀ j, j < m → p (l.getD j 0) = false) : l.find? p = some (l.getD m 0) := by
  have hd : l = l.take m ++ l.getD m 0 :: l.drop (m + 1) := by
    conv => lhs; rw [← List.take_append_drop m l]
    rw [List.drop_eq_getElem_cons m1]
    congr 2
    rw [List.getD_eq_getElem?_getD, List.getElem?_eq_getElem m1]; rfl
  have hn : (l.take m).find? p = none := by
    rw [List.find?_eq_none]
    intro x hx
    obtain ⟨j, hj, rfl⟩ := mem_getD 0 hx
    rw [List.length_take] at hj
    have hj' : j < m := by omega
    have e9 : (l.take m).getD j 0 = l.getD j 0 := by
      rw [List.getD_eq_getElem?_getD, List.getD_eq_getElem?_getD, List.getElem?_take_of_lt hj']
    rw [e9, m3 j hj']; simp
  have : (l.take m ++ l.getD m 0 :: l.drop (m + 1)).find? p = some (l.getD m 0) := by
    rw [List.find?_append, hn, List.find?_cons, m2]; rfl
  rw [← hd] at this
  exact this
theorem find_not {l : List Nat} {p : Nat → Bool} (h : ∀ j, j < l.length → p (l.getD j 0) = false) : l.find? p = none := by
  rw [List.find?_eq_none]
  intro x hx
  obtain ⟨j, hj, rfl⟩ := mem_getD 0 hx
  rw [h j hj]; simp
theorem find_ids (d : Disk) (s : ByteArray) : findM d s = (idsM d).find? fun i => strEq (b2s (nmL (slotL d i))) s := by
  unfold findM idsM
  rw [List.find?_filter]
  congr 1; funext i
  rw [Bool.eq_iff_iff]; simp
theorem find_lt {d : Disk} {s : ByteArray} {i : Nat} (h : findM d s = some i) : i ∈ idsM d := by
  rw [find_ids] at h
  exact List.mem_of_find?_eq_some h
def linksM (d : Disk) : List Lk := (idsM d).map fun i => secOf (lk d (i, nmL (slotL d i))) (secsOf d i)
theorem links40 (d : Disk) (hb : ∀ x ∈ d.2.2.1, byteL x) (hl : d.2.2.1.length ≤ 140737488355328) (w1 : d.1 ≤ 9223372036854775807) :
    ∃ r, f40 d = some r ∧ r.1.2.2.1 = chkM d ∧ (chkM d = 0 → ValD d ∧ tabM d = false ∧ r.1.1 = linksM d ∧ r.1.2.1 = tabL d) := by
  obtain ⟨r, r1, r2, r3⟩ := chains116 d hb hl w1
  refine ⟨r, r1, r2, fun c => ?_⟩
  obtain ⟨hg, ht, es, q, h1, h2, h3, h4⟩ := r3 c
  obtain ⟨heo, hei⟩ := dir_good hg h1
  have hu : (noneU d).length = d.2.2.1.length := List.length_replicate
  obtain ⟨s1, s2⟩ := ch_secs hg es (noneU d) [] (fun p hp => (heo p hp).1) hu h2
  have hids : es.map (·.1) = idsM d := hei
  refine ⟨⟨hg, fun i hi => ?_⟩, ht, ?_, h4⟩
  · rw [← hids] at hi
    obtain ⟨p, hp, rfl⟩ := List.mem_map.1 hi
    exact s1 p hp
  · unfold linksM
    rw [h3, s2, ← hids, List.map_map, List.nil_append]
    apply List.map_congr_left
    intro p hp
    have := (heo p hp).2.1
    simp only [Function.comp]
    rw [← this]
def zD : Disk := (0, (0, ([], ())))
def zerosN (n : Nat) : List Int := List.replicate n (0 : Int)
def cutD (d : Disk) (i : Nat) : Disk := rebM d (rtab (clrS d.2.2.1 (secsOf d i))) i (zerosN 32)
def dropM (d : Disk) (s : ByteArray) : Disk × Int := if chkM d = 0 then (match findM d s with | some i => (cutD d i, 0) | none => (zD, 4)) else (zD, chkM d)
theorem GoodD.r128 {d : Disk} (h : GoodD d) : r128 d.2.2.1 := h.row
theorem sec_lt {d : Disk} (h : ValD d) {i : Nat} (hi : i ∈ idsM d) : ∀ s ∈ secsOf d i, s.toNat < 256 ∧ s.toNat < d.2.2.1.length ∧ 0 ≤ s := fun s hs => by
  have := (h.sec i hi).rng s hs
  have := h.good.le
  omega
theorem copy36 {d : Disk} (h : GoodD d) : f36 d = some ((d, ()), ()) := by
  have hg := h.gt
  have hle := h.le
  unfold f36
  refine if_pos ⟨fun e => ?_, by rw [most_eq]; omega, ?_⟩
  · rw [e] at hg; simp at hg
  · rw [List.all_eq_true]
    intro x hx
    have := h.row x hx
    rw [this, most_eq]; decide
theorem fol37 {d : Disk} (h : ValD d) {i : Nat} (hi : i ∈ idsM d) : ∃ u, f37 d (slotL d i) (List.replicate d.2.2.1.length false) = some ((secsOf d i, (0, ())), (u, ())) := by
  have h32 := (ids_mem hi).1
  obtain ⟨r, h1, h2⟩ := fol120 h.good (slotL_byte h.good h32) (slotL_len h.good h32) (u := noneU d) List.length_replicate
  obtain ⟨u, hu⟩ := (h.sec i hi).fol
  rw [hu] at h2
  exact ⟨u, by rw [← show noneU d = List.replicate d.2.2.1.length false from rfl, h1, h2]⟩
theorem drop14 {d : Disk} (hb : ∀ x ∈ d.2.2.1, byteL x) (hl : d.2.2.1.length ≤ 140737488355328) (hv : chkM d = 0 → ValD d) (s : ByteArray) : f14 d s = some (((dropM d s).1, ((dropM d s).2, ())), ()) := by
  unfold f14 f14_k dropM
  rw [check62 d hb hl]
  simp only [some_bind]
  by_cases c : chkM d = 0
  · have hvd := hv c
    have hg := hvd.good
    have h10 := hg.gt
    have h240 := hg.le
    have e2 : (chkM d != 0) = false := by simpa using c
    rw [e2, if_pos c]
    simp only [cond_false]
    rw [find122 hg]
    simp only [some_bind]
    cases hf : findM d s with
    | none =>
      simp only
      rw [decide_eq_true (show (-1 : Int) < 0 by decide)]
      rfl
    | some i =>
      have hid := find_lt hf
      have hi := (ids_mem hid).1
      obtain ⟨k1, k2, k3, k4⟩ := clrS_ok (l := secsOf d i) (rows := d.2.2.1) (fun x hx => (sec_lt hvd hid x hx).1) hg.row (by omega)
      simp only
      rw [decide_eq_false (show ¬ ((i : Int) < 0) by omega)]
      simp only [cond_false]
      rw [copy36 hg]
      simp only [some_bind]
      rw [part38 hi (by omega) (hg.len (by omega))]
      simp only [some_bind, Int.toNat_natCast]
      have q1 : rowsOf (.pair (.int .i64) (.pair (.int .i64) (.pair (.slc (.slc (.int .u8))) .unit))) (.pair .ro (.pair .ro (.pair (.own (.own .ro)) .ro))) d = ((), ((), (d.2.2.1, ()))) := rfl
      rw [show whenS (rowsOf (.pair (.int .i64) (.pair (.int .i64) (.pair (.slc (.slc (.int .u8))) .unit))) (.pair .ro (.pair .ro (.pair (.own (.own .ro)) .ro))) d = ((), ((), (d.2.2.1, ())))) = (fun (K : Option ((Disk × Int × Unit) × Unit)) => K) from by funext K; exact if_pos q1]
      simp only
      rw [if_pos (show 2 + i / 4 < List.length d.2.2.1 by omega), if_pos ⟨by omega, by omega, by rw [most_eq]; omega, by decide, by decide⟩]
      have esl : List.take 32 (List.drop (i % 4 * 32) (d.2.2.1.getD (2 + i / 4) [])) = slotL d i := rfl
      obtain ⟨u, hfol⟩ := fol37 hvd hid
      rw [esl]
      have hfol : f37 (d.1, (d.2.1, (d.2.2.1, d.2.2.2))) (slotL d i) (List.replicate d.2.2.1.length false) = some ((secsOf d i, (0, ())), (u, ())) := hfol
      rw [hfol]
      simp only [some_bind]
      have hlp : f14_l10 (i : Int) ((List.length (secsOf d i) : Nat) : Int) ((0 : Int), ((0 : Int), (([] : List (List Int)), ()))) (secsOf d i) ((0 : Int), (d.1, (d.2.1, (d.2.2.1, d.2.2.2)))) = some (d.1, (d.2.1, (clrS d.2.2.1 (secsOf d i), ()))) := by
        unfold f14_l10 clrS
        refine (loop_all (0 : Int) (secsOf d i) (fun j R => ((j : Int), (d.1, (d.2.1, (R, ()))))) (fun _ R => R.length = d.2.2.1.length ∧ r128 R) (fun R s => setB R s.toNat 255) (fun j R hj hp => ?_) d.2.2.1 ⟨rfl, hg.row⟩ rfl (fun _ => ?_)).1
        · obtain ⟨z1, z2, z3⟩ := sec_lt hvd hid _ (getD_mem (d := 0) hj)
          obtain ⟨x, hx⟩ : ∃ x : Nat, (secsOf d i).getD j 0 = (x : Int) := ⟨_, (Int.toNat_of_nonneg z3).symm⟩
          rw [hx, Int.toNat_natCast] at z1 z2 ⊢
          refine ⟨?_, by rw [setB_len]; exact hp.1, setB_row hp.2 _ _⟩
          have hj' := hvd.sec i hid |>.len
          have hn := need_le (slotL_byte hg hi)
          unfold f14_l10_g f14_l10_k
          rw [dlt hj]
          simp only [cond_true]
          rw [if_pos (in_row hj), Int.toNat_natCast, hx, set39 (D := (d.1, (d.2.1, (R, ())))) hp.2 z1 (by show 2 ≤ R.length; omega), wj (by omega)]
          rfl
        · unfold f14_l10_g f14_l10_k
          rw [dge]
          rfl
      rw [hlp]
      simp only [some_bind]
      have hrow : (clrS d.2.2.1 (secsOf d i)).getD (2 + i / 4) [] = d.2.2.1.getD (2 + i / 4) [] := k3 _ (by omega)
      rw [part38 (D := (d.1, (d.2.1, (clrS d.2.2.1 (secsOf d i), ())))) hi (by show _ < List.length _; rw [k1]; omega) (by show List.length (List.getD _ _ _) = _; rw [hrow]; exact hg.len (by omega))]
      simp only [some_bind, Int.toNat_natCast]
      rw [show whenS (rowsOf (.pair (.int .i64) (.pair (.int .i64) (.pair (.slc (.slc (.int .u8))) .unit))) (.pair .ro (.pair .ro (.pair (.own (.own .ro)) .ro))) (d.1, (d.2.1, (clrS d.2.2.1 (secsOf d i), ()))) = ((), ((), (clrS d.2.2.1 (secsOf d i), ())))) = (fun (K : Option ((Disk × Int × Unit) × Unit)) => K) from by funext K; exact if_pos rfl]
      simp only
      rw [if_pos (show 2 + i / 4 < List.length (clrS d.2.2.1 (secsOf d i)) by rw [k1]; omega), List.length_replicate, if_pos ⟨by decide, by decide⟩]
      have hre := rebM_eq h10 k1 k2 k3 hi (b := zerosN 32)
      unfold cutD
      rw [hre]
      rfl
  · have e2 : (chkM d != 0) = true := by simpa using c
    rw [e2, if_neg c]
    rfl
theorem links_at {d : Disk} {j : Nat} (hj : j < (idsM d).length) : (linksM d).getD j ((0 : Int), (ByteArray.empty, ((0 : Int), (([] : List Int), ())))) = secOf (lk d ((idsM d).getD j 0, nmL (slotL d ((idsM d).getD j 0)))) (secsOf d ((idsM d).getD j 0)) := by
  unfold linksM
  rw [List.getD_eq_getElem?_getD, List.getElem?_map, List.getD_eq_getElem?_getD, List.getElem?_eq_getElem hj]; rfl
theorem tab_clr {d : Disk} (h : ValD d) {i : Nat} (hid : i ∈ idsM d) (a4 a5 : Disk) (p : Lk) : f15_l9 (secsOf d i) ((List.length (secsOf d i) : Nat) : Int) a4 a5 p ((0 : Int), tabL d) = some (rtab (clrS d.2.2.1 (secsOf d i))) := by
  have hg := h.good
  have h10 := hg.gt
  have hle := hg.le
  have hi := (ids_mem hid).1
  obtain ⟨k1, k2, k3, k4⟩ := clrS_ok (l := secsOf d i) (rows := d.2.2.1) (fun x hx => (sec_lt h hid x hx).1) hg.row (by omega)
  rw [k4, rtab_tabL]
  have hj' := h.sec i hid |>.len
  have hn := need_le (slotL_byte hg hi)
  have ht := tabL_len hg
  unfold f15_l9
  refine (loop_all (0 : Int) (secsOf d i) (fun j T => ((j : Int), T)) (fun _ T => T.length = 256) (fun T s => T.set s.toNat 255) (fun j T hj hp => ?_) (tabL d) ht rfl (fun _ => ?_)).1
  · obtain ⟨z1, z2, z3⟩ := sec_lt h hid _ (getD_mem (d := 0) hj)
    refine ⟨?_, by rw [List.length_set]; exact hp⟩
    unfold f15_l9_g f15_l9_k
    rw [dlt hj]
    simp only [cond_true]
    rw [if_pos (in_row hj), Int.toNat_natCast, if_pos ⟨z3, by rw [hp]; omega⟩, wj (by omega)]
  · unfold f15_l9_g f15_l9_k
    rw [dge]
    rfl
theorem ref15 {d : Disk} (hb : ∀ x ∈ d.2.2.1, byteL x) (hl : d.2.2.1.length ≤ 140737488355328) (w1 : d.1 ≤ 9223372036854775807) (s : ByteArray) : f15 d s = some (((dropM d s).1, ((dropM d s).2, ())), ()) := by
  obtain ⟨r, r1, r2, r3⟩ := links40 d hb hl w1
  unfold f15 f15_k dropM
  rw [r1]
  simp only [some_bind]
  rw [r2]
  by_cases c : chkM d = 0
  · obtain ⟨hv, ht, hls, htab⟩ := r3 c
    have hg := hv.good
    have e2 : (chkM d != 0) = false := by simpa using c
    have h32 := ids_len d
    have hlen : (linksM d).length = (idsM d).length := List.length_map _
    rw [e2, if_pos c, hls, htab]
    simp only [cond_false]
    have hin : ∀ j : Nat, j < (linksM d).length → f15_l5_g s (linksM d) ((List.length (linksM d) : Nat) : Int) d ((0 : Int), ((0 : Int), (([] : List (List Int)), ()))) (tabL d) (j : Int) = some (if (strEq (b2s (nmL (slotL d ((idsM d).getD j 0)))) s) = true then .inr (.inl (cutD d ((idsM d).getD j 0))) else .inl ((j : Int) + 1)) := fun j hj => by
      have hid : (idsM d).getD j 0 ∈ idsM d := getD_mem (by omega)
      have hi := (ids_mem hid).1
      unfold f15_l5_g f15_l5_k
      rw [dlt hj]
      simp only [cond_true]
      rw [if_pos (in_row hj), Int.toNat_natCast, wj (by omega), links_at (by omega)]
      have e1 : (secOf (lk d ((idsM d).getD j 0, nmL (slotL d ((idsM d).getD j 0)))) (secsOf d ((idsM d).getD j 0))).2.1 = b2s (nmL (slotL d ((idsM d).getD j 0))) := rfl
      have e3 : (secOf (lk d ((idsM d).getD j 0, nmL (slotL d ((idsM d).getD j 0)))) (secsOf d ((idsM d).getD j 0))).2.2.2.1 = secsOf d ((idsM d).getD j 0) := rfl
      have e4 : (secOf (lk d ((idsM d).getD j 0, nmL (slotL d ((idsM d).getD j 0)))) (secsOf d ((idsM d).getD j 0))).1 = (((idsM d).getD j 0 : Nat) : Int) := rfl
      rw [e1, e3, e4]
      cases strEq (b2s (nmL (slotL d ((idsM d).getD j 0)))) s with
      | false => rfl
      | true =>
        simp only [cond_true, if_true]
        rw [tab_clr hv hid]
        simp only [some_bind]
        obtain ⟨k1, k2, k3, k4⟩ := clrS_ok (l := secsOf d ((idsM d).getD j 0)) (rows := d.2.2.1) (fun x hx => (sec_lt hv hid x hx).1) hg.row (by have := hg.gt; omega)
        rw [reb41 hg (rtab_len k2 (by have := hg.gt; omega)) hi List.length_replicate]
        rfl
    have hout : f15_l5_g s (linksM d) ((List.length (linksM d) : Nat) : Int) d ((0 : Int), ((0 : Int), (([] : List (List Int)), ()))) (tabL d) ((linksM d).length : Int) = some (.inr (.inr ())) := by
      unfold f15_l5_g f15_l5_k
      rw [dge]; rfl
    unfold f15_l5
    rcases search (Y := Disk ⊕ Unit) (linksM d).length (fun j => strEq (b2s (nmL (slotL d ((idsM d).getD j 0)))) s) (fun m => .inl (cutD d ((idsM d).getD m 0))) (.inr ()) hin hout with ⟨m, m1, m2, m3, e⟩ | ⟨m1, e⟩
    · have hf : findM d s = some ((idsM d).getD m 0) := by
        rw [find_ids]
        exact find_first (p := fun i => strEq (b2s (nmL (slotL d i))) s) (by omega) m2 m3
      rw [e, hf]
      rfl
    · have hf : findM d s = none := by
        rw [find_ids]
        exact find_not (p := fun i => strEq (b2s (nmL (slotL d i))) s) (fun j hj => m1 j (by omega))
      rw [e, hf]
      rfl
  · have e2 : (chkM d != 0) = true := by simpa using c
    rw [e2, if_neg c]
    rfl
theorem setB_bytes {rows : List (List Int)} (h : ∀ x ∈ rows, byteL x) {i : Nat} {c : Int} (hc : 0 ≤ c ∧ c < 256) : ∀ x ∈ setB rows i c, byteL x := by
  intro x hx
  unfold setB at hx
  by_cases hi : i / 128 < rows.length
  · rcases List.mem_or_eq_of_mem_set hx with hx | hx
    · exact h x hx
    · subst hx
      intro y hy
      rcases List.mem_or_eq_of_mem_set hy with hy | hy
      · exact h _ (getD_mem hi) y hy
      · subst hy; exact hc
  · rw [List.set_eq_of_length_le (Nat.not_lt.1 hi)] at hx
    exact h x hx
theorem clrS_bytes : ∀ {l : List Int} {rows : List (List Int)}, (∀ x ∈ rows, byteL x) → ∀ x ∈ clrS rows l, byteL x
  | [], _, h => h
  | s :: l, rows, h => clrS_bytes (l := l) (rows := setB rows s.toNat 255) (setB_bytes h ⟨by decide, by decide⟩)
theorem byteL_app {a b : List Int} (ha : byteL a) (hb : byteL b) : byteL (a ++ b) := fun x hx => (List.mem_append.1 hx).elim (ha x) (hb x)
theorem spl_bytes {xs ys : List Int} {lo k : Nat} (hx : byteL xs) (hy : byteL ys) : byteL (spl xs lo k ys) := byteL_app (byteL_app (byteL_take hx _) (byteL_take hy _)) (byteL_drop hx _)
theorem getD_bytes {rows : List (List Int)} (h : ∀ x ∈ rows, byteL x) (i : Nat) : byteL (rows.getD i []) := by
  by_cases hi : i < rows.length
  · exact h _ (getD_mem hi)
  · rw [List.getD_eq_getElem?_getD, List.getElem?_eq_none (Nat.not_lt.1 hi)]
    intro x hx; cases hx
theorem rebM_bytes {d : Disk} (hd : ∀ x ∈ d.2.2.1, byteL x) {T : List Int} (hT : byteL T) {e : Nat} {b : List Int} (hb : byteL b) : bytesD (rebM d T e b) := by
  intro x hx
  obtain ⟨r, hr, rfl⟩ := List.mem_map.1 hx
  unfold rebR
  split
  · exact byteL_take (byteL_drop hT _) _
  · split
    · exact spl_bytes (getD_bytes hd _) hb
    · exact getD_bytes hd _
theorem zerosN_bytes (n : Nat) : byteL (zerosN n) := fun x hx => by rw [(List.mem_replicate.1 hx).2]; omega
theorem dropM_ok {d : Disk} (hb : ∀ x ∈ d.2.2.1, byteL x) (hv : chkM d = 0 → ValD d) (s : ByteArray) : bytesD (dropM d s).1 ∧ (dropM d s).1.2.2.1.length ≤ 240 := by
  have hz : bytesD zD ∧ zD.2.2.1.length ≤ 240 := ⟨fun x hx => (by cases hx), by decide⟩
  unfold dropM
  split
  · rename_i c
    have hg := (hv c).good
    split
    · refine ⟨rebM_bytes hb ?_ (zerosN_bytes 32), ?_⟩
      · unfold rtab
        exact byteL_app (getD_bytes (clrS_bytes hb) 0) (getD_bytes (clrS_bytes hb) 1)
      · show (List.map _ (List.range d.2.2.1.length)).length ≤ 240
        rw [List.length_map, List.length_range]; exact hg.le
    · exact hz
  · exact hz
theorem Pure.ChainDrops (x0 : den (.pair (.int .i64) (.pair (.int .i64) (.pair (.slc (.slc (.int .u8))) .unit)))) (x1 : ByteArray) (w0 : ((Lit.int .i64 x0.1).wf = true) ∧ (((Lit.int .i64 x0.2.1).wf = true) ∧ ((∀ y0 ∈ x0.2.2.1, (∀ y1 ∈ y0, ((Lit.int .u8 y1).wf = true))) ∧ (True)))) (s0 : (True) ∧ ((True) ∧ ((List.length x0.2.2.1 * 24 ≤ 140737488351232 ∧ ∀ y0 ∈ x0.2.2.1, (List.length y0 * 1 ≤ 140737488351232 ∧ ∀ y1 ∈ y0, (True))) ∧ (True)))) (w1 : x1.size ≤ maxLen) (s1 : x1.size ≤ 140737488351232) : f4 x0 x1 = some ((true, ()), ()) := by
  have hb : ∀ x ∈ x0.2.2.1, byteL x := fun x hx y hy => wf_u8 (w0.2.2.1 x hx y hy)
  have hl : x0.2.2.1.length ≤ 140737488355328 := by have := s0.2.2.1.1; omega
  have w1' := (wf_i64 w0.1).2
  obtain ⟨r, r1, r2, r3⟩ := links40 x0 hb hl w1'
  have hv : chkM x0 = 0 → ValD x0 := fun c => (r3 c).1
  obtain ⟨n1, n2⟩ := dropM_ok hb hv x1
  show f4 x0 x1 = some ((true, ()), ())
  unfold f4 f4_k
  rw [drop14 hb hl hv, ref15 hb hl w1', begun38]
  simp only [some_bind, cond_true]
  rw [beq_self_eq_true]
  simp only [cond_true]
  rw [same19 _ _ (by omega) n1 n1]
  simp
end Go.Proofs.Ytmfjebpdkgbggaa.V
