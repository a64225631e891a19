/- Mfm, the reading: parts. -/
import Derived.Test.YtlgbhaigpecdoaaVPureMfmC
set_option linter.unusedVariables false
set_option linter.unusedSimpArgs false
namespace Go.Proofs.Ytlgbhaigpecdoaa.V
open Go
def valB (l : List Bool) : Nat := l.foldl (fun v b => 2 * v + (if b = true then 1 else 0)) 0
def pk (l : List Bool) : Nat → Int
  | 0 => 0
  | j + 1 => if l.getD j false = true then bitop .u8 .or (pk l j) (Int.fdiv 128 (2 ^ (min (Int.toNat (Int.tmod (j : Int) 8)) 8))) else pk l j
theorem eight {α : Type} {l : List α} (h : l.length = 8) : ∃ a b c d e f g i, l = [a, b, c, d, e, f, g, i] := by
  match l, h with
  | [a, b, c, d, e, f, g, i], _ => exact ⟨a, b, c, d, e, f, g, i, rfl⟩
theorem pk_all : ∀ a b c d e f g i : Bool, pk [a, b, c, d, e, f, g, i] 8 = ((valB [a, b, c, d, e, f, g, i] : Nat) : Int) := by decide +kernel
theorem pk_eq {l : List Bool} (h : l.length = 8) : pk l 8 = ((valB l : Nat) : Int) := by
  obtain ⟨a, b, c, d, e, f, g, i, rfl⟩ := eight h
  exact pk_all a b c d e f g i
theorem val_all : ∀ a b c d e f g i : Bool, valB [a, b, c, d, e, f, g, i] < 256 ∧ bits8 ((valB [a, b, c, d, e, f, g, i] : Nat) : Int) = [a, b, c, d, e, f, g, i] := by decide +kernel
theorem valB_lt {l : List Bool} (h : l.length = 8) : valB l < 256 := by
  obtain ⟨a, b, c, d, e, f, g, i, rfl⟩ := eight h
  exact (val_all a b c d e f g i).1
theorem bits_val {l : List Bool} (h : l.length = 8) : bits8 ((valB l : Nat) : Int) = l := by
  obtain ⟨a, b, c, d, e, f, g, i, rfl⟩ := eight h
  exact (val_all a b c d e f g i).2
theorem pack91 (l : List Bool) (h : l.length = 8) : f91 l = some (([((valB l : Nat) : Int)], ()), ()) := by
  unfold f91 f91_k
  rw [h]
  have e1 : IntKind.i64.wrap (Int.tdiv ((8 : Nat) : Int) 8) = 1 := by decide +kernel
  simp only
  rw [e1, if_pos ⟨by decide, by decide, by rw [most_eq]; decide, by decide, by decide⟩]
  have e2 : List.replicate (Int.toNat 1) (0 : Int) = [0] := rfl
  rw [e2]
  have e3 : IntKind.i64.wrap ((8 : Int) * ((List.length [(0 : Int)] : Nat) : Int)) = ((8 : Nat) : Int) := by decide +kernel
  rw [e3]
  have main : f91_l3 l ((8 : Nat) : Int) ((0 : Int), [(0 : Int)]) = some [pk l 8] := by
    unfold f91_l3
    refine loop_go (fun j => ((j : Int), [pk l j])) 8 rfl (fun j hj => ?_) ?_
    · unfold f91_l3_g f91_l3_k
      simp only
      rw [dlt hj]
      simp only [cond_true]
      rw [if_pos (in_row (by omega)), Int.toNat_natCast, wj (by omega)]
      have m8 : (j : Int).tmod 8 = ((j % 8 : Nat) : Int) := (Int.ofNat_tmod _ 8).symm
      have d8 : (j : Int).tdiv 8 = ((j / 8 : Nat) : Int) := (Int.ofNat_tdiv _ 8).symm
      simp only [pk]
      cases hb : l.getD j false with
      | true =>
        simp only [cond_true, if_true]
        rw [d8, show j / 8 = 0 by omega]
        have e4 : IntKind.i64.wrap ((0 : Nat) : Int) = 0 := by decide +kernel
        rw [e4, if_pos ⟨by decide, by simp⟩, if_neg (by rw [m8]; omega), if_pos ⟨by decide, by simp⟩]
        rfl
      | false =>
        simp only [cond_false, Bool.false_eq_true, if_false]
    · unfold f91_l3_g f91_l3_k
      simp only
      rw [dge]; rfl
  rw [main, pk_eq h]
  rfl
def addPart (out : List Part) (mark : Bool) (c : Int) : List Part :=
  if mark = true then out ++ [(true, ([], ()))]
  else if out.length = 0 then [(false, ([c], ()))]
  else out.set (out.length - 1) ((out.getD (out.length - 1) (false, ([], ()))).1, ((out.getD (out.length - 1) (false, ([], ()))).2.1 ++ [c], (out.getD (out.length - 1) (false, ([], ()))).2.2))
theorem last_set {α : Type} (d : α) : ∀ (out : List α), out.length ≠ 0 → ∃ l x, out = l ++ [x] ∧ out.getD (out.length - 1) d = x ∧ ∀ y, out.set (out.length - 1) y = l ++ [y] := by
  intro out h
  rcases List.eq_nil_or_concat out with e | ⟨l, x, e⟩
  · rw [e] at h; exact absurd rfl h
  · subst e
    refine ⟨l, x, by simp, ?_, fun y => ?_⟩
    · simp [List.getD_eq_getElem?_getD]
    · simp [List.set_append]
theorem bbL_app (a b : List Part) : bbL (a ++ b) = bbL a ++ bbL b := by simp [bbL]
theorem bbL_one (p : Part) : bbL [p] = bbP p := by simp [bbL]
theorem plain8_app (a b : List Int) : plain8 (a ++ b) = plain8 a ++ plain8 b := by simp [plain8]
theorem bbL_add (out : List Part) (mark : Bool) (c : Int) : bbL (addPart out mark c) = bbL out ++ (if mark = true then mark8 else plain8 [c]) := by
  unfold addPart
  by_cases hm : mark = true
  · rw [if_pos hm, if_pos hm, bbL_app, bbL_one]; simp [bbP, plain8]
  rw [if_neg hm, if_neg hm]
  by_cases h0 : out.length = 0
  · rw [if_pos h0]
    have : out = [] := List.length_eq_zero_iff.1 h0
    subst this
    simp [bbL, bbP]
  · rw [if_neg h0]
    obtain ⟨l, x, e1, e2, e3⟩ := last_set (false, (([] : List Int), ())) out h0
    rw [e2, e3, bbL_app, bbL_one, congrArg bbL e1, bbL_app, bbL_one]
    obtain ⟨x1, x2, ⟨⟩⟩ := x
    simp [bbP, plain8_app]
theorem tot_add (out : List Part) (mark : Bool) (c : Int) : tot (addPart out mark c) = tot out + 1 := by
  have := congrArg List.length (bbL_add out mark c)
  rw [bbL_len, List.length_append, bbL_len] at this
  split at this
  · rw [mark8_eq] at this; simp at this; omega
  · unfold plain8 at this; rw [List.length_map, flat8_len] at this; simp at this; omega
theorem add_ok (out : List Part) (mark : Bool) {c : Int} (hc : 0 ≤ c ∧ c < 256) (h : partsOk out) : partsOk (addPart out mark c) := by
  unfold addPart
  by_cases hm : mark = true
  · rw [if_pos hm]
    intro p hp
    rcases List.mem_append.1 hp with hp | hp
    · exact h p hp
    · simp at hp; subst hp; intro x hx; simp at hx
  rw [if_neg hm]
  by_cases h0 : out.length = 0
  · rw [if_pos h0]
    intro p hp
    simp at hp; subst hp; intro x hx; simp at hx; subst hx; exact hc
  · rw [if_neg h0]
    obtain ⟨l, x, e1, e2, e3⟩ := last_set (false, (([] : List Int), ())) out h0
    rw [e2, e3]
    have hx : partsOk (l ++ [x]) := by rw [← e1]; exact h
    intro p hp
    rcases List.mem_append.1 hp with hp | hp
    · exact hx p (List.mem_append_left _ hp)
    · simp at hp; subst hp
      intro y hy
      rcases List.mem_append.1 hy with hy | hy
      · exact hx x (by simp) y hy
      · simp at hy; subst hy; exact hc
theorem add_len (out : List Part) (mark : Bool) (c : Int) : (addPart out mark c).length ≤ out.length + 1 := by
  unfold addPart
  split
  · simp
  · split
    · simp
    · simp
theorem part_len {out : List Part} {p : Part} (h : p ∈ out) : p.2.1.length ≤ tot out := by
  induction out with
  | nil => cases h
  | cons q l ih =>
    rcases List.mem_cons.1 h with e | h
    · subst e; simp only [tot, szP]; omega
    · have := ih h; simp only [tot]; omega
abbrev Cd := Bool × Bool
def markOf (ch : List Cd) : Bool := !(ch.getD 5 (false, false)).2 && !(ch.getD 4 (false, false)).2 && !(ch.getD 5 (false, false)).1
def val8 (ch : List Cd) : Nat := valB (ch.map (·.2))
def bbC (ch : List Cd) : List (Bool × Bool) := (List.range 8).map fun k => ((ch.getD k (false, false)).2, markOf ch && (k == 5))
def pl : Bool → List (Bool × Bool) → List Cd
  | _, [] => []
  | last, p :: l => (!p.1 && !last && !p.2, p.1) :: pl p.1 l
theorem pl_append : ∀ (a : List (Bool × Bool)) (last : Bool) (b : List (Bool × Bool)), pl last (a ++ b) = pl last a ++ pl (lastB last a) b
  | [], _, _ => rfl
  | p :: a, last, b => by simp [pl, lastB, pl_append a]
theorem pl_len : ∀ (a : List (Bool × Bool)) (last : Bool), (pl last a).length = a.length
  | [], _ => rfl
  | p :: a, last => by simp [pl, pl_len a]
def flat2 (l : List Cd) : List Bool := l.flatMap fun p => [p.1, p.2]
theorem plcs_pl : ∀ (a : List (Bool × Bool)) (last : Bool), plcs last a = flat2 (pl last a)
  | [], _ => rfl
  | p :: a, last => by simp [plcs, pl, flat2, plcs_pl a]
theorem flat2_inj : ∀ {a b : List Cd}, flat2 a = flat2 b → a = b
  | [], [], _ => rfl
  | [], _ :: _, h => by simp [flat2] at h
  | _ :: _, [], h => by simp [flat2] at h
  | (x, y) :: a, (z, w) :: b, h => by
    simp only [flat2, List.flatMap_cons, List.cons_append, List.nil_append, List.cons.injEq] at h
    rw [h.1, h.2.1, flat2_inj (a := a) (b := b) h.2.2]
theorem bbC_len (ch : List Cd) : (bbC ch).length = 8 := by simp [bbC]
def goodM (ch : List Cd) : Bool := !(markOf ch && !(val8 ch == 161))
theorem snd_get (ch : List Cd) (k : Nat) : (ch.map (·.2)).getD k false = (ch.getD k (false, false)).2 := by
  rw [List.getD_eq_getElem?_getD, List.getElem?_map, List.getD_eq_getElem?_getD]
  cases ch[k]? <;> rfl
theorem bbC_mark {ch : List Cd} (h : ch.length = 8) (hm : markOf ch = true) (hg : goodM ch = true) : bbC ch = mark8 := by
  have hv : val8 ch = 161 := by unfold goodM at hg; rw [hm] at hg; simpa using hg
  have hb := bits_val (l := ch.map (·.2)) (by simpa using h)
  have hv' : valB (ch.map (·.2)) = 161 := hv
  rw [hv'] at hb
  unfold bbC mark8
  apply List.map_congr_left
  intro k hk
  have hk : k < 8 := by simpa using hk
  rw [hm, Bool.true_and]
  have : (ch.map (·.2)).getD k false = bitC 161 k := by
    rw [← hb]
    show (bits8 161).getD k false = _
    unfold bits8
    rw [List.getD_eq_getElem?_getD, List.getElem?_map, List.getElem?_range hk]; rfl
  rw [← this, snd_get]
theorem bbC_plain {ch : List Cd} (h : ch.length = 8) (hm : markOf ch = false) : bbC ch = plain8 [((val8 ch : Nat) : Int)] := by
  have hb := bits_val (l := ch.map (·.2)) (by simpa using h)
  unfold plain8
  rw [show [((val8 ch : Nat) : Int)].flatMap bits8 = bits8 ((valB (ch.map (·.2)) : Nat) : Int) by simp [val8], hb]
  obtain ⟨a, b, c, d, e, f, g, i, rfl⟩ := eight h
  unfold bbC
  rw [hm]
  rfl
theorem bbC_add {ch : List Cd} (h : ch.length = 8) (hg : goodM ch = true) : bbC ch = if markOf ch = true then mark8 else plain8 [((val8 ch : Nat) : Int)] := by
  by_cases hm : markOf ch = true
  · rw [if_pos hm]; exact bbC_mark h hm hg
  · rw [if_neg hm]; exact bbC_plain h (by simpa using hm)
def lastD (last : Bool) (ch : List Cd) : Bool := lastB last (bbC ch)
def stepI (ch : List Cd) (s : Bool × List Part) : (Bool × List Part) ⊕ (Unit ⊕ List Part) :=
  if pl s.1 (bbC ch) = ch then (if goodM ch = true then .inl (lastD s.1 ch, addPart s.2 (markOf ch) ((val8 ch : Nat) : Int)) else .inr (.inl ())) else .inr (.inl ())
def stepR (ch : List Cd) (s : Nat × List Part) : (Nat × List Part) ⊕ (Unit ⊕ (Int × List Part)) :=
  if goodM ch = true then .inl (s.1 + 1, addPart s.2 (markOf ch) ((val8 ch : Nat) : Int)) else .inr (.inl ())
def xx (K : List (List Cd)) : List (Bool × Bool) := K.flatMap bbC
theorem both_sides : ∀ (K : List (List Cd)) (last : Bool) (out : List Part) (n : Nat), (∀ ch ∈ K, ch.length = 8) →
    (foldE stepR (fun s => .inr ((s.1 : Int), s.2)) K (n, out) = .inl () ∧ foldE stepI (fun s => .inr s.2) K (last, out) = .inl ()) ∨
    ∃ out', foldE stepR (fun s => .inr ((s.1 : Int), s.2)) K (n, out) = .inr (((n + K.length : Nat) : Int), out') ∧ bbL out' = bbL out ++ xx K ∧ tot out' = tot out + K.length ∧ (partsOk out → partsOk out') ∧
      foldE stepI (fun s => .inr s.2) K (last, out) = if pl last (xx K) = K.flatten then .inr out' else .inl ()
  | [], last, out, n, _ => .inr ⟨out, by simp [foldE_nil], by simp [xx], by simp, id, by simp [foldE_nil, xx, pl]⟩
  | ch :: K, last, out, n, h => by
    have h8 := h ch (List.mem_cons_self ..)
    have hK := fun c hc => h c (List.mem_cons_of_mem _ hc)
    rw [foldE_cons, foldE_cons]
    by_cases hg : goodM ch = true
    · have sR : stepR ch (n, out) = .inl (n + 1, addPart out (markOf ch) ((val8 ch : Nat) : Int)) := if_pos hg
      rw [sR]
      have hc := valB_lt (l := ch.map (·.2)) (by simpa using h8)
      rcases both_sides K (lastD last ch) (addPart out (markOf ch) ((val8 ch : Nat) : Int)) (n + 1) hK with ⟨e1, e2⟩ | ⟨out', e1, e2, e3, e4, e5⟩
      · refine .inl ⟨e1, ?_⟩
        by_cases hp : pl last (bbC ch) = ch
        · have sI : stepI ch (last, out) = .inl (lastD last ch, addPart out (markOf ch) ((val8 ch : Nat) : Int)) := by unfold stepI; rw [if_pos hp, if_pos hg]
          rw [sI]; exact e2
        · have sI : stepI ch (last, out) = .inr (.inl ()) := by unfold stepI; rw [if_neg hp]
          rw [sI]
      · refine .inr ⟨out', ?_, ?_, ?_, fun ho => e4 (add_ok _ _ ⟨by omega, by unfold val8; omega⟩ ho), ?_⟩
        · refine e1.trans ?_
          rw [show n + (ch :: K).length = n + 1 + K.length by simp; omega]
        · rw [e2, bbL_add, ← bbC_add h8 hg, List.append_assoc]; rfl
        · rw [e3, tot_add]; simp; omega
        · have hx : pl last (xx (ch :: K)) = pl last (bbC ch) ++ pl (lastD last ch) (xx K) := by
            show pl last (bbC ch ++ xx K) = _
            rw [pl_append]; rfl
          rw [hx, List.flatten_cons]
          by_cases hp : pl last (bbC ch) = ch
          · have sI : stepI ch (last, out) = .inl (lastD last ch, addPart out (markOf ch) ((val8 ch : Nat) : Int)) := by unfold stepI; rw [if_pos hp, if_pos hg]
            rw [sI]
            simp only
            rw [e5, hp]
            by_cases hq : pl (lastD last ch) (xx K) = K.flatten
            · rw [if_pos hq, if_pos (by rw [hq])]
            · rw [if_neg hq, if_neg (fun e => hq (List.append_cancel_left e))]
          · have sI : stepI ch (last, out) = .inr (.inl ()) := by unfold stepI; rw [if_neg hp]
            rw [sI, if_neg]
            intro e
            exact hp (List.append_inj_left e (by rw [pl_len, bbC_len, h8]))
    · left
      have sR : stepR ch (n, out) = .inr (.inl ()) := if_neg hg
      rw [sR]
      refine ⟨rfl, ?_⟩
      by_cases hp : pl last (bbC ch) = ch
      · have sI : stepI ch (last, out) = .inr (.inl ()) := by unfold stepI; rw [if_pos hp, if_neg hg]
        rw [sI]
      · have sI : stepI ch (last, out) = .inr (.inl ()) := by unfold stepI; rw [if_neg hp]
        rw [sI]
def chk8 (P : List Bool) (j : Nat) : List Cd := (List.range 8).map fun k => (P.getD (2 * (8 * j + k)) false, P.getD (2 * (8 * j + k) + 1) false)
def eights (P : List Bool) (q : Nat) : List (List Cd) := (List.range q).map (chk8 P)
theorem chk8_len (P : List Bool) (j : Nat) : (chk8 P j).length = 8 := by simp [chk8]
theorem chk8_get (P : List Bool) (j k : Nat) (h : k < 8) : (chk8 P j).getD k (false, false) = (P.getD (2 * (8 * j + k)) false, P.getD (2 * (8 * j + k) + 1) false) := by
  unfold chk8
  rw [List.getD_eq_getElem?_getD, List.getElem?_map, List.getElem?_range h]; rfl
theorem eights_len (P : List Bool) (q : Nat) : (eights P q).length = q := by simp [eights]
theorem eights_get (P : List Bool) {q j : Nat} (h : j < q) : (eights P q).getD j [] = chk8 P j := by
  unfold eights
  rw [List.getD_eq_getElem?_getD, List.getElem?_map, List.getElem?_range h]; rfl
theorem eights_8 (P : List Bool) (q : Nat) : ∀ ch ∈ eights P q, ch.length = 8 := by
  intro ch hc
  obtain ⟨j, _, rfl⟩ := List.mem_map.1 hc
  exact chk8_len P j
theorem eights_flat (P : List Bool) (q : Nat) : (eights P q).flatten = (List.range (8 * q)).map fun i => (P.getD (2 * i) false, P.getD (2 * i + 1) false) := by
  induction q with
  | zero => rfl
  | succ q ih =>
    have e : eights P (q + 1) = eights P q ++ [chk8 P q] := by simp [eights, List.range_succ]
    rw [e, List.flatten_append, ih, show 8 * (q + 1) = 8 * q + 8 by omega, List.range_add, List.map_append, List.map_map]
    simp [chk8, Function.comp_def]
theorem flat2_pairs (P : List Bool) (m : Nat) (h : P.length = 2 * m) : flat2 ((List.range m).map fun i => (P.getD (2 * i) false, P.getD (2 * i + 1) false)) = P := by
  have : ∀ m, m * 2 ≤ P.length → flat2 ((List.range m).map fun i => (P.getD (2 * i) false, P.getD (2 * i + 1) false)) = P.take (2 * m) := by
    intro m
    induction m with
    | zero => intro _; rfl
    | succ m ih =>
      intro hm
      rw [List.range_succ, List.map_append]
      unfold flat2 at ih ⊢
      rw [List.flatMap_append, ih (by omega), show 2 * (m + 1) = 2 * m + 1 + 1 by omega, take_succ_getD (d := false) (by omega : 2 * m + 1 < P.length), take_succ_getD (d := false) (by omega : 2 * m < P.length)]
      simp
  rw [this m (by omega), ← h, List.take_length]
theorem places_eights (P : List Bool) (q : Nat) (h : P.length = 2 * (8 * q + 1)) (hl : P.getD (16 * q + 1) false = true) : P = flat2 ((eights P q).flatten ++ [(P.getD (16 * q) false, true)]) := by
  have := flat2_pairs P (8 * q + 1) h
  rw [List.range_succ, List.map_append, ← eights_flat] at this
  simp only [List.map_cons, List.map_nil] at this
  rw [show 2 * (8 * q) = 16 * q by omega, hl] at this
  exact this.symm
theorem unp_last {L : List Nat} (h : L ≠ []) : ∀ {n : Nat}, (unp L).length = n + 1 → (unp L).getD n false = true := by
  intro n hn
  rcases List.eq_nil_or_concat L with e | ⟨l, x, e⟩
  · exact absurd e h
  · subst e
    have : unp (l ++ [x]) = (unp l ++ List.replicate (x - 1) false) ++ [true] := by simp [unp, unp1]
    rw [List.concat_eq_append] at hn ⊢
    rw [this] at hn ⊢
    have hk : (unp l ++ List.replicate (x - 1) false).length = n := by rw [List.length_append] at hn; simp at hn ⊢; omega
    rw [getD_app, if_neg (by omega), hk]; simp
end Go.Proofs.Ytlgbhaigpecdoaa.V
