/- Objects: how they are laid one behind the other. -/
import Derived.Test.YtmfjebpdkgbggaaDoorVPureObjA
set_option linter.unusedVariables false
set_option linter.unusedSimpArgs false
namespace Go.Proofs.YtmfjebpdkgbggaaDoor.V
open Go
def ob0 : ObT := (ByteArray.empty, (([] : List Int), (([] : List LbT), (([] : List FxT), ()))))
def zC : CdT := ((0 : Int), (([] : List Int), (([] : List LbT), ())))
theorem foldE_g {A S Y Z : Type} {f : A → S → S ⊕ Y} {f2 : A → S → S ⊕ Z} {fin : S → Y} {fin2 : S → Z} (g : Y → Z) (h : ∀ a s, f2 a s = match f a s with | .inl s' => .inl s' | .inr y => .inr (g y)) (hf : ∀ s, fin2 s = g (fin s)) : ∀ (l : List A) (s : S), foldE f2 fin2 l s = g (foldE f fin l s)
  | [], s => hf s
  | a :: l, s => by
    rw [foldE_cons, foldE_cons, h]
    cases f a s with
    | inl s' => exact foldE_g g h hf l s'
    | inr y => rfl
def allF (o : ObT) (_ : Unit) : Unit ⊕ ((Int × CdT) ⊕ Unit) := if chkO o ≠ 0 then .inr (.inl (chkO o, zC)) else .inl ()
def allM (l : List ObT) : (Int × CdT) ⊕ Unit := foldE allF (fun _ => .inr ()) l ()
theorem all8 {l : List ObT} (hl : l.length ≤ 1048576) (h : ∀ o ∈ l, OkO o) (a1 : Int) : f8_l6 l a1 l ((List.length l : Nat) : Int) zC 0 = some (allM l) := by
  unfold f8_l6 allM
  refine loop_list ob0 l (fun j _ => (j : Int)) (fun _ _ => True) allF (fun _ => .inr ()) (fun j s hj _ => ⟨?_, fun s' hs => trivial⟩) (fun s hp => ?_) () trivial rfl
  · unfold f8_l6_g f8_l6_k
    rw [dlt hj]
    simp only [cond_true]
    rw [if_pos (in_row hj), Int.toNat_natCast]
    have e0 : List.getD l j (ByteArray.empty, (([] : List Int), (([] : List LbT), (([] : List FxT), ())))) = l.getD j ob0 := rfl
    rw [e0, chk5 (h _ (getD_mem hj)), wj (by omega)]
    simp only [some_bind]
    unfold allF
    by_cases c : chkO (l.getD j ob0) = 0
    · rw [if_neg (fun hh => hh c), c]; rfl
    · rw [if_pos c, bne_iff_ne.2 c]; rfl
  · unfold f8_l6_g f8_l6_k
    rw [dge]; rfl
theorem all9 {l : List ObT} (hl : l.length ≤ 1048576) (h : ∀ o ∈ l, OkO o) (a1 : Int) : f9_l6 l a1 l ((List.length l : Nat) : Int) zC 0 = some (allM l) := by
  unfold f9_l6 allM
  refine loop_list ob0 l (fun j _ => (j : Int)) (fun _ _ => True) allF (fun _ => .inr ()) (fun j s hj _ => ⟨?_, fun s' hs => trivial⟩) (fun s hp => ?_) () trivial rfl
  · unfold f9_l6_g f9_l6_k
    rw [dlt hj]
    simp only [cond_true]
    rw [if_pos (in_row hj), Int.toNat_natCast]
    have e0 : List.getD l j (ByteArray.empty, (([] : List Int), (([] : List LbT), (([] : List FxT), ())))) = l.getD j ob0 := rfl
    rw [e0, chk6 (h _ (getD_mem hj)), wj (by omega)]
    simp only [some_bind]
    unfold allF
    by_cases c : chkO (l.getD j ob0) = 0
    · rw [if_neg (fun hh => hh c), c]; rfl
    · rw [if_pos c, bne_iff_ne.2 c]; rfl
  · unfold f9_l6_g f9_l6_k
    rw [dge]; rfl
theorem all_good : ∀ (l : List ObT), (∀ o ∈ l, OkO o) → allM l = .inr () → ∀ o ∈ l, GoodO o
  | [], _, _, o, ho => by cases ho
  | a :: l, h, he, o, ho => by
    unfold allM at he
    rw [foldE_cons] at he
    unfold allF at he
    by_cases c : chkO a = 0
    · rw [if_neg (fun hh => hh c)] at he
      rcases List.mem_cons.1 ho with rfl | ho
      · exact good_of (h _ (List.mem_cons_self ..)) c
      · exact all_good l (fun o ho => h o (List.mem_cons_of_mem _ ho)) he o ho
    · rw [if_pos c] at he; cases he
def nms (L : List LbT) : List ByteArray := L.map (·.1)
def kn (L : List LbT) : List (ByteArray × Int) := L.map fun x => (x.1, x.2.1)
def lkup (n : ByteArray) (L : List LbT) : Option Int := (L.find? fun x => strEq n x.1).map (·.2.1)
theorem kn_find (n : ByteArray) : ∀ L : List LbT, mfind .str (.int .i64) (kn L) n = lkup n L
  | [] => rfl
  | x :: L => by
    have ih := kn_find n L
    show (if strEq n x.1 = true then some x.2.1 else mfind .str (.int .i64) (kn L) n) = lkup n (x :: L)
    unfold lkup at ih ⊢
    rw [List.find?_cons]
    cases strEq n x.1
    · simpa using ih
    · rfl
theorem lkup_some (n : ByteArray) (L : List LbT) : (lkup n L).isSome = has n (nms L) := by
  unfold lkup has nms
  rw [Option.isSome_map, List.any_map]
  induction L with
  | nil => rfl
  | cons x L ih =>
    rw [List.find?_cons, List.any_cons, ← ih]
    show _ = (strEq n x.1 || _)
    cases strEq n x.1 <;> rfl
theorem kn_set {n : ByteArray} {v : Int} : ∀ {L : List LbT}, has n (nms L) = false → mset .str (.int .i64) (kn L) n v = kn (L ++ [(n, (v, ()))])
  | [], _ => rfl
  | x :: L, h => by
    have e : has n (nms (x :: L)) = (strEq n x.1 || has n (nms L)) := rfl
    rw [e, Bool.or_eq_false_iff] at h
    show (if strEq n x.1 = true then (x.1, v) :: kn L else (x.1, x.2.1) :: mset .str (.int .i64) (kn L) n v) = _
    rw [if_neg (by rw [h.1]; simp), kn_set h.2]
    rfl
theorem lkup_new {n : ByteArray} {v : Int} {L : List LbT} (h : has n (nms L) = false) : lkup n (L ++ [(n, (v, ()))]) = some v := by
  unfold lkup
  rw [List.find?_append]
  have hn : L.find? (fun x => strEq n x.1) = none := by
    rw [List.find?_eq_none]
    intro x hx hh
    have := List.any_eq_false.1 h x.1 (List.mem_map.2 ⟨x, hx, rfl⟩)
    exact this hh
  rw [hn]
  simp [strEq_refl]
def labF (b : Int) (n : Nat) (x : LbT) (L : List LbT) : List LbT ⊕ (Unit ⊕ List LbT) := if has x.1 (nms L) = true then .inr (.inl ()) else .inl (L ++ [(x.1, (b + n + x.2.1, ()))])
def labM (b : Int) (n : Nat) (xs : List LbT) (L : List LbT) : Unit ⊕ List LbT := foldE (labF b n) (fun L => .inr L) xs L
theorem labF_inl {b : Int} {n : Nat} {x : LbT} {L L' : List LbT} (h : labF b n x L = .inl L') : L' = L ++ [(x.1, (b + n + x.2.1, ()))] ∧ has x.1 (nms L) = false := by
  unfold labF at h
  split at h
  · cases h
  · rename_i c; cases h; exact ⟨rfl, by simpa using c⟩
def LabOk (L : List LbT) : Prop := ∀ x ∈ L, 0 ≤ x.2.1 ∧ x.2.1 ≤ 200000
theorem labM_ok {b : Int} {n : Nat} (hb : 0 ≤ b ∧ b ≤ 65535) (hn : n ≤ 65536) : ∀ (xs : List LbT) (L : List LbT), (∀ x ∈ xs, 0 ≤ x.2.1 ∧ x.2.1 ≤ 4096) → LabOk L → ∀ L', labM b n xs L = .inr L' → LabOk L' ∧ L'.length ≤ L.length + xs.length
  | [], L, _, h, L', e => by cases e; exact ⟨h, by simp⟩
  | x :: xs, L, hx, h, L', e => by
    unfold labM at e
    rw [foldE_cons] at e
    cases hf : labF b n x L with
    | inl s =>
      rw [hf] at e
      obtain ⟨e1, _⟩ := labF_inl hf
      subst e1
      have h0 := hx x (List.mem_cons_self ..)
      obtain ⟨r1, r2⟩ := labM_ok hb hn xs _ (fun y hy => hx y (List.mem_cons_of_mem _ hy)) (fun y hy => by
        rcases List.mem_append.1 hy with hy | hy
        · exact h y hy
        · rw [List.mem_singleton.1 hy]
          show 0 ≤ b + n + x.2.1 ∧ b + n + x.2.1 ≤ 200000
          omega) L' e
      refine ⟨r1, ?_⟩
      rw [List.length_append, List.length_singleton] at r2
      rw [List.length_cons]; omega
    | inr y =>
      rw [hf] at e
      have e : y = .inr L' := e
      subst e
      unfold labF at hf
      split at hf <;> cases hf
theorem lab20 {b : Int} {n : Nat} (hb : 0 ≤ b ∧ b ≤ 65535) {xs : List LbT} (hxl : xs.length ≤ 64) (hx : ∀ x ∈ xs, 0 ≤ x.2.1 ∧ x.2.1 ≤ 4096) {out : List Int} (ho : out.length = n) (hn : n ≤ 65536) {L0 : List LbT} (hL : L0.length ≤ 1024) (a1 : List ObT) (a2 a3 : Int) (a9 : ObT) :
    f20_l7 b a1 a2 a3 xs ((List.length xs : Nat) : Int) out a9 ((0 : Int), L0) = some (labM b n xs L0) := by
  unfold f20_l7 labM
  refine loop_list lb0 xs (fun j L => ((j : Int), L)) (fun j L => L.length ≤ 1024 + j) (labF b n) (fun L => .inr L) (fun j L hj hp => ⟨?_, fun s' hs => ?_⟩) (fun L hp => ?_) L0 (by omega) rfl
  · have hxj := hx _ (getD_mem (d := lb0) hj)
    unfold f20_l7_g f20_l7_k
    rw [dlt hj]
    simp only [cond_true]
    rw [if_pos (in_row hj), Int.toNat_natCast]
    have e0 : List.getD xs j (ByteArray.empty, ((0 : Int), ())) = xs.getD j lb0 := rfl
    rw [e0, has15x (by omega), wj (by omega), ho]
    simp only [some_bind]
    unfold labF nms
    cases has (xs.getD j lb0).1 (L.map (·.1)) with
    | true => rfl
    | false =>
      simp only [cond_false, Bool.false_eq_true, if_false]
      rw [wi (n := b + ((n : Nat) : Int)) (by omega) (by omega), wi (n := b + ((n : Nat) : Int) + (xs.getD j lb0).2.1) (by omega) (by omega), if_pos ⟨by rw [most_eq]; omega, by decide, by decide⟩]
  · rw [(labF_inl hs).1, List.length_append, List.length_singleton]; omega
  · unfold f20_l7_g f20_l7_k
    rw [dge]; rfl
def cd (b : Int) (out : List Int) (L : List LbT) : CdT := (b, (out, (L, ())))
def gLab (b : Int) (out : List Int) : Unit ⊕ List LbT → CdT ⊕ (CdT × List (ByteArray × Int))
  | .inl _ => .inl zC
  | .inr L => .inr (cd b out L, kn L)
theorem lab9 {b : Int} {n : Nat} (hb : 0 ≤ b ∧ b ≤ 65535) {xs : List LbT} (hxl : xs.length ≤ 64) (hx : ∀ x ∈ xs, 0 ≤ x.2.1 ∧ x.2.1 ≤ 4096) {out : List Int} (ho : out.length = n) (hn : n ≤ 65536) {L0 : List LbT} (hL : L0.length ≤ 1024) (a0 a2 : List ObT) (a3 a4 : Int) (a10 : ObT) :
    f9_l18 a0 b a2 a3 a4 xs ((List.length xs : Nat) : Int) zC a10 ((0 : Int), cd b out L0, kn L0) = some (gLab b out (labM b n xs L0)) := by
  unfold f9_l18 labM
  rw [← foldE_g (f2 := fun x L => match labF b n x L with | .inl s' => .inl s' | .inr y => .inr (gLab b out y)) (fin2 := fun L => gLab b out (.inr L)) (gLab b out) (fun a s => by cases labF b n a s <;> rfl) (fun _ => rfl)]
  refine loop_list lb0 xs (fun j L => ((j : Int), cd b out L, kn L)) (fun j L => L.length ≤ 1024 + j) _ _ (fun j L hj hp => ⟨?_, fun s' hs => ?_⟩) (fun L hp => ?_) L0 (by omega) rfl
  · have hxj := hx _ (getD_mem (d := lb0) hj)
    unfold f9_l18_g f9_l18_k
    rw [dlt hj]
    simp only [cond_true]
    rw [if_pos (in_row hj), Int.toNat_natCast]
    have e0 : List.getD xs j (ByteArray.empty, ((0 : Int), ())) = xs.getD j lb0 := rfl
    rw [e0, wj (by omega), kn_find, lkup_some]
    unfold labF
    cases hh : has (xs.getD j lb0).1 (nms L) with
    | true => rfl
    | false =>
      simp only [cond_false, Bool.false_eq_true, if_false]
      have e1 : ((List.length (cd b out L).2.1 : Nat) : Int) = ((n : Nat) : Int) := by rw [← ho]; rfl
      have e2 : (cd b out L).2.2.1 = L := rfl
      rw [e1, e2, wi (n := b + ((n : Nat) : Int)) (by omega) (by omega), wi (n := b + ((n : Nat) : Int) + (xs.getD j lb0).2.1) (by omega) (by omega), kn_set hh, kn_find, lkup_new hh, if_pos ⟨by rw [most_eq]; omega, by decide, by decide⟩]
      rfl
  · cases hf : labF b n (xs.getD j lb0) L with
    | inl s =>
      rw [hf] at hs
      have hs : s = s' := by simpa using hs
      subst hs
      rw [(labF_inl hf).1, List.length_append, List.length_singleton]; omega
    | inr y => rw [hf] at hs; cases hs
  · unfold f9_l18_g f9_l18_k
    rw [dge]; rfl
def plcF (b : Int) (o : ObT) (s : List Int × List LbT) : (List Int × List LbT) ⊕ (Unit ⊕ (List Int × List LbT)) :=
  match labM b s.1.length o.2.2.1 s.2 with
  | .inl _ => .inr (.inl ())
  | .inr L => .inl (s.1 ++ o.2.1, L)
def plcM (b : Int) (l : List ObT) : Unit ⊕ (List Int × List LbT) := foldE (plcF b) (fun s => .inr s) l ([], [])
theorem plcF_inl {b : Int} {o : ObT} {s s' : List Int × List LbT} (h : plcF b o s = .inl s') : s'.1 = s.1 ++ o.2.1 ∧ labM b s.1.length o.2.2.1 s.2 = .inr s'.2 := by
  unfold plcF at h
  split at h
  · cases h
  · rename_i L hL; cases h; exact ⟨rfl, hL⟩
structure PlcP (j : Nat) (s : List Int × List LbT) : Prop where
  a : s.1.length ≤ 4096 * j
  b : s.2.length ≤ 64 * j
  c : LabOk s.2
theorem plc_step {b : Int} (hb : 0 ≤ b ∧ b ≤ 65535) {o : ObT} (hg : GoodO o) {j : Nat} (hj : j < 16) {s s' : List Int × List LbT} (hp : PlcP j s) (h : plcF b o s = .inl s') : PlcP (j + 1) s' := by
  obtain ⟨e1, e2⟩ := plcF_inl h
  have hex : ∀ x ∈ o.2.2.1, 0 ≤ x.2.1 ∧ x.2.1 ≤ 4096 := fun x hx => by
    have := hg.ex x hx; have := hg.bl; omega
  have h1 := hp.a
  obtain ⟨r1, r2⟩ := labM_ok hb (n := s.1.length) (by omega) _ _ hex hp.c _ e2
  have h2 := hp.b
  have h3 := hg.el
  have h4 := hg.bl
  exact ⟨by rw [e1, List.length_append]; omega, by omega, r1⟩
theorem plc20 {b : Int} (hb : 0 ≤ b ∧ b ≤ 65535) {l : List ObT} (hl : l.length ≤ 16) (hg : ∀ o ∈ l, GoodO o) : f20_l4 b l ((List.length l : Nat) : Int) ((0 : Int), [], []) = some (plcM b l) := by
  unfold f20_l4 plcM
  refine loop_list ob0 l (fun j s => ((j : Int), s.1, s.2)) (fun j s => PlcP j s) (plcF b) (fun s => .inr s) (fun j s hj hp => ⟨?_, fun s' hs => plc_step hb (hg _ (getD_mem hj)) (by omega) hp hs⟩) (fun s hp => ?_) ([], []) ⟨Nat.le_refl _, Nat.le_refl _, fun x hx => by cases hx⟩ rfl
  · have hgj := hg _ (getD_mem (d := ob0) hj)
    have hex : ∀ x ∈ (l.getD j ob0).2.2.1, 0 ≤ x.2.1 ∧ x.2.1 ≤ 4096 := fun x hx => by
      have := hgj.ex x hx; have := hgj.bl; omega
    have h1 := hp.a
    have h2 := hp.b
    have h4 := hgj.bl
    unfold f20_l4_g f20_l4_k
    rw [dlt hj]
    simp only [cond_true]
    rw [if_pos (in_row hj), Int.toNat_natCast]
    have e0 : List.getD l j (ByteArray.empty, (([] : List Int), (([] : List LbT), (([] : List FxT), ())))) = l.getD j ob0 := rfl
    rw [e0, lab20 hb hgj.el hex rfl (by omega) (by omega), wj (by omega)]
    simp only [some_bind]
    unfold plcF
    cases labM b s.1.length (l.getD j ob0).2.2.1 s.2 with
    | inl u => rfl
    | inr L =>
      simp only [Sum.elim_inr]
      rw [if_pos ⟨by rw [most_eq]; omega, by decide, by decide⟩]
  · unfold f20_l4_g f20_l4_k
    rw [dge]; rfl
def gPlc (b : Int) : Unit ⊕ (List Int × List LbT) → CdT ⊕ (CdT × List (ByteArray × Int))
  | .inl _ => .inl zC
  | .inr s => .inr (cd b s.1 s.2, kn s.2)
theorem plc9 {b : Int} (hb : 0 ≤ b ∧ b ≤ 65535) {l : List ObT} (hl : l.length ≤ 16) (hg : ∀ o ∈ l, GoodO o) : f9_l15 l b l ((List.length l : Nat) : Int) zC ((0 : Int), (b, ([], ([], ()))), ([] : List (ByteArray × Int))) = some (gPlc b (plcM b l)) := by
  unfold f9_l15 plcM
  rw [← foldE_g (f2 := fun o s => match plcF b o s with | .inl s' => .inl s' | .inr y => .inr (gPlc b y)) (fin2 := fun s => gPlc b (.inr s)) (gPlc b) (fun a s => by cases plcF b a s <;> rfl) (fun _ => rfl)]
  refine loop_list ob0 l (fun j s => ((j : Int), cd b s.1 s.2, kn s.2)) (fun j s => PlcP j s) _ _ (fun j s hj hp => ⟨?_, fun s' hs => ?_⟩) (fun s hp => ?_) ([], []) ⟨Nat.le_refl _, Nat.le_refl _, fun x hx => by cases hx⟩ rfl
  · have hgj := hg _ (getD_mem (d := ob0) hj)
    have hex : ∀ x ∈ (l.getD j ob0).2.2.1, 0 ≤ x.2.1 ∧ x.2.1 ≤ 4096 := fun x hx => by
      have := hgj.ex x hx; have := hgj.bl; omega
    have h1 := hp.a
    have h2 := hp.b
    have h4 := hgj.bl
    unfold f9_l15_g f9_l15_k
    rw [dlt hj]
    simp only [cond_true]
    rw [if_pos (in_row hj), Int.toNat_natCast]
    have e0 : List.getD l j (ByteArray.empty, (([] : List Int), (([] : List LbT), (([] : List FxT), ())))) = l.getD j ob0 := rfl
    rw [e0, lab9 hb hgj.el hex rfl (by omega) (by omega), wj (by omega)]
    simp only [some_bind]
    unfold plcF
    cases labM b s.1.length (l.getD j ob0).2.2.1 s.2 with
    | inl u => rfl
    | inr L =>
      simp only [gLab, Sum.elim_inr]
      have e1 : (cd b s.1 L).2.1 = s.1 := rfl
      rw [e1, if_pos ⟨by rw [most_eq]; omega, by decide, by decide⟩]
      rfl
  · cases hf : plcF b (l.getD j ob0) s with
    | inl s2 =>
      rw [hf] at hs
      have hs : s2 = s' := by simpa using hs
      subst hs
      exact plc_step hb (hg _ (getD_mem hj)) (by omega) hp hf
    | inr y => rw [hf] at hs; cases hs
  · unfold f9_l15_g f9_l15_k
    rw [dge]; rfl
def tot (l : List ObT) : Nat := (l.map fun o => o.2.1.length).sum
theorem plc_tot {b : Int} (hb : 0 ≤ b ∧ b ≤ 65535) : ∀ (l : List ObT) (j : Nat) (s : List Int × List LbT), j + l.length ≤ 16 → (∀ o ∈ l, GoodO o) → PlcP j s → ∀ s', foldE (plcF b) (fun s => (.inr s : Unit ⊕ (List Int × List LbT))) l s = .inr s' → PlcP (j + l.length) s' ∧ s'.1.length = s.1.length + tot l
  | [], j, s, _, _, hp, s', h => by cases h; exact ⟨hp, rfl⟩
  | o :: l, j, s, hj, hg, hp, s', h => by
    rw [List.length_cons] at hj
    rw [foldE_cons] at h
    cases hf : plcF b o s with
    | inl s2 =>
      rw [hf] at h
      have hp2 := plc_step hb (hg o (List.mem_cons_self ..)) (by omega) hp hf
      obtain ⟨r1, r2⟩ := plc_tot hb l (j + 1) s2 (by omega) (fun x hx => hg x (List.mem_cons_of_mem _ hx)) hp2 s' h
      refine ⟨by rw [List.length_cons, show j + (l.length + 1) = j + 1 + l.length by omega]; exact r1, ?_⟩
      rw [r2, (plcF_inl hf).1, List.length_append]
      unfold tot
      rw [List.map_cons, List.sum_cons]; omega
    | inr y =>
      rw [hf] at h
      have h : y = .inr s' := h
      subst h
      unfold plcF at hf
      split at hf <;> cases hf
end Go.Proofs.YtmfjebpdkgbggaaDoor.V
