/- What an operation reads. -/
import Derived.Test.YtlgbhaigpecdoaaVVal
set_option linter.unusedVariables false
set_option linter.unusedSimpArgs false
namespace Go.Proofs.Ytlgbhaigpecdoaa.V
open Go

section
variable {R : Type} {c : Cx} {st st' : St} {o : Oper} {bs bs' : List (Nat × Bx)}
theorem loadS_local {s : SV} (h : ∀ j ∈ roots s, bget bs' j = bget bs j) (t : Ty) (K : SV → Option R) : loadS bs' t s K = loadS bs t s K := by
  cases s <;> simp only [loadS]
  rw [h _ (by simp [roots])]
theorem fieldPtr_local {s : SV} (h : ∀ j ∈ roots s, bget bs' j = bget bs j) (t : Ty) (k : Nat) (K : SV → Option R) : fieldPtr bs' t k s K = fieldPtr bs t k s K := by
  cases s <;> simp only [fieldPtr]
  rw [h _ (by simp [roots])]
theorem lenS_local {s : SV} (h : ∀ j ∈ roots s, bget bs' j = bget bs j) (K : Int → Option R) : lenS bs' s K = lenS bs s K := by
  unfold lenS
  split <;> (try rfl)
  · rw [h _ (by simp [roots])]
  · rw [h _ (by simp [roots])]
theorem elemS_local {s : SV} (h : ∀ j ∈ roots s, bget bs' j = bget bs j) (t : Ty) (i : Int) (K : SV → Option R) : elemS bs' t s i K = elemS bs t s i K := by
  unfold elemS
  split <;> (try rfl)
  · rw [h _ (by simp [roots])]
  · rw [h _ (by simp [roots])]
theorem known_local {s : SV} (h : ∀ j ∈ roots s, bget bs' j = bget bs j) : known bs' s = known bs s := by
  cases s with
  | ref r q => simp only [known]; rw [h r (by simp [roots])]
  | sub r q lo n => simp only [known]; rw [h r (by simp [roots])]
  | ptr r q => simp only [known]; rw [h r (by simp [roots])]
  | raw v => cases v <;> rfl
  | _ => rfl
theorem look_local : ∀ {s : SV}, (∀ j ∈ roots s, bget bs' j = bget bs j) → ∀ {t : Ty} {R : Type} (K : den t → Option R), look bs' s t K = look bs s t K := by
  intro s
  induction s with
  | agg a b iha ihb =>
    intro h t R K
    cases t <;> simp only [look]
    rw [iha (fun j hj => h j (by simp [roots, hj]))]
    congr 1; funext x
    exact ihb (fun j hj => h j (by simp [roots, hj])) _
  | ref r q => intro h t R K; simp only [look]; rw [h _ (by simp [roots])]
  | sub r q lo n => intro h t R K; cases t <;> simp only [look]; rw [h _ (by simp [roots])]
  | emp => intro h t R K; cases t <;> rfl
  | _ => intro h t R K; simp only [look]
theorem optInt_local {o : Option Operand} (h : ∀ x ∈ o.toList, st'.ev x = st.ev x) (d : Int) (K : Int → Option R) : optInt st' o d K = optInt st o d K := by
  cases o with
  | none => rfl
  | some x => simp only [optInt]; rw [h x (by simp)]
theorem sliceS_local {s : SV} (h : ∀ j ∈ roots s, bget st'.boxes j = bget st.boxes j) {lo hi mx : Option Operand} (h1 : ∀ x ∈ lo.toList, st'.ev x = st.ev x) (h2 : ∀ x ∈ hi.toList, st'.ev x = st.ev x) (h3 : ∀ x ∈ mx.toList, st'.ev x = st.ev x)
    (ty : Ty) (K : SV → Option R) : sliceS st' ty s lo hi mx K = sliceS st ty s lo hi mx K := by
  have e : ∀ (d : Int) (f : Int → Int → Option R), (optInt st' hi d fun h => optInt st' lo 0 fun l => f h l) = (optInt st hi d fun h => optInt st lo 0 fun l => f h l) := by
    intro d f
    rw [optInt_local h2]; congr 1; funext a; exact optInt_local h1 _ _
  have em : ∀ m, mx = some m → st'.ev m = st.ev m := fun m hm => h3 m (by rw [hm]; simp)
  unfold sliceS
  split
  · cases mx <;> simp only [e]
  · cases mx <;> simp only [e]
  · cases mx with
    | none => simp only [e]
    | some m => simp only [e, em m rfl]
  · rw [h _ (by simp [roots])]
    cases mx with
    | none => simp only [e]
    | some m => simp only [e, em m rfl]
  · rw [h _ (by simp [roots])]
    cases mx <;> simp only [e]
  · rfl
theorem buildL_local : ∀ {parts : List (Nat × Operand)} {tys : List Ty} {l : List SV}, (∀ p ∈ parts, st'.ev p.2 = st.ev p.2 ∧ ∀ j ∈ roots (st.ev p.2), bget st'.boxes j = bget st.boxes j) → buildL st' parts tys l = buildL st parts tys l
  | [], _, _, _ => rfl
  | (i, x) :: ps, tys, l, h => by
    simp only [buildL]
    have h0 := h (i, x) (List.mem_cons_self ..)
    simp only at h0
    rw [h0.1, known_local h0.2]
    split
    · split
      · exact buildL_local fun p hp => h p (List.mem_cons_of_mem _ hp)
      · rfl
    · rfl
theorem valS_local (h : ∀ x ∈ rd o, st'.ev x = st.ev x) (hb : ∀ x ∈ rd o, ∀ j ∈ roots (st.ev x), bget st'.boxes j = bget st.boxes j) (K : SV → Option R) : valS c st' o K = valS c st o K := by
  unfold valS
  unfold rd at h hb
  split
  · rename_i x ho; simp only [ho] at h hb; rw [h x (by simp)]
  · rename_i x ho; simp only [ho] at h hb; rw [h x (by simp)]
  · rename_i x y z ho; simp only [ho] at h hb; rw [h x (by simp), h y (by simp), h z (by simp)]
  · rename_i t parts ho; simp only [ho] at h hb
    have e : ∀ tys l, buildL st' parts.toList tys l = buildL st parts.toList tys l := fun tys l =>
      buildL_local fun p hp => ⟨h p.2 (List.mem_map.2 ⟨p, hp, rfl⟩), hb p.2 (List.mem_map.2 ⟨p, hp, rfl⟩)⟩
    simp only [e]
  · rename_i t x ho; simp only [ho] at h hb; simp only [h x (by simp), loadS_local (hb x (by simp))]
  · rename_i x ho; simp only [ho] at h hb
    rw [h x (by simp)]
    have hx := hb x (by simp)
    split <;> (try rfl)
    rename_i r q he
    rw [he] at hx
    rw [hx r (by simp [roots])]
  · rename_i op t x y b ho; simp only [ho] at h hb; rw [h x (by simp), h y (by simp)]
  · rename_i op t x ho; simp only [ho] at h hb; rw [h x (by simp)]
  · rename_i s d x ho; simp only [ho] at h hb; simp only [h x (by simp), look_local (hb x (by simp))]
  · rename_i t x lo hi mx ho; simp only [ho] at h hb
    have e : ∀ (ty : Ty), sliceS st' ty (st.ev x) lo hi mx K = sliceS st ty (st.ev x) lo hi mx K := fun ty =>
      sliceS_local (hb x (by simp)) (fun y hy => h y (by simp [hy])) (fun y hy => h y (by simp [hy])) (fun y hy => h y (by simp [hy])) ty K
    simp only [h x (by simp), e]
  · rename_i t x f ho; simp only [ho] at h hb; simp only [h x (by simp), fieldPtr_local (hb x (by simp))]
  · rename_i t x f ho; simp only [ho] at h hb; simp only [h x (by simp)]
  · rename_i t x i ho; simp only [ho] at h hb; simp only [h x (by simp), h i (by simp), elemS_local (hb x (by simp))]
  · rename_i t x i ho; simp only [ho] at h hb; simp only [h x (by simp), h i (by simp)]
  · rename_i x i ho; simp only [ho] at h hb; rw [h x (by simp)]
  · rename_i cl ho; simp only [ho] at h hb
    split
    · rename_i t x h1 h2 h3
      have hx : x ∈ (match cl.callee with | .value f => [f] | _ => []) ++ cl.args.toList := by rw [h3]; simp
      simp only [h x hx, lenS_local (hb x hx)]
    · rfl
  · rfl
/-! ### Slots that are set. -/
theorem sset_comm : ∀ (l : List SV) {i j : Nat} (s t : SV), i ≠ j → sset (sset l i s) j t = sset (sset l j t) i s
  | [], _, _, _, _, _ => rfl
  | a :: l, 0, 0, _, _, h => absurd rfl h
  | a :: l, 0, j + 1, _, _, _ => rfl
  | a :: l, i + 1, 0, _, _, _ => rfl
  | a :: l, i + 1, j + 1, s, t, h => by simp only [sset]; rw [sset_comm l s t (by simpa using h)]
theorem set_comm (st : St) {d e : Option Tmp} (s t : SV) (h : ∀ x, d = some x → e ≠ some x) : (st.set d s).set e t = (st.set e t).set d s := by
  cases d with
  | none => rfl
  | some d =>
    cases e with
    | none => rfl
    | some e =>
      show St.mk (sset (sset st.slots d s) e t) st.boxes = St.mk (sset (sset st.slots e t) d s) st.boxes
      rw [sset_comm _ _ _ (fun hh => h d rfl (by rw [hh]))]
theorem ev_set {d : Option Tmp} {s : SV} {x : Operand} (h : ∀ t, d = some t → x ≠ .tmp t) : (st.set d s).ev x = st.ev x := by
  cases d with
  | none => rfl
  | some d =>
    cases x with
    | tmp t =>
      show sget (sset st.slots d s) t = sget st.slots t
      rw [sget_sset, if_neg]
      rintro ⟨e, _⟩
      exact h d rfl (by rw [e])
    | _ => rfl
theorem boxes_set {d : Option Tmp} {s : SV} : (st.set d s).boxes = st.boxes := by cases d <;> rfl
theorem apart_spec {a b : Oper} (h : apart a b = true) : (∀ x ∈ rd b, ∀ t, a.dst = some t → x ≠ .tmp t) ∧ (∀ x ∈ rd a, ∀ t, b.dst = some t → x ≠ .tmp t) ∧ (∀ t, a.dst = some t → b.dst ≠ some t) := by
  have key : ∀ {l : List Operand} {d : Tmp}, (l.any fun x => match x with | .tmp t => t == d | _ => false) = false → ∀ x ∈ l, x ≠ .tmp d := by
    intro l d hl x hx e
    subst e
    have := (List.any_eq_false.1 hl) _ hx
    simp at this
  unfold apart at h
  simp only [Bool.and_eq_true] at h
  refine ⟨fun x hx t ht => ?_, fun x hx t ht => ?_, fun t ht => ?_⟩
  · have h1 := h.1
    rw [ht] at h1
    simp only [Bool.and_eq_true, Bool.not_eq_true'] at h1
    exact key h1.1 x hx
  · have h1 := h.2
    rw [ht] at h1
    simp only [Bool.not_eq_true'] at h1
    exact key h1 x hx
  · have h1 := h.1
    rw [ht] at h1
    simp only [Bool.and_eq_true, Bool.not_eq_true'] at h1
    intro e
    rw [e] at h1
    simp at h1
theorem swap_quiet {a b : Oper} (qa : quiet a = true) (qb : quiet b = true) (h : apart a b = true) (K : St → Option R) :
    (stepS c st a fun st => stepS c st b K) = (stepS c st b fun st => stepS c st a K) := by
  obtain ⟨h1, h2, h3⟩ := apart_spec h
  rw [stepS_val qa, stepS_val qb]
  have e1 : ∀ s, stepS c (st.set a.dst s) b K = valS c st b fun u => K ((st.set b.dst u).set a.dst s) := fun s => by
    rw [stepS_val qb, valS_local (st := st) (fun x hx => ev_set (h1 x hx)) (fun x hx j _ => by rw [boxes_set])]
    congr 1; funext u
    rw [set_comm st s u h3]
  have e2 : ∀ s, stepS c (st.set b.dst s) a K = valS c st a fun u => K ((st.set b.dst s).set a.dst u) := fun s => by
    rw [stepS_val qa, valS_local (st := st) (fun x hx => ev_set (h2 x hx)) (fun x hx j _ => by rw [boxes_set])]
  simp only [e1, e2]
  rw [valS_bind (o := a), valS_bind (o := b) (K := fun s => valS c st a fun u => K ((st.set b.dst s).set a.dst u))]
  have e3 : ∀ s, (valS c st b fun u => K ((st.set b.dst u).set a.dst s)) = (valS c st b some).bind fun u => K ((st.set b.dst u).set a.dst s) := fun s => valS_bind _
  have e4 : ∀ s, (valS c st a fun u => K ((st.set b.dst s).set a.dst u)) = (valS c st a some).bind fun u => K ((st.set b.dst s).set a.dst u) := fun s => valS_bind _
  simp only [e3, e4]
  cases valS c st a some <;> cases valS c st b some <;> rfl
end
end Go.Proofs.Ytlgbhaigpecdoaa.V
