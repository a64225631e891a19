/- Drawn regions. -/
import Derived.Test.YtgdaiifhedpffaaDoorVStepS
import Derived.Orders
set_option linter.unusedVariables false
set_option linter.unusedSimpArgs false
namespace Go.Proofs.YtgdaiifhedpffaaDoor.V
open Go
section cps
variable {R : Type}
def valS (c : Cx) (st : St) (o : Oper) (K : SV → Option R) : Option R :=
  match o.op with
  | .move x => K (st.ev x)
  | .assign x => K (st.ev x)
  | .pick g a b => asBool (st.ev g) fun v => cond v (K (st.ev a)) (K (st.ev b))
  | .build t parts => match c.E.get t with
    | some te => match te.d with
      | .struct _ => if te.z = true then (buildL st parts.toList (fieldTys te.ty) ((fieldTys te.ty).map zsv)).bind fun l => K (aggOf l) else none
      | .arr _ => if te.z = true then (buildL st parts.toList (fieldTys te.ty) ((fieldTys te.ty).map zsv)).bind fun l => K (aggOf l) else none
      | _ => none
    | none => none
  | .load t a => match c.E.get t with
    | some te => loadS st.boxes te.ty (st.ev a) K
    | none => none
  | .nilCheck x => match st.ev x with
    | .ptr r q => if (bget st.boxes r).isSome = true then K (.ptr r q) else none
    | .pro t x => K (.pro t x)
    | .fn f cs => K (.fn f cs)
    | _ => none
  | .binOp op t x y _ => if isPairC (st.ev x) = true then eqS c.E op t (st.ev x) (st.ev y) K else if boolOk c.E t (st.ev x) = true then binS op (st.ev x) (st.ev y) K else none
  | .unOp op t x => match op with
    | .not => asBool (st.ev x) fun b => K (.con .bool (!b))
    | .neg => asInt (st.ev x) fun k n => K (.con (.int k) (k.wrap (0 - n)))
    | .xor => asInt (st.ev x) fun k n => K (.con (.int k) (bitop k .xor (if k.signed = true then -1 else k.max) n))
    | _ => none
  | .convert src dst x => match c.E.get src, c.E.get dst with
    | some ts, some td => match ts.d, td.d with
      | _, .int k => asInt (st.ev x) fun _ n => K (.con (.int k) (k.wrap n))
      | .slc e, .str => match c.E.get e with
        | some te => match te.d with
          | .int .u8 => if isAgg (st.ev x) = false then look st.boxes (st.ev x) (.slc (.int .u8)) fun l => K (.con .str (b2s l)) else none
          | _ => none
        | none => none
      | .str, .slc e => match c.E.get e with
        | some te => match te.d with
          | .int .u8 => asStr (st.ev x) fun s => K (.con (.slc (.int .u8)) (s2b s))
          | _ => none
        | none => none
      | _, _ => none
    | _, _ => none
  | .slice t x lo hi mx => match c.E.get t with
    | some te => match te.d with
      | .slc _ => sliceS st te.ty (st.ev x) lo hi mx K
      | .str => sliceS st te.ty (st.ev x) lo hi mx K
      | _ => none
    | none => none
  | .fieldAddr t x f => match c.E.get t with
    | some te => match te.d with
      | .struct _ => fieldPtr st.boxes te.ty f (st.ev x) K
      | _ => none
    | none => none
  | .field t x f => match c.E.get t with
    | some te => match te.d with
      | .struct _ => if fitsTy te.ty (st.ev x) = true ∧ f < (fieldTys te.ty).length ∧ isU (st.ev x) = false then K (fieldOf f (st.ev x)) else none
      | _ => none
    | none => none
  | .indexAddr t x i => match c.E.get t with
    | some te => match te.d with
      | .slc _ => asInt (st.ev i) fun _ i => elemS st.boxes te.ty (st.ev x) i K
      | .arr _ => litAt st.boxes te.ty i (st.ev x) K
      | _ => none
    | none => none
  | .index t x i => match c.E.get t with
    | some te => match te.d with
      | .str => asInt (st.ev i) fun _ i => asStr (st.ev x) fun s => if 0 ≤ i ∧ i < (s.size : Int) then K (.con (.int .u8) (bt s i)) else none
      | _ => none
    | none => none
  | .extract x i => (nth i (st.ev x)).bind K
  | .call cl => match cl.callee, cl.argTypes.toList, cl.args.toList with
    | .builtin .len, [t], [x] => match c.E.get t with
      | some te => match te.d with
        | .str => if strS (st.ev x) = true then lenS st.boxes (st.ev x) fun n => K (.con (.int .i64) n) else none
        | .slc _ => if strS (st.ev x) = false then lenS st.boxes (st.ev x) fun n => K (.con (.int .i64) n) else none
        | _ => none
      | none => none
    | .builtin .min, [_, _], [x, y] => asInt (st.ev x) fun k m => asInt (st.ev y) fun j n => if k = j then K (.con (.int k) (if n < m then n else m)) else none
    | _, _, _ => none
  | _ => none
end cps
section
variable {R : Type} {c : Cx} {st : St} {o : Oper}
theorem stepS_val (h : quiet o = true) (K : St → Option R) : stepS c st o K = valS c st o fun s => K (st.set o.dst s) := by
  unfold stepS valS
  unfold quiet at h
  cases ho : o.op <;> simp only [ho] at h ⊢ <;> first | (cases h; done) | rfl | (rw [if_neg (by simpa using h)]; done) | skip
  rename_i cl
  revert h
  split
  · rename_i t x h1 h2 h3
    intro _
    simp only [h1, h2, h3, List.map_cons, List.map_nil, builtinS]
    rfl
  · rename_i t u x y h1 h2 h3
    intro _
    simp only [h1, h2, h3, List.map_cons, List.map_nil, builtinS]
  · intro h; cases h
theorem asInt_bind (s : SV) (K : IntKind → Int → Option R) : asInt s K = (asInt s fun k n => some (k, n)).bind fun p => K p.1 p.2 := by unfold asInt; split <;> (try rfl); split <;> rfl
theorem asBool_bind (s : SV) (K : Bool → Option R) : asBool s K = (asBool s some).bind K := by unfold asBool; split <;> (try rfl); split <;> rfl
theorem asStr_bind (s : SV) (K : ByteArray → Option R) : asStr s K = (asStr s some).bind K := by unfold asStr; split <;> (try rfl); split <;> rfl
theorem conK_map {A B : Type} {ty : Ty} (s : SV) (F : den ty → Option A) (k : A → Option B) : (conK ty s F).bind k = conK ty s fun x => (F x).bind k := by
  unfold conK
  split
  · split <;> rfl
  · rfl
theorem eqS_bind (E : Env) (op : BinOp) (t : TypeId) (s u : SV) (K : SV → Option R) : eqS E op t s u K = (eqS E op t s u some).bind K := by
  unfold eqS
  split
  · split
    · rw [conK_map]
      congr 1; funext x
      rw [conK_map]
      congr 1; funext y
      split <;> rfl
    · rfl
  · rfl
theorem binS_bind (op : BinOp) (s t : SV) (K : SV → Option R) : binS op s t K = (binS op s t some).bind K := by
  unfold binS
  split
  · cases op <;> simp only <;> (repeat' split) <;> rfl
  · cases op <;> simp only <;> (repeat' split) <;> rfl
  · cases op <;> simp only <;> (repeat' split) <;> rfl
  · rfl
theorem rowOf_bind (t : Ty) (x : den t) (m : Md) (K : (t : Ty) → List (den t) → Md → Option R) : rowOf t x m K = (rowOf t x m fun t xs m => some (⟨t, xs, m⟩ : (t : Ty) × List (den t) × Md)).bind fun p => K p.1 p.2.1 p.2.2 := by
  cases t <;> cases m <;> rfl
theorem loadS_bind (bs : List (Nat × Bx)) (t : Ty) (s : SV) (K : SV → Option R) : loadS bs t s K = (loadS bs t s some).bind K := by
  unfold loadS; split <;> (try rfl) <;> (repeat' split) <;> rfl
theorem fieldPtr_bind (bs : List (Nat × Bx)) (t : Ty) (j : Nat) (s : SV) (K : SV → Option R) : fieldPtr bs t j s K = (fieldPtr bs t j s some).bind K := by
  unfold fieldPtr; split <;> (try rfl) <;> (repeat' split) <;> rfl
theorem lenS_bind (bs : List (Nat × Bx)) (s : SV) (K : Int → Option R) : lenS bs s K = (lenS bs s some).bind K := by
  unfold lenS
  split <;> (try rfl)
  · split
    · rw [rowOf_bind, rowOf_bind (R := Int)]; cases rowOf _ _ _ _ <;> rfl
    · rfl
  · split <;> rfl
theorem elemS_bind (bs : List (Nat × Bx)) (ty : Ty) (s : SV) (i : Int) (K : SV → Option R) : elemS bs ty s i K = (elemS bs ty s i some).bind K := by
  unfold elemS
  split <;> (try rfl)
  · repeat' split
    all_goals rfl
  · split
    · rw [rowOf_bind, rowOf_bind (R := SV)]; cases rowOf _ _ _ _ <;> simp <;> (repeat' split) <;> rfl
    · rfl
  · split
    · rw [rowOf_bind, rowOf_bind (R := SV)]; cases rowOf _ _ _ _ <;> simp <;> (repeat' split) <;> rfl
    · rfl
theorem look_bind (bs : List (Nat × Bx)) : ∀ (s : SV) {t : Ty} {R : Type} (K : den t → Option R), look bs s t K = (look bs s t some).bind K := by
  intro s
  induction s with
  | con t' x => intro t R K; simp only [look]; split <;> rfl
  | raw v => intro t R K; simp only [look]; split <;> rfl
  | emp => intro t R K; cases t <;> simp [look]
  | agg a b iha ihb =>
    intro t R K
    cases t <;> simp only [look] <;> (try rfl)
    rename_i ta tb
    rw [iha (R := R), iha (R := den (.pair ta tb))]
    cases look bs a ta some with
    | none => rfl
    | some x =>
      show look bs b tb _ = (look bs b tb _).bind K
      rw [ihb (R := R), ihb (R := den (.pair ta tb))]
      cases look bs b tb some <;> rfl
  | ref r q => intro t R K; simp only [look]; (repeat' split) <;> rfl
  | sub r q lo n => intro t R K; cases t <;> simp only [look] <;> (try rfl) <;> (repeat' split) <;> rfl
  | _ => intro t R K; rfl
theorem optInt_bind (o : Option Operand) (d : Int) (K : Int → Option R) : optInt st o d K = (optInt st o d some).bind K := by
  unfold optInt
  split
  · rfl
  · rw [asInt_bind, asInt_bind (R := Int)]; cases asInt _ _ <;> rfl
theorem sliceS_bind (ty : Ty) (s : SV) (lo hi mx : Option Operand) (K : SV → Option R) : sliceS st ty s lo hi mx K = (sliceS st ty s lo hi mx some).bind K := by
  have two : ∀ (d : Int) (f : Int → Int → (SV → Option R) → Option R) (g : Int → Int → Option SV), (∀ a b, f a b K = (g a b).bind K) → (optInt st hi d fun h => optInt st lo 0 fun l => f h l K) = (optInt st hi d fun h => optInt st lo 0 fun l => g h l).bind K := by
    intro d f g hfg
    rw [optInt_bind, optInt_bind (R := SV)]
    cases optInt st hi d some with
    | none => rfl
    | some h =>
      simp only [Option.bind_some]
      rw [optInt_bind, optInt_bind (R := SV)]
      cases optInt st lo 0 some with
      | none => rfl
      | some l => exact hfg h l
  unfold sliceS
  split
  · split
    · split
      · exact two _ (fun h l K => if 0 ≤ l ∧ l ≤ h ∧ h ≤ (ByteArray.size _ : Int) then K (.con .str (ByteArray.extract _ l.toNat h.toNat)) else none) _ (fun h l => by (try dsimp only); split <;> rfl)
      · rfl
    · rfl
  · split
    · split
      · rfl
      · exact two _ (fun h l K => if 0 ≤ l ∧ l ≤ h ∧ h ≤ 0 then K (.raw (.slice none 0 0)) else none) _ (fun h l => by (try dsimp only); split <;> rfl)
    · rfl
  · rename_i t xs
    split
    · split
      · exact two _ (fun h l K => if 0 ≤ l ∧ l ≤ h ∧ h ≤ (List.length xs : Int) then K (.con (.slc t) ((List.drop l.toNat xs).take (h.toNat - l.toNat))) else none) _ (fun h l => by (try dsimp only); split <;> rfl)
      · rename_i m
        split
        · rfl
        · rw [asInt_bind, asInt_bind (R := SV)]
          cases asInt (st.ev m) fun k n => some (k, n) with
          | none => rfl
          | some p =>
            show (if _ then _ else _) = Option.bind (if _ then _ else _) K
            split
            · exact two _ (fun h l K => if 0 ≤ l ∧ l ≤ h ∧ h ≤ p.2 ∧ p.2 ≤ (List.length xs : Int) then K (.con (.slc t) ((List.drop l.toNat xs).take (h.toNat - l.toNat))) else none) _ (fun h l => by (try dsimp only); split <;> rfl)
            · rfl
    · rfl
  · rename_i r q
    split
    · rw [rowOf_bind, rowOf_bind (R := SV)]
      cases rowOf _ _ _ _ with
      | none => rfl
      | some p =>
        obtain ⟨t, xs, m⟩ := p
        show (if _ then _ else _) = Option.bind (if _ then _ else _) K
        split
        · refine two _ (fun h l K => match mx with
            | none => if 0 ≤ l ∧ l ≤ h ∧ h ≤ (List.length xs : Int) then K (.sub r q l.toNat (h.toNat - l.toNat)) else none
            | some m => if hi.isSome = true then asInt (st.ev m) fun _ m => if 0 ≤ l ∧ l ≤ h ∧ h ≤ m ∧ m ≤ (List.length xs : Int) then K (.sub r q l.toNat (h.toNat - l.toNat)) else none
              else none) _ (fun h l => ?_)
          (try dsimp only)
          cases mx with
          | none => (try dsimp only); split <;> rfl
          | some m =>
            (try dsimp only)
            split
            · rw [asInt_bind, asInt_bind (R := SV)]
              cases asInt (st.ev m) fun k n => some (k, n) with
              | none => rfl
              | some p => show (if _ then _ else _) = Option.bind (if _ then _ else _) K; split <;> rfl
            · rfl
        · rfl
    · rfl
  · rename_i r q o' n
    split
    · rw [rowOf_bind, rowOf_bind (R := SV)]
      cases rowOf _ _ _ _ with
      | none => rfl
      | some p =>
        obtain ⟨t, xs, m⟩ := p
        show (if _ then _ else _) = Option.bind (if _ then _ else _) K
        split
        · refine two _ (fun h l K => match mx with
            | none => if 0 ≤ l ∧ l ≤ h ∧ h ≤ (n : Int) then K (.sub r q (o' + l.toNat) (h.toNat - l.toNat)) else none
            | some _ => none) _ (fun h l => ?_)
          (try dsimp only)
          cases mx with
          | none => (try dsimp only); split <;> rfl
          | some m => rfl
        · rfl
    · rfl
  · rfl
theorem valS_bind (K : SV → Option R) : valS c st o K = (valS c st o some).bind K := by
  unfold valS
  split
  · rfl
  · rfl
  · rw [asBool_bind, asBool_bind (R := SV)]; cases asBool _ some with
    | none => rfl
    | some v => cases v <;> rfl
  · split
    · split
      · split
        · cases buildL _ _ _ _ <;> rfl
        · rfl
      · split
        · cases buildL _ _ _ _ <;> rfl
        · rfl
      · rfl
    · rfl
  · split
    · exact loadS_bind _ _ _ _
    · rfl
  · split <;> (try rfl)
    split <;> rfl
  · split
    · exact eqS_bind _ _ _ _ _ _
    split
    · exact binS_bind _ _ _ _
    · rfl
  · split
    · rw [asBool_bind, asBool_bind (R := SV)]; cases asBool _ some <;> rfl
    · rw [asInt_bind, asInt_bind (R := SV)]; cases asInt _ _ <;> rfl
    · rw [asInt_bind, asInt_bind (R := SV)]; cases asInt _ _ <;> rfl
    · rfl
  · split
    · split
      · rw [asInt_bind, asInt_bind (R := SV)]; cases asInt _ _ <;> rfl
      · split
        · split
          · split
            · rw [look_bind, look_bind (R := SV)]; cases look _ _ _ some <;> rfl
            · rfl
          · rfl
        · rfl
      · split
        · split
          · rw [asStr_bind, asStr_bind (R := SV)]; cases asStr _ some <;> rfl
          · rfl
        · rfl
      · rfl
    · rfl
  · split
    · split
      · exact sliceS_bind _ _ _ _ _ _
      · exact sliceS_bind _ _ _ _ _ _
      · rfl
    · rfl
  · split
    · split
      · exact fieldPtr_bind _ _ _ _ _
      · rfl
    · rfl
  · split
    · split
      · split <;> rfl
      · rfl
    · rfl
  · split
    · split
      · rw [asInt_bind, asInt_bind (R := SV)]; cases asInt _ _ with
        | none => rfl
        | some p => exact elemS_bind _ _ _ _ _
      · unfold litAt
        split
        · split
          · exact fieldPtr_bind _ _ _ _ _
          · rfl
        · rfl
      · rfl
    · rfl
  · split
    · split
      · rw [asInt_bind, asInt_bind (R := SV)]; cases asInt _ _ with
        | none => rfl
        | some p =>
          show asStr _ _ = Option.bind (asStr _ _) K
          rw [asStr_bind, asStr_bind (R := SV)]
          cases asStr _ some with
          | none => rfl
          | some s => show (if _ then _ else _) = Option.bind (if _ then _ else _) K; split <;> rfl
      · rfl
    · rfl
  · cases nth _ _ <;> rfl
  · split
    · split
      · split
        · split
          · rw [lenS_bind, lenS_bind (R := SV)]; cases lenS _ _ some <;> rfl
          · rfl
        · split
          · rw [lenS_bind, lenS_bind (R := SV)]; cases lenS _ _ some <;> rfl
          · rfl
        · rfl
      · rfl
    · rw [asInt_bind, asInt_bind (R := SV)]; cases asInt _ _ with
      | none => rfl
      | some p =>
        show asInt _ _ = Option.bind (asInt _ _) K
        rw [asInt_bind, asInt_bind (R := SV)]
        cases asInt _ (fun k n => some (k, n)) with
        | none => rfl
        | some q => show (if _ then _ else _) = Option.bind (if _ then _ else _) K; split <;> rfl
    · rfl
  · rfl
end
end Go.Proofs.YtgdaiifhedpffaaDoor.V
set_option linter.unusedVariables false
set_option linter.unusedSimpArgs false
namespace Go.Proofs.YtgdaiifhedpffaaDoor.V
open Go
section
variable {R : Type} {c : Cx} {st st' : St} {o : Oper} {bs bs' : List (Nat × Bx)}
theorem loadS_local {s : SV} (h : ∀ j ∈ roots s, bget bs' j = bget bs j) (t : Ty) (K : SV → Option R) : loadS bs' t s K = loadS bs t s K := by
  cases s <;> simp only [loadS]
  rw [h _ (by simp [roots])]
theorem fieldPtr_local {s : SV} (h : ∀ j ∈ roots s, bget bs' j = bget bs j) (t : Ty) (k : Nat) (K : SV → Option R) : fieldPtr bs' t k s K = fieldPtr bs t k s K := by
  cases s <;> simp only [fieldPtr]
  rw [h _ (by simp [roots])]
theorem lenS_local {s : SV} (h : ∀ j ∈ roots s, bget bs' j = bget bs j) (K : Int → Option R) : lenS bs' s K = lenS bs s K := by
  unfold lenS
  split <;> (try rfl)
  · rw [h _ (by simp [roots])]
  · rw [h _ (by simp [roots])]
theorem elemS_local {s : SV} (h : ∀ j ∈ roots s, bget bs' j = bget bs j) (t : Ty) (i : Int) (K : SV → Option R) : elemS bs' t s i K = elemS bs t s i K := by
  unfold elemS
  split <;> (try rfl)
  · rw [h _ (by simp [roots])]
  · rw [h _ (by simp [roots])]
theorem known_local {s : SV} (h : ∀ j ∈ roots s, bget bs' j = bget bs j) : known bs' s = known bs s := by
  cases s with
  | ref r q => simp only [known]; rw [h r (by simp [roots])]
  | sub r q lo n => simp only [known]; rw [h r (by simp [roots])]
  | ptr r q => simp only [known]; rw [h r (by simp [roots])]
  | raw v => cases v <;> rfl
  | _ => rfl
theorem look_local : ∀ {s : SV}, (∀ j ∈ roots s, bget bs' j = bget bs j) → ∀ {t : Ty} {R : Type} (K : den t → Option R), look bs' s t K = look bs s t K := by
  intro s
  induction s with
  | agg a b iha ihb =>
    intro h t R K
    cases t <;> simp only [look]
    rw [iha (fun j hj => h j (by simp [roots, hj]))]
    congr 1; funext x
    exact ihb (fun j hj => h j (by simp [roots, hj])) _
  | ref r q => intro h t R K; simp only [look]; rw [h _ (by simp [roots])]
  | sub r q lo n => intro h t R K; cases t <;> simp only [look]; rw [h _ (by simp [roots])]
  | emp => intro h t R K; cases t <;> rfl
  | _ => intro h t R K; simp only [look]
theorem optInt_local {o : Option Operand} (h : ∀ x ∈ o.toList, st'.ev x = st.ev x) (d : Int) (K : Int → Option R) : optInt st' o d K = optInt st o d K := by
  cases o with
  | none => rfl
  | some x => simp only [optInt]; rw [h x (by simp)]
theorem sliceS_local {s : SV} (h : ∀ j ∈ roots s, bget st'.boxes j = bget st.boxes j) {lo hi mx : Option Operand} (h1 : ∀ x ∈ lo.toList, st'.ev x = st.ev x) (h2 : ∀ x ∈ hi.toList, st'.ev x = st.ev x) (h3 : ∀ x ∈ mx.toList, st'.ev x = st.ev x)
    (ty : Ty) (K : SV → Option R) : sliceS st' ty s lo hi mx K = sliceS st ty s lo hi mx K := by
  have e : ∀ (d : Int) (f : Int → Int → Option R), (optInt st' hi d fun h => optInt st' lo 0 fun l => f h l) = (optInt st hi d fun h => optInt st lo 0 fun l => f h l) := by
    intro d f
    rw [optInt_local h2]; congr 1; funext a; exact optInt_local h1 _ _
  have em : ∀ m, mx = some m → st'.ev m = st.ev m := fun m hm => h3 m (by rw [hm]; simp)
  unfold sliceS
  split
  · cases mx <;> simp only [e]
  · cases mx <;> simp only [e]
  · cases mx with
    | none => simp only [e]
    | some m => simp only [e, em m rfl]
  · rw [h _ (by simp [roots])]
    cases mx with
    | none => simp only [e]
    | some m => simp only [e, em m rfl]
  · rw [h _ (by simp [roots])]
    cases mx <;> simp only [e]
  · rfl
theorem buildL_local : ∀ {parts : List (Nat × Operand)} {tys : List Ty} {l : List SV}, (∀ p ∈ parts, st'.ev p.2 = st.ev p.2 ∧ ∀ j ∈ roots (st.ev p.2), bget st'.boxes j = bget st.boxes j) → buildL st' parts tys l = buildL st parts tys l
  | [], _, _, _ => rfl
  | (i, x) :: ps, tys, l, h => by
    simp only [buildL]
    have h0 := h (i, x) (List.mem_cons_self ..)
    simp only at h0
    rw [h0.1, known_local h0.2]
    split
    · split
      · exact buildL_local fun p hp => h p (List.mem_cons_of_mem _ hp)
      · rfl
    · rfl
theorem valS_local (h : ∀ x ∈ rd o, st'.ev x = st.ev x) (hb : ∀ x ∈ rd o, ∀ j ∈ roots (st.ev x), bget st'.boxes j = bget st.boxes j) (K : SV → Option R) : valS c st' o K = valS c st o K := by
  unfold valS
  unfold rd at h hb
  split
  · rename_i x ho; simp only [ho] at h hb; rw [h x (by simp)]
  · rename_i x ho; simp only [ho] at h hb; rw [h x (by simp)]
  · rename_i x y z ho; simp only [ho] at h hb; rw [h x (by simp), h y (by simp), h z (by simp)]
  · rename_i t parts ho; simp only [ho] at h hb
    have e : ∀ tys l, buildL st' parts.toList tys l = buildL st parts.toList tys l := fun tys l =>
      buildL_local fun p hp => ⟨h p.2 (List.mem_map.2 ⟨p, hp, rfl⟩), hb p.2 (List.mem_map.2 ⟨p, hp, rfl⟩)⟩
    simp only [e]
  · rename_i t x ho; simp only [ho] at h hb; simp only [h x (by simp), loadS_local (hb x (by simp))]
  · rename_i x ho; simp only [ho] at h hb
    rw [h x (by simp)]
    have hx := hb x (by simp)
    split <;> (try rfl)
    rename_i r q he
    rw [he] at hx
    rw [hx r (by simp [roots])]
  · rename_i op t x y b ho; simp only [ho] at h hb; rw [h x (by simp), h y (by simp)]
  · rename_i op t x ho; simp only [ho] at h hb; rw [h x (by simp)]
  · rename_i s d x ho; simp only [ho] at h hb; simp only [h x (by simp), look_local (hb x (by simp))]
  · rename_i t x lo hi mx ho; simp only [ho] at h hb
    have e : ∀ (ty : Ty), sliceS st' ty (st.ev x) lo hi mx K = sliceS st ty (st.ev x) lo hi mx K := fun ty =>
      sliceS_local (hb x (by simp)) (fun y hy => h y (by simp [hy])) (fun y hy => h y (by simp [hy])) (fun y hy => h y (by simp [hy])) ty K
    simp only [h x (by simp), e]
  · rename_i t x f ho; simp only [ho] at h hb; simp only [h x (by simp), fieldPtr_local (hb x (by simp))]
  · rename_i t x f ho; simp only [ho] at h hb; simp only [h x (by simp)]
  · rename_i t x i ho; simp only [ho] at h hb; simp only [h x (by simp), h i (by simp), elemS_local (hb x (by simp)), litAt, fieldPtr_local (hb x (by simp))]
  · rename_i t x i ho; simp only [ho] at h hb; simp only [h x (by simp), h i (by simp)]
  · rename_i x i ho; simp only [ho] at h hb; rw [h x (by simp)]
  · rename_i cl ho; simp only [ho] at h hb
    split
    · rename_i t x h1 h2 h3
      have hx : x ∈ (match cl.callee with | .value f => [f] | _ => []) ++ cl.args.toList := by rw [h3]; simp
      simp only [h x hx, lenS_local (hb x hx)]
    · rename_i t u x y h1 h2 h3
      have hx : x ∈ (match cl.callee with | .value f => [f] | _ => []) ++ cl.args.toList := by rw [h3]; simp
      have hy : y ∈ (match cl.callee with | .value f => [f] | _ => []) ++ cl.args.toList := by rw [h3]; simp
      rw [h x hx, h y hy]
    · rfl
  · rfl
theorem sset_comm : ∀ (l : List SV) {i j : Nat} (s t : SV), i ≠ j → sset (sset l i s) j t = sset (sset l j t) i s
  | [], _, _, _, _, _ => rfl
  | a :: l, 0, 0, _, _, h => absurd rfl h
  | a :: l, 0, j + 1, _, _, _ => rfl
  | a :: l, i + 1, 0, _, _, _ => rfl
  | a :: l, i + 1, j + 1, s, t, h => by simp only [sset]; rw [sset_comm l s t (by simpa using h)]
theorem set_comm (st : St) {d e : Option Tmp} (s t : SV) (h : ∀ x, d = some x → e ≠ some x) : (st.set d s).set e t = (st.set e t).set d s := by
  cases d with
  | none => rfl
  | some d =>
    cases e with
    | none => rfl
    | some e =>
      show St.mk (sset (sset st.slots d s) e t) st.boxes = St.mk (sset (sset st.slots e t) d s) st.boxes
      rw [sset_comm _ _ _ (fun hh => h d rfl (by rw [hh]))]
theorem ev_set {d : Option Tmp} {s : SV} {x : Operand} (h : ∀ t, d = some t → x ≠ .tmp t) : (st.set d s).ev x = st.ev x := by
  cases d with
  | none => rfl
  | some d =>
    cases x with
    | tmp t =>
      show sget (sset st.slots d s) t = sget st.slots t
      rw [sget_sset, if_neg]
      rintro ⟨e, _⟩
      exact h d rfl (by rw [e])
    | _ => rfl
theorem boxes_set {d : Option Tmp} {s : SV} : (st.set d s).boxes = st.boxes := by cases d <;> rfl
theorem apart_spec {a b : Oper} (h : apart a b = true) : (∀ x ∈ rd b, ∀ t, a.dst = some t → x ≠ .tmp t) ∧ (∀ x ∈ rd a, ∀ t, b.dst = some t → x ≠ .tmp t) ∧ (∀ t, a.dst = some t → b.dst ≠ some t) := by
  have key : ∀ {l : List Operand} {d : Tmp}, (l.any fun x => match x with | .tmp t => t == d | _ => false) = false → ∀ x ∈ l, x ≠ .tmp d := by
    intro l d hl x hx e
    subst e
    have := (List.any_eq_false.1 hl) _ hx
    simp at this
  unfold apart at h
  simp only [Bool.and_eq_true] at h
  refine ⟨fun x hx t ht => ?_, fun x hx t ht => ?_, fun t ht => ?_⟩
  · have h1 := h.1
    rw [ht] at h1
    simp only [Bool.and_eq_true, Bool.not_eq_true'] at h1
    exact key h1.1 x hx
  · have h1 := h.2
    rw [ht] at h1
    simp only [Bool.not_eq_true'] at h1
    exact key h1 x hx
  · have h1 := h.1
    rw [ht] at h1
    simp only [Bool.and_eq_true, Bool.not_eq_true'] at h1
    intro e
    rw [e] at h1
    simp at h1
theorem swap_quiet {a b : Oper} (qa : quiet a = true) (qb : quiet b = true) (h : apart a b = true) (K : St → Option R) :
    (stepS c st a fun st => stepS c st b K) = (stepS c st b fun st => stepS c st a K) := by
  obtain ⟨h1, h2, h3⟩ := apart_spec h
  rw [stepS_val qa, stepS_val qb]
  have e1 : ∀ s, stepS c (st.set a.dst s) b K = valS c st b fun u => K ((st.set b.dst u).set a.dst s) := fun s => by
    rw [stepS_val qb, valS_local (st := st) (fun x hx => ev_set (h1 x hx)) (fun x hx j _ => by rw [boxes_set])]
    congr 1; funext u
    rw [set_comm st s u h3]
  have e2 : ∀ s, stepS c (st.set b.dst s) a K = valS c st a fun u => K ((st.set b.dst s).set a.dst u) := fun s => by
    rw [stepS_val qa, valS_local (st := st) (fun x hx => ev_set (h2 x hx)) (fun x hx j _ => by rw [boxes_set])]
  simp only [e1, e2]
  rw [valS_bind (o := a), valS_bind (o := b) (K := fun s => valS c st a fun u => K ((st.set b.dst s).set a.dst u))]
  have e3 : ∀ s, (valS c st b fun u => K ((st.set b.dst u).set a.dst s)) = (valS c st b some).bind fun u => K ((st.set b.dst u).set a.dst s) := fun s => valS_bind _
  have e4 : ∀ s, (valS c st a fun u => K ((st.set b.dst s).set a.dst u)) = (valS c st a some).bind fun u => K ((st.set b.dst s).set a.dst u) := fun s => valS_bind _
  simp only [e3, e4]
  cases valS c st a some <;> cases valS c st b some <;> rfl
end
end Go.Proofs.YtgdaiifhedpffaaDoor.V
set_option linter.unusedVariables false
set_option linter.unusedSimpArgs false
namespace Go.Proofs.YtgdaiifhedpffaaDoor.V
open Go
section
variable {R : Type} {c : Cx} {st st' : St} {ops : Array Oper}
noncomputable def gS (c : Cx) (ops : Array Oper) (i : Nat) (st : St) (K : St → Option R) : Option R := opsS c ops [i] st K
theorem opsS_cons (i : Nat) (l : List Nat) (st : St) (K : St → Option R) : opsS c ops (i :: l) st K = gS c ops i st fun st => opsS c ops l st K := by
  simp only [gS, opsS]
theorem opsS_append (l m : List Nat) (st : St) (K : St → Option R) : opsS c ops (l ++ m) st K = opsS c ops l st fun st => opsS c ops m st K := by
  induction l generalizing st with
  | nil => rfl
  | cons i l ih =>
    rw [List.cons_append, opsS_cons, opsS_cons]
    congr 1; funext st
    exact ih st
theorem gS_plain {i : Nat} {o : Oper} (h : ops[i]? = some o) (hg : o.guard = none) (K : St → Option R) : gS c ops i st K = stepS c st o K := by
  simp only [gS, opsS, h, hg]
theorem swap_ok {i j : Nat} {a b : Oper} (ha : ops[i]? = some a) (hb : ops[j]? = some b) (h : swapOk a b = true) (K : St → Option R) :
    (gS c ops i st fun st => gS c ops j st K) = (gS c ops j st fun st => gS c ops i st K) := by
  unfold swapOk at h
  simp only [Bool.and_eq_true, Option.isNone_iff_eq_none] at h
  obtain ⟨⟨⟨⟨g1, g2⟩, q1⟩, q2⟩, h⟩ := h
  simp only [gS_plain ha g1, gS_plain hb g2]
  exact swap_quiet q1 q2 h K
theorem front {i : Nat} {b : Oper} (hb : ops[i]? = some b) : ∀ (l : List Nat) {st : St} {K : St → Option R}, (∀ j ∈ l, ∃ a, ops[j]? = some a ∧ swapOk a b = true) →
    opsS c ops (l ++ [i]) st K = opsS c ops (i :: l) st K
  | [], _, _, _ => rfl
  | j :: l, st, K, h => by
    obtain ⟨a, ha, hs⟩ := h j (List.mem_cons_self ..)
    rw [List.cons_append, opsS_cons]
    have e : (fun st => opsS c ops (l ++ [i]) st K) = fun st => gS c ops i st fun st => opsS c ops l st K := by
      funext st
      rw [front hb l (fun k hk => h k (List.mem_cons_of_mem _ hk)), opsS_cons]
    rw [e, opsS_cons, swap_ok ha hb hs]
    congr 1
end
def Down (ops : Array Oper) (listed : Nat → Prop) : Prop := ∀ i o, listed i → ops[i]? = some o → ∀ e ∈ edges o, listed e
theorem down_preds {ops : Array Oper} {t : List (List Nat)} (hd : drawOk ops t = true) {listed : Nat → Prop} (h : Down ops listed) : ∀ (n i : Nat) (o : Oper), i < n → ops[i]? = some o → (∀ e ∈ edges o, listed e) → ∀ j ∈ t.getD i [], listed j := by
  intro n
  induction n with
  | zero => intro i o hi; omega
  | succ n ih =>
    intro i o hi ho he j hj
    have hlt : i < ops.size := (Array.getElem?_eq_some_iff.1 ho).1
    have h1 := (List.all_eq_true.1 hd) i (List.mem_range.2 hlt)
    simp only [ho, Bool.and_eq_true, List.all_eq_true, decide_eq_true_eq] at h1
    obtain ⟨m, hm, hmj⟩ := List.any_eq_true.1 (h1.1.2 j hj)
    simp only [Bool.or_eq_true, beq_iff_eq, List.contains_iff_mem] at hmj
    rcases hmj with rfl | hmj
    · exact he m hm
    · have hml := he m hm
      have hmi := h1.1.1 m hm
      have hms : m < ops.size := by omega
      obtain ⟨p, hp⟩ : ∃ p, ops[m]? = some p := ⟨ops[m], by rw [Array.getElem?_eq_getElem]⟩
      exact ih m p (by omega) hp (h m p hml hp) j hmj
section
variable {P : Program} {G : Gl} {I0 : Nat → Prop} {T : Type} {r0 : T} {c : Cx} {ops : Array Oper} {Q : Exit → Act → World → Prop} {K : St → Option T}
theorem lists_set {listed : Array Bool} {i j : Nat} (hs : listed.size = ops.size) (hi : i < ops.size) : (listed.setIfInBounds i true).getD j true = true ↔ j = i ∨ listed.getD j true = true := by
  simp only [Array.getD_eq_getD_getElem?, Array.getElem?_setIfInBounds]
  by_cases h : i = j
  · subst h
    simp [hs, hi]
  · rw [if_neg h]
    constructor
    · intro h2; exact .inr h2
    · rintro (h2 | h2)
      · exact absurd h2.symm h
      · exact h2
theorem getD_iff {listed : Array Bool} {j : Nat} (hs : listed.size = ops.size) (hj : j < ops.size) : listed.getD j false = true ↔ listed.getD j true = true := by
  simp only [Array.getD_eq_getD_getElem?]
  rw [Array.getElem?_eq_getElem (by omega)]
  rfl
theorem ready_iff {listed : Array Bool} {i : Nat} : i ∈ Region.ready .any ops listed ↔ i < ops.size ∧ listed.getD i true = false ∧ ∃ o, ops[i]? = some o ∧ ∀ e ∈ edges o, listed.getD e false = true := by
  unfold Region.ready
  simp only [List.mem_filter, List.mem_range, Bool.and_eq_true, Bool.not_eq_true']
  constructor
  · rintro ⟨h1, h2, h3⟩
    refine ⟨h1, h2, ?_⟩
    cases ho : ops[i]? with
    | none => rw [ho] at h3; simp at h3
    | some o =>
      rw [ho] at h3
      simp only [Option.map_some, Option.getD_some] at h3
      refine ⟨o, rfl, fun e he => ?_⟩
      unfold edges at he
      obtain ⟨x, hx, rfl⟩ := List.mem_map.1 he
      obtain ⟨hx1, hx2⟩ := List.mem_filter.1 hx
      have := (Array.all_eq_true'.1 h3) x (by simpa using hx1)
      simp [hx2] at this
      rw [Array.getD_eq_getD_getElem?]; exact this
  · rintro ⟨h1, h2, o, ho, h3⟩
    refine ⟨h1, h2, ?_⟩
    rw [ho]
    simp only [Option.map_some, Option.getD_some]
    refine Array.all_eq_true'.2 fun x hx => ?_
    by_cases hb : Region.binds .any x = true
    · have := h3 x.on (List.mem_map.2 ⟨x, List.mem_filter.2 ⟨by simpa using hx, hb⟩, rfl⟩)
      simp [this]
    · simp [hb]
theorem any_some (step : ∀ {st : St} {a : Act} {w : World} {i : Nat} {T : Type} {K : St → Option T} {r : T} {KK : Act → World → Prop}, gS c ops i st K = some r → Ok G I0 st a w → (∀ a w, Post G I0 K r a w → KK a w) → wpOp P ops Q i KK a w)
    (hd : drawOk ops (preds ops.toList []) = true) (hQ : ∀ a w, Post G I0 K r0 a w → Q .normal a w) :
    ∀ (fuel : Nat) (l : List Nat) (listed : Array Bool) {st : St} {a : Act} {w : World}, l.length = fuel → listed.size = ops.size → l.Pairwise (· < ·) → (∀ i, i ∈ l ↔ i < ops.size ∧ listed.getD i true = false) → Down ops (fun i => i < ops.size ∧ listed.getD i true = true) →
      opsS c ops l st K = some r0 → Ok G I0 st a w → wpAny P .any ops Q fuel listed a w := by
  intro fuel
  induction fuel with
  | zero =>
    intro l listed st a w hl hs hp hm hD hk h
    have : l = [] := List.length_eq_zero_iff.1 hl
    subst this
    refine ⟨?_, hQ a w ⟨st, hk, h⟩⟩
    apply List.eq_nil_iff_forall_not_mem.2
    intro i hi
    obtain ⟨h1, h2, _⟩ := ready_iff.1 hi
    have := (hm i).2 ⟨h1, h2⟩
    simp at this
  | succ fuel ih =>
    intro l listed st a w hl hs hp hm hD hk h
    refine ⟨fun hr => ?_, fun i hi => ?_⟩
    · exfalso
      match l, hl with
      | k :: l, _ =>
        obtain ⟨hk1, hk2⟩ := (hm k).1 (List.mem_cons_self ..)
        have hmem : k ∈ Region.ready .any ops listed := by
          refine ready_iff.2 ⟨hk1, hk2, ops[k], by rw [Array.getElem?_eq_getElem], fun e he => ?_⟩
          have h1 := (List.all_eq_true.1 hd) k (List.mem_range.2 hk1)
          rw [Array.getElem?_eq_getElem hk1] at h1
          simp only [Bool.and_eq_true, List.all_eq_true, decide_eq_true_eq] at h1
          have hek := h1.1.1 e he
          have hes : e < ops.size := by omega
          rw [getD_iff (ops := ops) hs hes]
          cases hle : listed.getD e true with
          | true => rfl
          | false =>
            have : e ∈ k :: l := (hm e).2 ⟨hes, hle⟩
            rcases List.mem_cons.1 this with h | h
            · omega
            · have := (List.pairwise_cons.1 hp).1 e h; omega
        rw [hr] at hmem; simp at hmem
    · obtain ⟨hi1, hi2, o, ho, he⟩ := ready_iff.1 hi
      obtain ⟨l1, l2, rfl⟩ := List.append_of_mem ((hm i).2 ⟨hi1, hi2⟩)
      have h1 := (List.all_eq_true.1 hd) i (List.mem_range.2 hi1)
      simp only [ho, Bool.and_eq_true, List.all_eq_true, decide_eq_true_eq] at h1
      have he' : ∀ e ∈ edges o, e < ops.size ∧ listed.getD e true = true := fun e hh => by
        have hes : e < ops.size := by have := h1.1.1 e hh; omega
        exact ⟨hes, (getD_iff (ops := ops) hs hes).1 (he e hh)⟩
      have hpre := down_preds hd hD (i + 1) i o (by omega) ho he'
      have hpw := List.pairwise_append.1 hp
      have hfr : ∀ j ∈ l1, ∃ a, ops[j]? = some a ∧ swapOk a o = true := fun j hj => by
        have hji : j < i := hpw.2.2 j hj i (List.mem_cons_self ..)
        have h2 := h1.2 j (List.mem_range.2 hji)
        obtain ⟨hj1, hj2⟩ := (hm j).1 (by simp [hj])
        rw [Bool.or_eq_true] at h2
        rcases h2 with h2 | h2
        · have := (hpre j (List.contains_iff_mem.1 h2)).2
          rw [hj2] at this; cases this
        · rw [Array.getElem?_eq_getElem hj1] at h2 ⊢
          exact ⟨_, rfl, h2⟩
      have e1 : opsS c ops (l1 ++ i :: l2) st K = gS c ops i st fun st => opsS c ops (l1 ++ l2) st K := by
        have : l1 ++ i :: l2 = (l1 ++ [i]) ++ l2 := by simp
        rw [this, opsS_append, front ho l1 hfr, opsS_cons]
        congr 1; funext st
        rw [opsS_append]
      rw [e1] at hk
      refine step hk h fun a w ⟨st', hk', h'⟩ => ?_
      refine ih (l1 ++ l2) _ (by simp at hl ⊢; omega) (by simp [hs]) ?_ (fun j => ?_) ?_ hk' h'
      · refine List.pairwise_append.2 ⟨hpw.1, (List.pairwise_cons.1 hpw.2.1).2, fun x hx y hy => hpw.2.2 x hx y (List.mem_cons_of_mem _ hy)⟩
      · have hne : ∀ j, j ∈ l1 ++ l2 ↔ j ∈ l1 ++ i :: l2 ∧ j ≠ i := fun j => by
          have hnd : (l1 ++ i :: l2).Nodup := hp.imp (fun h => Nat.ne_of_lt h)
          rw [List.nodup_append, List.nodup_cons] at hnd
          simp only [List.mem_append, List.mem_cons]
          constructor
          · rintro (h | h)
            · exact ⟨.inl h, fun e => hnd.2.2 j h i (List.mem_cons_self ..) e⟩
            · exact ⟨.inr (.inr h), fun e => hnd.2.1.1 (e ▸ h)⟩
          · rintro ⟨h | h | h, hne⟩
            · exact .inl h
            · exact absurd h hne
            · exact .inr h
        rw [hne, hm]
        have := lists_set (listed := listed) (ops := ops) (j := j) hs hi1
        constructor
        · rintro ⟨⟨a1, a2⟩, a3⟩
          refine ⟨a1, ?_⟩
          cases hx : (listed.setIfInBounds i true).getD j true with
          | false => rfl
          | true =>
            rcases this.1 hx with h | h
            · exact absurd h a3
            · rw [a2] at h; cases h
        · rintro ⟨a1, a2⟩
          refine ⟨⟨a1, ?_⟩, fun e => ?_⟩
          · cases hx : listed.getD j true with
            | false => rfl
            | true => rw [this.2 (.inr hx)] at a2; cases a2
          · rw [this.2 (.inl e)] at a2; cases a2
      · intro k p ⟨k1, k2⟩ hkp e hee
        rcases (lists_set (ops := ops) hs hi1).1 k2 with h | h
        · subst h
          rw [ho] at hkp; cases hkp
          exact ⟨(he' e hee).1, (lists_set (ops := ops) hs hi1).2 (.inr (he' e hee).2)⟩
        · obtain ⟨d1, d2⟩ := hD k p ⟨k1, h⟩ hkp e hee
          exact ⟨d1, (lists_set (ops := ops) hs hi1).2 (.inr d2)⟩
end
end Go.Proofs.YtgdaiifhedpffaaDoor.V
set_option linter.unusedVariables false
set_option linter.unusedSimpArgs false
namespace Go.Proofs.YtgdaiifhedpffaaDoor.V
open Go
theorem forget_noU {p : Bool → Nat → Path → Bool} : ∀ {s : SV}, noU (forget p s) = true → forget p s = s
  | .agg a b, h => by
    simp only [forget, noU, Bool.and_eq_true] at h ⊢
    rw [forget_noU h.1, forget_noU h.2]
  | .tcons a b, h => by
    simp only [forget, noU, Bool.and_eq_true] at h ⊢
    rw [forget_noU h.1, forget_noU h.2]
  | .fn f c, h => by
    simp only [forget, noU] at h ⊢
    rw [forget_noU h]
  | .ref s q, h => by
    simp only [forget] at h ⊢
    split
    · rename_i e; rw [if_pos e] at h; simp [noU] at h
    · rfl
  | .sub s q lo n, h => by
    simp only [forget] at h ⊢
    split
    · rename_i e; rw [if_pos e] at h; simp [noU] at h
    · rfl
  | .ptr s q, h => by
    simp only [forget] at h ⊢
    split
    · rename_i e; rw [if_pos e] at h; simp [noU] at h
    · rfl
  | .undef, _ => rfl
  | .con _ _, _ => rfl
  | .raw _, _ => rfl
  | .emp, _ => rfl
  | .tnil, _ => rfl
  | .pro _ _, _ => rfl
  | .nul _ _, _ => rfl
theorem forget_off {p : Bool → Nat → Path → Bool} : ∀ {s : SV}, (∀ r ∈ roots s, ∀ b q, p b r q = false) → forget p s = s
  | .agg a b, h => by
    simp only [forget]
    rw [forget_off (fun r hr => h r (by simp [roots, hr])), forget_off (fun r hr => h r (by simp [roots, hr]))]
  | .tcons a b, h => by
    simp only [forget]
    rw [forget_off (fun r hr => h r (by simp [roots, hr])), forget_off (fun r hr => h r (by simp [roots, hr]))]
  | .fn f c, h => by
    simp only [forget]
    rw [forget_off (fun r hr => h r (by simpa [roots] using hr))]
  | .ref s q, h => by simp [forget, h s (by simp [roots])]
  | .sub s q lo n, h => by simp [forget, h s (by simp [roots])]
  | .ptr s q, h => by simp [forget, h s (by simp [roots])]
  | .undef, _ => rfl
  | .con _ _, _ => rfl
  | .raw _, _ => rfl
  | .emp, _ => rfl
  | .tnil, _ => rfl
  | .pro _ _, _ => rfl
  | .nul _ _, _ => rfl
theorem forget_comm (p q : Bool → Nat → Path → Bool) : ∀ s : SV, forget p (forget q s) = forget q (forget p s)
  | .agg a b => by simp only [forget]; rw [forget_comm p q a, forget_comm p q b]
  | .tcons a b => by simp only [forget]; rw [forget_comm p q a, forget_comm p q b]
  | .fn f c => by simp only [forget]; rw [forget_comm p q c]
  | .ref s r => by by_cases h1 : p false s r = true <;> by_cases h2 : q false s r = true <;> simp [forget, h1, h2]
  | .sub s r lo n => by by_cases h1 : p false s r = true <;> by_cases h2 : q false s r = true <;> simp [forget, h1, h2]
  | .ptr s r => by by_cases h1 : p true s r = true <;> by_cases h2 : q true s r = true <;> simp [forget, h1, h2]
  | .undef => rfl
  | .con _ _ => rfl
  | .raw _ => rfl
  | .emp => rfl
  | .tnil => rfl
  | .pro _ _ => rfl
  | .nul _ _ => rfl
theorem bset_comm {i j : Nat} (h : i ≠ j) (b c : Bx) : ∀ l : List (Nat × Bx), bset i b (bset j c l) = bset j c (bset i b l)
  | [] => by
    rcases Nat.lt_or_gt_of_ne h with h1 | h1
    · simp [bset, h1, Nat.not_lt.2 (Nat.le_of_lt h1), h.symm]
    · simp [bset, h1, Nat.not_lt.2 (Nat.le_of_lt h1), h]
  | (k, d) :: l => by
    have ih := bset_comm h b c l
    by_cases h1 : j < k
    · by_cases h2 : i < k
      · rcases Nat.lt_or_gt_of_ne h with h3 | h3
        · simp [bset, h1, h2, h3, Nat.not_lt.2 (Nat.le_of_lt h3), h.symm]
        · simp [bset, h1, h2, h3, Nat.not_lt.2 (Nat.le_of_lt h3), h]
      · have h4 : ¬ i < j := by omega
        by_cases h5 : i = k
        · subst h5; simp [bset, h1, h2, h4, h]
        · simp [bset, h1, h2, h4, h, h5]
    · by_cases h2 : i < k
      · have h4 : ¬ j < i := by omega
        by_cases h5 : j = k
        · subst h5; simp [bset, h1, h2, h4, h.symm]
        · simp [bset, h1, h2, h4, h.symm, h5]
      · by_cases h5 : i = k
        · by_cases h6 : j = k
          · omega
          · subst h5; simp [bset, h1, h2, h6]
        · by_cases h6 : j = k
          · subst h6; simp [bset, h1, h2, h5]
          · simp [bset, h1, h2, h5, h6, ih]
theorem bget_bset_ne {i j : Nat} (h : j ≠ i) (b : Bx) : ∀ l : List (Nat × Bx), bget (bset i b l) j = bget l j
  | [] => by simp [bset, bget, h]
  | (k, c) :: l => by
    simp only [bset]
    split
    · simp [bget, h]
    · split
      · rename_i e; subst e; simp [bget, h]
      · simp only [bget]
        split
        · rfl
        · exact bget_bset_ne h b l
abbrev KF := Bool → Path → Bool
def kAll : KF := fun _ _ => true
def kDeep : KF := fun _ q => !decide (lev q = 0)
def kTurn (L : Nat) : KF := fun isPtr q => cond isPtr (decide (L < lev q)) (decide (L ≤ lev q))
def kNone : KF := fun _ _ => false
def killF (f : KF) (i : Nat) : SV → SV := forget fun p s q => decide (s = i) && f p q
def St.upd (st : St) (i : Nat) (f : KF) (b : Bx) : St := { slots := st.slots.map (killF f i), boxes := bset i b st.boxes }
theorem lay_upd (st : St) (i : Nat) (b : Bx) : st.lay i b = st.upd i kAll b := by
  have : killAll i = killF kAll i := by
    unfold killAll killF
    congr 1; funext _ s q; simp [kAll]
  simp only [St.lay, St.upd, this]
abbrev Upd := Nat × KF × Bx
theorem turn_upd (st : St) (r L : Nat) (b : Bx) : st.turn r L b = st.upd r (kTurn L) b := rfl
theorem none_upd (st : St) (r : Nat) (b : Bx) : ({ st with boxes := bset r b st.boxes } : St) = st.upd r kNone b := by
  have : st.slots.map (killF kNone r) = st.slots := by
    rw [List.map_congr_left (g := id) (fun s _ => ?_), List.map_id]
    exact forget_off fun j _ p q => by simp [kNone]
  simp only [St.upd, this]
def St.lays (st : St) : List Upd → St
  | [] => st
  | (i, f, b) :: l => (st.upd i f b).lays l
theorem lays_append (st : St) : ∀ l m : List Upd, st.lays (l ++ m) = (st.lays l).lays m
  | [], _ => rfl
  | (i, f, b) :: l, m => lays_append (st.upd i f b) l m
theorem upd_comm (st : St) {i j : Nat} (h : i ≠ j) (f g : KF) (b c : Bx) : (st.upd i f b).upd j g c = (st.upd j g c).upd i f b := by
  simp only [St.upd, List.map_map]
  congr 1
  · congr 1; funext s; exact forget_comm _ _ s
  · exact (bset_comm h b c st.boxes).symm
theorem lays_upd (st : St) {j : Nat} (g : KF) (c : Bx) : ∀ (l : List Upd), (∀ p ∈ l, p.1 ≠ j) → (st.lays l).upd j g c = (st.upd j g c).lays l
  | [], _ => rfl
  | (i, f, b) :: l, h => by
    simp only [St.lays]
    rw [lays_upd (st.upd i f b) g c l (fun p hp => h p (List.mem_cons_of_mem _ hp)), upd_comm st (h (i, f, b) (List.mem_cons_self ..))]
theorem lays_comm (st : St) : ∀ (m l : List Upd), (∀ p ∈ l, ∀ q ∈ m, p.1 ≠ q.1) → (st.lays l).lays m = (st.lays m).lays l
  | [], _, _ => rfl
  | (j, g, c) :: m, l, h => by
    simp only [St.lays]
    rw [lays_upd st g c l (fun p hp => h p hp (j, g, c) (List.mem_cons_self ..))]
    exact lays_comm (st.upd j g c) m l (fun p hp q hq => h p hp q (List.mem_cons_of_mem _ hq))
theorem sset_map (f : SV → SV) : ∀ (l : List SV) (d : Nat) (s : SV), f s = s → (sset l d s).map f = sset (l.map f) d s
  | [], _, _, _ => rfl
  | a :: l, 0, s, h => by simp [sset, h]
  | a :: l, d + 1, s, h => by simp [sset, sset_map f l d s h]
theorem set_upd (st : St) (d : Option Tmp) (s : SV) (i : Nat) (f : KF) (b : Bx) (h : i ∉ roots s) : (st.set d s).upd i f b = (st.upd i f b).set d s := by
  cases d with
  | none => rfl
  | some d =>
    simp only [St.set, St.upd]
    congr 1
    refine sset_map _ _ _ _ (forget_off fun r hr b q => ?_)
    have : ¬ r = i := fun e => h (e ▸ hr)
    simp [this]
theorem set_lays (d : Option Tmp) (s : SV) : ∀ (l : List Upd) (st : St), (∀ p ∈ l, p.1 ∉ roots s) → (st.set d s).lays l = (st.lays l).set d s
  | [], _, _ => rfl
  | (i, f, b) :: l, st, h => by
    simp only [St.lays]
    rw [set_upd st d s i f b (h (i, f, b) (List.mem_cons_self ..)), set_lays d s l _ (fun p hp => h p (List.mem_cons_of_mem _ hp))]
theorem lays_ev_U : ∀ (l : List Upd) (st : St) (x : Operand), noU ((st.lays l).ev x) = true → (st.lays l).ev x = st.ev x
  | [], _, _, _ => rfl
  | (i, f, b) :: l, st, x, h => by
    simp only [St.lays] at h ⊢
    have e := lays_ev_U l (st.upd i f b) x h
    rw [e] at h ⊢
    cases x with
    | tmp t =>
      have e2 : (st.upd i f b).ev (.tmp t) = killF f i (st.ev (.tmp t)) := sget_map _ _ _
      rw [e2] at h ⊢
      exact forget_noU h
    | _ => rfl
theorem lays_ev_off : ∀ (l : List Upd) (st : St) (x : Operand), (∀ p ∈ l, p.1 ∉ roots (st.ev x)) → (st.lays l).ev x = st.ev x
  | [], _, _, _ => rfl
  | (i, f, b) :: l, st, x, h => by
    have e2 : (st.upd i f b).ev x = st.ev x := by
      cases x with
      | tmp t =>
        have e2 : (st.upd i f b).ev (.tmp t) = killF f i (st.ev (.tmp t)) := sget_map _ _ _
        rw [e2]
        refine forget_off fun r hr b' q => ?_
        have : ¬ r = i := fun e => h (i, f, b) (List.mem_cons_self ..) (e ▸ hr)
        simp [this]
      | _ => rfl
    simp only [St.lays]
    rw [lays_ev_off l (st.upd i f b) x (fun p hp => by rw [e2]; exact h p (List.mem_cons_of_mem _ hp)), e2]
theorem lays_boxes : ∀ (l : List Upd) (st : St) (r : Nat), (∀ p ∈ l, p.1 ≠ r) → bget (st.lays l).boxes r = bget st.boxes r
  | [], _, _, _ => rfl
  | (i, f, b) :: l, st, r, h => by
    simp only [St.lays]
    rw [lays_boxes l (st.upd i f b) r (fun p hp => h p (List.mem_cons_of_mem _ hp))]
    exact bget_bset_ne (Ne.symm (h (i, f, b) (List.mem_cons_self ..))) b st.boxes
theorem bget_bset_eq (i : Nat) (b : Bx) : ∀ l : List (Nat × Bx), bget (bset i b l) i = some b
  | [] => by simp [bset, bget]
  | (k, c) :: l => by
    simp only [bset]
    split
    · simp [bget]
    · split
      · simp [bget]
      · rename_i h; simp only [bget, if_neg h]; exact bget_bset_eq i b l
theorem lays_congr : ∀ (l : List Upd) {st st' : St} {r : Nat}, bget st'.boxes r = bget st.boxes r → bget (st'.lays l).boxes r = bget (st.lays l).boxes r
  | [], _, _, _, h => h
  | (i, f, b) :: l, st, st', r, h => by
    simp only [St.lays]
    refine lays_congr l ?_
    show bget (bset i b st'.boxes) r = bget (bset i b st.boxes) r
    by_cases e : r = i
    · subst e; rw [bget_bset_eq, bget_bset_eq]
    · rw [bget_bset_ne e, bget_bset_ne e]; exact h
theorem rowAt_map {R S : Type} (bs : List (Nat × Bx)) (r : Nat) (q : Path) (t : Ty) (f : S → Option R) (K : Bx → List (den t) → Md → Option S) : (rowAt bs r q t K).bind f = rowAt bs r q t fun b xs m => (K b xs m).bind f := by
  unfold rowAt
  split <;> (try rfl) <;> (repeat' split) <;> rfl
def toCE : St → SV → (t : Ty) → Md → Option (den t × Md × List Upd)
  | st, .con t' x, t, w => if h : t' = t then rzK t (h ▸ x) w fun m => some (h ▸ x, m, []) else none
  | st, .raw v, t, w => match parse t v.cells.toList with
    | some (x, []) => some (x, fitM t w, [])
    | _ => none
  | st, .emp, .slc t, w => match w with
    | .rz => none
    | w => some ([], fitM (.slc t) w, [])
  | st, .agg a b, .pair ta tb, w => (toCE st a ta w.fst).bind fun p => (toCE (st.lays p.2.2) (shallow b) tb w.snd).bind fun q => some ((p.1, q.1), Md.mk p.2.1 q.2.1, p.2.2 ++ q.2.2)
  | st, .ref r q, .slc t, w => if lev q = 0 then rowAt st.boxes r q t fun b xs m =>
      match w with
      | .ro => if live t m = true then some (xs, .ro, [(r, kDeep, { b with m := mput b.m q .dead })]) else none
      | _ => some (xs, .own m, [(r, kDeep, { b with m := mput b.m q .dead })])
    else none
  | st, .sub r q lo n, .slc t, w => if lev q = 0 then rowAt st.boxes r q t fun b xs m =>
      match w with
      | .ro => if live t m = true then some ((xs.drop lo).take n, .ro, [(r, kDeep, { b with m := mput b.m q .dead })]) else none
      | _ => some ((xs.drop lo).take n, .own m, [(r, kDeep, { b with m := mput b.m q .dead })])
    else none
  | st, .ref r q, .mp k v, w => if lev q = 0 then mapAt st.boxes r q k v fun b xs m => some (xs, mpM w m, [(r, kDeep, { b with m := mput b.m q .dead })]) else none
  | _, _, _, _ => none
theorem mapAt_map {R S : Type} (bs : List (Nat × Bx)) (r : Nat) (q : Path) (k v : Ty) (f : S → Option R) (K : Bx → den (.mp k v) → Md → Option S) : (mapAt bs r q k v K).bind f = mapAt bs r q k v fun b xs m => (K b xs m).bind f := by
  unfold mapAt
  split <;> (try rfl) <;> (repeat' split) <;> rfl
theorem rzK_bind {R S : Type} (t : Ty) (x : den t) (w : Md) (f : Md → Option R) (g : R → Option S) : (rzK t x w f).bind g = rzK t x w fun m => (f m).bind g := by
  unfold rzK
  split
  · split <;> rfl
  · rfl
theorem toC_E : ∀ {t : Ty} {w : Md} {s : SV} {R : Type} (st : St) (K : den t → Md → St → Option R), toC st s t w K = (toCE st s t w).bind fun p => K p.1 p.2.1 (st.lays p.2.2) := by
  intro t
  induction t with
  | pair ta tb iha ihb =>
    intro w s R st K
    cases s <;> simp only [toC, toCE] <;> (try rfl)
    · split
      · rename_i e; subst e; rw [rzK_bind]; rfl
      · rfl
    · generalize parse _ _ = o; rcases o with _ | ⟨x, _ | ⟨y, l⟩⟩ <;> rfl
    · rw [iha]
      cases toCE st _ ta w.fst with
      | none => rfl
      | some p =>
        simp only [Option.bind]
        rw [ihb]
        cases toCE (st.lays p.2.2) _ tb w.snd with
        | none => rfl
        | some q => simp only [Option.bind, lays_append]
  | slc t ih =>
    intro w s R st K
    cases s <;> simp only [toC, toCE] <;> (try rfl)
    · split
      · rename_i e; subst e; rw [rzK_bind]; rfl
      · rfl
    · generalize parse _ _ = o; rcases o with _ | ⟨x, _ | ⟨y, l⟩⟩ <;> rfl
    · cases w <;> rfl
    · split
      · rw [rowAt_map]
        congr 1; funext b xs m
        cases w <;> (try rfl)
        simp only
        split <;> rfl
      · rfl
    · split
      · rw [rowAt_map]
        congr 1; funext b xs m
        cases w <;> (try rfl)
        simp only
        split <;> rfl
      · rfl
  | mp k v ihk ihv =>
    intro w s R st K
    cases s <;> simp only [toC, toCE] <;> (try rfl)
    · split
      · rename_i e; subst e; rw [rzK_bind]; rfl
      · rfl
    · generalize parse _ _ = o; rcases o with _ | ⟨x, _ | ⟨y, l⟩⟩ <;> rfl
    · split
      · rw [mapAt_map]
        congr 1
      · rfl
  | _ =>
    intro w s R st K
    cases s <;> simp only [toC, toCE] <;> (try rfl)
    · split
      · rename_i e; subst e; rw [rzK_bind]; rfl
      · rfl
    all_goals (generalize parse _ _ = o; rcases o with _ | ⟨x, _ | ⟨y, l⟩⟩ <;> rfl)
theorem roots_off (p : Bool → Nat → Path → Bool) : ∀ {s : SV} {j : Nat}, j ∈ roots (forget p s) → j ∈ roots s
  | .agg a b, j, h => by
    simp only [forget, roots, List.mem_append] at h ⊢
    exact h.imp (roots_off p) (roots_off p)
  | .tcons a b, j, h => by
    simp only [forget, roots, List.mem_append] at h ⊢
    exact h.imp (roots_off p) (roots_off p)
  | .fn f c, j, h => by
    simp only [forget, roots] at h ⊢
    exact roots_off p h
  | .ref s q, j, h => by
    simp only [forget] at h
    split at h
    · simp [roots] at h
    · exact h
  | .sub s q lo n, j, h => by
    simp only [forget] at h
    split at h
    · simp [roots] at h
    · exact h
  | .ptr s q, j, h => by
    simp only [forget] at h
    split at h
    · simp [roots] at h
    · exact h
  | .undef, _, h => h
  | .con _ _, _, h => h
  | .raw _, _, h => h
  | .emp, _, h => h
  | .tnil, _, h => h
  | .pro _ _, _, h => h
theorem rowAt_local {R : Type} {bs bs' : List (Nat × Bx)} {r : Nat} (h : bget bs' r = bget bs r) (q : Path) (t : Ty) (K : Bx → List (den t) → Md → Option R) : rowAt bs' r q t K = rowAt bs r q t K := by
  unfold rowAt; rw [h]
theorem toCE_local : ∀ {t : Ty} {w : Md} {s : SV} {st st' : St}, (∀ j ∈ roots s, bget st'.boxes j = bget st.boxes j) → toCE st' s t w = toCE st s t w := by
  intro t
  induction t with
  | pair ta tb iha ihb =>
    intro w s st st' h
    cases s <;> simp only [toCE]
    rename_i a b
    rw [iha (fun j hj => h j (by simp [roots, hj]))]
    congr 1; funext p
    rw [ihb (fun j hj => lays_congr _ (h j (by simp [roots, roots_off _ hj])))]
  | slc t ih =>
    intro w s st st' h
    cases s <;> simp only [toCE]
    · rw [rowAt_local (h _ (by simp [roots]))]
    · rw [rowAt_local (h _ (by simp [roots]))]
  | mp k v ihk ihv =>
    intro w s st st' h
    cases s <;> simp only [toCE]
    unfold mapAt
    rw [h _ (by simp [roots])]
  | _ =>
    intro w s st st' h
    cases s <;> simp only [toCE]
theorem rowAt_out {R : Type} {bs : List (Nat × Bx)} {r : Nat} {q : Path} {t : Ty} {K : Bx → List (den t) → Md → Option R} {x : R} (h : rowAt bs r q t K = some x) : ∃ b xs m, K b xs m = some x := by
  unfold rowAt at h
  split at h
  · split at h
    · split at h
      · exact ⟨_, _, _, h⟩
      · cases h
    · cases h
  · cases h
theorem rzK_out {t : Ty} {y x : den t} {w m : Md} {E : List Upd} (h : rzK t y w (fun m => some (y, m, ([] : List Upd))) = some (x, m, E)) : E = [] := by
  unfold rzK at h
  split at h
  · split at h
    · cases h; rfl
    · cases h
  · cases h; rfl
theorem toCE_keys : ∀ {t : Ty} {w : Md} {s : SV} {st : St} {x : den t} {m : Md} {E : List Upd}, toCE st s t w = some (x, m, E) → ∀ p ∈ E, p.1 ∈ roots s := by
  intro t
  induction t with
  | pair ta tb iha ihb =>
    intro w s st x m E h
    cases s <;> simp only [toCE, reduceCtorEq] at h
    · split at h
      · rw [rzK_out h]; simp
      · cases h
    · split at h
      · cases h; simp
      · cases h
    · obtain ⟨p, hp, h⟩ := Option.bind_eq_some_iff.1 h
      obtain ⟨q, hq, h⟩ := Option.bind_eq_some_iff.1 h
      cases h
      intro e he
      simp only [roots, List.mem_append]
      rcases List.mem_append.1 he with he | he
      · exact .inl (iha hp e he)
      · exact .inr (roots_off _ (ihb hq e he))
  | slc t ih =>
    intro w s st x m E h
    cases s <;> simp only [toCE, reduceCtorEq] at h
    · split at h
      · rw [rzK_out h]; simp
      · cases h
    · split at h
      · cases h; simp
      · cases h
    · split at h
      · cases h
      · cases h; simp
    · split at h
      · obtain ⟨b, xs, m2, h⟩ := rowAt_out h
        cases w <;> simp only at h
        · split at h
          · cases h; simp [roots]
          · cases h
        all_goals (cases h; simp [roots])
      · cases h
    · split at h
      · obtain ⟨b, xs, m2, h⟩ := rowAt_out h
        cases w <;> simp only at h
        · split at h
          · cases h; simp [roots]
          · cases h
        all_goals (cases h; simp [roots])
      · cases h
  | mp k v ihk ihv =>
    intro w s st x m E h
    cases s <;> simp only [toCE, reduceCtorEq] at h
    · split at h
      · rw [rzK_out h]; simp
      · cases h
    · split at h
      · cases h; simp
      · cases h
    · split at h
      · unfold mapAt at h
        split at h
        · split at h
          · split at h
            · cases h; simp [roots]
            · cases h
          · cases h
        · cases h
      · cases h
  | _ =>
    intro w s st x m E h
    cases s <;> simp only [toCE, reduceCtorEq] at h
    · split at h
      · rw [rzK_out h]; simp
      · cases h
    · split at h
      · cases h; simp
      · cases h
def elemsE (t : Ty) (m : Md) : List SV → St → Option (List (den t) × List Upd)
  | [], _ => some ([], [])
  | s :: l, st => (toCE st (shallow s) t m).bind fun p => if sameM t p.2.1 m = true then (elemsE t m l (st.lays p.2.2)).bind fun q => some (p.1 :: q.1, p.2.2 ++ q.2) else none
theorem elems_E (t : Ty) (m : Md) : ∀ {l : List SV} {R : Type} (st : St) (K : List (den t) → St → Option R), elems t m l st K = (elemsE t m l st).bind fun q => K q.1 (st.lays q.2)
  | [], _, _, _ => rfl
  | s :: l, R, st, K => by
    simp only [elems, elemsE]
    rw [toC_E]
    cases toCE st (shallow s) t m with
    | none => rfl
    | some p =>
      simp only [Option.bind]
      by_cases hs : sameM t p.2.1 m = true
      · rw [if_pos hs, if_pos hs, elems_E t m (l := l)]
        cases elemsE t m l (st.lays p.2.2) with
        | none => rfl
        | some q => simp only [Option.bind, lays_append]
      · rw [if_neg hs, if_neg hs]
theorem elemsE_local (t : Ty) (m : Md) : ∀ {l : List SV} {st st' : St}, (∀ s ∈ l, ∀ j ∈ roots s, bget st'.boxes j = bget st.boxes j) → elemsE t m l st' = elemsE t m l st
  | [], _, _, _ => rfl
  | s :: l, st, st', h => by
    simp only [elemsE]
    rw [toCE_local (s := shallow s) (st := st) (fun j hj => h s (List.mem_cons_self ..) j (roots_off _ hj))]
    congr 1; funext p
    split
    · rw [elemsE_local t m (l := l) (fun s hs j hj => lays_congr _ (h s (List.mem_cons_of_mem _ hs) j hj))]
    · rfl
theorem elemsE_keys (t : Ty) (m : Md) : ∀ {l : List SV} {st : St} {xs : List (den t)} {E : List Upd}, elemsE t m l st = some (xs, E) → ∀ p ∈ E, ∃ s ∈ l, p.1 ∈ roots s
  | [], st, xs, E, h => by cases h; simp
  | s :: l, st, xs, E, h => by
    simp only [elemsE] at h
    obtain ⟨p, hp, h⟩ := Option.bind_eq_some_iff.1 h
    split at h
    · obtain ⟨q, hq, h⟩ := Option.bind_eq_some_iff.1 h
      cases h
      intro e he
      rcases List.mem_append.1 he with he | he
      · exact ⟨s, List.mem_cons_self .., roots_off _ (toCE_keys hp e he)⟩
      · obtain ⟨s', hs, hr⟩ := elemsE_keys t m hq e he
        exact ⟨s', List.mem_cons_of_mem _ hs, hr⟩
    · cases h
def appGoE (st : St) (d : Nat) (te : TE) (v : SV) (xs : List (den te.ty)) (free : Bool) (m : Md) : Option (List Upd × SV) :=
  if flat te.ty = true then (look st.boxes (shallow v) (.slc te.ty) some).bind fun ys => fin ys .ro []
  else (toCE st (shallow v) (.slc te.ty) (.own m)).bind fun p => match p.2.1 with
    | .ro => fin p.1 .ro p.2.2
    | .own m' => fin p.1 m' p.2.2
    | _ => none
where
  fin (ys : List (den te.ty)) (m' : Md) (E : List Upd) : Option (List Upd × SV) :=
    if free = true ∨ sameM te.ty m' m = true ∨ flat te.ty = true then
      (if (xs.length + ys.length) * te.bytes ≤ most ∧ 0 < te.bytes ∧ 0 < sz te.ty then
        some (E ++ [(d * 16, kAll, { mem := none, t := .slc te.ty, m := .own (if free = true then m' else m), x := xs ++ ys })], .ref (d * 16) [])
      else none)
    else none
theorem appGo_E {R : Type} (st : St) (d : Nat) (te : TE) (v : SV) (xs : List (den te.ty)) (free : Bool) (m : Md) (K : St → Option R) :
    appGo st d te v xs free m K = (appGoE st d te v xs free m).bind fun p => K ((st.lays p.1).set (some d) p.2) := by
  have hfin : ∀ (ys : List (den te.ty)) (m' : Md) (E : List Upd), (if free = true ∨ sameM te.ty m' m = true ∨ flat te.ty = true then
      (if (xs.length + ys.length) * te.bytes ≤ most ∧ 0 < te.bytes ∧ 0 < sz te.ty then
        K (((st.lays E).lay (d * 16) { mem := none, t := .slc te.ty, m := .own (if free = true then m' else m), x := xs ++ ys }).set (some d) (.ref (d * 16) []))
      else none) else none) = (appGoE.fin d te xs free m ys m' E).bind fun p => K ((st.lays p.1).set (some d) p.2) := by
    intro ys m' E
    unfold appGoE.fin
    by_cases h1 : free = true ∨ sameM te.ty m' m = true ∨ flat te.ty = true
    · rw [if_pos h1, if_pos h1]
      by_cases h2 : (xs.length + ys.length) * te.bytes ≤ most ∧ 0 < te.bytes ∧ 0 < sz te.ty
      · rw [if_pos h2, if_pos h2]
        simp only [Option.bind, lays_append, St.lays, lay_upd]
      · rw [if_neg h2, if_neg h2]; rfl
    · rw [if_neg h1, if_neg h1]; rfl
  unfold appGo newS appGoE
  by_cases hf : flat te.ty = true
  · rw [if_pos hf, if_pos hf, look_bind]
    cases look st.boxes (shallow v) (.slc te.ty) some with
    | none => rfl
    | some ys => exact hfin ys .ro []
  · rw [if_neg hf, if_neg hf, toC_E]
    cases toCE st (shallow v) (.slc te.ty) (.own m) with
    | none => rfl
    | some p =>
      obtain ⟨ys, mm, E⟩ := p
      simp only [Option.bind]
      cases mm with
      | ro => exact hfin ys .ro E
      | own m' => exact hfin ys m' E
      | dead => rfl
      | rz => rfl
      | pair a b => rfl
def appE (c : Cx) (st : St) (d : Nat) (te : TE) (s v : SV) : Option (List Upd × SV) :=
  if isAgg s = true ∨ isAgg v = true then none else match s with
  | .raw (.slice none 0 0) => appGoE st d te v [] true (c.mode d (.slc te.ty)).elem
  | .emp => appGoE st d te v [] true (c.mode d (.slc te.ty)).elem
  | s => (toCE st s (.slc te.ty) (.own .ro)).bind fun p => match p.2.1 with
    | .own m => (appGoE (st.lays p.2.2) d te v p.1 false m).bind fun q => some (p.2.2 ++ q.1, q.2)
    | _ => none
theorem app_E {R : Type} (c : Cx) (st : St) (d : Nat) (te : TE) (s v : SV) (K : St → Option R) : appS c st d te s v K = (appE c st d te s v).bind fun p => K ((st.lays p.1).set (some d) p.2) := by
  unfold appS appE
  by_cases h : isAgg s = true ∨ isAgg v = true
  · rw [if_pos h, if_pos h]; rfl
  · rw [if_neg h, if_neg h]
    split
    · exact appGo_E ..
    · exact appGo_E ..
    · rename_i hx1 hx2
      split
      · exact (hx1 rfl).elim
      · exact (hx2 rfl).elim
      · rw [toC_E]
        cases toCE st s (.slc te.ty) (.own .ro) with
        | none => rfl
        | some p =>
          obtain ⟨xs, mm, E⟩ := p
          simp only [Option.bind]
          cases mm with
          | own m =>
            simp only
            rw [appGo_E]
            cases appGoE (st.lays E) d te v xs false m with
            | none => rfl
            | some q => simp only [Option.bind, lays_append]
          | ro => rfl
          | dead => rfl
          | pair a b => rfl
          | rz => rfl
theorem appGoE_local {st st' : St} {d : Nat} {te : TE} {v : SV} {xs : List (den te.ty)} {free : Bool} {m : Md} (h : ∀ j ∈ roots v, bget st'.boxes j = bget st.boxes j) : appGoE st' d te v xs free m = appGoE st d te v xs free m := by
  unfold appGoE
  rw [look_local (s := shallow v) (bs := st.boxes) (fun j hj => h j (roots_off _ hj)), toCE_local (s := shallow v) (st := st) (fun j hj => h j (roots_off _ hj))]
theorem appE_local {c : Cx} {st st' : St} {d : Nat} {te : TE} {s v : SV} (hs : ∀ j ∈ roots s, bget st'.boxes j = bget st.boxes j) (hv : ∀ j ∈ roots v, bget st'.boxes j = bget st.boxes j) : appE c st' d te s v = appE c st d te s v := by
  unfold appE
  congr 1
  split
  · exact appGoE_local hv
  · exact appGoE_local hv
  · rw [toCE_local hs]
    congr 1; funext p
    split
    · rw [appGoE_local (st := st.lays p.2.2) (fun j hj => lays_congr _ (hv j hj))]
    · rfl
theorem appGoE_keys {st : St} {d : Nat} {te : TE} {v : SV} {xs : List (den te.ty)} {free : Bool} {m : Md} {E : List Upd} {s : SV} (h : appGoE st d te v xs free m = some (E, s)) : ∀ p ∈ E, p.1 = d * 16 ∨ (flat te.ty = false ∧ p.1 ∈ roots v) := by
  have hfin : ∀ {ys : List (den te.ty)} {m' : Md} {E' : List Upd}, appGoE.fin d te xs free m ys m' E' = some (E, s) → (∀ p ∈ E', flat te.ty = false ∧ p.1 ∈ roots v) → ∀ p ∈ E, p.1 = d * 16 ∨ (flat te.ty = false ∧ p.1 ∈ roots v) := by
    intro ys m' E' h hE p hp
    unfold appGoE.fin at h
    split at h
    · split at h
      · cases h
        rcases List.mem_append.1 hp with hp | hp
        · exact .inr (hE p hp)
        · simp at hp; subst hp; exact .inl rfl
      · cases h
    · cases h
  unfold appGoE at h
  split at h
  · obtain ⟨ys, _, h⟩ := Option.bind_eq_some_iff.1 h
    exact hfin h (fun p hp => by cases hp)
  · rename_i hf
    obtain ⟨q, hq, h⟩ := Option.bind_eq_some_iff.1 h
    obtain ⟨ys, mm, E'⟩ := q
    have hk : ∀ p ∈ E', flat te.ty = false ∧ p.1 ∈ roots v := fun p hp => ⟨by simpa using hf, roots_off _ (toCE_keys hq p hp)⟩
    split at h
    · exact hfin h hk
    · exact hfin h hk
    · cases h
theorem appE_keys {c : Cx} {st : St} {d : Nat} {te : TE} {s v : SV} {E : List Upd} {z : SV} (h : appE c st d te s v = some (E, z)) : ∀ p ∈ E, p.1 = d * 16 ∨ p.1 ∈ roots s ∨ (flat te.ty = false ∧ p.1 ∈ roots v) := by
  unfold appE at h
  split at h
  · cases h
  · split at h
    · exact fun p hp => (appGoE_keys h p hp).imp id .inr
    · exact fun p hp => (appGoE_keys h p hp).imp id .inr
    · obtain ⟨q, hq, h⟩ := Option.bind_eq_some_iff.1 h
      split at h
      · obtain ⟨r, hr, h⟩ := Option.bind_eq_some_iff.1 h
        cases h
        intro p hp
        rcases List.mem_append.1 hp with hp | hp
        · exact .inr (.inl (toCE_keys hq p hp))
        · exact (appGoE_keys hr p hp).imp id .inr
      · cases h
def copyBE (st : St) (r lo : Nat) (nn : Option Nat) (te : TE) (v : SV) : Option (List Upd × SV) :=
  match bget st.boxes r with
  | some b => if h : b.t = .slc te.ty then
      if b.mem.isNone = true ∧ copyB.isRow b.m = true ∧ flat te.ty = true ∧ sz te.ty = 1 ∧ isAgg v = false then
        (look st.boxes v (.slc te.ty) some).bind fun ys =>
          if 0 < List.length ys ∧ 0 < (nn.getD (List.length (h ▸ b.x : den (.slc te.ty)))) then
            some ([(r, kDeep, { b with x := (h.symm ▸ spl (h ▸ b.x : den (.slc te.ty)) lo (min (List.length ys) (nn.getD (List.length (h ▸ b.x : den (.slc te.ty))))) ys : den b.t) })],
              .con (.int .i64) ((min (List.length ys) (nn.getD (List.length (h ▸ b.x : den (.slc te.ty)))) : Nat) : Int))
          else none
      else none
    else none
  | none => none
def copyE0 (st : St) (te : TE) (s v : SV) : Option (List Upd × SV) :=
  match s with
  | .ref r [] => copyBE st r 0 none te v
  | .sub r [] lo n => copyBE st r lo (some n) te v
  | _ => none
theorem copyB_E {R : Type} (st : St) (r lo : Nat) (nn : Option Nat) (te : TE) (v : SV) (d : Option Tmp) (K : St → Option R) :
    copyB st r lo nn te v (fun n st => K (st.set d (.con (.int .i64) (n : Nat)))) = (copyBE st r lo nn te v).bind fun p => K ((st.lays p.1).set d p.2) := by
  unfold copyB copyBE
  cases bget st.boxes r with
  | none => rfl
  | some b =>
    simp only
    split
    · split
      · rw [look_bind]
        cases look st.boxes v (.slc te.ty) some with
        | none => rfl
        | some ys =>
          simp only [Option.bind]
          split <;> rfl
      · rfl
    · rfl
theorem copy0_E {R : Type} (st : St) (te : TE) (s v : SV) (d : Option Tmp) (K : St → Option R) :
    copyS0 st te s v (fun n st => K (st.set d (.con (.int .i64) (n : Nat)))) = (copyE0 st te s v).bind fun p => K ((st.lays p.1).set d p.2) := by
  unfold copyS0 copyE0
  split
  · exact copyB_E ..
  · exact copyB_E ..
  · rename_i h1 h2
    split
    · rename_i r; exact (h1 r rfl).elim
    · rename_i r lo n; exact (h2 r lo n rfl).elim
    · rfl
theorem copyBE_local {st st' : St} {r lo : Nat} {nn : Option Nat} {te : TE} {v : SV} (hr : bget st'.boxes r = bget st.boxes r) (hv : ∀ j ∈ roots v, bget st'.boxes j = bget st.boxes j) : copyBE st' r lo nn te v = copyBE st r lo nn te v := by
  unfold copyBE
  rw [hr]
  simp only [look_local (s := v) (bs := st.boxes) hv]
theorem copyE0_local {st st' : St} {te : TE} {s v : SV} (hs : ∀ j ∈ roots s, bget st'.boxes j = bget st.boxes j) (hv : ∀ j ∈ roots v, bget st'.boxes j = bget st.boxes j) : copyE0 st' te s v = copyE0 st te s v := by
  unfold copyE0
  split
  · exact copyBE_local (hs _ (by simp [roots])) hv
  · exact copyBE_local (hs _ (by simp [roots])) hv
  · rfl
theorem copyBE_keys {st : St} {r lo : Nat} {nn : Option Nat} {te : TE} {v : SV} {E : List Upd} {z : SV} (h : copyBE st r lo nn te v = some (E, z)) : ∀ p ∈ E, p.1 = r := by
  unfold copyBE at h
  split at h
  · split at h
    · split at h
      · obtain ⟨ys, _, h⟩ := Option.bind_eq_some_iff.1 h
        split at h
        · cases h; simp
        · cases h
      · cases h
    · cases h
  · cases h
theorem copyE0_keys {st : St} {te : TE} {s v : SV} {E : List Upd} {z : SV} (h : copyE0 st te s v = some (E, z)) : ∀ p ∈ E, p.1 ∈ roots s := by
  unfold copyE0 at h
  split at h
  · intro p hp; simp [roots, copyBE_keys h p hp]
  · intro p hp; simp [roots, copyBE_keys h p hp]
  · cases h
def spliceBE (st : St) (r : Nat) (q : Path) (lo : Nat) (nn : Option Nat) (ty : Ty) (ys : Nat → List (den ty)) : Option (List Upd × SV) :=
  match bget st.boxes r with
  | some b => if h : ctype b.t q = .slc ty then
      if copyB.isRow (mget b.m q) = true ∧ flat ty = true ∧ sz ty = 1 then
        if 0 < List.length (ys (nn.getD (List.length (h ▸ cget b.t b.x q : den (.slc ty))))) ∧ List.length (ys (nn.getD (List.length (h ▸ cget b.t b.x q : den (.slc ty))))) ≤ nn.getD (List.length (h ▸ cget b.t b.x q : den (.slc ty))) then
          some ([(r, kNone, { b with x := cput b.t b.x q (h.symm ▸ (spl (h ▸ cget b.t b.x q : den (.slc ty)) lo (List.length (ys (nn.getD (List.length (h ▸ cget b.t b.x q : den (.slc ty)))))) (ys (nn.getD (List.length (h ▸ cget b.t b.x q : den (.slc ty))))) : den (.slc ty))) })],
            .con (.int .i64) ((List.length (ys (nn.getD (List.length (h ▸ cget b.t b.x q : den (.slc ty))))) : Nat) : Int))
        else none
      else none
    else none
  | none => none
theorem spliceB_E {R : Type} (st : St) (r : Nat) (q : Path) (lo : Nat) (nn : Option Nat) (ty : Ty) (ys : Nat → List (den ty)) (d : Option Tmp) (K : St → Option R) :
    spliceB st r q lo nn ty ys (fun n st => K (st.set d (.con (.int .i64) (n : Nat)))) = (spliceBE st r q lo nn ty ys).bind fun p => K ((st.lays p.1).set d p.2) := by
  unfold spliceB spliceBE
  cases bget st.boxes r with
  | none => rfl
  | some b =>
    simp only
    split
    · split
      · split
        · simp only [Option.bind, St.lays, ← none_upd]
        · rfl
      · rfl
    · rfl
def copyQE (st : St) (r : Nat) (q : Path) (lo n : Nat) (te : TE) (v : SV) : Option (List Upd × SV) :=
  match v with
  | .con t ys => if h : t = .slc te.ty then (if te.ty = .int .u8 then spliceBE st r q lo (some n) te.ty (fun _ => (h ▸ ys : den (.slc te.ty))) else none) else none
  | _ => none
def copyE (st : St) (te : TE) (s v : SV) : Option (List Upd × SV) :=
  match s with
  | .sub r (p :: q) lo n => copyQE st r (p :: q) lo n te v
  | s => copyE0 st te s v
theorem copy_E {R : Type} (st : St) (te : TE) (s v : SV) (d : Option Tmp) (K : St → Option R) :
    copyS st te s v (fun n st => K (st.set d (.con (.int .i64) (n : Nat)))) = (copyE st te s v).bind fun p => K ((st.lays p.1).set d p.2) := by
  unfold copyS copyE
  split
  · unfold copyQ copyQE
    cases v <;> try rfl
    simp only
    split
    · split
      · exact spliceB_E ..
      · rfl
    · rfl
  · rename_i h1
    split
    · rename_i r p q lo n; exact (h1 r p q lo n rfl).elim
    · exact copy0_E ..
theorem copyE_local {st st' : St} {te : TE} {s v : SV} (hs : ∀ j ∈ roots s, bget st'.boxes j = bget st.boxes j) (hv : ∀ j ∈ roots v, bget st'.boxes j = bget st.boxes j) : copyE st' te s v = copyE st te s v := by
  unfold copyE
  split
  · unfold copyQE spliceBE
    rw [hs _ (by simp [roots])]
  · exact copyE0_local hs hv
theorem copyE_keys {st : St} {te : TE} {s v : SV} {E : List Upd} {z : SV} (h : copyE st te s v = some (E, z)) : ∀ p ∈ E, p.1 ∈ roots s := by
  unfold copyE at h
  split at h
  · unfold copyQE at h
    split at h
    · split at h
      · split at h
        · unfold spliceBE at h
          split at h
          · split at h
            · split at h
              · split at h
                · cases h; simp [roots]
                · cases h
              · cases h
            · cases h
          · cases h
        · cases h
      · cases h
    · cases h
  · exact copyE0_keys h
def storeE (c : Cx) (st : St) (t : Ty) (a v : SV) : Option (List Upd × SV) :=
  match a with
  | .ptr r q => match bget st.boxes r with
    | some b0 => if lev q = 0 ∨ (roots v).contains r = false then (toCE st v t (if lev q = 0 then mget (c.mode (r / 16) b0.t) q else mget b0.m q)).bind fun p => match bget (st.lays p.2.2).boxes r with
      | some b => if h : ctype b.t q = t then
          (if lev q = 0 then (if flat t = true then some (p.2.2 ++ [(r, kNone, { b with x := cput b.t b.x q (h ▸ p.1), row := none })], .tnil)
              else some (p.2.2 ++ [(r, kTurn 0, { b with x := cput b.t b.x q (h ▸ p.1), m := mput b.m q p.2.1, row := none })], .tnil))
            else if flat t = true then some (p.2.2 ++ [(r, kNone, { b with x := cput b.t b.x q (h ▸ p.1) })], .tnil)
            else if sameM t p.2.1 (mget b.m q) = true then some (p.2.2 ++ [(r, kTurn (lev q), { b with x := cput b.t b.x q (h ▸ p.1) })], .tnil) else none)
        else none
      | none => none
      else none
    | none => none
  | _ => none
theorem store_E {R : Type} (c : Cx) (st : St) (t : Ty) (a v : SV) (d : Option Tmp) (K : St → Option R) :
    storeS c st t a v (fun st => K (st.set d .tnil)) = (storeE c st t a v).bind fun p => K ((st.lays p.1).set d p.2) := by
  cases a with
  | ptr r q =>
    unfold storeS storeE
    simp only
    cases bget st.boxes r with
    | none => rfl
    | some b0 =>
      simp only
      split
      · rw [toC_E]
        cases toCE st v t (if lev q = 0 then mget (c.mode (r / 16) b0.t) q else mget b0.m q) with
        | none => rfl
        | some p =>
          simp only [Option.bind]
          cases bget (st.lays p.2.2).boxes r with
          | none => rfl
          | some b =>
            simp only
            split
            · split
              · split
                · simp only [lays_append, St.lays, none_upd]
                · simp only [lays_append, St.lays, turn_upd]
              · split
                · simp only [lays_append, St.lays, none_upd]
                · split
                  · simp only [lays_append, St.lays, turn_upd]
                  · rfl
            · rfl
      · rfl
  | _ => rfl
theorem storeE_local {c : Cx} {st st' : St} {t : Ty} {s v : SV} (hs : ∀ j ∈ roots s, bget st'.boxes j = bget st.boxes j) (hv : ∀ j ∈ roots v, bget st'.boxes j = bget st.boxes j) : storeE c st' t s v = storeE c st t s v := by
  unfold storeE
  split
  · rename_i r q
    have hr := hs r (by simp [roots])
    rw [hr]
    split
    · split
      · rw [toCE_local hv]
        congr 1; funext p
        rw [lays_congr p.2.2 hr]
      · rfl
    · rfl
  · rfl
theorem storeE_keys {c : Cx} {st : St} {t : Ty} {s v : SV} {E : List Upd} {z : SV} (h : storeE c st t s v = some (E, z)) : ∀ p ∈ E, p.1 ∈ roots s ∨ p.1 ∈ roots v := by
  unfold storeE at h
  split at h
  · rename_i r q
    split at h
    · split at h
      · obtain ⟨p, hp, h⟩ := Option.bind_eq_some_iff.1 h
        have hk : ∀ p' ∈ p.2.2, p'.1 ∈ roots v := fun e he => toCE_keys hp e he
        have key : ∀ (k : KF) (b : Bx) (z' : SV), some (p.2.2 ++ [(r, k, b)], z') = some (E, z) → ∀ p ∈ E, p.1 ∈ roots (SV.ptr r q) ∨ p.1 ∈ roots v := by
          intro k b z' e e1 he
          cases e
          rcases List.mem_append.1 he with he | he
          · exact .inr (hk _ he)
          · simp at he; subst he; exact .inl (by simp [roots])
        split at h
        · split at h
          · split at h
            · split at h
              · exact key _ _ _ h
              · exact key _ _ _ h
            · split at h
              · exact key _ _ _ h
              · split at h
                · exact key _ _ _ h
                · cases h
          · cases h
        · cases h
      · cases h
    · cases h
  · cases h
def appzE (c : Cx) (st : St) (d : Nat) (te ee : TE) (s v : SV) : Option (List Upd × SV) :=
  match s with
  | .raw (.slice none 0 0) => asInt v fun _ n => if 0 < n ∧ n * ee.bytes ≤ (most : Int) ∧ 0 < sz ee.ty ∧ 0 < ee.bytes then
      some ([(d * 16, kAll, { mem := none, t := .slc ee.ty, m := .own (fitM ee.ty (c.mode d te.ty).elem), x := List.replicate n.toNat (dflt ee.ty) })], .ref (d * 16) []) else none
  | s => (zerosV ee v).bind fun z => appE c st d ee s z
theorem zerosK_bind {R : Type} (ee : TE) (v : SV) (K : SV → Option R) : zerosK ee v K = (zerosV ee v).bind K := by
  unfold zerosV zerosK
  cases v with
  | con t x => cases t with
    | int k => simp only [asInt]; split <;> rfl
    | _ => rfl
  | _ => rfl
theorem zerosV_roots {ee : TE} {v z : SV} (h : zerosV ee v = some z) : roots z = [] := by
  unfold zerosV zerosK at h
  cases v with
  | con t x => cases t <;> simp only [asInt] at h <;> first | (split at h <;> cases h; rfl) | cases h
  | _ => cases h
theorem appzE_local {c : Cx} {st st' : St} {d : Nat} {te ee : TE} {s v : SV} (hs : ∀ j ∈ roots s, bget st'.boxes j = bget st.boxes j) : appzE c st' d te ee s v = appzE c st d te ee s v := by
  unfold appzE
  split
  · rfl
  · cases hz : zerosV ee v with
    | none => rfl
    | some z =>
      simp only [Option.bind]
      exact appE_local hs (fun j hj => by rw [zerosV_roots hz] at hj; cases hj)
theorem appzE_keys {c : Cx} {st : St} {d : Nat} {te ee : TE} {s v : SV} {E : List Upd} {z : SV} (h : appzE c st d te ee s v = some (E, z)) : ∀ p ∈ E, p.1 = d * 16 ∨ p.1 ∈ roots s := by
  unfold appzE at h
  split at h
  · cases v with
    | con t x =>
      cases t with
      | int k =>
        simp only [asInt] at h
        split at h
        · cases h
          intro p hp
          simp only [List.mem_singleton] at hp
          exact .inl (by rw [hp])
        · cases h
      | _ => cases h
    | _ => cases h
  · obtain ⟨zz, hz, h⟩ := Option.bind_eq_some_iff.1 h
    intro p hp
    rcases appE_keys h p hp with h1 | h1 | ⟨_, h1⟩
    · exact .inl h1
    · exact .inr h1
    · rw [zerosV_roots hz] at h1; cases h1
noncomputable def deedE (c : Cx) (st : St) : Deed → SV → SV → Option (List Upd × SV)
  | .app d ee, s, v => appE c st d ee s v
  | .appz d te ee, s, v => appzE c st d te ee s v
  | .cp ee, s, v => copyE st ee s v
  | .sto te, s, v => storeE c st te.ty s v
theorem lookP_bind {R : Type} (bs : List (Nat × Bx)) (s : SV) (t : Ty) (K : den t → Option R) : lookP bs s t K = (lookP bs s t some).bind K := by
  unfold lookP
  split
  · split <;> rfl
  · split
    · split
      · split <;> rfl
      · rfl
    · rfl
  · rfl
theorem lookL_bind (bs : List (Nat × Bx)) : ∀ (ts : List (Bool × Ty)) (s : SV) {R : Type} (K : denL ts → Option R), lookL bs ts s K = (lookL bs ts s some).bind K
  | [], s, R, K => by cases s <;> rfl
  | (true, t) :: ts, s, R, K => by
    cases s <;> try rfl
    rename_i a b
    simp only [lookL]
    rw [lookP_bind, lookP_bind (K := fun x => lookL bs ts b fun y => some (x, y))]
    cases lookP bs a t some with
    | none => rfl
    | some x =>
      simp only [Option.bind]
      rw [lookL_bind bs ts b, lookL_bind bs ts b (K := fun y => some (x, y))]
      cases lookL bs ts b some <;> rfl
  | (false, t) :: ts, s, R, K => by
    cases s <;> try rfl
    rename_i a b
    simp only [lookL]
    split
    · rw [look_bind, look_bind (K := fun x => lookL bs ts b fun y => some (x, y))]
      cases look bs a t some with
      | none => rfl
      | some x =>
        simp only [Option.bind]
        rw [lookL_bind bs ts b, lookL_bind bs ts b (K := fun y => some (x, y))]
        cases lookL bs ts b some <;> rfl
    · rfl
theorem args_plain (bs : List (Nat × Bx)) : ∀ {ps : List PK} {ss : List SV} {R : Type} (st : St) (K : ArgT ps → List Nat → List Nat → List Nat → List (Nat × Path) → St → Option R), plainPs ps = true →
    args bs ps ss st K = (args bs ps ss ⟨[], []⟩ fun a _ lo _ _ _ => some (a, lo)).bind fun p => K p.1 [] p.2 [] [] st
  | [], [], _, _, _, _ => rfl
  | [], _ :: _, _, _, _, _ => rfl
  | .ro t :: ps, [], _, _, _, _ => rfl
  | .ro t :: ps, s :: ss, R, st, K, h => by
    simp only [args]
    split
    · rw [look_bind, look_bind (K := fun x => args bs ps ss ⟨[], []⟩ fun a io lo mv rw st => some ((x, a), roots s ++ lo))]
      cases look bs s t some with
      | none => rfl
      | some x =>
        simp only [Option.bind]
        rw [args_plain bs st _ (by simpa [plainPs] using h), args_plain bs ⟨[], []⟩ (fun a io lo mv rw st => some ((x, a), roots s ++ lo)) (by simpa [plainPs] using h)]
        cases args bs ps ss ⟨[], []⟩ fun a _ lo _ _ _ => some (a, lo) <;> rfl
    · rfl
  | .fn f cs :: ps, [], _, _, _, _ => rfl
  | .fn f cs :: ps, s :: ss, R, st, K, h => by
    simp only [args]
    split
    · split
      · rename_i g caps _
        rw [lookL_bind, lookL_bind (K := fun x => args bs ps ss ⟨[], []⟩ fun a io lo mv rw st => some ((x, a), roots caps ++ lo))]
        cases lookL bs cs caps some with
        | none => rfl
        | some x =>
          simp only [Option.bind]
          rw [args_plain bs st _ (by simpa [plainPs] using h), args_plain bs ⟨[], []⟩ (fun a io lo mv rw st => some ((x, a), roots caps ++ lo)) (by simpa [plainPs] using h)]
          cases args bs ps ss ⟨[], []⟩ fun a _ lo _ _ _ => some (a, lo) <;> rfl
      · rfl
    · rfl
  | .nil :: ps, [], _, _, _, _ => rfl
  | .nil :: ps, s :: ss, R, st, K, h => by
    simp only [args]
    split
    · rw [args_plain bs st _ (by simpa [plainPs] using h), args_plain bs ⟨[], []⟩ (fun a io lo mv rw st => some (((), a), lo)) (by simpa [plainPs] using h)]
      cases args bs ps ss ⟨[], []⟩ fun a _ lo _ _ _ => some (a, lo) <;> rfl
    · rfl
  | .mv _ _ :: ps, _, _, _, _, h => by simp [plainPs] at h
  | .io _ _ _ :: ps, _, _, _, _, h => by simp [plainPs] at h
  | .row _ _ :: ps, _, _, _, _, h => by simp [plainPs] at h
  | .lk _ :: ps, _, _, _, _, h => by simp [plainPs] at h
theorem backS_plain : ∀ {ps : List PK} (o : OutT ps) (st : St) {R : Type} (K : St → Option R), plainPs ps = true → backS ps o [] st K = K st
  | [], _, _, _, _, _ => rfl
  | .ro _ :: ps, o, st, _, K, h => backS_plain (ps := ps) o st K (by simpa [plainPs] using h)
  | .fn _ _ :: ps, o, st, _, K, h => backS_plain (ps := ps) o st K (by simpa [plainPs] using h)
  | .nil :: ps, o, st, _, K, h => backS_plain (ps := ps) o st K (by simpa [plainPs] using h)
  | .mv _ _ :: ps, _, _, _, _, h => by simp [plainPs] at h
  | .io _ _ _ :: ps, _, _, _, _, h => by simp [plainPs] at h
  | .row _ _ :: ps, _, _, _, _, h => by simp [plainPs] at h
  | .lk _ :: ps, _, _, _, _, h => by simp [plainPs] at h
theorem outsB_plain : ∀ {ps : List PK} (o : OutT ps) (bs : List (Nat × Bx)), plainPs ps = true → outsB ps o [] bs = bs
  | [], _, _, _ => rfl
  | .ro _ :: ps, o, bs, h => outsB_plain (ps := ps) o bs (by simpa [plainPs] using h)
  | .fn _ _ :: ps, o, bs, h => outsB_plain (ps := ps) o bs (by simpa [plainPs] using h)
  | .nil :: ps, o, bs, h => outsB_plain (ps := ps) o bs (by simpa [plainPs] using h)
  | .mv _ _ :: ps, _, _, h => by simp [plainPs] at h
  | .io _ _ _ :: ps, _, _, h => by simp [plainPs] at h
  | .row _ _ :: ps, _, _, h => by simp [plainPs] at h
  | .lk _ :: ps, _, _, h => by simp [plainPs] at h
def gotE (base : Nat) : (t : Ty) → Md → den t → Nat → SV × Nat × List Upd
  | .pair a b, m, x, k =>
    let p := gotE base a m.fst x.1 k
    let p' := gotE base b m.snd x.2 p.2.1
    (.agg p.1 p'.1, p'.2.1, p.2.2 ++ p'.2.2)
  | .slc t, .own m, x, k => (.ref (base + k) [], k + 1, [(base + k, kAll, { mem := none, t := .slc t, m := .own m, x := x })])
  | .slc t, .ro, x, k => (.con (.slc t) x, k, [])
  | .slc _, _, _, k => (.undef, k, [])
  | .mp a b, .ro, x, k => (.con (.mp a b) x, k, [])
  | .mp a b, .own m, x, k => (.ref (base + k) [], k + 1, [(base + k, kAll, { mem := none, t := .mp a b, m := .own m, x := x })])
  | .mp _ _, _, _, k => (.undef, k, [])
  | t, _, x, k => (.con t x, k, [])
theorem got_eq (base : Nat) : ∀ {t : Ty} {m : Md} {x : den t} {k : Nat} {st : St}, got base t m x k st = ((gotE base t m x k).1, (gotE base t m x k).2.1, st.lays (gotE base t m x k).2.2)
  | .pair a b, m, x, k, st => by
    simp only [got, gotE]
    rw [got_eq base (t := a), got_eq base (t := b)]
    simp [lays_append]
  | .slc t, .own m, x, k, st => by simp only [got, gotE, St.lays, lay_upd]
  | .slc t, .ro, x, k, st => rfl
  | .slc _, .dead, _, k, st => rfl
  | .slc _, .pair _ _, _, k, st => rfl
  | .slc _, .rz, _, k, st => rfl
  | .int _, _, _, _, _ => rfl
  | .bool, _, _, _, _ => rfl
  | .str, _, _, _, _ => rfl
  | .raw, _, _, _, _ => rfl
  | .unit, _, _, _, _ => rfl
  | .mp _ _, .ro, _, _, _ => rfl
  | .mp _ _, .own m, x, k, st => by simp only [got, gotE, St.lays, lay_upd]
  | .mp _ _, .dead, _, _, _ => rfl
  | .mp _ _, .pair _ _, _, _, _ => rfl
  | .mp _ _, .rz, _, _, _ => rfl
theorem gotE_keys (base : Nat) : ∀ {t : Ty} {m : Md} {x : den t} {k : Nat}, (gotE base t m x k).2.1 ≤ k + cntT t ∧ k ≤ (gotE base t m x k).2.1 ∧ ∀ p ∈ (gotE base t m x k).2.2, base + k ≤ p.1 ∧ p.1 < base + (gotE base t m x k).2.1
  | .pair a b, m, x, k => by
    simp only [gotE, cntT]
    have h1 := gotE_keys base (t := a) (m := m.fst) (x := x.1) (k := k)
    have h2 := gotE_keys base (t := b) (m := m.snd) (x := x.2) (k := (gotE base a m.fst x.1 k).2.1)
    refine ⟨by omega, by omega, fun p hp => ?_⟩
    rcases List.mem_append.1 hp with hp | hp
    · have := h1.2.2 p hp; omega
    · have := h2.2.2 p hp; omega
  | .slc t, .own m, x, k => ⟨by simp [gotE, cntT], by simp [gotE], fun p hp => by simp [gotE] at hp ⊢; subst hp; simp⟩
  | .slc t, .ro, x, k => ⟨by simp [gotE, cntT], by simp [gotE], fun p hp => by simp [gotE] at hp⟩
  | .slc _, .dead, _, k => ⟨by simp [gotE, cntT], by simp [gotE], fun p hp => by simp [gotE] at hp⟩
  | .slc _, .pair _ _, _, k => ⟨by simp [gotE, cntT], by simp [gotE], fun p hp => by simp [gotE] at hp⟩
  | .slc _, .rz, _, k => ⟨by simp [gotE, cntT], by simp [gotE], fun p hp => by simp [gotE] at hp⟩
  | .int _, _, _, _ => ⟨by simp [gotE, cntT], by simp [gotE], fun p hp => by simp [gotE] at hp⟩
  | .bool, _, _, _ => ⟨by simp [gotE, cntT], by simp [gotE], fun p hp => by simp [gotE] at hp⟩
  | .str, _, _, _ => ⟨by simp [gotE, cntT], by simp [gotE], fun p hp => by simp [gotE] at hp⟩
  | .raw, _, _, _ => ⟨by simp [gotE, cntT], by simp [gotE], fun p hp => by simp [gotE] at hp⟩
  | .unit, _, _, _ => ⟨by simp [gotE, cntT], by simp [gotE], fun p hp => by simp [gotE] at hp⟩
  | .mp _ _, .ro, _, _ => ⟨by simp [gotE, cntT], by simp [gotE], fun p hp => by simp [gotE] at hp⟩
  | .mp _ _, .own m, x, k => ⟨by simp [gotE, cntT], by simp [gotE], fun p hp => by simp [gotE] at hp ⊢; subst hp; simp⟩
  | .mp _ _, .dead, _, _ => ⟨by simp [gotE, cntT], by simp [gotE], fun p hp => by simp [gotE] at hp⟩
  | .mp _ _, .pair _ _, _, _ => ⟨by simp [gotE, cntT], by simp [gotE], fun p hp => by simp [gotE] at hp⟩
  | .mp _ _, .rz, _, _ => ⟨by simp [gotE, cntT], by simp [gotE], fun p hp => by simp [gotE] at hp⟩
def gotsE (base : Nat) : (rs : List (Ty × Md)) → ResT rs → Nat → SV × Nat × List Upd
  | [], _, k => (.tnil, k, [])
  | (t, m) :: rs, x, k =>
    let p := gotE base t m x.1 k
    let p' := gotsE base rs x.2 p.2.1
    (.tcons p.1 p'.1, p'.2.1, p.2.2 ++ p'.2.2)
theorem gots_eq (base : Nat) : ∀ {rs : List (Ty × Md)} {x : ResT rs} {k : Nat} {st : St}, gots base rs x k st = ((gotsE base rs x k).1, (gotsE base rs x k).2.1, st.lays (gotsE base rs x k).2.2)
  | [], _, _, _ => rfl
  | (t, m) :: rs, x, k, st => by
    simp only [gots, gotsE]
    rw [got_eq, gots_eq base (rs := rs)]
    simp [lays_append]
theorem gotsE_keys (base : Nat) : ∀ {rs : List (Ty × Md)} {x : ResT rs} {k : Nat}, (gotsE base rs x k).2.1 ≤ k + cntR rs ∧ k ≤ (gotsE base rs x k).2.1 ∧ ∀ p ∈ (gotsE base rs x k).2.2, base + k ≤ p.1 ∧ p.1 < base + (gotsE base rs x k).2.1
  | [], _, k => ⟨by simp [gotsE], by simp [gotsE], fun p hp => by simp [gotsE] at hp⟩
  | (t, m) :: rs, x, k => by
    simp only [gotsE, cntR]
    have h1 := gotE_keys base (t := t) (m := m) (x := x.1) (k := k)
    have h2 := gotsE_keys base (rs := rs) (x := x.2) (k := (gotE base t m x.1 k).2.1)
    refine ⟨by omega, by omega, fun p hp => ?_⟩
    rcases List.mem_append.1 hp with hp | hp
    · have := h1.2.2 p hp; omega
    · have := h2.2.2 p hp; omega
end Go.Proofs.YtgdaiifhedpffaaDoor.V
set_option linter.unusedVariables false
set_option linter.unusedSimpArgs false
namespace Go.Proofs.YtgdaiifhedpffaaDoor.V
open Go
theorem cput_self : ∀ (q : Path) (t : Ty) (x : den t), cput t x q (cget t x q) = x
  | [], _, _ => rfl
  | s :: q, t, x => by
    show vput t x s (cput (tstep t s) (vstep t x s) q (cget (tstep t s) (vstep t x s) q)) = x
    rw [cput_self q]
    cases t with
    | pair a b => cases s <;> rfl
    | slc t =>
      cases s with
      | idx i =>
        show List.set x i (List.getD x i (dflt t)) = x
        by_cases hi : i < List.length x
        · rw [List.getD_eq_getElem?_getD, List.getElem?_eq_getElem hi, Option.getD_some, List.set_getElem_self]
        · rw [List.set_eq_of_length_le (Nat.not_lt.1 hi)]
      | _ => rfl
    | _ => cases s <;> rfl
def lendE : St → SV → (t : Ty) → Md → Option (den t × List (Nat × Path) × List Upd)
  | st, .agg a b, .pair ta tb, m => (lendE st a ta m.fst).bind fun p => (lendE (st.lays p.2.2) (shallow b) tb m.snd).bind fun q => some ((p.1, q.1), p.2.1 ++ q.2.1, p.2.2 ++ q.2.2)
  | st, .ref r q, .slc t, .own m => if lev q = 0 then rowAt st.boxes r q t fun b xs m' => if sameM t m' m = true then some (xs, [(r, q)], [(r, kDeep, { b with m := mput b.m q .dead })]) else none else none
  | st, .ref r q, .mp k v, .own m => if lev q = 0 then mapAt st.boxes r q k v fun b xs m' => if m' = m then some (xs, [(r, q)], [(r, kDeep, { b with m := mput b.m q .dead })]) else none else none
  | _, .con t' x, t, m => if h : t' = t then (if sameM t .ro m = true then some (h ▸ x, [], []) else none) else none
  | _, _, _, _ => none
theorem lend_E : ∀ {t : Ty} {m : Md} {s : SV} {R : Type} (st : St) (K : den t → List (Nat × Path) → St → Option R), lendS st s t m K = (lendE st s t m).bind fun p => K p.1 p.2.1 (st.lays p.2.2) := by
  intro t
  induction t with
  | pair ta tb iha ihb =>
    intro m s R st K
    cases s <;> simp only [lendS, lendE] <;> (try rfl)
    · split
      · split <;> rfl
      · rfl
    · rw [iha]
      cases lendE st _ ta m.fst with
      | none => rfl
      | some p =>
        simp only [Option.bind]
        rw [ihb]
        cases lendE (st.lays p.2.2) _ tb m.snd with
        | none => rfl
        | some q => simp only [Option.bind, lays_append]
  | slc t ih =>
    intro m s R st K
    cases s with
    | con t' x =>
      simp only [lendS, lendE]
      split
      · split <;> rfl
      · rfl
    | ref r q =>
      cases m with
      | own m =>
        simp only [lendS, lendE]
        split
        · rw [rowAt_map]
          congr 1; funext b xs m'
          split <;> rfl
        · rfl
      | _ => rfl
    | _ => first | rfl | (cases m <;> rfl)
  | mp k v ihk ihv =>
    intro m s R st K
    cases s with
    | con t' x =>
      simp only [lendS, lendE]
      split
      · split <;> rfl
      · rfl
    | ref r q =>
      cases m with
      | own m =>
        simp only [lendS, lendE]
        split
        · rw [mapAt_map]
          congr 1; funext b xs m'
          split <;> rfl
        · rfl
      | _ => rfl
    | _ => first | rfl | (cases m <;> rfl)
  | _ =>
    intro m s R st K
    cases s <;> simp only [lendS, lendE] <;> (try rfl)
    · split
      · split <;> rfl
      · rfl
theorem lendE_local : ∀ {t : Ty} {m : Md} {s : SV} {st st' : St}, (∀ j ∈ roots s, bget st'.boxes j = bget st.boxes j) → lendE st' s t m = lendE st s t m := by
  intro t
  induction t with
  | pair ta tb iha ihb =>
    intro m s st st' h
    cases s <;> simp only [lendE]
    rename_i a b
    rw [iha (fun j hj => h j (by simp [roots, hj]))]
    congr 1; funext p
    rw [ihb (fun j hj => lays_congr _ (h j (by simp [roots, roots_off _ hj])))]
  | slc t ih =>
    intro m s st st' h
    cases s with
    | ref r q =>
      cases m with
      | own m => simp only [lendE]; rw [rowAt_local (h _ (by simp [roots]))]
      | _ => rfl
    | _ => first | rfl | (cases m <;> rfl)
  | mp k v ihk ihv =>
    intro m s st st' h
    cases s with
    | ref r q =>
      cases m with
      | own m => simp only [lendE]; unfold mapAt; rw [h _ (by simp [roots])]
      | _ => rfl
    | _ => first | rfl | (cases m <;> rfl)
  | _ =>
    intro m s st st' h
    cases s <;> simp only [lendE]
def backE : (t : Ty) → (m : Md) → RowT t m → List (Nat × Path) → St → Option (List Upd)
  | .pair a b, m, x, ids, st => (backE a m.fst x.1 (ids.take (cntM a m.fst)) st).bind fun E => (backE b m.snd x.2 (ids.drop (cntM a m.fst)) (st.lays E)).bind fun F => some (E ++ F)
  | .slc t, .own m, x, (r, q) :: _, st => match bget st.boxes r with
    | some b => if h : ctype b.t q = .slc t then (if mget b.m q = .dead then some [(r, kDeep, { b with m := mput b.m q (.own m), x := cput b.t b.x q (h.symm ▸ (x : den (.slc t))) })] else none) else none
    | none => none
  | .mp k v, .own m, x, (r, q) :: _, st => match bget st.boxes r with
    | some b => if h : ctype b.t q = .mp k v then (if mget b.m q = .dead then some [(r, kDeep, { b with m := mput b.m q (.own m), x := cput b.t b.x q (h.symm ▸ (x : den (.mp k v))) })] else none) else none
    | none => none
  | .slc _, .own _, _, [], _ => none
  | .mp _ _, .own _, _, [], _ => none
  | _, _, _, _, _ => some []
theorem back_E : ∀ {t : Ty} {m : Md} {x : RowT t m} {ids : List (Nat × Path)} {R : Type} (st : St) (K : St → Option R), backR t m x ids st K = (backE t m x ids st).bind fun E => K (st.lays E) := by
  intro t
  induction t with
  | pair ta tb iha ihb =>
    intro m x ids R st K
    simp only [backR, backE]
    rw [iha]
    cases backE ta m.fst x.1 (ids.take (cntM ta m.fst)) st with
    | none => rfl
    | some E =>
      simp only [Option.bind]
      rw [ihb]
      cases backE tb m.snd x.2 (ids.drop (cntM ta m.fst)) (st.lays E) with
      | none => rfl
      | some F => simp only [Option.bind, lays_append]
  | slc t ih =>
    intro m x ids R st K
    cases m <;> (try rfl)
    cases ids with
    | nil => rfl
    | cons p ids =>
      simp only [backR, backE]
      cases bget st.boxes p.1 with
      | none => rfl
      | some b =>
        simp only
        by_cases h : ctype b.t p.2 = .slc t
        · rw [dif_pos h, dif_pos h]
          by_cases h2 : mget b.m p.2 = .dead
          · rw [if_pos h2, if_pos h2]; rfl
          · rw [if_neg h2, if_neg h2]; rfl
        · rw [dif_neg h, dif_neg h]; rfl
  | mp k v ihk ihv =>
    intro m x ids R st K
    cases m <;> (try rfl)
    cases ids with
    | nil => rfl
    | cons p ids =>
      simp only [backR, backE]
      cases bget st.boxes p.1 with
      | none => rfl
      | some b =>
        simp only
        by_cases h : ctype b.t p.2 = .mp k v
        · rw [dif_pos h, dif_pos h]
          by_cases h2 : mget b.m p.2 = .dead
          · rw [if_pos h2, if_pos h2]; rfl
          · rw [if_neg h2, if_neg h2]; rfl
        · rw [dif_neg h, dif_neg h]; rfl
  | _ => intro m x ids R st K; rfl
theorem backE_local : ∀ {t : Ty} {m : Md} {x : RowT t m} {ids : List (Nat × Path)} {st st' : St}, (∀ p ∈ ids, bget st'.boxes p.1 = bget st.boxes p.1) → backE t m x ids st' = backE t m x ids st := by
  intro t
  induction t with
  | pair ta tb iha ihb =>
    intro m x ids st st' h
    simp only [backE]
    rw [iha (fun p hp => h p (List.mem_of_mem_take hp))]
    congr 1; funext E
    rw [ihb (fun p hp => lays_congr _ (h p (List.mem_of_mem_drop hp)))]
  | slc t ih =>
    intro m x ids st st' h
    cases m <;> (try rfl)
    cases ids with
    | nil => rfl
    | cons p ids => simp only [backE]; rw [h p (List.mem_cons_self ..)]
  | mp k v ihk ihv =>
    intro m x ids st st' h
    cases m <;> (try rfl)
    cases ids with
    | nil => rfl
    | cons p ids => simp only [backE]; rw [h p (List.mem_cons_self ..)]
  | _ => intro m x ids st st' h; rfl
theorem backE_zero : ∀ {t : Ty} {m : Md} {x : RowT t m} {ids : List (Nat × Path)} {st : St}, cntM t m = 0 → backE t m x ids st = some [] := by
  intro t
  induction t with
  | pair ta tb iha ihb =>
    intro m x ids st h
    simp only [cntM] at h
    simp only [backE]
    rw [iha (by omega)]
    simp only [Option.bind]
    rw [ihb (by omega)]
    rfl
  | slc t ih =>
    intro m x ids st h
    cases m <;> first | rfl | simp [cntM] at h
  | mp k v ihk ihv =>
    intro m x ids st h
    cases m <;> first | rfl | simp [cntM] at h
  | _ => intro m x ids st h; rfl
theorem same_cnt : ∀ {t : Ty} {m : Md}, sameM t .ro m = true → cntM t m = 0 := by
  intro t
  induction t with
  | pair ta tb iha ihb =>
    intro m h
    simp only [sameM, Bool.and_eq_true] at h
    simp only [cntM]
    rw [iha (m := m.fst) h.1, ihb (m := m.snd) h.2]
  | slc t ih => intro m h; cases m <;> simp [sameM] at h <;> rfl
  | mp k v ihk ihv => intro m h; cases m <;> simp [sameM] at h <;> rfl
  | _ => intro m h; rfl
theorem lendE_len : ∀ {t : Ty} {m : Md} {s : SV} {st : St} {x : den t} {ids : List (Nat × Path)} {E : List Upd}, lendE st s t m = some (x, ids, E) → ids.length = cntM t m ∧ (cntM t m = 0 → E = []) ∧ ∀ p ∈ ids, p.1 ∈ roots s := by
  intro t
  have con : ∀ {t : Ty} {m : Md} {st : St} {t' : Ty} {y : den t'} {x : den t} {ids : List (Nat × Path)} {E : List Upd}, (if h : t' = t then (if sameM t .ro m = true then some (h ▸ y, ([] : List (Nat × Path)), ([] : List Upd)) else none) else none) = some (x, ids, E) → ids.length = cntM t m ∧ (cntM t m = 0 → E = []) ∧ ∀ p ∈ ids, p.1 ∈ roots (.con t' y) := by
    intro t m st t' y x ids E h
    split at h
    · split at h
      · rename_i hs
        cases h
        exact ⟨(same_cnt hs).symm, fun _ => rfl, fun p hp => by simp at hp⟩
      · cases h
    · cases h
  induction t with
  | pair ta tb iha ihb =>
    intro m s st x ids E h
    cases s <;> simp only [lendE, reduceCtorEq] at h
    · exact con (st := st) h
    · obtain ⟨p, hp, h⟩ := Option.bind_eq_some_iff.1 h
      obtain ⟨q, hq, h⟩ := Option.bind_eq_some_iff.1 h
      cases h
      obtain ⟨a1, a2, a3⟩ := iha hp
      obtain ⟨b1, b2, b3⟩ := ihb hq
      refine ⟨by simp only [List.length_append, cntM, a1, b1], fun h0 => ?_, fun e he => ?_⟩
      · simp only [cntM] at h0
        rw [a2 (by omega), b2 (by omega)]; rfl
      · simp only [roots, List.mem_append]
        rcases List.mem_append.1 he with he | he
        · exact .inl (a3 e he)
        · exact .inr (roots_off _ (b3 e he))
  | slc t ih =>
    intro m s st x ids E h
    cases s with
    | con t' y => simp only [lendE] at h; exact con (st := st) h
    | ref r q =>
      cases m with
      | own m =>
        simp only [lendE] at h
        split at h
        · obtain ⟨b, xs, m2, h⟩ := rowAt_out h
          split at h
          · cases h
            exact ⟨rfl, fun h0 => by simp [cntM] at h0, fun p hp => by simp at hp; subst hp; simp [roots]⟩
          · cases h
        · cases h
      | _ => cases h
    | _ => first | (cases h; done) | (cases m <;> cases h)
  | mp k v ihk ihv =>
    intro m s st x ids E h
    cases s with
    | con t' y => simp only [lendE] at h; exact con (st := st) h
    | ref r q =>
      cases m with
      | own m =>
        simp only [lendE] at h
        split at h
        · unfold mapAt at h
          split at h
          · split at h
            · split at h
              · simp only at h
                split at h
                · cases h
                  exact ⟨rfl, fun h0 => by simp [cntM] at h0, fun p hp => by simp at hp; subst hp; simp [roots]⟩
                · cases h
              · cases h
            · cases h
          · cases h
        · cases h
      | _ => cases h
    | _ => first | (cases h; done) | (cases m <;> cases h)
  | _ =>
    intro m s st x ids E h
    cases s <;> simp only [lendE, reduceCtorEq] at h
    · exact con (st := st) h
theorem lend_back : ∀ {t : Ty} {m : Md} {s : SV} {st : St} {x : den t} {ids : List (Nat × Path)} {E F : List Upd} {o : RowT t m}, cntM t m = 1 → lendE st s t m = some (x, ids, E) → backE t m o ids (st.lays E) = some F → rowsOf t m x = o →
    ∃ (r : Nat) (q : Path) (b : Bx) (m2 : Md), ids = [(r, q)] ∧ r ∈ roots s ∧ bget st.boxes r = some b ∧ E = [(r, kDeep, { b with m := mput b.m q .dead })] ∧ F = [(r, kDeep, { b with m := m2 })] := by
  intro t
  induction t with
  | pair ta tb iha ihb =>
    intro m s st x ids E F o hc h hb ho
    cases s <;> simp only [lendE, reduceCtorEq] at h
    · split at h
      · split at h
        · rename_i hs
          rw [same_cnt hs] at hc; cases hc
        · cases h
      · cases h
    · obtain ⟨p, hp, h⟩ := Option.bind_eq_some_iff.1 h
      obtain ⟨q, hq, h⟩ := Option.bind_eq_some_iff.1 h
      cases h
      obtain ⟨a1, a2, a3⟩ := lendE_len hp
      obtain ⟨b1, b2, b3⟩ := lendE_len hq
      subst ho
      simp only [cntM] at hc
      simp only [backE] at hb
      obtain ⟨F1, f1, hb⟩ := Option.bind_eq_some_iff.1 hb
      obtain ⟨F2, f2, hb⟩ := Option.bind_eq_some_iff.1 hb
      cases hb
      rw [← a1, List.take_left'  rfl] at f1
      rw [← a1, List.drop_left' rfl] at f2
      by_cases h0 : cntM ta m.fst = 1
      · have h1 : cntM tb m.snd = 0 := by omega
        rw [backE_zero h1] at f2
        cases f2
        have e2 := b2 h1
        have e3 : q.2.1 = [] := List.eq_nil_of_length_eq_zero (b1.trans h1)
        rw [e2, List.append_nil] at f1 ⊢
        obtain ⟨r, q', b, m2, g1, g2, g3, g4, g5⟩ := iha h0 hp f1 rfl
        exact ⟨r, q', b, m2, by rw [e3, List.append_nil, g1], by simp [roots, g2], g3, g4, by rw [List.append_nil, g5]⟩
      · have h1 : cntM ta m.fst = 0 := by omega
        rw [backE_zero h1] at f1
        cases f1
        have e2 := a2 h1
        have e3 : p.2.1 = [] := List.eq_nil_of_length_eq_zero (a1.trans h1)
        rw [e2] at f2 ⊢
        rw [e2] at hq
        obtain ⟨r, q', b, m2, g1, g2, g3, g4, g5⟩ := ihb (by omega) hq f2 rfl
        exact ⟨r, q', b, m2, by rw [e3, List.nil_append, g1], by simp [roots, roots_off _ g2], g3, by rw [List.nil_append, g4], by rw [List.nil_append, g5]⟩
  | slc t ih =>
    intro m s st x ids E F o hc h hb ho
    cases s with
    | con t' y =>
      simp only [lendE] at h
      split at h
      · split at h
        · rename_i hs
          rw [same_cnt hs] at hc; cases hc
        · cases h
      · cases h
    | ref r q =>
      cases m with
      | own m =>
        simp only [lendE] at h
        split at h
        · unfold rowAt at h
          split at h
          · rename_i b hbx
            split at h
            · rename_i ht
              split at h
              · simp only at h
                split at h
                · cases h
                  subst ho
                  simp only [backE] at hb
                  have e1 : bget (st.lays [(r, kDeep, { b with m := mput b.m q .dead })]).boxes r = some { b with m := mput b.m q .dead } := bget_bset_eq _ _ _
                  rw [e1] at hb
                  simp only at hb
                  rw [dif_pos ht] at hb
                  split at hb
                  · cases hb
                    refine ⟨r, q, b, mput (mput b.m q .dead) q (.own m), rfl, by simp [roots], hbx, rfl, ?_⟩
                    have e2 : cput b.t b.x q (ht.symm ▸ (rowsOf (.slc t) (.own m) (ht ▸ cget b.t b.x q : den (.slc t)) : den (.slc t))) = b.x := by
                      have : (ht.symm ▸ (rowsOf (.slc t) (.own m) (ht ▸ cget b.t b.x q : den (.slc t)) : den (.slc t)) : den (ctype b.t q)) = cget b.t b.x q := by
                        simp only [rowsOf]
                        generalize cget b.t b.x q = y
                        revert y ht
                        generalize ctype b.t q = T
                        intro ht y
                        subst ht; rfl
                      rw [this, cput_self]
                    rw [e2]
                  · cases hb
                · cases h
              · cases h
            · cases h
          · cases h
        · cases h
      | _ => cases h
    | _ => first | (cases h; done) | (cases m <;> cases h)
  | mp k v ihk ihv =>
    intro m s st x ids E F o hc h hb ho
    cases s with
    | con t' y =>
      simp only [lendE] at h
      split at h
      · split at h
        · rename_i hs
          rw [same_cnt hs] at hc; cases hc
        · cases h
      · cases h
    | ref r q =>
      cases m with
      | own m =>
        simp only [lendE] at h
        split at h
        · unfold mapAt at h
          split at h
          · rename_i b hbx
            split at h
            · rename_i ht
              split at h
              · simp only at h
                split at h
                · cases h
                  subst ho
                  simp only [backE] at hb
                  have e1 : bget (st.lays [(r, kDeep, { b with m := mput b.m q .dead })]).boxes r = some { b with m := mput b.m q .dead } := bget_bset_eq _ _ _
                  rw [e1] at hb
                  simp only at hb
                  rw [dif_pos ht] at hb
                  split at hb
                  · cases hb
                    refine ⟨r, q, b, mput (mput b.m q .dead) q (.own m), rfl, by simp [roots], hbx, rfl, ?_⟩
                    have e2 : cput b.t b.x q (ht.symm ▸ (rowsOf (.mp k v) (.own m) (ht ▸ cget b.t b.x q : den (.mp k v)) : den (.mp k v))) = b.x := by
                      have : (ht.symm ▸ (rowsOf (.mp k v) (.own m) (ht ▸ cget b.t b.x q : den (.mp k v)) : den (.mp k v)) : den (ctype b.t q)) = cget b.t b.x q := by
                        simp only [rowsOf]
                        generalize cget b.t b.x q = y
                        revert y ht
                        generalize ctype b.t q = T
                        intro ht y
                        subst ht; rfl
                      rw [this, cput_self]
                    rw [e2]
                  · cases hb
                · cases h
              · cases h
            · cases h
          · cases h
        · cases h
      | _ => cases h
    | _ => first | (cases h; done) | (cases m <;> cases h)
  | _ =>
    intro m s st x ids E F o hc h hb ho
    simp [cntM] at hc
def partV (ps : List PK) (rs : List (Ty × Md)) (x : ResT rs) (rw : List (Nat × Path)) (bs : List (Nat × Bx)) : Option SV :=
  match trip rs x, rw with
  | some (j, lo, n), (r, q) :: _ => if headN ps = 1 then match bget bs r with
      | some b => rowOf (ctype b.t q) (cget b.t b.x q) (mget b.m q) fun t xs _ => if headT ps = some (.slc t) then (if j < List.length xs then some (.sub r (q ++ [.idx j]) lo n) else none) else none
      | none => none
    else none
  | _, _ => none
theorem rowOf_map {R S : Type} (t : Ty) (x : den t) (m : Md) (K : (t : Ty) → List (den t) → Md → Option R) (f : R → Option S) : (rowOf t x m K).bind f = rowOf t x m fun t xs m => (K t xs m).bind f := by
  unfold rowOf
  split <;> rfl
theorem part_E {R : Type} (ps : List PK) (rs : List (Ty × Md)) (x : ResT rs) (rw : List (Nat × Path)) (st : St) (d : Option Tmp) (K : St → Option R) : partK ps rs x rw st d K = (partV ps rs x rw st.boxes).bind fun z => K (st.set d z) := by
  unfold partK partV
  cases trip rs x with
  | none => rfl
  | some p =>
    obtain ⟨j, lo, n⟩ := p
    cases rw with
    | nil => rfl
    | cons e l =>
      simp only
      by_cases hh : headN ps = 1
      · rw [if_pos hh, if_pos hh]
        cases bget st.boxes e.1 with
        | none => rfl
        | some b =>
          simp only
          rw [rowOf_map]
          congr 1; funext t xs m
          by_cases h1 : headT ps = some (.slc t)
          · rw [if_pos h1, if_pos h1]
            by_cases h2 : j < List.length xs
            · rw [if_pos h2, if_pos h2]; rfl
            · rw [if_neg h2, if_neg h2]; rfl
          · rw [if_neg h1, if_neg h1]; rfl
      · rw [if_neg hh, if_neg hh]; rfl
theorem partV_roots {ps : List PK} {rs : List (Ty × Md)} {x : ResT rs} {rw : List (Nat × Path)} {bs : List (Nat × Bx)} {z : SV} (h : partV ps rs x rw bs = some z) : ∃ r q rw' q' lo n, rw = (r, q) :: rw' ∧ z = .sub r q' lo n := by
  unfold partV at h
  cases ht : trip rs x with
  | none => rw [ht] at h; cases h
  | some p =>
    obtain ⟨j, lo, n⟩ := p
    rw [ht] at h
    cases rw with
    | nil => cases h
    | cons e l =>
      simp only at h
      split at h
      · cases hb : bget bs e.1 with
        | none => rw [hb] at h; cases h
        | some b =>
          rw [hb] at h
          simp only [rowOf] at h
          split at h
          · split at h
            · split at h
              · cases h; exact ⟨_, _, _, _, _, _, rfl, rfl⟩
              · cases h
            · cases h
          · cases h
      · cases h
noncomputable def lentE (st : St) : (ps : List PK) → (rs : List (Ty × Md)) → (ArgT ps → Option (ResT rs × OutT ps)) → List SV → Option (List Upd × SV)
  | .row t m :: ps, rs, F, s :: ss => if isAgg s = aggTy t then (lendE st (shallow s) t m).bind fun p => (args st.boxes ps ss ⟨[], []⟩ fun a _ lo _ _ _ => some (a, lo)).bind fun q =>
      if ((roots s).all (fun r => !q.2.contains r) && (q.2.isEmpty || (rs.all (fun p => noRo p.1 p.2) && psNoRo (.row t m :: ps)))) = true then
        (F (p.1, q.1)).bind fun r => (backE t m r.2.1 p.2.1 (st.lays p.2.2)).bind fun E2 =>
          cond (sameMd st.boxes ((st.lays p.2.2).lays E2).boxes p.2.1) (whenS (rowsOf t m p.1 = r.2.1) ((partV (.row t m :: ps) rs r.1 p.2.1 ((st.lays p.2.2).lays E2).boxes).bind fun z => some (p.2.2 ++ E2, z))) none
      else none
    else none
  | _, _, _, _ => none
theorem whenS_bind {R S : Type} (P : Prop) (a : Option R) (K : R → Option S) : (whenS P a).bind K = whenS P (a.bind K) := by
  unfold whenS; split <;> rfl
theorem lent_call {R : Type} {c : Cx} {st : St} {d : Option Tmp} {f : FuncId} {ss : List SV} {sm : Sm} (hf : Tab.find c.T f ss = some sm) (hp : sm.part = true) (hl : lent1 sm.ps = true) (K : St → Option R) :
    callS c st d f ss K = (lentE st sm.ps sm.rs sm.F ss).bind fun p => K ((st.lays p.1).set d p.2) := by
  unfold callS
  rw [hf]
  simp only
  obtain ⟨ps, rs, F, part⟩ := sm
  simp only at hp hl
  subst hp
  cases ps with
  | nil => simp [lent1] at hl
  | cons p ps =>
    cases p with
    | row t m =>
      simp only [lent1, Bool.and_eq_true, decide_eq_true_eq] at hl
      cases ss with
      | nil => rfl
      | cons s ss =>
        simp only [args, lentE]
        by_cases ha : isAgg s = aggTy t
        · rw [if_pos ha, if_pos ha, lend_E]
          cases he : lendE st (shallow s) t m with
          | none => rfl
          | some p =>
            simp only [Option.bind]
            rw [args_plain _ _ _ hl.2]
            cases args st.boxes ps ss ⟨[], []⟩ fun a _ lo _ _ _ => some (a, lo) with
            | none => rfl
            | some q =>
              simp only [Option.bind, List.append_nil, List.nil_append, noDup, Bool.and_true]
              by_cases hx : ((roots s).all (fun r => !q.2.contains r) && (q.2.isEmpty || (rs.all (fun p => noRo p.1 p.2) && psNoRo (.row t m :: ps)))) = true
              · rw [if_pos hx, if_pos (by simpa using hx)]
                cases F (p.1, q.1) with
                | none => rfl
                | some r =>
                  simp only
                  have hlen := (lendE_len he).1
                  rw [hl.1] at hlen
                  have e1 : p.2.1.take (cntM t m) = p.2.1 := List.take_of_length_le (by rw [hlen, hl.1]; exact Nat.le_refl _)
                  have e2 : p.2.1.drop (cntM t m) = [] := List.drop_of_length_le (by rw [hlen, hl.1]; exact Nat.le_refl _)
                  simp only [backS, e1, e2]
                  rw [back_E]
                  have e3 : ({ slots := (st.lays p.2.2).slots.map (forget (killIO [])), boxes := outsB (.row t m :: ps) r.2 [] (st.lays p.2.2).boxes } : St) = st.lays p.2.2 := by
                    show St.mk _ (outsB ps r.2.2 [] (st.lays p.2.2).boxes) = _
                    rw [outsB_plain _ _ hl.2]
                    congr 1
                    have : ∀ s ∈ (st.lays p.2.2).slots, forget (killIO []) s = id s := fun s _ => forget_off fun r _ b q => by simp [killIO]
                    rw [List.map_congr_left this, List.map_id]
                  rw [e3]
                  cases backE t m r.2.1 p.2.1 (st.lays p.2.2) with
                  | none => rfl
                  | some E2 =>
                    simp only [Option.bind]
                    rw [backS_plain _ _ _ hl.2]
                    simp only [cond_true, sameHead]
                    rw [part_E]
                    cases sameMd st.boxes ((st.lays p.2.2).lays E2).boxes p.2.1 with
                    | false => rfl
                    | true =>
                      simp only [cond_true]
                      unfold whenS
                      split
                      · cases partV (.row t m :: ps) rs r.1 p.2.1 ((st.lays p.2.2).lays E2).boxes with
                        | none => rfl
                        | some z => simp only [lays_append, Option.bind]
                      · rfl
              · rw [if_neg hx, if_neg (by simpa using hx)]
        · rw [if_neg ha, if_neg ha]; rfl
    | _ => simp [lent1] at hl
theorem lentE_local {ps : List PK} {rs : List (Ty × Md)} {F : ArgT ps → Option (ResT rs × OutT ps)} {ss : List SV} {st st' : St} (hl : lent1 ps = true)
    (ha : ∀ {ps : List PK} {ss : List SV}, plainPs ps = true → (∀ s ∈ ss, ∀ j ∈ roots s, bget st'.boxes j = bget st.boxes j) → (args st'.boxes ps ss ⟨[], []⟩ fun a _ lo _ _ _ => some (a, lo)) = (args st.boxes ps ss ⟨[], []⟩ fun a _ lo _ _ _ => some (a, lo)))
    (h : ∀ s ∈ ss, ∀ j ∈ roots s, bget st'.boxes j = bget st.boxes j) : lentE st' ps rs F ss = lentE st ps rs F ss := by
  cases ps with
  | nil => rfl
  | cons p ps =>
    cases p with
    | row t m =>
      simp only [lent1, Bool.and_eq_true] at hl
      cases ss with
      | nil => rfl
      | cons s ss =>
        have hs : ∀ j ∈ roots s, bget st'.boxes j = bget st.boxes j := h s (List.mem_cons_self ..)
        simp only [lentE]
        rw [show lendE st' (shallow s) t m = lendE st (shallow s) t m from lendE_local (fun j hj => hs j (roots_off _ hj)), ha hl.2 (fun s hs => h s (List.mem_cons_of_mem _ hs))]
        by_cases ha : isAgg s = aggTy t
        · rw [if_pos ha, if_pos ha]
          cases he : lendE st (shallow s) t m with
          | none => rfl
          | some p =>
            have hid : ∀ e ∈ p.2.1, bget st'.boxes e.1 = bget st.boxes e.1 := fun e hm => hs _ (roots_off _ ((lendE_len he).2.2 e hm))
            simp only [Option.bind]
            cases args st.boxes ps ss ⟨[], []⟩ fun a _ lo _ _ _ => some (a, lo) with
            | none => rfl
            | some q =>
              simp only
              split
              · cases F (p.1, q.1) with
                | none => rfl
                | some r =>
                  simp only
                  rw [backE_local (st := st.lays p.2.2) (st' := st'.lays p.2.2) (fun e hm => lays_congr _ (hid e hm))]
                  cases backE t m r.2.1 p.2.1 (st.lays p.2.2) with
                  | none => rfl
                  | some E2 =>
                    simp only
                    have e1 : sameMd st'.boxes ((st'.lays p.2.2).lays E2).boxes p.2.1 = sameMd st.boxes ((st.lays p.2.2).lays E2).boxes p.2.1 := by
                      cases hp : p.2.1 with
                      | nil => rfl
                      | cons e l =>
                        have := hid e (by rw [hp]; simp)
                        simp only [sameMd]
                        rw [this, lays_congr E2 (lays_congr p.2.2 this)]
                    have e2 : partV (.row t m :: ps) rs r.1 p.2.1 ((st'.lays p.2.2).lays E2).boxes = partV (.row t m :: ps) rs r.1 p.2.1 ((st.lays p.2.2).lays E2).boxes := by
                      unfold partV
                      cases trip rs r.1 with
                      | none => rfl
                      | some jl =>
                        cases hp : p.2.1 with
                        | nil => rfl
                        | cons e l =>
                          have := hid e (by rw [hp]; simp)
                          simp only
                          rw [lays_congr E2 (lays_congr p.2.2 this)]
                    rw [e1, e2]
              · rfl
        · rw [if_neg ha, if_neg ha]
    | _ => rfl
theorem lentE_same {ps : List PK} {rs : List (Ty × Md)} {F : ArgT ps → Option (ResT rs × OutT ps)} {s : SV} {ss : List SV} {st : St} {E : List Upd} {z : SV} (hl : lent1 ps = true) (h : lentE st ps rs F (s :: ss) = some (E, z)) :
    (∀ r, bget (st.lays E).boxes r = bget st.boxes r) ∧ (∀ p ∈ E, p.1 ∈ roots s ∧ p.2.1 = kDeep) ∧ ∀ r ∈ roots z, r ∈ roots s := by
  cases ps with
  | nil => simp [lent1] at hl
  | cons p ps =>
    cases p with
    | row t m =>
      simp only [lent1, Bool.and_eq_true, decide_eq_true_eq] at hl
      simp only [lentE] at h
      split at h
      · obtain ⟨p, hp, h⟩ := Option.bind_eq_some_iff.1 h
        obtain ⟨q, hq, h⟩ := Option.bind_eq_some_iff.1 h
        split at h
        · obtain ⟨r, hr, h⟩ := Option.bind_eq_some_iff.1 h
          obtain ⟨E2, hE, h⟩ := Option.bind_eq_some_iff.1 h
          obtain ⟨h1, h2, h3⟩ := when_some h
          obtain ⟨z', hz, h3⟩ := Option.bind_eq_some_iff.1 h3
          cases h3
          obtain ⟨r0, q0, b, m2, g1, g2, g3, g4, g5⟩ := lend_back hl.1 hp hE h2
          have hm : m2 = b.m := by
            rw [g1] at h1
            simp only [sameMd, g3] at h1
            rw [g5, show bget ((st.lays p.2.2).lays [(r0, kDeep, { b with m := m2 })]).boxes r0 = some { b with m := m2 } from bget_bset_eq _ _ _] at h1
            simpa using h1
          subst hm
          refine ⟨fun r => ?_, fun e he => ?_, fun r hr => ?_⟩
          · rw [g4, g5]
            by_cases e : r = r0
            · subst e
              rw [g3]
              exact bget_bset_eq _ _ _
            · refine lays_boxes _ _ _ fun p hp => ?_
              simp at hp
              rcases hp with hp | hp <;> (subst hp; exact Ne.symm e)
          · rw [g4, g5] at he
            simp at he
            rcases he with he | he <;> (subst he; exact ⟨roots_off _ g2, rfl⟩)
          · obtain ⟨r1, q1, rw', q', lo, n, k1, k2⟩ := partV_roots hz
            rw [g1] at k1
            cases k1
            subst k2
            simp only [roots, List.mem_singleton] at hr
            subst hr
            exact roots_off _ g2
        · cases h
      · cases h
    | _ => simp [lent1] at hl
end Go.Proofs.YtgdaiifhedpffaaDoor.V
set_option linter.unusedVariables false
set_option linter.unusedSimpArgs false
namespace Go.Proofs.YtgdaiifhedpffaaDoor.V
open Go
noncomputable def effO (c : Cx) (st : St) (o : Oper) : Option (List Upd × SV) :=
  if quiet o = true then (valS c st o some).bind fun s => some ([], s) else
  match appArgs c o with
  | some (A, x, y) => deedE c st A (st.ev x) (st.ev y)
  | none => match o.op with
  | .alloc e => match c.E.get e, o.dst with
    | some te, some d => if te.z = true then some ([(d * 16, kAll, { mem := some e, t := te.ty, m := fitM te.ty (c.mode d te.ty), x := dflt te.ty })], .ptr (d * 16) []) else none
    | _, _ => none
  | .box e v => match c.E.get e, o.dst with
    | some te, some d => (toCE st (st.ev v) te.ty (c.mode d te.ty)).bind fun p => some (p.2.2 ++ [(d * 16, kAll, { mem := some e, t := te.ty, m := p.2.1, x := p.1, row := tagOf st.boxes (st.ev v) te.ty })], .ptr (d * 16) [])
    | _, _ => none
  | .buildSlice t n parts => match c.E.get t, o.dst with
    | some te, some d => match te.d with
      | .slc e => match c.E.get e with
        | some ee => if ee.z = true ∧ n * sz ee.ty ≤ 16777216 ∧ 0 < sz ee.ty ∧ (elemsOk n parts.toList = true) then (elemsE ee.ty (fitM ee.ty (c.mode d te.ty).elem) (parts.toList.map fun p => st.ev p.2) st).bind fun q =>
          if isRo (c.mode d te.ty) = true then (if live ee.ty (fitM ee.ty (c.mode d te.ty).elem) = true then some (q.2, .con (.slc ee.ty) q.1) else none) else
          some (q.2 ++ [(d * 16, kAll, { mem := none, t := .slc ee.ty, m := .own (fitM ee.ty (c.mode d te.ty).elem), x := q.1 })], .ref (d * 16) [])
          else none
        | none => none
      | _ => none
    | _, _ => none
  | .makeSlice t l cp => match c.E.get t, o.dst with
    | some te, some d => match te.d with
      | .slc e => match c.E.get e with
        | some ee => if ee.z = true then (asInt (st.ev l) fun k n => some (k, n)).bind fun p => (asInt (st.ev cp) fun k n => some (k, n)).bind fun q =>
          if 0 ≤ p.2 ∧ p.2 ≤ q.2 ∧ q.2 * ee.bytes ≤ (most : Int) ∧ 0 < sz ee.ty ∧ 0 < ee.bytes then
            some ([(d * 16, kAll, { mem := none, t := .slc ee.ty, m := .own (fitM ee.ty (c.mode d te.ty).elem), x := List.replicate p.2.toNat (dflt ee.ty) })], .ref (d * 16) [])
          else none
          else none
        | none => none
      | _ => none
    | _, _ => none
  | .call cl => match cl.callee with
    | .value f => match st.ev f with
      | .fn f caps => if ends caps = true then match Tab.find c.T f (cl.args.toList.map st.ev ++ untup caps) with
        | some sm => if sm.part = true then lentE st sm.ps sm.rs sm.F (cl.args.toList.map st.ev ++ untup caps) else (args st.boxes sm.ps (cl.args.toList.map st.ev ++ untup caps) ⟨[], []⟩ fun a _ lo _ _ _ => some (a, lo)).bind fun p =>
          if (p.2.isEmpty || (sm.rs.all (fun p => noRo p.1 p.2) && psNoRo sm.ps)) = true then (sm.F p.1).bind fun r =>
            some ((gotsE (o.dst.getD 0 * 16) sm.rs r.1 0).2.2, single sm.rs (gotsE (o.dst.getD 0 * 16) sm.rs r.1 0).1) else none
        | none => none
        else none
      | _ => none
    | _ => none
  | _ => none
theorem app_step {R : Type} {c : Cx} {st : St} {o : Oper} {A : Deed} {x y : Operand} (h : appArgs c o = some (A, x, y)) (K : St → Option R) :
    stepS c st o K = (deedE c st A (st.ev x) (st.ev y)).bind (fun p => K ((st.lays p.1).set o.dst p.2)) ∧ rd o = [x, y] ∧ loud o = true ∧ (∀ d, A.new = some d → o.dst = some d) := by
  unfold appArgs at h
  split at h
  · rename_i t a v ho
    split at h
    · rename_i te hte
      cases h
      refine ⟨?_, ?_, ?_, ?_⟩
      · unfold stepS
        simp only [ho, hte]
        exact store_E ..
      · unfold rd; simp only [ho]
      · unfold loud; simp only [ho]
      · intro d e; cases e
    · cases h
  · rename_i cl ho
    split at h
    · rename_i x' y' t u hc ha ht
      split at h
      · rename_i d' hd
        split at h
        · rename_i htu
          split at h
          · rename_i te hte
            split at h
            · rename_i e hdd
              split at h
              · rename_i ee' hee
                split at h
                · rename_i hz
                  cases h
                  refine ⟨?_, ?_, ?_, ?_⟩
                  · unfold stepS
                    simp only [ho, hc, ha, ht, List.map_cons, List.map_nil, builtinS, hd, if_pos htu, hte, hdd, hee, if_pos hz]
                    exact app_E ..
                  · unfold rd
                    simp only [ho, hc, ha, List.nil_append]
                  · unfold loud
                    simp only [ho, hc]
                  · intro d e; cases e; exact hd
                · cases h
              · cases h
            · cases h
          · cases h
        · rename_i htu
          split at h
          · rename_i te ue hte hue
            split at h
            · rename_i e k hdd hdu
              split at h
              · rename_i ee' hee
                split at h
                · rename_i hz
                  cases h
                  refine ⟨?_, ?_, ?_, ?_⟩
                  · unfold stepS
                    simp only [ho, hc, ha, ht, List.map_cons, List.map_nil, builtinS, hd, if_neg htu, hte, hue]
                    show _ = (appzE c st d' te ee' (st.ev x) (st.ev y)).bind _
                    unfold appzE
                    split
                    · rename_i _ _ _ hs h1 h2
                      cases h1; cases h2
                      simp only [hs, hdd, hdu, hee, if_pos hz]
                      generalize st.ev y = v
                      cases v with
                      | con t' n =>
                        cases t' with
                        | int k2 =>
                          simp only [asInt]
                          split
                          · simp only [Option.bind, St.lays, lay_upd]
                          · rfl
                        | _ => rfl
                      | _ => rfl
                    · rename_i _ _ _ _ _ h1 h2 hs
                      cases h1; cases h2
                      simp only [hdd, hdu, hee, if_pos hz, zerosK_bind]
                      cases zerosV ee' (st.ev y) with
                      | none => rfl
                      | some z => exact app_E ..
                    · rename_i hs _; exact (hs _ _ rfl rfl).elim
                  · unfold rd
                    simp only [ho, hc, ha, List.nil_append]
                  · unfold loud
                    simp only [ho, hc]
                  · intro d e; cases e; exact hd
                · cases h
              · cases h
            · cases h
          · cases h
      · cases h
    · rename_i x' y' t u hc ha ht
      split at h
      · rename_i te ue hte hue
        split at h
        · rename_i e e2 hdd hdu
          split at h
          · rename_i ee hee
            cases h
            refine ⟨?_, ?_, ?_, ?_⟩
            · unfold stepS
              simp only [ho, hc, ha, ht, List.map_cons, List.map_nil, builtinS, hte, hue, hdd, hdu, hee]
              exact copy_E ..
            · unfold rd
              simp only [ho, hc, ha, List.nil_append]
            · unfold loud
              simp only [ho, hc]
            · intro d e; cases e
          · cases h
        · cases h
      · cases h
    · cases h
  · cases h
theorem tk_app {c : Cx} {o : Oper} {A : Deed} {x y : Operand} (h : appArgs c o = some (A, x, y)) : tk c o = match A with | .app _ ee => (if flat ee.ty = true then [x] else [x, y]) | .appz _ _ _ => [x] | .cp _ => [x] | .sto _ => [x, y] := by
  have h0 := h
  unfold appArgs at h
  unfold tk
  split at h
  · rename_i t a v ho
    simp only [ho, h0]
    cases A <;> rfl
  · rename_i cl ho
    simp only [ho, h0]
    cases A <;> rfl
  · cases h
theorem deed_keys {c : Cx} {st : St} {A : Deed} {s v : SV} {E : List Upd} {z : SV} (h : deedE c st A s v = some (E, z)) : ∀ p ∈ E, (∃ d, A.new = some d ∧ p.1 = d * 16) ∨ p.1 ∈ roots s ∨ (p.1 ∈ roots v ∧ match A with | .app _ ee => flat ee.ty = false | .appz _ _ _ => False | .cp _ => False | .sto _ => True) := by
  cases A with
  | app d ee =>
    intro p hp
    rcases appE_keys h p hp with h1 | h1 | ⟨h1, h2⟩
    · exact .inl ⟨d, rfl, h1⟩
    · exact .inr (.inl h1)
    · exact .inr (.inr ⟨h2, h1⟩)
  | appz d te ee =>
    intro p hp
    rcases appzE_keys h p hp with h1 | h1
    · exact .inl ⟨d, rfl, h1⟩
    · exact .inr (.inl h1)
  | cp ee => exact fun p hp => .inr (.inl (copyE_keys h p hp))
  | sto te =>
    intro p hp
    rcases storeE_keys h p hp with h1 | h1
    · exact .inr (.inl h1)
    · exact .inr (.inr ⟨h1, trivial⟩)
theorem deed_local {c : Cx} {st st' : St} {A : Deed} {s v : SV} (hs : ∀ j ∈ roots s, bget st'.boxes j = bget st.boxes j) (hv : ∀ j ∈ roots v, bget st'.boxes j = bget st.boxes j) : deedE c st' A s v = deedE c st A s v := by
  cases A with
  | app d ee => exact appE_local hs hv
  | appz d te ee => exact appzE_local hs
  | cp ee => exact copyE_local hs hv
  | sto te => exact storeE_local hs hv
theorem tk_rd {c : Cx} {o : Oper} {x : Operand} (h : x ∈ tk c o) : x ∈ rd o := by
  unfold tk at h
  split at h
  · rename_i t n parts ho; simp only [rd, ho]; exact h
  · rename_i e v ho; simp only [rd, ho]; exact h
  · cases ha : appArgs c o with
    | none =>
      rw [ha] at h
      simp only at h
      split at h
      · rename_i cl ho
        split at h
        · rename_i f hc
          split at h
          · simp only [rd, ho, hc]
            exact List.mem_append_right _ (List.mem_of_mem_take h)
          · cases h
        · cases h
      · cases h
    | some q =>
      obtain ⟨A, x', y'⟩ := q
      obtain ⟨_, e, _⟩ := app_step (R := Unit) (st := ⟨[], []⟩) ha (fun _ => none)
      rw [e]
      rw [ha] at h
      cases A with
      | app d ee =>
        simp only at h
        split at h
        · simp at h; simp [h]
        · exact h
      | appz d te ee => simp at h; simp [h]
      | cp ee => simp at h; simp [h]
      | sto te => exact h
theorem map_id_forget (l : List SV) : l.map (forget (killIO [])) = l := by
  have : ∀ s ∈ l, forget (killIO []) s = id s := fun s _ => forget_off fun r _ b q => by simp [killIO]
  rw [List.map_congr_left this, List.map_id]
section
variable {R : Type} {c : Cx} {st st' : St} {o : Oper} {ops : Array Oper}
theorem eff_step (h : (quiet o || born c st o) = true) (K : St → Option R) : stepS c st o K = (effO c st o).bind fun p => K ((st.lays p.1).set o.dst p.2) := by
  unfold effO
  split
  · rename_i q
    rw [stepS_val q, valS_bind]
    cases valS c st o some <;> rfl
  · rename_i q
    have hb : born c st o = true := by simpa [q] using h
    clear h
    cases ha : appArgs c o with
    | some p =>
      obtain ⟨A, x, y⟩ := p
      exact (app_step (st := st) ha K).1
    | none =>
    simp only
    unfold stepS
    unfold born at hb
    rw [ha, Option.isSome_none, Bool.false_or] at hb
    split
    case h_3 => rename_i ho; simp [quiet, ho] at q
    case h_1 => rename_i ho; simp [quiet, ho] at q
    case h_2 => rename_i ho; simp [quiet, ho] at q
    case h_4 =>
      rename_i e ho
      simp only [ho]
      cases c.E.get e with
      | none => rfl
      | some te =>
        cases o.dst with
        | none => rfl
        | some d =>
          simp only
          split
          · simp only [Option.bind, St.lays, lay_upd]
          · rfl
    case h_5 =>
      rename_i e v ho
      simp only [ho]
      cases c.E.get e with
      | none => rfl
      | some te =>
        cases o.dst with
        | none => rfl
        | some d =>
          simp only
          rw [toC_E]
          cases toCE st (st.ev v) te.ty (c.mode d te.ty) with
          | none => rfl
          | some p => simp only [Option.bind, lays_append, St.lays, lay_upd]
    case h_7 =>
      rename_i t n parts ho
      simp only [ho] at hb ⊢
      cases c.E.get t with
      | none => rfl
      | some te =>
        cases hd : o.dst with
        | none => rfl
        | some d =>
          simp only
          generalize te.d = D
          cases D with
          | slc e =>
            simp only
            cases c.E.get e with
            | none => rfl
            | some ee =>
              simp only
              by_cases hc : ee.z = true ∧ n * sz ee.ty ≤ 16777216 ∧ 0 < sz ee.ty ∧ (elemsOk n parts.toList = true)
              · rw [if_pos hc, if_pos hc, elems_E]
                cases elemsE ee.ty (fitM ee.ty (c.mode d te.ty).elem) (parts.toList.map fun p => st.ev p.2) st with
                | none => rfl
                | some q =>
                  simp only [Option.bind]
                  by_cases hro : isRo (c.mode d te.ty) = true
                  · simp only [if_pos hro]
                    split <;> rfl
                  · simp only [if_neg hro, lays_append, St.lays, lay_upd]
              · rw [if_neg hc, if_neg hc]; rfl
          | _ => rfl
    case h_15 =>
      rename_i t l cp ho
      simp only [ho]
      cases c.E.get t with
      | none => rfl
      | some te =>
        cases o.dst with
        | none => rfl
        | some d =>
          simp only
          generalize te.d = D
          cases D with
          | slc e =>
            simp only
            cases c.E.get e with
            | none => rfl
            | some ee =>
              simp only
              by_cases hz : ee.z = true
              · rw [if_pos hz, if_pos hz, asInt_bind]
                cases asInt (st.ev l) fun k n => some (k, n) with
                | none => rfl
                | some p =>
                  simp only [Option.bind]
                  rw [asInt_bind]
                  cases asInt (st.ev cp) fun k n => some (k, n) with
                  | none => rfl
                  | some q =>
                    simp only [Option.bind]
                    by_cases hc : 0 ≤ p.2 ∧ p.2 ≤ q.2 ∧ q.2 * ee.bytes ≤ (most : Int) ∧ 0 < sz ee.ty ∧ 0 < ee.bytes
                    · rw [if_pos hc, if_pos hc]; simp only [St.lays, lay_upd]
                    · rw [if_neg hc, if_neg hc]
              · rw [if_neg hz, if_neg hz]; rfl
          | _ => rfl
    case h_25 =>
      rename_i cl ho
      simp only [ho] at hb ⊢
      cases hc : cl.callee with
      | builtin b => rw [hc] at hb; simp at hb
      | invoke a b => rw [hc] at hb; simp at hb
      | value f =>
        simp only [hc] at hb ⊢
        cases hf : st.ev f with
        | fn g caps =>
          simp only [hf] at hb ⊢
          split
          · cases ht : Tab.find c.T g (cl.args.toList.map st.ev ++ untup caps) with
            | none => unfold callS; rw [ht]; rfl
            | some sm =>
              simp only [ht, Bool.and_eq_true] at hb ⊢
              by_cases hpt : sm.part = true
              · rw [if_pos hpt]
                simp only [hpt, if_true, Bool.and_eq_true] at hb
                exact lent_call ht hpt hb.2.1.1 K
              rw [if_neg hpt] at hb ⊢
              simp only [Bool.and_eq_true] at hb
              unfold callS
              rw [ht]
              simp only
              rw [args_plain _ st _ hb.2.1]
              cases args st.boxes sm.ps (cl.args.toList.map st.ev ++ untup caps) ⟨[], []⟩ fun a _ lo _ _ _ => some (a, lo) with
              | none => rfl
              | some p =>
                simp only [Option.bind, List.append_nil, List.nil_append, List.all_nil, noDup, Bool.true_and]
                by_cases hx : (p.2.isEmpty || (sm.rs.all (fun p => noRo p.1 p.2) && psNoRo sm.ps)) = true
                · rw [if_pos hx, if_pos (by simpa using hx)]
                  cases sm.F p.1 with
                  | none => rfl
                  | some r =>
                    have hpt : sm.part = false := by simpa using hpt
                    simp only
                    rw [backS_plain _ _ _ hb.2.1]
                    simp only [hpt, cond]
                    rw [outsB_plain r.2 st.boxes hb.2.1, map_id_forget, gots_eq]
                · rw [if_neg hx, if_neg (by simpa using hx)]
          · rfl
        | _ => rw [hf] at hb; simp at hb
    all_goals (rename_i ho; first | (simp [quiet, ho] at q; done) | (simp [ho] at hb; done) | (exfalso; simp [ho] at hb))
theorem eff_keys {E : List Upd} {s : SV} (hb : (quiet o || born c st o) = true) (h : effO c st o = some (E, s)) : ∀ p ∈ E, loud o = true ∧ (o.dst = some (p.1 / 16) ∨ ∃ x ∈ tk c o, p.1 ∈ roots (st.ev x)) := by
  unfold effO at h
  split at h
  · cases hv : valS c st o some with
    | none => rw [hv] at h; cases h
    | some x => rw [hv] at h; cases h; simp
  · rename_i q
    have hb : born c st o = true := by simpa [q] using hb
    cases ha : appArgs c o with
    | some pp =>
      obtain ⟨A, x, y⟩ := pp
      rw [ha] at h
      obtain ⟨_, e3, e4, e2⟩ := app_step (R := Unit) (st := st) ha (fun _ => none)
      have htk := tk_app ha
      intro p hp
      refine ⟨e4, ?_⟩
      rcases deed_keys h p hp with ⟨d, e, h1⟩ | h1 | ⟨h1, h2⟩
      · left; rw [e2 d e, h1]; congr 1; exact (Nat.mul_div_cancel d (by decide)).symm
      · right; refine ⟨x, ?_, h1⟩; rw [htk]; cases A with
        | app d ee => simp only; split <;> simp
        | appz d te ee => simp
        | cp ee => simp
        | sto te => simp
      · right; refine ⟨y, ?_, h1⟩; rw [htk]; cases A with
        | app d ee => simp only at h2 ⊢; rw [h2]; simp
        | appz d te ee => exact h2.elim
        | cp ee => exact h2.elim
        | sto te => simp
    | none =>
    rw [ha] at h
    simp only at h
    unfold born at hb
    rw [ha, Option.isSome_none, Bool.false_or] at hb
    unfold loud
    split at h
    · rename_i e ho
      split at h
      · rename_i te d _ hd
        split at h
        · cases h; simp [ho, hd]
        · cases h
      · cases h
    · rename_i e v ho
      split at h
      · rename_i te d _ hd
        obtain ⟨p, hp, h⟩ := Option.bind_eq_some_iff.1 h
        cases h
        intro e he
        rcases List.mem_append.1 he with he | he
        · exact ⟨by simp [ho], .inr ⟨v, by simp [tk, ho], toCE_keys hp e he⟩⟩
        · simp at he; subst he; exact ⟨by simp [ho], .inl (by simp [hd])⟩
      · cases h
    · rename_i t n parts ho
      split at h
      · rename_i te d _ hd
        split at h
        · split at h
          · split at h
            · obtain ⟨q, hq, h⟩ := Option.bind_eq_some_iff.1 h
              have key : ∀ e ∈ q.2, loud o = true ∧ (o.dst = some (e.1 / 16) ∨ ∃ x ∈ tk c o, e.1 ∈ roots (st.ev x)) := fun e he => by
                obtain ⟨s, hs, hr⟩ := elemsE_keys _ _ hq e he
                obtain ⟨p, hp, rfl⟩ := List.mem_map.1 hs
                exact ⟨by simp [loud, ho], .inr ⟨p.2, by simp only [tk, ho]; exact List.mem_map.2 ⟨p, hp, rfl⟩, hr⟩⟩
              unfold loud at key
              simp only [ho] at key
              split at h
              · split at h
                · cases h; exact fun e he => ⟨by simp [ho], (key e he).2⟩
                · cases h
              cases h
              intro e he
              rcases List.mem_append.1 he with he | he
              · obtain ⟨s, hs, hr⟩ := elemsE_keys _ _ hq e he
                obtain ⟨p, hp, rfl⟩ := List.mem_map.1 hs
                exact ⟨by simp [ho], .inr ⟨p.2, by simp only [tk, ho]; exact List.mem_map.2 ⟨p, hp, rfl⟩, hr⟩⟩
              · simp at he; subst he; exact ⟨by simp [ho], .inl (by simp [hd])⟩
            · cases h
          · cases h
        · cases h
      · cases h
    · rename_i t l cp ho
      split at h
      · rename_i te d _ hd
        split at h
        · split at h
          · split at h
            · obtain ⟨p, _, h⟩ := Option.bind_eq_some_iff.1 h
              obtain ⟨q, _, h⟩ := Option.bind_eq_some_iff.1 h
              split at h
              · cases h; simp [ho, hd]
              · cases h
            · cases h
          · cases h
        · cases h
      · cases h
    · rename_i cl ho
      simp only [ho] at hb ⊢
      split at h
      · rename_i f hc
        simp only [hc] at hb ⊢
        split at h
        · rename_i g caps hf
          simp only [hf] at hb
          split at h
          · split at h
            · rename_i sm ht
              simp only [ht, Bool.and_eq_true, decide_eq_true_eq] at hb
              split at h
              · rename_i hpt
                simp only [hpt, if_true, Bool.and_eq_true, Bool.not_eq_true', List.isEmpty_eq_false_iff] at hb
                obtain ⟨x, l, hxl⟩ := List.exists_cons_of_ne_nil hb.2.2
                rw [hxl] at h
                simp only [List.map_cons, List.cons_append] at h
                intro p hp
                refine ⟨trivial, .inr ⟨x, ?_, ((lentE_same hb.2.1.1 h).2.1 p hp).1⟩⟩
                have hh := hb.2.1.2
                simp only [tk, ho, hc, ha, hh, if_true, hxl, List.take_succ_cons, List.take_zero, List.mem_singleton]
              rename_i hpt
              rw [if_neg hpt] at hb
              simp only [Bool.and_eq_true, decide_eq_true_eq] at hb
              obtain ⟨p, _, h⟩ := Option.bind_eq_some_iff.1 h
              split at h
              · obtain ⟨r, _, h⟩ := Option.bind_eq_some_iff.1 h
                cases h
                intro p hp
                obtain ⟨d, hd⟩ : ∃ d : Nat, o.dst = some d := Option.isSome_iff_exists.1 hb.1
                have hk := gotsE_keys (o.dst.getD 0 * 16) (rs := sm.rs) (x := r.1) (k := 0)
                have := hk.2.2 p hp
                rw [hd] at this hk ⊢
                simp only [Option.getD_some] at this hk
                have h16 := hk.1
                have h17 : cntR sm.rs ≤ 16 := by simpa using hb.2.2
                have e : p.1 / 16 = d := by
                  have h1 : d * 16 ≤ p.1 := by omega
                  have h2 : p.1 < d * 16 + 16 := by omega
                  rw [show p.1 = (p.1 - d * 16) + 16 * d from by rw [Nat.mul_comm 16 d]; exact (Nat.sub_add_cancel h1).symm, Nat.add_mul_div_left _ _ (by decide)]
                  rw [Nat.div_eq_of_lt (by omega), Nat.zero_add]
                exact ⟨trivial, .inl (by rw [e])⟩
              · cases h
            · cases h
          · cases h
        · cases h
      · cases h
    · cases h
theorem roots_untup : ∀ {s : SV}, ∀ x ∈ untup s, ∀ r ∈ roots x, r ∈ roots s
  | .tcons a b, x, hx, r, hr => by
    simp only [untup, List.mem_cons] at hx
    rcases hx with rfl | hx
    · simp [roots, hr]
    · simp [roots, roots_untup x hx r hr]
  | .undef, x, hx, _, _ => by simp [untup] at hx
  | .con _ _, x, hx, _, _ => by simp [untup] at hx
  | .raw _, x, hx, _, _ => by simp [untup] at hx
  | .emp, x, hx, _, _ => by simp [untup] at hx
  | .agg _ _, x, hx, _, _ => by simp [untup] at hx
  | .tnil, x, hx, _, _ => by simp [untup] at hx
  | .ref _ _, x, hx, _, _ => by simp [untup] at hx
  | .sub _ _ _ _, x, hx, _, _ => by simp [untup] at hx
  | .ptr _ _, x, hx, _, _ => by simp [untup] at hx
  | .pro _ _, x, hx, _, _ => by simp [untup] at hx
  | .fn _ _, x, hx, _, _ => by simp [untup] at hx
theorem lookP_local {bs bs' : List (Nat × Bx)} {R : Type} {s : SV} {t : Ty} (h : ∀ j ∈ roots s, bget bs' j = bget bs j) (K : den t → Option R) : lookP bs' s t K = lookP bs s t K := by
  cases s <;> try rfl
  rename_i r q
  cases q <;> try rfl
  simp only [lookP]
  rw [h r (by simp [roots])]
theorem lookL_local {bs bs' : List (Nat × Bx)} : ∀ {ts : List (Bool × Ty)} {s : SV}, (∀ j ∈ roots s, bget bs' j = bget bs j) → ∀ {R : Type} (K : denL ts → Option R), lookL bs' ts s K = lookL bs ts s K
  | [], s, _, R, K => by cases s <;> rfl
  | (true, t) :: ts, s, h, R, K => by
    cases s <;> try rfl
    rename_i a b
    simp only [lookL]
    rw [lookP_local (fun j hj => h j (by simp [roots, hj]))]
    congr 1; funext x
    exact lookL_local (fun j hj => h j (by simp [roots, hj])) _
  | (false, t) :: ts, s, h, R, K => by
    cases s <;> try rfl
    rename_i a b
    simp only [lookL]
    split
    · rw [look_local (fun j hj => h j (by simp [roots, hj]))]
      congr 1; funext x
      exact lookL_local (fun j hj => h j (by simp [roots, hj])) _
    · rfl
theorem args_local {bs bs' : List (Nat × Bx)} : ∀ {ps : List PK} {ss : List SV} {R : Type} (st : St) (K : ArgT ps → List Nat → List Nat → List Nat → List (Nat × Path) → St → Option R), plainPs ps = true → (∀ s ∈ ss, ∀ j ∈ roots s, bget bs' j = bget bs j) →
    args bs' ps ss st K = args bs ps ss st K
  | [], [], _, _, _, _, _ => rfl
  | [], _ :: _, _, _, _, _, _ => rfl
  | .ro t :: ps, [], _, _, _, _, _ => rfl
  | .ro t :: ps, s :: ss, R, st, K, h, hs => by
    simp only [args]
    split
    · rw [look_local (hs s (List.mem_cons_self ..))]
      congr 1; funext x
      exact args_local st _ (by simpa [plainPs] using h) (fun x hx => hs x (List.mem_cons_of_mem _ hx))
    · rfl
  | .fn f cs :: ps, [], _, _, _, _, _ => rfl
  | .fn f cs :: ps, s :: ss, R, st, K, h, hs => by
    simp only [args]
    split
    · split
      · rename_i g caps _
        rw [lookL_local (fun j hj => hs _ (List.mem_cons_self ..) j (by simpa [roots] using hj))]
        congr 1; funext x
        exact args_local st _ (by simpa [plainPs] using h) (fun x hx => hs x (List.mem_cons_of_mem _ hx))
      · rfl
    · rfl
  | .nil :: ps, [], _, _, _, _, _ => rfl
  | .nil :: ps, s :: ss, R, st, K, h, hs => by
    simp only [args]
    split
    · exact args_local st _ (by simpa [plainPs] using h) (fun x hx => hs x (List.mem_cons_of_mem _ hx))
    · rfl
  | .mv _ _ :: ps, _, _, _, _, h, _ => by simp [plainPs] at h
  | .io _ _ _ :: ps, _, _, _, _, h, _ => by simp [plainPs] at h
  | .row _ _ :: ps, _, _, _, _, h, _ => by simp [plainPs] at h
  | .lk _ :: ps, _, _, _, _, h, _ => by simp [plainPs] at h
theorem born_local (h : ∀ x ∈ rd o, st'.ev x = st.ev x) : born c st' o = born c st o := by
  unfold born
  unfold rd at h
  congr 1
  split
  · rfl
  · rfl
  · rfl
  · rfl
  · rename_i cl ho
    simp only [ho] at h
    split
    · rename_i f hc
      simp only [hc] at h
      rw [h f (by simp)]
      have e : cl.args.toList.map st'.ev = cl.args.toList.map st.ev := List.map_congr_left fun x hx => h x (by simp only [List.mem_append]; exact .inr hx)
      rw [e]
    · rfl
  · rfl
theorem tagN_local {bs bs' : List (Nat × Bx)} : ∀ {s : SV}, (∀ j ∈ roots s, bget bs' j = bget bs j) → tagN bs' s = tagN bs s
  | .agg a b, h => by
    simp only [tagN]
    rw [tagN_local (s := a) (fun j hj => h j (List.mem_append_left _ hj)), tagN_local (s := b) (fun j hj => h j (List.mem_append_right _ hj))]
  | .ref r [], h => by simp only [tagN]; rw [h r (by simp [roots])]
  | .ref r (_ :: _), h => rfl
  | .undef, _ => rfl
  | .con _ _, _ => rfl
  | .raw _, _ => rfl
  | .emp, _ => rfl
  | .tcons _ _, _ => rfl
  | .tnil, _ => rfl
  | .sub _ _ _ _, _ => rfl
  | .ptr _ _, _ => rfl
  | .pro _ _, _ => rfl
  | .fn _ _, _ => rfl
  | .nul _ _, _ => rfl
theorem tagged_local {bs bs' : List (Nat × Bx)} (n : Nat) : ∀ {s : SV} {t : Ty} {o : Nat}, (∀ j ∈ roots s, bget bs' j = bget bs j) → tagged bs' n s t o = tagged bs n s t o := by
  intro s
  induction s with
  | agg a b iha ihb =>
    intro t o h
    cases t with
    | pair ta tb =>
      simp only [tagged]
      rw [iha (fun j hj => h j (List.mem_append_left _ hj)), ihb (fun j hj => h j (List.mem_append_right _ hj))]
    | _ => rfl
  | ref r q =>
    intro t o h
    cases q with
    | cons => cases t <;> rfl
    | nil =>
      cases t with
      | slc t => simp only [tagged]; rw [h r (by simp [roots])]
      | _ => rfl
  | _ => intro t o h; cases t <;> rfl
theorem tagOf_local {bs bs' : List (Nat × Bx)} {s : SV} (t : Ty) (h : ∀ j ∈ roots s, bget bs' j = bget bs j) : tagOf bs' s t = tagOf bs s t := by
  unfold tagOf
  rw [tagN_local h]
  cases tagN bs s with
  | none => rfl
  | some n => simp only [tagged_local n h]
theorem eff_local (hq : (quiet o || born c st o) = true) (h : ∀ x ∈ rd o, st'.ev x = st.ev x) (hb : ∀ x ∈ rd o, ∀ j ∈ roots (st.ev x), bget st'.boxes j = bget st.boxes j) : effO c st' o = effO c st o := by
  unfold effO
  split
  · rw [valS_local h hb]
  · rename_i q
    have hq : born c st o = true := by simpa [q] using hq
    cases ha : appArgs c o with
    | some pp =>
      obtain ⟨A, x, y⟩ := pp
      obtain ⟨_, e3, _⟩ := app_step (R := Unit) (st := st) ha (fun _ => none)
      simp only
      rw [e3] at h hb
      rw [h x (by simp), h y (by simp)]
      exact deed_local (hb x (by simp)) (hb y (by simp))
    | none =>
    simp only
    unfold born at hq
    rw [ha, Option.isSome_none, Bool.false_or] at hq
    unfold rd at h hb
    split
    · rfl
    · rename_i e v ho
      simp only [ho] at h hb
      rw [h v (by simp)]
      simp only [toCE_local (hb v (by simp)), tagOf_local _ (hb v (by simp))]
    · rename_i t n parts ho
      simp only [ho] at h hb
      have e : (parts.toList.map fun p => st'.ev p.2) = parts.toList.map fun p => st.ev p.2 := List.map_congr_left fun p hp => h p.2 (List.mem_map.2 ⟨p, hp, rfl⟩)
      rw [e]
      have e2 : ∀ (t : Ty) (m : Md), elemsE t m (parts.toList.map fun p => st.ev p.2) st' = elemsE t m (parts.toList.map fun p => st.ev p.2) st := fun t m => elemsE_local t m fun s hs j hj => by
        obtain ⟨p, hp, rfl⟩ := List.mem_map.1 hs
        exact hb p.2 (List.mem_map.2 ⟨p, hp, rfl⟩) j hj
      simp only [e2]
    · rename_i t l cp ho
      simp only [ho] at h
      rw [h l (by simp), h cp (by simp)]
    · rename_i cl ho
      simp only [ho] at h hb hq
      split
      · rename_i f hc
        simp only [hc] at h hb hq
        rw [h f (by simp)]
        have e : cl.args.toList.map st'.ev = cl.args.toList.map st.ev := List.map_congr_left fun x hx => h x (by simp only [List.mem_append]; exact .inr hx)
        rw [e]
        split
        · rename_i g caps hf
          simp only [hf] at hq
          split
          · split
            · rename_i sm ht
              simp only [ht, Bool.and_eq_true] at hq
              have hss : ∀ s ∈ cl.args.toList.map st.ev ++ untup caps, ∀ j ∈ roots s, bget st'.boxes j = bget st.boxes j := by
                intro s hs j hj
                rcases List.mem_append.1 hs with hs | hs
                · obtain ⟨x, hx, rfl⟩ := List.mem_map.1 hs
                  exact hb x (by simp only [List.mem_append]; exact .inr hx) j hj
                · exact hb f (by simp) j (by rw [hf]; simpa [roots] using roots_untup s hs j hj)
              by_cases hpt : sm.part = true
              · rw [if_pos hpt, if_pos hpt]
                simp only [hpt, if_true, Bool.and_eq_true] at hq
                exact lentE_local hq.2.1.1 (fun hps hs => args_local (bs := st.boxes) _ _ hps hs) hss
              rw [if_neg hpt] at hq
              rw [if_neg hpt, if_neg hpt]
              simp only [Bool.and_eq_true] at hq
              rw [args_local (bs := st.boxes) _ _ hq.2.1 hss]
            · rfl
          · rfl
        · rfl
      · rfl
    · rfl
noncomputable def gE (c : Cx) (ops : Array Oper) (i : Nat) (st : St) : Option (List Upd × SV) :=
  match ops[i]? with
  | none => none
  | some o => match o.guard with
    | none => effO c st o
    | some (j, want) => match (ops[j]?).bind (·.dst) with
      | none => none
      | some g => match sget st.slots g with
        | .con .bool v => if (v : Bool) = want then effO c st o else some ([], .tnil)
        | .tnil => some ([], .tnil)
        | _ => none
theorem sset_self : ∀ (l : List SV) (i : Nat), sset l i (sget l i) = l
  | [], _ => rfl
  | _ :: _, 0 => rfl
  | a :: l, i + 1 => by simp [sset, sget, sset_self l i]
theorem set_self {g : Tmp} {s : SV} (h : sget st.slots g = s) : st.set (some g) s = st := by
  subst h
  show St.mk (sset st.slots g (sget st.slots g)) st.boxes = st
  rw [sset_self]
theorem g_eff {i : Nat} (ho : ops[i]? = some o) (hq : (quiet o || born c st o) = true) (K : St → Option R) : gS c ops i st K = (gE c ops i st).bind fun p => K ((st.lays p.1).set o.dst p.2) := by
  unfold gS gE
  simp only [opsS, ho]
  cases hg : o.guard with
  | none => exact eff_step hq K
  | some jw =>
    obtain ⟨j, want⟩ := jw
    simp only
    cases (ops[j]?).bind (·.dst) with
    | none => rfl
    | some g =>
      simp only
      split
      · rename_i v hv
        simp only [hv]
        cases v with
        | true =>
          cases want with
          | true => simp only [cond, if_true]; rw [set_self hv]; exact eff_step hq K
          | false => simp only [cond]; rw [set_self hv]; rfl
        | false =>
          cases want with
          | true => simp only [cond]; rw [set_self hv]; rfl
          | false => simp only [cond, if_true]; rw [set_self hv]; exact eff_step hq K
      · rename_i hv
        simp only [hv]; rfl
      · rename_i h1 h2
        split
        · rename_i v hv; exact (h1 v hv).elim
        · rename_i hv; exact (h2 hv).elim
        · rfl
theorem g_keys {i : Nat} {E : List Upd} {s : SV} (ho : ops[i]? = some o) (hq : (quiet o || born c st o) = true) (h : gE c ops i st = some (E, s)) : ∀ p ∈ E, loud o = true ∧ (o.dst = some (p.1 / 16) ∨ ∃ x ∈ tk c o, p.1 ∈ roots (st.ev x)) := by
  unfold gE at h
  simp only [ho] at h
  split at h
  · exact eff_keys hq h
  · split at h
    · cases h
    · split at h
      · split at h
        · exact eff_keys hq h
        · cases h; simp
      · cases h; simp
      · cases h
theorem rdg_rd {x : Operand} (h : x ∈ rd o) : x ∈ rdg ops o := by unfold rdg; simp [h]
theorem g_local {i : Nat} (ho : ops[i]? = some o) (hq : (quiet o || born c st o) = true) (h : ∀ x ∈ rdg ops o, st'.ev x = st.ev x) (hb : ∀ x ∈ rdg ops o, ∀ j ∈ roots (st.ev x), bget st'.boxes j = bget st.boxes j) : gE c ops i st' = gE c ops i st := by
  have he : effO c st' o = effO c st o := eff_local hq (fun x hx => h x (rdg_rd hx)) (fun x hx => hb x (rdg_rd hx))
  unfold gE
  simp only [ho, he]
  cases hg : o.guard with
  | none => rfl
  | some jw =>
    obtain ⟨j, want⟩ := jw
    simp only
    cases hd : (ops[j]?).bind (·.dst) with
    | none => rfl
    | some g =>
      have : sget st'.slots g = sget st.slots g := h (.tmp g) (by unfold rdg gdst; simp [hg, hd])
      simp only [this]
end
theorem apartG_spec {ops : Array Oper} {a b : Oper} (h : apartG ops a b = true) : (∀ x ∈ rdg ops b, ∀ t, a.dst = some t → x ≠ .tmp t) ∧ (∀ x ∈ rdg ops a, ∀ t, b.dst = some t → x ≠ .tmp t) ∧ (∀ t, a.dst = some t → b.dst ≠ some t) := by
  have key : ∀ {l : List Operand} {d : Tmp}, (l.any fun x => match x with | .tmp t => t == d | _ => false) = false → ∀ x ∈ l, x ≠ .tmp d := by
    intro l d hl x hx e
    subst e
    have := (List.any_eq_false.1 hl) _ hx
    simp at this
  unfold apartG at h
  simp only [Bool.and_eq_true] at h
  refine ⟨fun x hx t ht => ?_, fun x hx t ht => ?_, fun t ht => ?_⟩
  · have h1 := h.1
    rw [ht] at h1
    simp only [Bool.and_eq_true, Bool.not_eq_true'] at h1
    exact key h1.1 x hx
  · have h1 := h.2
    rw [ht] at h1
    simp only [Bool.not_eq_true'] at h1
    exact key h1 x hx
  · have h1 := h.1
    rw [ht] at h1
    simp only [Bool.and_eq_true, Bool.not_eq_true'] at h1
    intro e
    rw [e] at h1
    simp at h1
theorem avoid_spec {A : List Nat} {s : SV} {r d : Nat} (h : avoid A s = true) (hd : A.contains d = true) (hr : r / 16 = d) : r ∉ roots s := by
  intro hm
  have := (List.all_eq_true.1 h) r hm
  rw [hr] at this
  simp [hd] at this
  simp at hd
  exact this hd
theorem ev_set_dst {st : St} {d : Option Tmp} {s : SV} {x : Operand} (h : ∀ t, d = some t → x ≠ .tmp t) : (st.set d s).ev x = st.ev x := ev_set h
theorem softC1_local {o : Oper} {v : Ward} {st st' : St} (h : ∀ x ∈ rd o, st'.ev x = st.ev x) (hb : ∀ x ∈ rd o, ∀ j ∈ roots (st.ev x), bget st'.boxes j = bget st.boxes j) : softC1 o v st' = softC1 o v st := by
  unfold softC1
  unfold rd at h hb
  split
  · rename_i t a e
    rw [e] at h hb
    rw [h a (by simp)]
    split
    · rename_i r q e2
      rw [hb a (by simp) r (by rw [e2]; simp [roots])]
    · rfl
  · rename_i t x i e
    rw [e] at h
    rw [h x (by simp), h i (by simp)]
  · rename_i t x i e
    rw [e] at h
    rw [h x (by simp)]
  · rename_i x e
    rw [e] at h
    rw [h x (by simp)]
  · rename_i t a y e
    rw [e] at h
    rw [h a (by simp), h y (by simp)]
  · rfl
theorem all_ev {S : List Nat} {st st' : St} : ∀ {l : List Operand}, (∀ x ∈ l, st'.ev x = st.ev x) → l.all (fun x => shal0 S (st'.ev x)) = l.all (fun x => shal0 S (st.ev x))
  | [], _ => rfl
  | x :: l, h => by
    simp only [List.all_cons]
    rw [h x (List.mem_cons_self ..), all_ev (fun y hy => h y (List.mem_cons_of_mem _ hy))]
theorem softC_local {o : Oper} {v : Ward} {st st' : St} (h : ∀ x ∈ rd o, st'.ev x = st.ev x) (hb : ∀ x ∈ rd o, ∀ j ∈ roots (st.ev x), bget st'.boxes j = bget st.boxes j) : softC o v st' = softC o v st := by
  unfold softC
  split
  · rw [all_ev h]
  · exact softC1_local h hb
theorem chk_spec {c : Cx} {ops : Array Oper} {i : Nat} {v : Ward} {st : St} {o : Oper} (ho : ops[i]? = some o) : chk c ops i v st = true ↔ (quiet o || born c st o) = true ∧ (∀ x ∈ rdg ops o, noU (st.ev x) = true ∧ avoid v.A (st.ev x) = true) ∧ (∀ x ∈ tk c o, ∀ r ∈ roots (st.ev x), r / 16 ∈ v.U) ∧ softC o v st = true := by
  unfold chk
  simp only [ho]
  rw [Bool.and_eq_true, Bool.and_eq_true, Bool.and_eq_true, and_assoc, and_assoc]
  refine and_congr Iff.rfl (and_congr (by simp only [List.all_eq_true, Bool.and_eq_true]) (and_congr ?_ Iff.rfl))
  simp [List.all_eq_true, List.contains_iff_mem]
def OutP (o : Oper) (v : Ward) (s : SV) : Prop := avoid v.A s = true ∧ (rdOp v o = true → shal v s = true)
theorem OutP.undef (o : Oper) (v : Ward) : OutP o v .undef := ⟨rfl, fun _ => by unfold shal; split <;> rfl⟩
theorem out_spec {ops : Array Oper} {i : Nat} {v : Ward} {st : St} {o : Oper} (ho : ops[i]? = some o) : outOk ops i v st = true ↔ OutP o v (dstS ops i st) := by
  unfold outOk OutP
  simp only [ho, Bool.and_eq_true, Bool.or_eq_true, Bool.not_eq_true']
  refine and_congr Iff.rfl ⟨fun h e => ?_, fun h => ?_⟩
  · rcases h with h | h
    · rw [e] at h; cases h
    · exact h
  · cases e : rdOp v o with
    | false => exact .inl rfl
    | true => exact .inr (h e)
theorem lays_len : ∀ (E : List Upd) (st : St), (st.lays E).slots.length = st.slots.length
  | [], _ => rfl
  | p :: E, st => by simp only [St.lays]; rw [lays_len]; simp [St.upd]
theorem set_len (st : St) (d : Option Tmp) (s : SV) : (st.set d s).slots.length = st.slots.length := by
  cases d with
  | none => rfl
  | some d => exact sset_length _ _ _
theorem outset {st : St} {d : Option Tmp} {s : SV} {P : SV → Prop} (hu : P .undef) (hv : P (match d with | some d => sget (sset st.slots d s) d | none => .undef)) :
    ∃ t, P t ∧ ∀ st' : St, st'.slots.length = st.slots.length → st'.set d s = st'.set d t := by
  cases d with
  | none => exact ⟨.undef, hu, fun _ _ => rfl⟩
  | some d =>
    simp only [sget_sset] at hv
    by_cases hd : d < st.slots.length
    · rw [if_pos ⟨trivial, hd⟩] at hv
      exact ⟨s, hv, fun _ _ => rfl⟩
    · have go : ∀ (l : List SV) (n : Nat) (s : SV), l.length ≤ n → sset l n s = l := by
        intro l
        induction l with
        | nil => intro n s _; rfl
        | cons a l ih => intro n s h; cases n with
          | zero => simp at h
          | succ n => simp only [sset]; rw [ih n s (by simpa using h)]
      refine ⟨.undef, hu, fun st' hl => ?_⟩
      show St.mk (sset st'.slots d s) _ = St.mk (sset st'.slots d .undef) _
      rw [go _ _ _ (by rw [hl]; exact Nat.not_lt.1 hd), go _ _ _ (by rw [hl]; exact Nat.not_lt.1 hd)]
theorem dstS_set {ops : Array Oper} {i : Nat} {o : Oper} (ho : ops[i]? = some o) (st : St) {t : SV} {P : SV → Prop} (hu : P .undef) (ht : P t) : P (dstS ops i (st.set o.dst t)) := by
  unfold dstS
  simp only [ho]
  cases hd : o.dst with
  | none => exact hu
  | some d =>
    show P (sget (sset _ d t) d)
    rw [sget_sset]
    split
    · exact ht
    · rename_i hh; rw [sget_out _ _ (by simp at hh; exact hh)]; exact hu
theorem swapC {R : Type} {c : Cx} {ops : Array Oper} {i j : Nat} {a b : Oper} {vi vj : Ward} {st : St} {K : St → Option R} {r : R} (ha : ops[j]? = some a) (hb : ops[i]? = some b) (hap : apartG ops a b = true)
    (hla : loud a = true → ∀ d, (a.dst = some d ∨ d ∈ vj.U) → vi.A.contains d = true) (hlb : loud b = true → ∀ d, (b.dst = some d ∨ d ∈ vi.U) → vj.A.contains d = true)
    (h : (gC c ops j vj st fun st => gC c ops i vi st K) = some r) : (gC c ops i vi st fun st => gC c ops j vj st K) = some r := by
  obtain ⟨p1, p2, p3⟩ := apartG_spec hap
  -- the first
  unfold gC at h
  split at h
  case isFalse => cases h
  rename_i c1
  replace c1 := (chk_spec ha).1 c1
  have e1 := g_eff (R := R) ha c1.1 (K := fun st => if outOk ops j vj st = true then (if chk c ops i vi st = true then opsS c ops [i] st fun st => if outOk ops i vi st = true then K st else none else none) else none)
  unfold gS at e1
  rw [e1] at h
  obtain ⟨⟨Ej, sj⟩, gj, h⟩ := Option.bind_eq_some_iff.1 h
  have kj := g_keys ha c1.1 gj
  simp only at h
  split at h
  case isFalse => cases h
  rename_i oj
  split at h
  case isFalse => cases h
  rename_i c2
  replace c2 := (chk_spec hb).1 c2
  have e2 := g_eff (R := R) hb c2.1 (K := fun st => if outOk ops i vi st = true then K st else none)
  unfold gS at e2
  rw [e2] at h
  obtain ⟨⟨Ei, si⟩, gi, h⟩ := Option.bind_eq_some_iff.1 h
  have ki := g_keys hb c2.1 gi
  simp only at h
  split at h
  case isFalse => cases h
  rename_i oi
  have xj : ∀ p ∈ Ej, vi.A.contains (p.1 / 16) = true := fun p hp => by
    obtain ⟨l1, l2⟩ := kj p hp
    exact hla l1 _ (l2.imp id fun ⟨x, hx, hr⟩ => c1.2.2.1 x hx _ hr)
  have xi : ∀ p ∈ Ei, vj.A.contains (p.1 / 16) = true := fun p hp => by
    obtain ⟨l1, l2⟩ := ki p hp
    exact hlb l1 _ (l2.imp id fun ⟨x, hx, hr⟩ => c2.2.2.1 x hx _ hr)
  -- what the second reads stood there before
  have s1 : ∀ x ∈ rdg ops b, ((st.lays Ej).set a.dst sj).ev x = st.ev x := fun x hx => by
    have hU := (c2.2.1 x hx).1
    rw [ev_set_dst (p1 x hx)] at hU ⊢
    exact lays_ev_U _ _ _ hU
  have a1 : ∀ x ∈ rdg ops b, avoid vi.A (st.ev x) = true := fun x hx => by rw [← s1 x hx]; exact (c2.2.1 x hx).2
  have b1 : ∀ x ∈ rdg ops b, ∀ q ∈ roots (st.ev x), bget ((st.lays Ej).set a.dst sj).boxes q = bget st.boxes q := fun x hx q hq => by
    rw [boxes_set]
    refine lays_boxes _ _ _ fun p hp e => ?_
    exact avoid_spec (a1 x hx) (xj p hp) (by rw [e]) hq
  have q2 : (quiet b || born c st b) = true := by
    have := c2.1
    rw [born_local (fun x hx => s1 x (rdg_rd hx))] at this
    exact this
  have gi' : gE c ops i st = some (Ei, si) := by rw [← g_local hb q2 s1 b1]; exact gi
  -- and what the first reads is still there
  have s2 : ∀ x ∈ rdg ops a, ((st.lays Ei).set b.dst si).ev x = st.ev x := fun x hx => by
    rw [ev_set_dst (p2 x hx)]
    refine lays_ev_off _ _ _ fun p hp => ?_
    exact avoid_spec (c1.2.1 x hx).2 (xi p hp) rfl
  have b2 : ∀ x ∈ rdg ops a, ∀ q ∈ roots (st.ev x), bget ((st.lays Ei).set b.dst si).boxes q = bget st.boxes q := fun x hx q hq => by
    rw [boxes_set]
    refine lays_boxes _ _ _ fun p hp e => ?_
    exact avoid_spec (c1.2.1 x hx).2 (xi p hp) (by rw [e]) hq
  have q1 : (quiet a || born c ((st.lays Ei).set b.dst si) a) = true := by
    rw [born_local (fun x hx => s2 x (rdg_rd hx))]; exact c1.1
  have gj' : gE c ops j ((st.lays Ei).set b.dst si) = some (Ej, sj) := by rw [g_local ha c1.1 s2 b2]; exact gj
  -- the slots that are set keep off the boxes
  replace oj := (out_spec ha).1 oj
  replace oi := (out_spec hb).1 oi
  obtain ⟨tj, aj, fj⟩ := outset (st := st.lays Ej) (d := a.dst) (s := sj) (P := OutP a vj) (.undef _ _) (by
    unfold dstS at oj
    simp only [ha] at oj
    cases hd : a.dst with
    | none => exact .undef _ _
    | some d => rw [hd] at oj; exact oj)
  obtain ⟨ti, ai, fi⟩ := outset (st := ((st.lays Ej).set a.dst sj).lays Ei) (d := b.dst) (s := si) (P := OutP b vi) (.undef _ _) (by
    unfold dstS at oi
    simp only [hb] at oi
    cases hd : b.dst with
    | none => exact .undef _ _
    | some d => rw [hd] at oi; exact oi)
  have lj : ∀ st' : St, st'.slots.length = st.slots.length → st'.set a.dst sj = st'.set a.dst tj := fun st' h => fj st' (by rw [lays_len]; exact h)
  have li : ∀ st' : St, st'.slots.length = st.slots.length → st'.set b.dst si = st'.set b.dst ti := fun st' h => fi st' (by rw [lays_len, set_len, lays_len]; exact h)
  have rj : ∀ p ∈ Ei, p.1 ∉ roots tj := fun p hp => avoid_spec aj.1 (xi p hp) rfl
  have ri : ∀ p ∈ Ej, p.1 ∉ roots ti := fun p hp => avoid_spec ai.1 (xj p hp) rfl
  have kk : ∀ p ∈ Ej, ∀ q ∈ Ei, p.1 ≠ q.1 := fun p hp q hq e => by
    obtain ⟨l1, l2⟩ := kj p hp
    obtain ⟨l3, l4⟩ := ki q hq
    rcases l4 with l4 | ⟨x, hx, hr⟩
    · rcases l2 with l2 | ⟨x, hx, hr⟩
      · exact p3 _ l2 (by rw [l4, e])
      · exact avoid_spec (c1.2.1 x (rdg_rd (tk_rd hx))).2 (xi q hq) (by rw [e]) hr
    · rw [s1 x (rdg_rd (tk_rd hx))] at hr
      exact avoid_spec (a1 x (rdg_rd (tk_rd hx))) (xj p hp) (by rw [e]) hr
  have fin : (((st.lays Ei).set b.dst si).lays Ej).set a.dst sj = (((st.lays Ej).set a.dst sj).lays Ei).set b.dst si := by
    rw [li (st.lays Ei) (lays_len _ _), lj (st.lays Ej) (lays_len _ _)]
    rw [set_lays _ _ _ _ ri, set_lays _ _ _ _ rj]
    rw [lj _ (by rw [set_len, lays_len, lays_len]), li _ (by rw [set_len, lays_len, lays_len])]
    rw [lays_comm st Ej Ei (fun p hp q hq => (kk q hq p hp).symm)]
    exact set_comm _ _ _ (fun x hx => by
      intro hy; exact p3 x hy hx)
  -- the other way
  unfold gC
  have sf2 : softC b vi st = true := by rw [← softC_local (fun x hx => s1 x (rdg_rd hx)) (fun x hx => b1 x (rdg_rd hx))]; exact c2.2.2.2
  have c3 : chk c ops i vi st = true := by
    refine (chk_spec hb).2 ⟨q2, fun x hx => ⟨by rw [← s1 x hx]; exact (c2.2.1 x hx).1, a1 x hx⟩, fun x hx r hr => ?_, sf2⟩
    rw [← s1 x (rdg_rd (tk_rd hx))] at hr
    exact c2.2.2.1 x hx r hr
  rw [if_pos c3]
  have e3 := g_eff (R := R) (st := st) hb q2 (K := fun st => if outOk ops i vi st = true then (if chk c ops j vj st = true then opsS c ops [j] st fun st => if outOk ops j vj st = true then K st else none else none) else none)
  unfold gS at e3
  rw [e3, gi']
  simp only [Option.bind]
  have v3 : outOk ops i vi ((st.lays Ei).set b.dst si) = true := by
    rw [li _ (lays_len _ _)]
    exact (out_spec hb).2 (dstS_set hb _ (.undef _ _) ai)
  rw [if_pos v3]
  have c4 : chk c ops j vj ((st.lays Ei).set b.dst si) = true := by
    refine (chk_spec ha).2 ⟨q1, fun x hx => by rw [s2 x hx]; exact c1.2.1 x hx, fun x hx r hr => ?_, ?_⟩
    · rw [s2 x (rdg_rd (tk_rd hx))] at hr
      exact c1.2.2.1 x hx r hr
    · rw [softC_local (fun x hx => s2 x (rdg_rd hx)) (fun x hx => b2 x (rdg_rd hx))]; exact c1.2.2.2
  rw [if_pos c4]
  have e4 := g_eff (R := R) (st := (st.lays Ei).set b.dst si) ha q1 (K := fun st => if outOk ops j vj st = true then K st else none)
  unfold gS at e4
  rw [e4, gj']
  simp only [Option.bind]
  rw [fin]
  have v4 : outOk ops j vj ((((st.lays Ej).set a.dst sj).lays Ei).set b.dst si) = true := by
    rw [← fin, lj _ (by rw [lays_len, set_len, lays_len])]
    exact (out_spec ha).2 (dstS_set ha _ (.undef _ _) aj)
  rw [if_pos v4]
  exact h
end Go.Proofs.YtgdaiifhedpffaaDoor.V
set_option linter.unusedVariables false
set_option linter.unusedSimpArgs false
namespace Go.Proofs.YtgdaiifhedpffaaDoor.V
open Go
theorem rowOf_put {R : Type} (K : (t : Ty) → List (den t) → Md → Option R) (hK : ∀ (t : Ty) (xs ys : List (den t)) (m : Md), xs.length = ys.length → K t xs m = K t ys m) :
    ∀ (q : Path) (t : Ty) (x : den t) (q' : Path) (y : den (ctype t q')) (m : Md), lev q < lev q' → rowOf (ctype t q) (cget t (cput t x q' y) q) m K = rowOf (ctype t q) (cget t x q) m K
  | [], _, _, [], _, _, h => absurd h (Nat.lt_irrefl _)
  | _ :: _, _, _, [], _, _, h => absurd h (Nat.not_lt_zero _)
  | [], t, x, s' :: q1, y, m, h => by
    show rowOf t (vput t x s' (cput (tstep t s') (vstep t x s') q1 y)) m K = rowOf t x m K
    cases t with
    | slc t =>
      cases s' with
      | idx i =>
        cases m with
        | own m => exact hK _ _ _ _ (List.length_set ..)
        | _ => rfl
      | _ => rfl
    | _ => cases s' <;> rfl
  | s :: q, t, x, s' :: q1, y, m, h => by
    show rowOf (ctype (tstep t s) q) (cget (tstep t s) (vstep t (vput t x s' (cput (tstep t s') (vstep t x s') q1 y)) s) q) m K = rowOf (ctype (tstep t s) q) (cget (tstep t s) (vstep t x s) q) m K
    cases t with
    | pair a b =>
      cases s <;> cases s' <;> try rfl
      · exact rowOf_put K hK q a x.1 q1 y m h
      · exact rowOf_put K hK q b x.2 q1 y m h
    | slc t =>
      cases s with
      | idx i =>
        cases s' with
        | idx j =>
          show rowOf (ctype t q) (cget t (List.getD (List.set x j (cput t (List.getD x j (dflt t)) q1 y)) i (dflt t)) q) m K = rowOf (ctype t q) (cget t (List.getD x i (dflt t)) q) m K
          by_cases e : i = j
          · subst e
            by_cases hi : i < List.length x
            · have e1 : List.getD (List.set x i (cput t (List.getD x i (dflt t)) q1 y)) i (dflt t) = cput t (List.getD x i (dflt t)) q1 y := by
                simp [List.getD_eq_getElem?_getD, hi]
              rw [e1]
              exact rowOf_put K hK q t _ q1 y m (by simpa [lev] using h)
            · rw [List.set_eq_of_length_le (Nat.not_lt.1 hi)]
          · have e1 : List.getD (List.set x j (cput t (List.getD x j (dflt t)) q1 y)) i (dflt t) = List.getD x i (dflt t) := by
              simp [List.getD_eq_getElem?_getD, List.getElem?_set_ne (Ne.symm e)]
            rw [e1]
        | _ => rfl
      | _ => cases s' <;> rfl
    | _ => cases s <;> cases s' <;> rfl
def Near (v : Ward) (bs bs' : List (Nat × Bx)) (r : Nat) : Prop :=
  bget bs' r = bget bs r ∨ (v.S.contains (r / 16) = true ∧ ∃ (b : Bx) (q' : Path) (y : den (ctype b.t q')), bget bs r = some b ∧ bget bs' r = some { b with x := cput b.t b.x q' y } ∧ 0 < lev q' ∧ v.L ≤ lev q')
section
variable {R : Type} {v : Ward} {bs bs' : List (Nat × Bx)}
theorem elem_near {s : SV} (h : ∀ r ∈ roots s, Near v bs bs' r) (hs : shal1 v s = true) (ty : Ty) (i : Int) (K : SV → Option R) : elemS bs' ty s i K = elemS bs ty s i K := by
  cases s with
  | ref r q =>
    rcases h r (by simp [roots]) with h | ⟨h1, b, q', y, e1, e2, h2, h3⟩
    · simp only [elemS, h]
    · have hq : lev q < v.L := by
        have : v.S.contains (r / 16) = false ∨ lev q < v.L := by simpa [shal1] using hs
        rcases this with h | h
        · rw [h1] at h; cases h
        · exact h
      simp only [elemS, e1, e2]
      refine rowOf_put (fun t xs _ => if Ty.slc t = ty then (if 0 ≤ i ∧ i < (List.length xs : Int) then K (.ptr r (q ++ [.idx i.toNat])) else none) else none) (fun t xs ys m hl => ?_) q b.t b.x q' y (mget b.m q) (by omega)
      simp only [hl]
  | sub r q lo n =>
    rcases h r (by simp [roots]) with h | ⟨h1, b, q', y, e1, e2, h2, h3⟩
    · simp only [elemS, h]
    · have hq : lev q < v.L := by
        have : v.S.contains (r / 16) = false ∨ lev q < v.L := by simpa [shal1] using hs
        rcases this with h | h
        · rw [h1] at h; cases h
        · exact h
      simp only [elemS, e1, e2]
      exact rowOf_put (fun t xs _ => if Ty.slc t = ty then (if 0 ≤ i ∧ i < (n : Int) then K (.ptr r (q ++ [.idx (lo + i.toNat)])) else none) else none) (fun t xs ys m hl => rfl) q b.t b.x q' y (mget b.m q) (by omega)
  | con t x => cases t <;> rfl
  | _ => rfl
theorem fieldPtr_near {s : SV} (h : ∀ r ∈ roots s, Near v bs bs' r) (ty : Ty) (j : Nat) (K : SV → Option R) : fieldPtr bs' ty j s K = fieldPtr bs ty j s K := by
  cases s with
  | ptr r q =>
    rcases h r (by simp [roots]) with h | ⟨h1, b, q', y, e1, e2, h2, h3⟩
    · simp only [fieldPtr, h]
    · simp only [fieldPtr, e1, e2]
  | _ => rfl
theorem view_hd {r : Nat} {t : Ty} {m : Md} {x : den t} {q : Path} (h1 : isHd t = true) (h2 : isOwnM m = true) : view r t m x q = .ref r q := by
  cases t <;> simp [isHd] at h1 <;> cases m <;> simp [isOwnM] at h2 <;> rfl
theorem softC_near {o : Oper} {st st' : St} (ho : hdOp o = true) (hn : ∀ x ∈ rd o, ∀ r ∈ roots (st.ev x), Near v st.boxes st'.boxes r) (h : ∀ x ∈ rd o, st'.ev x = st.ev x) : softC1 o v st' = softC1 o v st := by
  unfold softC1
  unfold rd at h hn
  split
  · rename_i t a e
    rw [e] at h hn
    rw [h a (by simp)]
    split
    · rename_i r q e2
      rcases hn a (by simp) r (by rw [e2]; simp [roots]) with h | ⟨h1, b, q', y, e1, e2, h2, h3⟩
      · rw [h]
      · rw [e1, e2]
    · rfl
  · rename_i t x i e
    rw [e] at h
    rw [h x (by simp), h i (by simp)]
  · rename_i t x i e
    rw [e] at h
    rw [h x (by simp)]
  · rename_i x e
    rw [e] at h
    rw [h x (by simp)]
  · rename_i t a y e
    simp [hdOp, e] at ho
  · rfl
theorem val_near {c : Cx} {o : Oper} {st st' : St} (ho : hdOp o = true) (hs : softC1 o v st = true) (hn : ∀ x ∈ rd o, ∀ r ∈ roots (st.ev x), Near v st.boxes st'.boxes r) (h : ∀ x ∈ rd o, st'.ev x = st.ev x) (K : SV → Option R) : valS c st' o K = valS c st o K := by
  unfold softC1 at hs
  unfold rd at h hn
  cases e : o.op with
  | load t a =>
    rw [e] at h hn hs
    simp only [valS, e]
    rw [h a (by simp)]
    split
    · rename_i te hte
      unfold loadS
      split
      · rfl
      · rename_i r q e2
        simp only [e2] at hs
        rcases hn a (by simp) r (by rw [e2]; simp [roots]) with h | ⟨h1, b, q', y, e3, e4, h2, h3⟩
        · rw [h]
        · have : v.S.contains (r / 16) = false ∨ (lev q < v.L ∧ isHd (ctype b.t q) = true ∧ isOwnM (mget b.m q) = true) := by simpa [e3] using hs
          rcases this with h | ⟨h4, h5, h6⟩
          · rw [h1] at h; cases h
          · rw [e3, e4]
            simp only [view_hd h5 h6]
      · rfl
    · rfl
  | indexAddr t x i =>
    rw [e] at h hn hs
    simp only [Bool.and_eq_true] at hs
    simp only [valS, e]
    rw [h x (by simp), h i (by simp)]
    split
    · split
      · congr 1; funext _ n
        exact elem_near (hn x (by simp)) hs.1 _ _ _
      · unfold litAt
        split
        · split
          · exact fieldPtr_near (hn x (by simp)) _ _ _
          · rfl
        · rfl
      · rfl
    · rfl
  | fieldAddr t x f =>
    rw [e] at h hn hs
    simp only [valS, e]
    rw [h x (by simp)]
    split
    · split
      · exact fieldPtr_near (hn x (by simp)) _ _ _
      · rfl
    · rfl
  | move x =>
    rw [e] at h
    simp only [valS, e]
    rw [h x (by simp)]
  | _ => simp [hdOp, e] at ho
theorem hdOp_guard {o : Oper} (h : hdOp o = true) : o.guard = none := by
  unfold hdOp at h
  simp only [Bool.and_eq_true, Option.isNone_iff_eq_none] at h
  exact h.1
theorem hdOp_quiet {o : Oper} (h : hdOp o = true) : quiet o = true := by
  unfold hdOp at h
  simp only [Bool.and_eq_true] at h
  cases e : o.op <;> simp [e] at h <;> simp [quiet, e]
theorem stOp_guard {o : Oper} (h : stOp o = true) : o.guard = none := by
  unfold stOp at h
  simp only [Bool.and_eq_true, Option.isNone_iff_eq_none] at h
  exact h.1
theorem stOp_op {o : Oper} (h : stOp o = true) : ∃ t a y, o.op = .store t a y := by
  unfold stOp at h
  simp only [Bool.and_eq_true] at h
  cases e : o.op <;> simp [e] at h
  exact ⟨_, _, _, rfl⟩
theorem hdOp_gE {c : Cx} {ops : Array Oper} {i : Nat} {o : Oper} (ho : ops[i]? = some o) (h : hdOp o = true) (st : St) : gE c ops i st = (valS c st o some).bind fun s => some ([], s) := by
  unfold gE effO
  simp only [ho, hdOp_guard h, hdOp_quiet h, if_true]
theorem stOp_gE {c : Cx} {ops : Array Oper} {i : Nat} {o : Oper} {t : TypeId} {a y : Operand} {E : List Upd} {z : SV} {st : St} (ho : ops[i]? = some o) (h : stOp o = true) (e : o.op = .store t a y) (hg : gE c ops i st = some (E, z)) : ∃ te : TE, storeE c st te.ty (st.ev a) (st.ev y) = some (E, z) ∧ tk c o = [a, y] := by
  unfold gE effO at hg
  have hq : quiet o = false := by simp [quiet, e]
  simp only [ho, stOp_guard h, hq] at hg
  cases hE : c.E.get t with
  | none => simp [appArgs, e, hE] at hg
  | some te =>
    refine ⟨te, by simpa [appArgs, e, hE, deedE] using hg, by simp [tk, appArgs, e, hE]⟩
theorem store_soft {c : Cx} {st : St} {t : Ty} {r : Nat} {q : Path} {y z : SV} {E : List Upd} (h : storeE c st t (.ptr r q) y = some (E, z)) (hl : 0 < lev q) (hr : r ∉ roots y) :
    ∃ (b : Bx) (E1 : List Upd) (k : KF) (w : den (ctype b.t q)), bget st.boxes r = some b ∧ E = E1 ++ [(r, k, { b with x := cput b.t b.x q w })] ∧ (k = kNone ∨ k = kTurn (lev q)) ∧ ∀ p ∈ E1, p.1 ∈ roots y := by
  unfold storeE at h
  simp only at h
  have h0 : ¬ lev q = 0 := by omega
  split at h
  · rename_i b0 hb0
    split at h
    · obtain ⟨p, hp, h⟩ := Option.bind_eq_some_iff.1 h
      have hk : ∀ p' ∈ p.2.2, p'.1 ∈ roots y := fun e he => toCE_keys hp e he
      have hb : bget (st.lays p.2.2).boxes r = some b0 := by
        rw [lays_boxes _ _ _ (fun e he hh => hr (by rw [← hh]; exact hk e he))]; exact hb0
      split at h
      · rename_i b hb1
        rw [hb] at hb1
        cases hb1
        split at h
        · rename_i ht
          (try rw [if_neg h0] at h)
          split at h
          · cases h
            exact ⟨b0, p.2.2, kNone, _, hb0, rfl, .inl rfl, hk⟩
          · split at h
            · cases h
              exact ⟨b0, p.2.2, _, _, hb0, rfl, .inr rfl, hk⟩
            · cases h
        · cases h
      · cases h
    · cases h
  · cases h
theorem lays_ev_keep : ∀ (l : List Upd) (st : St) (x : Operand), (∀ p ∈ l, killF p.2.1 p.1 (st.ev x) = st.ev x) → (st.lays l).ev x = st.ev x
  | [], _, _, _ => rfl
  | (i, f, b) :: l, st, x, h => by
    have e2 : (st.upd i f b).ev x = st.ev x := by
      cases x with
      | tmp t =>
        have e2 : (st.upd i f b).ev (.tmp t) = killF f i (st.ev (.tmp t)) := sget_map _ _ _
        rw [e2]
        exact h (i, f, b) (List.mem_cons_self ..)
      | _ => rfl
    simp only [St.lays]
    rw [lays_ev_keep l (st.upd i f b) x (fun p hp => by rw [e2]; exact h p (List.mem_cons_of_mem _ hp)), e2]
theorem set_lays_keep (d : Option Tmp) (s : SV) : ∀ (l : List Upd) (st : St), (∀ p ∈ l, killF p.2.1 p.1 s = s) → (st.set d s).lays l = (st.lays l).set d s
  | [], _, _ => rfl
  | (i, f, b) :: l, st, h => by
    simp only [St.lays]
    have e : (st.set d s).upd i f b = (st.upd i f b).set d s := by
      cases d with
      | none => rfl
      | some d =>
        simp only [St.set, St.upd]
        congr 1
        exact sset_map _ _ _ _ (h (i, f, b) (List.mem_cons_self ..))
    rw [e, set_lays_keep d s l _ (fun p hp => h p (List.mem_cons_of_mem _ hp))]
theorem kill_off {f : KF} {i : Nat} {s : SV} (h : i ∉ roots s) : killF f i s = s := by
  refine forget_off fun r hr b' q => ?_
  have : ¬ r = i := fun e => h (e ▸ hr)
  simp [this]
theorem kill_shal {k : KF} {r n : Nat} {s : SV} (hS : v.S.contains (r / 16) = true) (hk : k = kNone ∨ k = kTurn n) (hn : v.L ≤ n) (hs : shal1 v s = true) : killF k r s = s := by
  by_cases hr : r ∈ roots s
  · have bad : ∀ s : SV, (roots s).all (fun r => !v.S.contains (r / 16)) = true → r ∈ roots s → False := fun s h hr => by
      have := (List.all_eq_true.1 h) r hr
      rw [hS] at this; cases this
    have go : ∀ {x : Bool}, (!v.S.contains (r / 16) || x) = true → x = true := fun {x} h => by rw [hS] at h; simpa using h
    cases s with
    | ref r' q =>
      simp only [roots, List.mem_singleton] at hr; subst hr
      have := of_decide_eq_true (go hs)
      unfold killF forget
      rw [if_neg]
      rcases hk with hk | hk <;> subst hk
      · simp [kNone]
      · simp [kTurn]; omega
    | sub r' q lo n' =>
      simp only [roots, List.mem_singleton] at hr; subst hr
      have := of_decide_eq_true (go hs)
      unfold killF forget
      rw [if_neg]
      rcases hk with hk | hk <;> subst hk
      · simp [kNone]
      · simp [kTurn]; omega
    | ptr r' q =>
      simp only [roots, List.mem_singleton] at hr; subst hr
      have := of_decide_eq_true (go hs)
      unfold killF forget
      rw [if_neg]
      rcases hk with hk | hk <;> subst hk
      · simp [kNone]
      · simp [kTurn]; omega
    | agg a b => exact (bad (.agg a b) hs hr).elim
    | tcons a b => exact (bad (.tcons a b) hs hr).elim
    | fn f c => exact (bad (.fn f c) hs hr).elim
    | _ => simp [roots] at hr
  · exact kill_off hr
theorem soft_facts {c : Cx} {ops : Array Oper} {i : Nat} {b : Oper} {va vb : Ward} {st : St} {E : List Upd} {z : SV} (hb : ops[i]? = some b) (hsb : stOp b = true)
    (h0 : vb.L ≠ 0) (hS : va.S = vb.S) (hL : va.L = vb.L) (hU : ∀ d ∈ vb.U, va.A.contains d = true ∨ va.S.contains d = true) (hc : chk c ops i vb st = true) (hg : gE c ops i st = some (E, z)) :
    (∀ s : SV, avoid va.A s = true → (∀ r ∈ roots s, Near va st.boxes (st.lays E).boxes r)) ∧ (∀ s : SV, avoid va.A s = true → shal1 va s = true → ∀ p ∈ E, killF p.2.1 p.1 s = s) := by
  obtain ⟨t, a, y, e⟩ := stOp_op hsb
  obtain ⟨te, hE, htk⟩ := stOp_gE hb hsb e hg
  obtain ⟨-, -, hu, hsf⟩ := (chk_spec hb).1 hc
  rw [htk] at hu
  unfold softC at hsf
  rw [if_neg h0] at hsf
  unfold softC1 at hsf
  simp only [e, Bool.and_eq_true] at hsf
  have hy : ∀ r ∈ roots (st.ev y), va.S.contains (r / 16) = true → False := fun r hr h => by
    have := (List.all_eq_true.1 hsf.2) r hr
    rw [hS] at h
    rw [h] at this; cases this
  have key : ∀ p ∈ E, ∀ s : SV, avoid va.A s = true → p.1 ∈ roots s → va.S.contains (p.1 / 16) = true ∧ p.1 ∈ roots (st.ev a) := fun p hp s hs hr => by
    have hk := storeE_keys hE p hp
    have hpu : p.1 / 16 ∈ vb.U := by
      rcases hk with h | h
      · exact hu a (by simp) _ h
      · exact hu y (by simp) _ h
    rcases hU _ hpu with h | h
    · exact (avoid_spec hs h rfl hr).elim
    · refine ⟨h, ?_⟩
      rcases hk with hk | hk
      · exact hk
      · exact (hy _ hk h).elim
  have adr : ∀ r, va.S.contains (r / 16) = true → r ∈ roots (st.ev a) → ∃ q, st.ev a = .ptr r q ∧ 0 < lev q ∧ va.L ≤ lev q := fun r h hr => by
    unfold storeE at hE
    split at hE
    · rename_i r' q ea
      rw [ea] at hr hsf
      simp only [roots, List.mem_singleton] at hr
      subst hr
      rw [hS] at h
      have h1 := hsf.1
      simp only [h] at h1
      have h2 : 0 < lev q ∧ vb.L ≤ lev q := by simpa using h1
      exact ⟨q, ea, h2.1, by rw [hL]; exact h2.2⟩
    · cases hE
  refine ⟨fun s hs r hr => ?_, fun s hs hsh p hp => ?_⟩
  · by_cases hx : ∃ p ∈ E, p.1 = r
    · obtain ⟨p, hp, he⟩ := hx
      subst he
      obtain ⟨h1, h2⟩ := key p hp s hs hr
      obtain ⟨q, ea, h3, h4⟩ := adr _ h1 h2
      rw [ea] at hE
      obtain ⟨b', E1, k, w, e1, e2, e3, e4⟩ := store_soft hE h3 (fun hh => hy _ hh h1)
      refine .inr ⟨h1, b', q, w, e1, ?_, h3, h4⟩
      rw [e2, lays_append]
      exact bget_bset_eq _ _ _
    · exact .inl (lays_boxes _ _ _ fun p hp he => hx ⟨p, hp, he⟩)
  · by_cases hr : p.1 ∈ roots s
    · obtain ⟨h1, h2⟩ := key p hp s hs hr
      obtain ⟨q, ea, h3, h4⟩ := adr _ h1 h2
      rw [ea] at hE
      obtain ⟨b', E1, k, w, e1, e2, e3, e4⟩ := store_soft hE h3 (fun hh => hy _ hh h1)
      rw [e2] at hp
      rcases List.mem_append.1 hp with hp | hp
      · exact (hy _ (e4 p hp) h1).elim
      · simp only [List.mem_singleton] at hp
        rw [hp] at h1 ⊢
        exact kill_shal h1 e3 h4 hsh
    · exact kill_off hr
theorem soft_ops {ops : Array Oper} {o : Oper} {st : St} (ho : hdOp o = true) (hs : softC1 o v st = true) (hS : ∀ x ∈ rd o, noU (st.ev x) = true) : ∀ x ∈ rdg ops o, shal1 v (st.ev x) = true := by
  intro x hx
  unfold rdg gdst at hx
  rw [hdOp_guard ho] at hx
  simp only [List.nil_append] at hx
  unfold softC1 at hs
  unfold rd at hx
  cases e : o.op with
  | load t a =>
    rw [e] at hx hs
    simp only [List.mem_singleton] at hx
    subst hx
    cases e2 : st.ev x with
    | ptr r q =>
      simp only [e2, Bool.or_eq_true, Bool.and_eq_true, decide_eq_true_eq] at hs
      simp only [shal1, Bool.or_eq_true, decide_eq_true_eq]
      exact hs.imp id fun h => Nat.le_of_lt h.1
    | ref r q =>
      simp only [e2, roots, List.all_cons, List.all_nil, Bool.and_true] at hs
      simp only [shal1, Bool.or_eq_true]
      exact .inl hs
    | sub r q lo n =>
      simp only [e2, roots, List.all_cons, List.all_nil, Bool.and_true] at hs
      simp only [shal1, Bool.or_eq_true]
      exact .inl hs
    | _ => simp only [e2] at hs; exact hs
  | indexAddr t a i =>
    rw [e] at hx hs
    simp only [Bool.and_eq_true] at hs
    simp only [List.mem_cons, List.not_mem_nil, or_false] at hx
    rcases hx with hx | hx <;> subst hx
    · exact hs.1
    · exact hs.2
  | fieldAddr t a f =>
    rw [e] at hx hs
    simp only [List.mem_singleton] at hx
    subst hx; exact hs
  | move a =>
    rw [e] at hx hs
    simp only [List.mem_singleton] at hx
    subst hx; exact hs
  | _ => simp [hdOp, e] at ho
end
theorem swapS1 {R : Type} {c : Cx} {ops : Array Oper} {i j : Nat} {a b : Oper} {vi vj : Ward} {st : St} {K : St → Option R} {r : R} (ha : ops[j]? = some a) (hb : ops[i]? = some b) (hap : apartG ops a b = true)
    (hsa : hdOp a = true) (hsb : stOp b = true) (h0 : vi.L ≠ 0) (hS : vj.S = vi.S) (hL : vj.L = vi.L) (hU : ∀ d ∈ vi.U, vj.A.contains d = true ∨ vj.S.contains d = true)
    (h : (gC c ops j vj st fun st => gC c ops i vi st K) = some r) : (gC c ops i vi st fun st => gC c ops j vj st K) = some r := by
  obtain ⟨p1, p2, p3⟩ := apartG_spec hap
  have h0' : vj.L ≠ 0 := by rw [hL]; exact h0
  have sE : ∀ st : St, softC a vj st = softC1 a vj st := fun st => if_neg h0'
  have hE : ∀ s : SV, shal vj s = shal1 vj s := fun s => if_neg h0'
  have rE : rdOp vj a = true := by unfold rdOp; rw [if_neg h0']; exact hsa
  unfold gC at h
  split at h
  case isFalse => cases h
  rename_i c1
  have c1' := (chk_spec ha).1 c1
  have e1 := g_eff (R := R) ha c1'.1 (K := fun st => if outOk ops j vj st = true then (if chk c ops i vi st = true then opsS c ops [i] st fun st => if outOk ops i vi st = true then K st else none else none) else none)
  unfold gS at e1
  rw [e1] at h
  obtain ⟨⟨Ej, sj⟩, gj, h⟩ := Option.bind_eq_some_iff.1 h
  have gj0 := gj
  rw [hdOp_gE ha hsa] at gj0
  obtain ⟨sj', hj', e0⟩ := Option.bind_eq_some_iff.1 gj0
  cases e0
  clear gj0
  simp only at h
  split at h
  case isFalse => cases h
  rename_i oj
  replace oj : outOk ops j vj (st.set a.dst sj) = true := oj
  split at h
  case isFalse => cases h
  rename_i c2
  replace c2 : chk c ops i vi (st.set a.dst sj) = true := c2
  replace h : (opsS c ops [i] (st.set a.dst sj) fun st => if outOk ops i vi st = true then K st else none) = some r := h
  have c2' := (chk_spec hb).1 c2
  have e2 := g_eff (R := R) hb c2'.1 (K := fun st => if outOk ops i vi st = true then K st else none)
  unfold gS at e2
  rw [e2] at h
  obtain ⟨⟨Ei, si⟩, gi, h⟩ := Option.bind_eq_some_iff.1 h
  simp only at h
  split at h
  case isFalse => cases h
  rename_i oi
  have s1 : ∀ x ∈ rdg ops b, (st.set a.dst sj).ev x = st.ev x := fun x hx => ev_set_dst (p1 x hx)
  have b1 : ∀ x ∈ rdg ops b, ∀ q ∈ roots (st.ev x), bget (st.set a.dst sj).boxes q = bget st.boxes q := fun x hx q hq => by rw [boxes_set]
  have q2 : (quiet b || born c st b) = true := by
    have := c2'.1
    rw [born_local (fun x hx => s1 x (rdg_rd hx))] at this
    exact this
  have gi' : gE c ops i st = some (Ei, si) := by rw [← g_local hb q2 s1 b1]; exact gi
  have c3 : chk c ops i vi st = true := by
    refine (chk_spec hb).2 ⟨q2, fun x hx => by rw [← s1 x hx]; exact c2'.2.1 x hx, fun x hx r hr => ?_, ?_⟩
    · rw [← s1 x (rdg_rd (tk_rd hx))] at hr
      exact c2'.2.2.1 x hx r hr
    · rw [← softC_local (fun x hx => s1 x (rdg_rd hx)) (fun x hx => b1 x (rdg_rd hx))]; exact c2'.2.2.2
  obtain ⟨n1, n2⟩ := soft_facts (va := vj) hb hsb h0 hS hL hU c3 gi'
  have sh := soft_ops (v := vj) (ops := ops) hsa (sE st ▸ c1'.2.2.2) (fun x hx => (c1'.2.1 x (rdg_rd hx)).1)
  have s2 : ∀ x ∈ rdg ops a, ((st.lays Ei).set b.dst si).ev x = st.ev x := fun x hx => by
    rw [ev_set_dst (p2 x hx)]
    exact lays_ev_keep _ _ _ (n2 _ (c1'.2.1 x hx).2 (sh x hx))
  have b2 : ∀ x ∈ rd a, ∀ q ∈ roots (st.ev x), Near vj st.boxes ((st.lays Ei).set b.dst si).boxes q := fun x hx q hq => by
    rw [boxes_set]
    exact n1 _ (c1'.2.1 x (rdg_rd hx)).2 q hq
  have q1 : (quiet a || born c ((st.lays Ei).set b.dst si) a) = true := by rw [hdOp_quiet hsa]; rfl
  have gj' : gE c ops j ((st.lays Ei).set b.dst si) = some ([], sj) := by
    rw [hdOp_gE ha hsa, val_near hsa (sE st ▸ c1'.2.2.2) b2 (fun x hx => s2 x (rdg_rd hx)), hj']; rfl
  replace oj := (out_spec ha).1 oj
  replace oi := (out_spec hb).1 oi
  obtain ⟨tj, aj, fj⟩ := outset (st := st) (d := a.dst) (s := sj) (P := OutP a vj) (.undef _ _) (by
    unfold dstS at oj
    simp only [ha] at oj
    cases hd : a.dst with
    | none => exact .undef _ _
    | some d => rw [hd] at oj; exact oj)
  obtain ⟨ti, ai, fi⟩ := outset (st := (st.set a.dst sj).lays Ei) (d := b.dst) (s := si) (P := OutP b vi) (.undef _ _) (by
    unfold dstS at oi
    simp only [hb] at oi
    cases hd : b.dst with
    | none => exact .undef _ _
    | some d => rw [hd] at oi; exact oi)
  have li : ∀ st' : St, st'.slots.length = st.slots.length → st'.set b.dst si = st'.set b.dst ti := fun st' h => fi st' (by rw [lays_len, set_len]; exact h)
  have fin : ((st.lays Ei).set b.dst si).set a.dst sj = ((st.set a.dst sj).lays Ei).set b.dst si := by
    rw [fj st rfl, set_lays_keep _ _ _ _ (n2 tj aj.1 (hE tj ▸ aj.2 rE)), fj _ (by rw [set_len, lays_len])]
    exact set_comm _ _ _ (fun x hx => by intro hy; exact p3 x hy hx)
  unfold gC
  rw [if_pos c3]
  have e3 := g_eff (R := R) (st := st) hb q2 (K := fun st => if outOk ops i vi st = true then (if chk c ops j vj st = true then opsS c ops [j] st fun st => if outOk ops j vj st = true then K st else none else none) else none)
  unfold gS at e3
  rw [e3, gi']
  simp only [Option.bind]
  have v3 : outOk ops i vi ((st.lays Ei).set b.dst si) = true := by
    rw [li _ (lays_len _ _)]
    exact (out_spec hb).2 (dstS_set hb _ (.undef _ _) ai)
  rw [if_pos v3]
  have c4 : chk c ops j vj ((st.lays Ei).set b.dst si) = true := by
    refine (chk_spec ha).2 ⟨q1, fun x hx => by rw [s2 x hx]; exact c1'.2.1 x hx, fun x hx r hr => ?_, ?_⟩
    · rw [s2 x (rdg_rd (tk_rd hx))] at hr
      exact c1'.2.2.1 x hx r hr
    · rw [sE, softC_near hsa b2 (fun x hx => s2 x (rdg_rd hx)), ← sE]; exact c1'.2.2.2
  rw [if_pos c4]
  have e4 := g_eff (R := R) (st := (st.lays Ei).set b.dst si) ha q1 (K := fun st => if outOk ops j vj st = true then K st else none)
  unfold gS at e4
  rw [e4, gj']
  simp only [Option.bind]
  rw [show (((st.lays Ei).set b.dst si).lays []).set a.dst sj = ((st.lays Ei).set b.dst si).set a.dst sj from rfl]
  have v4 : outOk ops j vj (((st.lays Ei).set b.dst si).set a.dst sj) = true := by
    rw [fj _ (by rw [set_len, lays_len])]
    exact (out_spec ha).2 (dstS_set ha _ (.undef _ _) aj)
  rw [if_pos v4, fin]
  exact h
theorem swapS2 {R : Type} {c : Cx} {ops : Array Oper} {i j : Nat} {a b : Oper} {vi vj : Ward} {st : St} {K : St → Option R} {r : R} (ha : ops[j]? = some a) (hb : ops[i]? = some b) (hap : apartG ops b a = true)
    (hsa : hdOp a = true) (hsb : stOp b = true) (h0 : vi.L ≠ 0) (hS : vj.S = vi.S) (hL : vj.L = vi.L) (hU : ∀ d ∈ vi.U, vj.A.contains d = true ∨ vj.S.contains d = true)
    (h : (gC c ops i vi st fun st => gC c ops j vj st K) = some r) : (gC c ops j vj st fun st => gC c ops i vi st K) = some r := by
  obtain ⟨p2, p1, p3⟩ := apartG_spec hap
  have h0' : vj.L ≠ 0 := by rw [hL]; exact h0
  have sE : ∀ st : St, softC a vj st = softC1 a vj st := fun st => if_neg h0'
  have hE : ∀ s : SV, shal vj s = shal1 vj s := fun s => if_neg h0'
  have rE : rdOp vj a = true := by unfold rdOp; rw [if_neg h0']; exact hsa
  unfold gC at h
  split at h
  case isFalse => cases h
  rename_i c1
  have c1' := (chk_spec hb).1 c1
  have e1 := g_eff (R := R) hb c1'.1 (K := fun st => if outOk ops i vi st = true then (if chk c ops j vj st = true then opsS c ops [j] st fun st => if outOk ops j vj st = true then K st else none else none) else none)
  unfold gS at e1
  rw [e1] at h
  obtain ⟨⟨Ei, si⟩, gi, h⟩ := Option.bind_eq_some_iff.1 h
  simp only at h
  split at h
  case isFalse => cases h
  rename_i oi
  split at h
  case isFalse => cases h
  rename_i c2
  have c2' := (chk_spec ha).1 c2
  have e2 := g_eff (R := R) ha c2'.1 (K := fun st => if outOk ops j vj st = true then K st else none)
  unfold gS at e2
  rw [e2] at h
  obtain ⟨⟨Ej, sj⟩, gj, h⟩ := Option.bind_eq_some_iff.1 h
  have gj0 := gj
  rw [hdOp_gE ha hsa] at gj0
  obtain ⟨sj', hj', e0⟩ := Option.bind_eq_some_iff.1 gj0
  cases e0
  clear gj0
  simp only at h
  split at h
  case isFalse => cases h
  rename_i oj
  replace oj : outOk ops j vj (((st.lays Ei).set b.dst si).set a.dst sj) = true := oj
  replace h : K (((st.lays Ei).set b.dst si).set a.dst sj) = some r := h
  have s1 : ∀ x ∈ rdg ops a, ((st.lays Ei).set b.dst si).ev x = st.ev x := fun x hx => by
    have hU := (c2'.2.1 x hx).1
    rw [ev_set_dst (p2 x hx)] at hU ⊢
    exact lays_ev_U _ _ _ hU
  obtain ⟨n1, n2⟩ := soft_facts (va := vj) hb hsb h0 hS hL hU c1 gi
  have av : ∀ x ∈ rdg ops a, avoid vj.A (st.ev x) = true := fun x hx => by rw [← s1 x hx]; exact (c2'.2.1 x hx).2
  have b1 : ∀ x ∈ rd a, ∀ q ∈ roots (st.ev x), Near vj st.boxes ((st.lays Ei).set b.dst si).boxes q := fun x hx q hq => by
    rw [boxes_set]
    exact n1 _ (av x (rdg_rd hx)) q hq
  have sf : softC1 a vj st = true := by rw [← softC_near hsa b1 (fun x hx => s1 x (rdg_rd hx)), ← sE]; exact c2'.2.2.2
  have gj' : gE c ops j st = some ([], sj) := by
    rw [hdOp_gE ha hsa, ← val_near hsa sf b1 (fun x hx => s1 x (rdg_rd hx)), hj']; rfl
  have q1 : (quiet a || born c st a) = true := by rw [hdOp_quiet hsa]; rfl
  have c3 : chk c ops j vj st = true := by
    refine (chk_spec ha).2 ⟨q1, fun x hx => by rw [← s1 x hx]; exact c2'.2.1 x hx, fun x hx r hr => ?_, (sE st).trans sf⟩
    rw [← s1 x (rdg_rd (tk_rd hx))] at hr
    exact c2'.2.2.1 x hx r hr
  have s2 : ∀ x ∈ rdg ops b, (st.set a.dst sj).ev x = st.ev x := fun x hx => ev_set_dst (p1 x hx)
  have b2 : ∀ x ∈ rdg ops b, ∀ q ∈ roots (st.ev x), bget (st.set a.dst sj).boxes q = bget st.boxes q := fun x hx q hq => by rw [boxes_set]
  have q2 : (quiet b || born c (st.set a.dst sj) b) = true := by
    rw [born_local (fun x hx => s2 x (rdg_rd hx))]; exact c1'.1
  have gi' : gE c ops i (st.set a.dst sj) = some (Ei, si) := by rw [g_local hb c1'.1 s2 b2]; exact gi
  replace oj := (out_spec ha).1 oj
  replace oi := (out_spec hb).1 oi
  obtain ⟨tj, aj, fj⟩ := outset (st := (st.lays Ei).set b.dst si) (d := a.dst) (s := sj) (P := OutP a vj) (.undef _ _) (by
    unfold dstS at oj
    simp only [ha] at oj
    cases hd : a.dst with
    | none => exact .undef _ _
    | some d => rw [hd] at oj; exact oj)
  obtain ⟨ti, ai, fi⟩ := outset (st := st.lays Ei) (d := b.dst) (s := si) (P := OutP b vi) (.undef _ _) (by
    unfold dstS at oi
    simp only [hb] at oi
    cases hd : b.dst with
    | none => exact .undef _ _
    | some d => rw [hd] at oi; exact oi)
  have li : ∀ st' : St, st'.slots.length = st.slots.length → st'.set b.dst si = st'.set b.dst ti := fun st' h => fi st' (by rw [lays_len]; exact h)
  have lj : ∀ st' : St, st'.slots.length = st.slots.length → st'.set a.dst sj = st'.set a.dst tj := fun st' h => fj st' (by rw [set_len, lays_len]; exact h)
  have fin : ((st.set a.dst sj).lays Ei).set b.dst si = ((st.lays Ei).set b.dst si).set a.dst sj := by
    rw [lj st rfl, set_lays_keep _ _ _ _ (n2 tj aj.1 (hE tj ▸ aj.2 rE)), lj _ (by rw [set_len, lays_len])]
    exact set_comm _ _ _ (fun x hx => by intro hy; exact p3 x hy hx)
  unfold gC
  rw [if_pos c3]
  have e3 := g_eff (R := R) (st := st) ha q1 (K := fun st => if outOk ops j vj st = true then (if chk c ops i vi st = true then opsS c ops [i] st fun st => if outOk ops i vi st = true then K st else none else none) else none)
  unfold gS at e3
  rw [e3, gj']
  simp only [Option.bind]
  rw [show (st.lays []).set a.dst sj = st.set a.dst sj from rfl]
  have v3 : outOk ops j vj (st.set a.dst sj) = true := by
    rw [lj _ rfl]
    exact (out_spec ha).2 (dstS_set ha _ (.undef _ _) aj)
  rw [if_pos v3]
  have c4 : chk c ops i vi (st.set a.dst sj) = true := by
    refine (chk_spec hb).2 ⟨q2, fun x hx => by rw [s2 x hx]; exact c1'.2.1 x hx, fun x hx r hr => ?_, ?_⟩
    · rw [s2 x (rdg_rd (tk_rd hx))] at hr
      exact c1'.2.2.1 x hx r hr
    · rw [softC_local (fun x hx => s2 x (rdg_rd hx)) (fun x hx => b2 x (rdg_rd hx))]; exact c1'.2.2.2
  rw [if_pos c4]
  have e4 := g_eff (R := R) (st := st.set a.dst sj) hb q2 (K := fun st => if outOk ops i vi st = true then K st else none)
  unfold gS at e4
  rw [e4, gi']
  simp only [Option.bind]
  have v4 : outOk ops i vi (((st.set a.dst sj).lays Ei).set b.dst si) = true := by
    rw [li _ (by rw [lays_len, set_len])]
    exact (out_spec hb).2 (dstS_set hb _ (.undef _ _) ai)
  rw [if_pos v4, fin]
  exact h
theorem shal0_kill {S : List Nat} {r : Nat} (hS : S.contains (r / 16) = true) : ∀ {s : SV}, shal0 S s = true → killF kDeep r s = s
  | .agg a b, h => by
    simp only [shal0, Bool.and_eq_true] at h
    have e1 := shal0_kill hS h.1
    have e2 := shal0_kill hS h.2
    unfold killF at e1 e2 ⊢
    simp only [forget]
    rw [e1, e2]
  | .tcons a b, h => by
    simp only [shal0, Bool.and_eq_true] at h
    have e1 := shal0_kill hS h.1
    have e2 := shal0_kill hS h.2
    unfold killF at e1 e2 ⊢
    simp only [forget]
    rw [e1, e2]
  | .fn f c, h => by
    simp only [shal0] at h
    have e1 := shal0_kill hS h
    unfold killF at e1 ⊢
    simp only [forget]
    rw [e1]
  | .ref r' q, h => by
    simp only [shal0, Bool.or_eq_true, Bool.not_eq_true', decide_eq_true_eq] at h
    unfold killF forget
    rw [if_neg]
    intro hk
    simp only [Bool.and_eq_true, decide_eq_true_eq, kDeep, Bool.not_eq_true', decide_eq_false_iff_not] at hk
    rcases h with h | h
    · rw [hk.1, hS] at h; cases h
    · exact hk.2 h
  | .sub r' q lo n, h => by
    simp only [shal0, Bool.or_eq_true, Bool.not_eq_true', decide_eq_true_eq] at h
    unfold killF forget
    rw [if_neg]
    intro hk
    simp only [Bool.and_eq_true, decide_eq_true_eq, kDeep, Bool.not_eq_true', decide_eq_false_iff_not] at hk
    rcases h with h | h
    · rw [hk.1, hS] at h; cases h
    · exact hk.2 h
  | .ptr r' q, h => by
    simp only [shal0, Bool.or_eq_true, Bool.not_eq_true', decide_eq_true_eq] at h
    unfold killF forget
    rw [if_neg]
    intro hk
    simp only [Bool.and_eq_true, decide_eq_true_eq, kDeep, Bool.not_eq_true', decide_eq_false_iff_not] at hk
    rcases h with h | h
    · rw [hk.1, hS] at h; cases h
    · exact hk.2 h
  | .undef, _ => rfl
  | .con _ _, _ => rfl
  | .raw _, _ => rfl
  | .emp, _ => rfl
  | .tnil, _ => rfl
  | .pro _ _, _ => rfl
  | .nul _ _, _ => rfl
theorem callOp_op {o : Oper} (h : callOp o = true) : o.guard = none ∧ ∃ cl f, o.op = .call cl ∧ cl.callee = .value f := by
  unfold callOp at h
  simp only [Bool.and_eq_true, Option.isNone_iff_eq_none] at h
  refine ⟨h.1, ?_⟩
  cases e : o.op <;> simp [e] at h
  rename_i cl
  cases e2 : cl.callee <;> simp [e2] at h
  exact ⟨_, _, rfl, e2⟩
theorem callOp_quiet {o : Oper} (h : callOp o = true) : quiet o = false ∧ loud o = true := by
  obtain ⟨_, cl, f, h1, h2⟩ := callOp_op h
  simp [quiet, loud, h1, h2]
theorem lent_facts {c : Cx} {ops : Array Oper} {i : Nat} {b : Oper} {va vb : Ward} {st : St} {E : List Upd} {z : SV} (hb : ops[i]? = some b) (hcb : callOp b = true)
    (hd : ∀ d, b.dst = some d → va.A.contains d = true) (hU : ∀ d ∈ vb.U, va.A.contains d = true ∨ va.S.contains d = true) (hc : chk c ops i vb st = true) (hg : gE c ops i st = some (E, z)) :
    (∀ s : SV, avoid va.A s = true → ∀ r ∈ roots s, bget (st.lays E).boxes r = bget st.boxes r) ∧ (∀ s : SV, avoid va.A s = true → shal0 va.S s = true → ∀ p ∈ E, killF p.2.1 p.1 s = s) := by
  obtain ⟨hbn, -, hu, -⟩ := (chk_spec hb).1 hc
  obtain ⟨hq, hl⟩ := callOp_quiet hcb
  have hbo : born c st b = true := by simpa [hq] using hbn
  obtain ⟨hgd, cl, f, ho, hf⟩ := callOp_op hcb
  have key := g_keys hb hbn hg
  unfold gE effO at hg
  simp only [hb, hgd, hq, Bool.false_eq_true, if_false] at hg
  have ha : appArgs c b = none := by simp [appArgs, ho, hf]
  rw [ha] at hg
  simp only [ho, hf] at hg
  unfold born at hbo
  rw [ha, Option.isSome_none, Bool.false_or] at hbo
  simp only [ho, hf, Bool.and_eq_true] at hbo
  have plain : (∀ p ∈ E, b.dst = some (p.1 / 16)) → (∀ s : SV, avoid va.A s = true → ∀ r ∈ roots s, bget (st.lays E).boxes r = bget st.boxes r) ∧ (∀ s : SV, avoid va.A s = true → shal0 va.S s = true → ∀ p ∈ E, killF p.2.1 p.1 s = s) := fun hk => by
    refine ⟨fun s hs r hr => lays_boxes _ _ _ fun p hp e => ?_, fun s hs _ p hp => kill_off fun hr => ?_⟩
    · exact avoid_spec hs (hd _ (hk p hp)) (by rw [e]) hr
    · exact avoid_spec hs (hd _ (hk p hp)) rfl hr
  cases hv : st.ev f with
  | fn g caps =>
    rw [hv] at hg hbo
    simp only at hg hbo
    split at hg
    · cases ht : Tab.find c.T g (cl.args.toList.map st.ev ++ untup caps) with
      | none => rw [ht] at hg; cases hg
      | some sm =>
        rw [ht] at hg hbo
        simp only at hg hbo
        by_cases hpt : sm.part = true
        · rw [if_pos hpt] at hg hbo
          simp only [Bool.and_eq_true, Bool.not_eq_true', List.isEmpty_eq_false_iff] at hbo
          obtain ⟨x, l, hxl⟩ := List.exists_cons_of_ne_nil hbo.2.2
          rw [hxl] at hg
          simp only [List.map_cons, List.cons_append] at hg
          obtain ⟨h1, h2, h3⟩ := lentE_same hbo.2.1.1 hg
          have htk : tk c b = [x] := by
            simp only [tk, ho, hf, ha, hbo.2.1.2, if_true, hxl, List.take_succ_cons, List.take_zero]
          refine ⟨fun s hs r hr => h1 r, fun s hs hsh p hp => ?_⟩
          obtain ⟨k1, k2⟩ := h2 p hp
          rcases hU _ (hu x (by rw [htk]; simp) _ k1) with h | h
          · exact kill_off fun hr => avoid_spec hs h rfl hr
          · rw [k2]; exact shal0_kill h hsh
        · have hpt' : sm.part = false := by simpa using hpt
          rw [if_neg hpt] at hg hbo
          simp only [Bool.and_eq_true, decide_eq_true_eq] at hbo
          refine plain fun p hp => ?_
          rcases (key p hp).2 with h | ⟨x, hx, hr⟩
          · exact h
          · obtain ⟨q, _, hg⟩ := Option.bind_eq_some_iff.1 hg
            split at hg
            · obtain ⟨r, _, hg⟩ := Option.bind_eq_some_iff.1 hg
              cases hg
              obtain ⟨d, hd2⟩ : ∃ d : Nat, b.dst = some d := Option.isSome_iff_exists.1 hbo.1
              have hk := gotsE_keys (b.dst.getD 0 * 16) (rs := sm.rs) (x := r.1) (k := 0)
              have := hk.2.2 p hp
              rw [hd2] at this hk ⊢
              simp only [Option.getD_some] at this hk
              have h16 := hk.1
              have h17 : cntR sm.rs ≤ 16 := hbo.2.2
              have h1 : d * 16 ≤ p.1 := by omega
              have h2 : p.1 < d * 16 + 16 := by omega
              rw [show p.1 = (p.1 - d * 16) + 16 * d from by rw [Nat.mul_comm 16 d]; exact (Nat.sub_add_cancel h1).symm, Nat.add_mul_div_left _ _ (by decide)]
              rw [Nat.div_eq_of_lt (by omega), Nat.zero_add]
            · cases hg
    · cases hg
  | _ => rw [hv] at hbo; simp at hbo
theorem swapL1 {R : Type} {c : Cx} {ops : Array Oper} {i j : Nat} {a b : Oper} {vi vj : Ward} {st : St} {K : St → Option R} {r : R} (ha : ops[j]? = some a) (hb : ops[i]? = some b) (hap : apartG ops a b = true)
    (hga : a.guard = none) (hqa : quiet a = true) (hcb : callOp b = true) (h0 : vj.L = 0) (hd : ∀ d, b.dst = some d → vj.A.contains d = true) (hU : ∀ d ∈ vi.U, vj.A.contains d = true ∨ vj.S.contains d = true)
    (h : (gC c ops j vj st fun st => gC c ops i vi st K) = some r) : (gC c ops i vi st fun st => gC c ops j vj st K) = some r := by
  obtain ⟨p1, p2, p3⟩ := apartG_spec hap
  have hca : callOp a = false := by
    cases e : callOp a with
    | false => rfl
    | true => rw [(callOp_quiet e).1] at hqa; cases hqa
  have sE : ∀ st : St, softC a vj st = (rd a).all fun x => shal0 vj.S (st.ev x) := fun st => by unfold softC; rw [if_pos h0, hca]; rfl
  have hE : ∀ s : SV, shal vj s = shal0 vj.S s := fun s => if_pos h0
  have rE : rdOp vj a = true := by unfold rdOp; rw [if_pos h0, hga, hqa]; rfl
  have rg : ∀ x ∈ rdg ops a, x ∈ rd a := fun x hx => by unfold rdg gdst at hx; rw [hga] at hx; simpa using hx
  unfold gC at h
  split at h
  case isFalse => cases h
  rename_i c1
  have c1' := (chk_spec ha).1 c1
  have e1 := g_eff (R := R) ha c1'.1 (K := fun st => if outOk ops j vj st = true then (if chk c ops i vi st = true then opsS c ops [i] st fun st => if outOk ops i vi st = true then K st else none else none) else none)
  unfold gS at e1
  rw [e1] at h
  obtain ⟨⟨Ej, sj⟩, gj, h⟩ := Option.bind_eq_some_iff.1 h
  have gj0 := gj
  unfold gE effO at gj0
  simp only [ha, hga, hqa, if_true] at gj0
  obtain ⟨sj', hj', e0⟩ := Option.bind_eq_some_iff.1 gj0
  cases e0
  clear gj0
  simp only at h
  split at h
  case isFalse => cases h
  rename_i oj
  replace oj : outOk ops j vj (st.set a.dst sj) = true := oj
  split at h
  case isFalse => cases h
  rename_i c2
  replace c2 : chk c ops i vi (st.set a.dst sj) = true := c2
  replace h : (opsS c ops [i] (st.set a.dst sj) fun st => if outOk ops i vi st = true then K st else none) = some r := h
  have c2' := (chk_spec hb).1 c2
  have e2 := g_eff (R := R) hb c2'.1 (K := fun st => if outOk ops i vi st = true then K st else none)
  unfold gS at e2
  rw [e2] at h
  obtain ⟨⟨Ei, si⟩, gi, h⟩ := Option.bind_eq_some_iff.1 h
  simp only at h
  split at h
  case isFalse => cases h
  rename_i oi
  have s1 : ∀ x ∈ rdg ops b, (st.set a.dst sj).ev x = st.ev x := fun x hx => ev_set_dst (p1 x hx)
  have b1 : ∀ x ∈ rdg ops b, ∀ q ∈ roots (st.ev x), bget (st.set a.dst sj).boxes q = bget st.boxes q := fun x hx q hq => by rw [boxes_set]
  have q2 : (quiet b || born c st b) = true := by
    have := c2'.1
    rw [born_local (fun x hx => s1 x (rdg_rd hx))] at this
    exact this
  have gi' : gE c ops i st = some (Ei, si) := by rw [← g_local hb q2 s1 b1]; exact gi
  have c3 : chk c ops i vi st = true := by
    refine (chk_spec hb).2 ⟨q2, fun x hx => by rw [← s1 x hx]; exact c2'.2.1 x hx, fun x hx r hr => ?_, ?_⟩
    · rw [← s1 x (rdg_rd (tk_rd hx))] at hr
      exact c2'.2.2.1 x hx r hr
    · rw [← softC_local (fun x hx => s1 x (rdg_rd hx)) (fun x hx => b1 x (rdg_rd hx))]; exact c2'.2.2.2
  obtain ⟨n1, n2⟩ := lent_facts (va := vj) hb hcb hd hU c3 gi'
  have sh : ∀ x ∈ rdg ops a, shal0 vj.S (st.ev x) = true := fun x hx => by
    have := c1'.2.2.2
    rw [sE] at this
    exact (List.all_eq_true.1 this) x (rg x hx)
  have s2 : ∀ x ∈ rdg ops a, ((st.lays Ei).set b.dst si).ev x = st.ev x := fun x hx => by
    rw [ev_set_dst (p2 x hx)]
    exact lays_ev_keep _ _ _ (n2 _ (c1'.2.1 x hx).2 (sh x hx))
  have b2 : ∀ x ∈ rdg ops a, ∀ q ∈ roots (st.ev x), bget ((st.lays Ei).set b.dst si).boxes q = bget st.boxes q := fun x hx q hq => by
    rw [boxes_set]
    exact n1 _ (c1'.2.1 x hx).2 q hq
  have q1 : (quiet a || born c ((st.lays Ei).set b.dst si) a) = true := by rw [hqa]; rfl
  have gj' : gE c ops j ((st.lays Ei).set b.dst si) = some ([], sj) := by
    rw [g_local ha c1'.1 s2 b2]; exact gj
  replace oj := (out_spec ha).1 oj
  replace oi := (out_spec hb).1 oi
  obtain ⟨tj, aj, fj⟩ := outset (st := st) (d := a.dst) (s := sj) (P := OutP a vj) (.undef _ _) (by
    unfold dstS at oj
    simp only [ha] at oj
    cases hd : a.dst with
    | none => exact .undef _ _
    | some d => rw [hd] at oj; exact oj)
  obtain ⟨ti, ai, fi⟩ := outset (st := (st.set a.dst sj).lays Ei) (d := b.dst) (s := si) (P := OutP b vi) (.undef _ _) (by
    unfold dstS at oi
    simp only [hb] at oi
    cases hd : b.dst with
    | none => exact .undef _ _
    | some d => rw [hd] at oi; exact oi)
  have li : ∀ st' : St, st'.slots.length = st.slots.length → st'.set b.dst si = st'.set b.dst ti := fun st' h => fi st' (by rw [lays_len, set_len]; exact h)
  have fin : ((st.lays Ei).set b.dst si).set a.dst sj = ((st.set a.dst sj).lays Ei).set b.dst si := by
    rw [fj st rfl, set_lays_keep _ _ _ _ (n2 tj aj.1 (hE tj ▸ aj.2 rE)), fj _ (by rw [set_len, lays_len])]
    exact set_comm _ _ _ (fun x hx => by intro hy; exact p3 x hy hx)
  unfold gC
  rw [if_pos c3]
  have e3 := g_eff (R := R) (st := st) hb q2 (K := fun st => if outOk ops i vi st = true then (if chk c ops j vj st = true then opsS c ops [j] st fun st => if outOk ops j vj st = true then K st else none else none) else none)
  unfold gS at e3
  rw [e3, gi']
  simp only [Option.bind]
  have v3 : outOk ops i vi ((st.lays Ei).set b.dst si) = true := by
    rw [li _ (lays_len _ _)]
    exact (out_spec hb).2 (dstS_set hb _ (.undef _ _) ai)
  rw [if_pos v3]
  have c4 : chk c ops j vj ((st.lays Ei).set b.dst si) = true := by
    refine (chk_spec ha).2 ⟨q1, fun x hx => by rw [s2 x hx]; exact c1'.2.1 x hx, fun x hx r hr => ?_, ?_⟩
    · rw [s2 x (rdg_rd (tk_rd hx))] at hr
      exact c1'.2.2.1 x hx r hr
    · rw [softC_local (fun x hx => s2 x (rdg_rd hx)) (fun x hx => b2 x (rdg_rd hx))]; exact c1'.2.2.2
  rw [if_pos c4]
  have e4 := g_eff (R := R) (st := (st.lays Ei).set b.dst si) ha q1 (K := fun st => if outOk ops j vj st = true then K st else none)
  unfold gS at e4
  rw [e4, gj']
  simp only [Option.bind]
  rw [show (((st.lays Ei).set b.dst si).lays []).set a.dst sj = ((st.lays Ei).set b.dst si).set a.dst sj from rfl]
  have v4 : outOk ops j vj (((st.lays Ei).set b.dst si).set a.dst sj) = true := by
    rw [fj _ (by rw [set_len, lays_len])]
    exact (out_spec ha).2 (dstS_set ha _ (.undef _ _) aj)
  rw [if_pos v4, fin]
  exact h
theorem swapL2 {R : Type} {c : Cx} {ops : Array Oper} {i j : Nat} {a b : Oper} {vi vj : Ward} {st : St} {K : St → Option R} {r : R} (ha : ops[j]? = some a) (hb : ops[i]? = some b) (hap : apartG ops b a = true)
    (hga : a.guard = none) (hqa : quiet a = true) (hcb : callOp b = true) (h0 : vj.L = 0) (hd : ∀ d, b.dst = some d → vj.A.contains d = true) (hU : ∀ d ∈ vi.U, vj.A.contains d = true ∨ vj.S.contains d = true)
    (h : (gC c ops i vi st fun st => gC c ops j vj st K) = some r) : (gC c ops j vj st fun st => gC c ops i vi st K) = some r := by
  obtain ⟨p2, p1, p3⟩ := apartG_spec hap
  have hca : callOp a = false := by
    cases e : callOp a with
    | false => rfl
    | true => rw [(callOp_quiet e).1] at hqa; cases hqa
  have sE : ∀ st : St, softC a vj st = (rd a).all fun x => shal0 vj.S (st.ev x) := fun st => by unfold softC; rw [if_pos h0, hca]; rfl
  have hE : ∀ s : SV, shal vj s = shal0 vj.S s := fun s => if_pos h0
  have rE : rdOp vj a = true := by unfold rdOp; rw [if_pos h0, hga, hqa]; rfl
  unfold gC at h
  split at h
  case isFalse => cases h
  rename_i c1
  have c1' := (chk_spec hb).1 c1
  have e1 := g_eff (R := R) hb c1'.1 (K := fun st => if outOk ops i vi st = true then (if chk c ops j vj st = true then opsS c ops [j] st fun st => if outOk ops j vj st = true then K st else none else none) else none)
  unfold gS at e1
  rw [e1] at h
  obtain ⟨⟨Ei, si⟩, gi, h⟩ := Option.bind_eq_some_iff.1 h
  simp only at h
  split at h
  case isFalse => cases h
  rename_i oi
  split at h
  case isFalse => cases h
  rename_i c2
  have c2' := (chk_spec ha).1 c2
  have e2 := g_eff (R := R) ha c2'.1 (K := fun st => if outOk ops j vj st = true then K st else none)
  unfold gS at e2
  rw [e2] at h
  obtain ⟨⟨Ej, sj⟩, gj, h⟩ := Option.bind_eq_some_iff.1 h
  have gj0 := gj
  unfold gE effO at gj0
  simp only [ha, hga, hqa, if_true] at gj0
  obtain ⟨sj', hj', e0⟩ := Option.bind_eq_some_iff.1 gj0
  cases e0
  clear gj0
  simp only at h
  split at h
  case isFalse => cases h
  rename_i oj
  replace oj : outOk ops j vj (((st.lays Ei).set b.dst si).set a.dst sj) = true := oj
  replace h : K (((st.lays Ei).set b.dst si).set a.dst sj) = some r := h
  have s1 : ∀ x ∈ rdg ops a, ((st.lays Ei).set b.dst si).ev x = st.ev x := fun x hx => by
    have hU := (c2'.2.1 x hx).1
    rw [ev_set_dst (p2 x hx)] at hU ⊢
    exact lays_ev_U _ _ _ hU
  obtain ⟨n1, n2⟩ := lent_facts (va := vj) hb hcb hd hU c1 gi
  have av : ∀ x ∈ rdg ops a, avoid vj.A (st.ev x) = true := fun x hx => by rw [← s1 x hx]; exact (c2'.2.1 x hx).2
  have b1 : ∀ x ∈ rdg ops a, ∀ q ∈ roots (st.ev x), bget ((st.lays Ei).set b.dst si).boxes q = bget st.boxes q := fun x hx q hq => by
    rw [boxes_set]
    exact n1 _ (av x hx) q hq
  have q1 : (quiet a || born c st a) = true := by rw [hqa]; rfl
  have gj' : gE c ops j st = some ([], sj) := by rw [← g_local ha q1 s1 b1]; exact gj
  have c3 : chk c ops j vj st = true := by
    refine (chk_spec ha).2 ⟨q1, fun x hx => by rw [← s1 x hx]; exact c2'.2.1 x hx, fun x hx r hr => ?_, ?_⟩
    · rw [← s1 x (rdg_rd (tk_rd hx))] at hr
      exact c2'.2.2.1 x hx r hr
    · rw [← softC_local (fun x hx => s1 x (rdg_rd hx)) (fun x hx => b1 x (rdg_rd hx))]; exact c2'.2.2.2
  have s2 : ∀ x ∈ rdg ops b, (st.set a.dst sj).ev x = st.ev x := fun x hx => ev_set_dst (p1 x hx)
  have b2 : ∀ x ∈ rdg ops b, ∀ q ∈ roots (st.ev x), bget (st.set a.dst sj).boxes q = bget st.boxes q := fun x hx q hq => by rw [boxes_set]
  have q2 : (quiet b || born c (st.set a.dst sj) b) = true := by
    rw [born_local (fun x hx => s2 x (rdg_rd hx))]; exact c1'.1
  have gi' : gE c ops i (st.set a.dst sj) = some (Ei, si) := by rw [g_local hb c1'.1 s2 b2]; exact gi
  replace oj := (out_spec ha).1 oj
  replace oi := (out_spec hb).1 oi
  obtain ⟨tj, aj, fj⟩ := outset (st := (st.lays Ei).set b.dst si) (d := a.dst) (s := sj) (P := OutP a vj) (.undef _ _) (by
    unfold dstS at oj
    simp only [ha] at oj
    cases hd : a.dst with
    | none => exact .undef _ _
    | some d => rw [hd] at oj; exact oj)
  obtain ⟨ti, ai, fi⟩ := outset (st := st.lays Ei) (d := b.dst) (s := si) (P := OutP b vi) (.undef _ _) (by
    unfold dstS at oi
    simp only [hb] at oi
    cases hd : b.dst with
    | none => exact .undef _ _
    | some d => rw [hd] at oi; exact oi)
  have li : ∀ st' : St, st'.slots.length = st.slots.length → st'.set b.dst si = st'.set b.dst ti := fun st' h => fi st' (by rw [lays_len]; exact h)
  have lj : ∀ st' : St, st'.slots.length = st.slots.length → st'.set a.dst sj = st'.set a.dst tj := fun st' h => fj st' (by rw [set_len, lays_len]; exact h)
  have fin : ((st.set a.dst sj).lays Ei).set b.dst si = ((st.lays Ei).set b.dst si).set a.dst sj := by
    rw [lj st rfl, set_lays_keep _ _ _ _ (n2 tj aj.1 (hE tj ▸ aj.2 rE)), lj _ (by rw [set_len, lays_len])]
    exact set_comm _ _ _ (fun x hx => by intro hy; exact p3 x hy hx)
  unfold gC
  rw [if_pos c3]
  have e3 := g_eff (R := R) (st := st) ha q1 (K := fun st => if outOk ops j vj st = true then (if chk c ops i vi st = true then opsS c ops [i] st fun st => if outOk ops i vi st = true then K st else none else none) else none)
  unfold gS at e3
  rw [e3, gj']
  simp only [Option.bind]
  rw [show (st.lays []).set a.dst sj = st.set a.dst sj from rfl]
  have v3 : outOk ops j vj (st.set a.dst sj) = true := by
    rw [lj _ rfl]
    exact (out_spec ha).2 (dstS_set ha _ (.undef _ _) aj)
  rw [if_pos v3]
  have c4 : chk c ops i vi (st.set a.dst sj) = true := by
    refine (chk_spec hb).2 ⟨q2, fun x hx => by rw [s2 x hx]; exact c1'.2.1 x hx, fun x hx r hr => ?_, ?_⟩
    · rw [s2 x (rdg_rd (tk_rd hx))] at hr
      exact c1'.2.2.1 x hx r hr
    · rw [softC_local (fun x hx => s2 x (rdg_rd hx)) (fun x hx => b2 x (rdg_rd hx))]; exact c1'.2.2.2
  rw [if_pos c4]
  have e4 := g_eff (R := R) (st := st.set a.dst sj) hb q2 (K := fun st => if outOk ops i vi st = true then K st else none)
  unfold gS at e4
  rw [e4, gi']
  simp only [Option.bind]
  have v4 : outOk ops i vi (((st.set a.dst sj).lays Ei).set b.dst si) = true := by
    rw [li _ (by rw [lays_len, set_len])]
    exact (out_spec hb).2 (dstS_set hb _ (.undef _ _) ai)
  rw [if_pos v4, fin]
  exact h
end Go.Proofs.YtgdaiifhedpffaaDoor.V
set_option linter.unusedVariables false
set_option linter.unusedSimpArgs false
namespace Go.Proofs.YtgdaiifhedpffaaDoor.V
open Go
section
variable {R : Type} {c : Cx} {ops : Array Oper} {W : List Ward}
theorem opsC_append (l m : List Nat) (st : St) (K : St → Option R) : opsC c ops W (l ++ m) st K = opsC c ops W l st fun st => opsC c ops W m st K := by
  induction l generalizing st with
  | nil => rfl
  | cons i l ih =>
    rw [List.cons_append]
    simp only [opsC]
    congr 1; funext st
    exact ih st
theorem gC_mono {i : Nat} {o : Oper} {v : Ward} {st : St} {K K' : St → Option R} {r : R} (ho : ops[i]? = some o) (h : ∀ st, K st = some r → K' st = some r) (hk : gC c ops i v st K = some r) : gC c ops i v st K' = some r := by
  unfold gC at hk ⊢
  split at hk
  case isFalse => cases hk
  rename_i hc
  rw [if_pos hc]
  have hc' := (chk_spec ho).1 hc
  have e1 := g_eff (R := R) (st := st) ho hc'.1 (K := fun st => if outOk ops i v st = true then K st else none)
  have e2 := g_eff (R := R) (st := st) ho hc'.1 (K := fun st => if outOk ops i v st = true then K' st else none)
  unfold gS at e1 e2
  rw [e1] at hk
  rw [e2]
  obtain ⟨p, hp, hk⟩ := Option.bind_eq_some_iff.1 hk
  rw [hp]
  simp only [Option.bind]
  split at hk
  case isFalse => cases hk
  rename_i hv
  rw [if_pos hv]
  exact h _ hk
def Side (ops : Array Oper) (W : List Ward) (j i : Nat) (b : Oper) : Prop := ∃ a, ops[j]? = some a ∧ (ward W i).al = false ∧ (ward W j).al = false ∧ apartG ops a b = true ∧ (ward W i).S = (ward W j).S ∧ (ward W i).L = (ward W j).L ∧
  offB a b (ward W j) (ward W i) = true ∧ offB b a (ward W i) (ward W j) = true
theorem swapP {c : Cx} {ops : Array Oper} {i j : Nat} {a b : Oper} {vi vj : Ward} {st : St} {K : St → Option R} {r : R} (ha : ops[j]? = some a) (hb : ops[i]? = some b) (hap : apartG ops a b = true)
    (hS : vi.S = vj.S) (hL : vi.L = vj.L) (h1 : offB a b vj vi = true) (h2 : offB b a vi vj = true)
    (h : (gC c ops j vj st fun st => gC c ops i vi st K) = some r) : (gC c ops i vi st fun st => gC c ops j vj st K) = some r := by
  have go : ∀ {o p : Oper} {u v : Ward}, softP (v.L == 0) o p = false → offB o p u v = true → loud o = true → ∀ d, (o.dst = some d ∨ d ∈ u.U) → v.A.contains d = true := by
    intro o p u v hp h3 hl d hd
    unfold offB at h3
    rw [hl, hp] at h3
    simp only [Bool.not_true, Bool.false_or, Bool.and_eq_true, List.all_eq_true, Bool.false_and, Bool.or_false] at h3
    rcases hd with hd | hd
    · have := h3.1; rw [hd] at this; exact this
    · exact h3.2 d hd
  have so : ∀ {o p : Oper} {u v : Ward}, loud o = true → offB o p u v = true → (∀ d, o.dst = some d → v.A.contains d = true) ∧ ∀ d ∈ u.U, v.A.contains d = true ∨ v.S.contains d = true := by
    intro o p u v hl h3
    unfold offB at h3
    rw [hl] at h3
    simp only [Bool.not_true, Bool.false_or, Bool.and_eq_true, List.all_eq_true] at h3
    refine ⟨fun d hd => by have := h3.1; rw [hd] at this; exact this, fun d hd => ?_⟩
    have := h3.2 d hd
    rw [Bool.or_eq_true, Bool.and_eq_true] at this
    exact this.imp id And.right
  have sl : ∀ {o : Oper}, stOp o = true → loud o = true := fun {o} hs => by
    obtain ⟨t, x, y, e⟩ := stOp_op hs
    simp [loud, e]
  have hz : (vj.L == 0) = (vi.L == 0) := by rw [hL]
  cases hp : softP (vi.L == 0) a b with
  | true =>
    unfold softP at hp
    split at hp
    · rename_i h0
      have h0 : vi.L = 0 := by simpa using h0
      simp only [Bool.or_eq_true, Bool.and_eq_true, Option.isNone_iff_eq_none] at hp
      rcases hp with ⟨⟨e0, e1⟩, e2⟩ | ⟨e1, e0, e2⟩
      · have := so (callOp_quiet e2).2 h2
        exact swapL1 ha hb hap e0 e1 e2 (hL ▸ h0) this.1 this.2 h
      · have := so (callOp_quiet e1).2 h1
        exact swapL2 hb ha hap e0 e2 e1 h0 this.1 this.2 h
    · rename_i h0
      have h0 : vi.L ≠ 0 := by simpa using h0
      rw [Bool.or_eq_true, Bool.and_eq_true, Bool.and_eq_true] at hp
      rcases hp with ⟨e1, e2⟩ | ⟨e1, e2⟩
      · exact swapS1 ha hb hap e1 e2 h0 hS.symm hL.symm (so (sl e2) h2).2 h
      · exact swapS2 hb ha hap e2 e1 (hL ▸ h0) hS hL (so (sl e1) h1).2 h
  | false =>
    have hp' : softP (vi.L == 0) b a = false := by
      revert hp; unfold softP
      split
      · cases a.guard.isNone <;> cases quiet a <;> cases callOp a <;> cases b.guard.isNone <;> cases quiet b <;> cases callOp b <;> simp
      · cases hdOp a <;> cases stOp a <;> cases hdOp b <;> cases stOp b <;> simp
    exact swapC ha hb hap (go hp h1) (go (by rw [hz]; exact hp') h2) h
theorem frontC {i : Nat} {b : Oper} (hb : ops[i]? = some b) : ∀ (l : List Nat) {st : St} {K : St → Option R} {r : R}, (∀ j ∈ l, Side ops W j i b) →
    opsC c ops W (l ++ [i]) st K = some r → opsC c ops W (i :: l) st K = some r
  | [], _, _, _, _, h => h
  | j :: l, st, K, r, h, hk => by
    obtain ⟨a, ha, w1, w2, hap, hS, hL, h1, h2⟩ := h j (List.mem_cons_self ..)
    rw [List.cons_append] at hk
    simp only [opsC, g1, w2, Bool.false_eq_true, if_false] at hk
    have e : gC c ops j (ward W j) st (fun st => gC c ops i (ward W i) st fun st => opsC c ops W l st K) = some r :=
      gC_mono ha (fun st' hk' => by
        have := frontC hb l (fun k hk => h k (List.mem_cons_of_mem _ hk)) hk'
        simpa only [opsC, g1, w1, Bool.false_eq_true, if_false] using this) hk
    have := swapP ha hb hap hS hL h1 h2 e
    simpa only [opsC, g1, w1, w2, Bool.false_eq_true, if_false] using this
end
theorem down_predsC {ops : Array Oper} {t : List (List Nat)} {W : List Ward} {F : List Nat} (hd : drawC ops t W F = true) {listed : Nat → Prop} (h : Down ops listed) : ∀ (n i : Nat) (o : Oper), i < n → ops[i]? = some o → (∀ e ∈ edges o, listed e) → ∀ j ∈ t.getD i [], listed j := by
  intro n
  induction n with
  | zero => intro i o hi; omega
  | succ n ih =>
    intro i o hi ho he j hj
    have hlt : i < ops.size := (Array.getElem?_eq_some_iff.1 ho).1
    have h1 := (List.all_eq_true.1 hd) i (List.mem_range.2 hlt)
    simp only [ho, Bool.and_eq_true, List.all_eq_true, decide_eq_true_eq] at h1
    obtain ⟨m, hm, hmj⟩ := List.any_eq_true.1 (h1.1.2 j hj)
    simp only [Bool.or_eq_true, beq_iff_eq, List.contains_iff_mem] at hmj
    rcases hmj with rfl | hmj
    · exact he m hm
    · have hml := he m hm
      have hmi := h1.1.1 m hm
      have hms : m < ops.size := by omega
      obtain ⟨p, hp⟩ : ∃ p, ops[m]? = some p := ⟨ops[m], by rw [Array.getElem?_eq_getElem]⟩
      exact ih m p (by omega) hp (h m p hml hp) j hmj
section
variable {P : Program} {G : Gl} {I0 : Nat → Prop} {T : Type} {r0 : T} {c : Cx} {ops : Array Oper} {Q : Exit → Act → World → Prop} {K : St → Option T}
theorem anyC_some (step : ∀ {st : St} {a : Act} {w : World} {i : Nat} {T : Type} {K : St → Option T} {r : T} {KK : Act → World → Prop}, gS c ops i st K = some r → Ok G I0 st a w → (∀ a w, Post G I0 K r a w → KK a w) → wpOp P ops Q i KK a w)
    {t : List (List Nat)} {W : List Ward} {F : List Nat} (hd : drawC ops t W F = true) (hQ : ∀ a w, Post G I0 K r0 a w → Q .normal a w) :
    ∀ (fuel : Nat) (l : List Nat) (listed : Array Bool) {st : St} {a : Act} {w : World}, l.length = fuel → listed.size = ops.size → l.Pairwise (· < ·) → (∀ i ∈ l, F.contains i = false) → (∀ i, i ∈ l ↔ i < ops.size ∧ listed.getD i true = false) → Down ops (fun i => i < ops.size ∧ listed.getD i true = true) →
      opsC c ops W l st K = some r0 → Ok G I0 st a w → wpAny P .any ops Q fuel listed a w := by
  intro fuel
  induction fuel with
  | zero =>
    intro l listed st a w hl hs hp hF hm hD hk h
    have : l = [] := List.length_eq_zero_iff.1 hl
    subst this
    refine ⟨?_, hQ a w ⟨st, hk, h⟩⟩
    apply List.eq_nil_iff_forall_not_mem.2
    intro i hi
    obtain ⟨h1, h2, _⟩ := ready_iff.1 hi
    have := (hm i).2 ⟨h1, h2⟩
    simp at this
  | succ fuel ih =>
    intro l listed st a w hl hs hp hF hm hD hk h
    refine ⟨fun hr => ?_, fun i hi => ?_⟩
    · exfalso
      match l, hl with
      | k :: l, _ =>
        obtain ⟨hk1, hk2⟩ := (hm k).1 (List.mem_cons_self ..)
        have hmem : k ∈ Region.ready .any ops listed := by
          refine ready_iff.2 ⟨hk1, hk2, ops[k], by rw [Array.getElem?_eq_getElem], fun e he => ?_⟩
          have h1 := (List.all_eq_true.1 hd) k (List.mem_range.2 hk1)
          rw [Array.getElem?_eq_getElem hk1] at h1
          simp only [Bool.and_eq_true, List.all_eq_true, decide_eq_true_eq] at h1
          have hek := h1.1.1 e he
          have hes : e < ops.size := by omega
          rw [getD_iff (ops := ops) hs hes]
          cases hle : listed.getD e true with
          | true => rfl
          | false =>
            have : e ∈ k :: l := (hm e).2 ⟨hes, hle⟩
            rcases List.mem_cons.1 this with h | h
            · omega
            · have := (List.pairwise_cons.1 hp).1 e h; omega
        rw [hr] at hmem; simp at hmem
    · obtain ⟨hi1, hi2, o, ho, he⟩ := ready_iff.1 hi
      obtain ⟨l1, l2, rfl⟩ := List.append_of_mem ((hm i).2 ⟨hi1, hi2⟩)
      have h1 := (List.all_eq_true.1 hd) i (List.mem_range.2 hi1)
      simp only [ho, Bool.and_eq_true, List.all_eq_true, decide_eq_true_eq] at h1
      have he' : ∀ e ∈ edges o, e < ops.size ∧ listed.getD e true = true := fun e hh => by
        have hes : e < ops.size := by have := h1.1.1 e hh; omega
        exact ⟨hes, (getD_iff (ops := ops) hs hes).1 (he e hh)⟩
      have hpre := down_predsC hd hD (i + 1) i o (by omega) ho he'
      have hpw := List.pairwise_append.1 hp
      have hfr : ∀ j ∈ l1, Side ops W j i o := fun j hj => by
        have hji : j < i := hpw.2.2 j hj i (List.mem_cons_self ..)
        have h2 := h1.2 j (List.mem_range.2 hji)
        obtain ⟨hj1, hj2⟩ := (hm j).1 (by simp [hj])
        rw [hF i (by simp), hF j (by simp [hj]), Bool.or_false, Bool.or_false, Bool.or_eq_true] at h2
        rcases h2 with h2 | h2
        · have := (hpre j (List.contains_iff_mem.1 h2)).2
          rw [hj2] at this; cases this
        · unfold Side
          rw [Array.getElem?_eq_getElem hj1] at h2 ⊢
          simp only [Bool.and_eq_true, Bool.not_eq_true', beq_iff_eq] at h2
          exact ⟨_, rfl, h2.1.1.1.1.1.1, h2.1.1.1.1.1.2, h2.1.1.1.1.2, h2.1.1.1.2, h2.1.1.2, h2.1.2, h2.2⟩
      have e1 : g1 c ops W i st (fun st => opsC c ops W (l1 ++ l2) st K) = some r0 := by
        have : l1 ++ i :: l2 = (l1 ++ [i]) ++ l2 := by simp
        rw [this, opsC_append] at hk
        have := frontC ho l1 hfr hk
        simp only [opsC] at this
        simpa [opsC_append] using this
      have hk : ∃ K' : St → Option T, gS c ops i st K' = some r0 ∧ ∀ st, K' st = some r0 → opsC c ops W (l1 ++ l2) st K = some r0 := by
        unfold g1 at e1
        split at e1
        · exact ⟨_, e1, fun _ h => h⟩
        · unfold gC at e1
          split at e1
          · refine ⟨_, e1, fun st h => ?_⟩
            split at h
            · exact h
            · cases h
          · cases e1
      obtain ⟨K', hk, hK'⟩ := hk
      refine step hk h fun a w ⟨st', hk', h'⟩ => ?_
      replace hk' := hK' _ hk'
      refine ih (l1 ++ l2) _ (by simp at hl ⊢; omega) (by simp [hs]) ?_ (fun j hj => hF j (by simp at hj ⊢; rcases hj with h | h <;> simp [h])) (fun j => ?_) ?_ hk' h'
      · refine List.pairwise_append.2 ⟨hpw.1, (List.pairwise_cons.1 hpw.2.1).2, fun x hx y hy => hpw.2.2 x hx y (List.mem_cons_of_mem _ hy)⟩
      · have hne : ∀ j, j ∈ l1 ++ l2 ↔ j ∈ l1 ++ i :: l2 ∧ j ≠ i := fun j => by
          have hnd : (l1 ++ i :: l2).Nodup := hp.imp (fun h => Nat.ne_of_lt h)
          rw [List.nodup_append, List.nodup_cons] at hnd
          simp only [List.mem_append, List.mem_cons]
          constructor
          · rintro (h | h)
            · exact ⟨.inl h, fun e => hnd.2.2 j h i (List.mem_cons_self ..) e⟩
            · exact ⟨.inr (.inr h), fun e => hnd.2.1.1 (e ▸ h)⟩
          · rintro ⟨h | h | h, hne⟩
            · exact .inl h
            · exact absurd h hne
            · exact .inr h
        rw [hne, hm]
        have := lists_set (listed := listed) (ops := ops) (j := j) hs hi1
        constructor
        · rintro ⟨⟨a1, a2⟩, a3⟩
          refine ⟨a1, ?_⟩
          cases hx : (listed.setIfInBounds i true).getD j true with
          | false => rfl
          | true =>
            rcases this.1 hx with h | h
            · exact absurd h a3
            · rw [a2] at h; cases h
        · rintro ⟨a1, a2⟩
          refine ⟨⟨a1, ?_⟩, fun e => ?_⟩
          · cases hx : listed.getD j true with
            | false => rfl
            | true => rw [this.2 (.inr hx)] at a2; cases a2
          · rw [this.2 (.inl e)] at a2; cases a2
      · intro k p ⟨k1, k2⟩ hkp e hee
        rcases (lists_set (ops := ops) hs hi1).1 k2 with h | h
        · subst h
          rw [ho] at hkp; cases hkp
          exact ⟨(he' e hee).1, (lists_set (ops := ops) hs hi1).2 (.inr (he' e hee).2)⟩
        · obtain ⟨d1, d2⟩ := hD k p ⟨k1, h⟩ hkp e hee
          exact ⟨d1, (lists_set (ops := ops) hs hi1).2 (.inr d2)⟩
def HoistAt (ops : Array Oper) (i : Nat) : Prop :=
  ∃ o x, ops[i]? = some o ∧ o.guard = none ∧ o.op = .move x ∧ edges o = [] ∧ ∀ j p, j ≠ i → ops[j]? = some p → p.after.any (fun e => Region.binds .any e && e.on == i) = true ∨ Oper.apart ops o p = true
theorem hoistOk_spec {ops : Array Oper} {F : List Nat} (h : hoistOk ops F = true) : Region.noSelect ops = true ∧ noDup F = true ∧ ∀ i ∈ F, HoistAt ops i := by
  unfold hoistOk at h
  simp only [Bool.and_eq_true, List.all_eq_true] at h
  refine ⟨h.1.1, h.1.2, fun i hi => ?_⟩
  have h1 := h.2 i hi
  cases ho : ops[i]? with
  | none => rw [ho] at h1; cases h1
  | some o =>
    simp only [ho, Bool.and_eq_true, List.all_eq_true, List.mem_range, Bool.or_eq_true, beq_iff_eq] at h1
    obtain ⟨⟨⟨h2, h3⟩, h4⟩, h5⟩ := h1
    obtain ⟨x, hx⟩ : ∃ x, o.op = .move x := by
      revert h3
      cases o.op <;> simp
    refine ⟨o, x, ho, by simpa using h2, hx, by simpa using h4, fun j p hji hp => ?_⟩
    have hj : j < ops.size := (Array.getElem?_eq_some_iff.1 hp).1
    rcases h5 j hj with e | e
    · exact absurd e hji
    · rw [hp] at e
      simpa only [Bool.or_eq_true] using e
theorem hoist_some {w : World} (hsel : Region.noSelect ops = true) (hQp : ∀ ch a w, ¬ Q (.panic ch) a w) {fuel : Nat} : ∀ (F : List Nat) {listed : Array Bool} {st : St} {a : Act}, noDup F = true → (∀ i ∈ F, HoistAt ops i) → (∀ i ∈ F, listed.getD i true = false) → listed.size = ops.size →
    opsS c ops F st K = some r0 → Ok G I0 st a w →
    (∀ (st' : St) (a' : Act) (listed' : Array Bool), listed'.size = ops.size → (∀ j, j < ops.size → (listed'.getD j true = true ↔ (j ∈ F ∨ listed.getD j true = true))) → K st' = some r0 → Ok G I0 st' a' w → wpAny P .any ops Q fuel listed' a' w) →
    wpAny P .any ops Q (fuel + F.length) listed a w
  | [], listed, st, a, _, _, _, hs, hk, h, hn => hn st a listed hs (fun j _ => by simp) hk h
  | i :: F, listed, st, a, hd, hF, hu, hs, hk, h, hn => by
    obtain ⟨o, x, ho, hg, hop, hed, hap⟩ := hF i (List.mem_cons_self ..)
    have hi : i < ops.size := (Array.getElem?_eq_some_iff.1 ho).1
    simp only [noDup, Bool.and_eq_true, Bool.not_eq_true'] at hd
    have hnin : i ∉ F := fun hm => by have := hd.1; simp [hm] at this
    have hui := hu i (List.mem_cons_self ..)
    simp only [opsS, ho, hg, stepS, hop] at hk
    obtain ⟨hdf, Im, R, hI, hin⟩ := h
    refine wpAny_take (v := a.eval x) ho hsel ?_ ?_ (fun ch a w hq => (hQp _ _ _ hq).elim) ?_ ?_
    · unfold Region.free
      simp only [ho, List.all_eq_true, List.mem_range, Bool.or_eq_true, beq_iff_eq]
      intro j hj
      by_cases e : j = i
      · exact .inl (.inl e)
      · right
        rw [Array.getElem?_eq_getElem hj]
        simp only [Bool.or_eq_true]
        exact hap j _ e (Array.getElem?_eq_getElem hj)
    · exact List.contains_iff_mem.2 (ready_iff.2 ⟨hi, hui, o, ho, fun e he => by rw [hed] at he; cases he⟩)
    · exact .inl ⟨by simp [Region.wanted, hg], fun w => by simp [execOp, hop]⟩
    · refine hoist_some hsel hQp F hd.2 (fun j hj => hF j (List.mem_cons_of_mem _ hj)) (fun j hj => ?_) (by simp [hs]) hk ⟨by rw [put_defers]; exact hdf, Im, R, hI, hin.put o.dst (hin.ev x)⟩ (fun st' a' listed' h1 h2 h3 h4 => hn st' a' listed' h1 (fun j hj => ?_) h3 h4)
      · have hne : i ≠ j := fun e => hnin (e ▸ hj)
        have := hu j (List.mem_cons_of_mem _ hj)
        simp only [Array.getD_eq_getD_getElem?] at this ⊢
        rw [Array.getElem?_setIfInBounds_ne hne]; exact this
      · rw [h2 j hj, (lists_set (ops := ops) hs hi)]
        simp only [List.mem_cons]
        constructor
        · rintro (h | h | h)
          · exact .inl (.inr h)
          · exact .inl (.inl h)
          · exact .inr h
        · rintro ((h | h) | h)
          · exact .inr (.inl h)
          · exact .inl h
          · exact .inr (.inr h)
end
end Go.Proofs.YtgdaiifhedpffaaDoor.V
