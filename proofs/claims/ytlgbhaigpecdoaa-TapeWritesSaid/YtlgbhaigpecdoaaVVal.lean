/- Operations that set their own slot and nothing else. -/
import Derived.Test.YtlgbhaigpecdoaaVStepS
set_option linter.unusedVariables false
set_option linter.unusedSimpArgs false
namespace Go.Proofs.Ytlgbhaigpecdoaa.V
open Go

section cps
variable {R : Type}
def valS (c : Cx) (st : St) (o : Oper) (K : SV → Option R) : Option R :=
  match o.op with
  | .move x => K (st.ev x)
  | .assign x => K (st.ev x)
  | .pick g a b => asBool (st.ev g) fun v => cond v (K (st.ev a)) (K (st.ev b))
  | .build t parts => match c.E.get t with
    | some te => match te.d with
      | .struct _ => if te.z = true then (buildL st parts.toList (fieldTys te.ty) ((fieldTys te.ty).map zsv)).bind fun l => K (aggOf l) else none
      | _ => none
    | none => none
  | .load t a => match c.E.get t with
    | some te => loadS st.boxes te.ty (st.ev a) K
    | none => none
  | .nilCheck x => match st.ev x with
    | .ptr r q => if (bget st.boxes r).isSome = true then K (.ptr r q) else none
    | .pro t x => K (.pro t x)
    | .fn f cs => K (.fn f cs)
    | _ => none
  | .binOp op t x y _ => if boolOk c.E t (st.ev x) = true then binS op (st.ev x) (st.ev y) K else none
  | .unOp op t x => match op with
    | .not => asBool (st.ev x) fun b => K (.con .bool (!b))
    | .neg => asInt (st.ev x) fun k n => K (.con (.int k) (k.wrap (0 - n)))
    | .xor => asInt (st.ev x) fun k n => K (.con (.int k) (bitop k .xor (if k.signed = true then -1 else k.max) n))
    | _ => none
  | .convert src dst x => match c.E.get src, c.E.get dst with
    | some ts, some td => match ts.d, td.d with
      | _, .int k => asInt (st.ev x) fun _ n => K (.con (.int k) (k.wrap n))
      | .slc e, .str => match c.E.get e with
        | some te => match te.d with
          | .int .u8 => if isAgg (st.ev x) = false then look st.boxes (st.ev x) (.slc (.int .u8)) fun l => K (.con .str (b2s l)) else none
          | _ => none
        | none => none
      | .str, .slc e => match c.E.get e with
        | some te => match te.d with
          | .int .u8 => asStr (st.ev x) fun s => K (.con (.slc (.int .u8)) (s2b s))
          | _ => none
        | none => none
      | _, _ => none
    | _, _ => none
  | .slice t x lo hi mx => match c.E.get t with
    | some te => match te.d with
      | .slc _ => sliceS st te.ty (st.ev x) lo hi mx K
      | .str => sliceS st te.ty (st.ev x) lo hi mx K
      | _ => none
    | none => none
  | .fieldAddr t x f => match c.E.get t with
    | some te => match te.d with
      | .struct _ => fieldPtr st.boxes te.ty f (st.ev x) K
      | _ => none
    | none => none
  | .field t x f => match c.E.get t with
    | some te => match te.d with
      | .struct _ => if fitsTy te.ty (st.ev x) = true ∧ f < (fieldTys te.ty).length ∧ isU (st.ev x) = false then K (fieldOf f (st.ev x)) else none
      | _ => none
    | none => none
  | .indexAddr t x i => match c.E.get t with
    | some te => match te.d with
      | .slc _ => asInt (st.ev i) fun _ i => elemS st.boxes te.ty (st.ev x) i K
      | _ => none
    | none => none
  | .index t x i => match c.E.get t with
    | some te => match te.d with
      | .str => asInt (st.ev i) fun _ i => asStr (st.ev x) fun s => if 0 ≤ i ∧ i < (s.size : Int) then K (.con (.int .u8) (bt s i)) else none
      | _ => none
    | none => none
  | .extract x i => (nth i (st.ev x)).bind K
  | .call cl => match cl.callee, cl.argTypes.toList, cl.args.toList with
    | .builtin .len, [t], [x] => match c.E.get t with
      | some te => match te.d with
        | .str => if strS (st.ev x) = true then lenS st.boxes (st.ev x) fun n => K (.con (.int .i64) n) else none
        | .slc _ => if strS (st.ev x) = false then lenS st.boxes (st.ev x) fun n => K (.con (.int .i64) n) else none
        | _ => none
      | none => none
    | _, _, _ => none
  | _ => none
end cps
section
variable {R : Type} {c : Cx} {st : St} {o : Oper}
theorem stepS_val (h : quiet o = true) (K : St → Option R) : stepS c st o K = valS c st o fun s => K (st.set o.dst s) := by
  unfold stepS valS
  unfold quiet at h
  cases ho : o.op <;> simp only [ho] at h ⊢ <;> first | (cases h; done) | rfl | (rw [if_neg (by simpa using h)]; done) | skip
  rename_i cl
  revert h
  split
  · rename_i t x h1 h2 h3
    intro _
    simp only [h1, h2, h3, List.map_cons, List.map_nil, builtinS]
    rfl
  · intro h; cases h
/-! ### What comes behind is handed the one answer. -/
theorem asInt_bind (s : SV) (K : IntKind → Int → Option R) : asInt s K = (asInt s fun k n => some (k, n)).bind fun p => K p.1 p.2 := by unfold asInt; split <;> (try rfl); split <;> rfl
theorem asBool_bind (s : SV) (K : Bool → Option R) : asBool s K = (asBool s some).bind K := by unfold asBool; split <;> (try rfl); split <;> rfl
theorem asStr_bind (s : SV) (K : ByteArray → Option R) : asStr s K = (asStr s some).bind K := by unfold asStr; split <;> (try rfl); split <;> rfl
theorem binS_bind (op : BinOp) (s t : SV) (K : SV → Option R) : binS op s t K = (binS op s t some).bind K := by
  unfold binS
  split
  · cases op <;> simp only <;> (repeat' split) <;> rfl
  · cases op <;> simp only <;> (repeat' split) <;> rfl
  · cases op <;> simp only <;> (repeat' split) <;> rfl
  · rfl
theorem rowOf_bind (t : Ty) (x : den t) (m : Md) (K : (t : Ty) → List (den t) → Md → Option R) : rowOf t x m K = (rowOf t x m fun t xs m => some (⟨t, xs, m⟩ : (t : Ty) × List (den t) × Md)).bind fun p => K p.1 p.2.1 p.2.2 := by
  cases t <;> cases m <;> rfl
theorem loadS_bind (bs : List (Nat × Bx)) (t : Ty) (s : SV) (K : SV → Option R) : loadS bs t s K = (loadS bs t s some).bind K := by
  unfold loadS; split <;> (try rfl) <;> (repeat' split) <;> rfl
theorem fieldPtr_bind (bs : List (Nat × Bx)) (t : Ty) (j : Nat) (s : SV) (K : SV → Option R) : fieldPtr bs t j s K = (fieldPtr bs t j s some).bind K := by
  unfold fieldPtr; split <;> (try rfl) <;> (repeat' split) <;> rfl
theorem lenS_bind (bs : List (Nat × Bx)) (s : SV) (K : Int → Option R) : lenS bs s K = (lenS bs s some).bind K := by
  unfold lenS
  split <;> (try rfl)
  · split
    · rw [rowOf_bind, rowOf_bind (R := Int)]; cases rowOf _ _ _ _ <;> rfl
    · rfl
  · split <;> rfl
theorem elemS_bind (bs : List (Nat × Bx)) (ty : Ty) (s : SV) (i : Int) (K : SV → Option R) : elemS bs ty s i K = (elemS bs ty s i some).bind K := by
  unfold elemS
  split <;> (try rfl)
  · repeat' split
    all_goals rfl
  · split
    · rw [rowOf_bind, rowOf_bind (R := SV)]; cases rowOf _ _ _ _ <;> simp <;> (repeat' split) <;> rfl
    · rfl
  · split
    · rw [rowOf_bind, rowOf_bind (R := SV)]; cases rowOf _ _ _ _ <;> simp <;> (repeat' split) <;> rfl
    · rfl
theorem look_bind (bs : List (Nat × Bx)) : ∀ (s : SV) {t : Ty} {R : Type} (K : den t → Option R), look bs s t K = (look bs s t some).bind K := by
  intro s
  induction s with
  | con t' x => intro t R K; simp only [look]; split <;> rfl
  | raw v => intro t R K; simp only [look]; split <;> rfl
  | emp => intro t R K; cases t <;> simp [look]
  | agg a b iha ihb =>
    intro t R K
    cases t <;> simp only [look] <;> (try rfl)
    rename_i ta tb
    rw [iha (R := R), iha (R := den (.pair ta tb))]
    cases look bs a ta some with
    | none => rfl
    | some x =>
      show look bs b tb _ = (look bs b tb _).bind K
      rw [ihb (R := R), ihb (R := den (.pair ta tb))]
      cases look bs b tb some <;> rfl
  | ref r q => intro t R K; simp only [look]; (repeat' split) <;> rfl
  | sub r q lo n => intro t R K; cases t <;> simp only [look] <;> (try rfl) <;> (repeat' split) <;> rfl
  | _ => intro t R K; rfl
theorem optInt_bind (o : Option Operand) (d : Int) (K : Int → Option R) : optInt st o d K = (optInt st o d some).bind K := by
  unfold optInt
  split
  · rfl
  · rw [asInt_bind, asInt_bind (R := Int)]; cases asInt _ _ <;> rfl
theorem sliceS_bind (ty : Ty) (s : SV) (lo hi mx : Option Operand) (K : SV → Option R) : sliceS st ty s lo hi mx K = (sliceS st ty s lo hi mx some).bind K := by
  have two : ∀ (d : Int) (f : Int → Int → (SV → Option R) → Option R) (g : Int → Int → Option SV), (∀ a b, f a b K = (g a b).bind K) → (optInt st hi d fun h => optInt st lo 0 fun l => f h l K) = (optInt st hi d fun h => optInt st lo 0 fun l => g h l).bind K := by
    intro d f g hfg
    rw [optInt_bind, optInt_bind (R := SV)]
    cases optInt st hi d some with
    | none => rfl
    | some h =>
      simp only [Option.bind_some]
      rw [optInt_bind, optInt_bind (R := SV)]
      cases optInt st lo 0 some with
      | none => rfl
      | some l => exact hfg h l
  unfold sliceS
  split
  · split
    · split
      · exact two _ (fun h l K => if 0 ≤ l ∧ l ≤ h ∧ h ≤ (ByteArray.size _ : Int) then K (.con .str (ByteArray.extract _ l.toNat h.toNat)) else none) _ (fun h l => by (try dsimp only); split <;> rfl)
      · rfl
    · rfl
  · split
    · split
      · rfl
      · exact two _ (fun h l K => if 0 ≤ l ∧ l ≤ h ∧ h ≤ 0 then K (.raw (.slice none 0 0)) else none) _ (fun h l => by (try dsimp only); split <;> rfl)
    · rfl
  · rename_i t xs
    split
    · split
      · exact two _ (fun h l K => if 0 ≤ l ∧ l ≤ h ∧ h ≤ (List.length xs : Int) then K (.con (.slc t) ((List.drop l.toNat xs).take (h.toNat - l.toNat))) else none) _ (fun h l => by (try dsimp only); split <;> rfl)
      · rename_i m
        split
        · rfl
        · rw [asInt_bind, asInt_bind (R := SV)]
          cases asInt (st.ev m) fun k n => some (k, n) with
          | none => rfl
          | some p =>
            show (if _ then _ else _) = Option.bind (if _ then _ else _) K
            split
            · exact two _ (fun h l K => if 0 ≤ l ∧ l ≤ h ∧ h ≤ p.2 ∧ p.2 ≤ (List.length xs : Int) then K (.con (.slc t) ((List.drop l.toNat xs).take (h.toNat - l.toNat))) else none) _ (fun h l => by (try dsimp only); split <;> rfl)
            · rfl
    · rfl
  · rename_i r q
    split
    · rw [rowOf_bind, rowOf_bind (R := SV)]
      cases rowOf _ _ _ _ with
      | none => rfl
      | some p =>
        obtain ⟨t, xs, m⟩ := p
        show (if _ then _ else _) = Option.bind (if _ then _ else _) K
        split
        · refine two _ (fun h l K => match mx with
            | none => if 0 ≤ l ∧ l ≤ h ∧ h ≤ (List.length xs : Int) then K (.sub r q l.toNat (h.toNat - l.toNat)) else none
            | some m => if hi.isSome = true then asInt (st.ev m) fun _ m => if 0 ≤ l ∧ l ≤ h ∧ h ≤ m ∧ m ≤ (List.length xs : Int) then K (.sub r q l.toNat (h.toNat - l.toNat)) else none
              else none) _ (fun h l => ?_)
          (try dsimp only)
          cases mx with
          | none => (try dsimp only); split <;> rfl
          | some m =>
            (try dsimp only)
            split
            · rw [asInt_bind, asInt_bind (R := SV)]
              cases asInt (st.ev m) fun k n => some (k, n) with
              | none => rfl
              | some p => show (if _ then _ else _) = Option.bind (if _ then _ else _) K; split <;> rfl
            · rfl
        · rfl
    · rfl
  · rename_i r q o' n
    split
    · rw [rowOf_bind, rowOf_bind (R := SV)]
      cases rowOf _ _ _ _ with
      | none => rfl
      | some p =>
        obtain ⟨t, xs, m⟩ := p
        show (if _ then _ else _) = Option.bind (if _ then _ else _) K
        split
        · refine two _ (fun h l K => match mx with
            | none => if 0 ≤ l ∧ l ≤ h ∧ h ≤ (n : Int) then K (.sub r q (o' + l.toNat) (h.toNat - l.toNat)) else none
            | some _ => none) _ (fun h l => ?_)
          (try dsimp only)
          cases mx with
          | none => (try dsimp only); split <;> rfl
          | some m => rfl
        · rfl
    · rfl
  · rfl
theorem valS_bind (K : SV → Option R) : valS c st o K = (valS c st o some).bind K := by
  unfold valS
  split
  · rfl
  · rfl
  · rw [asBool_bind, asBool_bind (R := SV)]; cases asBool _ some with
    | none => rfl
    | some v => cases v <;> rfl
  · split
    · split
      · split
        · cases buildL _ _ _ _ <;> rfl
        · rfl
      · rfl
    · rfl
  · split
    · exact loadS_bind _ _ _ _
    · rfl
  · split <;> (try rfl)
    split <;> rfl
  · split
    · exact binS_bind _ _ _ _
    · rfl
  · split
    · rw [asBool_bind, asBool_bind (R := SV)]; cases asBool _ some <;> rfl
    · rw [asInt_bind, asInt_bind (R := SV)]; cases asInt _ _ <;> rfl
    · rw [asInt_bind, asInt_bind (R := SV)]; cases asInt _ _ <;> rfl
    · rfl
  · split
    · split
      · rw [asInt_bind, asInt_bind (R := SV)]; cases asInt _ _ <;> rfl
      · split
        · split
          · split
            · rw [look_bind, look_bind (R := SV)]; cases look _ _ _ some <;> rfl
            · rfl
          · rfl
        · rfl
      · split
        · split
          · rw [asStr_bind, asStr_bind (R := SV)]; cases asStr _ some <;> rfl
          · rfl
        · rfl
      · rfl
    · rfl
  · split
    · split
      · exact sliceS_bind _ _ _ _ _ _
      · exact sliceS_bind _ _ _ _ _ _
      · rfl
    · rfl
  · split
    · split
      · exact fieldPtr_bind _ _ _ _ _
      · rfl
    · rfl
  · split
    · split
      · split <;> rfl
      · rfl
    · rfl
  · split
    · split
      · rw [asInt_bind, asInt_bind (R := SV)]; cases asInt _ _ with
        | none => rfl
        | some p => exact elemS_bind _ _ _ _ _
      · rfl
    · rfl
  · split
    · split
      · rw [asInt_bind, asInt_bind (R := SV)]; cases asInt _ _ with
        | none => rfl
        | some p =>
          show asStr _ _ = Option.bind (asStr _ _) K
          rw [asStr_bind, asStr_bind (R := SV)]
          cases asStr _ some with
          | none => rfl
          | some s => show (if _ then _ else _) = Option.bind (if _ then _ else _) K; split <;> rfl
      · rfl
    · rfl
  · cases nth _ _ <;> rfl
  · split
    · split
      · split
        · split
          · rw [lenS_bind, lenS_bind (R := SV)]; cases lenS _ _ some <;> rfl
          · rfl
        · split
          · rw [lenS_bind, lenS_bind (R := SV)]; cases lenS _ _ some <;> rfl
          · rfl
        · rfl
      · rfl
    · rfl
  · rfl
end
end Go.Proofs.Ytlgbhaigpecdoaa.V
