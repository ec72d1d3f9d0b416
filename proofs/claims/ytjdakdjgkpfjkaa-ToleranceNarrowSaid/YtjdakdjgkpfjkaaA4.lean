/- The operations that leave the abstract heap as it is, each with its proof against the model. Conditions: none. -/
import Derived.Test.YtjdakdjgkpfjkaaA3
import Derived.ChangeKeysEq
import Derived.Laws.StructEq
import Derived.Laws.BytesString
import Derived.Laws.Slices
namespace Go.Proofs.Ytjdakdjgkpfjkaa
set_option linter.unusedVariables false
set_option linter.unusedSimpArgs false

/-- `==` as the model asks it, of plain values. -/
def eqF (P : Program) (rec : TypeId → AV → AV → Option Bool) (xs ys : List AV) : List Field → Option Bool
  | [] => some true
  | f :: fs =>
    if f.name ≠ "_" then
      match takeT P f.type (xs.drop f.offset), takeT P f.type (ys.drop f.offset) with
      | some a, some b => if (P.underlying f.type).isSome then (rec f.type a b).bind fun r => (eqF P rec xs ys fs).map fun q => r && q else none
      | _, _ => none
    else eqF P rec xs ys fs

def eqA (P : Program) (rec : TypeId → AV → AV → Option Bool) (e : TypeId) (xs ys : List AV) : List Nat → Option Bool
  | [] => some true
  | j :: js =>
    match takeT P e (xs.drop (j * szOf P e)), takeT P e (ys.drop (j * szOf P e)) with
    | some a, some b => if (P.underlying e).isSome then (rec e a b).bind fun r => (eqA P rec e xs ys js).map fun q => r && q else none
    | _, _ => none

def eqT (P : Program) : Nat → TypeId → AV → AV → Option Bool
  | 0, _, _, _ => none
  | d + 1, t, x, y =>
    match P.underlying t, x, y with
    | some .bool, .bool a, .bool b => some (a == b)
    | some (.int _), .int k a, .int k' b => if k = k' then some (a == b) else none
    | some .string, .str a, .str b => some (a == b)
    | some (.struct fs), .agg xs, .agg ys => if P.stoodInHeld t = false then eqF P (eqT P d) xs ys fs.toList else none
    | some (.array n e), .agg xs, .agg ys => if hasT P e then eqA P (eqT P d) e xs ys (List.range n) else none
    | _, _, _ => none

section
variable {m : IdMap} {Mut : Mu} {w : World} {P : Program} {h : AHeap}

theorem eqT_sound {k : Nat} : ∀ (d : Nat) (t : TypeId) (x y : AV) (r : Bool) (u v : Value), eqT P d t x y = some r → RelV m Mut w x u → RelV m Mut w y v → (Op.equalIn (d + k) t u v).run P w = .ok r w := by
  intro d
  induction d with
  | zero => intro t x y r u v h; cases h
  | succ d ih =>
    intro t x y r u v he hx hy
    rw [show d + 1 + k = (d + k) + 1 by omega]
    unfold eqT at he
    split at he
    · rename_i hu; cases he; rw [hx.inv_bool, hy.inv_bool]; exact run_equalIn_bool w _ t _ _ hu
    · rename_i hu
      split at he
      · rename_i hk; subst hk; cases he; rw [hx.inv_int, hy.inv_int]; exact run_equalIn_int w _ t _ _ _ _ hu
      · cases he
    · rename_i a b hu
      cases he; rw [hx.inv_str, hy.inv_str]
      rw [run_equalIn_string w _ t _ _ hu, beq_toListBytes]
    · rename_i fs xs ys hu
      split at he
      · rename_i hp
        obtain ⟨us, rfl, hxl⟩ := hx.inv_agg
        obtain ⟨vs, rfl, hyl⟩ := hy.inv_agg
        have hf : P.fieldsOf t = fs := by unfold Program.fieldsOf; rw [hu]
        rw [run_equalIn_struct w _ t us vs (by rw [hf]; exact hu) hp, hf]
        clear hf hu hp
        generalize fs.toList = l at he
        induction l generalizing r with
        | nil => simp only [eqF, Option.some.injEq] at he; subst he; rfl
        | cons f l ihl =>
          unfold eqF at he
          unfold Op.eqFields
          split at he
          · rename_i hn
            rw [if_pos hn]
            split at he
            · rename_i a b ha hb
              split at he
              · rename_i hs
                obtain ⟨p, hp, hpr⟩ := part_sound hxl ha hs
                obtain ⟨q, hq, hqr⟩ := part_sound hyl hb hs
                cases hr : eqT P d f.type a b with
                | none => rw [hr] at he; cases he
                | some r1 =>
                  rw [hr] at he
                  have h1 := ih f.type a b r1 p q hr hpr hqr
                  simp only [Sem.run_bind, hp, hq, h1, Result.andThen_ok]
                  cases hr2 : eqF P (eqT P d) xs ys l with
                  | none => rw [hr2] at he; cases he
                  | some r2 =>
                    rw [hr2] at he
                    simp only [Option.bind_some, Option.map_some, Option.some.injEq] at he
                    subst he
                    have h2 := ihl r2 hr2
                    cases r1
                    · rfl
                    · simpa using h2
              · cases he
            · cases he
          · rename_i hn
            rw [if_neg hn]
            exact ihl r he
      · cases he
    · rename_i n e xs ys hu
      split at he
      · rename_i hh
        obtain ⟨us, rfl, hxl⟩ := hx.inv_agg
        obtain ⟨vs, rfl, hyl⟩ := hy.inv_agg
        unfold hasT at hh
        obtain ⟨i, hi⟩ := Option.isSome_iff_exists.1 hh
        have hsz : P.cellsOf e = szOf P e := by simp [Program.cellsOf, szOf, hi]
        rw [run_equalIn_array w _ us vs hu hi, hsz]
        clear hu
        generalize List.range n = l at he
        induction l generalizing r with
        | nil => simp only [eqA, Option.some.injEq] at he; subst he; rfl
        | cons j l ihl =>
          unfold eqA at he
          unfold Op.eqItems
          split at he
          · rename_i a b ha hb
            split at he
            · rename_i hs
              obtain ⟨p, hp, hpr⟩ := part_sound hxl ha hs
              obtain ⟨q, hq, hqr⟩ := part_sound hyl hb hs
              cases hr : eqT P d e a b with
              | none => rw [hr] at he; cases he
              | some r1 =>
                rw [hr] at he
                have h1 := ih e a b r1 p q hr hpr hqr
                simp only [Sem.run_bind, hp, hq, h1, Result.andThen_ok]
                cases hr2 : eqA P (eqT P d) e xs ys l with
                | none => rw [hr2] at he; cases he
                | some r2 =>
                  rw [hr2] at he
                  simp only [Option.bind_some, Option.map_some, Option.some.injEq] at he
                  subst he
                  have h2 := ihl r2 hr2
                  cases r1
                  · rfl
                  · simpa using h2
            · cases he
          · cases he
      · cases he
    · cases he


end

/-- Binary operations. -/
def abinT (P : Program) (op : BinOp) (t : TypeId) (x y : AV) : Option (Cnd × AV) :=
  match op, x, y with
  | .eql, .agg xs, .agg ys => if P.eqGuardType P.depth t = false then (eqT P 8 t (.agg xs) (.agg ys)).map fun r => (none, .bool r) else none
  | .neq, .agg xs, .agg ys => if P.eqGuardType P.depth t = false then (eqT P 8 t (.agg xs) (.agg ys)).map fun r => (none, .bool (!r)) else none
  | .eql, .bool a, .bool b => match P.underlying t with | some .bool => some (none, .bool (a == b)) | _ => none
  | .neq, .bool a, .bool b => match P.underlying t with | some .bool => some (none, .bool (!(a == b))) | _ => none
  | op, .int k a, .int k' b => abin op (.int k a) (.int k' b)
  | op, .str a, .str b => abin op (.str a) (.str b)
  | _, _, _ => none

/-- The bytes that a row of them holds. -/
def bytesOf (n : Nat) (f : Nat → AV) : List Int := (List.range n).map fun i => match f i with | .int _ x => x | _ => 0
def isByte : AV → Bool
  | .int .u8 _ => true
  | _ => false
def allBytes (n : Nat) (f : Nat → AV) : Prop := ∀ i, i < n → isByte (f i) = true
instance (n : Nat) (f : Nat → AV) : Decidable (allBytes n f) := inferInstanceAs (Decidable (∀ i, i < n → isByte (f i) = true))
def strBytes (ns : List Int) : ByteArray := ns.foldl (fun r n => r.push (UInt8.ofNat n.toNat)) ByteArray.empty

def aconv (P : Program) (src dst : TypeId) (x : AV) : Option (Cnd × AV) :=
  match P.underlying src, P.underlying dst, x with
  | some _, some (.int k), .int _ n => some (none, .int k (k.wrap n))
  | some _, some .string, .str s => some (none, .str s)
  | some (.slice e), some .string, .sl sz n f => match P.underlying e with
    | some (.int .u8) => some (cnd (sz = 1 ∧ 0 < n ∧ allBytes n f), .str (strBytes (bytesOf n f)))
    | _ => none
  | some (.struct _), some (.struct _), _ => none
  | _, _, _ => none

def aopts (ρ : Operand → AV) : Option Operand → Option (Option AV)
  | none => some none
  | some x => some (some (ρ x))

def afield (P : Program) (s : TypeId) (x : AV) (f : Nat) : Option AV :=
  match structOf P s with
  | some fs => match fs.toList[f]? with
    | some fl => match x with
      | .agg cs => if (P.underlying fl.type).isSome then takeT P fl.type (cs.drop fl.offset) else none
      | _ => none
    | none => none
  | none => none

def afieldAddr (P : Program) (s : TypeId) (x : AV) (f : Nat) : Option AV :=
  match structOf P s with
  | some fs => match fs.toList[f]? with
    | some fl => if hasT P fl.type ∧ szOf P fl.type ≠ 0 then aplace fl.offset x else none
    | none => none
  | none => none

def abuild (P : Program) (t : TypeId) (parts : List (Nat × AV)) : Option AV :=
  match structOf P t with
  | some fs =>
    if (fs.toList.all fun f => hasT P f.type) ∧ (parts.all fun p => !p.2.isAny) = true then
      match zeroV P t with
      | some z => if z.isAny then none else (buildCells parts (fun i => (fs.toList[i]?).map fun f => (f.offset, szOf P f.type)) z.cells).map .agg
      | none => none
    else none
  | none => match seqOf P t with
    | .array n e =>
      if hasT P e ∧ (parts.all fun p => !p.2.isAny) = true then
        match zeroV P t with
        | some z => if z.isAny then none else (buildCells parts (fun i => some (i * szOf P e, szOf P e)) z.cells).map .agg
        | none => none
      else none
    | _ => none

def avmin : AV → AV → Option AV
  | .int k x, .int _ y => some (.int k (if y < x then y else x))
  | _, _ => none
def avmax : AV → AV → Option AV
  | .int k x, .int _ y => some (.int k (if y > x then y else x))
  | _, _ => none

def abuiltin (P : Program) (h : AHeap) (b : Builtin) (ts : List TypeId) (xs : List AV) : Option (Cnd × AV) :=
  match b, ts, xs with
  | .len, t :: _, x :: _ => (alen P h t x).map fun v => (none, v)
  | .min, _, [x, y] => (avmin x y).map fun v => (none, v)
  | .max, _, [x, y] => (avmax x y).map fun v => (none, v)
  | _, _, _ => none

/-- The operations that leave the abstract heap alone: what must hold, and the value. -/
def aopQ (P : Program) (h : AHeap) (ρ : Operand → AV) (o : Oper) : Option (Cnd × AV) :=
  match o.op with
  | .move x => some (none, ρ x)
  | .assign x => some (none, ρ x)
  | .load t a =>
    match cellsAt h (ρ a) with
    | some (c, cs) => if (P.underlying t).isSome then (takeT P t cs).map fun v => (c, v) else none
    | none => none
  | .nilCheck x =>
    match ρ x with
    | .ptr id n sz i off => some (none, .ptr id n sz i off)
    | .pp cs => some (none, .pp cs)
    | .fn g cs => some (none, .fn g cs)
    | _ => none
  | .binOp op t x y _ => abinT P op t (ρ x) (ρ y)
  | .unOp op _ x => (aun op (ρ x)).map fun v => (none, v)
  | .convert src dst x => aconv P src dst (ρ x)
  | .makeFunc (.func g) first cs => if first.toList.length = 0 then some (none, .fn g (cs.toList.map ρ)) else none
  | .slice t x lo hi none => aslice P t (ρ x) (lo.map ρ) (hi.map ρ)
  | .fieldAddr s x f => (afieldAddr P s (ρ x) f).map fun v => (none, v)
  | .field s x f => (afield P s (ρ x) f).map fun v => (none, v)
  | .indexAddr t x ix => aindexAddr P t (ρ x) (ρ ix)
  | .index t x ix => aindex P t (ρ x) (ρ ix)
  | .extract x i => match ρ x with
    | .tup vs => (vs[i]?).map fun v => (none, v)
    | _ => none
  | .build t parts => (abuild P t (parts.toList.map fun p => (p.1, ρ p.2))).map fun v => (none, v)
  | .buildSlice t len parts => (abuildSlice P t len (parts.toList.map fun p => (p.1, ρ p.2))).map fun v => (none, v)
  | .call c => match c.callee with
    | .builtin b => abuiltin P h b c.argTypes.toList (c.args.toList.map ρ)
    | _ => none
  | _ => none

section
variable {m : IdMap} {Mut : Mu} {w : World} {P : Program} {h : AHeap}

theorem abinT_sound {op : BinOp} {t : TypeId} {x y : AV} {u v : Value} {ox oy : Operand} {c : Cnd} {r : AV} (hb : abinT P op t x y = some (c, r)) (hC : c.ok) (hx : RelV m Mut w x u) (hy : RelV m Mut w y v) :
    ∃ z, (do eqGuard op t ox oy u v; binOp op t u v : Sem Value).run P w = .ok z w ∧ RelV m Mut w r z := by
  unfold abinT at hb
  split at hb
  · split at hb
    · rename_i hg
      obtain ⟨us, rfl, hxl⟩ := hx.inv_agg
      obtain ⟨vs, rfl, hyl⟩ := hy.inv_agg
      simp only [Option.map_eq_some_iff, Prod.mk.injEq] at hb
      obtain ⟨q, hq, rfl, rfl⟩ := hb
      have := eqT_sound (k := 9992) 8 t _ _ q _ _ hq hx hy
      refine ⟨.bool q, ?_, .bool _⟩
      rw [Sem.run_bind, run_eqGuard_agg w _ _ _ _ _ _ hg, Result.andThen_ok, run_eql_struct w]
      rw [show (10000 : Nat) = 8 + 9992 from rfl, this]; rfl
    · cases hb
  · split at hb
    · rename_i hg
      obtain ⟨us, rfl, hxl⟩ := hx.inv_agg
      obtain ⟨vs, rfl, hyl⟩ := hy.inv_agg
      simp only [Option.map_eq_some_iff, Prod.mk.injEq] at hb
      obtain ⟨q, hq, rfl, rfl⟩ := hb
      have := eqT_sound (k := 9992) 8 t _ _ q _ _ hq hx hy
      refine ⟨.bool (!q), ?_, .bool _⟩
      rw [Sem.run_bind, run_eqGuard_agg w _ _ _ _ _ _ hg, Result.andThen_ok, run_neq_struct w]
      rw [show (10000 : Nat) = 8 + 9992 from rfl, this]; rfl
    · cases hb
  · split at hb
    · rename_i hu
      cases hb
      rw [hx.inv_bool, hy.inv_bool]
      refine ⟨_, ?_, .bool _⟩
      rw [Sem.run_bind, eqGuard_bool, Result.andThen_ok, run_eql_bool w t _ _ hu]
    · cases hb
  · split at hb
    · rename_i hu
      cases hb
      rw [hx.inv_bool, hy.inv_bool]
      refine ⟨_, ?_, .bool _⟩
      rw [Sem.run_bind, eqGuard_bool, Result.andThen_ok, run_neq_bool w t _ _ hu]
    · cases hb
  · rw [hx.inv_int, hy.inv_int]
    obtain ⟨z, hz, hr⟩ := binInt_sound (m := m) (Mut := Mut) (w := w) (P := P) (t := t) hb hC
    exact ⟨z, by rw [Sem.run_bind, eqGuard_int, Result.andThen_ok, hz], hr⟩
  · rw [hx.inv_str, hy.inv_str]
    obtain ⟨z, hz, hr⟩ := binStr_sound (m := m) (Mut := Mut) (w := w) (P := P) (t := t) hb hC
    exact ⟨z, by rw [Sem.run_bind, eqGuard_str, Result.andThen_ok, hz], hr⟩
  · cases hb

theorem aun_sound {op : UnOp} {x : AV} {u : Value} {r : AV} (hb : aun op x = some r) (hx : RelV m Mut w x u) : ∃ z, (Op.unary op u).run P w = .ok z w ∧ RelV m Mut w r z := by
  unfold aun at hb
  split at hb
  · split at hb
    · cases hb; rw [hx.inv_bool]; exact ⟨_, rfl, .bool _⟩
    · cases hb
  · split at hb
    · cases hb; rw [hx.inv_int]; exact ⟨_, rfl, .int _ _⟩
    · cases hb
  · cases hb

/-- An optional operand. -/
def RelOpt (m : IdMap) (Mut : Mu) (w : World) : Option AV → Option Value → Prop
  | none, none => True
  | some a, some u => RelV m Mut w a u
  | _, _ => False

theorem abounds_sound {isSlice : Bool} {len cap : Nat} {lo hi : Option AV} {ulo uhi : Option Value} {c : Cnd} {l e : Nat} (hb : abounds len lo hi = some (c, l, e)) (hC : c.ok) (hcap : len ≤ cap)
    (hlo : RelOpt m Mut w lo ulo) (hhi : RelOpt m Mut w hi uhi) :
    (Instr.sliceBounds isSlice len cap ulo uhi none).run P w = .ok (l, e, cap) w ∧ l ≤ e ∧ e ≤ len := by
  unfold abounds at hb
  split at hb
  · cases hb
    cases ulo <;> cases uhi <;> simp [RelOpt] at hlo hhi
    exact ⟨by simp [Instr.sliceBounds], Nat.zero_le _, Nat.le_refl _⟩
  · cases hb
    cases ulo <;> cases uhi <;> simp [RelOpt] at hlo hhi
    rw [hlo.inv_int]
    obtain ⟨h0, h1⟩ := hC
    exact ⟨by simp [Instr.sliceBounds, Instr.sliceBound, asIntOf, h0, h1], by omega, Nat.le_refl _⟩
  · cases hb
    cases ulo <;> cases uhi <;> simp [RelOpt] at hlo hhi
    rw [hhi.inv_int]
    obtain ⟨h0, h1⟩ := hC
    have h2 : ∀ k : Int, k ≤ (len : Int) → k ≤ (cap : Int) := fun k hk => by omega
    exact ⟨by simp [Instr.sliceBounds, Instr.sliceBound, asIntOf, h0, h2 _ h1], Nat.zero_le _, by omega⟩
  · rename_i k1 a k2 b
    cases hb
    cases ulo <;> cases uhi <;> simp [RelOpt] at hlo hhi
    rw [hlo.inv_int, hhi.inv_int]
    obtain ⟨h0, h1, h2⟩ := hC
    have h3 : b ≤ (cap : Int) := by omega
    have h4 : 0 ≤ b := by omega
    have h5 : a ≤ ((b.toNat : Nat) : Int) := by omega
    refine ⟨?_, by omega, by omega⟩
    simp only [Instr.sliceBounds, Sem.run_bind, Sem.run_pure, Result.andThen_ok, Instr.sliceBound, asIntOf, h4, h3, and_self, if_true, h0, h5]
  · cases hb

end
end Go.Proofs.Ytjdakdjgkpfjkaa
