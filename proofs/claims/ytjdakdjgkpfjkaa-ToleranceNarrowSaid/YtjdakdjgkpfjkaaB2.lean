/- Regions whose order is open, with operations that turn the abstract heap and stand in order with all others. Conditions: none. -/
import Derived.Test.YtjdakdjgkpfjkaaA15
namespace Go.Proofs.Ytjdakdjgkpfjkaa
set_option linter.unusedVariables false
set_option linter.unusedSimpArgs false

/-- Operations that may turn the abstract heap. -/
def isEff (o : Oper) : Bool :=
  match o.op with
  | .alloc _ => true
  | .box _ _ => true
  | .store _ _ _ => true
  | .makeSlice _ _ _ => true
  | .range _ _ => true
  | .next _ _ => true
  | .call c => (match c.callee with | .builtin .append => true | _ => false)
  | _ => false

/-- Operations that only make a new variable. -/
def isLight (o : Oper) : Bool :=
  match o.op with
  | .alloc _ => true
  | .box _ _ => true
  | _ => false

def isCallF (o : Oper) : Bool :=
  match o.op with
  | .call c => (match c.callee with | .value _ => true | _ => false)
  | _ => false

/-- Operations that may read the abstract heap. -/
def isReader (o : Oper) : Bool :=
  match o.op with
  | .load _ _ => true
  | .call _ => true
  | _ => false

def isBar (o : Oper) : Bool := isCallF o || (isEff o && !isLight o)

def mustOrd (b o : Oper) : Bool := isBar o || isLight o || (isEff b && isReader o)

def isStore (o : Oper) : Bool :=
  match o.op with
  | .store _ _ _ => true
  | _ => false
def isLoad (o : Oper) : Bool :=
  match o.op with
  | .load _ _ => true
  | _ => false
def isApp (o : Oper) : Bool :=
  match o.op with
  | .call c => (match c.callee with | .builtin .append => true | _ => false)
  | _ => false
/-- Operations that turn one object, which their operands name. -/
def isTouch (o : Oper) : Bool := isStore o || isApp o
/-- Two places stand in order. -/
def inOrd (ops : List Oper) (k j : Nat) : Bool := if j < k then ((befs ops).getD k 0).testBit j else if k < j then ((befs ops).getD j 0).testBit k else true

/-- The same, but a store or an append and a load may come in either order. -/
def drawEff2 (ops : List Oper) : Bool :=
  (List.range ops.length).all fun k =>
    match ops[k]? with
    | some ok => !isBar ok || (List.range ops.length).all fun j =>
      match ops[j]? with
      | some oj => !mustOrd ok oj || inOrd ops k j || (isTouch ok && isLoad oj)
      | none => true
    | none => true

/-- Calls and operations that turn the heap stand in order with one another and with what makes a variable; the latter of them also with what reads the heap. -/
def drawEff (ops : List Oper) : Bool :=
  (List.range ops.length).all fun k =>
    match ops[k]? with
    | some ok => !isBar ok || (List.range ops.length).all fun j =>
      match ops[j]? with
      | some oj => !mustOrd ok oj || (if j < k then ((befs ops).getD k 0).testBit j else if k < j then ((befs ops).getD j 0).testBit k else true)
      | none => true
    | none => true

def addrOf (o : Oper) : Operand :=
  match o.op with
  | .store _ a _ => a
  | .load _ a => a
  | .call c => c.args.toList.headD (.const Go.undef)
  | _ => .const Go.undef

def AV.at : AV → Option Nat
  | .ptr id _ _ _ _ => some id
  | .mp id => some id
  | _ => none

/-- The object that is turned. -/
def AV.turned : AV → Option Nat
  | .ptr id _ _ _ _ => some id
  | .mp id => some id
  | .ms id _ _ _ _ => some id
  | _ => none

/-- A temporary that nothing from place k on writes. -/
def stays (ops : List Oper) (k : Nat) (x : Operand) : Bool :=
  match x with
  | .tmp t => (ops.drop k).all fun o => match o.dst with | some d => !Nat.beq d t | none => true
  | _ => true

/-- Stores and loads in no order are of different objects. -/
def apartOk (ops : List Oper) (T : List AV) : Bool :=
  (List.range ops.length).all fun k =>
    match ops[k]? with
    | some ok => !isTouch ok || (List.range ops.length).all fun j =>
      match ops[j]? with
      | some oj => !isLoad oj || inOrd ops k j || (stays ops k (addrOf ok) && stays ops j (addrOf oj) && (match (aeval T (addrOf oj)).at with
        | none => true
        | some i => (match (aeval T (addrOf ok)).turned with | some i' => !Nat.beq i i' | none => true)))
      | none => true
    | none => true

section
variable {P : Program}

def runOpsE (P : Program) (ops : List Oper) : List Oper → List AV → AHeap → List Dec → (List AV → AHeap → List Dec → Prop) → Prop
  | [], T, h, ds, K => K T h ds
  | o :: os, T, h, ds, K =>
    match o.guard with
    | none =>
      (match isEff o with
       | true =>
        match opRes P o T h ds with
        | some (cs, v, h', ds') => conjs cs (runOpsE P ops os (aput T o.dst v) h' ds' K)
        | none => False
       | false =>
        match opResQ P o T h ds with
        | some (cs, v, ds') => conjs cs (runOpsE P ops os (aput T o.dst v) h ds' K)
        | none => False)
    | some (j, want) =>
      match guardVal ops T j, ds with
      | .bool q, .b d :: ds1 =>
        q = d ∧ (match d == want with
          | true =>
            (match isEff o with
             | true =>
              match opRes P o T h ds1 with
              | some (cs, v, h', ds') => conjs cs (runOpsE P ops os (aput T o.dst v) h' ds' K)
              | none => False
             | false =>
              match opResQ P o T h ds1 with
              | some (cs, v, ds') => conjs cs (runOpsE P ops os (aput T o.dst v) h ds' K)
              | none => False)
          | false => runOpsE P ops os (aput T o.dst .undef) h ds1 K)
      | .undef, ds => runOpsE P ops os (aput T o.dst .undef) h ds K
      | _, _ => False

/-- One operation at its place. -/
def OpDone (P : Program) (o : Oper) (T : List AV) (h h' : AHeap) (v : AV) : Prop :=
  (isEff o = true ∧ ∃ ds cs ds', opRes P o T h ds = some (cs, v, h', ds') ∧ ∀ c ∈ cs, c) ∨
  (isEff o = false ∧ h' = h ∧ ∃ ds cs ds', opResQ P o T h ds = some (cs, v, ds') ∧ ∀ c ∈ cs, c)

def OpFactE (P : Program) (ops : List Oper) (h h' : AHeap) (o : Oper) (T : List AV) (v : AV) : Prop :=
  (o.guard = none ∧ OpDone P o T h h' v) ∨
  (∃ j want q, o.guard = some (j, want) ∧ guardVal ops T j = .bool q ∧ ((q = want ∧ OpDone P o T h h' v) ∨ (q ≠ want ∧ v = .undef ∧ h' = h))) ∨
  (∃ j want, o.guard = some (j, want) ∧ guardVal ops T j = .undef ∧ v = .undef ∧ h' = h)

theorem OpFactE.quiet {ops : List Oper} {h h' : AHeap} {o : Oper} {T : List AV} {v : AV} (hf : OpFactE P ops h h' o T v) (hq : isEff o = false) : h' = h := by
  have dn : OpDone P o T h h' v → h' = h := fun hd => by
    rcases hd with ⟨h1, _⟩ | ⟨_, h2, _⟩
    · rw [hq] at h1; cases h1
    · exact h2
  rcases hf with ⟨_, hd⟩ | ⟨_, _, _, _, _, ⟨_, hd⟩ | ⟨_, _, hd⟩⟩ | ⟨_, _, _, _, _, hd⟩
  · exact dn hd
  · exact dn hd
  · exact hd
  · exact hd

theorem runOpsE_facts {ops : List Oper} {K : List AV → AHeap → List Dec → Prop} : ∀ (os : List Oper) (k : Nat) (T : List AV) (h : AHeap) (ds : List Dec), ops.drop k = os → runOpsE P ops os T h ds K →
    ∃ (v : Nat → AV) (hs : Nat → AHeap) (ds' : List Dec), hs k = h ∧ K (upTo ops v (fun _ => true) T (List.range' k (ops.length - k))) (hs ops.length) ds' ∧
      ∀ j o, k ≤ j → ops[j]? = some o → OpFactE P ops (hs j) (hs (j + 1)) o (upTo ops v (fun _ => true) T (List.range' k (j - k))) (v j) := by
  intro os
  induction os with
  | nil =>
    intro k T h ds hd hr
    have hz : ops.length - k = 0 := by have := congrArg List.length hd; simpa using this
    rw [hz]
    exact ⟨fun _ => .any, fun _ => h, ds, rfl, hr, fun j o hj ho => by
      have : j < ops.length := (List.getElem?_eq_some_iff.1 ho).1
      omega⟩
  | cons o os ih =>
    intro k T h ds hd hr
    have hlen : ops.length - k = (ops.length - (k + 1)) + 1 := by have := congrArg List.length hd; simp at this; omega
    have hko : ops[k]? = some o := by
      have : (ops.drop k)[0]? = some o := by rw [hd]; rfl
      rw [List.getElem?_drop] at this
      simpa using this
    have hkl : k < ops.length := (List.getElem?_eq_some_iff.1 hko).1
    have hd' : ops.drop (k + 1) = os := by rw [← List.drop_drop, hd]; rfl
    have go : ∀ (x : AV) (h1 : AHeap) (ds1 : List Dec), OpFactE P ops h h1 o T x → runOpsE P ops os (aput T o.dst x) h1 ds1 K →
        ∃ (v : Nat → AV) (hs : Nat → AHeap) (ds' : List Dec), hs k = h ∧ K (upTo ops v (fun _ => true) T (List.range' k (ops.length - k))) (hs ops.length) ds' ∧
          ∀ j o, k ≤ j → ops[j]? = some o → OpFactE P ops (hs j) (hs (j + 1)) o (upTo ops v (fun _ => true) T (List.range' k (j - k))) (v j) := by
      intro x h1 ds1 hf hr
      obtain ⟨v, hs, ds', g0, g1, g2⟩ := ih (k + 1) _ h1 ds1 hd' hr
      have shift : ∀ n, upTo ops (fun i => if i = k then x else v i) (fun _ => true) T (List.range' k (n + 1)) = upTo ops v (fun _ => true) (aput T o.dst x) (List.range' (k + 1) n) := by
        intro n
        rw [List.range'_succ]
        show upTo ops _ _ (aput T ((ops[k]?).bind (·.dst)) (if k = k then x else v k)) (List.range' (k + 1) n) = _
        rw [hko, if_pos rfl]
        exact upTo_congr _ _ fun i hi => by
          have : i ≠ k := by have := (List.mem_range'_1.1 hi).1; omega
          simp [this]
      refine ⟨fun i => if i = k then x else v i, fun i => if i = k then h else hs i, ds', if_pos rfl, ?_, fun j o' hj ho' => ?_⟩
      · show K _ (if ops.length = k then h else hs ops.length) ds'
        rw [hlen, shift, if_neg (Nat.ne_of_gt hkl)]; exact g1
      by_cases hjk : j = k
      · subst hjk
        rw [hko] at ho'; cases ho'
        show OpFactE P ops (if j = j then h else hs j) (if j + 1 = j then h else hs (j + 1)) o _ (if j = j then x else v j)
        rw [if_pos rfl, if_neg (Nat.succ_ne_self j), g0, if_pos rfl]
        simpa [upTo] using hf
      · have := g2 j o' (by omega) ho'
        show OpFactE P ops (if j = k then h else hs j) (if j + 1 = k then h else hs (j + 1)) o' _ (if j = k then x else v j)
        rw [show j - k = (j - (k + 1)) + 1 by omega, shift, if_neg hjk, if_neg (show ¬ j + 1 = k by omega), if_neg hjk]
        exact this
    have one : ∀ (ds1 : List Dec) (R : AV → AHeap → List Dec → Prop), (match isEff o with
       | true =>
        match opRes P o T h ds1 with
        | some (cs, v, h', ds') => conjs cs (runOpsE P ops os (aput T o.dst v) h' ds' K)
        | none => False
       | false =>
        match opResQ P o T h ds1 with
        | some (cs, v, ds') => conjs cs (runOpsE P ops os (aput T o.dst v) h ds' K)
        | none => False) → ∃ x h1 ds2, OpDone P o T h h1 x ∧ runOpsE P ops os (aput T o.dst x) h1 ds2 K := by
      intro ds1 _ hr
      split at hr
      · rename_i he
        split at hr
        · rename_i cs v h' ds' hres
          obtain ⟨c1, c2⟩ := conjs_iff hr
          exact ⟨v, h', ds', .inl ⟨he, ds1, cs, ds', hres, c1⟩, c2⟩
        · exact hr.elim
      · rename_i he
        split at hr
        · rename_i cs v ds' hres
          obtain ⟨c1, c2⟩ := conjs_iff hr
          exact ⟨v, h, ds', .inr ⟨he, rfl, ds1, cs, ds', hres, c1⟩, c2⟩
        · exact hr.elim
    unfold runOpsE at hr
    split at hr
    · rename_i hg
      obtain ⟨x, h1, ds2, d1, d2⟩ := one ds (fun _ _ _ => True) hr
      exact go x h1 ds2 (.inl ⟨hg, d1⟩) d2
    · rename_i j want hg
      split at hr
      · rename_i q d ds1 hgv
        obtain ⟨rfl, hr⟩ := hr
        split at hr
        · rename_i hqw
          obtain ⟨x, h1, ds2, d1, d2⟩ := one ds1 (fun _ _ _ => True) hr
          exact go x h1 ds2 (.inr (.inl ⟨j, want, q, hg, hgv, .inl ⟨by simpa using hqw, d1⟩⟩)) d2
        · rename_i hqw
          exact go .undef h ds1 (.inr (.inl ⟨j, want, q, hg, hgv, .inr ⟨by simpa using hqw, rfl, rfl⟩⟩)) hr
      · rename_i hgv
        exact go .undef h _ (.inr (.inr ⟨j, want, hg, hgv, rfl, rfl⟩)) hr
      · exact hr.elim

theorem aopE_congr {h : AHeap} {ρ ρ' : Operand → AV} {o : Oper} {ds : List Dec} (hx : ∀ x ∈ o.op.operands, ρ x = ρ' x) : aopE P h ρ o ds = aopE P h ρ' o ds := by
  unfold aopE
  cases ho : o.op with
  | box t x => rw [ho] at hx; simp only [hx x (by simp [Op.operands])]
  | store t x y => rw [ho] at hx; simp only [hx x (by simp [Op.operands]), hx y (by simp [Op.operands])]
  | makeSlice t l c => rw [ho] at hx; simp only [hx l (by simp [Op.operands]), hx c (by simp [Op.operands])]
  | range t x => rw [ho] at hx; simp only [hx x (by simp [Op.operands])]
  | next x b => rw [ho] at hx; simp only [hx x (by simp [Op.operands])]
  | call c =>
    rw [ho] at hx
    have hm : ∀ x ∈ c.args.toList, ρ x = ρ' x := fun y hy => hx y (by simp [Op.operands, Call.operands]; exact .inr (by simpa using hy))
    simp only
    split
    · rename_i s x t t' mode shift ds' h1 h2 h3
      rw [hm s (by rw [h2]; simp), hm x (by rw [h2]; simp)]
    · rfl
  | _ => rfl

theorem opRes_congr {h : AHeap} {T T' : List AV} {o : Oper} {ds : List Dec} (hx : ∀ x ∈ o.op.operands, aeval T x = aeval T' x) (he : isEff o = true) : opRes P o T h ds = opRes P o T' h ds := by
  unfold opRes
  rw [aopQ_congr (P := P) (h := h) hx, aopE_congr (P := P) (h := h) (ds := ds) hx]
  cases ho : o.op with
  | call c =>
    simp only [isEff, ho] at he
    cases hc : c.callee with
    | value f => rw [hc] at he; cases he
    | _ => simp only [hc]
  | pick c a b => simp only [isEff, ho] at he; cases he
  | _ => rfl

/-! ### Reading in a heap that holds more -/
def Sees (h H : AHeap) (a : AV) : Prop := ∀ id o, a.at = some id → h[id]? = some o → H[id]? = some o

theorem cellsAt_mono {h H : AHeap} {p : AV} {r : Cnd × List AV} (hh : Sees h H p) (hc : cellsAt h p = some r) : cellsAt H p = some r := by
  cases p with
  | ptr id n sz i off =>
    unfold cellsAt at hc ⊢
    simp only at hc ⊢
    cases hg : h[id]? with
    | none => rw [hg] at hc; cases hc
    | some o => rw [hg] at hc; rw [hh id o rfl hg]; exact hc
  | _ => exact hc

theorem alen_mono {h H : AHeap} {t : TypeId} {x : AV} {r : AV} (hh : Sees h H x) (hc : alen P h t x = some r) : alen P H t x = some r := by
  unfold alen at hc ⊢
  cases hs : seqOf P t with
  | map k e =>
    rw [hs] at hc
    cases x with
    | mp id =>
      simp only at hc ⊢
      cases hg : h[id]? with
      | none => rw [hg] at hc; cases hc
      | some o => rw [hg] at hc; rw [hh id o rfl hg]; exact hc
    | _ => exact hc
  | _ => rw [hs] at hc; cases x <;> exact hc

theorem abuiltin_mono {h H : AHeap} {b : Builtin} {ts : List TypeId} {xs : List AV} {r : Cnd × AV} (hh : ∀ x ∈ xs, Sees h H x) (hc : abuiltin P h b ts xs = some r) : abuiltin P H b ts xs = some r := by
  unfold abuiltin at hc ⊢
  split at hc
  · simp only [Option.map_eq_some_iff] at hc ⊢
    obtain ⟨v, hv, e⟩ := hc
    exact ⟨v, alen_mono (hh _ (List.mem_cons_self ..)) hv, e⟩
  · exact hc
  · exact hc
  · cases hc

theorem aopQ_mono {h H : AHeap} {ρ : Operand → AV} {o : Oper} {r : Cnd × AV} (hh : isReader o = true → ∀ x ∈ o.op.operands, Sees h H (ρ x)) (hq : aopQ P h ρ o = some r) : aopQ P H ρ o = some r := by
  unfold aopQ at hq ⊢
  cases ho : o.op with
  | load t a =>
    rw [ho] at hq
    have hh := hh (by simp [isReader, ho]) a (by simp [ho, Op.operands])
    simp only at hq ⊢
    cases hc : cellsAt h (ρ a) with
    | none => rw [hc] at hq; cases hq
    | some r => rw [hc] at hq; rw [cellsAt_mono hh hc]; exact hq
  | call c =>
    rw [ho] at hq
    have hh := hh (by simp [isReader, ho])
    simp only at hq ⊢
    cases hcal : c.callee with
    | builtin b =>
      rw [hcal] at hq
      refine abuiltin_mono (fun x hx => ?_) hq
      obtain ⟨y, hy, rfl⟩ := List.mem_map.1 hx
      exact hh y (by rw [ho]; simp [Op.operands, Call.operands]; exact .inr (by simpa using hy))
    | _ => rw [hcal] at hq; exact hq
  | makeFunc fn first cs => rw [ho] at hq; cases fn <;> exact hq
  | slice t x lo hi mx => rw [ho] at hq; cases mx <;> exact hq
  | _ => rw [ho] at hq; exact hq

theorem opResQ_mono {h H : AHeap} {o : Oper} {T : List AV} {ds ds' : List Dec} {cs : List Prop} {v : AV} (hf : isCallF o = false) (hh : isReader o = true → ∀ x ∈ o.op.operands, Sees h H (aeval T x)) (hr : opResQ P o T h ds = some (cs, v, ds')) :
    opResQ P o T H ds = some (cs, v, ds') := by
  have lift : ((aopQ P h (aeval T) o).map fun (cd, v) => (cd.list, v, ds)) = some (cs, v, ds') → ((aopQ P H (aeval T) o).map fun (cd, v) => (cd.list, v, ds)) = some (cs, v, ds') := by
    intro hm
    simp only [Option.map_eq_some_iff] at hm ⊢
    obtain ⟨q, hq, e⟩ := hm
    exact ⟨q, aopQ_mono hh hq, e⟩
  unfold opResQ at hr ⊢
  cases ho : o.op with
  | pick c a b => rw [ho] at hr; exact hr
  | call c =>
    rw [ho] at hr
    simp only at hr ⊢
    cases hcal : c.callee with
    | value f => simp [isCallF, ho, hcal] at hf
    | _ => rw [hcal] at hr; exact lift hr
  | _ => rw [ho] at hr; exact lift hr

section
variable {m : IdMap} {Mut : Mu} {w : World} {h : AHeap}

theorem at_mapped {a : AV} {v : Value} {id : Nat} (hr : RelV m Mut w a v) (ha : a.at = some id) : ∃ n x, m id n = some x := by
  cases hr <;> first | (cases ha; exact ⟨_, _, by assumption⟩) | cases ha

/-- A quiet operation that calls no function: the map stays. -/
theorem quiet_wp {o : Oper} {T : List AV} {ds ds' : List Dec} {cs : List Prop} {v : AV} (hf : isCallF o = false) (hr : opResQ P o T h ds = some (cs, v, ds')) (hc : ∀ c ∈ cs, c)
    {a : Act} {next : Act → World → Prop} {Q : Exit → Act → World → Prop} (H : RelH m Mut h w) (hT : RelT m Mut w T a)
    (hk : ∀ w' x, Ext m Mut w m Mut w' → RelH m Mut h w' → RelV m Mut w' v x → next (a.put o.dst x) w') : o.wp P a w next Q := by
  have quiet : ∀ {cd : Cnd}, aopQ P h (aeval T) o = some (cd, v) → cd.ok → o.wp P a w next Q := fun hq hc => by
    obtain ⟨x, w', g1, g2, g3, g4⟩ := aopQ_sound H hT.eval hq hc
    unfold Oper.wp
    rw [g1]
    exact hk w' x g2 g3 g4
  unfold opResQ at hr
  split at hr
  · rename_i c x y ho
    split at hr
    · rename_i q d ds1 hq
      cases hr
      have hqd : q = d := hc _ (List.mem_singleton.2 rfl)
      subst hqd
      have hcv := hT.eval c
      rw [hq] at hcv
      unfold Oper.wp
      rw [show (execOp a.eval o).run P w = .ok (.value (if q then a.eval x else a.eval y)) w by simp [execOp, ho, hcv.inv_bool, asBool]]
      refine hk w _ (.refl _ _ _) H ?_
      cases q
      · exact hT.eval y
      · exact hT.eval x
    · cases hr
  · rename_i c ho
    split at hr
    · rename_i f hcal
      simp [isCallF, ho, hcal] at hf
    · simp only [Option.map_eq_some_iff, Prod.exists, Prod.mk.injEq] at hr
      obtain ⟨cd, v', hq, rfl, rfl, rfl⟩ := hr
      exact quiet hq (Cnd.list_ok hc)
  · simp only [Option.map_eq_some_iff, Prod.exists, Prod.mk.injEq] at hr
    obtain ⟨cd, v', hq, rfl, rfl, rfl⟩ := hr
    exact quiet hq (Cnd.list_ok hc)

/-! ### New objects at kept places -/
theorem RelH.dead (H : RelH m Mut h w) (k : Nat) : RelH m Mut (h ++ List.replicate k .dead) w := by
  have old : ∀ (id : Nat) (o : AObj), (h ++ List.replicate k .dead)[id]? = some o → o = .dead ∨ h[id]? = some o := by
    intro id o ho
    rcases Nat.lt_or_ge id h.length with q | q
    · rw [List.getElem?_append_left q] at ho; exact .inr ho
    · rw [List.getElem?_append_right q, List.getElem?_replicate] at ho
      split at ho <;> cases ho
      exact .inl rfl
  have live : ∀ (id : Nat) (o : AObj), (h ++ List.replicate k .dead)[id]? = some o → o.live = true → h[id]? = some o := fun id o ho hl => by
    rcases old id o ho with rfl | q
    · cases hl
    · exact q
  refine ⟨fun id o ho => ?_, fun id id' o o' b C C' h1 h2 l1 l2 m1 m2 => H.inj id id' o o' b C C' (live id o h1 l1) (live id' o' h2 l2) l1 l2 m1 m2, fun id n x hx => ?_, H.lt, fun id o n x ho hl hx => H.top id o n x ((old id o ho).elim (fun e => by subst e; cases hl) (fun q => q)) hl hx⟩
  · rcases old id o ho with rfl | q
    · exact trivial
    · exact H.obj id o q
  · have := H.dom id n x hx
    simp only [List.length_append]
    omega

theorem RelH.newAt (H : RelH m Mut h w) {i : Nat} (hi : i < h.length) (hn : ∀ n, m i n = none) (o : Obj) (ao : AObj) (C : Nat × Nat) (hl : ao.live = true)
    (ho : RelO (m.put i ao.ver (w.heap.size, C)) (Mut.add w.heap.size) (w.alloc o) i ao) :
    RelH (m.put i ao.ver (w.heap.size, C)) (Mut.add w.heap.size) (h.set i ao) (w.alloc o) ∧
    Ext m Mut w (m.put i ao.ver (w.heap.size, C)) (Mut.add w.heap.size) (w.alloc o) := by
  have hne : ∀ id n x, m id n = some x → id ≠ i := fun id n x hx e => by rw [e, hn] at hx; cases hx
  have hids : ∀ id n x, m id n = some x → m.put i ao.ver (w.heap.size, C) id n = some x := fun id n x hx => by
    rw [IdMap.put_other (.inl (hne id n x hx))]; exact hx
  have E : Ext m Mut w (m.put i ao.ver (w.heap.size, C)) (Mut.add w.heap.size) (w.alloc o) :=
    ⟨rfl, rfl, rfl, by simp, fun b hb _ => Go.RowKit.Below.heap_alloc w o b hb, fun b hb hM hM' => hM'.elim hM (fun e => by omega), fun b hb hM hM' => hM'.elim hM (fun e => by omega), fun b _ hi _ => .inl hi, hids⟩
  have old : ∀ (id : Nat) (o' : AObj), (h.set i ao)[id]? = some o' → (id ≠ i ∧ h[id]? = some o') ∨ (id = i ∧ o' = ao) := by
    intro id o' hid
    rw [List.getElem?_set] at hid
    by_cases e : i = id
    · subst e
      rw [if_pos rfl, if_pos hi] at hid
      exact .inr ⟨rfl, (Option.some.inj hid).symm⟩
    · rw [if_neg e] at hid
      exact .inl ⟨Ne.symm e, hid⟩
  refine ⟨⟨?_, ?_, ?_, ?_, ?_⟩, E⟩
  · intro id o' hid
    rcases old id o' hid with ⟨hlt, hid⟩ | ⟨rfl, rfl⟩
    · refine (H.obj id o' hid).mono E fun b C' hlive hm => ?_
      have hM := (H.obj id o' hid).wr hlive b C' hm
      exact ⟨Go.RowKit.Below.heap_alloc w o b (H.wr b hM), .inl hM⟩
    · exact ho
  · intro id id' o1 o2 b C1 C2 h1 h2 l1 l2 m1 m2
    have back : ∀ (id : Nat) (o1 : AObj) C1, h[id]? = some o1 → o1.live = true → id ≠ i → m.put i ao.ver (w.heap.size, C) id o1.ver = some (b, C1) → m id o1.ver = some (b, C1) ∧ b < w.heap.size := by
      intro id o1 C1 h1 l1 hlt m1
      rw [IdMap.put_other (.inl hlt)] at m1
      exact ⟨m1, H.wr b ((H.obj id o1 h1).wr l1 b C1 m1)⟩
    rcases old id o1 h1 with ⟨hlt, g1⟩ | ⟨rfl, rfl⟩ <;> rcases old id' o2 h2 with ⟨hlt', g2⟩ | ⟨rfl, rfl⟩
    · exact H.inj id id' o1 o2 b C1 C2 g1 g2 l1 l2 (back id o1 C1 g1 l1 hlt m1).1 (back id' o2 C2 g2 l2 hlt' m2).1
    · have := (back id o1 C1 g1 l1 hlt m1).2
      rw [IdMap.put_same] at m2; cases m2; omega
    · have := (back id' o2 C2 g2 l2 hlt' m2).2
      rw [IdMap.put_same] at m1; cases m1; omega
    · rfl
  · intro id n x hx
    simp only [IdMap.put] at hx
    split at hx
    · rename_i e; obtain ⟨rfl, _⟩ := e; simpa using hi
    · have := H.dom id n x hx; simpa using this
  · intro b hb
    rcases hb with hb | rfl
    · have := H.lt b hb; simp; omega
    · simp
  · intro id o' n x hid hl hx
    rcases old id o' hid with ⟨hlt, g⟩ | ⟨rfl, rfl⟩
    · rw [IdMap.put_other (.inl hlt)] at hx
      exact H.top id o' n x g hl hx
    · simp only [IdMap.put] at hx
      split at hx
      · rename_i e; omega
      · rw [hn] at hx; cases hx

theorem newVarAt {t : TypeId} {v : AV} {u : Value} {i : Nat} (H : RelH m Mut h w) (hi : i < h.length) (hn : ∀ n, m i n = none) (hv : RelV m Mut w v u) (hna : v.isAny = false) :
    ∃ m' Mut' w', (newVar t u).run P w = .ok ⟨w.heap.size, 0, none⟩ w' ∧ Ext m Mut w m' Mut' w' ∧ RelH m' Mut' (h.set i (.var v)) w' ∧
      RelV m' Mut' w' (.ptr i 1 v.cells.length 0 0) (.pointer (some ⟨w.heap.size, 0, none⟩)) ∧ ∀ id n, id ≠ i → m' id n = m id n := by
  have hl := relV_cells hv (isAny_ne hna)
  have hids : ∀ id n x, m id n = some x → m.put i 1 (w.heap.size, 0, 1) id n = some x := fun id n x hx => by
    rw [IdMap.put_other (.inl (fun e => by rw [e, hn] at hx; cases hx))]; exact hx
  have E : Ext m Mut w (m.put i 1 (w.heap.size, 0, 1)) (Mut.add w.heap.size) (w.alloc (.cells u.cells t)) :=
    ⟨rfl, rfl, rfl, by simp, fun b hb _ => Go.RowKit.Below.heap_alloc w _ b hb, fun b hb hM hM' => hM'.elim hM (fun e => by omega), fun b hb hM hM' => hM'.elim hM (fun e => by omega), fun b _ hi _ => .inl hi, hids⟩
  obtain ⟨H', E'⟩ := H.newAt hi hn (.cells u.cells t) (.var v) (0, 1) rfl ⟨w.heap.size, u.cells, t, IdMap.put_same _ _ _ _, .inr rfl, heap_alloc_self w _, E.relL hl⟩
  refine ⟨_, _, _, by simp [newVar, newRow], E', H', ?_, fun id n hid => IdMap.put_other (.inl hid)⟩
  have := RelV.ptr (m := m.put i 1 (w.heap.size, 0, 1)) (Mut := Mut.add w.heap.size) (w := w.alloc (.cells u.cells t)) i 1 v.cells.length 0 0 w.heap.size 0 1 (IdMap.put_same _ _ _ _)
  simp only [Nat.zero_mul, Nat.add_zero] at this
  exact this
end

/-- What such an operation does, wherever its place in the heap is kept. -/
def LightAt (P : Program) (o : Oper) (T : List AV) (z : AV) (i : Nat) : Prop :=
  ∀ (m : IdMap) (Mut : Mu) (w : World) (a : Act) (next : Act → World → Prop) (Q : Exit → Act → World → Prop) (H : AHeap), RelH m Mut H w → RelT m Mut w T a → i < H.length → (∀ n, m i n = none) →
    (∀ m' Mut' w' x, Ext m Mut w m' Mut' w' → RelH m' Mut' (H.set i (.var z)) w' → RelV m' Mut' w' (.ptr i 1 z.cells.length 0 0) x → (∀ id n, id ≠ i → m' id n = m id n) → next (a.put o.dst x) w') → o.wp P a w next Q

theorem light_res {h : AHeap} {o : Oper} (hl : isLight o = true) {T : List AV} {ds ds' : List Dec} {cs : List Prop} {v : AV} {h' : AHeap} (hr : opRes P o T h ds = some (cs, v, h', ds')) :
    ∃ z, v = .ptr h.length 1 z.cells.length 0 0 ∧ h' = h ++ [.var z] ∧ LightAt P o T z h.length := by
  unfold opRes at hr
  cases ho : o.op with
  | alloc e =>
    have hq : aopQ P h (aeval T) o = none := by unfold aopQ; rw [ho]
    rw [ho] at hr
    simp only [hq] at hr
    unfold aopE at hr
    rw [ho] at hr
    simp only at hr
    cases hz : zeroV P e with
    | none => rw [hz] at hr; cases hr
    | some z =>
      rw [hz] at hr
      simp only at hr
      split at hr
      · cases hr
      · rename_i hna
        cases hr
        refine ⟨z, rfl, rfl, fun m Mut w a next Q H HH hT hi hn hk => ?_⟩
        obtain ⟨zc, hzr, rfl, i, hi', hzi⟩ := run_zeroValue (w := w) hz
        obtain ⟨m', Mut', w', g1, g2, g3, g4, g5⟩ := newVarAt (P := P) (t := e) HH hi hn (ofV_rel (m := m) (Mut := Mut) (w := w) zc) (by simpa using hna)
        unfold Oper.wp
        rw [show (execOp a.eval o).run P w = .ok (.value (.pointer (some ⟨w.heap.size, 0, none⟩))) w' by simp [execOp, ho, Instr.alloc, hzr, g1]]
        exact hk m' Mut' w' _ g2 g3 g4 g5
  | box t x =>
    have hq : aopQ P h (aeval T) o = none := by unfold aopQ; rw [ho]
    rw [ho] at hr
    simp only [hq] at hr
    unfold aopE at hr
    rw [ho] at hr
    simp only at hr
    split at hr
    · cases hr
    · rename_i hna
      cases hr
      refine ⟨aeval T x, rfl, rfl, fun m Mut w a next Q H HH hT hi hn hk => ?_⟩
      obtain ⟨m', Mut', w', g1, g2, g3, g4, g5⟩ := newVarAt (P := P) (t := t) HH hi hn (hT.eval x) (by simpa using hna)
      unfold Oper.wp
      rw [show (execOp a.eval o).run P w = .ok (.value (.pointer (some ⟨w.heap.size, 0, none⟩))) w' by simp [execOp, ho, Instr.box, g1]]
      exact hk m' Mut' w' _ g2 g3 g4 g5
  | _ => simp [isLight, ho] at hl


/-! ### The order is open -/
theorem drawEff_spec {ops : List Oper} (h : drawEff ops = true) {k j : Nat} {ok oj : Oper} (hk : ops[k]? = some ok) (hb : isBar ok = true) (hj : ops[j]? = some oj) (hm : mustOrd ok oj = true) :
    (j < k → ((befs ops).getD k 0).testBit j = true) ∧ (k < j → ((befs ops).getD j 0).testBit k = true) := by
  unfold drawEff at h
  have := List.all_eq_true.1 h k (List.mem_range.2 (List.getElem?_eq_some_iff.1 hk).1)
  rw [hk] at this
  simp only [hb, Bool.not_true, Bool.false_or, List.all_eq_true] at this
  have := this j (List.mem_range.2 (List.getElem?_eq_some_iff.1 hj).1)
  rw [hj] at this
  simp only [hm, Bool.not_true, Bool.false_or] at this
  refine ⟨fun hlt => by rw [if_pos hlt] at this; exact this, fun hlt => by rw [if_neg (by omega), if_pos hlt] at this; exact this⟩

/-- Two places stand in order, as bits. -/
def Ordd (ops : List Oper) (k j : Nat) : Prop := (j < k → ((befs ops).getD k 0).testBit j = true) ∧ (k < j → ((befs ops).getD j 0).testBit k = true)

theorem inOrd_spec {ops : List Oper} {k j : Nat} (h : inOrd ops k j = true) : Ordd ops k j := by
  unfold inOrd at h
  exact ⟨fun hlt => by rw [if_pos hlt] at h; exact h, fun hlt => by rw [if_neg (by omega), if_pos hlt] at h; exact h⟩

theorem Ordd.symm' {ops : List Oper} {k j : Nat} (h : Ordd ops k j) : Ordd ops j k := ⟨h.2, h.1⟩

theorem drawEff2_spec {ops : List Oper} (h : drawEff2 ops = true) {k j : Nat} {ok oj : Oper} (hk : ops[k]? = some ok) (hb : isBar ok = true) (hj : ops[j]? = some oj) (hm : mustOrd ok oj = true) :
    Ordd ops k j ∨ (isTouch ok = true ∧ isLoad oj = true) := by
  unfold drawEff2 at h
  have := List.all_eq_true.1 h k (List.mem_range.2 (List.getElem?_eq_some_iff.1 hk).1)
  rw [hk] at this
  simp only [hb, Bool.not_true, Bool.false_or, List.all_eq_true] at this
  have := this j (List.mem_range.2 (List.getElem?_eq_some_iff.1 hj).1)
  rw [hj] at this
  simp only [hm, Bool.not_true, Bool.false_or, Bool.or_eq_true, Bool.and_eq_true] at this
  rcases this with h | h
  · exact .inl (inOrd_spec h)
  · exact .inr h

theorem bar_after (ops : List Oper) : ∀ (n j : Nat), ops.length - j = n → j ≤ ops.length → ∃ c, j ≤ c ∧ c ≤ ops.length ∧ (∀ k o, j ≤ k → k < c → ops[k]? = some o → isBar o = false) ∧ (c < ops.length → ∃ o, ops[c]? = some o ∧ isBar o = true) := by
  intro n
  induction n with
  | zero => intro j h1 h2; exact ⟨j, Nat.le_refl _, h2, fun k o a b => by omega, fun h => by omega⟩
  | succ n ih =>
    intro j h1 h2
    have hlt : j < ops.length := by omega
    cases hb : isBar ops[j] with
    | true => exact ⟨j, Nat.le_refl _, h2, fun k o a b => by omega, fun _ => ⟨_, List.getElem?_eq_getElem hlt, hb⟩⟩
    | false =>
      obtain ⟨c, g1, g2, g3, g4⟩ := ih (j + 1) (by omega) (by omega)
      refine ⟨c, by omega, g2, fun k o a b ho => ?_, g4⟩
      by_cases e : k = j
      · subst e; rw [List.getElem?_eq_getElem hlt] at ho; cases ho; exact hb
      · exact g3 k o (by omega) b ho

/-- How heaps follow one another: outside of operations that turn it, it grows by new variables at most. -/
def Grow (ops : List Oper) (hs : Nat → AHeap) : Prop :=
  (∀ j o, ops[j]? = some o → isEff o = false → hs (j + 1) = hs j) ∧ ∀ j o, ops[j]? = some o → isLight o = true → hs (j + 1) = hs j ∨ ∃ z, hs (j + 1) = hs j ++ [.var z]

theorem seg {ops : List Oper} {hs : Nat → AHeap} (hg : Grow ops hs) (a : Nat) : ∀ b, a ≤ b → b ≤ ops.length → (∀ k o, a ≤ k → k < b → ops[k]? = some o → isEff o = true → isLight o = true) →
    ∃ vs, hs b = hs a ++ vs ∧ ∀ q, q < vs.length → ∃ k o, a ≤ k ∧ k < b ∧ ops[k]? = some o ∧ isLight o = true ∧ (hs k).length = (hs a).length + q ∧ (hs (k + 1)).length = (hs k).length + 1 := by
  intro b
  induction b with
  | zero => intro h1 _ _; obtain rfl : a = 0 := by omega
            exact ⟨[], by simp, fun q hq => by simp at hq⟩
  | succ b ih =>
    intro h1 h2 h3
    by_cases e : a = b + 1
    · subst e; exact ⟨[], by simp, fun q hq => by simp at hq⟩
    obtain ⟨vs, g1, g2⟩ := ih (by omega) (by omega) fun k o a1 a2 => h3 k o a1 (by omega)
    have hlt : b < ops.length := by omega
    have keep : hs (b + 1) = hs b → ∃ vs, hs (b + 1) = hs a ++ vs ∧ ∀ q, q < vs.length → ∃ k o, a ≤ k ∧ k < b + 1 ∧ ops[k]? = some o ∧ isLight o = true ∧ (hs k).length = (hs a).length + q ∧ (hs (k + 1)).length = (hs k).length + 1 := fun e => by
      refine ⟨vs, by rw [e, g1], fun q hq => ?_⟩
      obtain ⟨k, o, a1, a2, a3⟩ := g2 q hq
      exact ⟨k, o, a1, by omega, a3⟩
    cases he : isEff ops[b] with
    | false => exact keep (hg.1 b _ (List.getElem?_eq_getElem hlt) he)
    | true =>
      have hl := h3 b _ (by omega) (by omega) (List.getElem?_eq_getElem hlt) he
      rcases hg.2 b _ (List.getElem?_eq_getElem hlt) hl with e | ⟨z, e⟩
      · exact keep e
      · refine ⟨vs ++ [.var z], by rw [e, g1, List.append_assoc], fun q hq => ?_⟩
        simp only [List.length_append, List.length_singleton] at hq
        by_cases hq' : q < vs.length
        · obtain ⟨k, o, a1, a2, a3⟩ := g2 q hq'
          exact ⟨k, o, a1, by omega, a3⟩
        · exact ⟨b, _, by omega, by omega, List.getElem?_eq_getElem hlt, hl, by rw [g1]; simp; omega, by rw [e]; simp⟩

/-- How far the run has come. -/
structure Cut (ops : List Oper) (hs : Nat → AHeap) (D : Nat → Bool) (c : Nat) (H : AHeap) (m : IdMap) : Prop where
  le : c ≤ ops.length
  bar : c < ops.length → ∃ o, ops[c]? = some o ∧ isBar o = true
  cut : ∀ k o, ops[k]? = some o → isBar o = true → (D k = true ↔ k < c)
  light : ∀ k o, ops[k]? = some o → isLight o = true → D k = true → k < c
  pure : ∀ k o, k < c → ops[k]? = some o → isLight o = true → D k = false → ∀ i oi, k < i → i < c → ops[i]? = some oi → isBar oi = false
  len : H.length = (hs c).length
  pend : ∀ k o, k < c → ops[k]? = some o → isLight o = true → D k = false → (hs (k + 1)).length = (hs k).length + 1 → ∀ n, m (hs k).length n = none
  get : ∀ id, (∃ k o, k < c ∧ ops[k]? = some o ∧ isLight o = true ∧ D k = false ∧ (hs k).length = id ∧ (hs (k + 1)).length = id + 1) ∨ H[id]? = (hs c)[id]?

theorem notBar {o : Oper} (h : isBar o = false) : isEff o = true → isLight o = true := by
  intro he
  unfold isBar at h
  rw [he] at h
  cases hl : isLight o with
  | true => rfl
  | false => rw [hl] at h; simp at h

theorem light_eff {o : Oper} (h : isLight o = true) : isEff o = true ∧ isBar o = false := by
  unfold isLight at h
  unfold isBar isEff isCallF isLight
  cases ho : o.op <;> rw [ho] at h <;> first | exact ⟨rfl, rfl⟩ | cases h

/-- A new segment begins. -/
theorem cut_from {ops : List Oper} {hs : Nat → AHeap} {D : Nat → Bool} {j : Nat} {m : IdMap} {Mut : Mu} {w : World} (hg : Grow ops hs) (hj : j ≤ ops.length) (hbar : ∀ k o, ops[k]? = some o → isBar o = true → (D k = true ↔ k < j))
    (hl : ∀ k o, ops[k]? = some o → isLight o = true → (D k = true ↔ k < j)) (H : RelH m Mut (hs j) w) : ∃ c H', Cut ops hs D c H' m ∧ RelH m Mut H' w := by
  obtain ⟨c, h1, h2, h3, h4⟩ := bar_after ops _ j rfl hj
  have sg : ∀ b, j ≤ b → b ≤ c → ∃ vs, hs b = hs j ++ vs ∧ ∀ q, q < vs.length → ∃ k o, j ≤ k ∧ k < b ∧ ops[k]? = some o ∧ isLight o = true ∧ (hs k).length = (hs j).length + q ∧ (hs (k + 1)).length = (hs k).length + 1 :=
    fun b hb hbc => seg hg j b hb (by omega) fun k o a1 a2 ho => notBar (h3 k o a1 (by omega) ho)
  obtain ⟨vs, g1, g2⟩ := sg c h1 (Nat.le_refl _)
  refine ⟨c, hs j ++ List.replicate vs.length .dead, ⟨h2, h4, fun k o ho hb => ?_, fun k o ho hl' hD => ?_, fun k o hk ho hl' hD i oi hi hic hoi => ?_, ?_, fun k o hk ho hl' hD hgr n => ?_, fun id => ?_⟩, H.dead _⟩
  · rw [hbar k o ho hb]
    constructor
    · intro h; omega
    · intro h
      rcases Nat.lt_or_ge k j with q | q
      · exact q
      · have := h3 k o q h ho; rw [hb] at this; cases this
  · have := (hl k o ho hl').1 hD; omega
  · have hkj : j ≤ k := by
      rcases Nat.lt_or_ge k j with q | q
      · rw [(hl k o ho hl').2 q] at hD; cases hD
      · exact q
    exact h3 i oi (by omega) hic hoi
  · rw [g1]; simp
  · have hkj : j ≤ k := by
      rcases Nat.lt_or_ge k j with q | q
      · rw [(hl k o ho hl').2 q] at hD; cases hD
      · exact q
    obtain ⟨us, e1, _⟩ := sg k hkj (by omega)
    cases hm : m (hs k).length n with
    | none => rfl
    | some x =>
      have := H.dom _ _ _ hm
      rw [e1] at this
      simp at this
      omega
  · rcases Nat.lt_or_ge id (hs j).length with q | q
    · right; rw [g1, List.getElem?_append_left q, List.getElem?_append_left q]
    · rcases Nat.lt_or_ge id ((hs j).length + vs.length) with q2 | q2
      · left
        obtain ⟨k, o, a1, a2, a3, a4, a5, a6⟩ := g2 (id - (hs j).length) (by omega)
        refine ⟨k, o, a2, a3, a4, ?_, by omega, by omega⟩
        cases hD : D k with
        | false => rfl
        | true => have := (hl k o a3 a4).1 hD; omega
      · right; rw [g1, List.getElem?_eq_none (by simp; omega), List.getElem?_eq_none (by simp; omega)]

theorem OpFactE.grow {ops : List Oper} {h h' : AHeap} {o : Oper} {T : List AV} {v : AV} (hf : OpFactE P ops h h' o T v) (hl : isLight o = true) : h' = h ∨ ∃ z, h' = h ++ [.var z] := by
  have dn : OpDone P o T h h' v → h' = h ∨ ∃ z, h' = h ++ [.var z] := fun hd => by
    rcases hd with ⟨h1, ds, cs, ds', hres, _⟩ | ⟨_, h2, _⟩
    · obtain ⟨z, _, hz, _⟩ := light_res hl hres
      exact .inr ⟨z, hz⟩
    · exact .inl h2
  rcases hf with ⟨_, hd⟩ | ⟨_, _, _, _, _, ⟨_, hd⟩ | ⟨_, _, hd⟩⟩ | ⟨_, _, _, _, _, hd⟩
  · exact dn hd
  · exact dn hd
  · exact .inl hd
  · exact .inl hd

theorem draw_soundE {ops : List Oper} {hs : Nat → AHeap} {Q : Exit → List AV → AHeap → Prop} {T : List AV} {v : Nat → AV} {m0 : IdMap} {Mut0 : Mu} {w0 : World} (hok : drawOk ops = true)
    (hord : ∀ (k j : Nat) (ok oj : Oper), ops[k]? = some ok → isBar ok = true → ops[j]? = some oj → (isBar oj || isLight oj) = true → Ordd ops k j)
    (hap : ∀ (k j : Nat) (ok oj : Oper), ops[k]? = some ok → isEff ok = true → isLight ok = false → ops[j]? = some oj → isEff oj = false → isReader oj = true →
      Ordd ops k j ∨ ∀ x ∈ oj.op.operands, ∀ id, (aeval (upTo ops v (fun _ => true) T (List.range' 0 j)) x).at = some id → ∀ y, (hs k)[id]? = some y → (hs (k + 1))[id]? = some y)
    (hf : ∀ j o, ops[j]? = some o → OpFactE P ops (hs j) (hs (j + 1)) o (upTo ops v (fun _ => true) T (List.range' 0 j)) (v j))
    (hq : Q .normal (upTo ops v (fun _ => true) T (List.range ops.length)) (hs ops.length)) :
    ∀ (fuel : Nat) (listed : Array Bool) (m : IdMap) (Mut : Mu) (w : World) (a : Act), listed.size = ops.length → (List.range ops.length).countP (fun i => !listed.getD i false) ≤ fuel →
      Closed ops (fun i => listed.getD i false = true) → Ext m0 Mut0 w0 m Mut w → (∃ c H, Cut ops hs (fun i => listed.getD i false) c H m ∧ RelH m Mut H w) → RelT m Mut w (upTo ops v (fun i => listed.getD i false) T (List.range ops.length)) a →
      wpAny P .any ops.toArray (APost Q m0 Mut0 w0) fuel listed a w := by
  obtain ⟨k1, k2⟩ := drawOk_spec hok
  have hg : Grow ops hs := ⟨fun j o ho he => (hf j o ho).quiet he, fun j o ho hl => (hf j o ho).grow hl⟩
  have done : ∀ (listed : Array Bool) (m : IdMap) (Mut : Mu) (w : World) (a : Act), (∀ i, i < ops.length → listed.getD i false = true) → Ext m0 Mut0 w0 m Mut w → (∃ c H, Cut ops hs (fun i => listed.getD i false) c H m ∧ RelH m Mut H w) →
      RelT m Mut w (upTo ops v (fun i => listed.getD i false) T (List.range ops.length)) a → APost Q m0 Mut0 w0 .normal a w := by
    intro listed m Mut w a hall E ⟨c, H0, hc, H⟩ hT
    have hcl : H0 = hs ops.length := by
      have hcn : c = ops.length := by
        rcases Nat.lt_or_ge c ops.length with q | q
        · obtain ⟨o, ho, hb⟩ := hc.bar q
          have := (hc.cut c o ho hb).1 (hall c q)
          omega
        · have := hc.le; omega
      subst hcn
      apply List.ext_getElem?
      intro id
      rcases hc.get id with ⟨k, o, hk, _, _, hD, _⟩ | h
      · rw [hall k hk] at hD; cases hD
      · exact h
    rw [hcl] at H
    have e : upTo ops v (fun i => listed.getD i false) T (List.range ops.length) = upTo ops v (fun _ => true) T (List.range ops.length) := by
      apply List.ext_getElem?
      intro t
      rw [upTo_get, upTo_get]
      exact lastW_congr _ _ fun i hi _ => hall i (List.mem_range.1 hi)
    rw [e] at hT
    exact ⟨m, Mut, _, hs ops.length, hq, E, H, hT⟩
  have allOf : ∀ (listed : Array Bool), listed.size = ops.length → Region.ready .any ops.toArray listed = [] → ∀ n i, i < n → i < ops.length → listed.getD i false = true := by
    intro listed hsz hr n
    induction n with
    | zero => intro i hi; omega
    | succ n ih =>
      intro i hi hil
      cases hb : listed.getD i false with
      | true => rfl
      | false =>
        exfalso
        have hmem : i ∈ Region.ready .any ops.toArray listed := by
          rw [mem_ready]
          have hlt : i < listed.size := by omega
          refine ⟨?_, ops[i], by simp [hil], fun e he hbd => ?_⟩
          · simp only [Array.getD, hlt, dif_pos] at hb ⊢; exact hb
          · have hep : e.on ∈ preds ops[i] := List.mem_filterMap.2 ⟨e, by simpa using he, by rw [if_pos hbd]⟩
            have := k1 i ops[i] (List.getElem?_eq_getElem hil) e.on hep
            exact ih e.on (by omega) (by omega)
        rw [hr] at hmem
        cases hmem
  intro fuel
  induction fuel with
  | zero =>
    intro listed m Mut w a hsz hcnt hcl E H hT
    have hall : ∀ i, i < ops.length → listed.getD i false = true := by
      intro i hi
      have := List.countP_eq_zero.1 (Nat.le_zero.1 hcnt) i (List.mem_range.2 hi)
      simpa using this
    refine ⟨?_, done listed m Mut w a hall E H hT⟩
    cases hr : Region.ready .any ops.toArray listed with
    | nil => rfl
    | cons x xs =>
      have hx : x ∈ Region.ready .any ops.toArray listed := by rw [hr]; exact List.mem_cons_self ..
      rw [mem_ready] at hx
      obtain ⟨h1, o, ho, _⟩ := hx
      have hxl : x < ops.length := by
        rw [List.getElem?_toArray] at ho
        exact (List.getElem?_eq_some_iff.1 ho).1
      have := hall x hxl
      have hlt : x < listed.size := by omega
      simp only [Array.getD, hlt, dif_pos] at h1 this
      rw [h1] at this; cases this
  | succ fuel ih =>
    intro listed m Mut w a hsz hcnt hcl E H hT
    refine ⟨fun hr => done listed m Mut w a (fun i hi => allOf listed hsz hr ops.length i hi hi) E H hT, fun j hj => ?_⟩
    rw [mem_ready] at hj
    obtain ⟨hj1, o, ho, hpre⟩ := hj
    rw [List.getElem?_toArray] at ho
    have hjl : j < ops.length := (List.getElem?_eq_some_iff.1 ho).1
    have hlt : j < listed.size := by omega
    have hDj : listed.getD j false = false := by simp only [Array.getD, hlt, dif_pos] at hj1 ⊢; exact hj1
    have hp : ∀ e ∈ preds o, listed.getD e false = true := by
      intro e he
      obtain ⟨ed, hed, heq⟩ := List.mem_filterMap.1 he
      split at heq
      · rename_i hb; cases heq; exact hpre ed (by simpa using hed) hb
      · cases heq
    have hD2 : ∀ i, (listed.setIfInBounds j true).getD i false = (if i = j then true else listed.getD i false) := by
      intro i
      rw [Array.getD_eq_getD_getElem?, Array.getElem?_setIfInBounds]
      by_cases e : j = i
      · subst e; simp [hlt]
      · rw [if_neg e, if_neg (Ne.symm e), Array.getD_eq_getD_getElem?]
    have hcl2 : Closed ops (fun i => (listed.setIfInBounds j true).getD i false = true) := by
      intro i oi hi hDi e he
      rw [hD2] at hDi ⊢
      by_cases eij : i = j
      · subst eij
        rw [ho] at hi; cases hi
        split
        · rfl
        · exact hp e he
      · rw [if_neg eij] at hDi
        split
        · rfl
        · exact hcl i oi hi hDi e he
    have hcount : (List.range ops.length).countP (fun i => !(listed.setIfInBounds j true).getD i false) ≤ fuel := by
      have := countP_lt (p := fun i => !listed.getD i false) (q := fun i => !(listed.setIfInBounds j true).getD i false) (List.range ops.length)
        (fun x _ hx => by
          simp only [hD2, Bool.not_eq_true'] at hx ⊢
          split at hx
          · cases hx
          · exact hx)
        ⟨j, List.mem_range.2 hjl, by simp [hDj], by simp [hD2]⟩
      omega
    -- the temporaries behind j
    have hnew : ∀ (x : AV), x = v j → upTo ops v (fun i => (listed.setIfInBounds j true).getD i false) T (List.range ops.length) = aput (upTo ops v (fun i => listed.getD i false) T (List.range ops.length)) o.dst x := by
      intro x hx
      subst hx
      have hsplit : List.range ops.length = List.range' 0 j ++ (j :: List.range' (j + 1) (ops.length - (j + 1))) := by
        rw [List.range_eq_range', ← List.range'_succ, show ops.length - (j + 1) + 1 = ops.length - j by omega]
        have h9 := List.range'_append_1 (s := 0) (m := j) (n := ops.length - j)
        rw [Nat.zero_add] at h9
        rw [h9, show j + (ops.length - j) = ops.length by omega]
      apply List.ext_getElem?
      intro t
      have same : ∀ l x, (∀ i ∈ l, i ≠ j) → lastW ops v (fun i => (listed.setIfInBounds j true).getD i false) t l x = lastW ops v (fun i => listed.getD i false) t l x := fun l x hl =>
        lastW_congr l x fun i hi _ => by rw [hD2, if_neg (hl i hi)]
      have hL : (upTo ops v (fun i => (listed.setIfInBounds j true).getD i false) T (List.range ops.length))[t]? =
          lastW ops v (fun i => listed.getD i false) t (List.range' (j + 1) (ops.length - (j + 1))) (if o.dst = some t then (lastW ops v (fun i => listed.getD i false) t (List.range' 0 j) T[t]?).map fun _ => v j else lastW ops v (fun i => listed.getD i false) t (List.range' 0 j) T[t]?) := by
        rw [upTo_get, hsplit, lastW_append, same (List.range' 0 j) _ fun i hi => by have := (List.mem_range'_1.1 hi).2; omega]
        show lastW ops v (fun i => (listed.setIfInBounds j true).getD i false) t (List.range' (j + 1) (ops.length - (j + 1))) (if (listed.setIfInBounds j true).getD j false = true ∧ (ops[j]?).bind (·.dst) = some t then (lastW ops v (fun i => listed.getD i false) t (List.range' 0 j) T[t]?).map fun _ => v j else lastW ops v (fun i => listed.getD i false) t (List.range' 0 j) T[t]?) = _
        rw [ho, show (listed.setIfInBounds j true).getD j false = true by rw [hD2, if_pos rfl]]
        simp only [Option.bind_some, true_and]
        exact same _ _ fun i hi => by have := (List.mem_range'_1.1 hi).1; omega
      have hR : (upTo ops v (fun i => listed.getD i false) T (List.range ops.length))[t]? =
          lastW ops v (fun i => listed.getD i false) t (List.range' (j + 1) (ops.length - (j + 1))) (lastW ops v (fun i => listed.getD i false) t (List.range' 0 j) T[t]?) := by
        rw [upTo_get, hsplit, lastW_append]
        show lastW ops v (fun i => listed.getD i false) t (List.range' (j + 1) (ops.length - (j + 1))) (if listed.getD j false = true ∧ (ops[j]?).bind (·.dst) = some t then (lastW ops v (fun i => listed.getD i false) t (List.range' 0 j) T[t]?).map fun _ => v j else lastW ops v (fun i => listed.getD i false) t (List.range' 0 j) T[t]?) = _
        rw [hDj]
        simp
      rw [hL]
      cases hd : o.dst with
      | none => rw [if_neg (by simp)]; exact hR.symm
      | some d =>
        by_cases e : d = t
        · subst e
          rw [if_pos rfl]
          have hno := (reads_same (v := v) (T := T) hok hcl ho hDj hp (.inr hd)).1
          rw [lastW_none (List.range' (j + 1) _) _ fun i hi hdi => hno i (by have := (List.mem_range'_1.1 hi).1; omega) hdi] at hR ⊢
          simp only [aput, List.getElem?_set, if_true]
          rw [← hR]
          rcases Nat.lt_or_ge d (upTo ops v (fun i => listed.getD i false) T (List.range ops.length)).length with q | q
          · rw [if_pos q, List.getElem?_eq_getElem q]; rfl
          · rw [if_neg (by omega), List.getElem?_eq_none q]; rfl
        · rw [if_neg (by simpa using e)]
          simp only [aput, List.getElem?_set, if_neg e]
          exact hR.symm
    have reads : ∀ t, t ∈ looks ops o → (upTo ops v (fun i => listed.getD i false) T (List.range ops.length))[t]? = (upTo ops v (fun _ => true) T (List.range' 0 j))[t]? := fun t ht =>
      (reads_same (v := v) (T := T) hok hcl ho hDj hp (.inl ht)).2 ht
    have evals : ∀ x ∈ o.op.operands, aeval (upTo ops v (fun i => listed.getD i false) T (List.range ops.length)) x = aeval (upTo ops v (fun _ => true) T (List.range' 0 j)) x := by
      intro x hx
      cases x with
      | tmp t => simp only [aeval, List.getD_eq_getElem?_getD, reads t (operand_look hx)]
      | _ => rfl
    have guards : ∀ g want, o.guard = some (g, want) → guardVal ops (upTo ops v (fun i => listed.getD i false) T (List.range ops.length)) g = guardVal ops (upTo ops v (fun _ => true) T (List.range' 0 j)) g := by
      intro g want hg
      unfold guardVal
      cases hd : (ops[g]?).bind (·.dst) with
      | none => rfl
      | some t =>
        have : t ∈ looks ops o := by
          unfold looks guardTmp
          rw [hg]
          simp [hd]
        simp only [List.getD_eq_getElem?_getD, reads t this]
    obtain ⟨c, H0, hc, H⟩ := H
    have hDj' : Closed ops (fun i => listed.getD i false = true ∨ i = j) := by
      intro i oi hi hDi e he
      rcases hDi with hDi | rfl
      · exact .inl (hcl i oi hi hDi e he)
      · rw [ho] at hi; cases hi; exact .inl (hp e he)
    -- an operation that stands in order with j
    have around : ∀ k ok, ops[k]? = some ok → k ≠ j → Ordd ops k j → (listed.getD k false = true ↔ k < j) := by
      intro k ok hk hne hord
      constructor
      · intro hDk
        rcases Nat.lt_or_ge k j with q | q
        · exact q
        · have := befs_spec hcl hDk (hord.1 (by omega))
          rw [hDj] at this; cases this
      · intro hlt
        rcases befs_spec hDj' (.inr rfl) (hord.2 hlt) with h | h
        · exact h
        · exact absurd h hne
    -- a call or an operation that turns the heap: all before it has run, nothing behind it
    have barHere : isBar o = true → (∀ k ok, ops[k]? = some ok → isBar ok = true → (listed.getD k false = true ↔ k < j)) ∧ (∀ k ok, ops[k]? = some ok → isLight ok = true → (listed.getD k false = true ↔ k < j)) ∧ H0 = hs j := by
      intro hb
      have h1 : ∀ k ok, ops[k]? = some ok → isBar ok = true → (listed.getD k false = true ↔ k < j) := fun k ok hk hbk => by
        by_cases e : k = j
        · subst e; simp [hDj]
        · exact around k ok hk e ((hord j k o ok ho hb hk (by simp [hbk])).symm')
      have h2 : ∀ k ok, ops[k]? = some ok → isLight ok = true → (listed.getD k false = true ↔ k < j) := fun k ok hk hlk => by
        by_cases e : k = j
        · subst e; rw [ho] at hk; cases hk; rw [(light_eff hlk).2] at hb; cases hb
        · exact around k ok hk e ((hord j k o ok ho hb hk (by simp [hlk])).symm')
      have hcj : c = j := by
        have hjc : c ≤ j := by
          rcases Nat.lt_or_ge j c with q | q
          · have := (hc.cut j o ho hb).2 q; simp [hDj] at this
          · exact q
        rcases Nat.lt_or_ge c j with q | q
        · obtain ⟨oc, hoc, hbc⟩ := hc.bar (by omega)
          have := (hc.cut c oc hoc hbc).1 ((h1 c oc hoc hbc).2 q)
          omega
        · omega
      subst hcj
      refine ⟨h1, h2, ?_⟩
      apply List.ext_getElem?
      intro id
      rcases hc.get id with ⟨k, ok, hk, hok, hlk, hD, _⟩ | h
      · rw [(h2 k ok hok hlk).2 hk] at hD; cases hD
      · exact h
    have nextBar : isBar o = true → ∀ (m' : IdMap) (Mut' : Mu) (w' : World), RelH m' Mut' (hs (j + 1)) w' → ∃ c H', Cut ops hs (fun i => (listed.setIfInBounds j true).getD i false) c H' m' ∧ RelH m' Mut' H' w' := by
      intro hb m' Mut' w' H'
      obtain ⟨h1, h2, _⟩ := barHere hb
      refine cut_from hg (j := j + 1) (by omega) (fun k ok hk hbk => ?_) (fun k ok hk hlk => ?_) H'
      · show (listed.setIfInBounds j true).getD k false = true ↔ k < j + 1
        rw [hD2]
        by_cases hkj : k = j
        · rw [if_pos hkj]; simp [hkj]
        · rw [if_neg hkj, h1 k ok hk hbk]; omega
      · show (listed.setIfInBounds j true).getD k false = true ↔ k < j + 1
        rw [hD2]
        by_cases hkj : k = j
        · rw [if_pos hkj]; simp [hkj]
        · rw [if_neg hkj, h2 k ok hk hlk]; omega
    -- the state behind an operation that is no bar: what it kept
    have nextSame : isBar o = false → (isLight o = true → j < c) → (isLight o = true → (hs (j + 1)).length ≠ (hs j).length + 1) → ∀ (m' : IdMap), (∀ id n, m' id n = m id n) → Cut ops hs (fun i => (listed.setIfInBounds j true).getD i false) c H0 m' := by
      intro hb hlc hno m' hm'
      have hD3 : ∀ k, k ≠ j → (listed.setIfInBounds j true).getD k false = listed.getD k false := fun k hk => by rw [hD2, if_neg hk]
      have hD4 : ∀ k, (listed.setIfInBounds j true).getD k false = false → k ≠ j ∧ listed.getD k false = false := fun k hk => by
        rw [hD2] at hk
        split at hk
        · cases hk
        · rename_i e; exact ⟨e, hk⟩
      refine ⟨hc.le, hc.bar, fun k ok hk hbk => ?_, fun k ok hk hlk hD => ?_, fun k ok hk hok hlk hD i oi hi hic hoi => hc.pure k ok hk hok hlk (hD4 k hD).2 i oi hi hic hoi, hc.len, fun k ok hk hok hlk hD hgr n => by rw [hm']; exact hc.pend k ok hk hok hlk (hD4 k hD).2 hgr n, fun id => ?_⟩
      · have : k ≠ j := fun e => by subst e; rw [ho] at hk; cases hk; rw [hb] at hbk; cases hbk
        show (listed.setIfInBounds j true).getD k false = true ↔ k < c
        rw [hD3 k this]; exact hc.cut k ok hk hbk
      · by_cases e : k = j
        · subst e; rw [ho] at hk; cases hk; exact hlc hlk
        · exact hc.light k ok hk hlk (by rw [← hD3 k e]; exact hD)
      · rcases hc.get id with ⟨k, ok, hk, hok, hlk, hD, e1, e2⟩ | h
        · left
          have : k ≠ j := fun e => by subst e; rw [ho] at hok; cases hok; exact hno hlk (by omega)
          exact ⟨k, ok, hk, hok, hlk, by show (listed.setIfInBounds j true).getD k false = false; rw [hD3 k this]; exact hD, e1, e2⟩
        · exact .inr h
    -- a light operation stands before the next bar
    have lightIn : isLight o = true → j < c ∧ (∀ i oi, j < i → i < c → ops[i]? = some oi → isBar oi = false) := by
      intro hl
      have hjc : j < c := by
        rcases Nat.lt_or_ge j c with q | q
        · exact q
        · obtain ⟨oc, hoc, hbc⟩ := hc.bar (by omega)
          have hne : c ≠ j := fun e => by subst e; rw [ho] at hoc; cases hoc; rw [(light_eff hl).2] at hbc; cases hbc
          have := (around c oc hoc hne (hord c j oc o hoc hbc ho (by simp [hl]))).2 (by omega)
          have := (hc.cut c oc hoc hbc).1 this
          omega
      exact ⟨hjc, fun i oi hi hic hoi => hc.pure j o hjc ho hl hDj i oi hi hic hoi⟩
    have segTo : ∀ a b, a ≤ b → b ≤ ops.length → (∀ k ok, a ≤ k → k < b → ops[k]? = some ok → isEff ok = true → isLight ok = true) → ∃ vs, hs b = hs a ++ vs := fun a b h1 h2 h3 => by
      obtain ⟨vs, e, _⟩ := seg hg a b h1 h2 h3; exact ⟨vs, e⟩
    have step : OpDone P o (upTo ops v (fun _ => true) T (List.range' 0 j)) (hs j) (hs (j + 1)) (v j) →
        o.wp P a w (wpAny P .any ops.toArray (APost Q m0 Mut0 w0) fuel (listed.setIfInBounds j true)) (APost Q m0 Mut0 w0) := by
      intro hdn
      cases hb : isBar o with
      | true =>
        obtain ⟨h1, h2, rfl⟩ := barHere hb
        rcases hdn with ⟨he, ds, cs, ds', hres, hcs⟩ | ⟨he, hh, ds, cs, ds', hres, hcs⟩
        · rw [← opRes_congr evals he] at hres
          refine opRes_sound hres hcs m Mut w a _ _ H hT fun m' Mut' w' x E' H' hx => ?_
          exact ih _ m' Mut' w' _ (by simp [hsz]) hcount hcl2 (E.trans E') (nextBar hb m' Mut' w' H') (by rw [hnew _ rfl]; exact (hT.ext E').put o.dst hx)
        · rw [← opResQ_congr evals] at hres
          refine opResQ_sound hres hcs m Mut w a _ _ H hT fun m' Mut' w' x E' H' hx => ?_
          exact ih _ m' Mut' w' _ (by simp [hsz]) hcount hcl2 (E.trans E') (nextBar hb m' Mut' w' (by rw [hh]; exact H')) (by rw [hnew _ rfl]; exact (hT.ext E').put o.dst hx)
      | false =>
        rcases hdn with ⟨he, ds, cs, ds', hres, hcs⟩ | ⟨he, hh, ds, cs, ds', hres, hcs⟩
        · have hl := notBar hb he
          rw [← opRes_congr evals he] at hres
          obtain ⟨z, hv, hz, hat⟩ := light_res hl hres
          obtain ⟨hjc, hpure⟩ := lightIn hl
          obtain ⟨us, hus⟩ := segTo (j + 1) c hjc hc.le fun k ok a1 a2 hok => notBar (hpure k ok (by omega) a2 hok)
          have hgr : (hs (j + 1)).length = (hs j).length + 1 := by rw [hz]; simp
          have hlen : (hs j).length < H0.length := by rw [hc.len, hus, hz]; simp
          refine hat m Mut w a _ _ H0 H hT hlen (hc.pend j o hjc ho hl hDj hgr) fun m' Mut' w' x E' H' hx hmm => ?_
          refine ih _ m' Mut' w' _ (by simp [hsz]) hcount hcl2 (E.trans E') ⟨c, _, ?_, H'⟩ (by rw [hnew _ hv.symm]; exact (hT.ext E').put o.dst hx)
          have hD3 : ∀ k, k ≠ j → (listed.setIfInBounds j true).getD k false = listed.getD k false := fun k hk => by rw [hD2, if_neg hk]
          have hD4 : ∀ k, (listed.setIfInBounds j true).getD k false = false → k ≠ j ∧ listed.getD k false = false := fun k hk => by
            rw [hD2] at hk
            split at hk
            · cases hk
            · rename_i e; exact ⟨e, hk⟩
          -- two that make a variable have two places
          have apart : ∀ k ok, k < c → ops[k]? = some ok → isLight ok = true → listed.getD k false = false → (hs (k + 1)).length = (hs k).length + 1 → k ≠ j → (hs k).length ≠ (hs j).length := by
            intro k ok hk hok hlk hD hgk hne
            rcases Nat.lt_or_ge k j with q | q
            · obtain ⟨vs, e⟩ := segTo (k + 1) j q (by have := hc.le; omega) fun i oi a1 a2 hoi => notBar (hc.pure k ok hk hok hlk hD i oi (by omega) (by omega) hoi)
              rw [e]; simp; omega
            · obtain ⟨vs, e⟩ := segTo (j + 1) k (by omega) (by have := hc.le; omega) fun i oi a1 a2 hoi => notBar (hpure i oi (by omega) (by omega) hoi)
              rw [e, hz]; simp
          refine ⟨hc.le, hc.bar, fun k ok hk hbk => ?_, fun k ok hk hlk hD => ?_, fun k ok hk hok hlk hD i oi hi hic hoi => hc.pure k ok hk hok hlk (hD4 k hD).2 i oi hi hic hoi, by rw [List.length_set]; exact hc.len, fun k ok hk hok hlk hD hgk n => ?_, fun id => ?_⟩
          · have : k ≠ j := fun e => by subst e; rw [ho] at hk; cases hk; rw [hb] at hbk; cases hbk
            show (listed.setIfInBounds j true).getD k false = true ↔ k < c
            rw [hD3 k this]; exact hc.cut k ok hk hbk
          · by_cases e : k = j
            · subst e; exact hjc
            · exact hc.light k ok hk hlk (by rw [← hD3 k e]; exact hD)
          · obtain ⟨hne, hD⟩ := hD4 k hD
            rw [hmm _ n (apart k ok hk hok hlk hD hgk hne)]
            exact hc.pend k ok hk hok hlk hD hgk n
          · rw [List.getElem?_set]
            by_cases e : (hs j).length = id
            · right
              rw [if_pos e, if_pos (by omega), hus, hz, ← e, List.getElem?_append_left (by simp), List.getElem?_append_right (Nat.le_refl _)]
              simp
            · rw [if_neg e]
              rcases hc.get id with ⟨k, ok, hk, hok, hlk, hD, e1, e2⟩ | h
              · left
                have hne : k ≠ j := fun e' => e (by rw [← e', e1])
                exact ⟨k, ok, hk, hok, hlk, by show (listed.setIfInBounds j true).getD k false = false; rw [hD3 k hne]; exact hD, e1, e2⟩
              · exact .inr h
        · have hnl : isLight o = false := by
            cases hl : isLight o with
            | false => rfl
            | true => rw [(light_eff hl).1] at he; cases he
          have hcf : isCallF o = false := by
            cases hl : isCallF o with
            | false => rfl
            | true => simp [isBar, hl] at hb
          rw [← opResQ_congr evals] at hres
          -- what it reads stands in the heap as in the text's order
          have sees : isReader o = true → ∀ x ∈ o.op.operands, Sees (hs j) H0 (aeval (upTo ops v (fun i => listed.getD i false) T (List.range ops.length)) x) := by
            intro hrd x hx id ob hat hob
            obtain ⟨n, y, hm⟩ := at_mapped (hT.eval x) hat
            have hid := H.dom id n y hm
            have hat' : (aeval (upTo ops v (fun _ => true) T (List.range' 0 j)) x).at = some id := by rw [← evals x hx]; exact hat
            have hev : ∀ k ok, ops[k]? = some ok → isEff ok = true → isLight ok = false → (k < c ↔ k < j) ∨ ∀ y, (hs k)[id]? = some y → (hs (k + 1))[id]? = some y := fun k ok hk hek hlk => by
              have hbk : isBar ok = true := by simp [isBar, hek, hlk]
              rcases hap k j ok o hk hek hlk ho he hrd with q | q
              · left
                rw [← hc.cut k ok hk hbk]
                by_cases e : k = j
                · subst e; rw [ho] at hk; cases hk; rw [he] at hek; cases hek
                · exact around k ok hk e q
              · exact .inr (q x hx id hat')
            have walk : ∀ n a, (∀ k, a ≤ k → k < a + n → (k < c ↔ k < j) → False) → a + n ≤ ops.length → ∀ y, (hs a)[id]? = some y → (hs (a + n))[id]? = some y := by
              intro n
              induction n with
              | zero => intro a _ _ y hy; exact hy
              | succ n ihn =>
                intro a hno hle y hy
                have h1 := ihn a (fun k a1 a2 => hno k a1 (by omega)) (by omega) y hy
                have hlt : a + n < ops.length := by omega
                have hok' : ops[a + n]? = some ops[a + n] := List.getElem?_eq_getElem hlt
                show (hs (a + n + 1))[id]? = some y
                cases hek : isEff ops[a + n] with
                | false => rw [hg.1 _ _ hok' hek]; exact h1
                | true =>
                  cases hlk : isLight ops[a + n] with
                  | true =>
                    rcases hg.2 _ _ hok' hlk with e | ⟨z, e⟩
                    · rw [e]; exact h1
                    · rw [e, List.getElem?_append_left (List.getElem?_eq_some_iff.1 h1).1]; exact h1
                  | false =>
                    rcases hev _ _ hok' hek hlk with q | q
                    · exact (hno _ (by omega) (by omega) q).elim
                    · exact q y h1
            rcases hc.get id with ⟨k, ok, hk, hok, hlk, hD, e1, e2⟩ | hget
            · have := hc.pend k ok hk hok hlk hD (by omega) n
              rw [e1, hm] at this; cases this
            rw [hget]
            rcases Nat.le_total j c with q | q
            · have := walk (c - j) j (fun k a1 a2 hh => by have := hh.1 (by omega); omega) (by have := hc.le; omega) _ hob
              rw [show j + (c - j) = c by omega] at this
              exact this
            · rw [hc.len] at hid
              have := walk (j - c) c (fun k a1 a2 hh => by have := hh.2 (by omega); omega) (by omega) _ (List.getElem?_eq_getElem hid)
              rw [show c + (j - c) = j by omega, hob] at this
              rw [List.getElem?_eq_getElem hid, this]
          have hres := opResQ_mono hcf sees hres
          refine quiet_wp hcf hres hcs H hT fun w' x E' H' hx => ?_
          exact ih _ m Mut w' _ (by simp [hsz]) hcount hcl2 (E.trans E') ⟨c, H0, nextSame hb (fun h => by rw [hnl] at h; cases h) (fun h => by rw [hnl] at h; cases h) m fun _ _ => rfl, H'⟩ (by rw [hnew _ rfl]; exact (hT.ext E').put o.dst hx)
    have skip : v j = .undef → hs (j + 1) = hs j → wpAny P .any ops.toArray (APost Q m0 Mut0 w0) fuel (listed.setIfInBounds j true) (a.put o.dst Go.undef) w := fun hv hh =>
      ih _ m Mut w _ (by simp [hsz]) hcount hcl2 E (by
        cases hb : isBar o with
        | true =>
          obtain ⟨_, _, rfl⟩ := barHere hb
          exact nextBar hb m Mut w (by rw [hh]; exact H)
        | false => exact ⟨c, H0, nextSame hb (fun hl => (lightIn hl).1) (fun hl => by rw [hh]; omega) m fun _ _ => rfl, H⟩) (by rw [hnew _ rfl, hv]; exact hT.put o.dst .undef)
    unfold wpOp
    simp only [List.getElem?_toArray, ho]
    rcases hf j o ho with ⟨hg, hres⟩ | ⟨g, want, q, hg, hgv, hres⟩ | ⟨g, want, hg, hgv, hv, hh⟩
    · rw [if_pos (by simp [Region.wanted, hg])]
      exact .inl (step hres)
    · have hy := guard_bool hT ((guards g want hg).trans hgv)
      rcases hres with ⟨rfl, hres⟩ | ⟨hne, hv, hh⟩
      · rw [if_pos (by simp [Region.wanted, hg, hy])]
        exact .inl (step hres)
      · rw [if_neg (by simp [Region.wanted, hg, hy, hne])]
        exact skip hv hh
    · have hy := guard_undef hT ((guards g want hg).trans hgv)
      rw [if_neg (by simp [Region.wanted, hg, hy])]
      exact skip hv hh

theorem WPC.regionDrawF {id : Nat} {ops : Array Oper} {h : AHeap} {T : List AV} {Q : Exit → List AV → AHeap → Prop} {v : Nat → AV} {hs : Nat → AHeap} (hmix : P.follows .mixedOrders = true) (hok : drawOk ops.toList = true)
    (hord : ∀ (k j : Nat) (ok oj : Oper), ops.toList[k]? = some ok → isBar ok = true → ops.toList[j]? = some oj → (isBar oj || isLight oj) = true → Ordd ops.toList k j)
    (hap : ∀ (k j : Nat) (ok oj : Oper), ops.toList[k]? = some ok → isEff ok = true → isLight ok = false → ops.toList[j]? = some oj → isEff oj = false → isReader oj = true →
      Ordd ops.toList k j ∨ ∀ x ∈ oj.op.operands, ∀ id, (aeval (upTo ops.toList v (fun _ => true) T (List.range' 0 j)) x).at = some id → ∀ y, (hs k)[id]? = some y → (hs (k + 1))[id]? = some y)
    (h0 : hs 0 = h) (hK : Q .normal (upTo ops.toList v (fun _ => true) T (List.range ops.toList.length)) (hs ops.toList.length))
    (hf : ∀ j o, ops.toList[j]? = some o → OpFactE P ops.toList (hs j) (hs (j + 1)) o (upTo ops.toList v (fun _ => true) T (List.range' 0 j)) (v j)) : WPC P (.region id ops true) T h Q := by
  intro m0 Mut0 w0 m Mut w a E H hT
  refine wp_region_any hmix ?_
  have e0 : upTo ops.toList v (fun i => (Array.replicate ops.size false).getD i false) T (List.range ops.toList.length) = T := by
    apply List.ext_getElem?
    intro t
    rw [upTo_get, lastW_none]
    intro i hi _
    have := List.mem_range.1 hi
    simp only [Array.length_toList] at this
    simp [Array.getD, this]
  have E' : Ext m0 Mut0 w0 m Mut { w with drawn := w.drawn + 1 } := E.trans (.drew m Mut w _)
  refine draw_soundE (Q := Q) (v := v) (hs := hs) (T := T) (ops := ops.toList) hok hord hap (fun j o ho => ?_) ?_ ops.size _ m Mut _ a (by simp) ?_ ?_ E' (cut_from ⟨fun j o ho he => (hf j o ho).quiet he, fun j o ho hl => (hf j o ho).grow hl⟩ (Nat.zero_le _) (fun k o hk he => ?_) (fun k o hk he => ?_) (by rw [h0]; exact H.drew _)) ?_
  · exact hf j o ho
  · exact hK
  · exact Nat.le_trans (List.countP_le_length) (by simp)
  · intro j o ho hj
    rw [Array.getD_eq_getD_getElem?, Array.getElem?_replicate] at hj
    split at hj <;> cases hj
  · have hkl : k < ops.size := by have := (List.getElem?_eq_some_iff.1 hk).1; simpa using this
    simp [Array.getD, hkl]
  · have hkl : k < ops.size := by have := (List.getElem?_eq_some_iff.1 hk).1; simpa using this
    simp [Array.getD, hkl]
  · rw [e0]
    exact hT.ext (.drew m Mut w _)


theorem WPC.regionDrawE {id : Nat} {ops : Array Oper} {h : AHeap} {T : List AV} {Q : Exit → List AV → AHeap → Prop} {ds : List Dec} {K : List AV → AHeap → List Dec → Prop} (hmix : P.follows .mixedOrders = true) (hok : drawOk ops.toList = true) (heff : drawEff ops.toList = true)
    (hr : runOpsE P ops.toList ops.toList T h ds K) (hk : ∀ T h ds, K T h ds → Q .normal T h) : WPC P (.region id ops true) T h Q := by
  obtain ⟨v, hs, ds', h0, hK, hf⟩ := runOpsE_facts ops.toList 0 T h ds rfl hr
  refine .regionDrawF (v := v) (hs := hs) hmix hok (fun k j ok oj hk hb hj hm => drawEff_spec heff hk hb hj (by unfold mustOrd; rw [hm]; rfl))
    (fun k j ok oj hk he hl hj he2 hr2 => .inl (drawEff_spec heff hk (by simp [isBar, he, hl]) hj (by simp [mustOrd, he, hr2]))) h0 ?_ fun j o ho => by simpa using hf j o (Nat.zero_le _) ho
  rw [List.range_eq_range']
  exact hk _ _ _ (by simpa using hK)

theorem stays_eval {ops : List Oper} {v : Nat → AV} {T : List AV} {k : Nat} {x : Operand} (hk : k ≤ ops.length) (h : stays ops k x = true) :
    aeval (upTo ops v (fun _ => true) T (List.range' 0 ops.length)) x = aeval (upTo ops v (fun _ => true) T (List.range' 0 k)) x := by
  cases x with
  | tmp t =>
    simp only [aeval, List.getD_eq_getElem?_getD, upTo_get]
    rw [show List.range' 0 ops.length = List.range' 0 k ++ List.range' k (ops.length - k) by
      have h9 := List.range'_append_1 (s := 0) (m := k) (n := ops.length - k)
      rw [Nat.zero_add] at h9
      rw [h9, show k + (ops.length - k) = ops.length by omega], lastW_append]
    congr 1
    refine lastW_none _ _ fun i hi hd => ?_
    exfalso
    have hik := List.mem_range'_1.1 hi
    simp only [stays, List.all_eq_true] at h
    cases ho : ops[i]? with
    | none => rw [ho] at hd; cases hd
    | some o =>
      rw [ho] at hd
      simp only [Option.bind_some] at hd
      have := h o (List.mem_of_getElem? (i := i - k) (by rw [List.getElem?_drop, show k + (i - k) = i by omega]; exact ho))
      rw [hd] at this
      simp at this
  | _ => rfl

theorem store_touch {h h' : AHeap} {o : Oper} {T : List AV} {ds ds' : List Dec} {cs : List Prop} {v : AV} (hs : isStore o = true) (hr : opRes P o T h ds = some (cs, v, h', ds')) :
    ∃ i x, (aeval T (addrOf o)).at = some i ∧ h' = h.set i x := by
  unfold isStore at hs
  split at hs
  · rename_i t a x ho
    have hq : aopQ P h (aeval T) o = none := by unfold aopQ; rw [ho]
    unfold opRes at hr
    rw [ho] at hr
    simp only [hq] at hr
    unfold aopE at hr
    rw [ho] at hr
    simp only [Option.map_map, Option.map_eq_some_iff, Function.comp, Prod.exists, Prod.mk.injEq] at hr
    obtain ⟨c, h1, hst, _, _, rfl, _⟩ := hr
    unfold astore at hst
    unfold addrOf
    rw [ho]
    simp only
    split at hst
    · split at hst
      · rename_i id n sz i off ha
        rw [ha]
        split at hst
        · split at hst
          · simp only [Option.map_eq_some_iff, Prod.mk.injEq] at hst
            obtain ⟨y, _, _, rfl⟩ := hst
            exact ⟨_, _, rfl, rfl⟩
          · cases hst
        · split at hst
          · split at hst
            · simp only [Option.map_eq_some_iff, Prod.mk.injEq] at hst
              obtain ⟨y, _, _, rfl⟩ := hst
              exact ⟨_, _, rfl, rfl⟩
            · cases hst
          · cases hst
        · cases hst
      · cases hst
    · cases hst
  · cases hs

theorem AV.at_turned {a : AV} {i : Nat} (h : a.at = some i) : a.turned = some i := by
  cases a <;> first | exact h | cases h

theorem app_touch {h h' : AHeap} {o : Oper} {T : List AV} {ds ds' : List Dec} {cs : List Prop} {v : AV} (hs : isApp o = true) (hr : opRes P o T h ds = some (cs, v, h', ds')) {i : Nat}
    (hne : ∀ i', (aeval T (addrOf o)).turned = some i' → i' ≠ i) {y : AObj} (hy : h[i]? = some y) : h'[i]? = some y := by
  unfold isApp at hs
  split at hs
  · rename_i c ho
    split at hs
    · rename_i hc
      have hq : aopQ P h (aeval T) o = none ∨ aopQ P h (aeval T) o ≠ none := by by_cases e : aopQ P h (aeval T) o = none; exact .inl e; exact .inr e
      unfold opRes at hr
      rw [ho] at hr
      simp only [hc] at hr
      split at hr
      · rename_i x hx
        cases hr
        exact hy
      · unfold aopE at hr
        rw [ho] at hr
        simp only [hc] at hr
        split at hr
        · rename_i s x t t' mode shift ds2 _ h3 h4
          have hadr : addrOf o = s := by unfold addrOf; rw [ho]; simp only [h3]; rfl
          rw [hadr] at hne
          split at hr
          · simp only [Option.map_map, Option.map_eq_some_iff, Function.comp, Prod.exists, Prod.mk.injEq] at hr
            obtain ⟨c1, v1, h1, hap, _, _, rfl, _⟩ := hr
            unfold aapp at hap
            split at hap
            · split at hap
              · split at hap
                · split at hap
                  · cases hap; exact hy
                  · cases hap; exact hy
                  · cases hap
                    rw [List.getElem?_append_left (List.getElem?_eq_some_iff.1 hy).1]; exact hy
                  · rename_i h6 h7 h8
                    have hne' := hne _ (by first | (rw [h6]; rfl) | (rw [h7]; rfl) | (rw [h8]; rfl) | trace_state)
                    split at hap
                    · split at hap
                      · split at hap
                        · cases hap; rw [List.getElem?_set_ne hne']; exact hy
                        · cases hap; rw [List.getElem?_set_ne hne']; exact hy
                      · cases hap
                    · cases hap
                  · cases hap
                · cases hap
              · cases hap
            · cases hap
          · cases hr
        · cases hr
    · cases hs
  · cases hs

theorem touch_same {h h' : AHeap} {o : Oper} {T : List AV} {ds ds' : List Dec} {cs : List Prop} {v : AV} (hs : isTouch o = true) (hr : opRes P o T h ds = some (cs, v, h', ds')) {i : Nat}
    (hne : ∀ i', (aeval T (addrOf o)).turned = some i' → i' ≠ i) {y : AObj} (hy : h[i]? = some y) : h'[i]? = some y := by
  unfold isTouch at hs
  cases hst : isStore o with
  | true =>
    obtain ⟨i', z, e1, e2⟩ := store_touch hst hr
    rw [e2, List.getElem?_set_ne (hne _ (AV.at_turned e1))]
    exact hy
  | false =>
    rw [hst] at hs
    exact app_touch hs hr hne hy

theorem load_operand {o : Oper} (h : isLoad o = true) {x : Operand} (hx : x ∈ o.op.operands) : x = addrOf o := by
  unfold isLoad at h
  split at h
  · rename_i t a ho
    unfold addrOf
    rw [ho] at hx ⊢
    simpa [Op.operands] using hx
  · cases h

theorem WPC.regionDrawG {id : Nat} {ops : Array Oper} {h : AHeap} {T : List AV} {Q : Exit → List AV → AHeap → Prop} {v : Nat → AV} {hs : Nat → AHeap} (hmix : P.follows .mixedOrders = true) (hok : drawOk ops.toList = true)
    (heff : drawEff ops.toList = true ∨ (drawEff2 ops.toList = true ∧ apartOk ops.toList (upTo ops.toList v (fun _ => true) T (List.range' 0 ops.toList.length)) = true))
    (h0 : hs 0 = h) (hK : Q .normal (upTo ops.toList v (fun _ => true) T (List.range' 0 ops.toList.length)) (hs ops.toList.length))
    (hf : ∀ j o, ops.toList[j]? = some o → OpFactE P ops.toList (hs j) (hs (j + 1)) o (upTo ops.toList v (fun _ => true) T (List.range' 0 j)) (v j)) : WPC P (.region id ops true) T h Q := by
  rcases heff with heff | ⟨heff, hapart⟩
  · exact .regionDrawF (v := v) (hs := hs) hmix hok (fun k j ok oj hk hb hj hm => drawEff_spec heff hk hb hj (by unfold mustOrd; rw [hm]; rfl))
      (fun k j ok oj hk he hl hj he2 hr2 => .inl (drawEff_spec heff hk (by simp [isBar, he, hl]) hj (by simp [mustOrd, he, hr2]))) h0 (by rw [List.range_eq_range']; exact hK) hf
  · refine .regionDrawF (v := v) (hs := hs) hmix hok (fun k j ok oj hk hb hj hm => ?_) (fun k j ok oj hk he hl hj he2 hr2 => ?_) h0 (by rw [List.range_eq_range']; exact hK) hf
    · rcases drawEff2_spec heff hk hb hj (by unfold mustOrd; rw [hm]; rfl) with q | ⟨_, q⟩
      · exact q
      · exfalso
        unfold isLoad at q
        split at q
        · rename_i ho
          simp [isBar, isLight, isCallF, isEff, ho] at hm
        · cases q
    · rcases drawEff2_spec heff hk (by simp [isBar, he, hl]) hj (by simp [mustOrd, he, hr2]) with q | ⟨q1, q2⟩
      · exact .inl q
      · unfold apartOk at hapart
        have h1 := List.all_eq_true.1 hapart k (List.mem_range.2 (List.getElem?_eq_some_iff.1 hk).1)
        rw [hk] at h1
        simp only [q1, Bool.not_true, Bool.false_or, List.all_eq_true] at h1
        have h2 := h1 j (List.mem_range.2 (List.getElem?_eq_some_iff.1 hj).1)
        rw [hj] at h2
        simp only [q2, Bool.not_true, Bool.false_or, Bool.or_eq_true, Bool.and_eq_true] at h2
        rcases h2 with h2 | ⟨⟨h2, h3⟩, h4⟩
        · exact .inl (inOrd_spec h2)
        · refine .inr fun x hx i hi y hy => ?_
          rw [load_operand q2 hx, ← stays_eval (Nat.le_of_lt (List.getElem?_eq_some_iff.1 hj).1) h3] at hi
          rw [hi] at h4
          simp only at h4
          rw [stays_eval (Nat.le_of_lt (List.getElem?_eq_some_iff.1 hk).1) h2] at h4
          have dn : OpDone P ok (upTo ops.toList v (fun _ => true) T (List.range' 0 k)) (hs k) (hs (k + 1)) (v k) → (hs (k + 1))[i]? = some y := fun hd => by
            rcases hd with ⟨_, ds, cs, ds', hres, _⟩ | ⟨h5, _⟩
            · refine touch_same q1 hres (fun i' e => ?_) hy
              rw [e] at h4
              simp only [Bool.not_eq_true'] at h4
              rintro rfl
              simp at h4
            · rw [he] at h5; cases h5
          rcases hf k ok hk with ⟨_, hd⟩ | ⟨_, _, _, _, _, ⟨_, hd⟩ | ⟨_, _, hd⟩⟩ | ⟨_, _, _, _, _, hd⟩
          · exact dn hd
          · exact dn hd
          · rw [hd]; exact hy
          · rw [hd]; exact hy

theorem WPC.regionDrawE2 {id : Nat} {ops : Array Oper} {h : AHeap} {T : List AV} {Q : Exit → List AV → AHeap → Prop} {ds : List Dec} {K : List AV → AHeap → List Dec → Prop} (hmix : P.follows .mixedOrders = true) (hok : drawOk ops.toList = true) (heff : drawEff2 ops.toList = true)
    (hr : runOpsE P ops.toList ops.toList T h ds fun T' h' ds' => match apartOk ops.toList T' with | true => K T' h' ds' | false => False) (hk : ∀ T h ds, K T h ds → Q .normal T h) : WPC P (.region id ops true) T h Q := by
  obtain ⟨v, hs, ds', h0, hK, hf⟩ := runOpsE_facts ops.toList 0 T h ds rfl hr
  rw [Nat.sub_zero] at hK
  split at hK
  · rename_i hapart
    exact .regionDrawG (v := v) (hs := hs) hmix hok (.inr ⟨heff, hapart⟩) h0 (hk _ _ _ hK) fun j o ho => by simpa using hf j o (Nat.zero_le _) ho
  · exact hK.elim
end
end Go.Proofs.Ytjdakdjgkpfjkaa
