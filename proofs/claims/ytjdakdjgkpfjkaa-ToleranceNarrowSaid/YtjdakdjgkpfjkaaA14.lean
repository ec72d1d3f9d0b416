/- Regions whose order is open, where no operation turns the abstract heap: the order does not matter. Conditions: none. -/
import Derived.Test.YtjdakdjgkpfjkaaA13
namespace Go.Proofs.Ytjdakdjgkpfjkaa
set_option linter.unusedVariables false
set_option linter.unusedSimpArgs false

def preds (o : Oper) : List Nat := o.after.toList.filterMap fun e => if Region.binds .any e then some e.on else none

/-- Of each operation, as bits: what must come before it. -/
def befGo : List Oper → List Nat → List Nat
  | [], acc => acc
  | o :: os, acc => befGo os (acc ++ [(preds o).foldl (fun s e => s ||| 2 ^ e ||| acc.getD e 0) 0])
def befs (ops : List Oper) : List Nat := befGo ops []

def tmpsOf (o : Oper) : List Tmp := o.op.operands.toList.filterMap fun | .tmp t => some t | _ => none
def guardTmp (ops : List Oper) (o : Oper) : List Tmp :=
  match o.guard with
  | some (g, _) => ((ops[g]?).bind (·.dst)).toList
  | none => []
def looks (ops : List Oper) (o : Oper) : List Tmp := tmpsOf o ++ guardTmp ops o

def clash (ops : List Oper) (x y : Oper) : Bool :=
  (match x.dst with | some d => (looks ops y).contains d || y.dst == some d | none => false) || (match y.dst with | some d => (looks ops x).contains d | none => false)

/-- Two operations that name one temporary are ordered; each waits for earlier ones alone. -/
def drawOk (ops : List Oper) : Bool :=
  (List.range ops.length).all fun j =>
    match ops[j]? with
    | some oj => ((preds oj).all fun e => decide (e < j)) && (List.range j).all fun i =>
      match ops[i]? with
      | some oi => !clash ops oi oj || ((befs ops).getD j 0).testBit i
      | none => true
    | none => true

section
variable {P : Program}

def Closed (ops : List Oper) (D : Nat → Prop) : Prop := ∀ (j : Nat) (o : Oper), ops[j]? = some o → D j → ∀ e ∈ preds o, D e

theorem testBit_foldl {acc : List Nat} : ∀ (l : List Nat) (s i : Nat), ((l.foldl (fun s e => s ||| 2 ^ e ||| acc.getD e 0) s).testBit i = true) → s.testBit i = true ∨ ∃ e ∈ l, i = e ∨ (acc.getD e 0).testBit i = true := by
  intro l
  induction l with
  | nil => intro s i h; exact .inl h
  | cons e l ih =>
    intro s i h
    rcases ih _ _ h with h | ⟨e', he', h⟩
    · rw [Nat.testBit_or, Nat.testBit_or, Bool.or_eq_true, Bool.or_eq_true] at h
      rcases h with (h | h) | h
      · exact .inl h
      · rw [Nat.testBit_two_pow] at h
        exact .inr ⟨e, List.mem_cons_self .., .inl (by simpa using (of_decide_eq_true h).symm)⟩
      · exact .inr ⟨e, List.mem_cons_self .., .inr h⟩
    · exact .inr ⟨e', List.mem_cons_of_mem _ he', h⟩

theorem befGo_spec {ops : List Oper} {D : Nat → Prop} (hD : Closed ops D) : ∀ (os : List Oper) (acc : List Nat), ops.drop acc.length = os → (∀ j i, D j → (acc.getD j 0).testBit i = true → D i) →
    ∀ j i, D j → ((befGo os acc).getD j 0).testBit i = true → D i := by
  intro os
  induction os with
  | nil => intro acc _ h j i hj hb; exact h j i hj hb
  | cons o os ih =>
    intro acc hd h
    unfold befGo
    have ho : ops[acc.length]? = some o := by
      have : (ops.drop acc.length)[0]? = some o := by rw [hd]; rfl
      rw [List.getElem?_drop] at this
      simpa using this
    refine ih _ (by simp only [List.length_append, List.length_singleton]; rw [← List.drop_drop, hd]; rfl) fun j i hj hb => ?_
    rcases Nat.lt_trichotomy j acc.length with q | q | q
    · rw [List.getD_eq_getElem?_getD, List.getElem?_append_left q, ← List.getD_eq_getElem?_getD] at hb
      exact h j i hj hb
    · subst q
      rw [List.getD_eq_getElem?_getD, List.getElem?_append_right (Nat.le_refl _)] at hb
      simp only [Nat.sub_self, List.getElem?_cons_zero, Option.getD_some] at hb
      rcases testBit_foldl _ _ _ hb with hb | ⟨e, he, hb⟩
      · simp at hb
      · have hDe := hD _ o ho hj e he
        rcases hb with rfl | hb
        · exact hDe
        · exact h e i hDe hb
    · rw [List.getD_eq_getElem?_getD, List.getElem?_eq_none (by simp; omega)] at hb
      simp at hb

theorem befs_spec {ops : List Oper} {D : Nat → Prop} (hD : Closed ops D) {j i : Nat} (hj : D j) (hb : ((befs ops).getD j 0).testBit i = true) : D i :=
  befGo_spec hD ops [] rfl (fun j i _ h => by simp at h) j i hj hb

/-- The run in the text's order, by quiet operations alone. -/
def runOpsQ (P : Program) (ops : List Oper) (h : AHeap) : List Oper → List AV → List Dec → (List AV → List Dec → Prop) → Prop
  | [], T, ds, K => K T ds
  | o :: os, T, ds, K =>
    match o.guard with
    | none =>
      match opResQ P o T h ds with
      | some (cs, v, ds') => conjs cs (runOpsQ P ops h os (aput T o.dst v) ds' K)
      | none => False
    | some (j, want) =>
      match guardVal ops T j, ds with
      | .bool q, .b d :: ds1 =>
        q = d ∧ (match d == want with
          | true =>
            match opResQ P o T h ds1 with
            | some (cs, v, ds') => conjs cs (runOpsQ P ops h os (aput T o.dst v) ds' K)
            | none => False
          | false => runOpsQ P ops h os (aput T o.dst .undef) ds1 K)
      | .undef, ds => runOpsQ P ops h os (aput T o.dst .undef) ds K
      | _, _ => False

/-- What is known of one operation at its place in the text. -/
def OpFact (P : Program) (ops : List Oper) (h : AHeap) (o : Oper) (T : List AV) (v : AV) : Prop :=
  (o.guard = none ∧ ∃ ds cs ds', opResQ P o T h ds = some (cs, v, ds') ∧ ∀ c ∈ cs, c) ∨
  (∃ j want q, o.guard = some (j, want) ∧ guardVal ops T j = .bool q ∧
    ((q = want ∧ ∃ ds cs ds', opResQ P o T h ds = some (cs, v, ds') ∧ ∀ c ∈ cs, c) ∨ (q ≠ want ∧ v = .undef))) ∨
  (∃ j want, o.guard = some (j, want) ∧ guardVal ops T j = .undef ∧ v = .undef)

/-- The temporaries when the operations of D have run. -/
def upTo (ops : List Oper) (v : Nat → AV) (D : Nat → Bool) (T : List AV) (l : List Nat) : List AV :=
  l.foldl (fun T i => if D i then aput T ((ops[i]?).bind (·.dst)) (v i) else T) T

theorem upTo_append (ops : List Oper) (v : Nat → AV) (D : Nat → Bool) (T : List AV) (l l' : List Nat) : upTo ops v D T (l ++ l') = upTo ops v D (upTo ops v D T l) l' := by simp [upTo]

theorem upTo_congr {ops : List Oper} {v v' : Nat → AV} {D : Nat → Bool} : ∀ (l : List Nat) (T : List AV), (∀ i ∈ l, v i = v' i) → upTo ops v D T l = upTo ops v' D T l := by
  intro l
  induction l with
  | nil => intro T _; rfl
  | cons i l ih =>
    intro T h
    show upTo ops v D (if D i then aput T ((ops[i]?).bind (·.dst)) (v i) else T) l = upTo ops v' D (if D i then aput T ((ops[i]?).bind (·.dst)) (v' i) else T) l
    rw [ih _ fun j hj => h j (List.mem_cons_of_mem _ hj), h i (List.mem_cons_self ..)]

theorem runOpsQ_facts {ops : List Oper} {h : AHeap} {K : List AV → List Dec → Prop} : ∀ (os : List Oper) (k : Nat) (T : List AV) (ds : List Dec), ops.drop k = os → runOpsQ P ops h os T ds K →
    ∃ (v : Nat → AV) (ds' : List Dec), K (upTo ops v (fun _ => true) T (List.range' k (ops.length - k))) ds' ∧
      ∀ j o, k ≤ j → ops[j]? = some o → OpFact P ops h o (upTo ops v (fun _ => true) T (List.range' k (j - k))) (v j) := by
  intro os
  induction os with
  | nil =>
    intro k T ds hd hr
    have : ops.length - k = 0 := by have := congrArg List.length hd; simpa using this
    rw [this]
    exact ⟨fun _ => .any, ds, hr, fun j o hj ho => by
      have : j < ops.length := (List.getElem?_eq_some_iff.1 ho).1
      omega⟩
  | cons o os ih =>
    intro k T ds hd hr
    have hlen : ops.length - k = (ops.length - (k + 1)) + 1 := by have := congrArg List.length hd; simp at this; omega
    have hko : ops[k]? = some o := by
      have : (ops.drop k)[0]? = some o := by rw [hd]; rfl
      rw [List.getElem?_drop] at this
      simpa using this
    have hd' : ops.drop (k + 1) = os := by rw [← List.drop_drop, hd]; rfl
    have go : ∀ (x : AV) (ds1 : List Dec), OpFact P ops h o T x → runOpsQ P ops h os (aput T o.dst x) ds1 K →
        ∃ (v : Nat → AV) (ds' : List Dec), K (upTo ops v (fun _ => true) T (List.range' k (ops.length - k))) ds' ∧
          ∀ j o, k ≤ j → ops[j]? = some o → OpFact P ops h o (upTo ops v (fun _ => true) T (List.range' k (j - k))) (v j) := by
      intro x ds1 hf hr
      obtain ⟨v, ds', g1, g2⟩ := ih (k + 1) _ ds1 hd' hr
      have shift : ∀ n, upTo ops (fun i => if i = k then x else v i) (fun _ => true) T (List.range' k (n + 1)) = upTo ops v (fun _ => true) (aput T o.dst x) (List.range' (k + 1) n) := by
        intro n
        rw [List.range'_succ]
        show upTo ops _ _ (aput T ((ops[k]?).bind (·.dst)) (if k = k then x else v k)) (List.range' (k + 1) n) = _
        rw [hko, if_pos rfl]
        exact upTo_congr _ _ fun i hi => by
          have : i ≠ k := by have := (List.mem_range'_1.1 hi).1; omega
          simp [this]
      refine ⟨fun i => if i = k then x else v i, ds', by rw [hlen, shift]; exact g1, fun j o' hj ho' => ?_⟩
      by_cases hjk : j = k
      · subst hjk
        rw [hko] at ho'; cases ho'
        simpa [upTo] using hf
      · have := g2 j o' (by omega) ho'
        rw [show j - k = (j - (k + 1)) + 1 by omega, shift]
        show OpFact P ops h o' _ (if j = k then x else v j)
        rw [if_neg hjk]
        exact this
    unfold runOpsQ at hr
    split at hr
    · rename_i hg
      split at hr
      · rename_i cs v ds' hres
        obtain ⟨c1, c2⟩ := conjs_iff hr
        exact go v ds' (.inl ⟨hg, ds, cs, ds', hres, c1⟩) c2
      · exact hr.elim
    · rename_i j want hg
      split at hr
      · rename_i q d ds1 hgv
        obtain ⟨rfl, hr⟩ := hr
        split at hr
        · rename_i hqw
          split at hr
          · rename_i cs v ds' hres
            obtain ⟨c1, c2⟩ := conjs_iff hr
            exact go v ds' (.inr (.inl ⟨j, want, q, hg, hgv, .inl ⟨by simpa using hqw, ds1, cs, ds', hres, c1⟩⟩)) c2
          · exact hr.elim
        · rename_i hqw
          exact go .undef ds1 (.inr (.inl ⟨j, want, q, hg, hgv, .inr ⟨by simpa using hqw, rfl⟩⟩)) hr
      · rename_i hgv
        exact go .undef _ (.inr (.inr ⟨j, want, hg, hgv, rfl⟩)) hr
      · exact hr.elim

/-! ### What an operation looks at -/
theorem aopQ_congr {h : AHeap} {ρ ρ' : Operand → AV} {o : Oper} (hx : ∀ x ∈ o.op.operands, ρ x = ρ' x) : aopQ P h ρ o = aopQ P h ρ' o := by
  have one : ∀ {f : AV → Option (Cnd × AV)} {x : Operand}, ρ x = ρ' x → f (ρ x) = f (ρ' x) := fun h => by rw [h]
  unfold aopQ
  cases ho : o.op with
  | move x => rw [ho] at hx; simp only [hx x (by simp [Op.operands])]
  | assign x => rw [ho] at hx; simp only [hx x (by simp [Op.operands])]
  | load t x => rw [ho] at hx; simp only [hx x (by simp [Op.operands])]
  | nilCheck x => rw [ho] at hx; simp only [hx x (by simp [Op.operands])]
  | binOp op t x y yt => rw [ho] at hx; simp only [hx x (by simp [Op.operands]), hx y (by simp [Op.operands])]
  | unOp op t x => rw [ho] at hx; simp only [hx x (by simp [Op.operands])]
  | convert a b x => rw [ho] at hx; simp only [hx x (by simp [Op.operands])]
  | makeFunc fn first cs =>
    rw [ho] at hx
    have hm : cs.toList.map ρ = cs.toList.map ρ' := List.map_congr_left fun y hy => hx y (by simp [Op.operands]; exact .inr (by simpa using hy))
    cases fn <;> simp only [hm]
  | slice t x lo hi mx =>
    rw [ho] at hx
    have h0 := hx x (by simp [Op.operands])
    have h1 : lo.map ρ = lo.map ρ' := by
      cases lo with
      | none => rfl
      | some y => exact congrArg some (hx y (by simp [Op.operands]))
    have h2 : hi.map ρ = hi.map ρ' := by
      cases hi with
      | none => rfl
      | some y => exact congrArg some (hx y (by simp [Op.operands]))
    cases mx <;> simp only [h0, h1, h2]
  | fieldAddr s x f => rw [ho] at hx; simp only [hx x (by simp [Op.operands])]
  | field s x f => rw [ho] at hx; simp only [hx x (by simp [Op.operands])]
  | indexAddr t x ix => rw [ho] at hx; simp only [hx x (by simp [Op.operands]), hx ix (by simp [Op.operands])]
  | index t x ix => rw [ho] at hx; simp only [hx x (by simp [Op.operands]), hx ix (by simp [Op.operands])]
  | extract x i => rw [ho] at hx; simp only [hx x (by simp [Op.operands])]
  | build t ps =>
    rw [ho] at hx
    have hm : (ps.toList.map fun p => (p.1, ρ p.2)) = ps.toList.map fun p => (p.1, ρ' p.2) := List.map_congr_left fun y hy => by
      rw [hx y.2 (by simp only [Op.operands, List.mem_toArray, List.mem_map]; exact ⟨y, hy, rfl⟩)]
    simp only [hm]
  | buildSlice t len ps =>
    rw [ho] at hx
    have hm : (ps.toList.map fun p => (p.1, ρ p.2)) = ps.toList.map fun p => (p.1, ρ' p.2) := List.map_congr_left fun y hy => by
      rw [hx y.2 (by simp only [Op.operands, List.mem_toArray, List.mem_map]; exact ⟨y, hy, rfl⟩)]
    simp only [hm]
  | call c =>
    rw [ho] at hx
    have hm : c.args.toList.map ρ = c.args.toList.map ρ' := List.map_congr_left fun y hy => hx y (by simp [Op.operands, Call.operands]; exact .inr (by simpa using hy))
    simp only [hm]
  | _ => rfl

theorem opResQ_congr {h : AHeap} {T T' : List AV} {o : Oper} {ds : List Dec} (hx : ∀ x ∈ o.op.operands, aeval T x = aeval T' x) : opResQ P o T h ds = opResQ P o T' h ds := by
  have hq := aopQ_congr (P := P) (h := h) hx
  unfold opResQ
  cases ho : o.op with
  | pick c a b =>
    rw [ho] at hx
    simp only [hx c (by simp [Op.operands]), hx a (by simp [Op.operands]), hx b (by simp [Op.operands])]
  | call c =>
    rw [ho] at hx
    have hm : c.args.toList.map (aeval T) = c.args.toList.map (aeval T') := List.map_congr_left fun y hy => hx y (by simp [Op.operands, Call.operands]; exact .inr (by simpa using hy))
    cases hc : c.callee with
    | value f =>
      have hf : aeval T f = aeval T' f := hx f (by simp [Op.operands, Call.operands, hc])
      simp only [hm, hf, hc]
    | _ => simp only [hq, hc]
  | _ => simp only [hq]

/-! ### The value of a temporary -/
def lastW (ops : List Oper) (v : Nat → AV) (D : Nat → Bool) (t : Tmp) (l : List Nat) (x : Option AV) : Option AV :=
  l.foldl (fun x i => if D i = true ∧ (ops[i]?).bind (·.dst) = some t then x.map fun _ => v i else x) x

theorem upTo_get {ops : List Oper} {v : Nat → AV} {D : Nat → Bool} (t : Tmp) : ∀ (l : List Nat) (T : List AV), (upTo ops v D T l)[t]? = lastW ops v D t l T[t]? := by
  intro l
  induction l with
  | nil => intro T; rfl
  | cons i l ih =>
    intro T
    show (upTo ops v D (if D i then aput T ((ops[i]?).bind (·.dst)) (v i) else T) l)[t]? = lastW ops v D t l (if D i = true ∧ (ops[i]?).bind (·.dst) = some t then T[t]?.map fun _ => v i else T[t]?)
    rw [ih]
    congr 1
    by_cases hD : D i = true
    · simp only [hD, if_true, true_and]
      cases hd : (ops[i]?).bind (·.dst) with
      | none => simp [aput]
      | some d =>
        simp only [aput, Option.some.injEq, List.getElem?_set]
        by_cases e : d = t
        · subst e
          simp only [if_true]
          rcases Nat.lt_or_ge d T.length with q | q
          · rw [if_pos q, List.getElem?_eq_getElem q]; rfl
          · rw [if_neg (by omega), List.getElem?_eq_none q]; rfl
        · simp [e]
    · simp [hD]

theorem upTo_length {ops : List Oper} {v : Nat → AV} {D : Nat → Bool} : ∀ (l : List Nat) (T : List AV), (upTo ops v D T l).length = T.length := by
  intro l
  induction l with
  | nil => intro T; rfl
  | cons i l ih =>
    intro T
    show (upTo ops v D (if D i then aput T ((ops[i]?).bind (·.dst)) (v i) else T) l).length = _
    rw [ih]
    split
    · cases (ops[i]?).bind (·.dst) <;> simp [aput]
    · rfl

theorem lastW_congr {ops : List Oper} {v : Nat → AV} {D D' : Nat → Bool} {t : Tmp} : ∀ (l : List Nat) (x : Option AV), (∀ i ∈ l, (ops[i]?).bind (·.dst) = some t → D i = D' i) → lastW ops v D t l x = lastW ops v D' t l x := by
  intro l
  induction l with
  | nil => intro x _; rfl
  | cons i l ih =>
    intro x h
    show lastW ops v D t l (if D i = true ∧ (ops[i]?).bind (·.dst) = some t then x.map fun _ => v i else x) = lastW ops v D' t l (if D' i = true ∧ (ops[i]?).bind (·.dst) = some t then x.map fun _ => v i else x)
    have e : (if D i = true ∧ (ops[i]?).bind (·.dst) = some t then x.map fun _ => v i else x) = (if D' i = true ∧ (ops[i]?).bind (·.dst) = some t then x.map fun _ => v i else x) := by
      by_cases hd : (ops[i]?).bind (·.dst) = some t
      · rw [h i (List.mem_cons_self ..) hd]
      · simp [hd]
    rw [e]
    exact ih _ fun j hj => h j (List.mem_cons_of_mem _ hj)

theorem lastW_none {ops : List Oper} {v : Nat → AV} {D : Nat → Bool} {t : Tmp} : ∀ (l : List Nat) (x : Option AV), (∀ i ∈ l, (ops[i]?).bind (·.dst) = some t → D i = false) → lastW ops v D t l x = x := by
  intro l
  induction l with
  | nil => intro x _; rfl
  | cons i l ih =>
    intro x h
    show lastW ops v D t l (if D i = true ∧ (ops[i]?).bind (·.dst) = some t then x.map fun _ => v i else x) = x
    rw [if_neg (fun hh => by have := h i (List.mem_cons_self ..) hh.2; rw [hh.1] at this; cases this)]
    exact ih _ fun j hj => h j (List.mem_cons_of_mem _ hj)

theorem lastW_append {ops : List Oper} {v : Nat → AV} {D : Nat → Bool} {t : Tmp} (l l' : List Nat) (x : Option AV) : lastW ops v D t (l ++ l') x = lastW ops v D t l' (lastW ops v D t l x) := by simp [lastW]


theorem countP_lt {p q : Nat → Bool} : ∀ (l : List Nat), (∀ x ∈ l, q x = true → p x = true) → (∃ x ∈ l, p x = true ∧ q x = false) → l.countP q < l.countP p := by
  intro l
  induction l with
  | nil => rintro _ ⟨x, hx, _⟩; simp at hx
  | cons y l ih =>
    intro h1 h2
    have hle : l.countP q ≤ l.countP p := List.countP_mono_left fun x hx => h1 x (List.mem_cons_of_mem _ hx)
    obtain ⟨x, hx, hp, hq⟩ := h2
    rcases List.mem_cons.1 hx with rfl | hx
    · rw [List.countP_cons_of_neg (by simp [hq]), List.countP_cons_of_pos hp]; omega
    · have := ih (fun z hz => h1 z (List.mem_cons_of_mem _ hz)) ⟨x, hx, hp, hq⟩
      by_cases hqy : q y = true
      · rw [List.countP_cons_of_pos hqy, List.countP_cons_of_pos (h1 y (List.mem_cons_self ..) hqy)]; omega
      · rw [List.countP_cons_of_neg hqy]
        by_cases hpy : p y = true
        · rw [List.countP_cons_of_pos hpy]; omega
        · rw [List.countP_cons_of_neg hpy]; omega

theorem drawOk_spec {ops : List Oper} (hok : drawOk ops = true) : (∀ j o, ops[j]? = some o → ∀ e ∈ preds o, e < j) ∧
    (∀ i j oi oj, ops[i]? = some oi → ops[j]? = some oj → i < j → clash ops oi oj = true → ((befs ops).getD j 0).testBit i = true) := by
  unfold drawOk at hok
  rw [List.all_eq_true] at hok
  constructor
  · intro j o ho e he
    have hj : j < ops.length := (List.getElem?_eq_some_iff.1 ho).1
    have := hok j (List.mem_range.2 hj)
    rw [ho] at this
    simp only [Bool.and_eq_true, List.all_eq_true, decide_eq_true_eq] at this
    exact this.1 e he
  · intro i j oi oj hi hj hlt hc
    have hjl : j < ops.length := (List.getElem?_eq_some_iff.1 hj).1
    have := hok j (List.mem_range.2 hjl)
    rw [hj] at this
    simp only [Bool.and_eq_true, List.all_eq_true] at this
    have h2 := this.2 i (List.mem_range.2 hlt)
    rw [hi] at h2
    simpa [hc] using h2

theorem operand_look {ops : List Oper} {o : Oper} {t : Tmp} (h : Operand.tmp t ∈ o.op.operands) : t ∈ looks ops o := by
  unfold looks tmpsOf
  refine List.mem_append.2 (.inl (List.mem_filterMap.2 ⟨.tmp t, by simpa using h, rfl⟩))

/-- What is read at its place: the same, whatever else has run. -/
theorem reads_same {ops : List Oper} {v : Nat → AV} {D : Nat → Bool} {T : List AV} (hok : drawOk ops = true) (hD : Closed ops (fun i => D i = true)) {j : Nat} {o : Oper} (ho : ops[j]? = some o) (hj : D j = false) (hp : ∀ e ∈ preds o, D e = true)
    {t : Tmp} (ht : t ∈ looks ops o ∨ o.dst = some t) : (∀ i, j < i → (ops[i]?).bind (·.dst) = some t → D i = false) ∧ (t ∈ looks ops o → (upTo ops v D T (List.range ops.length))[t]? = (upTo ops v (fun _ => true) T (List.range' 0 j))[t]?) := by
  obtain ⟨k1, k2⟩ := drawOk_spec hok
  have hjl : j < ops.length := (List.getElem?_eq_some_iff.1 ho).1
  -- with j itself the set stays closed
  have hD' : Closed ops (fun i => D i = true ∨ i = j) := by
    intro i oi hi hDi e he
    rcases hDi with hDi | rfl
    · exact .inl (hD i oi hi hDi e he)
    · rw [ho] at hi; cases hi; exact .inl (hp e he)
  have before : ∀ i, i < j → (ops[i]?).bind (·.dst) = some t → t ∈ looks ops o → D i = true := by
    intro i hlt hd hl
    cases hi : ops[i]? with
    | none => rw [hi] at hd; cases hd
    | some oi =>
      rw [hi] at hd
      simp only [Option.bind_some] at hd
      have hc : clash ops oi o = true := by
        unfold clash
        rw [hd]
        simp [hl]
      have := befs_spec hD' (.inr rfl) (k2 i j oi o hi ho hlt hc)
      rcases this with h | h
      · exact h
      · omega
  have after : ∀ i, j < i → (ops[i]?).bind (·.dst) = some t → D i = false := by
    intro i hlt hd
    cases hi : ops[i]? with
    | none => rw [hi] at hd; cases hd
    | some oi =>
      rw [hi] at hd
      simp only [Option.bind_some] at hd
      have hc : clash ops o oi = true := by
        unfold clash
        rcases ht with hl | hdst
        · rw [hd]
          cases o.dst with
          | none => simp [hl]
          | some d => simp [hl]
        · rw [hdst, hd]; simp
      cases hDi : D i with
      | false => rfl
      | true =>
        have := befs_spec hD hDi (k2 j i o oi ho hi hlt hc)
        rw [hj] at this; cases this
  refine ⟨after, fun hl => ?_⟩
  rw [upTo_get, upTo_get]
  have hsplit : List.range ops.length = List.range' 0 j ++ List.range' j (ops.length - j) := by
    rw [List.range_eq_range']
    have h9 := List.range'_append_1 (s := 0) (m := j) (n := ops.length - j)
    rw [Nat.zero_add] at h9
    rw [h9, show j + (ops.length - j) = ops.length by omega]
  rw [hsplit, lastW_append, lastW_none (List.range' j (ops.length - j))]
  · exact lastW_congr _ _ fun i hi hd => before i (by have := (List.mem_range'_1.1 hi).2; omega) hd hl
  · intro i hi hd
    rcases Nat.eq_or_lt_of_le (List.mem_range'_1.1 hi).1 with e | e
    · rw [← e]; exact hj
    · exact after i e hd

theorem draw_sound {ops : List Oper} {h : AHeap} {Q : Exit → List AV → AHeap → Prop} {T : List AV} {v : Nat → AV} {m0 : IdMap} {Mut0 : Mu} {w0 : World} (hok : drawOk ops = true)
    (hf : ∀ j o, ops[j]? = some o → OpFact P ops h o (upTo ops v (fun _ => true) T (List.range' 0 j)) (v j))
    (hq : Q .normal (upTo ops v (fun _ => true) T (List.range ops.length)) h) :
    ∀ (fuel : Nat) (listed : Array Bool) (m : IdMap) (Mut : Mu) (w : World) (a : Act), listed.size = ops.length → (List.range ops.length).countP (fun i => !listed.getD i false) ≤ fuel →
      Closed ops (fun i => listed.getD i false = true) → Ext m0 Mut0 w0 m Mut w → RelH m Mut h w → RelT m Mut w (upTo ops v (fun i => listed.getD i false) T (List.range ops.length)) a →
      wpAny P .any ops.toArray (APost Q m0 Mut0 w0) fuel listed a w := by
  obtain ⟨k1, k2⟩ := drawOk_spec hok
  have done : ∀ (listed : Array Bool) (m : IdMap) (Mut : Mu) (w : World) (a : Act), (∀ i, i < ops.length → listed.getD i false = true) → Ext m0 Mut0 w0 m Mut w → RelH m Mut h w →
      RelT m Mut w (upTo ops v (fun i => listed.getD i false) T (List.range ops.length)) a → APost Q m0 Mut0 w0 .normal a w := by
    intro listed m Mut w a hall E H hT
    have e : upTo ops v (fun i => listed.getD i false) T (List.range ops.length) = upTo ops v (fun _ => true) T (List.range ops.length) := by
      apply List.ext_getElem?
      intro t
      rw [upTo_get, upTo_get]
      exact lastW_congr _ _ fun i hi _ => hall i (List.mem_range.1 hi)
    rw [e] at hT
    exact ⟨m, Mut, _, h, hq, E, H, hT⟩
  have allOf : ∀ (listed : Array Bool), listed.size = ops.length → Region.ready .any ops.toArray listed = [] → ∀ n i, i < n → i < ops.length → listed.getD i false = true := by
    intro listed hs hr n
    induction n with
    | zero => intro i hi; omega
    | succ n ih =>
      intro i hi hil
      cases hb : listed.getD i false with
      | true => rfl
      | false =>
        exfalso
        have hmem : i ∈ Region.ready .any ops.toArray listed := by
          rw [mem_ready]
          have hlt : i < listed.size := by omega
          refine ⟨?_, ops[i], by simp [hil], fun e he hbd => ?_⟩
          · simp only [Array.getD, hlt, dif_pos] at hb ⊢; exact hb
          · have hep : e.on ∈ preds ops[i] := List.mem_filterMap.2 ⟨e, by simpa using he, by rw [if_pos hbd]⟩
            have := k1 i ops[i] (List.getElem?_eq_getElem hil) e.on hep
            exact ih e.on (by omega) (by omega)
        rw [hr] at hmem
        cases hmem
  intro fuel
  induction fuel with
  | zero =>
    intro listed m Mut w a hs hc hcl E H hT
    have hall : ∀ i, i < ops.length → listed.getD i false = true := by
      intro i hi
      have := List.countP_eq_zero.1 (Nat.le_zero.1 hc) i (List.mem_range.2 hi)
      simpa using this
    refine ⟨?_, done listed m Mut w a hall E H hT⟩
    cases hr : Region.ready .any ops.toArray listed with
    | nil => rfl
    | cons x xs =>
      have hx : x ∈ Region.ready .any ops.toArray listed := by rw [hr]; exact List.mem_cons_self ..
      rw [mem_ready] at hx
      obtain ⟨h1, o, ho, _⟩ := hx
      have hxl : x < ops.length := by
        rw [List.getElem?_toArray] at ho
        exact (List.getElem?_eq_some_iff.1 ho).1
      have := hall x hxl
      have hlt : x < listed.size := by omega
      simp only [Array.getD, hlt, dif_pos] at h1 this
      rw [h1] at this; cases this
  | succ fuel ih =>
    intro listed m Mut w a hs hc hcl E H hT
    refine ⟨fun hr => done listed m Mut w a (fun i hi => allOf listed hs hr ops.length i hi hi) E H hT, fun j hj => ?_⟩
    rw [mem_ready] at hj
    obtain ⟨hj1, o, ho, hpre⟩ := hj
    rw [List.getElem?_toArray] at ho
    have hjl : j < ops.length := (List.getElem?_eq_some_iff.1 ho).1
    have hlt : j < listed.size := by omega
    have hDj : listed.getD j false = false := by simp only [Array.getD, hlt, dif_pos] at hj1 ⊢; exact hj1
    have hp : ∀ e ∈ preds o, listed.getD e false = true := by
      intro e he
      obtain ⟨ed, hed, heq⟩ := List.mem_filterMap.1 he
      split at heq
      · rename_i hb; cases heq; exact hpre ed (by simpa using hed) hb
      · cases heq
    have hD2 : ∀ i, (listed.setIfInBounds j true).getD i false = (if i = j then true else listed.getD i false) := by
      intro i
      rw [Array.getD_eq_getD_getElem?, Array.getElem?_setIfInBounds]
      by_cases e : j = i
      · subst e; simp [hlt]
      · rw [if_neg e, if_neg (Ne.symm e), Array.getD_eq_getD_getElem?]
    have hcl2 : Closed ops (fun i => (listed.setIfInBounds j true).getD i false = true) := by
      intro i oi hi hDi e he
      rw [hD2] at hDi ⊢
      by_cases eij : i = j
      · subst eij
        rw [ho] at hi; cases hi
        split
        · rfl
        · exact hp e he
      · rw [if_neg eij] at hDi
        split
        · rfl
        · exact hcl i oi hi hDi e he
    have hcount : (List.range ops.length).countP (fun i => !(listed.setIfInBounds j true).getD i false) ≤ fuel := by
      have := countP_lt (p := fun i => !listed.getD i false) (q := fun i => !(listed.setIfInBounds j true).getD i false) (List.range ops.length)
        (fun x _ hx => by
          simp only [hD2, Bool.not_eq_true'] at hx ⊢
          split at hx
          · cases hx
          · exact hx)
        ⟨j, List.mem_range.2 hjl, by simp [hDj], by simp [hD2]⟩
      omega
    -- the temporaries behind j
    have hnew : ∀ (x : AV), x = v j → upTo ops v (fun i => (listed.setIfInBounds j true).getD i false) T (List.range ops.length) = aput (upTo ops v (fun i => listed.getD i false) T (List.range ops.length)) o.dst x := by
      intro x hx
      subst hx
      have hsplit : List.range ops.length = List.range' 0 j ++ (j :: List.range' (j + 1) (ops.length - (j + 1))) := by
        rw [List.range_eq_range', ← List.range'_succ, show ops.length - (j + 1) + 1 = ops.length - j by omega]
        have h9 := List.range'_append_1 (s := 0) (m := j) (n := ops.length - j)
        rw [Nat.zero_add] at h9
        rw [h9, show j + (ops.length - j) = ops.length by omega]
      apply List.ext_getElem?
      intro t
      have same : ∀ l x, (∀ i ∈ l, i ≠ j) → lastW ops v (fun i => (listed.setIfInBounds j true).getD i false) t l x = lastW ops v (fun i => listed.getD i false) t l x := fun l x hl =>
        lastW_congr l x fun i hi _ => by rw [hD2, if_neg (hl i hi)]
      have hL : (upTo ops v (fun i => (listed.setIfInBounds j true).getD i false) T (List.range ops.length))[t]? =
          lastW ops v (fun i => listed.getD i false) t (List.range' (j + 1) (ops.length - (j + 1))) (if o.dst = some t then (lastW ops v (fun i => listed.getD i false) t (List.range' 0 j) T[t]?).map fun _ => v j else lastW ops v (fun i => listed.getD i false) t (List.range' 0 j) T[t]?) := by
        rw [upTo_get, hsplit, lastW_append, same (List.range' 0 j) _ fun i hi => by have := (List.mem_range'_1.1 hi).2; omega]
        show lastW ops v (fun i => (listed.setIfInBounds j true).getD i false) t (List.range' (j + 1) (ops.length - (j + 1))) (if (listed.setIfInBounds j true).getD j false = true ∧ (ops[j]?).bind (·.dst) = some t then (lastW ops v (fun i => listed.getD i false) t (List.range' 0 j) T[t]?).map fun _ => v j else lastW ops v (fun i => listed.getD i false) t (List.range' 0 j) T[t]?) = _
        rw [ho, show (listed.setIfInBounds j true).getD j false = true by rw [hD2, if_pos rfl]]
        simp only [Option.bind_some, true_and]
        exact same _ _ fun i hi => by have := (List.mem_range'_1.1 hi).1; omega
      have hR : (upTo ops v (fun i => listed.getD i false) T (List.range ops.length))[t]? =
          lastW ops v (fun i => listed.getD i false) t (List.range' (j + 1) (ops.length - (j + 1))) (lastW ops v (fun i => listed.getD i false) t (List.range' 0 j) T[t]?) := by
        rw [upTo_get, hsplit, lastW_append]
        show lastW ops v (fun i => listed.getD i false) t (List.range' (j + 1) (ops.length - (j + 1))) (if listed.getD j false = true ∧ (ops[j]?).bind (·.dst) = some t then (lastW ops v (fun i => listed.getD i false) t (List.range' 0 j) T[t]?).map fun _ => v j else lastW ops v (fun i => listed.getD i false) t (List.range' 0 j) T[t]?) = _
        rw [hDj]
        simp
      rw [hL]
      cases hd : o.dst with
      | none => rw [if_neg (by simp)]; exact hR.symm
      | some d =>
        by_cases e : d = t
        · subst e
          rw [if_pos rfl]
          have hno := (reads_same (v := v) (T := T) hok hcl ho hDj hp (.inr hd)).1
          rw [lastW_none (List.range' (j + 1) _) _ fun i hi hdi => hno i (by have := (List.mem_range'_1.1 hi).1; omega) hdi] at hR ⊢
          simp only [aput, List.getElem?_set, if_true]
          rw [← hR]
          rcases Nat.lt_or_ge d (upTo ops v (fun i => listed.getD i false) T (List.range ops.length)).length with q | q
          · rw [if_pos q, List.getElem?_eq_getElem q]; rfl
          · rw [if_neg (by omega), List.getElem?_eq_none q]; rfl
        · rw [if_neg (by simpa using e)]
          simp only [aput, List.getElem?_set, if_neg e]
          exact hR.symm
    have reads : ∀ t, t ∈ looks ops o → (upTo ops v (fun i => listed.getD i false) T (List.range ops.length))[t]? = (upTo ops v (fun _ => true) T (List.range' 0 j))[t]? := fun t ht =>
      (reads_same (v := v) (T := T) hok hcl ho hDj hp (.inl ht)).2 ht
    have evals : ∀ x ∈ o.op.operands, aeval (upTo ops v (fun i => listed.getD i false) T (List.range ops.length)) x = aeval (upTo ops v (fun _ => true) T (List.range' 0 j)) x := by
      intro x hx
      cases x with
      | tmp t => simp only [aeval, List.getD_eq_getElem?_getD, reads t (operand_look hx)]
      | _ => rfl
    have guards : ∀ g want, o.guard = some (g, want) → guardVal ops (upTo ops v (fun i => listed.getD i false) T (List.range ops.length)) g = guardVal ops (upTo ops v (fun _ => true) T (List.range' 0 j)) g := by
      intro g want hg
      unfold guardVal
      cases hd : (ops[g]?).bind (·.dst) with
      | none => rfl
      | some t =>
        have : t ∈ looks ops o := by
          unfold looks guardTmp
          rw [hg]
          simp [hd]
        simp only [List.getD_eq_getElem?_getD, reads t this]
    have step : (∃ ds cs ds', opResQ P o (upTo ops v (fun _ => true) T (List.range' 0 j)) h ds = some (cs, v j, ds') ∧ ∀ c ∈ cs, c) →
        o.wp P a w (wpAny P .any ops.toArray (APost Q m0 Mut0 w0) fuel (listed.setIfInBounds j true)) (APost Q m0 Mut0 w0) := by
      rintro ⟨ds, cs, ds', hres, hcs⟩
      rw [← opResQ_congr evals] at hres
      refine opResQ_sound hres hcs m Mut w a _ _ H hT fun m' Mut' w' x E' H' hx => ?_
      exact ih _ m' Mut' w' _ (by simp [hs]) hcount hcl2 (E.trans E') H' (by rw [hnew _ rfl]; exact (hT.ext E').put o.dst hx)
    have skip : v j = .undef → wpAny P .any ops.toArray (APost Q m0 Mut0 w0) fuel (listed.setIfInBounds j true) (a.put o.dst Go.undef) w := fun hv =>
      ih _ m Mut w _ (by simp [hs]) hcount hcl2 E H (by rw [hnew _ rfl, hv]; exact hT.put o.dst .undef)
    unfold wpOp
    simp only [List.getElem?_toArray, ho]
    rcases hf j o ho with ⟨hg, hres⟩ | ⟨g, want, q, hg, hgv, hres⟩ | ⟨g, want, hg, hgv, hv⟩
    · rw [if_pos (by simp [Region.wanted, hg])]
      exact .inl (step hres)
    · have hy := guard_bool hT ((guards g want hg).trans hgv)
      rcases hres with ⟨rfl, hres⟩ | ⟨hne, hv⟩
      · rw [if_pos (by simp [Region.wanted, hg, hy])]
        exact .inl (step hres)
      · rw [if_neg (by simp [Region.wanted, hg, hy, hne])]
        exact skip hv
    · have hy := guard_undef hT ((guards g want hg).trans hgv)
      rw [if_neg (by simp [Region.wanted, hg, hy])]
      exact skip hv

theorem WPC.regionDraw {id : Nat} {ops : Array Oper} {h : AHeap} {T : List AV} {Q : Exit → List AV → AHeap → Prop} {ds : List Dec} {K : List AV → List Dec → Prop} (hmix : P.follows .mixedOrders = true) (hok : drawOk ops.toList = true)
    (hr : runOpsQ P ops.toList h ops.toList T ds K) (hk : ∀ T ds, K T ds → Q .normal T h) : WPC P (.region id ops true) T h Q := by
  intro m0 Mut0 w0 m Mut w a E H hT
  obtain ⟨v, ds', hK, hf⟩ := runOpsQ_facts ops.toList 0 T ds rfl hr
  refine wp_region_any hmix ?_
  have e0 : upTo ops.toList v (fun i => (Array.replicate ops.size false).getD i false) T (List.range ops.toList.length) = T := by
    apply List.ext_getElem?
    intro t
    rw [upTo_get, lastW_none]
    intro i hi _
    have := List.mem_range.1 hi
    simp only [Array.length_toList] at this
    simp [Array.getD, this]
  have E' : Ext m0 Mut0 w0 m Mut { w with drawn := w.drawn + 1 } := E.trans (.drew m Mut w _)
  refine draw_sound (Q := Q) (v := v) (T := T) (ops := ops.toList) hok (fun j o ho => ?_) ?_ ops.size _ m Mut _ a (by simp) ?_ ?_ E' (H.drew _) ?_
  · simpa using hf j o (Nat.zero_le _) ho
  · rw [List.range_eq_range']
    exact hk _ _ (by simpa using hK)
  · exact Nat.le_trans (List.countP_le_length) (by simp)
  · intro j o ho hj
    rw [Array.getD_eq_getD_getElem?, Array.getElem?_replicate] at hj
    split at hj <;> cases hj
  · rw [e0]
    exact hT.ext (.drew m Mut w _)

end
end Go.Proofs.Ytjdakdjgkpfjkaa
