/- The interpreter for calls on data that is all there. Conditions: none. -/
import Derived.Test.YtjdakdjgkpfjkaaB1
namespace Go.Proofs.Ytjdakdjgkpfjkaa
set_option linter.unusedVariables false
set_option linter.unusedSimpArgs false

abbrev CallF := FuncId → List AV → AHeap → Option (AV × AHeap)

/-- A call; without references among the arguments it is run over the empty heap. -/
def iCallQ (call : CallF) (h : AHeap) (g : FuncId) (args : List AV) : Option AV :=
  if args.all (lowF 12 0) then
    match call g args [] with
    | some (r, []) => some r
    | _ => none
  else
    match call g args h with
    | some (r, h') => if eqvH 24 h' h then some r else none
    | none => none

def iQ (P : Program) (call : CallF) (o : Oper) (T : List AV) (h : AHeap) : Option AV :=
  match o.op with
  | .pick c a b =>
    match aeval T c with
    | .bool q => some (if q then aeval T a else aeval T b)
    | _ => none
  | .call c =>
    match c.callee with
    | .value f =>
      match aeval T f with
      | .fn g cap => if callable P g then iCallQ call h g (c.args.toList.map (aeval T) ++ cap) else none
      | _ => none
    | _ => match aopQ P h (aeval T) o with
      | some (cd, v) => if cd.b then some v else none
      | none => none
  | _ => match aopQ P h (aeval T) o with
    | some (cd, v) => if cd.b then some v else none
    | none => none

def appDec (h : AHeap) (o : Oper) (T : List AV) : List Dec :=
  match o.op with
  | .call c => match c.args.toList with
    | [s, x] => match asrc h (aeval T x) with
      | some (_, _, n, _) => [.app (if n = 0 then .none else if n = 1 then .one else .many) (match aeval T s with | .ms _ _ _ off _ => off != 0 | _ => false)]
      | none => []
    | _ => []
  | _ => []

def iE (P : Program) (call : CallF) (o : Oper) (T : List AV) (h : AHeap) : Option (AV × AHeap) :=
  match iQ P call o T h with
  | some v => some (v, h)
  | none =>
    match o.op with
    | .call c =>
      match c.callee with
      | .value f =>
        match aeval T f with
        | .fn g cap => if callable P g then call g (c.args.toList.map (aeval T) ++ cap) h else none
        | _ => none
      | _ => match aopE P h (aeval T) o (appDec h o T) with
        | some (cd, v, h', _) => if cd.b then some (v, h') else none
        | none => none
    | _ => match aopE P h (aeval T) o [] with
      | some (cd, v, h', _) => if cd.b then some (v, h') else none
      | none => none

def iOps (P : Program) (call : CallF) (ops : List Oper) : List Oper → List AV → AHeap → Option (List AV × AHeap)
  | [], T, h => some (T, h)
  | o :: os, T, h =>
    match o.guard with
    | none => match iE P call o T h with
      | some (v, h') => iOps P call ops os (aput T o.dst v) h'
      | none => none
    | some (j, want) =>
      match guardVal ops T j with
      | .bool q => if q == want then
          match iE P call o T h with
          | some (v, h') => iOps P call ops os (aput T o.dst v) h'
          | none => none
        else iOps P call ops os (aput T o.dst .undef) h
      | .undef => iOps P call ops os (aput T o.dst .undef) h
      | _ => none

def iOpsQ (P : Program) (call : CallF) (ops : List Oper) (h : AHeap) : List Oper → List AV → Option (List AV)
  | [], T => some T
  | o :: os, T =>
    match o.guard with
    | none => match iQ P call o T h with
      | some v => iOpsQ P call ops h os (aput T o.dst v)
      | none => none
    | some (j, want) =>
      match guardVal ops T j with
      | .bool q => if q == want then
          match iQ P call o T h with
          | some v => iOpsQ P call ops h os (aput T o.dst v)
          | none => none
        else iOpsQ P call ops h os (aput T o.dst .undef)
      | .undef => iOpsQ P call ops h os (aput T o.dst .undef)
      | _ => none

/-- One operation of a region whose order is open. -/
def iOne (P : Program) (call : CallF) (o : Oper) (T : List AV) (h : AHeap) : Option (AV × AHeap) :=
  match isEff o with
  | true => (match aopQ P h (aeval T) o with
    | some _ => none
    | none => (match aopE P h (aeval T) o (appDec h o T) with
      | some (cd, v, h', _) => if cd.b then some (v, h') else none
      | none => none))
  | false => (iQ P call o T h).map fun v => (v, h)

def iOpsE (P : Program) (call : CallF) (ops : List Oper) : List Oper → List AV → AHeap → Option (List AV × AHeap)
  | [], T, h => some (T, h)
  | o :: os, T, h =>
    match o.guard with
    | none => match iOne P call o T h with
      | some (v, h') => iOpsE P call ops os (aput T o.dst v) h'
      | none => none
    | some (j, want) =>
      match guardVal ops T j with
      | .bool q => if q == want then
          match iOne P call o T h with
          | some (v, h') => iOpsE P call ops os (aput T o.dst v) h'
          | none => none
        else iOpsE P call ops os (aput T o.dst .undef) h
      | .undef => iOpsE P call ops os (aput T o.dst .undef) h
      | _ => none

def iLoop (body : List AV → AHeap → Option (Exit × List AV × AHeap)) : Nat → List AV → AHeap → Option (Exit × List AV × AHeap)
  | 0, _, _ => none
  | n + 1, T, h => match body T h with
    | some (.normal, T', h') => iLoop body n T' h'
    | r => r

def iCode (P : Program) (call : CallF) (n : Nat) : Code → List AV → AHeap → Option (Exit × List AV × AHeap)
  | .skip, T, h => some (.normal, T, h)
  | .label _, T, h => some (.normal, T, h)
  | .ret, T, h => some (.ret, T, h)
  | .exit id, T, h => some (.exit id, T, h)
  | .seq x y, T, h => match iCode P call n x T h with
    | some (.normal, T', h') => iCode P call n y T' h'
    | r => r
  | .cond c x y, T, h => match aeval T c with
    | .bool true => iCode P call n x T h
    | .bool false => iCode P call n y T h
    | _ => none
  | .block id c, T, h => match iCode P call n c T h with
    | some (.exit id', T', h') => if id' = id then some (.normal, T', h') else some (.exit id', T', h')
    | r => r
  | .loop c, T, h => iLoop (iCode P call n c) n T h
  | .region _ ops false, T, h => match iOps P call ops.toList ops.toList T h with
    | some (T', h') => some (.normal, T', h')
    | none => none
  | .region _ ops true, T, h => if drawOk ops.toList then
      match ops.toList.any isEff with
      | false => (match iOpsQ P call ops.toList h ops.toList T with
        | some T' => some (.normal, T', h)
        | none => none)
      | true => if drawEff ops.toList then (match iOpsE P call ops.toList ops.toList T h with
          | some (T', h') => some (.normal, T', h')
          | none => none) else if drawEff2 ops.toList then (match iOpsE P call ops.toList ops.toList T h with
          | some (T', h') => if apartOk ops.toList T' then some (.normal, T', h') else none
          | none => none) else none
    else none
  | _, _, _ => none

def iRet (P : Program) (fn : Func) (T : List AV) (h1 h : AHeap) : Option (AV × AHeap) :=
  match aresL P T h1 fn.results.toList with
  | some ([], vs) =>
    match purF 12 h1 h.length (oneOf vs) with
    | some r => if (h1.take h.length).length = h.length ∧ ((h1.take h.length).all (lowO h.length)) = true then some (r, h1.take h.length) else some (oneOf vs, h1)
    | none => some (oneOf vs, h1)
  | _ => none

/-- `c0`: contracts that are known already. -/
def interp (P : Program) (c0 : CallF) : Nat → CallF
  | 0, f, args, h => c0 f args h
  | k + 1, f, args, h =>
    match c0 f args h with
    | some r => some r
    | none =>
    match P.funcs[f]? with
    | some fn =>
      match fn.body with
      | some c =>
        match iCode P (interp P c0 k) (k + 1) c (initT fn args) h with
        | some (.normal, T, h1) => iRet P fn T h1 h
        | some (.ret, T, h1) => iRet P fn T h1 h
        | _ => none
      | none => none
    | none => none

section
variable {P : Program} {call : CallF}

def CallOk (P : Program) (call : CallF) : Prop := ∀ g args h r h', call g args h = some (r, h') → Ret P g args h r h'

theorem iCallQ_sound (hc : CallOk P call) {g : FuncId} {args : List AV} {r : AV} (h : AHeap) (hr : iCallQ call h g args = some r) : Ret P g args h r h := by
  unfold iCallQ at hr
  split at hr
  · rename_i hl
    split at hr
    · rename_i hq
      cases hr
      exact (hc _ _ _ _ _ hq).frame (fun a ha => lowF_sound _ _ _ (List.all_eq_true.1 hl a ha)) h
    · cases hr
  · split at hr
    · rename_i hq
      split at hr
      · rename_i he
        cases hr
        exact (hc _ _ _ _ _ hq).same he
      · cases hr
    · cases hr

/-- The quiet step as the draw's theorem wants it. -/
theorem iQ_facts (hc : CallOk P call) {o : Oper} {T : List AV} {h : AHeap} {v : AV} (hr : iQ P call o T h = some v) : ∃ ds cs ds', opResQ P o T h ds = some (cs, v, ds') ∧ ∀ c ∈ cs, c := by
  have quiet : ∀ cd, aopQ P h (aeval T) o = some (cd, v) → cd.b = true → ∀ c ∈ cd.list, c := by
    intro cd _ hb c hcm
    cases cd with
    | none => simp [Cnd.list] at hcm
    | some d =>
      simp only [Cnd.list, List.mem_singleton] at hcm
      subst hcm
      exact @of_decide_eq_true d.p d.d hb
  unfold iQ at hr
  unfold opResQ
  split at hr
  · rename_i c a b ho
    split at hr
    · rename_i q hq
      cases hr
      refine ⟨[.b q], [q = q], [], ?_, fun c hcm => ?_⟩
      · simp only [ho, hq]
      · rw [List.mem_singleton.1 hcm]
    · cases hr
  · rename_i c ho
    split at hr
    · rename_i f hcal
      split at hr
      · rename_i g cap hf
        split at hr
        · rename_i hcb
          have := iCallQ_sound hc h hr
          refine ⟨[.ret v h], [Ret P g (c.args.toList.map (aeval T) ++ cap) h v h], [], ?_, fun c hcm => ?_⟩
          · simp only [ho, hcal, hf, hcb, if_true]
          · rw [List.mem_singleton.1 hcm]; exact this
        · cases hr
      · cases hr
    · rename_i hcal
      split at hr
      · rename_i cd v' hq
        split at hr
        · rename_i hb
          cases hr
          refine ⟨[], cd.list, [], ?_, quiet cd hq hb⟩
          simp only [ho]
          cases hcc : c.callee with
          | value f => exact absurd hcc (hcal f)
          | _ => simp only [hq, Option.map_some]
        · cases hr
      · cases hr
  · rename_i hn1 hn2
    split at hr
    · rename_i cd v' hq
      split at hr
      · rename_i hb
        cases hr
        refine ⟨[], cd.list, [], ?_, quiet cd hq hb⟩
        cases ho : o.op with
        | pick c a b => exact absurd ho (hn1 c a b)
        | call c => exact absurd ho (hn2 c)
        | _ => simp only [hq, Option.map_some]
      · cases hr
    · cases hr

theorem iQ_sound (hc : CallOk P call) {o : Oper} {T : List AV} {h : AHeap} {v : AV} (hr : iQ P call o T h = some v) : StepTo P o T h v h := by
  obtain ⟨ds, cs, ds', h1, h2⟩ := iQ_facts hc hr
  exact opResQ_sound h1 h2

theorem iE_sound (hc : CallOk P call) {o : Oper} {T : List AV} {h h' : AHeap} {v : AV} (hr : iE P call o T h = some (v, h')) : StepTo P o T h v h' := by
  unfold iE at hr
  split at hr
  · rename_i v' hq
    cases hr
    exact iQ_sound hc hq
  · split at hr
    · rename_i c ho
      split at hr
      · rename_i f hcal
        split at hr
        · rename_i g cap hf
          split at hr
          · rename_i hcb
            exact stepTo_call ho hcal hf hcb (.refl _ _ _) (hc _ _ _ _ _ hr)
          · cases hr
        · cases hr
      · split at hr
        · rename_i hq
          split at hr
          · rename_i hb
            cases hr
            exact stepTo_effect hq (Cnd.b_ok hb)
          · cases hr
        · cases hr
    · split at hr
      · rename_i hq
        split at hr
        · rename_i hb
          cases hr
          exact stepTo_effect hq (Cnd.b_ok hb)
        · cases hr
      · cases hr

theorem iOps_sound (hc : CallOk P call) {ops : List Oper} {m0 : IdMap} {Mut0 : Mu} {w0 : World} {T2 : List AV} {h2 : AHeap} {Q : Exit → List AV → AHeap → Prop} (hk : Q .normal T2 h2) :
    ∀ (os : List Oper) (k : Nat) (T : List AV) (h : AHeap) (m : IdMap) (Mut : Mu) (w : World) (a : Act), ops.drop k = os → iOps P call ops os T h = some (T2, h2) →
      Ext m0 Mut0 w0 m Mut w → RelH m Mut h w → RelT m Mut w T a → wpOps P ops.toArray (APost Q m0 Mut0 w0) (List.range' k (ops.length - k)) a w := by
  intro os
  induction os with
  | nil =>
    intro k T h m Mut w a hd hr E H hT
    have : ops.length - k = 0 := by have := congrArg List.length hd; simpa using this
    rw [this]
    cases hr
    exact ⟨m, Mut, _, _, hk, E, H, hT⟩
  | cons o os ih =>
    intro k T h m Mut w a hd hr E H hT
    have hlen : ops.length - k = (ops.length - (k + 1)) + 1 := by have := congrArg List.length hd; simp at this; omega
    have hko : ops[k]? = some o := by
      have : (ops.drop k)[0]? = some o := by rw [hd]; rfl
      rw [List.getElem?_drop] at this
      simpa using this
    have hd' : ops.drop (k + 1) = os := by rw [← List.drop_drop, hd]; rfl
    rw [hlen, List.range'_succ]
    simp only [wpOps, List.getElem?_toArray, hko]
    have go : (match iE P call o T h with | some (v, h') => iOps P call ops os (aput T o.dst v) h' | none => none) = some (T2, h2) →
        o.wp P a w (wpOps P ops.toArray (APost Q m0 Mut0 w0) (List.range' (k + 1) (ops.length - (k + 1)))) (APost Q m0 Mut0 w0) := by
      intro hr
      split at hr
      · rename_i v h' hres
        refine iE_sound hc hres m Mut w a _ _ H hT fun m' Mut' w' x E' H' hx => ?_
        exact ih (k + 1) _ h' m' Mut' w' _ hd' hr (E.trans E') H' ((hT.ext E').put o.dst hx)
      · cases hr
    unfold iOps at hr
    split at hr
    · rename_i hg
      rw [if_pos (by simp [Region.wanted, hg])]
      exact .inl (go hr)
    · rename_i j want hg
      split at hr
      · rename_i q hgv
        have hy := guard_bool hT hgv
        split at hr
        · rename_i hqw
          have : q = want := by simpa using hqw
          subst this
          rw [if_pos (by simp [Region.wanted, hg, hy])]
          exact .inl (go hr)
        · rename_i hqw
          have hne : ¬ q = want := by simpa using hqw
          rw [if_neg (by simp [Region.wanted, hg, hy, hne])]
          exact ih (k + 1) _ h m Mut w _ hd' hr E H (hT.put o.dst .undef)
      · rename_i hgv
        have hy := guard_undef hT hgv
        rw [if_neg (by simp [Region.wanted, hg, hy])]
        exact ih (k + 1) _ h m Mut w _ hd' hr E H (hT.put o.dst .undef)
      · cases hr

theorem iOpsQ_facts (hc : CallOk P call) {ops : List Oper} {h : AHeap} : ∀ (os : List Oper) (T : List AV) (T2 : List AV), iOpsQ P call ops h os T = some T2 → ∃ ds, runOpsQ P ops h os T ds fun T' _ => T' = T2 := by
  have tail : ∀ (os : List Oper) (K : List AV → List Dec → Prop) (T : List AV) (ds ds2 : List Dec), (runOpsQ P ops h os T ds fun T' ds' => K T' ds') → True := fun _ _ _ _ _ _ => trivial
  -- what is told may be followed by more
  have more : ∀ (os : List Oper) (T T2 : List AV), iOpsQ P call ops h os T = some T2 → ∀ rest : List Dec, ∃ ds, runOpsQ P ops h os T ds fun T' _ => T' = T2 := by
    intro os
    induction os with
    | nil => intro T T2 hr rest; cases hr; exact ⟨[], rfl⟩
    | cons o os ih =>
      intro T T2 hr rest
      unfold iOpsQ at hr
      unfold runOpsQ
      have step : ∀ (v : AV), iQ P call o T h = some v → ∀ ds1, (runOpsQ P ops h os (aput T o.dst v) ds1 fun T' _ => T' = T2) →
          ∃ ds, match opResQ P o T h ds with | some (cs, v, ds') => conjs cs (runOpsQ P ops h os (aput T o.dst v) ds' fun T' _ => T' = T2) | none => False := by
        intro v hv ds1 hds1
        -- the same with what follows
        have conjI : ∀ (cs : List Prop) (p : Prop), (∀ c ∈ cs, c) → p → conjs cs p := by
          intro cs
          induction cs with
          | nil => intro p _ hp; exact hp
          | cons c cs ih => intro p h1 hp; exact ⟨h1 c (List.mem_cons_self ..), ih p (fun x hx => h1 x (List.mem_cons_of_mem _ hx)) hp⟩
        have quiet : ∀ cd : Cnd, cd.b = true → ∀ c ∈ cd.list, c := by
          intro cd hb c hcm
          cases cd with
          | none => simp [Cnd.list] at hcm
          | some d =>
            simp only [Cnd.list, List.mem_singleton] at hcm
            subst hcm
            exact @of_decide_eq_true d.p d.d hb
        unfold iQ at hv
        unfold opResQ
        split at hv
        · rename_i c a b ho
          split at hv
          · rename_i q hq
            cases hv
            refine ⟨.b q :: ds1, ?_⟩
            simp only [ho, hq]
            exact ⟨trivial, hds1⟩
          · cases hv
        · rename_i c ho
          split at hv
          · rename_i f hcal
            split at hv
            · rename_i g cap hf
              split at hv
              · rename_i hcb
                refine ⟨.ret v h :: ds1, ?_⟩
                simp only [ho, hcal, hf, hcb, if_true]
                exact ⟨iCallQ_sound hc h hv, hds1⟩
              · cases hv
            · cases hv
          · rename_i hcal
            split at hv
            · rename_i cd v' hq
              split at hv
              · rename_i hb
                cases hv
                refine ⟨ds1, ?_⟩
                simp only [ho]
                cases hcc : c.callee with
                | value f => exact absurd hcc (hcal f)
                | _ => simp only [hq, Option.map_some]; exact conjI _ _ (quiet cd hb) hds1
              · cases hv
            · cases hv
        · rename_i hn1 hn2
          split at hv
          · rename_i cd v' hq
            split at hv
            · rename_i hb
              cases hv
              refine ⟨ds1, ?_⟩
              cases ho : o.op with
              | pick c a b => exact absurd ho (hn1 c a b)
              | call c => exact absurd ho (hn2 c)
              | _ => simp only [hq, Option.map_some]; exact conjI _ _ (quiet cd hb) hds1
            · cases hv
          · cases hv
      split at hr
      · rename_i hg
        split at hr
        · rename_i v hv
          obtain ⟨ds1, hds1⟩ := ih _ _ hr []
          obtain ⟨ds, hds⟩ := step v hv ds1 hds1
          refine ⟨ds, ?_⟩
          simp only [hg]
          exact hds
        · cases hr
      · rename_i j want hg
        split at hr
        · rename_i q hgv
          split at hr
          · rename_i hqw
            split at hr
            · rename_i v hv
              obtain ⟨ds1, hds1⟩ := ih _ _ hr []
              obtain ⟨ds, hds⟩ := step v hv ds1 hds1
              exact ⟨.b q :: ds, by simp only [hg, hgv, hqw]; exact ⟨trivial, hds⟩⟩
            · cases hr
          · rename_i hqw
            obtain ⟨ds1, hds1⟩ := ih _ _ hr []
            have : (q == want) = false := by simpa using hqw
            exact ⟨.b q :: ds1, by simp only [hg, hgv, this]; exact ⟨trivial, hds1⟩⟩
        · rename_i hgv
          obtain ⟨ds1, hds1⟩ := ih _ _ hr []
          exact ⟨ds1, by simp only [hg, hgv]; exact hds1⟩
        · cases hr
  exact fun os T T2 hr => more os T T2 hr []

theorem iOne_done (hc : CallOk P call) {o : Oper} {T : List AV} {h h' : AHeap} {v : AV} (hr : iOne P call o T h = some (v, h')) : OpDone P o T h h' v := by
  unfold iOne at hr
  split at hr
  · rename_i he
    refine .inl ⟨he, ?_⟩
    split at hr
    · cases hr
    · rename_i hq
      split at hr
      · rename_i cd v' h'' ds' hE
        split at hr
        · rename_i hb
          cases hr
          refine ⟨appDec h o T, cd.list, ds', ?_, fun c hcm => ?_⟩
          · unfold opRes
            rw [hq, hE]
            cases ho : o.op with
            | call c =>
              simp only [isEff, ho] at he
              cases hcal : c.callee with
              | value f => rw [hcal] at he; cases he
              | _ => simp only [hcal]; rfl
            | pick c a b => simp only [isEff, ho] at he; cases he
            | _ => rfl
          · have := Cnd.b_ok hb
            cases cd with
            | none => simp [Cnd.list] at hcm
            | some x => simp only [Cnd.list, List.mem_singleton] at hcm; rw [hcm]; exact this
        · cases hr
      · cases hr
  · rename_i he
    simp only [Option.map_eq_some_iff, Prod.mk.injEq] at hr
    obtain ⟨x, hx, rfl, rfl⟩ := hr
    exact .inr ⟨he, rfl, iQ_facts hc hx⟩

theorem iOpsE_facts (hc : CallOk P call) {ops : List Oper} : ∀ (os : List Oper) (k : Nat) (T : List AV) (h : AHeap) (T2 : List AV) (h2 : AHeap), ops.drop k = os → iOpsE P call ops os T h = some (T2, h2) →
    ∃ (v : Nat → AV) (hs : Nat → AHeap), hs k = h ∧ upTo ops v (fun _ => true) T (List.range' k (ops.length - k)) = T2 ∧ hs ops.length = h2 ∧
      ∀ j o, k ≤ j → ops[j]? = some o → OpFactE P ops (hs j) (hs (j + 1)) o (upTo ops v (fun _ => true) T (List.range' k (j - k))) (v j) := by
  intro os
  induction os with
  | nil =>
    intro k T h T2 h2 hd hr
    have hz : ops.length - k = 0 := by have := congrArg List.length hd; simpa using this
    rw [hz]
    cases hr
    exact ⟨fun _ => .any, fun _ => h, rfl, rfl, rfl, fun j o hj ho => by
      have : j < ops.length := (List.getElem?_eq_some_iff.1 ho).1
      omega⟩
  | cons o os ih =>
    intro k T h T2 h2 hd hr
    have hlen : ops.length - k = (ops.length - (k + 1)) + 1 := by have := congrArg List.length hd; simp at this; omega
    have hko : ops[k]? = some o := by
      have : (ops.drop k)[0]? = some o := by rw [hd]; rfl
      rw [List.getElem?_drop] at this
      simpa using this
    have hkl : k < ops.length := (List.getElem?_eq_some_iff.1 hko).1
    have hd' : ops.drop (k + 1) = os := by rw [← List.drop_drop, hd]; rfl
    have go : ∀ (x : AV) (h1 : AHeap), OpFactE P ops h h1 o T x → iOpsE P call ops os (aput T o.dst x) h1 = some (T2, h2) →
        ∃ (v : Nat → AV) (hs : Nat → AHeap), hs k = h ∧ upTo ops v (fun _ => true) T (List.range' k (ops.length - k)) = T2 ∧ hs ops.length = h2 ∧
          ∀ j o, k ≤ j → ops[j]? = some o → OpFactE P ops (hs j) (hs (j + 1)) o (upTo ops v (fun _ => true) T (List.range' k (j - k))) (v j) := by
      intro x h1 hf hr
      obtain ⟨v, hs, g0, g1, g3, g2⟩ := ih (k + 1) _ h1 T2 h2 hd' hr
      have shift : ∀ n, upTo ops (fun i => if i = k then x else v i) (fun _ => true) T (List.range' k (n + 1)) = upTo ops v (fun _ => true) (aput T o.dst x) (List.range' (k + 1) n) := by
        intro n
        rw [List.range'_succ]
        show upTo ops _ _ (aput T ((ops[k]?).bind (·.dst)) (if k = k then x else v k)) (List.range' (k + 1) n) = _
        rw [hko, if_pos rfl]
        exact upTo_congr _ _ fun i hi => by
          have : i ≠ k := by have := (List.mem_range'_1.1 hi).1; omega
          simp [this]
      refine ⟨fun i => if i = k then x else v i, fun i => if i = k then h else hs i, if_pos rfl, ?_, ?_, fun j o' hj ho' => ?_⟩
      · rw [hlen, shift]; exact g1
      · show (if ops.length = k then h else hs ops.length) = h2
        rw [if_neg (Nat.ne_of_gt hkl)]; exact g3
      by_cases hjk : j = k
      · subst hjk
        rw [hko] at ho'; cases ho'
        show OpFactE P ops (if j = j then h else hs j) (if j + 1 = j then h else hs (j + 1)) o _ (if j = j then x else v j)
        rw [if_pos rfl, if_neg (Nat.succ_ne_self j), g0, if_pos rfl]
        simpa [upTo] using hf
      · have := g2 j o' (by omega) ho'
        show OpFactE P ops (if j = k then h else hs j) (if j + 1 = k then h else hs (j + 1)) o' _ (if j = k then x else v j)
        rw [show j - k = (j - (k + 1)) + 1 by omega, shift, if_neg hjk, if_neg (show ¬ j + 1 = k by omega), if_neg hjk]
        exact this
    unfold iOpsE at hr
    split at hr
    · rename_i hg
      split at hr
      · rename_i v h' hx
        exact go v h' (.inl ⟨hg, iOne_done hc hx⟩) hr
      · cases hr
    · rename_i j want hg
      split at hr
      · rename_i q hgv
        split at hr
        · rename_i hqw
          split at hr
          · rename_i v h' hx
            exact go v h' (.inr (.inl ⟨j, want, q, hg, hgv, .inl ⟨by simpa using hqw, iOne_done hc hx⟩⟩)) hr
          · cases hr
        · rename_i hqw
          exact go .undef h (.inr (.inl ⟨j, want, q, hg, hgv, .inr ⟨by simpa using hqw, rfl, rfl⟩⟩)) hr
      · rename_i hgv
        exact go .undef h (.inr (.inr ⟨j, want, hg, hgv, rfl, rfl⟩)) hr
      · cases hr

theorem iCode_sound (hmix : P.follows .mixedOrders = true) (hc : CallOk P call) (n : Nat) : ∀ (c : Code) (T : List AV) (h : AHeap) (e : Exit) (T2 : List AV) (h2 : AHeap), iCode P call n c T h = some (e, T2, h2) →
    WPC P c T h fun e' T' h' => e' = e ∧ T' = T2 ∧ h' = h2 := by
  intro c
  induction c with
  | skip => intro T h e T2 h2 hr; cases hr; exact .skip ⟨rfl, rfl, rfl⟩
  | label l => intro T h e T2 h2 hr; cases hr; exact .label ⟨rfl, rfl, rfl⟩
  | ret => intro T h e T2 h2 hr; cases hr; exact .ret ⟨rfl, rfl, rfl⟩
  | exit id => intro T h e T2 h2 hr; cases hr; exact .exit ⟨rfl, rfl, rfl⟩
  | seq x y ihx ihy =>
    intro T h e T2 h2 hr
    unfold iCode at hr
    split at hr
    · rename_i T1 h1 hx
      refine .seq ((ihx T h _ _ _ hx).mono fun e' T' h' ⟨he, hT, hh⟩ => ?_)
      subst he; subst hT; subst hh
      exact ihy _ _ _ _ _ hr
    · rename_i hne
      refine .seq ((ihx T h _ _ _ hr).mono fun e' T' h' ⟨he, hT, hh⟩ => ?_)
      subst he; subst hT; subst hh
      cases e' with
      | normal => exact absurd hr (hne _ _)
      | _ => exact ⟨rfl, rfl, rfl⟩
  | cond c x y ihx ihy =>
    intro T h e T2 h2 hr
    unfold iCode at hr
    split at hr
    · rename_i hq; exact .cond hq rfl (ihx T h _ _ _ hr)
    · rename_i hq; exact .cond hq rfl (ihy T h _ _ _ hr)
    · cases hr
  | block id c ih =>
    intro T h e T2 h2 hr
    unfold iCode at hr
    split at hr
    · rename_i id' T1 h1 hx
      refine .block ((ih T h _ _ _ hx).mono fun e' T' h' ⟨he, hT, hh⟩ => ?_)
      subst he; subst hT; subst hh
      simp only [inBlk]
      split at hr
      · rename_i heq; cases hr; rw [if_pos heq]; exact ⟨rfl, rfl, rfl⟩
      · rename_i heq; cases hr; rw [if_neg heq]; exact ⟨rfl, rfl, rfl⟩
    · rename_i hne
      refine .block ((ih T h _ _ _ hr).mono fun e' T' h' ⟨he, hT, hh⟩ => ?_)
      subst he; subst hT; subst hh
      cases e' with
      | exit id' => exact absurd hr (hne _ _ _)
      | _ => exact ⟨rfl, rfl, rfl⟩
  | loop c ih =>
    intro T h e T2 h2 hr
    refine WPC.loop (fun j T h => iLoop (iCode P call n c) j T h = some (e, T2, h2)) (fun j T h hj => ?_) (n := n) hr
    cases j with
    | zero => cases hj
    | succ j =>
      unfold iLoop at hj
      split at hj
      · rename_i T1 h1 hb
        refine (ih T h _ _ _ hb).mono fun e' T' h' ⟨he, hT, hh⟩ => ?_
        subst he; subst hT; subst hh
        exact ⟨j, Nat.lt_succ_self _, hj⟩
      · rename_i hne
        refine (ih T h _ _ _ hj).mono fun e' T' h' ⟨he, hT, hh⟩ => ?_
        subst he; subst hT; subst hh
        cases e' with
        | normal => exact absurd hj (hne _ _)
        | _ => exact ⟨rfl, rfl, rfl⟩
  | region id ops draw =>
    intro T h e T2 h2 hr
    cases draw with
    | false =>
      unfold iCode at hr
      split at hr
      · rename_i T1 h1 hx
        cases hr
        intro m0 Mut0 w0 m Mut w a E H hT
        refine wp_region ?_
        have := iOps_sound (Q := fun e' T' h' => e' = .normal ∧ T' = T2 ∧ h' = h2) (m0 := m0) (Mut0 := Mut0) (w0 := w0) hc ⟨rfl, rfl, rfl⟩ ops.toList 0 T h m Mut w a rfl hx E H hT
        rw [List.range_eq_range']
        simpa using this
      · cases hr
    | true =>
      unfold iCode at hr
      split at hr
      · rename_i hok
        split at hr
        · split at hr
          · rename_i T1 hx
            cases hr
            obtain ⟨ds, hds⟩ := iOpsQ_facts hc _ _ _ hx
            exact .regionDraw hmix hok hds fun T' ds' hT => ⟨rfl, hT, rfl⟩
          · cases hr
        · split at hr
          · rename_i he
            split at hr
            · rename_i T1 h1 hx
              cases hr
              obtain ⟨v, hs, g0, g1, g3, g2⟩ := iOpsE_facts hc ops.toList 0 T h _ _ rfl hx
              refine .regionDrawG (v := v) (hs := hs) hmix hok (.inl he) g0 ⟨rfl, ?_, g3⟩ fun j o ho => by simpa using g2 j o (Nat.zero_le _) ho
              simpa using g1
            · cases hr
          · split at hr
            · rename_i he
              split at hr
              · rename_i T1 h1 hx
                split at hr
                · rename_i hap
                  cases hr
                  obtain ⟨v, hs, g0, g1, g3, g2⟩ := iOpsE_facts hc ops.toList 0 T h _ _ rfl hx
                  rw [Nat.sub_zero] at g1
                  exact .regionDrawG (v := v) (hs := hs) hmix hok (.inr ⟨he, by rw [g1]; exact hap⟩) g0 ⟨rfl, g1, g3⟩ fun j o ho => by simpa using g2 j o (Nat.zero_le _) ho
                · cases hr
              · cases hr
            · cases hr
      · cases hr
  | _ => intro T h e T2 h2 hr; cases hr

theorem interp_sound (hmix : P.follows .mixedOrders = true) {c0 : CallF} (h0 : CallOk P c0) : ∀ k, CallOk P (interp P c0 k) := by
  intro k
  induction k with
  | zero => intro f args h r h' hr; exact h0 f args h r h' hr
  | succ k ih =>
    intro f args h r h' hr
    unfold interp at hr
    split at hr
    · rename_i r' hq
      cases hr
      exact h0 f args h _ _ hq
    split at hr
    · rename_i fn hf
      split at hr
      · rename_i c hb
        have go : ∀ (e : Exit) T1 h1, iCode P (interp P c0 k) (k + 1) c (initT fn args) h = some (e, T1, h1) → (e = .normal ∨ e = .ret) → iRet P fn T1 h1 h = some (r, h') → Ret P f args h r h' := by
          intro e T1 h1 hx he hr
          intro m Mut w us H hargs
          refine calls_of_wp hf hb ?_
          have hT : RelT m Mut w (initT fn args) { tmps := us ++ Array.replicate (fn.ntmps - us.size) Go.undef, defers := [] } := by
            refine ⟨by simp [initT, hargs.1], fun i x v hx hv => ?_, rfl⟩
            simp only [initT, List.getElem?_append] at hx
            simp only [Array.getElem?_append] at hv
            by_cases hi : i < us.size
            · rw [if_pos (by rw [hargs.1]; exact hi)] at hx
              rw [if_pos hi] at hv
              exact hargs.2 i x v hx hv
            · rw [if_neg (by rw [hargs.1]; exact hi)] at hx
              rw [if_neg hi] at hv
              rw [List.getElem?_replicate] at hx
              rw [Array.getElem?_replicate] at hv
              split at hx
              · split at hv
                · cases hx; cases hv; exact .undef
                · cases hv
              · cases hx
          refine wp_mono (iCode_sound hmix ih (k + 1) c _ h _ _ _ hx m Mut w m Mut w _ (.refl _ _ _) H hT) fun e2 a w1 ⟨m1, Mut1, T2, h2, ⟨e1, e3, e4⟩, E1, H1, hT1⟩ => ?_
          subst e1; subst e3; subst e4
          have fin : a.defers = [] ∧ ∃ v, (results fn a.tmps).run P w1 = .ok v w1 ∧ ∃ x v2 h2 m' Mut', Ending.returned v = .returned x ∧ (v2 = r ∧ h2 = h') ∧ Ext m Mut w m' Mut' w1 ∧ RelH m' Mut' h2 w1 ∧ RelV m' Mut' w1 v2 x := by
            refine ⟨hT1.defers, ?_⟩
            unfold iRet at hr
            split at hr
            · rename_i vs hres
              obtain ⟨x, hx, hrx⟩ := results_run (P := P) H1 hT1 hres (fun c hc => by simp at hc)
              have hexit : ExitTo h h2 (oneOf vs) r h' := by
                split at hr
                · rename_i r' hp
                  split at hr
                  · rename_i hq
                    cases hr
                    exact .pop (purF_sound _ _ _ _ _ hp) rfl hq.1 fun id o ho => .inr (lowO_sound (List.all_eq_true.1 hq.2 o (List.mem_of_getElem? ho)))
                  · cases hr; exact .keep rfl rfl
                · cases hr; exact .keep rfl rfl
              obtain ⟨m', Mut', p1, p2, p3⟩ := exit_sound hexit H E1 H1 hrx
              exact ⟨x, hx, x, r, h', m', Mut', rfl, ⟨rfl, rfl⟩, p1, p2, p3⟩
            · cases hr
          rcases he with rfl | rfl
          · exact fin
          · exact fin
        split at hr
        · rename_i T1 h1 hx; exact go _ _ _ hx (.inl rfl) hr
        · rename_i T1 h1 hx; exact go _ _ _ hx (.inr rfl) hr
        · cases hr
      · cases hr
    · cases hr

end
end Go.Proofs.Ytjdakdjgkpfjkaa
