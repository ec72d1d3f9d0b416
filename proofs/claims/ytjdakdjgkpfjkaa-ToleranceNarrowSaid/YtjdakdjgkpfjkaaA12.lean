/- Running a function's text over abstract values, and that the model does what it says. Conditions: none. -/
import Derived.Test.YtjdakdjgkpfjkaaA11
namespace Go.Proofs.Ytjdakdjgkpfjkaa
set_option linter.unusedVariables false
set_option linter.unusedSimpArgs false

/-- A call of f with these arguments over this abstract heap hands back a value and leaves a heap with R. -/
def WPF (P : Program) (f : FuncId) (args : List AV) (h : AHeap) (R : AV → AHeap → Prop) : Prop :=
  ∀ (m : IdMap) (Mut : Mu) (w : World) (us : Array Value), RelH m Mut h w → RelL m Mut w args us →
    Calls P f us w fun e w' => ∃ x v h' m' Mut', e = .returned x ∧ R v h' ∧ Ext m Mut w m' Mut' w' ∧ RelH m' Mut' h' w' ∧ RelV m' Mut' w' v x

/-- The same with one outcome. -/
def Ret (P : Program) (f : FuncId) (args : List AV) (h : AHeap) (r : AV) (h' : AHeap) : Prop := WPF P f args h fun v k => v = r ∧ k = h'

/-- Values and a heap may be read as others. -/
def Weak (lo : Nat) (vs : List AV) (h : AHeap) (vs' : List AV) (h' : AHeap) : Prop :=
  ∀ (m : IdMap) (Mut : Mu) (w : World) (us : Array Value), RelH m Mut h w → RelL m Mut w vs us →
    ∃ m' Mut', (∀ id n x, id < lo → m id n = some x → m' id n = some x) ∧ (∀ b, Mut'.im b → Mut.im b) ∧ (∀ b, Mut'.wr b → Mut.wr b) ∧ (∀ b, Mut.im b → ¬ Mut.wr b → Mut'.im b) ∧ RelH m' Mut' h' w ∧ RelL m' Mut' w vs' us

/-- What is told to the run from outside: branches, calls' results, loops' outcomes. -/
inductive Dec where
  | b (d : Bool)
  | ret (r : AV) (h : AHeap)
  | fret (args : List AV) (h1 : AHeap) (r : AV) (h : AHeap)
  | app (mode : AppMode) (shift : Bool)
  | loop (ks : List Nat) (e : Exit) (T' : List AV) (h' : AHeap)
  | rounds (n : Nat)
  | virt (ds : List Nat) (vs : List (Option Nat × Nat × Nat × Col))   -- objects that are forgotten; nil slices (of a temporary, or in an object's cell) that become rows without a block

def aput (T : List AV) (d : Option Tmp) (v : AV) : List AV :=
  match d with
  | some d => T.set d v
  | none => T

def cand : Cnd → Prop → Prop
  | none, p => p
  | some c, p => c.p ∧ p

def callable (P : Program) (f : FuncId) : Bool :=
  match P.funcs[f]? with
  | some fn => fn.name != "runtime.NumGoroutine" && fn.body.isSome
  | none => false

def tracked : AV → Bool
  | .any => false
  | _ => true

/-- The operations that make or write an abstract object. -/
def aopE (P : Program) (h : AHeap) (ρ : Operand → AV) (o : Oper) (ds : List Dec) : Option (Cnd × AV × AHeap × List Dec) :=
  match o.op with
  | .alloc e => match zeroV P e with
    | some z => if z.isAny then none else some (none, .ptr h.length 1 z.cells.length 0 0, h ++ [.var z], ds)
    | none => none
  | .box _ x => if (ρ x).isAny then none else some (none, .ptr h.length 1 (ρ x).cells.length 0 0, h ++ [.var (ρ x)], ds)
  | .store t a x => (astore P h t (ρ a) (ρ x)).map fun (c, h') => (c, .undef, h', ds)
  | .makeSlice t l c => (amake P h t (ρ l) (ρ c)).map fun (c, v, h') => (c, v, h', ds)
  | .range t x => (arange P h t (ρ x)).map fun (v, h') => (none, v, h', ds)
  | .next it isString => (anext h (ρ it) isString).map fun (v, h') => (none, v, h', ds)
  | .call c => match c.callee, c.args.toList, c.argTypes.toList, ds with
    | .builtin .append, [s, x], [t, t'], .app mode shift :: ds' => if t = t' then (aapp P h t (ρ s) (ρ x) mode shift).map fun (c, v, h') => (c, v, h', ds') else none
    | _, _, _, _ => none
  | _ => none

def conjs : List Prop → Prop → Prop
  | [], p => p
  | c :: cs, p => c ∧ conjs cs p

def Cnd.list : Cnd → List Prop
  | none => []
  | some c => [c.p]

/-- One operation that leaves the abstract heap alone: what must hold, the value, what is left of the told. -/
def opResQ (P : Program) (o : Oper) (T : List AV) (h : AHeap) (ds : List Dec) : Option (List Prop × AV × List Dec) :=
  match o.op with
  | .pick c a b =>
    match aeval T c, ds with
    | .bool q, .b d :: ds' => some ([q = d], if d then aeval T a else aeval T b, ds')
    | _, _ => none
  | .call c =>
    match c.callee with
    | .value f =>
      match aeval T f, ds with
      | .fn g cap, .ret r _ :: ds' => if callable P g then some ([Ret P g (c.args.toList.map (aeval T) ++ cap) h r h], r, ds') else none
      | _, _ => none
    | _ => (aopQ P h (aeval T) o).map fun (cd, v) => (cd.list, v, ds)
  | _ => (aopQ P h (aeval T) o).map fun (cd, v) => (cd.list, v, ds)

/-- One operation: what must hold, the value, the heap behind it, what is left of the told. -/
def opRes (P : Program) (o : Oper) (T : List AV) (h : AHeap) (ds : List Dec) : Option (List Prop × AV × AHeap × List Dec) :=
  match o.op with
  | .pick c a b =>
    match aeval T c, ds with
    | .bool q, .b d :: ds' => some ([q = d], if d then aeval T a else aeval T b, h, ds')
    | _, _ => none
  | .call c =>
    match c.callee with
    | .value f =>
      match aeval T f, ds with
      | .fn g cap, .ret r h' :: ds' => if callable P g then some ([Ret P g (c.args.toList.map (aeval T) ++ cap) h r h'], r, h', ds') else none
      | .fn g cap, .fret args h1 r h' :: ds' => if callable P g then some ([Weak h.length (c.args.toList.map (aeval T) ++ cap) h args h1, Ret P g args h1 r h'], r, h', ds') else none
      | _, _ => none
    | _ =>
      match aopQ P h (aeval T) o with
      | some (cd, v) => some (cd.list, v, h, ds)
      | none => (aopE P h (aeval T) o ds).map fun (cd, v, h', ds') => (cd.list, v, h', ds')
  | _ =>
    match aopQ P h (aeval T) o with
    | some (cd, v) => some (cd.list, v, h, ds)
    | none => (aopE P h (aeval T) o ds).map fun (cd, v, h', ds') => (cd.list, v, h', ds')

/-- The temporaries. -/
structure RelT (m : IdMap) (Mut : Mu) (w : World) (T : List AV) (a : Act) : Prop where
  len : T.length = a.tmps.size
  val : ∀ (i : Nat) (x : AV) (v : Value), T[i]? = some x → a.tmps[i]? = some v → RelV m Mut w x v
  defers : a.defers = []

section
variable {m : IdMap} {Mut : Mu} {w : World} {P : Program} {h : AHeap}

theorem RelT.ext {m' : IdMap} {Mut' : Mu} {w' : World} {T : List AV} {a : Act} (h : RelT m Mut w T a) (e : Ext m Mut w m' Mut' w') : RelT m' Mut' w' T a :=
  ⟨h.len, fun i x v hx hv => e.relV (h.val i x v hx hv), h.defers⟩

theorem RelT.put {T : List AV} {a : Act} (h : RelT m Mut w T a) (d : Option Tmp) {x : AV} {v : Value} (hr : RelV m Mut w x v) : RelT m Mut w (aput T d x) (a.put d v) := by
  cases d with
  | none => exact h
  | some d =>
    refine ⟨by simp [aput, Act.put, h.len], fun i y u hy hu => ?_, by simpa [Act.put] using h.defers⟩
    simp only [aput, List.getElem?_set] at hy
    simp only [Act.put, Array.getElem?_setIfInBounds] at hu
    by_cases e : d = i
    · subst e
      rw [if_pos rfl] at hy hu
      have hl := h.len
      split at hy
      · split at hu
        · cases hy; cases hu; exact hr
        · omega
      · cases hy
    · rw [if_neg e] at hy hu
      exact h.val i y u hy hu

theorem RelT.eval {T : List AV} {a : Act} (h : RelT m Mut w T a) : RelE m Mut w (aeval T) a.eval := by
  intro x
  cases x with
  | tmp t =>
    show RelV m Mut w (T.getD t .any) (a.tmps.getD t Go.undef)
    rcases Nat.lt_or_ge t T.length with q | q
    · have q2 : t < a.tmps.size := h.len ▸ q
      rw [List.getD_eq_getElem?_getD, List.getElem?_eq_getElem q]
      rw [Array.getD_eq_getD_getElem?, Array.getElem?_eq_getElem q2]
      exact h.val t _ _ (List.getElem?_eq_getElem q) (Array.getElem?_eq_getElem q2)
    · rw [List.getD_eq_getElem?_getD, List.getElem?_eq_none q]
      exact .any _
  | const v => exact ofV_rel v
  | global g => exact .any _
  | func f => exact .fn f [] #[] rfl (fun i a v h => by simp at h)

theorem cand_ok {c : Cnd} {p : Prop} (h : cand c p) : c.ok ∧ p := by
  cases c with
  | none => exact ⟨trivial, h⟩
  | some c => exact h

theorem aopE_sound {ρ : Operand → AV} {σ : Operand → Value} {o : Oper} {ds ds' : List Dec} {c : Cnd} {v : AV} {h' : AHeap} (H : RelH m Mut h w) (hρ : RelE m Mut w ρ σ) (hb : aopE P h ρ o ds = some (c, v, h', ds')) (hC : c.ok) :
    OpE P σ o m Mut w v h' := by
  unfold aopE at hb
  split at hb
  · rename_i e ho
    split at hb
    · rename_i z hz
      split at hb
      · cases hb
      · rename_i hna
        cases hb
        obtain ⟨zc, hzr, rfl, i, hi, hzi⟩ := run_zeroValue (w := w) hz
        obtain ⟨m', Mut', w', g1, g2, g3, g4⟩ := newVar_sound (P := P) (t := e) H (ofV_rel (m := m) (Mut := Mut) (w := w) zc) (by simpa using hna)
        exact ⟨_, m', Mut', w', .inl (by simp [execOp, ho, Instr.alloc, hzr, g1]), g2, g3, g4⟩
    · cases hb
  · rename_i e x ho
    split at hb
    · cases hb
    · rename_i hna
      cases hb
      obtain ⟨m', Mut', w', g1, g2, g3, g4⟩ := newVar_sound (P := P) (t := e) H (hρ x) (by simpa using hna)
      exact ⟨_, m', Mut', w', .inl (by simp [execOp, ho, Instr.box, g1]), g2, g3, g4⟩
  · rename_i t a x ho
    simp only [Option.map_eq_some_iff, Prod.exists, Prod.mk.injEq] at hb
    obtain ⟨c', h'', hs, rfl, rfl, rfl, rfl⟩ := hb
    obtain ⟨w', g1, g2, g3⟩ := astore_sound H hs hC (hρ a) (hρ x)
    exact ⟨_, m, Mut, w', .inr ⟨by simp [execOp, ho, g1], rfl⟩, g2, g3, .undef⟩
  · rename_i t l c ho
    simp only [Option.map_eq_some_iff, Prod.exists, Prod.mk.injEq] at hb
    obtain ⟨c', v', h'', hs, rfl, rfl, rfl, rfl⟩ := hb
    obtain ⟨x, m', Mut', w', g1, g2, g3, g4⟩ := amake_sound H hs hC (hρ l) (hρ c)
    exact ⟨x, m', Mut', w', .inl (by simp [execOp, ho, g1]), g2, g3, g4⟩
  · rename_i t x ho
    simp only [Option.map_eq_some_iff, Prod.exists, Prod.mk.injEq] at hb
    obtain ⟨v', h'', hs, rfl, rfl, rfl, rfl⟩ := hb
    obtain ⟨x, m', Mut', w', g1, g2, g3, g4⟩ := arange_sound (P := P) H hs (hρ x)
    exact ⟨x, m', Mut', w', .inl (by simp [execOp, ho, g1]), g2, g3, g4⟩
  · rename_i it isString ho
    simp only [Option.map_eq_some_iff, Prod.exists, Prod.mk.injEq] at hb
    obtain ⟨v', h'', hs, rfl, rfl, rfl, rfl⟩ := hb
    obtain ⟨x, w', g1, g2, g3, g4⟩ := anext_sound (P := P) (ty := o.type) H hs (hρ it)
    exact ⟨x, m, Mut, w', .inl (by simp [execOp, ho, g1]), g2, g3, g4⟩
  · rename_i cl ho
    split at hb
    · rename_i s x t t' mode shift ds0 hcal hargs htys
      split at hb
      · rename_i htt
        subst htt
        simp only [Option.map_eq_some_iff, Prod.exists, Prod.mk.injEq] at hb
        obtain ⟨c', v', h'', hs, rfl, rfl, rfl, rfl⟩ := hb
        obtain ⟨y, m', Mut', w', g1, g2, g3, g4⟩ := aapp_sound (ty := o.type) H hs hC (hρ s) (hρ x)
        have e1 : cl.args = #[s, x] := by apply Array.ext'; simpa using hargs
        have e2 : cl.argTypes = #[t, t] := by apply Array.ext'; simpa using htys
        exact ⟨y, m', Mut', w', .inl (by simp [execOp, ho, resolve, hcal, invoke, builtin, e1, e2, g1]), g2, g3, g4⟩
      · cases hb
    · cases hb
  · cases hb

theorem Weak.app {lo : Nat} {vs vs' : List AV} {h h' : AHeap} (hw : Weak lo vs h vs' h') (hlo : lo = h.length) {us : Array Value} (H : RelH m Mut h w) (hr : RelL m Mut w vs us) :
    ∃ m' Mut', Ext m Mut w m' Mut' w ∧ RelH m' Mut' h' w ∧ RelL m' Mut' w vs' us := by
  obtain ⟨m', Mut', g1, g2, g5, g6, g3, g4⟩ := hw m Mut w us H hr
  exact ⟨m', Mut', ⟨rfl, rfl, rfl, Nat.le_refl _, fun _ _ _ => rfl, fun b _ hM hM' => hM (g2 b hM'), fun b _ hM hM' => hM (g5 b hM'), fun b _ hi hM => g6 b hi hM, fun id n x hx => g1 id n x (by rw [hlo]; exact H.dom id n x hx) hx⟩, g3, g4⟩

theorem callFunc_run {g : FuncId} {us : Array Value} (hc : callable P g = true) : (callFunc g us).run P w = .ok (.enter g us) w := by
  unfold callable at hc
  split at hc
  · rename_i fn hf
    simp only [Bool.and_eq_true, bne_iff_ne, ne_eq] at hc
    obtain ⟨h1, h2⟩ := hc
    obtain ⟨b, hb⟩ := Option.isSome_iff_exists.1 h2
    simp [callFunc, hf, h1, hb]
  · cases hc

theorem conjs_iff {cs : List Prop} {p : Prop} (hc : conjs cs p) : (∀ c ∈ cs, c) ∧ p := by
  induction cs with
  | nil => exact ⟨fun c hc => by simp at hc, hc⟩
  | cons c cs ih =>
    obtain ⟨h1, h2⟩ := hc
    obtain ⟨h3, h4⟩ := ih h2
    refine ⟨fun x hx => ?_, h4⟩
    rcases List.mem_cons.1 hx with rfl | hx
    · exact h1
    · exact h3 x hx

theorem Cnd.list_ok {c : Cnd} (h : ∀ x ∈ c.list, x) : c.ok := by
  cases c with
  | none => trivial
  | some c => exact h c.p (by simp [Cnd.list])

/-- An operation comes to a value and a heap. -/
def StepTo (P : Program) (o : Oper) (T : List AV) (h : AHeap) (v : AV) (h' : AHeap) : Prop :=
  ∀ (m : IdMap) (Mut : Mu) (w : World) (a : Act) (next : Act → World → Prop) (Q : Exit → Act → World → Prop), RelH m Mut h w → RelT m Mut w T a →
    (∀ m' Mut' w' x, Ext m Mut w m' Mut' w' → RelH m' Mut' h' w' → RelV m' Mut' w' v x → next (a.put o.dst x) w') → o.wp P a w next Q

theorem stepTo_quiet {o : Oper} {T : List AV} {cd : Cnd} {v : AV} (hq : aopQ P h (aeval T) o = some (cd, v)) (hc : cd.ok) : StepTo P o T h v h := by
  intro m Mut w a next Q H hT hk
  obtain ⟨x, w', g1, g2, g3, g4⟩ := aopQ_sound H hT.eval hq hc
  unfold Oper.wp
  rw [g1]
  exact hk m Mut w' x g2 g3 g4

theorem stepTo_effect {o : Oper} {T : List AV} {ds ds' : List Dec} {cd : Cnd} {v : AV} {h' : AHeap} (hq : aopE P h (aeval T) o ds = some (cd, v, h', ds')) (hc : cd.ok) : StepTo P o T h v h' := by
  intro m Mut w a next Q H hT hk
  obtain ⟨x, m', Mut', w', g1, g2, g3, g4⟩ := aopE_sound H hT.eval hq hc
  unfold Oper.wp
  rcases g1 with g1 | ⟨g1, rfl⟩
  · rw [g1]; exact hk m' Mut' w' x g2 g3 g4
  · rw [g1]; exact hk m' Mut' w' _ g2 g3 g4

theorem stepTo_pick {o : Oper} {T : List AV} {c x y : Operand} {q d : Bool} (ho : o.op = .pick c x y) (hc : aeval T c = .bool q) (hqd : q = d) : StepTo P o T h (if d then aeval T x else aeval T y) h := by
  intro m Mut w a next Q H hT hk
  subst hqd
  have hcv := hT.eval c
  rw [hc] at hcv
  unfold Oper.wp
  rw [show (execOp a.eval o).run P w = .ok (.value (if q then a.eval x else a.eval y)) w by simp [execOp, ho, hcv.inv_bool, asBool]]
  refine hk m Mut w _ (.refl _ _ _) H ?_
  cases q
  · exact hT.eval y
  · exact hT.eval x

theorem stepTo_call {o : Oper} {T : List AV} {c : Call} {f : Operand} {g : FuncId} {cap args : List AV} {h1 : AHeap} {r : AV} {h' : AHeap} (ho : o.op = .call c) (hcal : c.callee = .value f) (hf : aeval T f = .fn g cap) (hcb : callable P g = true)
    (hweak : Weak h.length (c.args.toList.map (aeval T) ++ cap) h args h1) (hret : Ret P g args h1 r h') : StepTo P o T h r h' := by
  intro m Mut w a next Q H hT hk
  have hfv := hT.eval f
  rw [hf] at hfv
  cases hs : a.eval f with
  | func fn first capv =>
    rw [hs] at hfv
    cases hfv with
    | fn _ _ _ hl hrel =>
      have hargs := hT.eval.list c.args
      have hall : RelL m Mut w (c.args.toList.map (aeval T) ++ cap) (c.args.map a.eval ++ capv) := by
        refine ⟨by simp [hl], fun i x v hx hv => ?_⟩
        rw [List.getElem?_append] at hx
        rw [Array.getElem?_append] at hv
        by_cases hi : i < c.args.size
        · rw [if_pos (by simpa using hi)] at hx hv
          exact hargs.2 i x v hx hv
        · rw [if_neg (by simpa using hi)] at hx hv
          simp only [List.length_map, Array.length_toList] at hx
          simp only [Array.size_map] at hv
          exact hrel _ x v hx hv
      obtain ⟨m1, Mut1, E1, H1, hall1⟩ := hweak.app rfl H hall
      have hcalls := hret m1 Mut1 w _ H1 hall1
      unfold Oper.wp
      have hrun : (execOp a.eval o).run P w = .ok (.enter g (c.args.map a.eval ++ capv)) w := by
        simp only [execOp, ho, resolve, hcal, hs, Deferred.ofValue, Sem.run_bind, Sem.run_pure, Result.andThen_ok, invoke]
        rw [show (#[] : Array Value) ++ c.args.map a.eval ++ capv = c.args.map a.eval ++ capv by simp]
        exact callFunc_run hcb
      rw [hrun, Oper.upon_enter]
      refine hcalls.mono fun e w' hpost => ?_
      obtain ⟨x, v, h'', m', Mut', rfl, ⟨rfl, rfl⟩, g2, g3, g4⟩ := hpost
      exact hk m' Mut' w' x (E1.trans g2) g3 g4
  | _ => rw [hs] at hfv; cases hfv

theorem Weak.refl (lo : Nat) (vs : List AV) (h : AHeap) : Weak lo vs h vs h := fun m Mut _ _ H hr => ⟨m, Mut, fun _ _ _ _ hx => hx, fun _ hb => hb, fun _ hb => hb, fun _ hb _ => hb, H, hr⟩

theorem opResQ_sound {o : Oper} {T : List AV} {ds ds' : List Dec} {cs : List Prop} {v : AV} (hr : opResQ P o T h ds = some (cs, v, ds')) (hc : ∀ c ∈ cs, c) : StepTo P o T h v h := by
  unfold opResQ at hr
  split at hr
  · rename_i c x y ho
    split at hr
    · rename_i hq
      cases hr
      exact stepTo_pick ho hq (hc _ (List.mem_singleton.2 rfl))
    · cases hr
  · rename_i c ho
    split at hr
    · rename_i f hcal
      split at hr
      · rename_i hf
        split at hr
        · rename_i hcb
          cases hr
          exact stepTo_call ho hcal hf hcb (.refl _ _ _) (hc _ (List.mem_singleton.2 rfl))
        · cases hr
      · cases hr
    · simp only [Option.map_eq_some_iff, Prod.exists, Prod.mk.injEq] at hr
      obtain ⟨cd, v', hq, rfl, rfl, rfl⟩ := hr
      exact stepTo_quiet hq (Cnd.list_ok hc)
  · simp only [Option.map_eq_some_iff, Prod.exists, Prod.mk.injEq] at hr
    obtain ⟨cd, v', hq, rfl, rfl, rfl⟩ := hr
    exact stepTo_quiet hq (Cnd.list_ok hc)

theorem opRes_sound {o : Oper} {T : List AV} {ds ds' : List Dec} {cs : List Prop} {v : AV} {h' : AHeap} (hr : opRes P o T h ds = some (cs, v, h', ds')) (hc : ∀ c ∈ cs, c) : StepTo P o T h v h' := by
  unfold opRes at hr
  split at hr
  · rename_i c x y ho
    split at hr
    · rename_i hq
      cases hr
      exact stepTo_pick ho hq (hc _ (List.mem_singleton.2 rfl))
    · cases hr
  · rename_i c ho
    split at hr
    · rename_i f hcal
      split at hr
      · rename_i hf
        split at hr
        · rename_i hcb
          cases hr
          exact stepTo_call ho hcal hf hcb (.refl _ _ _) (hc _ (List.mem_singleton.2 rfl))
        · cases hr
      · rename_i hf
        split at hr
        · rename_i hcb
          cases hr
          exact stepTo_call ho hcal hf hcb (hc _ (List.mem_cons_self ..)) (hc _ (List.mem_cons_of_mem _ (List.mem_singleton.2 rfl)))
        · cases hr
      · cases hr
    · split at hr
      · rename_i hq
        cases hr
        exact stepTo_quiet hq (Cnd.list_ok hc)
      · simp only [Option.map_eq_some_iff, Prod.exists, Prod.mk.injEq] at hr
        obtain ⟨cd, v', h'', ds'', hq, rfl, rfl, rfl, rfl⟩ := hr
        exact stepTo_effect hq (Cnd.list_ok hc)
  · split at hr
    · rename_i hq
      cases hr
      exact stepTo_quiet hq (Cnd.list_ok hc)
    · simp only [Option.map_eq_some_iff, Prod.exists, Prod.mk.injEq] at hr
      obtain ⟨cd, v', h'', ds'', hq, rfl, rfl, rfl, rfl⟩ := hr
      exact stepTo_effect hq (Cnd.list_ok hc)

end
end Go.Proofs.Ytjdakdjgkpfjkaa
