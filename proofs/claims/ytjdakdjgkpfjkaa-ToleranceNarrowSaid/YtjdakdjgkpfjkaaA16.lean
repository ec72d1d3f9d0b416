/- A run of a function's text, as one statement. Conditions: none. -/
import Derived.Test.YtjdakdjgkpfjkaaB2
namespace Go.Proofs.Ytjdakdjgkpfjkaa
set_option linter.unusedVariables false
set_option linter.unusedSimpArgs false

/-- A loop comes to one outcome. -/
def LoopTo (P : Program) (c : Code) (T : List AV) (h : AHeap) (e : Exit) (T' : List AV) (h' : AHeap) : Prop := WPC P (.loop c) T h fun e2 T2 h2 => e2 = e ∧ T2 = T' ∧ h2 = h'

/-- Rounds of a loop, one after the other. -/
def runLoop (body : List AV → AHeap → List Dec → (Exit → List AV → AHeap → List Dec → Prop) → Prop) : Nat → List AV → AHeap → List Dec → (Exit → List AV → AHeap → List Dec → Prop) → Prop
  | 0, _, _, _, _ => False
  | n + 1, T, h, ds, K => body T h ds fun e T' h' ds' => match e with
    | .normal => runLoop body n T' h' ds' K
    | e => K e T' h' ds'

def run (P : Program) : Code → List AV → AHeap → List Dec → (Exit → List AV → AHeap → List Dec → Prop) → Prop
  | .skip, T, h, ds, K => K .normal T h ds
  | .label _, T, h, ds, K => K .normal T h ds
  | .ret, T, h, ds, K => K .ret T h ds
  | .exit id, T, h, ds, K => K (.exit id) T h ds
  | .seq x y, T, h, ds, K => run P x T h ds fun e T' h' ds' => match e with | .normal => run P y T' h' ds' K | e => K e T' h' ds'
  | .cond c x y, T, h, ds, K =>
    match aeval T c, ds with
    | .bool q, .b d :: ds' => q = d ∧ (match d with | true => run P x T h ds' K | false => run P y T h ds' K)
    | _, _ => False
  | .block id c, T, h, ds, K => run P c T h ds fun e T' h' ds' => match e with
    | .exit id' => (match Nat.beq id' id with | true => K .normal T' h' ds' | false => K (.exit id') T' h' ds')
    | e => K e T' h' ds'
  | .loop c, T, h, ds, K =>
    match ds with
    | .loop ks e T2 h2 :: ds' => LoopTo P c (mask ks T) h e T2 h2 ∧ K e T2 h2 ds'
    | .virt dd vs :: .loop ks e T2 h2 :: ds' => vstOk vs T (killH dd h) ∧ LoopTo P c (mask ks (vst vs T (killH dd h)).1) (vst vs T (killH dd h)).2 e T2 h2 ∧ K e T2 h2 ds'
    | .rounds n :: ds' => runLoop (run P c) n T h ds' K
    | _ => False
  | .region _ ops false, T, h, ds, K => runOps P ops.toList ops.toList T h ds fun T' h' ds' => K .normal T' h' ds'
  | .region _ ops true, T, h, ds, K => match drawOk ops.toList with
    | true => (match ops.toList.any isEff with
      | false => runOpsQ P ops.toList h ops.toList T ds fun T' ds' => K .normal T' h ds'
      | true => (match drawEff ops.toList with
        | true => runOpsE P ops.toList ops.toList T h ds fun T' h' ds' => K .normal T' h' ds'
        | false => (match drawEff2 ops.toList with
          | true => runOpsE P ops.toList ops.toList T h ds fun T' h' ds' => match apartOk ops.toList T' with | true => K .normal T' h' ds' | false => False
          | false => False)))
    | false => False
  | _, _, _, _, _ => False

def ares1 (P : Program) (T : List AV) (h : AHeap) : ResultVar → Option (List Prop × AV)
  | .tmp t => some ([], T.getD t .any)
  | .cell a t => match cellsAt h (T.getD a .any) with
    | some (c, cs) => if (P.underlying t).isSome then (takeT P t cs).map fun v => (c.list, v) else none
    | none => none

def aresL (P : Program) (T : List AV) (h : AHeap) : List ResultVar → Option (List Prop × List AV)
  | [] => some ([], [])
  | r :: rs => match ares1 P T h r, aresL P T h rs with
    | some (c, v), some (cs, vs) => some (c ++ cs, v :: vs)
    | _, _ => none

def oneOf : List AV → AV
  | [v] => v
  | vs => .tup vs

/-- What is handed back. -/
def RetOk (P : Program) (fn : Func) (T : List AV) (h1 h : AHeap) (r : AV) (h' : AHeap) : Prop :=
  match aresL P T h1 fn.results.toList with
  | some (cs, vs) => conjs cs (ExitTo h h1 (oneOf vs) r h')
  | none => False

def initT (fn : Func) (args : List AV) : List AV := args ++ List.replicate (fn.ntmps - args.length) .undef

def isRet : Exit → Bool
  | .normal | .ret => true
  | _ => false

section
variable {P : Program}

theorem run_sound (hmix : P.follows .mixedOrders = true) : ∀ (c : Code) (T : List AV) (h : AHeap) (ds : List Dec) (K : Exit → List AV → AHeap → List Dec → Prop), run P c T h ds K → WPC P c T h fun e T' h' => ∃ ds', K e T' h' ds' := by
  intro c
  induction c with
  | skip => intro T h ds K hr; exact .skip ⟨ds, hr⟩
  | label l => intro T h ds K hr; exact .label ⟨ds, hr⟩
  | ret => intro T h ds K hr; exact .ret ⟨ds, hr⟩
  | exit id => intro T h ds K hr; exact .exit ⟨ds, hr⟩
  | seq x y ihx ihy =>
    intro T h ds K hr
    refine .seq ((ihx T h ds _ hr).mono fun e T' h' ⟨ds', hk⟩ => ?_)
    cases e with
    | normal => exact ihy T' h' ds' K hk
    | _ => exact ⟨ds', hk⟩
  | cond c x y ihx ihy =>
    intro T h ds K hr
    unfold run at hr
    split at hr
    · rename_i q d ds' hc
      obtain ⟨hq, hr⟩ := hr
      refine .cond hc hq ?_
      cases d with
      | true => exact ihx T h ds' K hr
      | false => exact ihy T h ds' K hr
    · exact hr.elim
  | block id c ih =>
    intro T h ds K hr
    refine .block ((ih T h ds _ hr).mono fun e T' h' ⟨ds', hk⟩ => ?_)
    cases e with
    | exit id' =>
      simp only [inBlk]
      simp only at hk
      by_cases e : id' = id
      · subst e
        rw [if_pos rfl]
        simp only [Nat.beq_refl] at hk
        exact ⟨ds', hk⟩
      · rw [if_neg e]
        rw [show Nat.beq id' id = false by cases hb : Nat.beq id' id with | false => rfl | true => exact absurd (Nat.eq_of_beq_eq_true hb) e] at hk
        exact ⟨ds', hk⟩
    | _ => exact ⟨ds', hk⟩
  | loop c ih =>
    intro T h ds K hr
    unfold run at hr
    split at hr
    · rename_i ks e T2 h2 ds'
      obtain ⟨hl, hk⟩ := hr
      refine WPC.weaken (leT_mask ks T) (WPC.mono hl fun e2 T3 h3 ⟨he, hT, hh⟩ => ?_)
      subst he; subst hT; subst hh
      exact ⟨ds', hk⟩
    · rename_i dd vs ks e T2 h2 ds'
      obtain ⟨hv, hl, hk⟩ := hr
      refine WPC.kill dd (WPC.virt vs T _ hv (WPC.weaken (leT_mask ks _) (WPC.mono hl fun e2 T3 h3 ⟨he, hT, hh⟩ => ?_)))
      subst he; subst hT; subst hh
      exact ⟨ds', hk⟩
    · rename_i n ds'
      refine WPC.loop (fun k T h => ∃ ds, runLoop (run P c) k T h ds K) (fun k T h ⟨ds, hk⟩ => ?_) (n := n) ⟨ds', hr⟩
      cases k with
      | zero => exact hk.elim
      | succ k =>
        refine (ih T h ds _ hk).mono fun e T' h' ⟨ds', hk'⟩ => ?_
        cases e with
        | normal => exact ⟨k, Nat.lt_succ_self k, ds', hk'⟩
        | _ => exact ⟨ds', hk'⟩
    · exact hr.elim
  | region id ops draw =>
    intro T h ds K hr
    cases draw with
    | false => exact .region hr fun T h ds hk => ⟨ds, hk⟩
    | true =>
      unfold run at hr
      split at hr
      · rename_i hok
        split at hr
        · exact .regionDraw hmix hok hr fun T ds hk => ⟨ds, hk⟩
        · split at hr
          · rename_i he
            exact .regionDrawE hmix hok he hr fun T h ds hk => ⟨ds, hk⟩
          · split at hr
            · rename_i he2
              exact .regionDrawE2 hmix hok he2 hr fun T h ds hk => ⟨ds, hk⟩
            · exact hr.elim
      · exact hr.elim
  | _ => intro T h ds K hr; exact hr.elim

theorem results_sound {m : IdMap} {Mut : Mu} {w : World} {h : AHeap} {T : List AV} {a : Act} (H : RelH m Mut h w) (hT : RelT m Mut w T a) : ∀ (rs : List ResultVar) (cs : List Prop) (vs : List AV), aresL P T h rs = some (cs, vs) → (∀ c ∈ cs, c) →
    ∃ us : List Value, (rs.mapM (fun r => match r with
      | .tmp t => pure (a.tmps.getD t Go.undef)
      | .cell b t => do loadVar t (← asAddr (a.tmps.getD b Go.undef))) : Sem (List Value)).run P w = .ok us w ∧ vs.length = us.length ∧ ∀ (i : Nat) x u, vs[i]? = some x → us[i]? = some u → RelV m Mut w x u := by
  intro rs
  induction rs with
  | nil => intro cs vs h _; cases h; exact ⟨[], rfl, rfl, fun i x u hx => by simp at hx⟩
  | cons r rs ih =>
    intro cs vs hr hc
    unfold aresL at hr
    split at hr
    · rename_i c v cs' vs' h1 h2
      cases hr
      obtain ⟨us, g1, g2, g3⟩ := ih cs' vs' h2 fun x hx => hc x (List.mem_append.2 (.inr hx))
      have one : ∃ u, (match r with | .tmp t => pure (a.tmps.getD t Go.undef) | .cell b t => do loadVar t (← asAddr (a.tmps.getD b Go.undef)) : Sem Value).run P w = .ok u w ∧ RelV m Mut w v u := by
        cases r with
        | tmp t => cases h1; exact ⟨_, rfl, hT.eval (.tmp t)⟩
        | cell b t =>
          simp only [ares1] at h1
          split at h1
          · rename_i cd cells hcs
            split at h1
            · rename_i hu
              simp only [Option.map_eq_some_iff, Prod.mk.injEq] at h1
              obtain ⟨y, hy, rfl, rfl⟩ := h1
              have hb := hT.eval (.tmp b)
              obtain ⟨blk, off, ha, _, hcells⟩ := cellsAt_sound H hb hcs (Cnd.list_ok fun x hx => hc x (List.mem_append.2 (.inl hx)))
              obtain ⟨z, hz, hrz⟩ := load_sound (P := P) hcells hy hu
              have ha' : a.tmps.getD b Go.undef = .pointer (some ⟨blk, off, none⟩) := ha
              exact ⟨z, by simp only [ha', asAddr, Sem.run_bind, Sem.run_pure, Result.andThen_ok, hz], hrz⟩
            · cases h1
          · cases h1
      obtain ⟨u, hu, hru⟩ := one
      refine ⟨u :: us, ?_, by simp [g2], fun i x y hx hy => ?_⟩
      · simp only [List.mapM_cons, Sem.run_bind, hu, Result.andThen_ok, g1, Sem.run_pure]
      · cases i with
        | zero => simp at hx hy; subst hx; subst hy; exact hru
        | succ i => exact g3 i x y (by simpa using hx) (by simpa using hy)
    · cases hr

theorem results_run {m : IdMap} {Mut : Mu} {w : World} {h : AHeap} {T : List AV} {a : Act} {fn : Func} (H : RelH m Mut h w) (hT : RelT m Mut w T a) {cs : List Prop} {vs : List AV} (hr : aresL P T h fn.results.toList = some (cs, vs)) (hc : ∀ c ∈ cs, c) :
    ∃ x, (results fn a.tmps).run P w = .ok x w ∧ RelV m Mut w (oneOf vs) x := by
  obtain ⟨us, g1, g2, g3⟩ := results_sound (P := P) H hT _ cs vs hr hc
  have hrun : (results fn a.tmps).run P w = .ok (if h : us.toArray.size = 1 then us.toArray[0] else .tuple us.toArray) w := by
    unfold results
    rw [Array.mapM_eq_mapM_toList]
    simp only [Sem.run_bind, Sem.run_map]
    erw [g1]
    rfl
  refine ⟨_, hrun, ?_⟩
  cases vs with
  | nil =>
    cases us with
    | nil => exact .tup _ _ rfl fun i a v h => by simp at h
    | cons u us => simp at g2
  | cons v vs =>
    cases us with
    | nil => simp at g2
    | cons u us =>
      cases vs with
      | nil =>
        cases us with
        | nil => exact g3 0 v u rfl rfl
        | cons u' us => simp at g2
      | cons v' vs =>
        cases us with
        | nil => simp at g2
        | cons u' us =>
          rw [dif_neg (by simp)]
          exact .tup _ _ (by simpa using g2) fun i a x ha hx => g3 i a x ha (by rw [← List.getElem?_toArray]; exact hx)

/-- A contract, out of a run. -/
theorem Ret.of_run (hmix : P.follows .mixedOrders = true) {f : FuncId} {fn : Func} {c : Code} {args : List AV} {h : AHeap} {r : AV} {h' : AHeap} (hf : P.funcs[f]? = some fn) (hb : fn.body = some c) (ds : List Dec)
    (hr : run P c (initT fn args) h ds fun e T h1 _ => match e with | .normal => RetOk P fn T h1 h r h' | .ret => RetOk P fn T h1 h r h' | _ => False) : Ret P f args h r h' := by
  intro m Mut w us H hargs
  refine calls_of_wp hf hb ?_
  have hT : RelT m Mut w (initT fn args) { tmps := us ++ Array.replicate (fn.ntmps - us.size) Go.undef, defers := [] } := by
    refine ⟨by simp [initT, hargs.1], fun i x v hx hv => ?_, rfl⟩
    simp only [initT, List.getElem?_append] at hx
    simp only [Array.getElem?_append] at hv
    by_cases hi : i < us.size
    · rw [if_pos (by rw [hargs.1]; exact hi)] at hx
      rw [if_pos hi] at hv
      exact hargs.2 i x v hx hv
    · rw [if_neg (by rw [hargs.1]; exact hi)] at hx
      rw [if_neg hi] at hv
      rw [List.getElem?_replicate] at hx
      rw [Array.getElem?_replicate] at hv
      split at hx
      · split at hv
        · cases hx; cases hv; exact .undef
        · cases hv
      · cases hx
  refine wp_mono (run_sound hmix c _ h ds _ hr m Mut w m Mut w _ (.refl _ _ _) H hT) fun e a w1 ⟨m1, Mut1, T1, h1, ⟨ds', hk⟩, E1, H1, hT1⟩ => ?_
  have fin : RetOk P fn T1 h1 h r h' → a.defers = [] ∧ ∃ v, (results fn a.tmps).run P w1 = .ok v w1 ∧ ∃ x v2 h2 m' Mut', Ending.returned v = .returned x ∧ (v2 = r ∧ h2 = h') ∧ Ext m Mut w m' Mut' w1 ∧ RelH m' Mut' h2 w1 ∧ RelV m' Mut' w1 v2 x := by
    intro hk
    refine ⟨hT1.defers, ?_⟩
    unfold RetOk at hk
    split at hk
    · rename_i cs vs hres
      obtain ⟨c1, c2⟩ := conjs_iff hk
      obtain ⟨x, hx, hrx⟩ := results_run (P := P) H1 hT1 hres c1
      obtain ⟨m', Mut', p1, p2, p3⟩ := exit_sound c2 H E1 H1 hrx
      exact ⟨x, hx, x, r, h', m', Mut', rfl, ⟨rfl, rfl⟩, p1, p2, p3⟩
    · exact hk.elim
  cases e with
  | normal => exact fin hk
  | ret => exact fin hk
  | _ => exact hk.elim

end
end Go.Proofs.Ytjdakdjgkpfjkaa
