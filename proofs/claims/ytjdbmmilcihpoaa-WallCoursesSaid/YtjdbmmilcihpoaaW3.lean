/- Own framework for walks through the program, part 3. Conditions: none. -/
import Derived.Test.YtjdbmmilcihpoaaW2
import Derived.Shelf.SlSortCmp.WholeK

namespace Go.Proofs.Ytjdbmmilcihpoaa
set_option linter.unusedVariables false
set_option linter.unusedSimpArgs false
/-- Objects that are forgotten. -/
def deadL : AHeap → AHeap → Prop
 | [], [] => True
 | x :: xs, y :: ys => (y = x ∨ y = .dead) ∧ deadL xs ys
 | _, _ => False
theorem deadL_get : ∀ (xs ys : AHeap), deadL xs ys → xs.length = ys.length ∧ ∀ (i : Nat) y, ys[i]? = some y → y = .dead ∨ xs[i]? = some y := by
 intro xs
 induction xs with
 | nil => intro ys h; cases ys with
  | nil => exact ⟨rfl, fun i y h => by simp at h⟩
  | cons y ys => exact h.elim
 | cons x xs ih => intro ys h; cases ys with
  | nil => exact h.elim
  | cons y ys =>
   obtain ⟨h1, h2⟩ := ih ys h.2
   refine ⟨by simp [h1], fun i z hz => ?_⟩
   cases i with
   | zero => simp at hz; subst hz; rcases h.1 with e | e
             · subst e; exact .inr rfl
             · exact .inl e
   | succ i => simpa using h2 i z (by simpa using hz)
theorem deadL_sound {m : IdMap} {Mut : Mu} {w : World} {h h' : AHeap} (hd : deadL h h') (H : RelH m Mut h w) : RelH m Mut h' w := by
 obtain ⟨hl, hg⟩ := deadL_get _ _ hd
 refine ⟨fun id o ho => ?_, fun id id' o o' b C C' ho ho' hl1 hl2 hm hm' => ?_, fun id n x hx => hl ▸ H.dom id n x hx, H.lt, fun id o n x ho hl1 hx => ?_⟩
 · rcases hg id o ho with e | e
   · subst e; exact trivial
   · exact H.obj id o e
 · rcases hg id o ho with e | e
   · subst e; cases hl1
   · rcases hg id' o' ho' with e' | e'
     · subst e'; cases hl2
     · exact H.inj id id' o o' b C C' e e' hl1 hl2 hm hm'
 · rcases hg id o ho with e | e
   · subst e; cases hl1
   · exact H.top id o n x e hl1 hx
/-- What a piece of code made is forgotten. -/
inductive PopOk (h h1 : AHeap) (T' : List AV) : AHeap → Prop
 | same : PopOk h h1 T' h1
 | dead (h' : AHeap) (hd : deadL h1 h') : PopOk h h1 T' h'
 | pop (ht : h1.take h.length = h) (hT : ∀ t ∈ T', Low h.length t) : PopOk h h1 T' h
 | popLow (h' : AHeap) (ht : h1.take h.length = h') (hl : h'.length = h.length) (ho : ∀ o ∈ h', o.Low h.length) (hT : ∀ t ∈ T', Low h.length t) : PopOk h h1 T' h'
section
variable {P : Program}
theorem RelT.tup {m : IdMap} {Mut : Mu} {w : World} {T : List AV} {a : Act} (h : RelT m Mut w T a) : RelV m Mut w (.tup T) (.tuple a.tmps) := .tup _ _ h.len h.val
theorem WPC.pop {c : Code} {T : List AV} {h : AHeap} {R Q : Exit → List AV → AHeap → Prop} (hc : WPC P c T h R) (hq : ∀ e T1 h1, R e T1 h1 → ∃ T' h', leT T1 T' ∧ Q e T' h' ∧ PopOk h h1 T' h') : WPC P c T h Q :=
 fun m0 Mut0 w0 m Mut w a E H hT => wp_mono (hc m Mut w m Mut w a (.refl _ _ _) H hT) fun e a1 w1 ⟨m1, Mut1, T1, h1, hr, E1, H1, hT1⟩ => by
  obtain ⟨T', h', hle, hq, hp⟩ := hq e T1 h1 hr
  have hT2 : RelT m1 Mut1 w1 T' a1 := by
   obtain ⟨g1, g2⟩ := leT_spec (m := m1) (Mut := Mut1) (w := w1) T1 T' hle
   refine ⟨by rw [← g1]; exact hT1.len, fun i x v hx hv => ?_, hT1.defers⟩
   rcases g2 i x hx with e | e
   · subst e; exact .any v
   · exact hT1.val i x v e hv
  have fin : ∀ {h' : AHeap}, ExitTo h h1 (.tup T') (.tup T') h' → Q e T' h' → APost Q m0 Mut0 w0 e a1 w1 := fun hx hq => by
   obtain ⟨m', Mut', p1, p2, p3⟩ := exit_sound hx H E1 H1 hT2.tup
   refine ⟨m', Mut', T', _, hq, E.trans p1, p2, ?_⟩
   cases p3 with
   | tup _ _ hl hv => exact ⟨hl, hv, hT1.defers⟩
  cases hp with
  | same => exact ⟨m1, Mut1, T', h1, hq, E.trans E1, H1, hT2⟩
  | dead _ hd => exact ⟨m1, Mut1, T', _, hq, E.trans E1, deadL_sound hd H1, hT2⟩
  | pop ht hTl => exact fin (.pop (.low _ (.tup _ hTl)) ht rfl fun id o ho => .inl ho) hq
  | popLow _ ht hl ho hTl => exact fin (.pop (.low _ (.tup _ hTl)) ht hl fun id o hid => .inr (ho o (List.mem_of_getElem? hid))) hq
variable {σ ο : Type}
def LNextP (Tm : σ → List AV) (Hp : σ → AHeap) (inv : σ → Prop) (mu : σ → Nat) (l : Nat → σ → ο) (n : Nat) (s : σ) (T : List AV) (h : AHeap) : Prop :=
 ∃ s', inv s' ∧ mu s' < mu s ∧ l n s' = l (n + 1) s ∧ T = Tm s' ∧ PopOk (Hp s) h (Tm s') (Hp s')
def LEndP (Hp : σ → AHeap) (l : Nat → σ → ο) (oE : ο → Exit) (oT : ο → List AV) (oH : ο → AHeap) (n : Nat) (s : σ) (e : Exit) (T : List AV) (h : AHeap) : Prop :=
 ∃ o, l (n + 1) s = o ∧ e = oE o ∧ T = oT o ∧ PopOk (Hp s) h (oT o) (oH o)
theorem LNextP.mk {Tm : σ → List AV} {Hp : σ → AHeap} {inv : σ → Prop} {mu : σ → Nat} {l : Nat → σ → ο} {n : Nat} {s : σ} {h : AHeap} (s' : σ) (h1 : inv s') (h2 : mu s' < mu s) (h3 : l n s' = l (n + 1) s) (h4 : PopOk (Hp s) h (Tm s') (Hp s')) : LNextP Tm Hp inv mu l n s (Tm s') h := ⟨s', h1, h2, h3, rfl, h4⟩
theorem LEndP.mk {Hp : σ → AHeap} {l : Nat → σ → ο} {oE : ο → Exit} {oT : ο → List AV} {oH : ο → AHeap} {n : Nat} {s : σ} {hh : AHeap} (o : ο) (h : l (n + 1) s = o) (h4 : PopOk (Hp s) hh (oT o) (oH o)) : LEndP Hp l oE oT oH n s (oE o) (oT o) hh := ⟨o, h, rfl, rfl, h4⟩
def LRoundP (Tm : σ → List AV) (Hp : σ → AHeap) (inv : σ → Prop) (mu : σ → Nat) (l : Nat → σ → ο) (oE : ο → Exit) (oT : ο → List AV) (oH : ο → AHeap) (ks kr kx : List Nat) (n : Nat) (s : σ) : Exit → List AV → AHeap → List Dec → Prop :=
 fun e T h _ => match e with
  | .normal => LNextP Tm Hp inv mu l n s (mask ks T) h
  | .ret => LEndP Hp l oE oT oH n s .ret (mask kr T) h
  | e => LEndP Hp l oE oT oH n s e (mask kx T) h
theorem LoopTo.fuelP (hmix : P.follows .mixedOrders = true) {c : Code} (Tm : σ → List AV) (Hp : σ → AHeap) (inv : σ → Prop) (mu : σ → Nat) (l : Nat → σ → ο) (oE : ο → Exit) (oT : ο → List AV) (oH : ο → AHeap) (ks kr kx : List Nat)
 (round : ∀ n s, inv s → mu s < n + 1 → ∃ ds, run P c (Tm s) (Hp s) ds (LRoundP Tm Hp inv mu l oE oT oH ks kr kx n s)) (n : Nat) (s : σ) (hi : inv s) (hm : mu s < n) : LoopTo P c (Tm s) (Hp s) (oE (l n s)) (oT (l n s)) (oH (l n s)) := by
 refine WPC.loop (fun k T h => ∃ s', inv s' ∧ mu s' < k ∧ l k s' = l n s ∧ T = Tm s' ∧ h = Hp s') (fun k T h ⟨s', hi', hm', hl, hT, hh⟩ => ?_) (n := n) ⟨s, hi, hm, rfl, rfl, rfl⟩
 subst hT; subst hh
 cases k with
 | zero => exact absurd hm' (Nat.not_lt_zero _)
 | succ k =>
  obtain ⟨ds, hr⟩ := round k s' hi' hm'
  refine (run_sound hmix c _ _ ds _ hr).pop fun e2 T2 h2 ⟨ds', hk⟩ => ?_
  cases e2 with
  | normal =>
   obtain ⟨s2, a1, a2, a3, a4, a5⟩ := hk
   exact ⟨_, _, a4 ▸ leT_mask ks T2, ⟨k, Nat.lt_succ_self k, s2, a1, by omega, a3.trans hl, rfl, rfl⟩, a5⟩
  | ret =>
   obtain ⟨o, a1, a2, a3, a4⟩ := hk
   exact ⟨_, _, leT_mask kr T2, ⟨by rw [← hl, a1]; exact a2, by rw [← hl, a1]; exact a3, by rw [← hl, a1]⟩, a3 ▸ a4⟩
  | _ =>
   obtain ⟨o, a1, a2, a3, a4⟩ := hk
   exact ⟨_, _, leT_mask kx T2, ⟨by rw [← hl, a1]; exact a2, by rw [← hl, a1]; exact a3, by rw [← hl, a1]⟩, a3 ▸ a4⟩
end
@[simp] theorem low_ofList1 {lo : Nat} {l : List AV} {i : Nat} (hi : i < l.length) (h : ∀ x ∈ l, Low lo x) : Low lo ((Col.ofList l).get i) = True :=
 eq_true (h _ (List.mem_of_getElem? ((Col.ofList_get l).2 i hi)))
@[simp] theorem low_ofListN {lo n : Nat} {l : List AV} (hn : n ≤ l.length) (h : ∀ x ∈ l, Low lo x) : (∀ i, i < n → Low lo ((Col.ofList l).get i)) = True :=
 eq_true fun i hi => h _ (List.mem_of_getElem? ((Col.ofList_get l).2 i (by omega)))
theorem zero_bool (n : Nat) : Col.zero (ofV (Value.bool false)) n = .bools (List.replicate n false) := rfl
theorem zero_int (k : IntKind) (n : Nat) : Col.zero (ofV (Value.int k 0)) n = .ints k (List.replicate n 0) := rfl
theorem Ret.val {P : Program} {f : FuncId} {args : List AV} {h h' : AHeap} {r r' : AV} (e : r = r') (hr : Ret P f args h r h') : Ret P f args h r' h' := e ▸ hr
@[simp] theorem low_ovar (lo : Nat) (v : AV) : (AObj.var v).Low lo = Low lo v := rfl
@[simp] theorem low_orowi (lo sz n : Nat) (k : IntKind) (xs : List Int) : (AObj.row sz n (.ints k xs)).Low lo = True := eq_true fun _ _ => .int _ _
@[simp] theorem low_orows (lo sz n : Nat) (xs : List ByteArray) : (AObj.row sz n (.strs xs)).Low lo = True := eq_true fun _ _ => .str _
@[simp] theorem low_orowb (lo sz n : Nat) (xs : List Bool) : (AObj.row sz n (.bools xs)).Low lo = True := eq_true fun _ _ => .bool _
@[simp] theorem low_orowr (lo sz n : Nat) (xs : List AV) : (AObj.row sz n (.recs xs)).Low lo = ∀ x ∈ xs, Low lo x := propext ⟨fun h x hx => by
 obtain ⟨i, hi, rfl⟩ := List.mem_iff_getElem.1 hx
 have := h (xs.length - 1 - i) (by simp only [Col.len]; omega)
 simp only [Col.get] at this
 rw [if_pos (by omega), show xs.length - 1 - (xs.length - 1 - i) = i by omega, List.getD_eq_getElem?_getD, List.getElem?_eq_getElem hi] at this
 exact this, fun h i hi => by
 simp only [Col.len] at hi
 simp only [Col.get]
 rw [if_pos hi, List.getD_eq_getElem?_getD, List.getElem?_eq_getElem (by omega)]
 exact h _ (List.getElem_mem _)⟩
@[simp] theorem low_odead (lo : Nat) : AObj.dead.Low lo = True := rfl
@[simp] theorem low_oiter (lo : Nat) (s : ByteArray) (p : Nat) : (AObj.iter s p).Low lo = True := rfl
@[simp] theorem low_ptr (lo id n sz i off : Nat) : Low lo (.ptr id n sz i off) = (id < lo) := propext ⟨fun h => by cases h; assumption, fun h => .ptr _ _ _ _ _ h⟩
@[simp] theorem low_ms (lo id n sz off len : Nat) : Low lo (.ms id n sz off len) = (id < lo) := propext ⟨fun h => by cases h; assumption, fun h => .ms _ _ _ _ _ h⟩
@[simp] theorem low_undef (lo : Nat) : Low lo .undef = True := eq_true .undef
@[simp] theorem low_nilp (lo : Nat) : Low lo .nilp = True := eq_true .nilp
end Go.Proofs.Ytjdbmmilcihpoaa
namespace Go.Proofs.Ytjdbmmilcihpoaa
set_option linter.unusedVariables false
set_option linter.unusedSimpArgs false
end Go.Proofs.Ytjdbmmilcihpoaa
namespace Go.Proofs.Ytjdbmmilcihpoaa
set_option linter.unusedVariables false
set_option linter.unusedSimpArgs false
variable {P : Program}
instance : Inhabited MCol := ⟨.sset []⟩
@[simp] theorem low_mp (lo id : Nat) : Low lo (.mp id) = (id < lo) := propext ⟨fun h => by cases h; assumption, .mp id⟩
@[simp] theorem lowO_map (lo : Nat) (c : MCol) : AObj.Low lo (.map c) = True := eq_true trivial
end Go.Proofs.Ytjdbmmilcihpoaa
namespace Go.Proofs.Ytjdbmmilcihpoaa
set_option linter.unusedVariables false
set_option linter.unusedSimpArgs false
variable {P : Program} {o : Oper} {os ops : List Oper} {T : List AV} {h h' : AHeap} {ds ds' : List Dec} {cs : List Prop} {v : AV}
theorem conjs_all : ∀ {cs : List Prop} {p : Prop}, (∀ c ∈ cs, c) → p → conjs cs p
 | [], p, _, hp => hp
 | c :: cs, p, hc, hp => ⟨hc c (List.mem_cons_self ..), conjs_all (fun d hd => hc d (List.mem_cons_of_mem _ hd)) hp⟩
theorem all_nil : ∀ c ∈ ([] : List Prop), c := fun c hc => by cases hc
theorem all_cnd {c : Cnd} (h : c.ok) : ∀ p ∈ c.list, p := fun p hp => by
 cases c with
 | none => cases hp
 | some x => simp only [Cnd.list, List.mem_singleton] at hp; rw [hp]; exact h
theorem runOps_step {K : List AV → AHeap → List Dec → Prop} (hg : o.guard = none) (hr : opRes P o T h ds = some (cs, v, h', ds')) (hc : ∀ c ∈ cs, c)
 (hk : runOps P ops os (aput T o.dst v) h' ds' K) : runOps P ops (o :: os) T h ds K := by
 unfold runOps
 rw [hg]
 simp only [hr]
 exact conjs_all hc hk
theorem runOpsE_stepE {K : List AV → AHeap → List Dec → Prop} (hg : o.guard = none) (he : isEff o = true) (hr : opRes P o T h ds = some (cs, v, h', ds')) (hc : ∀ c ∈ cs, c)
 (hk : runOpsE P ops os (aput T o.dst v) h' ds' K) : runOpsE P ops (o :: os) T h ds K := by
 unfold runOpsE
 rw [hg, he]
 simp only [hr]
 exact conjs_all hc hk
theorem runOpsE_stepQ {K : List AV → AHeap → List Dec → Prop} (hg : o.guard = none) (he : isEff o = false) (hp : isPure o = false) (hr : opResQ P o T h ds = some (cs, v, ds')) (hc : ∀ c ∈ cs, c)
 (hk : runOpsE P ops os (aput T o.dst v) h ds' K) : runOpsE P ops (o :: os) T h ds K := by
 unfold runOpsE
 rw [hg, he]
 simp only [hr]
 refine conjs_all hc ?_
 unfold pureC
 rw [hp]
 exact hk
/-- The same aas a proposition that is not unfolded. -/
structure RunE (P : Program) (ops os : List Oper) (T : List AV) (h : AHeap) (ds : List Dec) (K : List AV → AHeap → List Dec → Prop) : Prop where
 run : runOpsE P ops os T h ds K
theorem RunE.nil {K : List AV → AHeap → List Dec → Prop} (hk : K T h ds) : RunE P ops [] T h ds K := ⟨hk⟩
theorem RunE.stepE {K : List AV → AHeap → List Dec → Prop} {T' : List AV} (hT : aput T o.dst v = T') (hg : o.guard = none) (he : isEff o = true) (hr : opRes P o T h ds = some (cs, v, h', ds')) (hc : ∀ c ∈ cs, c)
 (hk : RunE P ops os T' h' ds' K) : RunE P ops (o :: os) T h ds K := ⟨runOpsE_stepE hg he hr hc (by rw [hT]; exact hk.run)⟩
theorem RunE.stepQ {K : List AV → AHeap → List Dec → Prop} {T' : List AV} (hT : aput T o.dst v = T') (hg : o.guard = none) (he : isEff o = false) (hp : isPure o = false) (hr : opResQ P o T h ds = some (cs, v, ds')) (hc : ∀ c ∈ cs, c)
 (hk : RunE P ops os T' h ds' K) : RunE P ops (o :: os) T h ds K := ⟨runOpsE_stepQ hg he hp hr hc (by rw [hT]; exact hk.run)⟩
structure RunS (P : Program) (ops os : List Oper) (T : List AV) (h : AHeap) (ds : List Dec) (K : List AV → AHeap → List Dec → Prop) : Prop where
 run : runOps P ops os T h ds K
theorem RunS.nil {K : List AV → AHeap → List Dec → Prop} (hk : K T h ds) : RunS P ops [] T h ds K := ⟨hk⟩
theorem RunS.step {K : List AV → AHeap → List Dec → Prop} {T' : List AV} (hT : aput T o.dst v = T') (hg : o.guard = none) (hr : opRes P o T h ds = some (cs, v, h', ds')) (hc : ∀ c ∈ cs, c)
 (hk : RunS P ops os T' h' ds' K) : RunS P ops (o :: os) T h ds K := ⟨runOps_step hg hr hc (by rw [hT]; exact hk.run)⟩
theorem aopQ_load {t : TypeId} {a : Operand} {p : AV} {c : Cnd} {xs : List AV} (ho : o.op = .load t a) (hp : aeval T a = p) (hc : cellsAt h p = some (c, xs)) (hu : (P.underlying t).isSome = true) (ht : takeT P t xs = some v) :
 aopQ P h (aeval T) o = some (c, v) := by
 unfold aopQ
 rw [ho]
 simp only [hp, hc, hu, ht, if_true, Option.map_some]
theorem resQ_of {c : Cnd} (hn : isCallV o = false) (hk : ∀ c a b, o.op ≠ .pick c a b) (hq : aopQ P h (aeval T) o = some (c, v)) : opResQ P o T h ds = some (c.list, v, ds) := by
 unfold opResQ
 split
 · rename_i e; exact absurd e (hk _ _ _)
 · rename_i cl e
   split
   · rename_i f e2
     unfold isCallV at hn
     rw [e] at hn
     simp only [e2] at hn
     cases hn
   · rw [hq]; rfl
 · rw [hq]; rfl
theorem res_of {c : Cnd} (hn : isCallV o = false) (hk : ∀ c a b, o.op ≠ .pick c a b) (hq : aopQ P h (aeval T) o = some (c, v)) : opRes P o T h ds = some (c.list, v, h, ds) := by
 unfold opRes
 split
 · rename_i e; exact absurd e (hk _ _ _)
 · rename_i cl e
   split
   · rename_i f e2
     unfold isCallV at hn
     rw [e] at hn
     simp only [e2] at hn
     cases hn
   · rw [hq]
 · rw [hq]
theorem resQ_load {t : TypeId} {a : Operand} {p : AV} {c : Cnd} {xs : List AV} (ho : o.op = .load t a) (hp : aeval T a = p) (hc : cellsAt h p = some (c, xs)) (hu : (P.underlying t).isSome = true) (ht : takeT P t xs = some v) :
 opResQ P o T h ds = some (c.list, v, ds) :=
 resQ_of (by unfold isCallV; rw [ho]) (fun _ _ _ e => by rw [ho] at e; cases e) (aopQ_load ho hp hc hu ht)
theorem res_load {t : TypeId} {a : Operand} {p : AV} {c : Cnd} {xs : List AV} (ho : o.op = .load t a) (hp : aeval T a = p) (hc : cellsAt h p = some (c, xs)) (hu : (P.underlying t).isSome = true) (ht : takeT P t xs = some v) :
 opRes P o T h ds = some (c.list, v, h, ds) :=
 res_of (by unfold isCallV; rw [ho]) (fun _ _ _ e => by rw [ho] at e; cases e) (aopQ_load ho hp hc hu ht)
theorem cells_var {id n sz off : Nat} {x : AV} (hi : h[id]? = some (.var x)) (hn : n = 1) : cellsAt h (.ptr id n sz 0 off) = some (none, x.cells.drop off) := by
 unfold cellsAt
 simp only [hi, hn, and_self, if_true]
theorem cells_row {id n sz s k i off : Nat} {c : Col} (hi : h[id]? = some (.row s k c)) : cellsAt h (.ptr id n sz i off) = some (cnd (n = k ∧ sz = s ∧ i < c.len), (c.get i).cells.drop off) := by
 unfold cellsAt
 simp only [hi]
theorem res_alloc {e : TypeId} {z : AV} (ho : o.op = .alloc e) (hz : zeroV P e = some z) (ha : z.isAny = false) : opRes P o T h ds = some ([], .ptr h.length 1 z.cells.length 0 0, h ++ [.var z], ds) := by
 have hq : aopQ P h (aeval T) o = none := by unfold aopQ; rw [ho]
 unfold opRes
 rw [ho]
 simp only [hq]
 unfold aopE
 rw [ho]
 simp only [hz, ha, Option.map_some, Cnd.list, Bool.false_eq_true, if_false]
theorem res_store {t : TypeId} {a x : Operand} {p y : AV} {c : Cnd} (ho : o.op = .store t a x) (hp : aeval T a = p) (hy : aeval T x = y) (hs : astore P h t p y = some (c, h')) : opRes P o T h ds = some (c.list, .undef, h', ds) := by
 have hq : aopQ P h (aeval T) o = none := by unfold aopQ; rw [ho]
 unfold opRes
 rw [ho]
 simp only [hq]
 unfold aopE
 rw [ho]
 simp only [hp, hy, hs, Option.map_some]
theorem store_var {t : TypeId} {id sz off : Nat} {x y z : AV} (hi : h[id]? = some (.var x)) (ht : hasT P t = true) (ha : y.isAny = false) (hl : y.cells.length = szOf P t) (hs : storeIn x off y.cells = some z) :
 astore P h t (.ptr id 1 sz 0 off) y = some (none, h.set id (.var z)) := by
 unfold astore
 rw [if_pos ⟨ht, ha, hl⟩]
 simp only [hi, and_self, if_true, hs, Option.map_some]
theorem store_row {t : TypeId} {id n s k i off : Nat} {c c' : Col} {y e : AV} (hi : h[id]? = some (.row s k c)) (ht : hasT P t = true) (ha : y.isAny = false) (hl : y.cells.length = szOf P t) (hs : storeIn (c.get i) off y.cells = some e) (hc : c.set i e = some c') :
 astore P h t (.ptr id n s i off) y = some (cnd (n = k ∧ i < c.len), h.set id (.row s k c')) := by
 unfold astore
 rw [if_pos ⟨ht, ha, hl⟩]
 simp only [hi, if_true, hs, hc, Option.map_some]
/-- append of one element to a row of its own. -/
theorem aapp_one {t e : TypeId} {id k len n : Nat} {f : Nat → AV} {col : Col} (hsq : seqOf P t = .slice e) (hz : zeroSized P e = true) (hi : h[id]? = some (.row (szOf P e) k col)) :
 ∃ c : Cnd, aapp P h t (.ms id k (szOf P e) 0 len) (.sl (szOf P e) n f) .one false = some (c, .ms id (k + 1) (szOf P e) 0 (col.snoc (f 0)).len, h.set id (.row (szOf P e) (k + 1) (col.snoc (f 0)))) ∧
  (AppMode.one.needs n f → (len + n) * bytesT P e ≤ 140737488355328 → len = col.len → c.ok) := by
 unfold aapp
 rw [hsq]
 simp only [hz, if_true, asrc, hi]
 rw [if_pos (by trivial)]
 exact ⟨_, rfl, fun h1 h2 h3 => ⟨by trivial, h1, h2, by trivial, by trivial, h3⟩⟩
theorem res_app {c : Call} {s x : Operand} {t e : TypeId} {id k len n : Nat} {f : Nat → AV} {col : Col} (ho : o.op = .call c) (hc : c.callee = .builtin .append) (ha : c.args.toList = [s, x]) (ht : c.argTypes.toList = [t, t])
 (hq : abuiltin P h .append c.argTypes.toList (c.args.toList.map (aeval T)) = none)
 (hsq : seqOf P t = .slice e) (hz : zeroSized P e = true) (hs : aeval T s = .ms id k (szOf P e) 0 len) (hx : aeval T x = .sl (szOf P e) n f) (hi : h[id]? = some (.row (szOf P e) k col))
 (h1 : AppMode.one.needs n f) (h2 : (len + n) * bytesT P e ≤ 140737488355328) (h3 : len = col.len) :
 ∃ cs, opRes P o T h (.app .one false :: ds) = some (cs, .ms id (k + 1) (szOf P e) 0 (col.snoc (f 0)).len, h.set id (.row (szOf P e) (k + 1) (col.snoc (f 0))), ds) ∧ ∀ c ∈ cs, c := by
 have hq' : aopQ P h (aeval T) o = none := by
  unfold aopQ
  rw [ho]
  simp only [hc]
  exact hq
 obtain ⟨cd, e1, e2⟩ := aapp_one (P := P) (t := t) (len := len) (n := n) (f := f) hsq hz hi
 refine ⟨cd.list, ?_, all_cnd (e2 h1 h2 h3)⟩
 unfold opRes
 rw [ho]
 simp only [hc, hq']
 unfold aopE
 rw [ho]
 simp only [hc, ha, ht, hs, hx, if_true, e1, Option.map_some]
def APK (l : List Oper) (K : List AV → AHeap → List Dec → Prop) : List AV → AHeap → List Dec → Prop := fun T' h' ds' => match apartOk l T' with | true => K T' h' ds' | false => False
theorem APK.mk {l : List Oper} {K : List AV → AHeap → List Dec → Prop} (ha : apartOk l T = true) (hk : K T h ds) : APK l K T h ds := by
 unfold APK
 rw [ha]
 exact hk
/-- A region of open order, told by its operations. -/
theorem WPC.regE {id : Nat} {a : Array Oper} {l : List Oper} {Q : Exit → List AV → AHeap → Prop} (K : List AV → AHeap → List Dec → Prop) (hl : a.toList = l) (hmix : P.follows .mixedOrders = true) (hok : drawOk l = true) (heff : drawEff2 l = true)
 (hr : RunE P l l T h ds (APK l K)) (hk : ∀ T h ds, K T h ds → Q .normal T h) : WPC P (.region id a true) T h Q := by
 subst hl
 exact .regionDrawE2 hmix hok heff hr.run hk
/-- A region in order. -/
theorem WPC.regS {id : Nat} {a : Array Oper} {l : List Oper} {Q : Exit → List AV → AHeap → Prop} (K : List AV → AHeap → List Dec → Prop) (hl : a.toList = l)
 (hr : RunS P l l T h ds K) (hk : ∀ T h ds, K T h ds → Q .normal T h) : WPC P (.region id a false) T h Q := by
 subst hl
 exact .region hr.run hk
/-- What a piece of code comes to, aas a proposition that is not unfolded. -/
structure To (P : Program) (c : Code) (T : List AV) (h : AHeap) (Q : Exit → List AV → AHeap → Prop) : Prop where
 wpc : WPC P c T h Q
theorem To.seq {x y : Code} {e1 T1 h1} {Q : Exit → List AV → AHeap → Prop} (hx : To P x T h fun e T' h' => e = e1 ∧ T' = T1 ∧ h' = h1) (he : e1 = .normal) (hy : To P y T1 h1 Q) : To P (.seq x y) T h Q :=
 ⟨.seq (hx.wpc.mono fun e T' h' ⟨a, b, c⟩ => by subst a; subst b; subst c; subst he; exact hy.wpc)⟩
theorem To.seqX {x y : Code} {id : Nat} {T1 h1} {Q : Exit → List AV → AHeap → Prop} (hx : To P x T h fun e T' h' => e = .exit id ∧ T' = T1 ∧ h' = h1) (hq : Q (.exit id) T1 h1) : To P (.seq x y) T h Q :=
 ⟨.seq (hx.wpc.mono fun e T' h' ⟨a, b, c⟩ => by subst a; subst b; subst c; exact hq)⟩
theorem To.cond {c : Operand} {x y : Code} {q : Bool} {Q : Exit → List AV → AHeap → Prop} (hc : aeval T c = .bool q) (hx : To P (if q then x else y) T h Q) : To P (.cond c x y) T h Q := ⟨.cond hc rfl hx.wpc⟩
theorem To.skip {Q : Exit → List AV → AHeap → Prop} (hq : Q .normal T h) : To P .skip T h Q := ⟨.skip hq⟩
theorem To.exit {id : Nat} {Q : Exit → List AV → AHeap → Prop} (hq : Q (.exit id) T h) : To P (.exit id) T h Q := ⟨.exit hq⟩
theorem To.block {id : Nat} {c : Code} {T1 h1} (hc : To P c T h fun e T' h' => e = .normal ∧ T' = T1 ∧ h' = h1) : To P (.block id c) T h fun e T' h' => e = .normal ∧ T' = T1 ∧ h' = h1 :=
 ⟨.block (hc.wpc.mono fun e T' h' ⟨a, b, c⟩ => by subst a; exact ⟨rfl, b, c⟩)⟩
theorem To.regE {id : Nat} {a : Array Oper} {l : List Oper} {T1 h1} (hl : a.toList = l) (hmix : P.follows .mixedOrders = true) (hok : drawOk l = true) (heff : drawEff2 l = true)
 (hr : RunE P l l T h ds (APK l fun T' h' _ => T' = T1 ∧ h' = h1)) : To P (.region id a true) T h fun e T' h' => e = .normal ∧ T' = T1 ∧ h' = h1 :=
 ⟨WPC.regE _ hl hmix hok heff hr fun T h ds hk => ⟨rfl, hk.1, hk.2⟩⟩
theorem To.regS {id : Nat} {a : Array Oper} {l : List Oper} {T1 h1} (hl : a.toList = l) (hr : RunS P l l T h ds fun T' h' _ => T' = T1 ∧ h' = h1) : To P (.region id a false) T h fun e T' h' => e = .normal ∧ T' = T1 ∧ h' = h1 :=
 ⟨WPC.regS _ hl hr fun T h ds hk => ⟨rfl, hk.1, hk.2⟩⟩
theorem To.loop {c : Code} {Q : Exit → List AV → AHeap → Prop} (I : Nat → List AV → AHeap → Prop) (round : ∀ n T h, I n T h → To P c T h (andThen (fun T' h' => ∃ n', n' < n ∧ I n' T' h') Q)) {n : Nat} (h0 : I n T h) : To P (.loop c) T h Q :=
 ⟨.loop I (fun n T h hi => (round n T h hi).wpc) h0⟩
theorem To.pop {c : Code} {R Q : Exit → List AV → AHeap → Prop} (hc : To P c T h R) (hq : ∀ e T1 h1, R e T1 h1 → ∃ T' h', leT T1 T' ∧ Q e T' h' ∧ PopOk h h1 T' h') : To P c T h Q := ⟨hc.wpc.pop hq⟩
theorem To.mono {c : Code} {R Q : Exit → List AV → AHeap → Prop} (hc : To P c T h R) (hq : ∀ e T h, R e T h → Q e T h) : To P c T h Q := ⟨hc.wpc.mono hq⟩
end Go.Proofs.Ytjdbmmilcihpoaa
namespace Go.Proofs.Ytjdbmmilcihpoaa
set_option linter.unusedVariables false
set_option linter.unusedSimpArgs false
variable {P : Program} {D : Type} [Inhabited D]
def rowOf (sz : Nat) (av : D → AV) (l : List D) : AObj := .row sz l.length (.gen l.length fun q => av (l.getD q default))
def rowsH (sz : Nat) (av : D → AV) (N : Nat) (L : Nat → List D) : AHeap := (List.range N).map fun j => rowOf sz av (L j)
def outer (b sz N : Nat) (L : Nat → List D) : AObj := .row 1 N (.gen N fun j => .ms (b + j) (L j).length sz 0 (L j).length)
/-- The heap h0, then a row of N slices, then their rows. -/
def nestH (h0 : AHeap) (sz : Nat) (av : D → AV) (N : Nat) (L : Nat → List D) : AHeap := h0 ++ outer (h0.length + 1) sz N L :: rowsH sz av N L
theorem rowsH_len (sz : Nat) (av : D → AV) (N : Nat) (L : Nat → List D) : (rowsH sz av N L).length = N := by unfold rowsH; simp
theorem nestH_len (h0 : AHeap) (sz : Nat) (av : D → AV) (N : Nat) (L : Nat → List D) : (nestH h0 sz av N L).length = h0.length + 1 + N := by
 unfold nestH; rw [List.length_append, List.length_cons, rowsH_len]; omega
theorem nestH_outer (h0 : AHeap) (sz : Nat) (av : D → AV) (N : Nat) (L : Nat → List D) : (nestH h0 sz av N L)[h0.length]? = some (outer (h0.length + 1) sz N L) := by
 unfold nestH; rw [List.getElem?_append_right (Nat.le_refl _)]; simp
theorem nestH_row (h0 : AHeap) (sz : Nat) (av : D → AV) {N : Nat} (L : Nat → List D) {k : Nat} (hk : k < N) : (nestH h0 sz av N L)[h0.length + 1 + k]? = some (rowOf sz av (L k)) := by
 unfold nestH
 rw [List.getElem?_append_right (by omega), show h0.length + 1 + k - h0.length = k + 1 by omega, List.getElem?_cons_succ]
 unfold rowsH
 rw [List.getElem?_map, List.getElem?_range hk]; rfl
theorem nestH_low (h0 : AHeap) (sz : Nat) (av : D → AV) (N : Nat) (L : Nat → List D) {i : Nat} (hi : i < h0.length) : (nestH h0 sz av N L)[i]? = h0[i]? := by
 unfold nestH; rw [List.getElem?_append_left hi]
theorem nestH_get (h0 : AHeap) (sz : Nat) (av : D → AV) (N : Nat) (L : Nat → List D) {i : Nat} {o : AObj} (hi : (nestH h0 sz av N L)[i]? = some o) :
 (i < h0.length ∧ h0[i]? = some o) ∨ (i = h0.length ∧ o = outer (h0.length + 1) sz N L) ∨ ∃ k, k < N ∧ i = h0.length + 1 + k ∧ o = rowOf sz av (L k) := by
 have hlt := (List.getElem?_eq_some_iff.1 hi).1
 rw [nestH_len] at hlt
 rcases Nat.lt_trichotomy i h0.length with q | q | q
 · rw [nestH_low _ _ _ _ _ q] at hi; exact .inl ⟨q, hi⟩
 · subst q; rw [nestH_outer] at hi; cases hi; exact .inr (.inl ⟨rfl, rfl⟩)
 · refine .inr (.inr ⟨i - (h0.length + 1), by omega, by omega, ?_⟩)
   rw [show i = h0.length + 1 + (i - (h0.length + 1)) by omega, nestH_row _ _ _ _ (by omega)] at hi
   cases hi; rfl
/-- One of the rows, and the row of slices, put anew. -/
theorem nestH_set (h0 : AHeap) (sz : Nat) (av : D → AV) {N : Nat} {L L' : Nat → List D} (x : AHeap) {k : Nat} (hk : k < N) (hL : ∀ j, j ≠ k → L' j = L j) :
 ((nestH h0 sz av N L ++ x).set (h0.length + 1 + k) (rowOf sz av (L' k))).set h0.length (outer (h0.length + 1) sz N L') = nestH h0 sz av N L' ++ x := by
 apply List.ext_getElem?
 intro i
 rw [List.getElem?_set, List.length_set, List.length_append, nestH_len]
 by_cases e1 : h0.length = i
 · subst e1
   rw [if_pos rfl, if_pos (by omega), List.getElem?_append_left (by rw [nestH_len]; omega), nestH_outer]
 · rw [if_neg e1, List.getElem?_set, List.length_append, nestH_len]
   by_cases e2 : h0.length + 1 + k = i
   · subst e2
     rw [if_pos rfl, if_pos (by omega), List.getElem?_append_left (by rw [nestH_len]; omega), nestH_row _ _ _ _ hk]
   · rw [if_neg e2]
     by_cases e3 : i < h0.length + 1 + N
     · rw [List.getElem?_append_left (by rw [nestH_len]; exact e3), List.getElem?_append_left (by rw [nestH_len]; exact e3)]
       rcases Nat.lt_or_ge i h0.length with q | q
       · rw [nestH_low _ _ _ _ _ q, nestH_low _ _ _ _ _ q]
       · obtain ⟨j, rfl⟩ : ∃ j, i = h0.length + 1 + j := ⟨i - (h0.length + 1), by omega⟩
         rw [nestH_row _ _ _ _ (by omega), nestH_row _ _ _ _ (by omega), hL j (by omega)]
     · rw [List.getElem?_append_right (by rw [nestH_len]; omega), List.getElem?_append_right (by rw [nestH_len]; omega), nestH_len, nestH_len]
theorem nestH_put (h0 : AHeap) (sz : Nat) (av : D → AV) {N : Nat} {L L' : Nat → List D} {k : Nat} (hk : k < N) (hL : ∀ j, j ≠ k → L' j = L j) (hl : (L' k).length = (L k).length) :
 (nestH h0 sz av N L).set (h0.length + 1 + k) (rowOf sz av (L' k)) = nestH h0 sz av N L' := by
 have e := nestH_set h0 sz av (L := L) (L' := L') [] hk hL
 rw [List.append_nil, List.append_nil] at e
 rw [← e]
 have eo : outer (h0.length + 1) sz N L' = outer (h0.length + 1) sz N L := by
  unfold outer
  congr 2
  funext j
  by_cases q : j = k
  · rw [q, hl]
  · rw [hL j q]
 rw [eo]
 apply List.ext_getElem?
 intro i
 rw [List.getElem?_set (i := h0.length)]
 by_cases e1 : h0.length = i
 · subst e1
   rw [if_pos rfl, if_pos (by rw [List.length_set, nestH_len]; omega), List.getElem?_set_ne (by omega), nestH_outer]
 · rw [if_neg e1]
section
variable {m : IdMap} {Mut : Mu} {w : World} {h : AHeap}
/-- An object read otherwise. -/
theorem RelH.reread (H : RelH m Mut h w) {id : Nat} {o o' : AObj} (hi : h[id]? = some o) (hv : o'.ver = o.ver) (hl : o'.live = o.live) (ha : o'.act = o.act) (hr : RelO m Mut w id o') : RelH m Mut (h.set id o') w := by
 have hlt := (List.getElem?_eq_some_iff.1 hi).1
 have get : ∀ (j : Nat) (x : AObj), (h.set id o')[j]? = some x → (j = id ∧ x = o') ∨ h[j]? = some x := fun j x hx => by
  rw [List.getElem?_set] at hx
  by_cases e : id = j
  · rw [if_pos e, if_pos hlt] at hx; exact .inl ⟨e.symm, (Option.some.inj hx).symm⟩
  · rw [if_neg e] at hx; exact .inr hx
 have old : ∀ (j : Nat) (x : AObj), (h.set id o')[j]? = some x → ∃ y, h[j]? = some y ∧ y.ver = x.ver ∧ y.live = x.live ∧ y.act = x.act := fun j x hx => by
  rcases get j x hx with ⟨rfl, rfl⟩ | e
  · exact ⟨o, hi, hv.symm, hl.symm, ha.symm⟩
  · exact ⟨x, e, rfl, rfl, rfl⟩
 refine ⟨fun j x hx => ?_, fun i1 i2 o1 o2 b C C' h1 h2 l1 l2 m1 m2 => ?_, fun i n x hx => by rw [List.length_set]; exact H.dom i n x hx, H.lt, fun j x n y hx hact hy => ?_⟩
 · rcases get j x hx with ⟨rfl, rfl⟩ | e
   · exact hr
   · exact H.obj j x e
 · obtain ⟨y1, g1, v1, k1, _⟩ := old _ _ h1
   obtain ⟨y2, g2, v2, k2, _⟩ := old _ _ h2
   exact H.inj i1 i2 y1 y2 b C C' g1 g2 (k1.trans l1) (k2.trans l2) (v1 ▸ m1) (v2 ▸ m2)
 · obtain ⟨z, g, v1, _, k1⟩ := old _ _ hx
   rw [← v1]
   exact H.top j z n y g (k1.trans hact) hy
/-- Rows that have no block yet. -/
theorem RelH.virts (H : RelH m Mut h w) (sz : Nat) (c : Col) (hc : c.len = 0) : ∀ N : Nat, ∃ m', RelH m' Mut (h ++ (List.range N).map fun _ => .row sz 0 c) w ∧ Ext m Mut w m' Mut w ∧ ∀ j, j < N → ∃ x : Nat × Nat, m' (h.length + j) 0 = some (x.1, x.2, 0) := by
 intro N
 induction N with
 | zero => exact ⟨m, by simpa using H, .refl _ _ _, fun j hj => absurd hj (Nat.not_lt_zero _)⟩
 | succ N ih =>
  obtain ⟨m', H', E', hm⟩ := ih
  obtain ⟨H2, E2⟩ := H'.virt sz c hc
  have hl : (h ++ (List.range N).map fun _ => AObj.row sz 0 c).length = h.length + N := by simp
  rw [hl] at H2 E2
  refine ⟨_, ?_, E'.trans E2, fun j hj => ?_⟩
  · rw [List.range_succ, List.map_append, ← List.append_assoc]
    exact H2
  · by_cases e : j = N
    · subst e; exact ⟨(0, 0), IdMap.put_same _ _ _ _⟩
    · obtain ⟨x, hx⟩ := hm j (by omega)
      exact ⟨x, E2.ids _ _ _ hx⟩
/-- A row of nil slices aas a row of slices over rows without blocks. -/
theorem RelH.nest {h0 : AHeap} {N : Nat} (sz : Nat) (av : D → AV) (H : RelH m Mut (h0 ++ [.row 1 N (.gen N fun _ => .snil)]) w) :
 ∃ m', RelH m' Mut (nestH h0 sz av N fun _ => []) w ∧ Ext m Mut w m' Mut w := by
 obtain ⟨m', H', E', hm⟩ := H.virts sz (.gen 0 fun q => av (([] : List D).getD q default)) rfl N
 have hlen : (h0 ++ [AObj.row 1 N (.gen N fun _ => .snil)]).length = h0.length + 1 := by simp
 rw [hlen] at hm
 have hi : ((h0 ++ [AObj.row 1 N (.gen N fun _ => .snil)]) ++ (List.range N).map fun _ => AObj.row sz 0 (.gen 0 fun q => av (([] : List D).getD q default)))[h0.length]? = some (.row 1 N (.gen N fun _ => .snil)) := by
  rw [List.getElem?_append_left (by simp), List.getElem?_append_right (Nat.le_refl _)]; simp
 have ho : RelO m' Mut w h0.length (outer (h0.length + 1) sz N fun _ => ([] : List D)) := by
  rcases H'.obj _ _ hi with ⟨q1, q2, x, q3⟩ | ⟨q0, b, o, C, cc, t, q1, q2, q3, q4, q5, q6, q7⟩
  · exact .inl ⟨q1, q1, x, q3⟩
  · refine .inr ⟨q0, b, o, C, cc, t, q1, q2, q3, q4, q5, fun i _ => rfl, fun i j a hin ha => ?_⟩
    cases j with
    | succ j => cases ha
    | zero =>
     cases ha
     obtain ⟨v, hv, hr⟩ := q7 i 0 .snil hin rfl
     refine ⟨v, hv, ?_⟩
     obtain ⟨x, hx⟩ := hm i hin
     cases hr with
     | snil a => exact .ms0 _ _ _ _ _ _ _ _ hx
 have H2 := H'.reread hi (o' := outer (h0.length + 1) sz N fun _ => ([] : List D)) rfl rfl rfl ho
 refine ⟨m', ?_, E'⟩
 have e : ((h0 ++ [AObj.row 1 N (.gen N fun _ => .snil)]) ++ (List.range N).map fun _ => AObj.row sz 0 (.gen 0 fun q => av (([] : List D).getD q default))).set h0.length (outer (h0.length + 1) sz N fun _ => ([] : List D)) = nestH h0 sz av N fun _ => [] := by
  rw [List.set_append_left _ _ (by simp), List.set_append_right _ _ (Nat.le_refl _)]
  unfold nestH rowsH rowOf
  simp
 rw [e] at H2
 exact H2
theorem WPC.nest {c : Code} {T : List AV} {h0 : AHeap} {N : Nat} (sz : Nat) (av : D → AV) {Q : Exit → List AV → AHeap → Prop} (hc : WPC P c T (nestH h0 sz av N fun _ => []) Q) : WPC P c T (h0 ++ [.row 1 N (.gen N fun _ => .snil)]) Q :=
 fun m0 Mut0 w0 m Mut w a E H hT => by
  obtain ⟨m', H', E'⟩ := H.nest sz av
  exact hc m0 Mut0 w0 m' Mut w a (E.trans E') H' (hT.ext E')
end
/-- The rows aas plain data. -/
def nestAV (sz : Nat) (av : D → AV) (N : Nat) (L : Nat → List D) : AV := .sl 1 N fun j => .sl sz (L j).length fun q => av ((L j).getD q default)
theorem slice_plain {m1 m : IdMap} {Mut1 Mut : Mu} {w1 : World} {id n sz len : Nat} {f : Nat → AV} {g : Nat → AV} {v : Value} (hv : RelV m1 Mut1 w1 (.ms id n sz 0 len) v) (ho : RelO m1 Mut1 w1 id (.row sz n (.gen len f)))
 (hn : ∀ b, Mut1.wr b → ¬ Mut.im b ∧ b < w1.heap.size) (hg : ∀ i, i < len → (g i).cells.length = (f i).cells.length) (hr : ∀ (i j : Nat) (a : AV) (u : Value), i < len → (f i).cells[j]? = some a → RelV m1 Mut1 w1 a u → ∀ a', (g i).cells[j]? = some a' → RelV m Mut w1 a' u) :
 RelV m Mut w1 (.sl sz len g) v := by
 by_cases hz : len = 0
 · subst hz
   cases hv with
   | ms _ _ _ _ _ b o C hm hc => exact .sl0 _ _ _ _
   | ms0 _ _ _ _ b o C a hm => exact .sl0 _ _ _ _
 · generalize hl : len = len' at hv
   cases hv with
   | ms0 => omega
   | ms _ _ _ _ _ b o C hm hc =>
    subst hl
    rcases ho with ⟨_, q, _⟩ | ⟨_, b', o', C', cc, t, q1, q2, q3, q4, q5, q6, q7⟩
    · exact absurd q hz
    · rw [hm] at q1; cases q1
      obtain ⟨hb1, hb2⟩ := hn b q2
      have cell : ∀ i j : Nat, i < len → j < sz → ∃ u, w1.cell? ⟨b, o + 0 * sz + i * sz + j, none⟩ = some u ∧ ∀ a', (g i).cells[j]? = some a' → RelV m Mut w1 a' u := fun i j hi hj => by
       have hjl : j < (f i).cells.length := by have := q6 i hi; show j < (f i).cells.length; rw [show (f i).cells.length = sz from this]; exact hj
       obtain ⟨u, hu, hru⟩ := q7 i j _ hi (List.getElem?_eq_getElem hjl)
       refine ⟨u, ?_, fun a' ha' => hr i j _ u hi (List.getElem?_eq_getElem hjl) hru a' ha'⟩
       rw [cell?_at q3, Nat.zero_mul, Nat.add_zero]
       exact hu
      refine .sl sz len g b (o + 0 * sz) (C - 0) (fun i j => if hij : i < len ∧ j < sz then (cell i j hij.1 hij.2).choose else Go.undef) (by omega) (by omega) hb2 hb1 (fun i hi => by rw [hg i hi]; exact q6 i hi) (fun i j hi hj => ?_) fun i j a' hi ha' => ?_
      · rw [dif_pos ⟨hi, hj⟩]
        exact (cell i j hi hj).choose_spec.1
      · have hj : j < sz := by
         have h1 := (List.getElem?_eq_some_iff.1 ha').1
         rw [hg i hi] at h1
         have := q6 i hi
         rw [show (f i).cells.length = sz from this] at h1
         exact h1
        rw [dif_pos ⟨hi, hj⟩]
        exact (cell i j hi hj).choose_spec.2 a' ha'
def RetN (P : Program) (fn : Func) (sz : Nat) (av : D → AV) (N : Nat) (L : Nat → List D) (T : List AV) (h1 : AHeap) : Prop :=
 ∃ h0, h1 = nestH h0 sz av N L ∧ aresL P T h1 fn.results.toList = some ([], [.ms h0.length N 1 0 N])
theorem Ret.of_runN {f : FuncId} {fn : Func} {c : Code} {args : List AV} (sz : Nat) (av : D → AV) (N : Nat) (L : Nat → List D) (hf : P.funcs[f]? = some fn) (hb : fn.body = some c) (hargs : ∀ v ∈ args, Low 0 v) (hlow : ∀ d, Low 0 (av d))
 (hr : WPC P c (initT fn args) [] fun e T h1 => match e with | .normal => RetN P fn sz av N L T h1 | .ret => RetN P fn sz av N L T h1 | _ => False) (h : AHeap) :
 Ret P f args h (nestAV sz av N L) h := by
 intro m Mut w us H ha
 let Mu1 : Mu := ⟨Mut.im, fun _ => False, fun _ h => h.elim⟩
 have H0 : RelH (cutM m 0) Mu1 [] w :=
  { obj := fun id o ho => by simp at ho
    inj := fun id id' o o' b C C' ho => by simp at ho
    dom := fun id n x hx => by
     unfold cutM at hx
     rw [if_neg (Nat.not_lt_zero _)] at hx
     cases hx
    lt := H.lt
    top := fun id o n x ho => by simp at ho }
 have hargs1 : RelL (cutM m 0) Mu1 w args us := ⟨ha.1, fun i a v hi hv => cut_rel (Mut := Mut) (Mut' := Mu1) (fun b hb => hb) (ha.2 i a v hi hv) (hargs a (List.mem_of_getElem? hi))⟩
 refine calls_of_wp hf hb ?_
 have hT : RelT (cutM m 0) Mu1 w (initT fn args) { tmps := us ++ Array.replicate (fn.ntmps - us.size) Go.undef, defers := [] } := by
  refine ⟨by simp [initT, hargs1.1], fun i x v hx hv => ?_, rfl⟩
  simp only [initT, List.getElem?_append] at hx
  simp only [Array.getElem?_append] at hv
  by_cases hi : i < us.size
  · rw [if_pos (by rw [hargs1.1]; exact hi)] at hx
    rw [if_pos hi] at hv
    exact hargs1.2 i x v hx hv
  · rw [if_neg (by rw [hargs1.1]; exact hi)] at hx
    rw [if_neg hi] at hv
    rw [List.getElem?_replicate] at hx
    rw [Array.getElem?_replicate] at hv
    split at hx
    · split at hv
      · cases hx; cases hv; exact .undef
      · cases hv
    · cases hx
 refine wp_mono (hr (cutM m 0) Mu1 w (cutM m 0) Mu1 w _ (.refl _ _ _) H0 hT) fun e a w1 ⟨m1, Mut1, T1, h1, hk, E1, H1, hT1⟩ => ?_
 have fin : RetN P fn sz av N L T1 h1 → a.defers = [] ∧ ∃ u, (results fn a.tmps).run P w1 = .ok u w1 ∧ ∃ x v2 h2 m' Mut', Ending.returned u = .returned x ∧ (v2 = nestAV sz av N L ∧ h2 = h) ∧ Ext m Mut w m' Mut' w1 ∧ RelH m' Mut' h2 w1 ∧ RelV m' Mut' w1 v2 x := by
  rintro ⟨h0, rfl, hres⟩
  refine ⟨hT1.defers, ?_⟩
  obtain ⟨x, hx, hrx⟩ := results_run (P := P) H1 hT1 hres (fun c hc => by simp at hc)
  have hob : ∀ b, b < w.heap.size → w1.heap[b]? = w.heap[b]? := fun b hlt => E1.block b hlt fun h => h
  have own : ∀ b, Mut1.wr b → ¬ Mut.im b ∧ b < w1.heap.size := fun b hw => by
   refine ⟨fun him => ?_, H1.lt b (Mut1.le b hw)⟩
   exact E1.nwr b (H.lt b him) (fun h => h) hw
  have plain : ∀ {a : AV} {u : Value}, RelV m1 Mut1 w1 a u → Low 0 a → RelV m Mut w1 a u := fun hru hl =>
   (cut_rel (lo := 0) (Mut' := Mut) (fun b hb => E1.keep b (H.lt b hb) hb fun h => h) hru hl).mono (fun id n y hy => by
    unfold cutM at hy
    rw [if_neg (Nat.not_lt_zero _)] at hy
    cases hy) (Nat.le_refl _) (fun _ _ h => h) (fun _ _ _ => rfl)
  have E2 : Ext m Mut w m Mut w1 := ⟨E1.os, E1.tape, E1.output, E1.drawn, E1.size, fun b hlt _ => hob b hlt, fun _ _ h => h, fun _ _ h => h, fun _ _ h _ => h, fun _ _ _ h => h⟩
  refine ⟨x, hx, x, _, _, m, Mut, rfl, ⟨rfl, rfl⟩, E2, H.still E2 hob, ?_⟩
  change RelV m1 Mut1 w1 (.ms h0.length N 1 0 N) x at hrx
  refine slice_plain hrx (H1.obj _ _ (nestH_outer h0 sz av N L)) own (fun i hi => rfl) fun i j a u hi ha hru a' ha' => ?_
  cases j with
  | succ j => cases ha
  | zero =>
   cases ha; cases ha'
   refine slice_plain hru (H1.obj _ _ (nestH_row h0 sz av L hi)) own (fun q hq => rfl) fun q j a u hq ha hru a' ha' => ?_
   rw [ha] at ha'; cases ha'
   exact plain hru ((hlow _).cells a (List.mem_of_getElem? ha))
 cases e with
 | normal => exact fin hk
 | ret => exact fin hk
 | _ => exact hk.elim
end Go.Proofs.Ytjdbmmilcihpoaa
namespace Go.Proofs.Ytjdbmmilcihpoaa
open Go.Shelf Go.RowKit Go.Lib Go.Sort
set_option linter.unusedVariables false
set_option linter.unusedSimpArgs false
variable {P : Program} {D : Type}
/-- What the library says of a sort function: sf, with the comparison g, at elements of k cells. -/
def SortHas (P : Program) (sf g k : Nat) : Prop := ∀ (α : Type) [Inhabited α] (enc : α → List Value) (cf : α → α → Int) (blk off cap : Nat) (d : Array α) (w : World), (∀ x, (enc x).length = k) → (∀ x, ∀ v ∈ enc x, v.oneCell' = true) → SWO (ltOf cf) →
 CmpLays P g #[] enc k cf blk off d.size w → HoldsK enc k w blk off d → blk < w.heap.size → d.size < 4611686018427387904 →
 Calls P sf #[.slice (some ⟨blk, off, none⟩) d.size cap, .func (.func g) #[] #[]] w fun e w' => e = .returned (.tuple #[]) ∧ ∃ d' n os, PermIn 0 d.size d d' ∧ SortedIn (ltOf cf) 0 d.size d' ∧ w' = sortWorldK enc k w blk off n d' os
theorem world_grow {W w1 : World} (h1 : w1.os = W.os) (h2 : w1.tape = W.tape) (h3 : w1.output = W.output) (h4 : W.drawn ≤ w1.drawn) (h5 : W.heap.size ≤ w1.heap.size) (h6 : ∀ b, b < W.heap.size → w1.heap[b]? = W.heap[b]?) :
 ∃ q os', w1 = grow (W.drewN q) os' := by
 refine ⟨w1.drawn - W.drawn, w1.heap.extract W.heap.size w1.heap.size, ?_⟩
 cases w1; cases W
 simp only [grow, World.drewN] at *
 subst h1; subst h2; subst h3
 simp only [World.mk.injEq, and_true, true_and]
 refine ⟨?_, by omega⟩
 apply Array.ext_getElem?
 intro i
 rw [Array.getElem?_append]
 split
 · rename_i q; exact h6 i q
 · rename_i q
   rw [Array.getElem?_extract]
   split
   · rw [show ∀ a b : Nat, b ≤ a → b + (a - b) = a from fun a b h => by omega]
     omega
   · rename_i q2
     exact Array.getElem?_eq_none (by omega)
theorem sort_other {α : Type} [Inhabited α] (enc : α → List Value) (k : Nat) (w : World) (blk off m : Nat) (dk : Array α) (os : Array Obj) {b : Nat} (hb : b ≠ blk) (hlt : b < w.heap.size) :
 (sortWorldK enc k w blk off m dk os).heap[b]? = w.heap[b]? := by
 unfold sortWorldK grow putRowK putRow mapBlock Go.Sort.ahead
 simp only
 rw [Array.getElem?_append_left (by simpa using hlt), Array.getElem?_modify, if_neg (Ne.symm hb)]
theorem put_other {α : Type} [Inhabited α] (enc : α → List Value) (k : Nat) (w : World) (blk off m : Nat) (dk : Array α) {b : Nat} (hb : b ≠ blk) :
 (putRowK enc k (Go.Sort.ahead w m) blk off dk).heap[b]? = w.heap[b]? := by
 unfold putRowK putRow mapBlock Go.Sort.ahead
 simp only
 rw [Array.getElem?_modify, if_neg (Ne.symm hb)]
/-- Sorted permutations are one. -/
theorem perm_sorted_eq {lt : D → D → Bool} : ∀ (l1 l2 : List D), l1.Perm l2 → (l1.Pairwise fun a b => lt b a = false) → (l2.Pairwise fun a b => lt b a = false) → (∀ x ∈ l1, ∀ y ∈ l1, lt x y = false → lt y x = false → x = y) → l1 = l2 := by
 intro l1
 induction l1 with
 | nil => intro l2 hp _ _ _; exact hp.nil_eq
 | cons a l1 ih =>
  intro l2 hp h1 h2 hu
  cases l2 with
  | nil => exact absurd hp.symm.nil_eq (by simp)
  | cons b l2 =>
   have e : a = b := by
    have ha : a ∈ b :: l2 := hp.subset (List.mem_cons_self ..)
    have hb : b ∈ a :: l1 := hp.symm.subset (List.mem_cons_self ..)
    rcases List.mem_cons.1 ha with q | q
    · exact q
    · rcases List.mem_cons.1 hb with q2 | q2
      · exact q2.symm
      · have k1 := (List.pairwise_cons.1 h1).1 b q2
        have k2 := (List.pairwise_cons.1 h2).1 a q
        exact hu a (List.mem_cons_self ..) b (List.mem_cons_of_mem _ q2) k2 k1
   subst e
   rw [ih l2 (List.Perm.cons_inv hp) (List.pairwise_cons.1 h1).2 (List.pairwise_cons.1 h2).2 fun x hx y hy => hu x (List.mem_cons_of_mem _ hx) y (List.mem_cons_of_mem _ hy)]
/-- An element aas it lies in memory. -/
def Elt (m : IdMap) (Mut : Mu) (w : World) (av : D → AV) (sz : Nat) : Type := { p : D × List Value // p.2.length = sz ∧ RelL m Mut w (av p.1).cells p.2.toArray }
theorem cmp_lays {sf g sz : Nat} {av : D → AV} {cf : D → D → Int} (hagg : ∀ s, ∃ cs, av s = .agg cs) (hlow : ∀ s, Low 0 (av s)) (hc : ∀ s t (h : AHeap), Ret P g [av s, av t] h (.int .i64 (cf s t)) h)
 {m : IdMap} {Mut : Mu} {w : World} {h : AHeap} (H : RelH m Mut h w) {b o n : Nat} (hb : Mut.im b) [Inhabited (Elt m Mut w av sz)] :
 CmpLays P g #[] (fun x : Elt m Mut w av sz => x.1.2) sz (fun x y => cf x.1.1 y.1.1) b o n w := by
 intro mm os dk hdk x y
 have hoth : ∀ b', b' < w.heap.size → ¬ Mut.im b' → (sortWorldK (fun x : Elt m Mut w av sz => x.1.2) sz w b o mm dk os).heap[b']? = w.heap[b']? := fun b' hlt hn => sort_other _ _ _ _ _ _ _ _ (fun e => hn (e ▸ hb)) hlt
 have hsize : w.heap.size ≤ (sortWorldK (fun x : Elt m Mut w av sz => x.1.2) sz w b o mm dk os).heap.size := size_sortWorldK_c _ _ _ _ _ _ _ _
 generalize hW : sortWorldK (fun x : Elt m Mut w av sz => x.1.2) sz w b o mm dk os = W at *
 let Mu1 : Mu := ⟨Mut.im, fun _ => False, fun _ h => h.elim⟩
 have H0 : RelH (cutM m 0) Mu1 [] W :=
  { obj := fun id o ho => by simp at ho
    inj := fun id id' o o' b C C' ho => by simp at ho
    dom := fun id n x hx => by
     unfold cutM at hx
     rw [if_neg (Nat.not_lt_zero _)] at hx
     cases hx
    lt := fun b hb => Nat.lt_of_lt_of_le (H.lt b hb) hsize
    top := fun id o n x ho => by simp at ho }
 have val : ∀ z : Elt m Mut w av sz, RelV (cutM m 0) Mu1 W (av z.1.1) (.agg z.1.2.toArray) := fun z => by
  obtain ⟨cs, e⟩ := hagg z.1.1
  have hr : RelV m Mut w (av z.1.1) (.agg z.1.2.toArray) := by
   have hz := z.2.2
   rw [e] at hz ⊢
   exact .agg _ _ hz.1 hz.2
  exact cut_rel (Mut := Mut) (Mut' := Mu1) (fun b hb => hb) (hr.mono (fun _ _ _ h => h) hsize (fun _ _ h => h) hoth) (hlow _)
 have r := hc x.1.1 y.1.1 [] (cutM m 0) Mu1 W #[.agg x.1.2.toArray, .agg y.1.2.toArray] H0 ⟨rfl, fun i a v ha hv => by
  match i, ha, hv with
  | 0, ha, hv => cases ha; cases hv; exact val x
  | 1, ha, hv => cases ha; cases hv; exact val y⟩
 refine r.mono fun e w1 ⟨u, v, h', m', Mut', he, ⟨hv, hh⟩, E, H', hu⟩ => ?_
 subst he; subst hv
 cases hu
 obtain ⟨q, os', e⟩ := world_grow E.os E.tape E.output E.drawn E.size fun b hlt => E.block b hlt fun h => h
 exact ⟨rfl, q, os', e⟩
variable [Inhabited D]
/-- slices.SortFunc of a row of its own that is not empty. -/
theorem Ret.sortK {sf g sz : Nat} {av : D → AV} {cf : D → D → Int} (hS : SortHas P sf g sz) (h0 : 0 < sz) (hcell : ∀ s, (av s).cells.length = sz ∧ (av s).cells.all AV.isCell = true) (hagg : ∀ s, ∃ cs, av s = .agg cs) (hlow : ∀ s, Low 0 (av s))
 (hc : ∀ s t (h : AHeap), Ret P g [av s, av t] h (.int .i64 (cf s t)) h) (hO : SWO (ltOf cf)) {l l' : List D} (hl : 0 < l.length) (hbig : l.length < 4611686018427387904) (hp : l'.Perm l) (hs : l'.Pairwise fun a b => ltOf cf b a = false)
 (hu : ∀ x ∈ l, ∀ y ∈ l, ltOf cf x y = false → ltOf cf y x = false → x = y) {h : AHeap} {rid : Nat} (hid : h[rid]? = some (rowOf sz av l)) :
 Ret P sf [.ms rid l.length sz 0 l.length, .fn g []] h (.tup []) (h.set rid (rowOf sz av l')) := by
 intro m Mut w us H ha
 have hus : us.size = 2 := ha.1.symm
 obtain ⟨u0, u1, rfl⟩ : ∃ u0 u1, us = #[u0, u1] := ⟨us[0], us[1], by apply Array.ext (by simp [hus]); intro i h1 h2; match i, h2 with | 0, _ => rfl | 1, _ => rfl⟩
 have r0 := ha.2 0 _ u0 rfl rfl
 have r1 := ha.2 1 _ u1 rfl rfl
 obtain ⟨vs, rfl, hvs⟩ : ∃ vs, u1 = .func (.func g) #[] vs ∧ vs = #[] := by
  cases r1 with
  | fn _ _ vs hl _ => exact ⟨vs, rfl, Array.eq_empty_of_size_eq_zero hl.symm⟩
 subst hvs
 rcases H.obj rid _ hid with ⟨q, _⟩ | ⟨_, b, o, C, cc, t, q1, q2, q3, q4, q5, q6, q7⟩
 · omega
 obtain ⟨cap, rfl⟩ : ∃ cap, u0 = .slice (some ⟨b, o, none⟩) l.length cap := by
  generalize hll : l.length = len at r0
  cases r0 with
  | ms _ _ _ _ _ b' o' C' hm hc => rw [← hll, q1] at hm; cases hm; exact ⟨_, by rw [Nat.zero_mul, Nat.add_zero]⟩
  | ms0 => omega
 have him : Mut.im b := Mut.le b q2
 have hbl : b < w.heap.size := H.lt b him
 -- the elements aas they lie
 have each : ∀ i, i < l.length → ∃ e : Elt m Mut w av sz, e.1.1 = l.getD i default ∧ ∀ j, j < sz → cc[o + i * sz + j]? = some (e.1.2[j]!) := fun i hi => by
  have hsz : ∀ j, j < sz → o + i * sz + j < cc.size := fun j hj => by
   rw [q4]
   have h1 : i * sz + sz ≤ l.length * sz := by have := Nat.mul_le_mul_right sz (show i + 1 ≤ l.length from hi); rwa [Nat.add_mul, Nat.one_mul] at this
   have h2 : l.length * sz ≤ C * sz := Nat.mul_le_mul_right sz q5
   omega
  have rel : RelL m Mut w (av (l.getD i default)).cells (((List.range sz).map fun j => cc[o + i * sz + j]!).toArray) := ⟨by simp [(hcell _).1], fun j a v ha hv => by
   obtain ⟨v', hv', hr⟩ := q7 i j a hi ha
   have hj : j < sz := by have := (List.getElem?_eq_some_iff.1 ha).1; rwa [(hcell _).1] at this
   have e : v = v' := by
    rw [List.getElem?_toArray, List.getElem?_map, List.getElem?_range hj] at hv
    simp only [Option.map_some, Option.some.injEq] at hv
    rw [← hv, getElem!_pos cc _ (hsz j hj)]
    rw [Array.getElem?_eq_getElem (hsz j hj)] at hv'
    exact Option.some.inj hv'
   rw [e]; exact hr⟩
  refine ⟨⟨(l.getD i default, (List.range sz).map fun j => cc[o + i * sz + j]!), by simp, rel⟩, rfl, fun j hj => ?_⟩
  show _ = some (((List.range sz).map fun j => cc[o + i * sz + j]!)[j]!)
  rw [Array.getElem?_eq_getElem (hsz j hj), getElem!_pos _ j (by simpa using hj)]
  rw [List.getElem_map, List.getElem_range, getElem!_pos cc _ (hsz j hj)]
 haveI inh : Inhabited (Elt m Mut w av sz) := ⟨(each 0 hl).choose⟩
 let E0 : Nat → Elt m Mut w av sz := fun i => if hi : i < l.length then (each i hi).choose else default
 have hE : ∀ i, i < l.length → (E0 i).1.1 = l.getD i default ∧ ∀ j, j < sz → cc[o + i * sz + j]? = some ((E0 i).1.2[j]!) := fun i hi => by
  show (dite (i < l.length) _ _ : Elt m Mut w av sz).1.1 = _ ∧ _
  simp only [E0, dif_pos hi]
  exact (each i hi).choose_spec
 let d : Array (Elt m Mut w av sz) := (Array.range l.length).map E0
 have hds : d.size = l.length := by simp [d]
 have hd : ∀ i, i < l.length → d[i]! = E0 i := fun i hi => by rw [getElem!_pos d i (by rw [hds]; exact hi)]; simp [d]
 have hH : HoldsK (fun x : Elt m Mut w av sz => x.1.2) sz w b o d := by
  intro j hj
  rw [size_flatK, hds] at hj
  have hq : j / sz < l.length := Nat.div_lt_of_lt_mul (by rw [Nat.mul_comm]; exact hj)
  refine ⟨?_, by simp [World.frozen?, q3]⟩
  rw [cell?_at q3, id_eq, get_flatK _ _ _ _ (by rw [hds]; exact hj), hd _ hq]
  have := (hE _ hq).2 (j % sz) (Nat.mod_lt _ h0)
  rwa [Nat.add_assoc, Nat.div_add_mod'] at this
 have hSW : SWO (ltOf fun x y : Elt m Mut w av sz => cf x.1.1 y.1.1) := ⟨fun x => hO.irrefl x.1.1, fun x y z => hO.trans x.1.1 y.1.1 z.1.1, fun x y z => hO.ntrans x.1.1 y.1.1 z.1.1⟩
 have hone : ∀ x : Elt m Mut w av sz, ∀ v ∈ x.1.2, v.oneCell' = true := fun x v hv => relL_mem x.2.2 (hcell _).2 v (by simpa using hv)
 have r := hS (Elt m Mut w av sz) (fun x => x.1.2) (fun x y => cf x.1.1 y.1.1) b o cap d w (fun x => x.2.1) hone hSW (cmp_lays (sf := sf) hagg hlow hc H him) hH hbl (by rw [hds]; exact hbig)
 rw [hds] at r
 refine r.mono fun e w' ⟨he, d', n, os, hperm, hsort, hw⟩ => ?_
 subst he
 have hds' : d'.size = l.length := hperm.1.trans hds
 -- the sorted list
 have hmap : d.toList.map (fun x => x.1.1) = l := by
  apply List.ext_getElem?
  intro i
  rw [List.getElem?_map]
  by_cases hi : i < l.length
  · have e1 : d.toList[i]? = some (E0 i) := by
     rw [Array.getElem?_toList, Array.getElem?_eq_getElem (by rw [hds]; exact hi)]
     simp [d]
    rw [e1, Option.map_some, (hE i hi).1, List.getD_eq_getElem?_getD, List.getElem?_eq_getElem hi]; rfl
  · rw [List.getElem?_eq_none (by simpa [hds] using hi), List.getElem?_eq_none (by omega)]; rfl
 have hl' : d'.toList.map (fun x => x.1.1) = l' := by
  have hp' : d'.toList.Perm d.toList := by
   have := hperm.2.2
   rwa [show d'.extract 0 l.length = d' by rw [← hds']; exact Array.extract_size, show d.extract 0 l.length = d by rw [← hds]; exact Array.extract_size] at this
  have hp2 : (d'.toList.map fun x => x.1.1).Perm l := by rw [← hmap]; exact hp'.map _
  refine perm_sorted_eq (lt := ltOf cf) _ _ (hp2.trans hp.symm) ?_ hs fun x hx y hy => hu x (hp2.subset hx) y (hp2.subset hy)
  rw [List.pairwise_iff_getElem]
  intro i j hi hj hij
  simp only [List.length_map, Array.length_toList] at hi hj
  have := hsort i j (Nat.zero_le _) hij (by omega)
  rw [getElem!_pos d' j (by omega), getElem!_pos d' i (by omega)] at this
  simp only [List.getElem_map, Array.getElem_toList]
  exact this
 have hlen' : l'.length = l.length := hp.length_eq
 -- the world behind the sort
 have hW1 : (putRowK (fun x : Elt m Mut w av sz => x.1.2) sz (Go.Sort.ahead w n) b o d').heap.size = w.heap.size := size_putRowK _ _ _ _ _ _
 have hHK := holdsK_putRowK (fun x : Elt m Mut w av sz => x.1.2) sz (Go.Sort.ahead w n) b o d d' (holdsK_ahead _ _ w n b o d hH) (by rw [hds', hds])
 have hother : ∀ b', b' ≠ b → (putRowK (fun x : Elt m Mut w av sz => x.1.2) sz (Go.Sort.ahead w n) b o d').heap[b']? = w.heap[b']? := fun b' hb' => put_other _ _ _ _ _ _ _ hb'
 have hblk : (putRowK (fun x : Elt m Mut w av sz => x.1.2) sz (Go.Sort.ahead w n) b o d').heap[b]? = some (.cells (putCells id o (flatK (fun x : Elt m Mut w av sz => x.1.2) sz d') cc) t (0, 0)) := by
  unfold putRowK putRow mapBlock Go.Sort.ahead
  simp only
  rw [Array.getElem?_modify, if_pos rfl, q3]; rfl
 have hcs : (putCells id o (flatK (fun x : Elt m Mut w av sz => x.1.2) sz d') cc).size = cc.size := by unfold putCells; simp
 have hdr : w.drawn ≤ (putRowK (fun x : Elt m Mut w av sz => x.1.2) sz (Go.Sort.ahead w n) b o d').drawn := Nat.le_add_right _ _
 generalize hw1 : putRowK (fun x : Elt m Mut w av sz => x.1.2) sz (Go.Sort.ahead w n) b o d' = w1 at *
 have hw1o : w1.os = w.os ∧ w1.tape = w.tape ∧ w1.output = w.output := by rw [← hw1]; exact ⟨rfl, rfl, rfl⟩
 have Wr := H.write (w' := w1) (o' := rowOf sz av l') (o := rowOf sz av l) hid (decide_eq_true hl) (decide_eq_true (by rw [hlen']; exact hl)) hlen' q1 hw1o.1 hw1o.2.1 hw1o.2.2 hdr hW1 hother fun E =>
  .inr ⟨by rw [hlen']; exact hl, b, o, C, _, t, by rw [hlen']; exact q1, q2, hblk, hcs.trans q4, by show l'.length ≤ C; rw [hlen']; exact q5, fun i _ => (hcell _).1, fun i j a hi ha => by
   have hi' : i < l.length := by rw [← hlen']; exact hi
   have hj : j < sz := by have := (List.getElem?_eq_some_iff.1 ha).1; rwa [show ((Col.gen l'.length fun q => av (l'.getD q default)).get i) = av (l'.getD i default) from rfl, (hcell _).1] at this
   have hjt : i * sz + j < d'.size * sz := by
    rw [hds']
    have := Nat.mul_le_mul_right sz (show i + 1 ≤ l.length from hi')
    rw [Nat.add_mul, Nat.one_mul] at this
    omega
   obtain ⟨c1, _⟩ := hHK (i * sz + j) (by rw [size_flatK]; exact hjt)
   rw [cell?_at hblk, id_eq, get_flatK _ _ _ _ hjt, Nat.mul_comm i sz, Nat.mul_add_div h0, Nat.div_eq_of_lt hj, Nat.add_zero, Nat.mul_add_mod, Nat.mod_eq_of_lt hj] at c1
   have ei : (d'[i]!).1.1 = l'.getD i default := by
    rw [← hl', List.getD_eq_getElem?_getD, List.getElem?_map, Array.getElem?_toList, Array.getElem?_eq_getElem (by omega), getElem!_pos d' i (by omega)]; rfl
   refine ⟨(d'[i]!).1.2[j]!, by rw [← c1, Nat.mul_comm i sz, Nat.add_assoc], ?_⟩
   have hrel := (d'[i]!).2.2.2 j a ((d'[i]!).1.2[j]!) (by rw [ei]; exact ha) (by
    rw [List.getElem?_toArray, List.getElem?_eq_getElem (by rw [(d'[i]!).2.1]; exact hj), getElem!_pos _ j (by rw [(d'[i]!).2.1]; exact hj)])
   exact E.relV hrel⟩
 have E2 : Ext m Mut w1 m Mut (grow w1 os) := ⟨rfl, rfl, rfl, Nat.le_refl _, by simp [grow], fun b' hb' _ => by unfold grow; simp only; rw [Array.getElem?_append_left hb'], fun _ _ h => h, fun _ _ h => h, fun _ _ h _ => h, fun _ _ _ h => h⟩
 have hw2 : w' = grow w1 os := by rw [hw, ← hw1]; rfl
 subst hw2
 exact ⟨.tuple #[], _, _, m, Mut, rfl, ⟨rfl, rfl⟩, Wr.2.trans E2, Wr.1.still E2 fun b' hb' => by unfold grow; simp only; rw [Array.getElem?_append_left hb'], .tup [] #[] rfl fun i a v ha => by simp at ha⟩
end Go.Proofs.Ytjdbmmilcihpoaa
namespace Go.Proofs.Ytjdbmmilcihpoaa
set_option linter.unusedVariables false
set_option linter.unusedSimpArgs false
variable {P : Program} {T : List AV} {h : AHeap}
theorem WPC.popF {c : Code} {R Q : Exit → List AV → AHeap → Prop} (hc : WPC P c T h R) (hq : ∀ e T1 h1, R e T1 h1 → ∃ T2 T' h', leT T1 T2 ∧ Q e T' h' ∧ ExitTo h h1 (.tup T2) (.tup T') h') : WPC P c T h Q :=
 fun m0 Mut0 w0 m Mut w a E H hT => wp_mono (hc m Mut w m Mut w a (.refl _ _ _) H hT) fun e a1 w1 ⟨m1, Mut1, T1, h1, hr, E1, H1, hT1⟩ => by
  obtain ⟨T2, T', h', hle, hq, hp⟩ := hq e T1 h1 hr
  have hT2 : RelT m1 Mut1 w1 T2 a1 := by
   obtain ⟨g1, g2⟩ := leT_spec (m := m1) (Mut := Mut1) (w := w1) T1 T2 hle
   refine ⟨by rw [← g1]; exact hT1.len, fun i x v hx hv => ?_, hT1.defers⟩
   rcases g2 i x hx with e | e
   · subst e; exact .any v
   · exact hT1.val i x v e hv
  obtain ⟨m', Mut', p1, p2, p3⟩ := exit_sound hp H E1 H1 hT2.tup
  refine ⟨m', Mut', T', _, hq, E.trans p1, p2, ?_⟩
  cases p3 with
  | tup _ _ hl hv => exact ⟨hl, hv, hT1.defers⟩
theorem To.popF {c : Code} {R Q : Exit → List AV → AHeap → Prop} (hc : To P c T h R) (hq : ∀ e T1 h1, R e T1 h1 → ∃ T2 T' h', leT T1 T2 ∧ Q e T' h' ∧ ExitTo h h1 (.tup T2) (.tup T') h') : To P c T h Q := ⟨hc.wpc.popF hq⟩
theorem To.ofRun (hmix : P.follows .mixedOrders = true) {c : Code} {ds : List Dec} {K : Exit → List AV → AHeap → List Dec → Prop} (hr : run P c T h ds K) : To P c T h fun e T' h' => ∃ ds', K e T' h' ds' := ⟨run_sound hmix c T h ds K hr⟩
end Go.Proofs.Ytjdbmmilcihpoaa
namespace Go.Proofs.Ytjdbmmilcihpoaa
set_option linter.unusedVariables false
set_option linter.unusedSimpArgs false
section
variable {D : Type} [Inhabited D] {av : D → AV}
/-- A row that holds a list. -/
structure IsCol (av : D → AV) (c : Col) (L : List D) : Prop where
 len : c.len = L.length
 get : ∀ j, j < L.length → c.get j = av (L.getD j default)
theorem getD_lt {L : List D} {j : Nat} (h : j < L.length) : L.getD j default = L[j] := by rw [List.getD_eq_getElem?_getD, List.getElem?_eq_getElem h]; rfl
theorem getD_left {A B : List D} {j : Nat} (h : j < A.length) : (A ++ B).getD j default = A.getD j default := by
 rw [List.getD_eq_getElem?_getD, List.getD_eq_getElem?_getD, List.getElem?_append_left h]
theorem getD_right {A B : List D} {j : Nat} : (A ++ B).getD (A.length + j) default = B.getD j default := by
 rw [List.getD_eq_getElem?_getD, List.getD_eq_getElem?_getD, List.getElem?_append_right (Nat.le_add_right _ _), Nat.add_sub_cancel_left]
theorem getD_drop {L : List D} {k j : Nat} : (L.drop k).getD j default = L.getD (k + j) default := by
 rw [List.getD_eq_getElem?_getD, List.getD_eq_getElem?_getD, List.getElem?_drop]
theorem getD_take {L : List D} {k j : Nat} (h : j < k) : (L.take k).getD j default = L.getD j default := by
 rw [List.getD_eq_getElem?_getD, List.getD_eq_getElem?_getD, List.getElem?_take_of_lt h]
theorem IsCol.join {c : Col} {A B : List D} {m : AppMode} {n : Nat} {f : Nat → AV} (h : IsCol av c A) (hn : n = B.length) (hm : m.needs n f) (hf : ∀ j, j < n → f j = av (B.getD j default)) : IsCol av (c.join m n f) (A ++ B) := by
 obtain ⟨j1, j2, j3⟩ := Col.join_sound (c := c) hm
 refine ⟨by rw [j1, h.len, List.length_append, hn], fun j hj => ?_⟩
 rw [List.length_append] at hj
 by_cases q : j < A.length
 · rw [j2 j (by rw [h.len]; exact q), h.get j q, getD_left q]
 · have e : j = A.length + (j - A.length) := by omega
   rw [e, getD_right]
   have := j3 (j - A.length) (by omega)
   rw [h.len] at this
   rw [this, hf _ (by omega)]
theorem IsCol.first {B : List D} {m : AppMode} {n : Nat} {f : Nat → AV} (hn : n = B.length) (hm : m.needs n f) (hf : ∀ j, j < n → f j = av (B.getD j default)) : IsCol av (Col.first m n f) B := by
 obtain ⟨j1, j2⟩ := Col.first_sound (f := f) hm
 refine ⟨by rw [j1, hn], fun j hj => ?_⟩
 rw [j2 j (by omega), hf j (by omega)]
theorem pur_col {h1 : AHeap} {lo id n sz len : Nat} {c : Col} {L : List D} (hc : IsCol av c L) (hlen : len = L.length) (ho : h1[id]? = some (.row sz n c)) (hid : lo ≤ id) (hcell : ∀ s, (av s).cells.length = sz) (hlow : ∀ s, ∀ x ∈ (av s).cells, Low lo x) :
 Pur h1 lo (.ms id n sz 0 len) (.sl sz L.length fun q => av (L.getD q default)) := by
 subst hlen
 refine .row id n sz 0 L.length n c _ (fun i j => (av (L.getD i default)).cells.getD j .any) hid ho rfl (by rw [hc.len]; omega) (fun i _ => hcell _) (fun i j hi hj => ?_) (fun i j a hi ha => ?_)
 · rw [Nat.zero_add, hc.get i hi]
   have hl := hcell (L.getD i default)
   generalize (av (L.getD i default)).cells = cs at hl ⊢
   rw [List.getD_eq_getElem?_getD, List.getElem?_eq_getElem (show j < cs.length by rw [hl]; exact hj)]; rfl
 · have e : (av (L.getD i default)).cells.getD j .any = a := by rw [List.getD_eq_getElem?_getD, ha]; rfl
   rw [e]
   exact .low _ (hlow _ _ (List.mem_of_getElem? ha))
end
/-- Temporaries of which some become plain data. -/
def PurE (h1 : AHeap) (lo : Nat) : List (Nat × AV) → List (Nat × AV) → Prop
 | [], [] => True
 | (k, a) :: es, (k', b) :: es' => k = k' ∧ Pur h1 lo a b ∧ PurE h1 lo es es'
 | _, _ => False
def PurL (h1 : AHeap) (lo : Nat) (xs ys : List AV) : Prop := xs.length = ys.length ∧ ∀ (i : Nat) a b, xs[i]? = some a → ys[i]? = some b → Pur h1 lo a b
theorem PurL.cons {h1 : AHeap} {lo : Nat} {a b : AV} {xs ys : List AV} (h : Pur h1 lo a b) (hs : PurL h1 lo xs ys) : PurL h1 lo (a :: xs) (b :: ys) :=
 ⟨by simp [hs.1], fun i x y hx hy => by
  cases i with
  | zero => simp at hx hy; subst hx; subst hy; exact h
  | succ i => exact hs.2 i x y (by simpa using hx) (by simpa using hy)⟩
theorem pur_mkTg {h1 : AHeap} {lo : Nat} : ∀ (n i : Nat) (es es' : List (Nat × AV)), PurE h1 lo es es' → PurL h1 lo (mkTg i n es) (mkTg i n es') := by
 intro n
 induction n with
 | zero => intro i es es' _; simp only [mkTg]; exact ⟨rfl, fun i a b h => by simp at h⟩
 | succ n ih =>
  intro i es es' h
  cases es with
  | nil => cases es' with
   | nil => simp only [mkTg]; exact (ih (i + 1) [] [] trivial).cons (.any _)
   | cons e es' => exact h.elim
  | cons e es =>
   obtain ⟨k, a⟩ := e
   cases es' with
   | nil => exact h.elim
   | cons e' es' =>
    obtain ⟨k', b⟩ := e'
    obtain ⟨rfl, hp, hs⟩ := h
    simp only [mkTg]
    cases Nat.beq k i with
    | true => exact (ih (i + 1) es es' hs).cons hp
    | false => exact (ih (i + 1) ((k, a) :: es) ((k, b) :: es') ⟨rfl, hp, hs⟩).cons (.any _)
theorem pur_mkT {h1 : AHeap} {lo n : Nat} {es es' : List (Nat × AV)} (h : PurE h1 lo es es') : Pur h1 lo (.tup (mkT n es)) (.tup (mkT n es')) :=
 have p := pur_mkTg n 0 es es' h
 .tup _ _ p.1 p.2
theorem PurE.same {h1 : AHeap} {lo : Nat} {k : Nat} {a : AV} {es es' : List (Nat × AV)} (h : Low lo a) (hs : PurE h1 lo es es') : PurE h1 lo ((k, a) :: es) ((k, a) :: es') := ⟨rfl, .low _ h, hs⟩
theorem PurE.new {h1 : AHeap} {lo : Nat} {k : Nat} {a b : AV} {es es' : List (Nat × AV)} (h : Pur h1 lo a b) (hs : PurE h1 lo es es') : PurE h1 lo ((k, a) :: es) ((k, b) :: es') := ⟨rfl, h, hs⟩
section
variable {P : Program}
/-- Temporaries that say more. -/
theorem WPC.impT {c : Code} {T T' : List AV} {h : AHeap} {Q : Exit → List AV → AHeap → Prop} (hi : ImpL T T') (hc : WPC P c T' h Q) : WPC P c T h Q :=
 fun m0 Mut0 w0 m Mut w a E H hT => hc m0 Mut0 w0 m Mut w a E H ⟨hi.1 ▸ hT.len, fun i b v hb hv => by
  have hlt : i < T.length := by rw [hi.1]; exact (List.getElem?_eq_some_iff.1 hb).1
  exact hi.2 i T[i] b (List.getElem?_eq_getElem hlt) hb m Mut w v (hT.val i T[i] v (List.getElem?_eq_getElem hlt) hv), hT.defers⟩
theorem imp_mkTg : ∀ (n i : Nat) (es es' : List (Nat × AV)), es.map (·.1) = es'.map (·.1) → ImpL (es.map (·.2)) (es'.map (·.2)) → ImpL (mkTg i n es) (mkTg i n es') := by
 intro n
 induction n with
 | zero => intro i es es' _ _; simp only [mkTg]; exact .nil
 | succ n ih =>
  intro i es es' h1 h2
  cases es with
  | nil => cases es' with
   | nil => simp only [mkTg]; exact .cons (.refl _) (ih (i + 1) [] [] rfl .nil)
   | cons e es' => cases h1
  | cons e es => cases es' with
   | nil => cases h1
   | cons e' es' =>
    obtain ⟨k, a⟩ := e
    obtain ⟨k', b⟩ := e'
    have e1 : k = k' := (List.cons.inj h1).1
    subst e1
    have t : ImpL (es.map (·.2)) (es'.map (·.2)) := ⟨by have := h2.1; simpa using this, fun j x y hx hy => h2.2 (j + 1) x y (by simpa using hx) (by simpa using hy)⟩
    simp only [mkTg]
    cases Nat.beq k i with
    | true => exact .cons (h2.2 0 a b rfl rfl) (ih (i + 1) es es' (List.cons.inj h1).2 t)
    | false => exact .cons (.refl _) (ih (i + 1) _ _ h1 h2)
theorem imp_mkT {n : Nat} {es es' : List (Nat × AV)} (h1 : es.map (·.1) = es'.map (·.1)) (h2 : ImpL (es.map (·.2)) (es'.map (·.2))) : ImpL (mkT n es) (mkT n es') := imp_mkTg n 0 es es' h1 h2
end
end Go.Proofs.Ytjdbmmilcihpoaa
namespace Go.Proofs.Ytjdbmmilcihpoaa
set_option linter.unusedVariables false
set_option linter.unusedSimpArgs false
theorem anyN_from {n i : Nat} {p : Nat → Bool} (h : i < n) : anyN n (fun j => decide (i ≤ j) && p j) = (p i || anyN n (fun j => decide (i + 1 ≤ j) && p j)) := by
 cases hp : p i with
 | true =>
  rw [Bool.true_or]
  exact anyN_true.2 ⟨i, h, by rw [decide_eq_true (Nat.le_refl i), hp]; rfl⟩
 | false =>
  rw [Bool.false_or]
  refine anyN_congr fun j hj => ?_
  by_cases e : j = i
  · subst e; rw [hp, Bool.and_false, Bool.and_false]
  · by_cases q : i ≤ j
    · rw [decide_eq_true q, decide_eq_true (show i + 1 ≤ j by omega)]
    · rw [decide_eq_false q, decide_eq_false (show ¬ i + 1 ≤ j by omega)]
theorem scan_eq {O : Type} {N : Nat → Int → O} {n : Nat} (p : Nat → Bool) (a b : O) (lo : Nat)
 (h1 : ∀ k i, lo ≤ i → i < n → N (k + 1) (i : Int) = bif p i then a else N k ((i + 1 : Nat) : Int)) (h2 : ∀ k i, lo ≤ i → n ≤ i → N (k + 1) (i : Int) = b) :
 ∀ m i, lo ≤ i → n - i < m → N m (i : Int) = bif anyN n (fun j => decide (i ≤ j) && p j) then a else b := by
 intro m
 induction m with
 | zero => intro i _ h; omega
 | succ m ih =>
  intro i hi hm
  rcases Nat.lt_or_ge i n with h | h
  · rw [h1 m i hi h, ih (i + 1) (by omega) (by omega), anyN_from h]
    cases p i <;> rfl
  · rw [h2 m i hi h, anyN_false.2 fun j hj => by rw [decide_eq_false (show ¬ i ≤ j by omega)]; rfl]
    rfl
theorem anyN_all {n : Nat} {p : Nat → Bool} : anyN n (fun j => decide (0 ≤ j) && p j) = anyN n p := anyN_congr fun j _ => by rw [decide_eq_true (Nat.zero_le j)]; rfl
theorem wrap_s {n i : Nat} (h : i ≤ n) (hn : n < 9223372036854775807) : IntKind.i64.wrap ((i : Int) + 1) = ((i + 1 : Nat) : Int) := by rw [IntWalk.i64_in _ (by omega)]; omega
theorem wrap_p {i : Nat} (h : 1 ≤ i) (hn : i ≤ 9223372036854775807) : (IntKind.i64.wrap ((i : Int) - 1)) = ((i - 1 : Nat) : Int) := by rw [IntWalk.i64_in _ (by omega)]; omega
theorem wrap_pn {i : Nat} (h : 1 ≤ i) (hn : i ≤ 9223372036854775807) : (IntKind.i64.wrap ((i : Int) - 1)).toNat = i - 1 := by rw [wrap_p h hn]; omega
end Go.Proofs.Ytjdbmmilcihpoaa
