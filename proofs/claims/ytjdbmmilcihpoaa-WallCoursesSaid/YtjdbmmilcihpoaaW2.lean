/- Own framework for walks through the program, part 2. Conditions: none. -/
import Derived.Test.YtjdbmmilcihpoaaW1
import Derived.Scope
import Derived.WalkKit
import Derived.ProofKit
import Derived.OpenShut
import Derived.ShutString
import Derived.ChangeOld
import Derived.SizedLaws
import Derived.IntWalk

namespace Go.Proofs.Ytjdbmmilcihpoaa
set_option linter.unusedVariables false
set_option linter.unusedSimpArgs false
/-- What a piece of code leaves, seen from where it began. -/
def APost (Q : Exit → List AV → AHeap → Prop) (m0 : IdMap) (Mut0 : Mu) (w0 : World) : Exit → Act → World → Prop :=
 fun e a w => ∃ m Mut T h, Q e T h ∧ Ext m0 Mut0 w0 m Mut w ∧ RelH m Mut h w ∧ RelT m Mut w T a
def WPC (P : Program) (c : Code) (T : List AV) (h : AHeap) (Q : Exit → List AV → AHeap → Prop) : Prop :=
 ∀ (m0 : IdMap) (Mut0 : Mu) (w0 : World) (m : IdMap) (Mut : Mu) (w : World) (a : Act),
  Ext m0 Mut0 w0 m Mut w → RelH m Mut h w → RelT m Mut w T a → c.wp P (APost Q m0 Mut0 w0) a w
section
variable {P : Program} {T : List AV} {h : AHeap} {Q R : Exit → List AV → AHeap → Prop}
theorem WPC.mono {c : Code} (hc : WPC P c T h R) (hq : ∀ e T h, R e T h → Q e T h) : WPC P c T h Q :=
 fun m0 Mut0 w0 m Mut w a E H hT => wp_mono (hc m0 Mut0 w0 m Mut w a E H hT) fun e a w ⟨m, Mut, T, h, hr, rest⟩ => ⟨m, Mut, T, h, hq e T h hr, rest⟩
theorem WPC.skip (hq : Q .normal T h) : WPC P .skip T h Q := fun _ _ _ m Mut _ _ E H hT => wp_skip ⟨m, Mut, T, h, hq, E, H, hT⟩
theorem WPC.label {l : Nat} (hq : Q .normal T h) : WPC P (.label l) T h Q := fun _ _ _ m Mut _ _ E H hT => wp_label ⟨m, Mut, T, h, hq, E, H, hT⟩
theorem WPC.exit {id : Nat} (hq : Q (.exit id) T h) : WPC P (.exit id) T h Q := fun _ _ _ m Mut _ _ E H hT => wp_exit ⟨m, Mut, T, h, hq, E, H, hT⟩
theorem WPC.ret (hq : Q .ret T h) : WPC P .ret T h Q := fun _ _ _ m Mut _ _ E H hT => wp_ret ⟨m, Mut, T, h, hq, E, H, hT⟩
/-- What comes behind. -/
def andThen (N : List AV → AHeap → Prop) (Q : Exit → List AV → AHeap → Prop) : Exit → List AV → AHeap → Prop
 | .normal, T, h => N T h
 | e, T, h => Q e T h
theorem WPC.seq {x y : Code} (hc : WPC P x T h (andThen (fun T h => WPC P y T h Q) Q)) : WPC P (.seq x y) T h Q :=
 fun m0 Mut0 w0 m Mut w a E H hT => wp_seq (wp_mono (hc m0 Mut0 w0 m Mut w a E H hT) fun e a1 w1 ⟨m1, Mut1, T1, h1, hr, E1, H1, hT1⟩ => by
  cases e with
  | normal => exact hr m0 Mut0 w0 m1 Mut1 w1 a1 E1 H1 hT1
  | _ => exact ⟨m1, Mut1, T1, h1, hr, E1, H1, hT1⟩)
theorem WPC.cond {c : Operand} {x y : Code} {q d : Bool} (hc : aeval T c = .bool q) (hd : q = d) (hx : WPC P (if d then x else y) T h Q) : WPC P (.cond c x y) T h Q :=
 fun m0 Mut0 w0 m Mut w a E H hT => by
  have hcv := hT.eval c
  rw [hc] at hcv
  subst hd
  exact wp_cond hcv.inv_bool (hx m0 Mut0 w0 m Mut w a E H hT)
def inBlk (id : Nat) (Q : Exit → List AV → AHeap → Prop) : Exit → List AV → AHeap → Prop
 | .exit id', T, h => if id' = id then Q .normal T h else Q (.exit id') T h
 | e, T, h => Q e T h
theorem WPC.block {id : Nat} {c : Code} (hc : WPC P c T h (inBlk id Q)) : WPC P (.block id c) T h Q :=
 fun m0 Mut0 w0 m Mut w a E H hT => wp_block (wp_mono (hc m0 Mut0 w0 m Mut w a E H hT) fun e a1 w1 ⟨m1, Mut1, T1, h1, hr, rest⟩ => by
  cases e with
  | exit id' =>
   simp only [inBlk] at hr
   simp only [Exit.inBlock]
   split
   · rename_i e; rw [if_pos e] at hr; exact ⟨m1, Mut1, T1, h1, hr, rest⟩
   · rename_i e; rw [if_neg e] at hr; exact ⟨m1, Mut1, T1, h1, hr, rest⟩
  | _ => exact ⟨m1, Mut1, T1, h1, hr, rest⟩)
def noGo (Q : Exit → List AV → AHeap → Prop) : Exit → List AV → AHeap → Prop
 | .goto _, _, _ => False
 | e, T, h => Q e T h
/-- A body with labels to which nothing jumps. -/
theorem WPC.scope {c : Code} (hc : WPC P c T h (noGo Q)) : WPC P (.scope c) T h Q :=
 fun m0 Mut0 w0 m Mut w a E H hT => wp_scope_straight (wp_mono (hc m0 Mut0 w0 m Mut w a E H hT) fun e a1 w1 ⟨m1, Mut1, T1, h1, hr, rest⟩ => by
  cases e with
  | goto l => exact hr.elim
  | _ => exact ⟨m1, Mut1, T1, h1, hr, rest⟩)
/-- A loop, by a number that falls. -/
theorem wp_loop_n {c : Code} {Q : Exit → Act → World → Prop} (I : Nat → Act → World → Prop) (round : ∀ n a w, I n a w → c.wp P (Exit.then (fun a' w' => ∃ n', n' < n ∧ I n' a' w') Q) a w) :
 ∀ n a w, I n a w → (Code.loop c).wp P Q a w := by
 intro n0 a0 w0 h0 b k cs
 have key : ∀ n a w, I n a w →
  ∃ e a' w', Q e a' w' ∧ Arrives P (lone (b.at a (.code c :: .inLoop c :: k)) cs w) b k cs e a' w' := by
  intro n
  induction n using Nat.strongRecOn with
  | _ n ih =>
   intro a w hI
   obtain ⟨e, a₁, w₁, hq, harr⟩ := round n a w hI b (.inLoop c :: k) cs
   cases e with
   | normal =>
    obtain ⟨n', hlt, hI₁⟩ := hq
    obtain ⟨e₂, a₂, w₂, hq₂, harr₂⟩ := ih n' hlt a₁ w₁ hI₁
    exact ⟨e₂, a₂, w₂, hq₂, .of_steps (Steps.trans harr (.one step_inLoop)) harr₂⟩
   | exit id => exact ⟨_, a₁, w₁, hq, .pass (x := .inLoop c) rfl (fun _ _ => .inl (by simp)) harr⟩
   | goto l => exact ⟨_, a₁, w₁, hq, .pass (x := .inLoop c) rfl (fun _ _ => .inl (by simp)) harr⟩
   | ret => exact ⟨_, a₁, w₁, hq, .pass (x := .inLoop c) rfl (fun _ _ => .inl (by simp)) harr⟩
   | panic ch => exact ⟨_, a₁, w₁, hq, .pass (x := .inLoop c) rfl (fun _ _ => .inl (by simp)) harr⟩
   | outgrown => exact ⟨_, a₁, w₁, hq, .pass (x := .inLoop c) rfl (fun _ _ => .inl (by simp)) harr⟩
 obtain ⟨e, a', w', hq, harr⟩ := key n0 a0 w0 h0
 exact ⟨e, a', w', hq, .of_steps (.one step_loop) harr⟩
theorem WPC.loop {c : Code} (I : Nat → List AV → AHeap → Prop) (round : ∀ n T h, I n T h → WPC P c T h (andThen (fun T' h' => ∃ n', n' < n ∧ I n' T' h') Q)) {n : Nat} (h0 : I n T h) : WPC P (.loop c) T h Q :=
 fun m0 Mut0 w0 m Mut w a E H hT =>
  wp_loop_n (fun n a w => ∃ m Mut T h, I n T h ∧ Ext m0 Mut0 w0 m Mut w ∧ RelH m Mut h w ∧ RelT m Mut w T a)
   (fun n a w ⟨m, Mut, T, h, hI, E, H, hT⟩ => wp_mono (round n T h hI m0 Mut0 w0 m Mut w a E H hT) fun e a1 w1 ⟨m1, Mut1, T1, h1, hr, E1, H1, hT1⟩ => by
    cases e with
    | normal => obtain ⟨n', hlt, hI'⟩ := hr; exact ⟨n', hlt, m1, Mut1, T1, h1, hI', E1, H1, hT1⟩
    | _ => exact ⟨m1, Mut1, T1, h1, hr, E1, H1, hT1⟩)
   n a w ⟨m, Mut, T, h, h0, E, H, hT⟩
/-- The temporaries are aas told, or nothing is told of them. -/
def leT : List AV → List AV → Prop
 | [], [] => True
 | x :: xs, y :: ys => (match y with | .any => leT xs ys | y => x = y ∧ leT xs ys)
 | _, _ => False
theorem leT_spec {m : IdMap} {Mut : Mu} {w : World} : ∀ (xs ys : List AV), leT xs ys → xs.length = ys.length ∧ ∀ (i : Nat) (y : AV), ys[i]? = some y → y = .any ∨ xs[i]? = some y := by
 intro xs
 induction xs with
 | nil => intro ys h; cases ys with
  | nil => exact ⟨rfl, fun i y h => by simp at h⟩
  | cons y ys => exact h.elim
 | cons x xs ih => intro ys h; cases ys with
  | nil => exact h.elim
  | cons y ys =>
   have hh : (y = .any ∨ x = y) ∧ leT xs ys := by
    unfold leT at h
    split at h
    · exact ⟨.inl rfl, h⟩
    · exact ⟨.inr h.1, h.2⟩
   obtain ⟨h1, h2⟩ := ih ys hh.2
   refine ⟨by simp [h1], fun i z hz => ?_⟩
   cases i with
   | zero => simp at hz; subst hz; rcases hh.1 with e | e
             · exact .inl e
             · subst e; exact .inr rfl
   | succ i => simpa using h2 i z (by simpa using hz)
/-- These temporaries forgotten. -/
def mask : List Nat → List AV → List AV
 | [], T => T
 | k :: ks, T => mask ks (T.set k .any)
theorem leT_refl : ∀ (T : List AV), leT T T
 | [] => trivial
 | x :: xs => by
  unfold leT
  split
  · exact leT_refl xs
  · exact ⟨rfl, leT_refl xs⟩
theorem leT_of : ∀ (xs ys : List AV), xs.length = ys.length → (∀ (i : Nat) (y : AV), ys[i]? = some y → y = .any ∨ xs[i]? = some y) → leT xs ys
 | [], [], _, _ => trivial
 | [], _ :: _, h, _ => by simp at h
 | _ :: _, [], h, _ => by simp at h
 | x :: xs, y :: ys, hl, h => by
  have ht : leT xs ys := leT_of xs ys (by simpa using hl) fun i z hz => by simpa using h (i + 1) z (by simpa using hz)
  have h0 := h 0 y rfl
  unfold leT
  split
  · exact ht
  · rename_i hne
    rcases h0 with e | e
    · exact absurd e (by simpa using hne)
    · simp at e; exact ⟨e, ht⟩
theorem leT_mask : ∀ (ks : List Nat) (T : List AV), leT T (mask ks T)
 | [], T => leT_refl T
 | k :: ks, T => by
  have := leT_mask ks (T.set k .any)
  have hs := fun (m : IdMap) (Mut : Mu) (w : World) => leT_spec (m := m) (Mut := Mut) (w := w) _ _ this
  refine leT_of _ _ ?_ fun i y hy => ?_
  · have := (leT_spec (m := fun _ _ => none) (Mut := ⟨fun _ => False, fun _ => False, fun _ h => h⟩) (w := default) _ _ this).1
    simpa [mask] using this
  · have := (leT_spec (m := fun _ _ => none) (Mut := ⟨fun _ => False, fun _ => False, fun _ h => h⟩) (w := default) _ _ this).2 i y hy
    rcases this with e | e
    · exact .inl e
    · rw [List.getElem?_set] at e
      split at e
      · split at e
        · cases e; exact .inl rfl
        · cases e
      · exact .inr e
theorem WPC.weaken {c : Code} {T' : List AV} (hle : leT T T') (hc : WPC P c T' h Q) : WPC P c T h Q :=
 fun m0 Mut0 w0 m Mut w a E H hT => hc m0 Mut0 w0 m Mut w a E H (by
  obtain ⟨h1, h2⟩ := leT_spec (m := m) (Mut := Mut) (w := w) T T' hle
  refine ⟨by rw [← h1]; exact hT.len, fun i x v hx hv => ?_, hT.defers⟩
  rcases h2 i x hx with e | e
  · subst e; exact .any v
  · exact hT.val i x v e hv)
def killH : List Nat → AHeap → AHeap
 | [], h => h
 | i :: is, h => killH is (h.set i .dead)
theorem RelH.kill1 {m : IdMap} {Mut : Mu} {h : AHeap} {w : World} (H : RelH m Mut h w) (k : Nat) : RelH m Mut (h.set k .dead) w := by
 have old : ∀ (i : Nat) (x : AObj), (h.set k .dead)[i]? = some x → x = .dead ∨ h[i]? = some x := by
  intro i x hx
  rw [List.getElem?_set] at hx
  by_cases e : k = i
  · rw [if_pos e] at hx
    split at hx
    · cases hx; exact .inl rfl
    · cases hx
  · rw [if_neg e] at hx; exact .inr hx
 refine ⟨fun i x hx => ?_, fun i i' x x' b C C' hx hx' hl hl' hm hm' => ?_, fun i n x hx => by rw [List.length_set]; exact H.dom i n x hx, H.lt, fun i x n y hx hl hy => ?_⟩
 · rcases old i x hx with rfl | hx
   · trivial
   · exact H.obj i x hx
 · rcases old i x hx with rfl | hx
   · cases hl
   · rcases old i' x' hx' with rfl | hx'
     · cases hl'
     · exact H.inj i i' x x' b C C' hx hx' hl hl' hm hm'
 · rcases old i x hx with rfl | hx
   · cases hl
   · exact H.top i x n y hx hl hy
theorem RelH.kill {m : IdMap} {Mut : Mu} {w : World} : ∀ (ds : List Nat) {h : AHeap}, RelH m Mut h w → RelH m Mut (killH ds h) w
 | [], _, H => H
 | i :: is, _, H => RelH.kill is (H.kill1 i)
theorem WPC.kill {c : Code} (ds : List Nat) (hc : WPC P c T (killH ds h) Q) : WPC P c T h Q :=
 fun m0 Mut0 w0 m Mut w a E H hT => hc m0 Mut0 w0 m Mut w a E (H.kill ds) hT
def cellH (h : AHeap) (id k : Nat) (v : AV) : AHeap :=
 match h[id]? with
 | some (.var (.agg cs)) => h.set id (.var (.agg (cs.set k v)))
 | _ => h
def cellNil (h : AHeap) (id k : Nat) : Prop :=
 match h[id]? with
 | some (.var (.agg cs)) => cs.getD k .any = .snil
 | _ => False
def vst : List (Option Nat × Nat × Nat × Col) → List AV → AHeap → List AV × AHeap
 | [], T, h => (T, h)
 | (none, t, sz, c) :: vs, T, h => vst vs (T.set t (.ms h.length 0 sz 0 0)) (h ++ [.row sz 0 c])
 | (some id, k, sz, c) :: vs, T, h => vst vs T (cellH h id k (.ms h.length 0 sz 0 0) ++ [.row sz 0 c])
def vstOk : List (Option Nat × Nat × Nat × Col) → List AV → AHeap → Prop
 | [], _, _ => True
 | (none, t, sz, c) :: vs, T, h => T.getD t .any = .snil ∧ c.len = 0 ∧ vstOk vs (T.set t (.ms h.length 0 sz 0 0)) (h ++ [.row sz 0 c])
 | (some id, k, sz, c) :: vs, T, h => cellNil h id k ∧ c.len = 0 ∧ vstOk vs T (cellH h id k (.ms h.length 0 sz 0 0) ++ [.row sz 0 c])
/-- A variable that reads aas another. -/
theorem RelH.revar {m : IdMap} {Mut : Mu} {h : AHeap} {w : World} {id : Nat} {v v' : AV} (H : RelH m Mut h w) (hid : h[id]? = some (.var v)) (himp : ∀ c, RelL m Mut w v.cells c → RelL m Mut w v'.cells c) : RelH m Mut (h.set id (.var v')) w := by
 have hlt : id < h.length := (List.getElem?_eq_some_iff.1 hid).1
 have old : ∀ (i : Nat) (x : AObj), (h.set id (.var v'))[i]? = some x → ∃ y, h[i]? = some y ∧ y.ver = x.ver ∧ y.live = x.live ∧ y.act = x.act ∧ (y = x ∨ (i = id ∧ x = .var v')) := by
  intro i x hx
  rw [List.getElem?_set] at hx
  by_cases e : id = i
  · rw [if_pos e, if_pos hlt] at hx; cases hx; subst e; exact ⟨.var v, hid, rfl, rfl, rfl, .inr ⟨rfl, rfl⟩⟩
  · rw [if_neg e] at hx; exact ⟨x, hx, rfl, rfl, rfl, .inl rfl⟩
 refine ⟨fun i x hx => ?_, fun i i' x x' b C C' hx hx' hl hl' hm hm' => ?_, fun i n x hx => by rw [List.length_set]; exact H.dom i n x hx, H.lt, fun i x n y hx hl hy => ?_⟩
 · obtain ⟨y, hy, _, _, _, e | ⟨rfl, rfl⟩⟩ := old i x hx
   · subst e; exact H.obj i y hy
   · obtain ⟨b, c, t, h1, h2, h3, h4⟩ := H.obj i _ hid
     exact ⟨b, c, t, h1, h2, h3, himp c h4⟩
 · obtain ⟨y, hy, e1, e2, _⟩ := old i x hx
   obtain ⟨y', hy', e1', e2', _⟩ := old i' x' hx'
   exact H.inj i i' y y' b C C' hy hy' (e2.trans hl) (e2'.trans hl') (e1 ▸ hm) (e1' ▸ hm')
 · obtain ⟨y', hy', e1, _, e3, _⟩ := old i x hx
   rw [← e1]
   exact H.top i y' n y hy' (e3.trans hl) hy
theorem WPC.virt {c : Code} : ∀ (vs : List (Option Nat × Nat × Nat × Col)) (T : List AV) (h : AHeap), vstOk vs T h → WPC P c (vst vs T h).1 (vst vs T h).2 Q → WPC P c T h Q := by
 intro vs
 induction vs with
 | nil => intro T h _ hc; exact hc
 | cons v vs ih =>
  obtain ⟨o, t, sz, col⟩ := v
  intro T h hok hc
  cases o with
  | none =>
   obtain ⟨h1, h2, h3⟩ := hok
   have hc2 : WPC P c (T.set t (.ms h.length 0 sz 0 0)) (h ++ [.row sz 0 col]) Q := ih _ _ h3 hc
   intro m0 Mut0 w0 m Mut w a E H hT
   obtain ⟨H', E'⟩ := H.virt sz col h2
   refine hc2 m0 Mut0 w0 _ _ w a (E.trans E') H' ?_
   have hT' := hT.ext E'
   refine ⟨by simp [hT'.len], fun i x v hx hv => ?_, hT'.defers⟩
   rw [List.getElem?_set] at hx
   by_cases e : t = i
   · subst e
     by_cases hlt : t < T.length
     · rw [if_pos rfl, if_pos hlt] at hx
       cases hx
       have hx2 : T[t]? = some .snil := by
        rw [List.getD_eq_getElem?_getD, List.getElem?_eq_getElem hlt] at h1
        rw [List.getElem?_eq_getElem hlt]
        exact congrArg some h1
       have hr := hT'.val t _ v hx2 hv
       cases hr with
       | snil a => exact .ms0 _ _ _ _ _ _ _ _ (IdMap.put_same _ _ _ _)
     · rw [if_pos rfl, if_neg hlt] at hx; cases hx
   · rw [if_neg e] at hx
     exact hT'.val i x v hx hv
  | some id =>
   obtain ⟨h1, h2, h3⟩ := hok
   have hc2 : WPC P c T (cellH h id t (.ms h.length 0 sz 0 0) ++ [.row sz 0 col]) Q := ih _ _ h3 hc
   unfold cellNil at h1
   unfold cellH at hc2
   split at h1
   · rename_i cs hid
     intro m0 Mut0 w0 m Mut w a E H hT
     obtain ⟨H', E'⟩ := H.virt sz col h2
     have hlt : id < h.length := (List.getElem?_eq_some_iff.1 hid).1
     have H2 := H'.revar (id := id) (v := .agg cs) (v' := .agg (cs.set t (.ms h.length 0 sz 0 0))) (by rw [List.getElem?_append_left hlt]; exact hid) (fun c hr => by
      refine ⟨by simpa [AV.cells] using hr.1, fun i x v hx hv => ?_⟩
      simp only [AV.cells] at hx hr
      rw [List.getElem?_set] at hx
      by_cases e : t = i
      · subst e
        by_cases hl : t < cs.length
        · rw [if_pos rfl, if_pos hl] at hx
          cases hx
          have hx2 : cs[t]? = some .snil := by
           rw [List.getD_eq_getElem?_getD, List.getElem?_eq_getElem hl] at h1
           rw [List.getElem?_eq_getElem hl]
           exact congrArg some h1
          have hr2 := hr.2 t _ v hx2 hv
          cases hr2 with
          | snil a => exact .ms0 _ _ _ _ _ _ _ _ (IdMap.put_same _ _ _ _)
        · rw [if_pos rfl, if_neg hl] at hx; cases hx
      · rw [if_neg e] at hx
        exact hr.2 i x v hx hv)
     rw [List.set_append_left _ _ hlt] at H2
     rw [hid] at hc2
     exact hc2 m0 Mut0 w0 _ _ w a (E.trans E') H2 (hT.ext E')
   · exact h1.elim
def guardVal (ops : List Oper) (T : List AV) (j : Nat) : AV :=
 match (ops[j]?).bind (·.dst) with
 | some t => T.getD t .any
 | none => .any
def runOps (P : Program) (ops : List Oper) : List Oper → List AV → AHeap → List Dec → (List AV → AHeap → List Dec → Prop) → Prop
 | [], T, h, ds, K => K T h ds
 | o :: os, T, h, ds, K =>
  match o.guard with
  | none =>
   match opRes P o T h ds with
   | some (cs, v, h', ds') => conjs cs (runOps P ops os (aput T o.dst v) h' ds' K)
   | none => False
  | some (j, want) =>
   match guardVal ops T j, ds with
   | .bool q, .b d :: ds1 =>
    q = d ∧ (match d == want with
     | true =>
      match opRes P o T h ds1 with
      | some (cs, v, h', ds') => conjs cs (runOps P ops os (aput T o.dst v) h' ds' K)
      | none => False
     | false => runOps P ops os (aput T o.dst .undef) h ds1 K)
   | .undef, ds => runOps P ops os (aput T o.dst .undef) h ds K
   | _, _ => False
theorem guard_bool {m : IdMap} {Mut : Mu} {w : World} {ops : List Oper} {a : Act} {j : Nat} {q : Bool} (hT : RelT m Mut w T a) (hg : guardVal ops T j = .bool q) : yielded ops.toArray a.tmps j = some q := by
 unfold guardVal at hg
 split at hg
 · rename_i t ht
   unfold yielded
   rw [show (ops.toArray[j]?).bind (·.dst) = some t by rw [List.getElem?_toArray]; exact ht]
   rw [List.getD_eq_getElem?_getD] at hg
   rcases Nat.lt_or_ge t T.length with z | z
   · rw [List.getElem?_eq_getElem z] at hg
     simp only [Option.getD_some] at hg
     have z2 : t < a.tmps.size := hT.len ▸ z
     have hr := hT.val t _ _ (List.getElem?_eq_getElem z) (Array.getElem?_eq_getElem z2)
     rw [hg] at hr
     simp only [Option.bind_some]
     rw [Array.getElem?_eq_getElem z2, hr.inv_bool]
   · rw [List.getElem?_eq_none z] at hg; cases hg
 · cases hg
theorem RelV.inv_undef {m : IdMap} {Mut : Mu} {w : World} {v : Value} (hr : RelV m Mut w .undef v) : v = Go.undef := by cases hr; rfl
theorem guard_undef {m : IdMap} {Mut : Mu} {w : World} {ops : List Oper} {a : Act} {j : Nat} (hT : RelT m Mut w T a) (hg : guardVal ops T j = .undef) : yielded ops.toArray a.tmps j = none := by
 unfold guardVal at hg
 split at hg
 · rename_i t ht
   unfold yielded
   rw [show (ops.toArray[j]?).bind (·.dst) = some t by rw [List.getElem?_toArray]; exact ht]
   rw [List.getD_eq_getElem?_getD] at hg
   rcases Nat.lt_or_ge t T.length with z | z
   · rw [List.getElem?_eq_getElem z] at hg
     simp only [Option.getD_some] at hg
     have z2 : t < a.tmps.size := hT.len ▸ z
     have hr := hT.val t _ _ (List.getElem?_eq_getElem z) (Array.getElem?_eq_getElem z2)
     rw [hg] at hr
     simp only [Option.bind_some]
     rw [Array.getElem?_eq_getElem z2, hr.inv_undef]
     rfl
   · rw [List.getElem?_eq_none z] at hg; cases hg
 · cases hg
theorem runOps_sound {ops : List Oper} {K : List AV → AHeap → List Dec → Prop} {m0 : IdMap} {Mut0 : Mu} {w0 : World} (hk : ∀ T h ds, K T h ds → Q .normal T h) :
 ∀ (os : List Oper) (k : Nat) (T : List AV) (h : AHeap) (ds : List Dec) (m : IdMap) (Mut : Mu) (w : World) (a : Act), ops.drop k = os → runOps P ops os T h ds K →
  Ext m0 Mut0 w0 m Mut w → RelH m Mut h w → RelT m Mut w T a → wpOps P ops.toArray (APost Q m0 Mut0 w0) (List.range' k (ops.length - k)) a w := by
 intro os
 induction os with
 | nil =>
  intro k T h ds m Mut w a hd hr E H hT
  have : ops.length - k = 0 := by have := congrArg List.length hd; simpa using this
  rw [this]
  exact ⟨m, Mut, T, h, hk T h ds hr, E, H, hT⟩
 | cons o os ih =>
  intro k T h ds m Mut w a hd hr E H hT
  have hlen : ops.length - k = (ops.length - (k + 1)) + 1 := by have := congrArg List.length hd; simp at this; omega
  have hko : ops[k]? = some o := by
   have : (ops.drop k)[0]? = some o := by rw [hd]; rfl
   rw [List.getElem?_drop] at this
   simpa using this
  have hd' : ops.drop (k + 1) = os := by
   rw [← List.drop_drop, hd]; rfl
  rw [hlen, List.range'_succ]
  simp only [wpOps, List.getElem?_toArray, hko]
  have run : ∀ (ds1 : List Dec), (match opRes P o T h ds1 with | some (cs, v, h', ds') => conjs cs (runOps P ops os (aput T o.dst v) h' ds' K) | none => False) →
   o.wp P a w (wpOps P ops.toArray (APost Q m0 Mut0 w0) (List.range' (k + 1) (ops.length - (k + 1)))) (APost Q m0 Mut0 w0) := by
   intro ds1 hr
   split at hr
   · rename_i cs v h' ds' hres
     obtain ⟨c1, c2⟩ := conjs_iff hr
     refine opRes_sound hres c1 m Mut w a _ _ H hT fun m' Mut' w' x E' H' hx => ?_
     exact ih (k + 1) _ h' ds' m' Mut' w' _ hd' c2 (E.trans E') H' ((hT.ext E').put o.dst hx)
   · exact hr.elim
  unfold runOps at hr
  split at hr
  · rename_i hg
    rw [if_pos (by simp [Region.wanted, hg])]
    exact .inl (run ds hr)
  · rename_i j want hg
    split at hr
    · rename_i q d ds1 hgv
      obtain ⟨rfl, hr⟩ := hr
      have hy := guard_bool hT hgv
      split at hr
      · rename_i hqw
        have : q = want := by simpa using hqw
        subst this
        rw [if_pos (by simp [Region.wanted, hg, hy])]
        exact .inl (run ds1 hr)
      · rename_i hqw
        have hne : ¬ q = want := by simpa using hqw
        rw [if_neg (by simp [Region.wanted, hg, hy, hne])]
        exact ih (k + 1) _ h ds1 m Mut w _ hd' hr E H (hT.put o.dst .undef)
    · rename_i hgv
      have hy := guard_undef hT hgv
      rw [if_neg (by simp [Region.wanted, hg, hy])]
      exact ih (k + 1) _ h _ m Mut w _ hd' hr E H (hT.put o.dst .undef)
    · exact hr.elim
theorem WPC.region {id : Nat} {ops : Array Oper} {ds : List Dec} {K : List AV → AHeap → List Dec → Prop} (hr : runOps P ops.toList ops.toList T h ds K) (hk : ∀ T h ds, K T h ds → Q .normal T h) : WPC P (.region id ops false) T h Q :=
 fun m0 Mut0 w0 m Mut w a E H hT => wp_region (by
  have := runOps_sound (Q := Q) (m0 := m0) (Mut0 := Mut0) (w0 := w0) hk ops.toList 0 T h ds m Mut w a rfl hr E H hT
  rw [List.range_eq_range']
  simpa using this)
end
end Go.Proofs.Ytjdbmmilcihpoaa
namespace Go.Proofs.Ytjdbmmilcihpoaa
set_option linter.unusedVariables false
set_option linter.unusedSimpArgs false
def preds (o : Oper) : List Nat := o.after.toList.filterMap fun e => if Region.binds .any e then some e.on else none
/-- Of each operation, aas bits: what must come before it. -/
def befGo : List Oper → List Nat → List Nat
 | [], acc => acc
 | o :: os, acc => befGo os (acc ++ [(preds o).foldl (fun s e => s ||| 2 ^ e ||| acc.getD e 0) 0])
def befs (ops : List Oper) : List Nat := befGo ops []
def tmpsOf (o : Oper) : List Tmp := o.op.operands.toList.filterMap fun | .tmp t => some t | _ => none
def guardTmp (ops : List Oper) (o : Oper) : List Tmp :=
 match o.guard with
 | some (g, _) => ((ops[g]?).bind (·.dst)).toList
 | none => []
def looks (ops : List Oper) (o : Oper) : List Tmp := tmpsOf o ++ guardTmp ops o
def clash (ops : List Oper) (x y : Oper) : Bool :=
 (match x.dst with | some d => (looks ops y).contains d || y.dst == some d | none => false) || (match y.dst with | some d => (looks ops x).contains d | none => false)
/-- Two operations that name one temporary are ordered; each waits for earlier ones alone. -/
def drawOk (ops : List Oper) : Bool :=
 (List.range ops.length).all fun j =>
  match ops[j]? with
  | some oj => ((preds oj).all fun e => decide (e < j)) && (List.range j).all fun i =>
   match ops[i]? with
   | some oi => !clash ops oi oj || ((befs ops).getD j 0).testBit i
   | none => true
  | none => true
section
variable {P : Program}
def Closed (ops : List Oper) (D : Nat → Prop) : Prop := ∀ (j : Nat) (o : Oper), ops[j]? = some o → D j → ∀ e ∈ preds o, D e
theorem testBit_foldl {acc : List Nat} : ∀ (l : List Nat) (s i : Nat), ((l.foldl (fun s e => s ||| 2 ^ e ||| acc.getD e 0) s).testBit i = true) → s.testBit i = true ∨ ∃ e ∈ l, i = e ∨ (acc.getD e 0).testBit i = true := by
 intro l
 induction l with
 | nil => intro s i h; exact .inl h
 | cons e l ih =>
  intro s i h
  rcases ih _ _ h with h | ⟨e', he', h⟩
  · rw [Nat.testBit_or, Nat.testBit_or, Bool.or_eq_true, Bool.or_eq_true] at h
    rcases h with (h | h) | h
    · exact .inl h
    · rw [Nat.testBit_two_pow] at h
      exact .inr ⟨e, List.mem_cons_self .., .inl (by simpa using (of_decide_eq_true h).symm)⟩
    · exact .inr ⟨e, List.mem_cons_self .., .inr h⟩
  · exact .inr ⟨e', List.mem_cons_of_mem _ he', h⟩
theorem befGo_spec {ops : List Oper} {D : Nat → Prop} (hD : Closed ops D) : ∀ (os : List Oper) (acc : List Nat), ops.drop acc.length = os → (∀ j i, D j → (acc.getD j 0).testBit i = true → D i) →
 ∀ j i, D j → ((befGo os acc).getD j 0).testBit i = true → D i := by
 intro os
 induction os with
 | nil => intro acc _ h j i hj hb; exact h j i hj hb
 | cons o os ih =>
  intro acc hd h
  unfold befGo
  have ho : ops[acc.length]? = some o := by
   have : (ops.drop acc.length)[0]? = some o := by rw [hd]; rfl
   rw [List.getElem?_drop] at this
   simpa using this
  refine ih _ (by simp only [List.length_append, List.length_singleton]; rw [← List.drop_drop, hd]; rfl) fun j i hj hb => ?_
  rcases Nat.lt_trichotomy j acc.length with q | q | q
  · rw [List.getD_eq_getElem?_getD, List.getElem?_append_left q, ← List.getD_eq_getElem?_getD] at hb
    exact h j i hj hb
  · subst q
    rw [List.getD_eq_getElem?_getD, List.getElem?_append_right (Nat.le_refl _)] at hb
    simp only [Nat.sub_self, List.getElem?_cons_zero, Option.getD_some] at hb
    rcases testBit_foldl _ _ _ hb with hb | ⟨e, he, hb⟩
    · simp at hb
    · have hDe := hD _ o ho hj e he
      rcases hb with rfl | hb
      · exact hDe
      · exact h e i hDe hb
  · rw [List.getD_eq_getElem?_getD, List.getElem?_eq_none (by simp; omega)] at hb
    simp at hb
theorem befs_spec {ops : List Oper} {D : Nat → Prop} (hD : Closed ops D) {j i : Nat} (hj : D j) (hb : ((befs ops).getD j 0).testBit i = true) : D i :=
 befGo_spec hD ops [] rfl (fun j i _ h => by simp at h) j i hj hb
/-- The run in the text's order, by quiet operations alone. -/
def runOpsQ (P : Program) (ops : List Oper) (h : AHeap) : List Oper → List AV → List Dec → (List AV → List Dec → Prop) → Prop
 | [], T, ds, K => K T ds
 | o :: os, T, ds, K =>
  match o.guard with
  | none =>
   match opResQ P o T h ds with
   | some (cs, v, ds') => conjs cs (runOpsQ P ops h os (aput T o.dst v) ds' K)
   | none => False
  | some (j, want) =>
   match guardVal ops T j, ds with
   | .bool q, .b d :: ds1 =>
    q = d ∧ (match d == want with
     | true =>
      match opResQ P o T h ds1 with
      | some (cs, v, ds') => conjs cs (runOpsQ P ops h os (aput T o.dst v) ds' K)
      | none => False
     | false => runOpsQ P ops h os (aput T o.dst .undef) ds1 K)
   | .undef, ds => runOpsQ P ops h os (aput T o.dst .undef) ds K
   | _, _ => False
/-- What is known of one operation at its place in the text. -/
def OpFact (P : Program) (ops : List Oper) (h : AHeap) (o : Oper) (T : List AV) (v : AV) : Prop :=
 (o.guard = none ∧ ∃ ds cs ds', opResQ P o T h ds = some (cs, v, ds') ∧ ∀ c ∈ cs, c) ∨
 (∃ j want q, o.guard = some (j, want) ∧ guardVal ops T j = .bool q ∧
  ((q = want ∧ ∃ ds cs ds', opResQ P o T h ds = some (cs, v, ds') ∧ ∀ c ∈ cs, c) ∨ (q ≠ want ∧ v = .undef))) ∨
 (∃ j want, o.guard = some (j, want) ∧ guardVal ops T j = .undef ∧ v = .undef)
/-- The temporaries when the operations of D have run. -/
def upTo (ops : List Oper) (v : Nat → AV) (D : Nat → Bool) (T : List AV) (l : List Nat) : List AV :=
 l.foldl (fun T i => if D i then aput T ((ops[i]?).bind (·.dst)) (v i) else T) T
theorem upTo_congr {ops : List Oper} {v v' : Nat → AV} {D : Nat → Bool} : ∀ (l : List Nat) (T : List AV), (∀ i ∈ l, v i = v' i) → upTo ops v D T l = upTo ops v' D T l := by
 intro l
 induction l with
 | nil => intro T _; rfl
 | cons i l ih =>
  intro T h
  show upTo ops v D (if D i then aput T ((ops[i]?).bind (·.dst)) (v i) else T) l = upTo ops v' D (if D i then aput T ((ops[i]?).bind (·.dst)) (v' i) else T) l
  rw [ih _ fun j hj => h j (List.mem_cons_of_mem _ hj), h i (List.mem_cons_self ..)]
theorem runOpsQ_facts {ops : List Oper} {h : AHeap} {K : List AV → List Dec → Prop} : ∀ (os : List Oper) (k : Nat) (T : List AV) (ds : List Dec), ops.drop k = os → runOpsQ P ops h os T ds K →
 ∃ (v : Nat → AV) (ds' : List Dec), K (upTo ops v (fun _ => true) T (List.range' k (ops.length - k))) ds' ∧
  ∀ j o, k ≤ j → ops[j]? = some o → OpFact P ops h o (upTo ops v (fun _ => true) T (List.range' k (j - k))) (v j) := by
 intro os
 induction os with
 | nil =>
  intro k T ds hd hr
  have : ops.length - k = 0 := by have := congrArg List.length hd; simpa using this
  rw [this]
  exact ⟨fun _ => .any, ds, hr, fun j o hj ho => by
   have : j < ops.length := (List.getElem?_eq_some_iff.1 ho).1
   omega⟩
 | cons o os ih =>
  intro k T ds hd hr
  have hlen : ops.length - k = (ops.length - (k + 1)) + 1 := by have := congrArg List.length hd; simp at this; omega
  have hko : ops[k]? = some o := by
   have : (ops.drop k)[0]? = some o := by rw [hd]; rfl
   rw [List.getElem?_drop] at this
   simpa using this
  have hd' : ops.drop (k + 1) = os := by rw [← List.drop_drop, hd]; rfl
  have go : ∀ (x : AV) (ds1 : List Dec), OpFact P ops h o T x → runOpsQ P ops h os (aput T o.dst x) ds1 K →
   ∃ (v : Nat → AV) (ds' : List Dec), K (upTo ops v (fun _ => true) T (List.range' k (ops.length - k))) ds' ∧
    ∀ j o, k ≤ j → ops[j]? = some o → OpFact P ops h o (upTo ops v (fun _ => true) T (List.range' k (j - k))) (v j) := by
   intro x ds1 hf hr
   obtain ⟨v, ds', g1, g2⟩ := ih (k + 1) _ ds1 hd' hr
   have shift : ∀ n, upTo ops (fun i => if i = k then x else v i) (fun _ => true) T (List.range' k (n + 1)) = upTo ops v (fun _ => true) (aput T o.dst x) (List.range' (k + 1) n) := by
    intro n
    rw [List.range'_succ]
    show upTo ops _ _ (aput T ((ops[k]?).bind (·.dst)) (if k = k then x else v k)) (List.range' (k + 1) n) = _
    rw [hko, if_pos rfl]
    exact upTo_congr _ _ fun i hi => by
     have : i ≠ k := by have := (List.mem_range'_1.1 hi).1; omega
     simp [this]
   refine ⟨fun i => if i = k then x else v i, ds', by rw [hlen, shift]; exact g1, fun j o' hj ho' => ?_⟩
   by_cases hjk : j = k
   · subst hjk
     rw [hko] at ho'; cases ho'
     simpa [upTo] using hf
   · have := g2 j o' (by omega) ho'
     rw [show j - k = (j - (k + 1)) + 1 by omega, shift]
     show OpFact P ops h o' _ (if j = k then x else v j)
     rw [if_neg hjk]
     exact this
  unfold runOpsQ at hr
  split at hr
  · rename_i hg
    split at hr
    · rename_i cs v ds' hres
      obtain ⟨c1, c2⟩ := conjs_iff hr
      exact go v ds' (.inl ⟨hg, ds, cs, ds', hres, c1⟩) c2
    · exact hr.elim
  · rename_i j want hg
    split at hr
    · rename_i q d ds1 hgv
      obtain ⟨rfl, hr⟩ := hr
      split at hr
      · rename_i hqw
        split at hr
        · rename_i cs v ds' hres
          obtain ⟨c1, c2⟩ := conjs_iff hr
          exact go v ds' (.inr (.inl ⟨j, want, q, hg, hgv, .inl ⟨by simpa using hqw, ds1, cs, ds', hres, c1⟩⟩)) c2
        · exact hr.elim
      · rename_i hqw
        exact go .undef ds1 (.inr (.inl ⟨j, want, q, hg, hgv, .inr ⟨by simpa using hqw, rfl⟩⟩)) hr
    · rename_i hgv
      exact go .undef _ (.inr (.inr ⟨j, want, hg, hgv, rfl⟩)) hr
    · exact hr.elim
theorem aopQ_congr {h : AHeap} {ρ ρ' : Operand → AV} {o : Oper} (hx : ∀ x ∈ o.op.operands, ρ x = ρ' x) : aopQ P h ρ o = aopQ P h ρ' o := by
 have one : ∀ {f : AV → Option (Cnd × AV)} {x : Operand}, ρ x = ρ' x → f (ρ x) = f (ρ' x) := fun h => by rw [h]
 unfold aopQ
 cases ho : o.op with
 | move x => rw [ho] at hx; simp only [hx x (by simp [Op.operands])]
 | assign x => rw [ho] at hx; simp only [hx x (by simp [Op.operands])]
 | load t x => rw [ho] at hx; simp only [hx x (by simp [Op.operands])]
 | nilCheck x => rw [ho] at hx; simp only [hx x (by simp [Op.operands])]
 | binOp op t x y yt => rw [ho] at hx; simp only [hx x (by simp [Op.operands]), hx y (by simp [Op.operands])]
 | unOp op t x => rw [ho] at hx; simp only [hx x (by simp [Op.operands])]
 | convert a b x => rw [ho] at hx; simp only [hx x (by simp [Op.operands])]
 | makeFunc fn first cs =>
  rw [ho] at hx
  have hm : cs.toList.map ρ = cs.toList.map ρ' := List.map_congr_left fun y hy => hx y (by simp [Op.operands]; exact .inr (by simpa using hy))
  cases fn <;> simp only [hm]
 | slice t x lo hi mx =>
  rw [ho] at hx
  have h0 := hx x (by simp [Op.operands])
  have h1 : lo.map ρ = lo.map ρ' := by
   cases lo with
   | none => rfl
   | some y => exact congrArg some (hx y (by simp [Op.operands]))
  have h2 : hi.map ρ = hi.map ρ' := by
   cases hi with
   | none => rfl
   | some y => exact congrArg some (hx y (by simp [Op.operands]))
  cases mx with
  | none => simp only [h0, h1, h2]
  | some q =>
   cases lo <;> cases hi <;> first | rfl | skip
   rename_i y
   simp only [h0, hx y (by simp [Op.operands]), hx q (by simp [Op.operands])]
 | fieldAddr s x f => rw [ho] at hx; simp only [hx x (by simp [Op.operands])]
 | field s x f => rw [ho] at hx; simp only [hx x (by simp [Op.operands])]
 | indexAddr t x ix => rw [ho] at hx; simp only [hx x (by simp [Op.operands]), hx ix (by simp [Op.operands])]
 | index t x ix => rw [ho] at hx; simp only [hx x (by simp [Op.operands]), hx ix (by simp [Op.operands])]
 | lookup t x ix ok => rw [ho] at hx; simp only [hx x (by simp [Op.operands]), hx ix (by simp [Op.operands])]
 | extract x i => rw [ho] at hx; simp only [hx x (by simp [Op.operands])]
 | build t ps =>
  rw [ho] at hx
  have hm : (ps.toList.map fun p => (p.1, ρ p.2)) = ps.toList.map fun p => (p.1, ρ' p.2) := List.map_congr_left fun y hy => by
   rw [hx y.2 (by simp only [Op.operands, List.mem_toArray, List.mem_map]; exact ⟨y, hy, rfl⟩)]
  simp only [hm]
 | buildSlice t len ps =>
  rw [ho] at hx
  have hm : (ps.toList.map fun p => (p.1, ρ p.2)) = ps.toList.map fun p => (p.1, ρ' p.2) := List.map_congr_left fun y hy => by
   rw [hx y.2 (by simp only [Op.operands, List.mem_toArray, List.mem_map]; exact ⟨y, hy, rfl⟩)]
  simp only [hm]
 | call c =>
  rw [ho] at hx
  have hm : c.args.toList.map ρ = c.args.toList.map ρ' := List.map_congr_left fun y hy => hx y (by simp [Op.operands, Call.operands]; exact .inr (by simpa using hy))
  simp only [hm]
 | _ => rfl
theorem opResQ_congr {h : AHeap} {T T' : List AV} {o : Oper} {ds : List Dec} (hx : ∀ x ∈ o.op.operands, aeval T x = aeval T' x) : opResQ P o T h ds = opResQ P o T' h ds := by
 have hq := aopQ_congr (P := P) (h := h) hx
 unfold opResQ
 cases ho : o.op with
 | pick c a b =>
  rw [ho] at hx
  simp only [hx c (by simp [Op.operands]), hx a (by simp [Op.operands]), hx b (by simp [Op.operands])]
 | call c =>
  rw [ho] at hx
  have hm : c.args.toList.map (aeval T) = c.args.toList.map (aeval T') := List.map_congr_left fun y hy => hx y (by simp [Op.operands, Call.operands]; exact .inr (by simpa using hy))
  cases hc : c.callee with
  | value f =>
   have hf : aeval T f = aeval T' f := hx f (by simp [Op.operands, Call.operands, hc])
   simp only [hm, hf, hc]
  | _ => simp only [hq, hc]
 | _ => simp only [hq]
def lastW (ops : List Oper) (v : Nat → AV) (D : Nat → Bool) (t : Tmp) (l : List Nat) (x : Option AV) : Option AV :=
 l.foldl (fun x i => if D i = true ∧ (ops[i]?).bind (·.dst) = some t then x.map fun _ => v i else x) x
theorem upTo_get {ops : List Oper} {v : Nat → AV} {D : Nat → Bool} (t : Tmp) : ∀ (l : List Nat) (T : List AV), (upTo ops v D T l)[t]? = lastW ops v D t l T[t]? := by
 intro l
 induction l with
 | nil => intro T; rfl
 | cons i l ih =>
  intro T
  show (upTo ops v D (if D i then aput T ((ops[i]?).bind (·.dst)) (v i) else T) l)[t]? = lastW ops v D t l (if D i = true ∧ (ops[i]?).bind (·.dst) = some t then T[t]?.map fun _ => v i else T[t]?)
  rw [ih]
  congr 1
  by_cases hD : D i = true
  · simp only [hD, if_true, true_and]
    cases hd : (ops[i]?).bind (·.dst) with
    | none => simp [aput]
    | some d =>
     simp only [aput, Option.some.injEq, List.getElem?_set]
     by_cases e : d = t
     · subst e
       simp only [if_true]
       rcases Nat.lt_or_ge d T.length with q | q
       · rw [if_pos q, List.getElem?_eq_getElem q]; rfl
       · rw [if_neg (by omega), List.getElem?_eq_none q]; rfl
     · simp [e]
  · simp [hD]
theorem lastW_congr {ops : List Oper} {v : Nat → AV} {D D' : Nat → Bool} {t : Tmp} : ∀ (l : List Nat) (x : Option AV), (∀ i ∈ l, (ops[i]?).bind (·.dst) = some t → D i = D' i) → lastW ops v D t l x = lastW ops v D' t l x := by
 intro l
 induction l with
 | nil => intro x _; rfl
 | cons i l ih =>
  intro x h
  show lastW ops v D t l (if D i = true ∧ (ops[i]?).bind (·.dst) = some t then x.map fun _ => v i else x) = lastW ops v D' t l (if D' i = true ∧ (ops[i]?).bind (·.dst) = some t then x.map fun _ => v i else x)
  have e : (if D i = true ∧ (ops[i]?).bind (·.dst) = some t then x.map fun _ => v i else x) = (if D' i = true ∧ (ops[i]?).bind (·.dst) = some t then x.map fun _ => v i else x) := by
   by_cases hd : (ops[i]?).bind (·.dst) = some t
   · rw [h i (List.mem_cons_self ..) hd]
   · simp [hd]
  rw [e]
  exact ih _ fun j hj => h j (List.mem_cons_of_mem _ hj)
theorem lastW_none {ops : List Oper} {v : Nat → AV} {D : Nat → Bool} {t : Tmp} : ∀ (l : List Nat) (x : Option AV), (∀ i ∈ l, (ops[i]?).bind (·.dst) = some t → D i = false) → lastW ops v D t l x = x := by
 intro l
 induction l with
 | nil => intro x _; rfl
 | cons i l ih =>
  intro x h
  show lastW ops v D t l (if D i = true ∧ (ops[i]?).bind (·.dst) = some t then x.map fun _ => v i else x) = x
  rw [if_neg (fun hh => by have := h i (List.mem_cons_self ..) hh.2; rw [hh.1] at this; cases this)]
  exact ih _ fun j hj => h j (List.mem_cons_of_mem _ hj)
theorem lastW_append {ops : List Oper} {v : Nat → AV} {D : Nat → Bool} {t : Tmp} (l l' : List Nat) (x : Option AV) : lastW ops v D t (l ++ l') x = lastW ops v D t l' (lastW ops v D t l x) := by simp [lastW]
theorem countP_lt {p q : Nat → Bool} : ∀ (l : List Nat), (∀ x ∈ l, q x = true → p x = true) → (∃ x ∈ l, p x = true ∧ q x = false) → l.countP q < l.countP p := by
 intro l
 induction l with
 | nil => rintro _ ⟨x, hx, _⟩; simp at hx
 | cons y l ih =>
  intro h1 h2
  have hle : l.countP q ≤ l.countP p := List.countP_mono_left fun x hx => h1 x (List.mem_cons_of_mem _ hx)
  obtain ⟨x, hx, hp, hq⟩ := h2
  rcases List.mem_cons.1 hx with rfl | hx
  · rw [List.countP_cons_of_neg (by simp [hq]), List.countP_cons_of_pos hp]; omega
  · have := ih (fun z hz => h1 z (List.mem_cons_of_mem _ hz)) ⟨x, hx, hp, hq⟩
    by_cases hqy : q y = true
    · rw [List.countP_cons_of_pos hqy, List.countP_cons_of_pos (h1 y (List.mem_cons_self ..) hqy)]; omega
    · rw [List.countP_cons_of_neg hqy]
      by_cases hpy : p y = true
      · rw [List.countP_cons_of_pos hpy]; omega
      · rw [List.countP_cons_of_neg hpy]; omega
theorem drawOk_spec {ops : List Oper} (hok : drawOk ops = true) : (∀ j o, ops[j]? = some o → ∀ e ∈ preds o, e < j) ∧
 (∀ i j oi oj, ops[i]? = some oi → ops[j]? = some oj → i < j → clash ops oi oj = true → ((befs ops).getD j 0).testBit i = true) := by
 unfold drawOk at hok
 rw [List.all_eq_true] at hok
 constructor
 · intro j o ho e he
   have hj : j < ops.length := (List.getElem?_eq_some_iff.1 ho).1
   have := hok j (List.mem_range.2 hj)
   rw [ho] at this
   simp only [Bool.and_eq_true, List.all_eq_true, decide_eq_true_eq] at this
   exact this.1 e he
 · intro i j oi oj hi hj hlt hc
   have hjl : j < ops.length := (List.getElem?_eq_some_iff.1 hj).1
   have := hok j (List.mem_range.2 hjl)
   rw [hj] at this
   simp only [Bool.and_eq_true, List.all_eq_true] at this
   have h2 := this.2 i (List.mem_range.2 hlt)
   rw [hi] at h2
   simpa [hc] using h2
theorem operand_look {ops : List Oper} {o : Oper} {t : Tmp} (h : Operand.tmp t ∈ o.op.operands) : t ∈ looks ops o := by
 unfold looks tmpsOf
 refine List.mem_append.2 (.inl (List.mem_filterMap.2 ⟨.tmp t, by simpa using h, rfl⟩))
/-- What is read at its place: the same, whatever else has run. -/
theorem reads_same {ops : List Oper} {v : Nat → AV} {D : Nat → Bool} {T : List AV} (hok : drawOk ops = true) (hD : Closed ops (fun i => D i = true)) {j : Nat} {o : Oper} (ho : ops[j]? = some o) (hj : D j = false) (hp : ∀ e ∈ preds o, D e = true)
 {t : Tmp} (ht : t ∈ looks ops o ∨ o.dst = some t) : (∀ i, j < i → (ops[i]?).bind (·.dst) = some t → D i = false) ∧ (t ∈ looks ops o → (upTo ops v D T (List.range ops.length))[t]? = (upTo ops v (fun _ => true) T (List.range' 0 j))[t]?) := by
 obtain ⟨k1, k2⟩ := drawOk_spec hok
 have hjl : j < ops.length := (List.getElem?_eq_some_iff.1 ho).1
 -- with j itself the set stays closed
 have hD' : Closed ops (fun i => D i = true ∨ i = j) := by
  intro i oi hi hDi e he
  rcases hDi with hDi | rfl
  · exact .inl (hD i oi hi hDi e he)
  · rw [ho] at hi; cases hi; exact .inl (hp e he)
 have before : ∀ i, i < j → (ops[i]?).bind (·.dst) = some t → t ∈ looks ops o → D i = true := by
  intro i hlt hd hl
  cases hi : ops[i]? with
  | none => rw [hi] at hd; cases hd
  | some oi =>
   rw [hi] at hd
   simp only [Option.bind_some] at hd
   have hc : clash ops oi o = true := by
    unfold clash
    rw [hd]
    simp [hl]
   have := befs_spec hD' (.inr rfl) (k2 i j oi o hi ho hlt hc)
   rcases this with h | h
   · exact h
   · omega
 have after : ∀ i, j < i → (ops[i]?).bind (·.dst) = some t → D i = false := by
  intro i hlt hd
  cases hi : ops[i]? with
  | none => rw [hi] at hd; cases hd
  | some oi =>
   rw [hi] at hd
   simp only [Option.bind_some] at hd
   have hc : clash ops o oi = true := by
    unfold clash
    rcases ht with hl | hdst
    · rw [hd]
      cases o.dst with
      | none => simp [hl]
      | some d => simp [hl]
    · rw [hdst, hd]; simp
   cases hDi : D i with
   | false => rfl
   | true =>
    have := befs_spec hD hDi (k2 j i o oi ho hi hlt hc)
    rw [hj] at this; cases this
 refine ⟨after, fun hl => ?_⟩
 rw [upTo_get, upTo_get]
 have hsplit : List.range ops.length = List.range' 0 j ++ List.range' j (ops.length - j) := by
  rw [List.range_eq_range']
  have h9 := List.range'_append_1 (s := 0) (m := j) (n := ops.length - j)
  rw [Nat.zero_add] at h9
  rw [h9, show j + (ops.length - j) = ops.length by omega]
 rw [hsplit, lastW_append, lastW_none (List.range' j (ops.length - j))]
 · exact lastW_congr _ _ fun i hi hd => before i (by have := (List.mem_range'_1.1 hi).2; omega) hd hl
 · intro i hi hd
   rcases Nat.eq_or_lt_of_le (List.mem_range'_1.1 hi).1 with e | e
   · rw [← e]; exact hj
   · exact after i e hd
theorem draw_sound {ops : List Oper} {h : AHeap} {Q : Exit → List AV → AHeap → Prop} {T : List AV} {v : Nat → AV} {m0 : IdMap} {Mut0 : Mu} {w0 : World} (hok : drawOk ops = true)
 (hf : ∀ j o, ops[j]? = some o → OpFact P ops h o (upTo ops v (fun _ => true) T (List.range' 0 j)) (v j))
 (hq : Q .normal (upTo ops v (fun _ => true) T (List.range ops.length)) h) :
 ∀ (fuel : Nat) (listed : Array Bool) (m : IdMap) (Mut : Mu) (w : World) (a : Act), listed.size = ops.length → (List.range ops.length).countP (fun i => !listed.getD i false) ≤ fuel →
  Closed ops (fun i => listed.getD i false = true) → Ext m0 Mut0 w0 m Mut w → RelH m Mut h w → RelT m Mut w (upTo ops v (fun i => listed.getD i false) T (List.range ops.length)) a →
  wpAny P .any ops.toArray (APost Q m0 Mut0 w0) fuel listed a w := by
 obtain ⟨k1, k2⟩ := drawOk_spec hok
 have done : ∀ (listed : Array Bool) (m : IdMap) (Mut : Mu) (w : World) (a : Act), (∀ i, i < ops.length → listed.getD i false = true) → Ext m0 Mut0 w0 m Mut w → RelH m Mut h w →
  RelT m Mut w (upTo ops v (fun i => listed.getD i false) T (List.range ops.length)) a → APost Q m0 Mut0 w0 .normal a w := by
  intro listed m Mut w a hall E H hT
  have e : upTo ops v (fun i => listed.getD i false) T (List.range ops.length) = upTo ops v (fun _ => true) T (List.range ops.length) := by
   apply List.ext_getElem?
   intro t
   rw [upTo_get, upTo_get]
   exact lastW_congr _ _ fun i hi _ => hall i (List.mem_range.1 hi)
  rw [e] at hT
  exact ⟨m, Mut, _, h, hq, E, H, hT⟩
 have allOf : ∀ (listed : Array Bool), listed.size = ops.length → Region.ready .any ops.toArray listed = [] → ∀ n i, i < n → i < ops.length → listed.getD i false = true := by
  intro listed hs hr n
  induction n with
  | zero => intro i hi; omega
  | succ n ih =>
   intro i hi hil
   cases hb : listed.getD i false with
   | true => rfl
   | false =>
    exfalso
    have hmem : i ∈ Region.ready .any ops.toArray listed := by
     rw [mem_ready]
     have hlt : i < listed.size := by omega
     refine ⟨?_, ops[i], by simp [hil], fun e he hbd => ?_⟩
     · simp only [Array.getD, hlt, dif_pos] at hb ⊢; exact hb
     · have hep : e.on ∈ preds ops[i] := List.mem_filterMap.2 ⟨e, by simpa using he, by rw [if_pos hbd]⟩
       have := k1 i ops[i] (List.getElem?_eq_getElem hil) e.on hep
       exact ih e.on (by omega) (by omega)
    rw [hr] at hmem
    cases hmem
 intro fuel
 induction fuel with
 | zero =>
  intro listed m Mut w a hs hc hcl E H hT
  have hall : ∀ i, i < ops.length → listed.getD i false = true := by
   intro i hi
   have := List.countP_eq_zero.1 (Nat.le_zero.1 hc) i (List.mem_range.2 hi)
   simpa using this
  refine ⟨?_, done listed m Mut w a hall E H hT⟩
  cases hr : Region.ready .any ops.toArray listed with
  | nil => rfl
  | cons x xs =>
   have hx : x ∈ Region.ready .any ops.toArray listed := by rw [hr]; exact List.mem_cons_self ..
   rw [mem_ready] at hx
   obtain ⟨h1, o, ho, _⟩ := hx
   have hxl : x < ops.length := by
    rw [List.getElem?_toArray] at ho
    exact (List.getElem?_eq_some_iff.1 ho).1
   have := hall x hxl
   have hlt : x < listed.size := by omega
   simp only [Array.getD, hlt, dif_pos] at h1 this
   rw [h1] at this; cases this
 | succ fuel ih =>
  intro listed m Mut w a hs hc hcl E H hT
  refine ⟨fun hr => done listed m Mut w a (fun i hi => allOf listed hs hr ops.length i hi hi) E H hT, fun j hj => ?_⟩
  rw [mem_ready] at hj
  obtain ⟨hj1, o, ho, hpre⟩ := hj
  rw [List.getElem?_toArray] at ho
  have hjl : j < ops.length := (List.getElem?_eq_some_iff.1 ho).1
  have hlt : j < listed.size := by omega
  have hDj : listed.getD j false = false := by simp only [Array.getD, hlt, dif_pos] at hj1 ⊢; exact hj1
  have hp : ∀ e ∈ preds o, listed.getD e false = true := by
   intro e he
   obtain ⟨ed, hed, heq⟩ := List.mem_filterMap.1 he
   split at heq
   · rename_i hb; cases heq; exact hpre ed (by simpa using hed) hb
   · cases heq
  have hD2 : ∀ i, (listed.setIfInBounds j true).getD i false = (if i = j then true else listed.getD i false) := by
   intro i
   rw [Array.getD_eq_getD_getElem?, Array.getElem?_setIfInBounds]
   by_cases e : j = i
   · subst e; simp [hlt]
   · rw [if_neg e, if_neg (Ne.symm e), Array.getD_eq_getD_getElem?]
  have hcl2 : Closed ops (fun i => (listed.setIfInBounds j true).getD i false = true) := by
   intro i oi hi hDi e he
   rw [hD2] at hDi ⊢
   by_cases eij : i = j
   · subst eij
     rw [ho] at hi; cases hi
     split
     · rfl
     · exact hp e he
   · rw [if_neg eij] at hDi
     split
     · rfl
     · exact hcl i oi hi hDi e he
  have hcount : (List.range ops.length).countP (fun i => !(listed.setIfInBounds j true).getD i false) ≤ fuel := by
   have := countP_lt (p := fun i => !listed.getD i false) (q := fun i => !(listed.setIfInBounds j true).getD i false) (List.range ops.length)
    (fun x _ hx => by
     simp only [hD2, Bool.not_eq_true'] at hx ⊢
     split at hx
     · cases hx
     · exact hx)
    ⟨j, List.mem_range.2 hjl, by simp [hDj], by simp [hD2]⟩
   omega
  -- the temporaries behind j
  have hnew : ∀ (x : AV), x = v j → upTo ops v (fun i => (listed.setIfInBounds j true).getD i false) T (List.range ops.length) = aput (upTo ops v (fun i => listed.getD i false) T (List.range ops.length)) o.dst x := by
   intro x hx
   subst hx
   have hsplit : List.range ops.length = List.range' 0 j ++ (j :: List.range' (j + 1) (ops.length - (j + 1))) := by
    rw [List.range_eq_range', ← List.range'_succ, show ops.length - (j + 1) + 1 = ops.length - j by omega]
    have h9 := List.range'_append_1 (s := 0) (m := j) (n := ops.length - j)
    rw [Nat.zero_add] at h9
    rw [h9, show j + (ops.length - j) = ops.length by omega]
   apply List.ext_getElem?
   intro t
   have same : ∀ l x, (∀ i ∈ l, i ≠ j) → lastW ops v (fun i => (listed.setIfInBounds j true).getD i false) t l x = lastW ops v (fun i => listed.getD i false) t l x := fun l x hl =>
    lastW_congr l x fun i hi _ => by rw [hD2, if_neg (hl i hi)]
   have hL : (upTo ops v (fun i => (listed.setIfInBounds j true).getD i false) T (List.range ops.length))[t]? =
    lastW ops v (fun i => listed.getD i false) t (List.range' (j + 1) (ops.length - (j + 1))) (if o.dst = some t then (lastW ops v (fun i => listed.getD i false) t (List.range' 0 j) T[t]?).map fun _ => v j else lastW ops v (fun i => listed.getD i false) t (List.range' 0 j) T[t]?) := by
    rw [upTo_get, hsplit, lastW_append, same (List.range' 0 j) _ fun i hi => by have := (List.mem_range'_1.1 hi).2; omega]
    show lastW ops v (fun i => (listed.setIfInBounds j true).getD i false) t (List.range' (j + 1) (ops.length - (j + 1))) (if (listed.setIfInBounds j true).getD j false = true ∧ (ops[j]?).bind (·.dst) = some t then (lastW ops v (fun i => listed.getD i false) t (List.range' 0 j) T[t]?).map fun _ => v j else lastW ops v (fun i => listed.getD i false) t (List.range' 0 j) T[t]?) = _
    rw [ho, show (listed.setIfInBounds j true).getD j false = true by rw [hD2, if_pos rfl]]
    simp only [Option.bind_some, true_and]
    exact same _ _ fun i hi => by have := (List.mem_range'_1.1 hi).1; omega
   have hR : (upTo ops v (fun i => listed.getD i false) T (List.range ops.length))[t]? =
    lastW ops v (fun i => listed.getD i false) t (List.range' (j + 1) (ops.length - (j + 1))) (lastW ops v (fun i => listed.getD i false) t (List.range' 0 j) T[t]?) := by
    rw [upTo_get, hsplit, lastW_append]
    show lastW ops v (fun i => listed.getD i false) t (List.range' (j + 1) (ops.length - (j + 1))) (if listed.getD j false = true ∧ (ops[j]?).bind (·.dst) = some t then (lastW ops v (fun i => listed.getD i false) t (List.range' 0 j) T[t]?).map fun _ => v j else lastW ops v (fun i => listed.getD i false) t (List.range' 0 j) T[t]?) = _
    rw [hDj]
    simp
   rw [hL]
   cases hd : o.dst with
   | none => rw [if_neg (by simp)]; exact hR.symm
   | some d =>
    by_cases e : d = t
    · subst e
      rw [if_pos rfl]
      have hno := (reads_same (v := v) (T := T) hok hcl ho hDj hp (.inr hd)).1
      rw [lastW_none (List.range' (j + 1) _) _ fun i hi hdi => hno i (by have := (List.mem_range'_1.1 hi).1; omega) hdi] at hR ⊢
      simp only [aput, List.getElem?_set, if_true]
      rw [← hR]
      rcases Nat.lt_or_ge d (upTo ops v (fun i => listed.getD i false) T (List.range ops.length)).length with q | q
      · rw [if_pos q, List.getElem?_eq_getElem q]; rfl
      · rw [if_neg (by omega), List.getElem?_eq_none q]; rfl
    · rw [if_neg (by simpa using e)]
      simp only [aput, List.getElem?_set, if_neg e]
      exact hR.symm
  have reads : ∀ t, t ∈ looks ops o → (upTo ops v (fun i => listed.getD i false) T (List.range ops.length))[t]? = (upTo ops v (fun _ => true) T (List.range' 0 j))[t]? := fun t ht =>
   (reads_same (v := v) (T := T) hok hcl ho hDj hp (.inl ht)).2 ht
  have evals : ∀ x ∈ o.op.operands, aeval (upTo ops v (fun i => listed.getD i false) T (List.range ops.length)) x = aeval (upTo ops v (fun _ => true) T (List.range' 0 j)) x := by
   intro x hx
   cases x with
   | tmp t => simp only [aeval, List.getD_eq_getElem?_getD, reads t (operand_look hx)]
   | _ => rfl
  have guards : ∀ g want, o.guard = some (g, want) → guardVal ops (upTo ops v (fun i => listed.getD i false) T (List.range ops.length)) g = guardVal ops (upTo ops v (fun _ => true) T (List.range' 0 j)) g := by
   intro g want hg
   unfold guardVal
   cases hd : (ops[g]?).bind (·.dst) with
   | none => rfl
   | some t =>
    have : t ∈ looks ops o := by
     unfold looks guardTmp
     rw [hg]
     simp [hd]
    simp only [List.getD_eq_getElem?_getD, reads t this]
  have step : (∃ ds cs ds', opResQ P o (upTo ops v (fun _ => true) T (List.range' 0 j)) h ds = some (cs, v j, ds') ∧ ∀ c ∈ cs, c) →
   o.wp P a w (wpAny P .any ops.toArray (APost Q m0 Mut0 w0) fuel (listed.setIfInBounds j true)) (APost Q m0 Mut0 w0) := by
   rintro ⟨ds, cs, ds', hres, hcs⟩
   rw [← opResQ_congr evals] at hres
   refine opResQ_sound hres hcs m Mut w a _ _ H hT fun m' Mut' w' x E' H' hx => ?_
   exact ih _ m' Mut' w' _ (by simp [hs]) hcount hcl2 (E.trans E') H' (by rw [hnew _ rfl]; exact (hT.ext E').put o.dst hx)
  have skip : v j = .undef → wpAny P .any ops.toArray (APost Q m0 Mut0 w0) fuel (listed.setIfInBounds j true) (a.put o.dst Go.undef) w := fun hv =>
   ih _ m Mut w _ (by simp [hs]) hcount hcl2 E H (by rw [hnew _ rfl, hv]; exact hT.put o.dst .undef)
  unfold wpOp
  simp only [List.getElem?_toArray, ho]
  rcases hf j o ho with ⟨hg, hres⟩ | ⟨g, want, q, hg, hgv, hres⟩ | ⟨g, want, hg, hgv, hv⟩
  · rw [if_pos (by simp [Region.wanted, hg])]
    exact .inl (step hres)
  · have hy := guard_bool hT ((guards g want hg).trans hgv)
    rcases hres with ⟨rfl, hres⟩ | ⟨hne, hv⟩
    · rw [if_pos (by simp [Region.wanted, hg, hy])]
      exact .inl (step hres)
    · rw [if_neg (by simp [Region.wanted, hg, hy, hne])]
      exact skip hv
  · have hy := guard_undef hT ((guards g want hg).trans hgv)
    rw [if_neg (by simp [Region.wanted, hg, hy])]
    exact skip hv
theorem WPC.regionDraw {id : Nat} {ops : Array Oper} {h : AHeap} {T : List AV} {Q : Exit → List AV → AHeap → Prop} {ds : List Dec} {K : List AV → List Dec → Prop} (hmix : P.follows .mixedOrders = true) (hok : drawOk ops.toList = true)
 (hr : runOpsQ P ops.toList h ops.toList T ds K) (hk : ∀ T ds, K T ds → Q .normal T h) : WPC P (.region id ops true) T h Q := by
 intro m0 Mut0 w0 m Mut w a E H hT
 obtain ⟨v, ds', hK, hf⟩ := runOpsQ_facts ops.toList 0 T ds rfl hr
 refine wp_region_any hmix ?_
 have e0 : upTo ops.toList v (fun i => (Array.replicate ops.size false).getD i false) T (List.range ops.toList.length) = T := by
  apply List.ext_getElem?
  intro t
  rw [upTo_get, lastW_none]
  intro i hi _
  have := List.mem_range.1 hi
  simp only [Array.length_toList] at this
  simp [Array.getD, this]
 have E' : Ext m0 Mut0 w0 m Mut { w with drawn := w.drawn + 1 } := E.trans (.drew m Mut w _)
 refine draw_sound (Q := Q) (v := v) (T := T) (ops := ops.toList) hok (fun j o ho => ?_) ?_ ops.size _ m Mut _ a (by simp) ?_ ?_ E' (H.drew _) ?_
 · simpa using hf j o (Nat.zero_le _) ho
 · rw [List.range_eq_range']
   exact hk _ _ (by simpa using hK)
 · exact Nat.le_trans (List.countP_le_length) (by simp)
 · intro j o ho hj
   rw [Array.getD_eq_getD_getElem?, Array.getElem?_replicate] at hj
   split at hj <;> cases hj
 · rw [e0]
   exact hT.ext (.drew m Mut w _)
end
end Go.Proofs.Ytjdbmmilcihpoaa
namespace Go.Proofs.Ytjdbmmilcihpoaa
set_option linter.unusedVariables false
set_option linter.unusedSimpArgs false
/-- No abstract object from number lo on is named. -/
inductive Low (lo : Nat) : AV → Prop
 | any : Low lo .any
 | undef : Low lo .undef
 | int (k n) : Low lo (.int k n)
 | bool (b) : Low lo (.bool b)
 | str (s) : Low lo (.str s)
 | snil : Low lo .snil
 | nils : Low lo .nils
 | sne : Low lo .sne
 | nilp : Low lo .nilp
 | nilf : Low lo .nilf
 | nilm : Low lo .nilm
 | agg (cs : List AV) (h : ∀ c, c ∈ cs → Low lo c) : Low lo (.agg cs)
 | tup (cs : List AV) (h : ∀ c, c ∈ cs → Low lo c) : Low lo (.tup cs)
 | sl (sz n : Nat) (f : Nat → AV) (h : ∀ i, i < n → Low lo (f i)) : Low lo (.sl sz n f)
 | pp (cs : List AV) (h : ∀ c, c ∈ cs → Low lo c) : Low lo (.pp cs)
 | ptr (id n sz i off : Nat) (h : id < lo) : Low lo (.ptr id n sz i off)
 | ms (id n sz off len : Nat) (h : id < lo) : Low lo (.ms id n sz off len)
 | mp (id : Nat) (h : id < lo) : Low lo (.mp id)
 | fn (g : FuncId) (cs : List AV) (h : ∀ c, c ∈ cs → Low lo c) : Low lo (.fn g cs)
def AObj.Low (lo : Nat) : AObj → Prop
 | .var v => Go.Proofs.Ytjdbmmilcihpoaa.Low lo v
 | .row _ _ c => ∀ i, i < c.len → Go.Proofs.Ytjdbmmilcihpoaa.Low lo (c.get i)
 | .frow _ _ len f => ∀ i, i < len → Go.Proofs.Ytjdbmmilcihpoaa.Low lo (f i)
 | .map _ => True
 | .iter _ _ => True
 | .dead => True
section
variable {m : IdMap} {Mut : Mu} {w : World} {P : Program} {h : AHeap}
theorem Low.cells {lo : Nat} {a : AV} (h : Low lo a) : ∀ c ∈ a.cells, Low lo c := by
 intro c hc
 cases h <;> simp only [AV.cells, List.mem_singleton] at hc <;> first | (subst hc; constructor <;> assumption) | (rename_i hh; exact hh c hc)
theorem low_of_cells {lo : Nat} {a : AV} (h : ∀ c ∈ a.cells, Low lo c) : Low lo a := by
 cases a <;> first | exact h _ (List.mem_singleton.2 rfl) | exact .agg _ h
theorem low_of_rel {lo : Nat} (hd : ∀ id n x, m id n = some x → id < lo) {v : AV} {x : Value} (hr : RelV m Mut w v x) : Low lo v := by
 induction hr with
 | any v => exact .any
 | undef => exact .undef
 | int k n => exact .int k n
 | bool b => exact .bool b
 | str s => exact .str s
 | agg cs vs hl h ih =>
  refine .agg _ fun c hc => ?_
  obtain ⟨i, hi⟩ := List.getElem?_of_mem hc
  have hlt : i < vs.size := by rw [← hl]; exact (List.getElem?_eq_some_iff.1 hi).1
  exact ih i c vs[i] hi (Array.getElem?_eq_getElem hlt)
 | tup cs vs hl h ih =>
  refine .tup _ fun c hc => ?_
  obtain ⟨i, hi⟩ := List.getElem?_of_mem hc
  have hlt : i < vs.size := by rw [← hl]; exact (List.getElem?_eq_some_iff.1 hi).1
  exact ih i c vs[i] hi (Array.getElem?_eq_getElem hlt)
 | sl sz n f b o cap val hn hc hbs hmu hsz hv hr ih =>
  refine .sl _ _ _ fun i hi => low_of_cells fun c hc => ?_
  obtain ⟨j, hj⟩ := List.getElem?_of_mem hc
  exact ih i j c hi hj
 | sl0 sz f a cap => exact .sl _ _ _ fun i hi => absurd hi (Nat.not_lt_zero _)
 | snil a => exact .snil
 | nils cap => exact .nils
 | sne a cap => exact .sne
 | pp cs b o val hbs hmu hv hr ih =>
  refine .pp _ fun c hc => ?_
  obtain ⟨j, hj⟩ := List.getElem?_of_mem hc
  exact ih j c hj
 | ptr id n sz i off b o C h => exact .ptr _ _ _ _ _ (hd _ _ _ h)
 | ms id n sz off len b o C h hc => exact .ms _ _ _ _ _ (hd _ _ _ h)
 | ms0 id n sz off b o C a h => exact .ms _ _ _ _ _ (hd _ _ _ h)
 | mp id b o C h => exact .mp _ (hd _ _ _ h)
 | fn g cs vs hl h ih =>
  refine .fn _ _ fun c hc => ?_
  obtain ⟨i, hi⟩ := List.getElem?_of_mem hc
  have hlt : i < vs.size := by rw [← hl]; exact (List.getElem?_eq_some_iff.1 hi).1
  exact ih i c vs[i] hi (Array.getElem?_eq_getElem hlt)
 | nilp => exact .nilp
 | nilf => exact .nilf
 | nilm => exact .nilm
theorem lowO_of_rel {lo : Nat} (hd : ∀ id n x, m id n = some x → id < lo) {id : Nat} {o : AObj} (hr : RelO m Mut w id o) : o.Low lo := by
 cases o with
 | var v =>
  obtain ⟨b, c, t, h1, h2, h3, h4⟩ := hr
  refine low_of_cells fun a ha => ?_
  obtain ⟨j, hj⟩ := List.getElem?_of_mem ha
  obtain ⟨x, hx, hrx⟩ := h4.get hj
  exact low_of_rel hd hrx
 | row sz n col =>
  intro i hi
  obtain ⟨b, o, C, c, t, h1, h2, h3, h4, h5, h6, h7⟩ := hr.rowIn hi
  refine low_of_cells fun a ha => ?_
  obtain ⟨j, hj⟩ := List.getElem?_of_mem ha
  obtain ⟨x, hx, hrx⟩ := h7 i j a hi hj
  exact low_of_rel hd hrx
 | frow sz n len f =>
  intro i hi
  obtain ⟨b, o, C, c, t, h1, h2, h3, h4, h5, h6, h7⟩ := hr.frowIn hi
  refine low_of_cells fun a ha => ?_
  obtain ⟨j, hj⟩ := List.getElem?_of_mem ha
  obtain ⟨x, hx, hrx⟩ := h7 i j a hi hj
  exact low_of_rel hd hrx
 | map c => trivial
 | iter s pos => trivial
 | dead => trivial
def cutM (m : IdMap) (lo : Nat) : IdMap := fun id n => if id < lo then m id n else none
theorem cut_rel {lo : Nat} {Mut' : Mu} (hM : ∀ b, Mut'.im b → Mut.im b) {v : AV} {x : Value} (hr : RelV m Mut w v x) : Low lo v → RelV (cutM m lo) Mut' w v x := by
 have hc : ∀ id n y, id < lo → m id n = some y → cutM m lo id n = some y := fun id n y hi h => by unfold cutM; rw [if_pos hi]; exact h
 induction hr with
 | any v => exact fun _ => .any v
 | undef => exact fun _ => .undef
 | int k n => exact fun _ => .int k n
 | bool b => exact fun _ => .bool b
 | str s => exact fun _ => .str s
 | agg cs vs hl h ih =>
  intro hL; cases hL with
  | agg _ hL => exact .agg cs vs hl fun i a v ha hv => ih i a v ha hv (hL a (List.mem_of_getElem? ha))
 | tup cs vs hl h ih =>
  intro hL; cases hL with
  | tup _ hL => exact .tup cs vs hl fun i a v ha hv => ih i a v ha hv (hL a (List.mem_of_getElem? ha))
 | sl sz n f b o cap val hn hcap hbs hmu hsz hv hr ih =>
  intro hL; cases hL with
  | sl _ _ _ hL => exact .sl sz n f b o cap val hn hcap hbs (fun hh => hmu (hM b hh)) hsz hv fun i j a hi ha => ih i j a hi ha ((hL i hi).cells a (List.mem_of_getElem? ha))
 | sl0 sz f a cap => exact fun _ => .sl0 sz f a cap
 | snil a => exact fun _ => .snil a
 | nils cap => exact fun _ => .nils cap
 | sne a cap => exact fun _ => .sne a cap
 | pp cs b o val hbs hmu hv hr ih =>
  intro hL; cases hL with
  | pp _ hL => exact .pp cs b o val hbs (fun hh => hmu (hM b hh)) hv fun j a ha => ih j a ha (hL a (List.mem_of_getElem? ha))
 | ptr id n sz i off b o C h => intro hL; cases hL with | ptr _ _ _ _ _ hL => exact .ptr id n sz i off b o C (hc _ _ _ hL h)
 | ms id n sz off len b o C h hcap => intro hL; cases hL with | ms _ _ _ _ _ hL => exact .ms id n sz off len b o C (hc _ _ _ hL h) hcap
 | ms0 id n sz off b o C a h => intro hL; cases hL with | ms _ _ _ _ _ hL => exact .ms0 id n sz off b o C a (hc _ _ _ hL h)
 | mp id b o C h => intro hL; cases hL with | mp _ hL => exact .mp id b o C (hc _ _ _ hL h)
 | fn g cs vs hl h ih =>
  intro hL; cases hL with
  | fn _ _ hL => exact .fn g cs vs hl fun i a v ha hv => ih i a v ha hv (hL a (List.mem_of_getElem? ha))
 | nilp => exact fun _ => .nilp
 | nilf => exact fun _ => .nilf
 | nilm => exact fun _ => .nilm
/-- What a function made, read aas plain data. -/
inductive Pur (h1 : AHeap) (lo : Nat) : AV → AV → Prop
 | low (v : AV) (h : Low lo v) : Pur h1 lo v v
 | any (v : AV) : Pur h1 lo v .any
 | snil (sz : Nat) (f : Nat → AV) : Pur h1 lo .snil (.sl sz 0 f)
 | row (id n sz off len k : Nat) (c : Col) (f : Nat → AV) (g : Nat → Nat → AV) (hid : lo ≤ id) (ho : h1[id]? = some (.row sz k c)) (hn : n = k) (hl : off + len ≤ c.len)
  (hs : ∀ i, i < len → (f i).cells.length = sz) (hg : ∀ i j, i < len → j < sz → (c.get (off + i)).cells[j]? = some (g i j))
  (hr : ∀ i j a, i < len → (f i).cells[j]? = some a → Pur h1 lo (g i j) a) : Pur h1 lo (.ms id n sz off len) (.sl sz len f)
 | agg (cs ds : List AV) (hl : cs.length = ds.length) (h : ∀ (i : Nat) a b, cs[i]? = some a → ds[i]? = some b → Pur h1 lo a b) : Pur h1 lo (.agg cs) (.agg ds)
 | tup (cs ds : List AV) (hl : cs.length = ds.length) (h : ∀ (i : Nat) a b, cs[i]? = some a → ds[i]? = some b → Pur h1 lo a b) : Pur h1 lo (.tup cs) (.tup ds)
theorem pur_rel {h1 : AHeap} {lo : Nat} {Mut' : Mu} (H : RelH m Mut h1 w) (hM : ∀ b, Mut'.im b → Mut.im b) (hN : ∀ id o b C, lo ≤ id → h1[id]? = some o → o.live = true → m id o.ver = some (b, C) → ¬ Mut'.im b)
 {v r : AV} (hp : Pur h1 lo v r) : ∀ {x : Value}, RelV m Mut w v x → RelV (cutM m lo) Mut' w r x := by
 induction hp with
 | low v h => exact fun hr => cut_rel hM hr h
 | any v => exact fun {x} _ => .any x
 | snil sz f => intro x hr; cases hr with | snil a => exact .sl0 _ _ _ _
 | row id n sz off len k c f g hid ho hn hl hs hg hr ih =>
  subst hn
  intro x hx
  rcases Nat.eq_zero_or_pos len with q0 | q0
  · subst q0
    cases hx with
    | ms _ _ _ _ _ b' o' C' hm hcap => exact .sl0 _ _ _ _
    | ms0 _ _ _ _ b' o' C' a hm => exact .sl0 _ _ _ _
  have hO := H.obj id _ ho
  have hlive : (AObj.row sz n c).live = true := by
   rcases hO with ⟨_, q, _⟩ | ⟨q, _⟩
   · omega
   · exact decide_eq_true q
  obtain ⟨b, o, C, cc, t, h1, h2, h3, h4, h5, h6, h7⟩ := hO.rowIn (i := off) (by omega)
  cases hx with
  | ms _ _ _ _ _ b' o' C' hm hcap =>
   rw [h1] at hm; cases hm
   rcases Nat.eq_zero_or_pos len with q | q
   · subst q; exact .sl0 _ _ _ _
   · have hval : ∀ i j, i < len → j < sz → ∃ u, cc[o + (off + i) * sz + j]? = some u ∧ RelV m Mut w (g i j) u := fun i j hi hj => h7 (off + i) j (g i j) (by omega) (hg i j hi hj)
     refine .sl sz len f b _ _ (fun i j => cc.getD (o + (off + i) * sz + j) default) q (by omega) (H.wr b h2) (hN id _ b _ hid ho hlive h1) hs (fun i j hi hj => ?_) (fun i j a hi ha => ?_)
     · obtain ⟨u, hu, _⟩ := hval i j hi hj
       rw [cell?_at h3, Array.getD_eq_getD_getElem?, hu, show o + off * sz + i * sz + j = o + (off + i) * sz + j by rw [Nat.add_mul]; omega, hu]
       rfl
     · have hj : j < sz := by
        rcases Nat.lt_or_ge j sz with z | z
        · exact z
        · rw [List.getElem?_eq_none (by rw [hs i hi]; exact z)] at ha; cases ha
       obtain ⟨u, hu, hru⟩ := hval i j hi hj
       have : cc.getD (o + (off + i) * sz + j) default = u := by rw [Array.getD_eq_getD_getElem?, hu]; rfl
       rw [this]
       exact ih i j a hi ha hru
  | ms0 _ _ _ _ b' o' C' a hm => exact .sl0 _ _ _ _
 | agg cs ds hl h ih =>
  intro x hx
  cases hx with
  | agg _ vs hl2 h2 =>
   refine .agg _ _ (by rw [← hl]; exact hl2) fun i a u ha hu => ?_
   have hlt : i < cs.length := by rw [hl]; exact (List.getElem?_eq_some_iff.1 ha).1
   exact ih i cs[i] a (List.getElem?_eq_getElem hlt) ha (h2 i cs[i] u (List.getElem?_eq_getElem hlt) hu)
 | tup cs ds hl h ih =>
  intro x hx
  cases hx with
  | tup _ vs hl2 h2 =>
   refine .tup _ _ (by rw [← hl]; exact hl2) fun i a u ha hu => ?_
   have hlt : i < cs.length := by rw [hl]; exact (List.getElem?_eq_some_iff.1 ha).1
   exact ih i cs[i] a (List.getElem?_eq_getElem hlt) ha (h2 i cs[i] u (List.getElem?_eq_getElem hlt) hu)
/-- How a function is left: from the heap h that it began with, at the heap h1, with the value v, which the caller has aas r over h'. -/
inductive ExitTo (h h1 : AHeap) (v r : AV) (h' : AHeap) : Prop
 | keep (hv : v = r) (hh : h1 = h')
 | pop (hp : Pur h1 h.length v r) (ht : h1.take h.length = h') (hl : h'.length = h.length) (hlow : ∀ (id : Nat) o, h'[id]? = some o → h[id]? = some o ∨ o.Low h.length)
theorem exit_sound {h h1 h' : AHeap} {v r : AV} {x : Value} {m0 : IdMap} {Mut0 : Mu} {w0 : World} (he : ExitTo h h1 v r h') (H0 : RelH m0 Mut0 h w0) (E : Ext m0 Mut0 w0 m Mut w) (H : RelH m Mut h1 w) (hr : RelV m Mut w v x) :
 ∃ m' Mut', Ext m0 Mut0 w0 m' Mut' w ∧ RelH m' Mut' h' w ∧ RelV m' Mut' w r x := by
 cases he with
 | keep hv hh => subst hv; subst hh; exact ⟨m, Mut, E, H, hr⟩
 | pop hp ht hl hlow =>
  have hget : ∀ (id : Nat) o, h'[id]? = some o → id < h.length ∧ h1[id]? = some o := by
   intro id o ho
   have hlt : id < h.length := by rw [← hl]; exact (List.getElem?_eq_some_iff.1 ho).1
   rw [← ht, List.getElem?_take_of_lt hlt] at ho
   exact ⟨hlt, ho⟩
  let own : Nat → Prop := fun b => ∃ id o C, h'[id]? = some o ∧ o.live = true ∧ m id o.ver = some (b, C)
  let Mut' : Mu := ⟨fun b => Mut.im b ∧ (own b ∨ (Mut0.im b ∧ ¬ Mut0.wr b)), fun b => Mut.wr b ∧ own b, fun b hb => ⟨Mut.le b hb.1, .inl hb.2⟩⟩
  have hM : ∀ b, Mut'.im b → Mut.im b := fun b hb => hb.1
  have hN : ∀ id o b C, h.length ≤ id → h1[id]? = some o → o.live = true → m id o.ver = some (b, C) → ¬ Mut'.im b := by
   rintro id o b C hid ho hlo hm ⟨_, ⟨id', o', C', ho', hlo', hm'⟩ | ⟨hi0, hw0⟩⟩
   · have := H.inj id id' o o' b C C' ho (hget id' o' ho').2 hlo hlo' hm hm'
     have := (hget id' o' ho').1
     omega
   · exact E.nwr b (H0.lt b hi0) hw0 ((H.obj id o ho).wr hlo b C hm)
  have hcut : ∀ id n y, id < h.length → m id n = some y → cutM m h.length id n = some y := fun id n y hi h => by unfold cutM; rw [if_pos hi]; exact h
  have hback : ∀ id n y, cutM m h.length id n = some y → id < h.length ∧ m id n = some y := by
   intro id n y hy
   unfold cutM at hy
   split at hy
   · exact ⟨by assumption, hy⟩
   · cases hy
  refine ⟨cutM m h.length, Mut', ⟨E.os, E.tape, E.output, E.drawn, E.size, E.block, fun b hb hn hM' => E.nmut b hb hn hM'.1, fun b hb hn hM' => E.nwr b hb hn hM'.1, fun b hb hi hw => ⟨E.keep b hb hi hw, .inr ⟨hi, hw⟩⟩, fun id n y hy => hcut id n y (H0.dom id n y hy) (E.ids id n y hy)⟩, ?_, pur_rel H hM hN hp hr⟩
  constructor
  · intro id o ho
    obtain ⟨hlt, ho1⟩ := hget id o ho
    have hL : o.Low h.length := by
     rcases hlow id o ho with q | q
     · exact lowO_of_rel H0.dom (H0.obj id o q)
     · exact q
    have hO := H.obj id o ho1
    have hmut : ∀ b C, o.live = true → m id o.ver = some (b, C) → Mut'.wr b := fun b C hlo hm => ⟨hO.wr hlo b C hm, id, o, C, ho, hlo, hm⟩
    cases o with
    | var v =>
     obtain ⟨b, c, t, p1, p2, p3, p4⟩ := hO
     refine ⟨b, c, t, hcut _ _ _ hlt p1, hmut b _ rfl p1, p3, p4.1, fun i a u ha hu => cut_rel hM (p4.2 i a u ha hu) (Low.cells hL a (List.mem_of_getElem? ha))⟩
    | row sz n col =>
     rcases hO with ⟨q1, q2, x, q3⟩ | ⟨q, b, o, C, c, t, p1, p2, p3, p4, p5, p6, p7⟩
     · exact .inl ⟨q1, q2, x, hcut _ _ _ hlt q3⟩
     exact .inr ⟨q, b, o, C, c, t, hcut _ _ _ hlt p1, hmut b _ (decide_eq_true q) p1, p3, p4, p5, p6, fun i j a hi ha => by
      obtain ⟨u, hu, hru⟩ := p7 i j a hi ha
      exact ⟨u, hu, cut_rel hM hru (Low.cells (hL i hi) a (List.mem_of_getElem? ha))⟩⟩
    | frow sz n len f =>
     rcases hO with ⟨q2, x, q3⟩ | ⟨b, o, C, c, t, p1, p2, p3, p4, p5, p6, p7⟩
     · exact .inl ⟨q2, x, hcut _ _ _ hlt q3⟩
     exact .inr ⟨b, o, C, c, t, hcut _ _ _ hlt p1, p2, fun hh => p3 (hM b hh), p4, p5, p6, fun i j a hi ha => by
      obtain ⟨u, hu, hru⟩ := p7 i j a hi ha
      exact ⟨u, hu, cut_rel hM hru (Low.cells (hL i hi) a (List.mem_of_getElem? ha))⟩⟩
    | map c =>
     obtain ⟨b, ents, clock, p1, p2, p3, p4⟩ := hO
     exact ⟨b, ents, clock, hcut _ _ _ hlt p1, hmut b _ rfl p1, p3, p4⟩
    | iter s pos =>
     obtain ⟨b, p1, p2, p3⟩ := hO
     exact ⟨b, hcut _ _ _ hlt p1, hmut b _ rfl p1, p3⟩
    | dead => trivial
  · intro id id' o o' b C C' ho ho' hlo hlo' hm hm'
    exact H.inj id id' o o' b C C' (hget id o ho).2 (hget id' o' ho').2 hlo hlo' (hback _ _ _ hm).2 (hback _ _ _ hm').2
  · intro id n y hy
    rw [hl]; exact (hback _ _ _ hy).1
  · intro b hb; exact H.lt b hb.1
  · intro id o n y ho hlo hy
    exact H.top id o n y (hget id o ho).2 hlo (hback _ _ _ hy).2
end
end Go.Proofs.Ytjdbmmilcihpoaa
namespace Go.Proofs.Ytjdbmmilcihpoaa
def pureFns : List Nat := []
/-- Functions whose calls count as what turns the heap. -/
def effCalls : List Nat := []
end Go.Proofs.Ytjdbmmilcihpoaa
namespace Go.Proofs.Ytjdbmmilcihpoaa
set_option linter.unusedVariables false
set_option linter.unusedSimpArgs false
/-- Operations that may turn the abstract heap. -/
def isEff (o : Oper) : Bool :=
 match o.op with
 | .alloc _ => true
 | .box _ _ => true
 | .store _ _ _ => true
 | .makeSlice _ _ _ => true
 | .range _ _ => true
 | .next _ _ => true
 | .makeMap _ _ => true
 | .mapUpdate _ _ _ _ => true
 | .call c => (match c.callee with | .builtin .append => true | .value (.func g) => effCalls.any (Nat.beq g) | _ => false)
 | _ => false
/-- Operations that only make a new variable. -/
def isLight (o : Oper) : Bool :=
 match o.op with
 | .alloc _ => true
 | .box _ _ => true
 | _ => false
def isCallV (o : Oper) : Bool :=
 match o.op with
 | .call c => (match c.callee with | .value _ => true | _ => false)
 | _ => false
/-- Calls of functions that neither read nor turn an object of their caller (`pureFns`). -/
def isPure (o : Oper) : Bool :=
 match o.op with
 | .call c => (match c.callee with | .value (.func g) => pureFns.any (Nat.beq g) | _ => false)
 | _ => false
def isCallF (o : Oper) : Bool := isCallV o && !isPure o
/-- Operations that may read the abstract heap. -/
def isReader (o : Oper) : Bool :=
 match o.op with
 | .load _ _ => true
 | .lookup _ _ _ _ => true
 | .call _ => true
 | _ => false
def isBar (o : Oper) : Bool := isCallF o || (isEff o && !isLight o)
def mustOrd (b o : Oper) : Bool := isBar o || isLight o || (isEff b && isReader o)
def isStore (o : Oper) : Bool :=
 match o.op with
 | .store _ _ _ => true
 | _ => false
def isLoad (o : Oper) : Bool :=
 match o.op with
 | .load _ _ => true
 | _ => false
def isApp (o : Oper) : Bool :=
 match o.op with
 | .call c => (match c.callee with | .builtin .append => true | _ => false)
 | _ => false
/-- Operations that turn one object, which their operands name. -/
def isTouch (o : Oper) : Bool := isStore o || isApp o
/-- Two places stand in order. -/
def inOrd (ops : List Oper) (k j : Nat) : Bool := if j < k then ((befs ops).getD k 0).testBit j else if k < j then ((befs ops).getD j 0).testBit k else true
/-- The same, but a store or an append and a load may come in either order. -/
def drawEff2 (ops : List Oper) : Bool :=
 (List.range ops.length).all fun k =>
  match ops[k]? with
  | some ok => !isBar ok || (List.range ops.length).all fun j =>
   match ops[j]? with
   | some oj => !mustOrd ok oj || inOrd ops k j || (isTouch ok && isLoad oj)
   | none => true
  | none => true
/-- Calls and operations that turn the heap stand in order with one another and with what makes a variable; the latter of them also with what reads the heap. -/
def drawEff (ops : List Oper) : Bool :=
 (List.range ops.length).all fun k =>
  match ops[k]? with
  | some ok => !isBar ok || (List.range ops.length).all fun j =>
   match ops[j]? with
   | some oj => !mustOrd ok oj || (if j < k then ((befs ops).getD k 0).testBit j else if k < j then ((befs ops).getD j 0).testBit k else true)
   | none => true
  | none => true
def addrOf (o : Oper) : Operand :=
 match o.op with
 | .store _ a _ => a
 | .load _ a => a
 | .call c => c.args.toList.headD (.const Go.undef)
 | _ => .const Go.undef
def AV.at : AV → Option Nat
 | .ptr id _ _ _ _ => some id
 | .mp id => some id
 | _ => none
/-- The object that is turned. -/
def AV.turned : AV → Option Nat
 | .ptr id _ _ _ _ => some id
 | .mp id => some id
 | .ms id _ _ _ _ => some id
 | _ => none
/-- A temporary that nothing from place k on writes. -/
def stays (ops : List Oper) (k : Nat) (x : Operand) : Bool :=
 match x with
 | .tmp t => (ops.drop k).all fun o => match o.dst with | some d => !Nat.beq d t | none => true
 | _ => true
/-- Stores and loads in no order are of different objects. -/
def apartOk (ops : List Oper) (T : List AV) : Bool :=
 (List.range ops.length).all fun k =>
  match ops[k]? with
  | some ok => !isTouch ok || (List.range ops.length).all fun j =>
   match ops[j]? with
   | some oj => !isLoad oj || inOrd ops k j || (stays ops k (addrOf ok) && stays ops j (addrOf oj) && (match (aeval T (addrOf oj)).at with
    | none => true
    | some i => (match (aeval T (addrOf ok)).turned with | some i' => !Nat.beq i i' | none => true)))
   | none => true
  | none => true
section
variable {P : Program}
def pureCall (o : Oper) (T : List AV) : Option (FuncId × List AV) :=
 match o.op with
 | .call c => (match c.callee with | .value (.func g) => some (g, c.args.toList.map (aeval T)) | _ => none)
 | _ => none
/-- A call that needs nothing of its caller's objects. -/
structure PRet (P : Program) (g : FuncId) (args : List AV) (r : AV) : Prop where
 ret : Ret P g args [] r []
 low : ∀ a ∈ args, Low 0 a
def pureC (P : Program) (o : Oper) (T : List AV) (v : AV) (K : Prop) : Prop :=
 match isPure o with
 | true => (match pureCall o T with
  | some (g, args) => (match callable P g with | true => PRet P g args v ∧ K | false => False)
  | none => False)
 | false => K
def PureOk (P : Program) (o : Oper) (T : List AV) (v : AV) : Prop :=
 isPure o = true → ∃ g args, pureCall o T = some (g, args) ∧ callable P g = true ∧ PRet P g args v
theorem pureC_ok {o : Oper} {T : List AV} {v : AV} {K : Prop} (h : pureC P o T v K) : PureOk P o T v ∧ K := by
 unfold pureC at h
 split at h
 · split at h
   · rename_i g args e
     split at h
     · rename_i hc
       exact ⟨fun _ => ⟨g, args, e, hc, h.1⟩, h.2⟩
     · exact h.elim
   · exact h.elim
 · rename_i e
   exact ⟨fun h => (by rw [e] at h; cases h), h⟩
def runOpsE (P : Program) (ops : List Oper) : List Oper → List AV → AHeap → List Dec → (List AV → AHeap → List Dec → Prop) → Prop
 | [], T, h, ds, K => K T h ds
 | o :: os, T, h, ds, K =>
  match o.guard with
  | none =>
   (match isEff o with
    | true =>
     match opRes P o T h ds with
     | some (cs, v, h', ds') => conjs cs (runOpsE P ops os (aput T o.dst v) h' ds' K)
     | none => False
    | false =>
     match opResQ P o T h ds with
     | some (cs, v, ds') => conjs cs (pureC P o T v (runOpsE P ops os (aput T o.dst v) h ds' K))
     | none => False)
  | some (j, want) =>
   match guardVal ops T j, ds with
   | .bool q, .b d :: ds1 =>
    q = d ∧ (match d == want with
     | true =>
      (match isEff o with
       | true =>
        match opRes P o T h ds1 with
        | some (cs, v, h', ds') => conjs cs (runOpsE P ops os (aput T o.dst v) h' ds' K)
        | none => False
       | false =>
        match opResQ P o T h ds1 with
        | some (cs, v, ds') => conjs cs (pureC P o T v (runOpsE P ops os (aput T o.dst v) h ds' K))
        | none => False)
     | false => runOpsE P ops os (aput T o.dst .undef) h ds1 K)
   | .undef, ds => runOpsE P ops os (aput T o.dst .undef) h ds K
   | _, _ => False
/-- One operation at its place. -/
def OpDone (P : Program) (o : Oper) (T : List AV) (h h' : AHeap) (v : AV) : Prop :=
 (isEff o = true ∧ ∃ ds cs ds', opRes P o T h ds = some (cs, v, h', ds') ∧ ∀ c ∈ cs, c) ∨
 (isEff o = false ∧ h' = h ∧ ∃ ds cs ds', opResQ P o T h ds = some (cs, v, ds') ∧ (∀ c ∈ cs, c) ∧ PureOk P o T v)
def OpFactE (P : Program) (ops : List Oper) (h h' : AHeap) (o : Oper) (T : List AV) (v : AV) : Prop :=
 (o.guard = none ∧ OpDone P o T h h' v) ∨
 (∃ j want q, o.guard = some (j, want) ∧ guardVal ops T j = .bool q ∧ ((q = want ∧ OpDone P o T h h' v) ∨ (q ≠ want ∧ v = .undef ∧ h' = h))) ∨
 (∃ j want, o.guard = some (j, want) ∧ guardVal ops T j = .undef ∧ v = .undef ∧ h' = h)
theorem OpFactE.quiet {ops : List Oper} {h h' : AHeap} {o : Oper} {T : List AV} {v : AV} (hf : OpFactE P ops h h' o T v) (hq : isEff o = false) : h' = h := by
 have dn : OpDone P o T h h' v → h' = h := fun hd => by
  rcases hd with ⟨h1, _⟩ | ⟨_, h2, _⟩
  · rw [hq] at h1; cases h1
  · exact h2
 rcases hf with ⟨_, hd⟩ | ⟨_, _, _, _, _, ⟨_, hd⟩ | ⟨_, _, hd⟩⟩ | ⟨_, _, _, _, _, hd⟩
 · exact dn hd
 · exact dn hd
 · exact hd
 · exact hd
theorem runOpsE_facts {ops : List Oper} {K : List AV → AHeap → List Dec → Prop} : ∀ (os : List Oper) (k : Nat) (T : List AV) (h : AHeap) (ds : List Dec), ops.drop k = os → runOpsE P ops os T h ds K →
 ∃ (v : Nat → AV) (hs : Nat → AHeap) (ds' : List Dec), hs k = h ∧ K (upTo ops v (fun _ => true) T (List.range' k (ops.length - k))) (hs ops.length) ds' ∧
  ∀ j o, k ≤ j → ops[j]? = some o → OpFactE P ops (hs j) (hs (j + 1)) o (upTo ops v (fun _ => true) T (List.range' k (j - k))) (v j) := by
 intro os
 induction os with
 | nil =>
  intro k T h ds hd hr
  have hz : ops.length - k = 0 := by have := congrArg List.length hd; simpa using this
  rw [hz]
  exact ⟨fun _ => .any, fun _ => h, ds, rfl, hr, fun j o hj ho => by
   have : j < ops.length := (List.getElem?_eq_some_iff.1 ho).1
   omega⟩
 | cons o os ih =>
  intro k T h ds hd hr
  have hlen : ops.length - k = (ops.length - (k + 1)) + 1 := by have := congrArg List.length hd; simp at this; omega
  have hko : ops[k]? = some o := by
   have : (ops.drop k)[0]? = some o := by rw [hd]; rfl
   rw [List.getElem?_drop] at this
   simpa using this
  have hkl : k < ops.length := (List.getElem?_eq_some_iff.1 hko).1
  have hd' : ops.drop (k + 1) = os := by rw [← List.drop_drop, hd]; rfl
  have go : ∀ (x : AV) (h1 : AHeap) (ds1 : List Dec), OpFactE P ops h h1 o T x → runOpsE P ops os (aput T o.dst x) h1 ds1 K →
   ∃ (v : Nat → AV) (hs : Nat → AHeap) (ds' : List Dec), hs k = h ∧ K (upTo ops v (fun _ => true) T (List.range' k (ops.length - k))) (hs ops.length) ds' ∧
    ∀ j o, k ≤ j → ops[j]? = some o → OpFactE P ops (hs j) (hs (j + 1)) o (upTo ops v (fun _ => true) T (List.range' k (j - k))) (v j) := by
   intro x h1 ds1 hf hr
   obtain ⟨v, hs, ds', g0, g1, g2⟩ := ih (k + 1) _ h1 ds1 hd' hr
   have shift : ∀ n, upTo ops (fun i => if i = k then x else v i) (fun _ => true) T (List.range' k (n + 1)) = upTo ops v (fun _ => true) (aput T o.dst x) (List.range' (k + 1) n) := by
    intro n
    rw [List.range'_succ]
    show upTo ops _ _ (aput T ((ops[k]?).bind (·.dst)) (if k = k then x else v k)) (List.range' (k + 1) n) = _
    rw [hko, if_pos rfl]
    exact upTo_congr _ _ fun i hi => by
     have : i ≠ k := by have := (List.mem_range'_1.1 hi).1; omega
     simp [this]
   refine ⟨fun i => if i = k then x else v i, fun i => if i = k then h else hs i, ds', if_pos rfl, ?_, fun j o' hj ho' => ?_⟩
   · show K _ (if ops.length = k then h else hs ops.length) ds'
     rw [hlen, shift, if_neg (Nat.ne_of_gt hkl)]; exact g1
   by_cases hjk : j = k
   · subst hjk
     rw [hko] at ho'; cases ho'
     show OpFactE P ops (if j = j then h else hs j) (if j + 1 = j then h else hs (j + 1)) o _ (if j = j then x else v j)
     rw [if_pos rfl, if_neg (Nat.succ_ne_self j), g0, if_pos rfl]
     simpa [upTo] using hf
   · have := g2 j o' (by omega) ho'
     show OpFactE P ops (if j = k then h else hs j) (if j + 1 = k then h else hs (j + 1)) o' _ (if j = k then x else v j)
     rw [show j - k = (j - (k + 1)) + 1 by omega, shift, if_neg hjk, if_neg (show ¬ j + 1 = k by omega), if_neg hjk]
     exact this
  have one : ∀ (ds1 : List Dec) (R : AV → AHeap → List Dec → Prop), (match isEff o with
   | true =>
    match opRes P o T h ds1 with
    | some (cs, v, h', ds') => conjs cs (runOpsE P ops os (aput T o.dst v) h' ds' K)
    | none => False
   | false =>
    match opResQ P o T h ds1 with
    | some (cs, v, ds') => conjs cs (pureC P o T v (runOpsE P ops os (aput T o.dst v) h ds' K))
    | none => False) → ∃ x h1 ds2, OpDone P o T h h1 x ∧ runOpsE P ops os (aput T o.dst x) h1 ds2 K := by
   intro ds1 _ hr
   split at hr
   · rename_i he
     split at hr
     · rename_i cs v h' ds' hres
       obtain ⟨c1, c2⟩ := conjs_iff hr
       exact ⟨v, h', ds', .inl ⟨he, ds1, cs, ds', hres, c1⟩, c2⟩
     · exact hr.elim
   · rename_i he
     split at hr
     · rename_i cs v ds' hres
       obtain ⟨c1, c2⟩ := conjs_iff hr
       obtain ⟨c3, c4⟩ := pureC_ok c2
       exact ⟨v, h, ds', .inr ⟨he, rfl, ds1, cs, ds', hres, c1, c3⟩, c4⟩
     · exact hr.elim
  unfold runOpsE at hr
  split at hr
  · rename_i hg
    obtain ⟨x, h1, ds2, d1, d2⟩ := one ds (fun _ _ _ => True) hr
    exact go x h1 ds2 (.inl ⟨hg, d1⟩) d2
  · rename_i j want hg
    split at hr
    · rename_i q d ds1 hgv
      obtain ⟨rfl, hr⟩ := hr
      split at hr
      · rename_i hqw
        obtain ⟨x, h1, ds2, d1, d2⟩ := one ds1 (fun _ _ _ => True) hr
        exact go x h1 ds2 (.inr (.inl ⟨j, want, q, hg, hgv, .inl ⟨by simpa using hqw, d1⟩⟩)) d2
      · rename_i hqw
        exact go .undef h ds1 (.inr (.inl ⟨j, want, q, hg, hgv, .inr ⟨by simpa using hqw, rfl, rfl⟩⟩)) hr
    · rename_i hgv
      exact go .undef h _ (.inr (.inr ⟨j, want, hg, hgv, rfl, rfl⟩)) hr
    · exact hr.elim
theorem aopE_congr {h : AHeap} {ρ ρ' : Operand → AV} {o : Oper} {ds : List Dec} (hx : ∀ x ∈ o.op.operands, ρ x = ρ' x) : aopE P h ρ o ds = aopE P h ρ' o ds := by
 unfold aopE
 cases ho : o.op with
 | box t x => rw [ho] at hx; simp only [hx x (by simp [Op.operands])]
 | store t x y => rw [ho] at hx; simp only [hx x (by simp [Op.operands]), hx y (by simp [Op.operands])]
 | makeSlice t l c => rw [ho] at hx; simp only [hx l (by simp [Op.operands]), hx c (by simp [Op.operands])]
 | makeMap t r => cases r <;> rfl
 | mapUpdate t x k y => rw [ho] at hx; simp only [hx x (by simp [Op.operands]), hx k (by simp [Op.operands]), hx y (by simp [Op.operands])]
 | range t x => rw [ho] at hx; simp only [hx x (by simp [Op.operands])]
 | next x b => rw [ho] at hx; simp only [hx x (by simp [Op.operands])]
 | call c =>
  rw [ho] at hx
  have hm : ∀ x ∈ c.args.toList, ρ x = ρ' x := fun y hy => hx y (by simp [Op.operands, Call.operands]; exact .inr (by simpa using hy))
  simp only
  split
  · rename_i s x t t' mode shift ds' h1 h2 h3
    rw [hm s (by rw [h2]; simp), hm x (by rw [h2]; simp)]
  · rfl
 | _ => rfl
theorem opRes_congr {h : AHeap} {T T' : List AV} {o : Oper} {ds : List Dec} (hx : ∀ x ∈ o.op.operands, aeval T x = aeval T' x) (he : isEff o = true) : opRes P o T h ds = opRes P o T' h ds := by
 unfold opRes
 rw [aopQ_congr (P := P) (h := h) hx, aopE_congr (P := P) (h := h) (ds := ds) hx]
 cases ho : o.op with
 | call c =>
  simp only [isEff, ho] at he
  cases hc : c.callee with
  | value f =>
   have hm : c.args.toList.map (aeval T) = c.args.toList.map (aeval T') := List.map_congr_left fun y hy => hx y (by rw [ho]; simp [Op.operands, Call.operands]; exact .inr (by simpa using hy))
   cases f with
   | func g => simp only [hc, hm]; rfl
   | _ => rw [hc] at he; cases he
  | _ => simp only [hc]
 | pick c a b => simp only [isEff, ho] at he; cases he
 | _ => rfl
def Sees (h H : AHeap) (a : AV) : Prop := ∀ id o, a.at = some id → h[id]? = some o → H[id]? = some o
theorem cellsAt_mono {h H : AHeap} {p : AV} {r : Cnd × List AV} (hh : Sees h H p) (hc : cellsAt h p = some r) : cellsAt H p = some r := by
 cases p with
 | ptr id n sz i off =>
  unfold cellsAt at hc ⊢
  simp only at hc ⊢
  cases hg : h[id]? with
  | none => rw [hg] at hc; cases hc
  | some o => rw [hg] at hc; rw [hh id o rfl hg]; exact hc
 | _ => exact hc
theorem alen_mono {h H : AHeap} {t : TypeId} {x : AV} {r : AV} (hh : Sees h H x) (hc : alen P h t x = some r) : alen P H t x = some r := by
 unfold alen at hc ⊢
 cases hs : seqOf P t with
 | map k e =>
  rw [hs] at hc
  cases x with
  | mp id =>
   simp only at hc ⊢
   cases hg : h[id]? with
   | none => rw [hg] at hc; cases hc
   | some o => rw [hg] at hc; rw [hh id o rfl hg]; exact hc
  | _ => exact hc
 | _ => rw [hs] at hc; cases x <;> exact hc
theorem alook_mono {h H : AHeap} {t : TypeId} {x y : AV} {ok : Bool} {r : Cnd × AV} (hh : Sees h H x) (hc : alook P h t x y ok = some r) : alook P H t x y ok = some r := by
 unfold alook at hc ⊢
 cases hs : mapOf P t with
 | none => rw [hs] at hc; cases hc
 | some kt =>
  rw [hs] at hc
  cases x with
  | mp id =>
   simp only at hc ⊢
   cases hg : h[id]? with
   | none => rw [hg] at hc; cases hc
   | some o => rw [hg] at hc; rw [hh id o rfl hg]; exact hc
  | _ => cases hc
theorem abuiltin_mono {h H : AHeap} {b : Builtin} {ts : List TypeId} {xs : List AV} {r : Cnd × AV} (hh : ∀ x ∈ xs, Sees h H x) (hc : abuiltin P h b ts xs = some r) : abuiltin P H b ts xs = some r := by
 unfold abuiltin at hc ⊢
 split at hc
 · simp only [Option.map_eq_some_iff] at hc ⊢
   obtain ⟨v, hv, e⟩ := hc
   exact ⟨v, alen_mono (hh _ (List.mem_cons_self ..)) hv, e⟩
 · exact hc
 · exact hc
 · cases hc
theorem aopQ_mono {h H : AHeap} {ρ : Operand → AV} {o : Oper} {r : Cnd × AV} (hh : isReader o = true → ∀ x ∈ o.op.operands, Sees h H (ρ x)) (hq : aopQ P h ρ o = some r) : aopQ P H ρ o = some r := by
 unfold aopQ at hq ⊢
 cases ho : o.op with
 | load t a =>
  rw [ho] at hq
  have hh := hh (by simp [isReader, ho]) a (by simp [ho, Op.operands])
  simp only at hq ⊢
  cases hc : cellsAt h (ρ a) with
  | none => rw [hc] at hq; cases hq
  | some r => rw [hc] at hq; rw [cellsAt_mono hh hc]; exact hq
 | lookup t x y ok =>
  rw [ho] at hq
  exact alook_mono (hh (by simp [isReader, ho]) x (by rw [ho]; simp [Op.operands])) hq
 | call c =>
  rw [ho] at hq
  have hh := hh (by simp [isReader, ho])
  simp only at hq ⊢
  cases hcal : c.callee with
  | builtin b =>
   rw [hcal] at hq
   refine abuiltin_mono (fun x hx => ?_) hq
   obtain ⟨y, hy, rfl⟩ := List.mem_map.1 hx
   exact hh y (by rw [ho]; simp [Op.operands, Call.operands]; exact .inr (by simpa using hy))
  | _ => rw [hcal] at hq; exact hq
 | makeFunc fn first cs => rw [ho] at hq; cases fn <;> exact hq
 | slice t x lo hi mx => rw [ho] at hq; cases mx <;> cases lo <;> cases hi <;> exact hq
 | _ => rw [ho] at hq; exact hq
theorem opResQ_mono {h H : AHeap} {o : Oper} {T : List AV} {ds ds' : List Dec} {cs : List Prop} {v : AV} (hf : isCallV o = false) (hh : isReader o = true → ∀ x ∈ o.op.operands, Sees h H (aeval T x)) (hr : opResQ P o T h ds = some (cs, v, ds')) :
 opResQ P o T H ds = some (cs, v, ds') := by
 have lift : ((aopQ P h (aeval T) o).map fun (cd, v) => (cd.list, v, ds)) = some (cs, v, ds') → ((aopQ P H (aeval T) o).map fun (cd, v) => (cd.list, v, ds)) = some (cs, v, ds') := by
  intro hm
  simp only [Option.map_eq_some_iff] at hm ⊢
  obtain ⟨q, hq, e⟩ := hm
  exact ⟨q, aopQ_mono hh hq, e⟩
 unfold opResQ at hr ⊢
 cases ho : o.op with
 | pick c a b => rw [ho] at hr; exact hr
 | call c =>
  rw [ho] at hr
  simp only at hr ⊢
  cases hcal : c.callee with
  | value f => simp [isCallV, ho, hcal] at hf
  | _ => rw [hcal] at hr; exact lift hr
 | _ => rw [ho] at hr; exact lift hr
section
variable {m : IdMap} {Mut : Mu} {w : World} {h : AHeap}
theorem at_mapped {a : AV} {v : Value} {id : Nat} (hr : RelV m Mut w a v) (ha : a.at = some id) : ∃ n x, m id n = some x := by
 cases hr <;> first | (cases ha; exact ⟨_, _, by assumption⟩) | cases ha
/-- A quiet operation that calls no function: the map stays. -/
theorem quiet_wp {o : Oper} {T : List AV} {ds ds' : List Dec} {cs : List Prop} {v : AV} (hf : isCallV o = false) (hr : opResQ P o T h ds = some (cs, v, ds')) (hc : ∀ c ∈ cs, c)
 {a : Act} {next : Act → World → Prop} {Q : Exit → Act → World → Prop} (H : RelH m Mut h w) (hT : RelT m Mut w T a)
 (hk : ∀ w' x, Ext m Mut w m Mut w' → RelH m Mut h w' → RelV m Mut w' v x → next (a.put o.dst x) w') : o.wp P a w next Q := by
 have quiet : ∀ {cd : Cnd}, aopQ P h (aeval T) o = some (cd, v) → cd.ok → o.wp P a w next Q := fun hq hc => by
  obtain ⟨x, w', g1, g2, g3, g4⟩ := aopQ_sound H hT.eval hq hc
  unfold Oper.wp
  rw [g1]
  exact hk w' x g2 g3 g4
 unfold opResQ at hr
 split at hr
 · rename_i c x y ho
   split at hr
   · rename_i q d ds1 hq
     cases hr
     have hqd : q = d := hc _ (List.mem_singleton.2 rfl)
     subst hqd
     have hcv := hT.eval c
     rw [hq] at hcv
     unfold Oper.wp
     rw [show (execOp a.eval o).run P w = .ok (.value (if q then a.eval x else a.eval y)) w by simp [execOp, ho, hcv.inv_bool, asBool]]
     refine hk w _ (.refl _ _ _) H ?_
     cases q
     · exact hT.eval y
     · exact hT.eval x
   · cases hr
 · rename_i c ho
   split at hr
   · rename_i f hcal
     simp [isCallV, ho, hcal] at hf
   · simp only [Option.map_eq_some_iff, Prod.exists, Prod.mk.injEq] at hr
     obtain ⟨cd, v', hq, rfl, rfl, rfl⟩ := hr
     exact quiet hq (Cnd.list_ok hc)
 · simp only [Option.map_eq_some_iff, Prod.exists, Prod.mk.injEq] at hr
   obtain ⟨cd, v', hq, rfl, rfl, rfl⟩ := hr
   exact quiet hq (Cnd.list_ok hc)
theorem pureCall_congr {o : Oper} {T T' : List AV} (hx : ∀ x ∈ o.op.operands, aeval T x = aeval T' x) : pureCall o T = pureCall o T' := by
 unfold pureCall
 cases ho : o.op with
 | call c =>
  rw [ho] at hx
  have hm : c.args.toList.map (aeval T) = c.args.toList.map (aeval T') := List.map_congr_left fun y hy => hx y (by simp [Op.operands, Call.operands]; exact .inr (by simpa using hy))
  simp only [hm]
 | _ => rfl
/-- A call that needs nothing of its caller's objects: the map stays, too. -/
theorem pure_wp {o : Oper} {T : List AV} {v : AV} {g : FuncId} {args : List AV} (he : pureCall o T = some (g, args)) (hcb : callable P g = true) (hp : PRet P g args v)
 {a : Act} {next : Act → World → Prop} {Q : Exit → Act → World → Prop} (H : RelH m Mut h w) (hT : RelT m Mut w T a)
 (hk : ∀ w' x, Ext m Mut w m Mut w' → RelH m Mut h w' → RelV m Mut w' v x → next (a.put o.dst x) w') : o.wp P a w next Q := by
 unfold pureCall at he
 split at he
 · rename_i c ho
   split at he
   · rename_i g' hcal
     cases he
     have hall : RelL m Mut w (c.args.toList.map (aeval T)) (c.args.map a.eval) := hT.eval.list c.args
     let Mu1 : Mu := ⟨Mut.im, fun _ => False, fun _ h => h.elim⟩
     have H1 : RelH (cutM m 0) Mu1 [] w :=
      { obj := fun id o ho => by simp at ho
        inj := fun id id' o o' b C C' ho => by simp at ho
        dom := fun id n x hx => by
         unfold cutM at hx
         rw [if_neg (Nat.not_lt_zero _)] at hx
         cases hx
        lt := H.lt
        top := fun id o n x ho => by simp at ho }
     have ha1 : RelL (cutM m 0) Mu1 w (c.args.toList.map (aeval T)) (c.args.map a.eval) := ⟨hall.1, fun i a v hi hv => cut_rel (Mut := Mut) (Mut' := Mu1) (fun b hb => hb) (hall.2 i a v hi hv) (hp.low a (List.mem_of_getElem? hi))⟩
     have hcalls := hp.ret (cutM m 0) Mu1 w _ H1 ha1
     unfold Oper.wp
     have hrun : (execOp a.eval o).run P w = .ok (.enter g (c.args.map a.eval)) w := by
      have e : a.eval (.func g) = .func (.func g) #[] #[] := rfl
      simp only [execOp, ho, resolve, hcal, e, Deferred.ofValue, Sem.run_bind, Sem.run_pure, Result.andThen_ok, invoke]
      rw [show (#[] : Array Value) ++ c.args.map a.eval ++ #[] = c.args.map a.eval by simp]
      exact callFunc_run hcb
     rw [hrun, Oper.upon_enter]
     refine hcalls.mono fun e w' hpost => ?_
     obtain ⟨x, v', h'', m', Mut', rfl, ⟨rfl, rfl⟩, E, H', hx⟩ := hpost
     have hb : ∀ b, b < w.heap.size → w'.heap[b]? = w.heap[b]? := fun b hlt => E.block b hlt fun h => h
     have E' : Ext m Mut w m Mut w' := ⟨E.os, E.tape, E.output, E.drawn, E.size, fun b hlt _ => hb b hlt, fun _ _ h => h, fun _ _ h => h, fun _ _ h _ => h, fun _ _ _ h => h⟩
     exact hk w' x E' (H.still E' hb) (hx.mono (fun id n y hy => absurd (H'.dom id n y hy) (Nat.not_lt_zero _)) (Nat.le_refl _) (fun b _ hn hi => hn (E.keep b (H.lt b hi) hi fun h => h)) fun _ _ _ => rfl)
   · cases he
 · cases he
theorem RelH.dead (H : RelH m Mut h w) (k : Nat) : RelH m Mut (h ++ List.replicate k .dead) w := by
 have old : ∀ (id : Nat) (o : AObj), (h ++ List.replicate k .dead)[id]? = some o → o = .dead ∨ h[id]? = some o := by
  intro id o ho
  rcases Nat.lt_or_ge id h.length with q | q
  · rw [List.getElem?_append_left q] at ho; exact .inr ho
  · rw [List.getElem?_append_right q, List.getElem?_replicate] at ho
    split at ho <;> cases ho
    exact .inl rfl
 have live : ∀ (id : Nat) (o : AObj), (h ++ List.replicate k .dead)[id]? = some o → o.live = true → h[id]? = some o := fun id o ho hl => by
  rcases old id o ho with rfl | q
  · cases hl
  · exact q
 refine ⟨fun id o ho => ?_, fun id id' o o' b C C' h1 h2 l1 l2 m1 m2 => H.inj id id' o o' b C C' (live id o h1 l1) (live id' o' h2 l2) l1 l2 m1 m2, fun id n x hx => ?_, H.lt, fun id o n x ho hl hx => H.top id o n x ((old id o ho).elim (fun e => by subst e; cases hl) (fun q => q)) hl hx⟩
 · rcases old id o ho with rfl | q
   · exact trivial
   · exact H.obj id o q
 · have := H.dom id n x hx
   simp only [List.length_append]
   omega
theorem RelH.newAt (H : RelH m Mut h w) {i : Nat} (hi : i < h.length) (hn : ∀ n, m i n = none) (o : Obj) (ao : AObj) (C : Nat × Nat) (hl : ao.live = true)
 (ho : RelO (m.put i ao.ver (w.heap.size, C)) (Mut.add w.heap.size) (w.alloc o) i ao) :
 RelH (m.put i ao.ver (w.heap.size, C)) (Mut.add w.heap.size) (h.set i ao) (w.alloc o) ∧
 Ext m Mut w (m.put i ao.ver (w.heap.size, C)) (Mut.add w.heap.size) (w.alloc o) := by
 have hne : ∀ id n x, m id n = some x → id ≠ i := fun id n x hx e => by rw [e, hn] at hx; cases hx
 have hids : ∀ id n x, m id n = some x → m.put i ao.ver (w.heap.size, C) id n = some x := fun id n x hx => by
  rw [IdMap.put_other (.inl (hne id n x hx))]; exact hx
 have E : Ext m Mut w (m.put i ao.ver (w.heap.size, C)) (Mut.add w.heap.size) (w.alloc o) :=
  ⟨rfl, rfl, rfl, Nat.le_refl _, by simp, fun b hb _ => Go.RowKit.Below.heap_alloc w o b hb, fun b hb hM hM' => hM'.elim hM (fun e => by omega), fun b hb hM hM' => hM'.elim hM (fun e => by omega), fun b _ hi _ => .inl hi, hids⟩
 have old : ∀ (id : Nat) (o' : AObj), (h.set i ao)[id]? = some o' → (id ≠ i ∧ h[id]? = some o') ∨ (id = i ∧ o' = ao) := by
  intro id o' hid
  rw [List.getElem?_set] at hid
  by_cases e : i = id
  · subst e
    rw [if_pos rfl, if_pos hi] at hid
    exact .inr ⟨rfl, (Option.some.inj hid).symm⟩
  · rw [if_neg e] at hid
    exact .inl ⟨Ne.symm e, hid⟩
 refine ⟨⟨?_, ?_, ?_, ?_, ?_⟩, E⟩
 · intro id o' hid
   rcases old id o' hid with ⟨hlt, hid⟩ | ⟨rfl, rfl⟩
   · refine (H.obj id o' hid).mono E fun b C' hlive hm => ?_
     have hM := (H.obj id o' hid).wr hlive b C' hm
     exact ⟨Go.RowKit.Below.heap_alloc w o b (H.wr b hM), .inl hM⟩
   · exact ho
 · intro id id' o1 o2 b C1 C2 h1 h2 l1 l2 m1 m2
   have back : ∀ (id : Nat) (o1 : AObj) C1, h[id]? = some o1 → o1.live = true → id ≠ i → m.put i ao.ver (w.heap.size, C) id o1.ver = some (b, C1) → m id o1.ver = some (b, C1) ∧ b < w.heap.size := by
    intro id o1 C1 h1 l1 hlt m1
    rw [IdMap.put_other (.inl hlt)] at m1
    exact ⟨m1, H.wr b ((H.obj id o1 h1).wr l1 b C1 m1)⟩
   rcases old id o1 h1 with ⟨hlt, g1⟩ | ⟨rfl, rfl⟩ <;> rcases old id' o2 h2 with ⟨hlt', g2⟩ | ⟨rfl, rfl⟩
   · exact H.inj id id' o1 o2 b C1 C2 g1 g2 l1 l2 (back id o1 C1 g1 l1 hlt m1).1 (back id' o2 C2 g2 l2 hlt' m2).1
   · have := (back id o1 C1 g1 l1 hlt m1).2
     rw [IdMap.put_same] at m2; cases m2; omega
   · have := (back id' o2 C2 g2 l2 hlt' m2).2
     rw [IdMap.put_same] at m1; cases m1; omega
   · rfl
 · intro id n x hx
   simp only [IdMap.put] at hx
   split at hx
   · rename_i e; obtain ⟨rfl, _⟩ := e; simpa using hi
   · have := H.dom id n x hx; simpa using this
 · intro b hb
   rcases hb with hb | rfl
   · have := H.lt b hb; simp; omega
   · simp
 · intro id o' n x hid hl hx
   rcases old id o' hid with ⟨hlt, g⟩ | ⟨rfl, rfl⟩
   · rw [IdMap.put_other (.inl hlt)] at hx
     exact H.top id o' n x g hl hx
   · simp only [IdMap.put] at hx
     split at hx
     · rename_i e; omega
     · rw [hn] at hx; cases hx
theorem newVarAt {t : TypeId} {v : AV} {u : Value} {i : Nat} (H : RelH m Mut h w) (hi : i < h.length) (hn : ∀ n, m i n = none) (hv : RelV m Mut w v u) (hna : v.isAny = false) :
 ∃ m' Mut' w', (newVar t u).run P w = .ok ⟨w.heap.size, 0, none⟩ w' ∧ Ext m Mut w m' Mut' w' ∧ RelH m' Mut' (h.set i (.var v)) w' ∧
  RelV m' Mut' w' (.ptr i 1 v.cells.length 0 0) (.pointer (some ⟨w.heap.size, 0, none⟩)) ∧ ∀ id n, id ≠ i → m' id n = m id n := by
 have hl := relV_cells hv (isAny_ne hna)
 have hids : ∀ id n x, m id n = some x → m.put i 1 (w.heap.size, 0, 1) id n = some x := fun id n x hx => by
  rw [IdMap.put_other (.inl (fun e => by rw [e, hn] at hx; cases hx))]; exact hx
 have E : Ext m Mut w (m.put i 1 (w.heap.size, 0, 1)) (Mut.add w.heap.size) (w.alloc (.cells u.cells t)) :=
  ⟨rfl, rfl, rfl, Nat.le_refl _, by simp, fun b hb _ => Go.RowKit.Below.heap_alloc w _ b hb, fun b hb hM hM' => hM'.elim hM (fun e => by omega), fun b hb hM hM' => hM'.elim hM (fun e => by omega), fun b _ hi _ => .inl hi, hids⟩
 obtain ⟨H', E'⟩ := H.newAt hi hn (.cells u.cells t) (.var v) (0, 1) rfl ⟨w.heap.size, u.cells, t, IdMap.put_same _ _ _ _, .inr rfl, heap_alloc_self w _, E.relL hl⟩
 refine ⟨_, _, _, by simp [newVar, newRow], E', H', ?_, fun id n hid => IdMap.put_other (.inl hid)⟩
 have := RelV.ptr (m := m.put i 1 (w.heap.size, 0, 1)) (Mut := Mut.add w.heap.size) (w := w.alloc (.cells u.cells t)) i 1 v.cells.length 0 0 w.heap.size 0 1 (IdMap.put_same _ _ _ _)
 simp only [Nat.zero_mul, Nat.add_zero] at this
 exact this
end
/-- What such an operation does, wherever its place in the heap is kept. -/
def LightAt (P : Program) (o : Oper) (T : List AV) (z : AV) (i : Nat) : Prop :=
 ∀ (m : IdMap) (Mut : Mu) (w : World) (a : Act) (next : Act → World → Prop) (Q : Exit → Act → World → Prop) (H : AHeap), RelH m Mut H w → RelT m Mut w T a → i < H.length → (∀ n, m i n = none) →
  (∀ m' Mut' w' x, Ext m Mut w m' Mut' w' → RelH m' Mut' (H.set i (.var z)) w' → RelV m' Mut' w' (.ptr i 1 z.cells.length 0 0) x → (∀ id n, id ≠ i → m' id n = m id n) → next (a.put o.dst x) w') → o.wp P a w next Q
theorem light_res {h : AHeap} {o : Oper} (hl : isLight o = true) {T : List AV} {ds ds' : List Dec} {cs : List Prop} {v : AV} {h' : AHeap} (hr : opRes P o T h ds = some (cs, v, h', ds')) :
 ∃ z, v = .ptr h.length 1 z.cells.length 0 0 ∧ h' = h ++ [.var z] ∧ LightAt P o T z h.length := by
 unfold opRes at hr
 cases ho : o.op with
 | alloc e =>
  have hq : aopQ P h (aeval T) o = none := by unfold aopQ; rw [ho]
  rw [ho] at hr
  simp only [hq] at hr
  unfold aopE at hr
  rw [ho] at hr
  simp only at hr
  cases hz : zeroV P e with
  | none => rw [hz] at hr; cases hr
  | some z =>
   rw [hz] at hr
   simp only at hr
   split at hr
   · cases hr
   · rename_i hna
     cases hr
     refine ⟨z, rfl, rfl, fun m Mut w a next Q H HH hT hi hn hk => ?_⟩
     obtain ⟨zc, hzr, rfl, i, hi', hzi⟩ := run_zeroValue (w := w) hz
     obtain ⟨m', Mut', w', g1, g2, g3, g4, g5⟩ := newVarAt (P := P) (t := e) HH hi hn (ofV_rel (m := m) (Mut := Mut) (w := w) zc) (by simpa using hna)
     unfold Oper.wp
     rw [show (execOp a.eval o).run P w = .ok (.value (.pointer (some ⟨w.heap.size, 0, none⟩))) w' by simp [execOp, ho, Instr.alloc, hzr, g1]]
     exact hk m' Mut' w' _ g2 g3 g4 g5
 | box t x =>
  have hq : aopQ P h (aeval T) o = none := by unfold aopQ; rw [ho]
  rw [ho] at hr
  simp only [hq] at hr
  unfold aopE at hr
  rw [ho] at hr
  simp only at hr
  split at hr
  · cases hr
  · rename_i hna
    cases hr
    refine ⟨aeval T x, rfl, rfl, fun m Mut w a next Q H HH hT hi hn hk => ?_⟩
    obtain ⟨m', Mut', w', g1, g2, g3, g4, g5⟩ := newVarAt (P := P) (t := t) HH hi hn (hT.eval x) (by simpa using hna)
    unfold Oper.wp
    rw [show (execOp a.eval o).run P w = .ok (.value (.pointer (some ⟨w.heap.size, 0, none⟩))) w' by simp [execOp, ho, Instr.box, g1]]
    exact hk m' Mut' w' _ g2 g3 g4 g5
 | _ => simp [isLight, ho] at hl
theorem drawEff_spec {ops : List Oper} (h : drawEff ops = true) {k j : Nat} {ok oj : Oper} (hk : ops[k]? = some ok) (hb : isBar ok = true) (hj : ops[j]? = some oj) (hm : mustOrd ok oj = true) :
 (j < k → ((befs ops).getD k 0).testBit j = true) ∧ (k < j → ((befs ops).getD j 0).testBit k = true) := by
 unfold drawEff at h
 have := List.all_eq_true.1 h k (List.mem_range.2 (List.getElem?_eq_some_iff.1 hk).1)
 rw [hk] at this
 simp only [hb, Bool.not_true, Bool.false_or, List.all_eq_true] at this
 have := this j (List.mem_range.2 (List.getElem?_eq_some_iff.1 hj).1)
 rw [hj] at this
 simp only [hm, Bool.not_true, Bool.false_or] at this
 refine ⟨fun hlt => by rw [if_pos hlt] at this; exact this, fun hlt => by rw [if_neg (by omega), if_pos hlt] at this; exact this⟩
/-- Two places stand in order, aas bits. -/
def Ordd (ops : List Oper) (k j : Nat) : Prop := (j < k → ((befs ops).getD k 0).testBit j = true) ∧ (k < j → ((befs ops).getD j 0).testBit k = true)
theorem inOrd_spec {ops : List Oper} {k j : Nat} (h : inOrd ops k j = true) : Ordd ops k j := by
 unfold inOrd at h
 exact ⟨fun hlt => by rw [if_pos hlt] at h; exact h, fun hlt => by rw [if_neg (by omega), if_pos hlt] at h; exact h⟩
theorem Ordd.symm' {ops : List Oper} {k j : Nat} (h : Ordd ops k j) : Ordd ops j k := ⟨h.2, h.1⟩
theorem drawEff2_spec {ops : List Oper} (h : drawEff2 ops = true) {k j : Nat} {ok oj : Oper} (hk : ops[k]? = some ok) (hb : isBar ok = true) (hj : ops[j]? = some oj) (hm : mustOrd ok oj = true) :
 Ordd ops k j ∨ (isTouch ok = true ∧ isLoad oj = true) := by
 unfold drawEff2 at h
 have := List.all_eq_true.1 h k (List.mem_range.2 (List.getElem?_eq_some_iff.1 hk).1)
 rw [hk] at this
 simp only [hb, Bool.not_true, Bool.false_or, List.all_eq_true] at this
 have := this j (List.mem_range.2 (List.getElem?_eq_some_iff.1 hj).1)
 rw [hj] at this
 simp only [hm, Bool.not_true, Bool.false_or, Bool.or_eq_true, Bool.and_eq_true] at this
 rcases this with h | h
 · exact .inl (inOrd_spec h)
 · exact .inr h
theorem bar_after (ops : List Oper) : ∀ (n j : Nat), ops.length - j = n → j ≤ ops.length → ∃ c, j ≤ c ∧ c ≤ ops.length ∧ (∀ k o, j ≤ k → k < c → ops[k]? = some o → isBar o = false) ∧ (c < ops.length → ∃ o, ops[c]? = some o ∧ isBar o = true) := by
 intro n
 induction n with
 | zero => intro j h1 h2; exact ⟨j, Nat.le_refl _, h2, fun k o a b => by omega, fun h => by omega⟩
 | succ n ih =>
  intro j h1 h2
  have hlt : j < ops.length := by omega
  cases hb : isBar ops[j] with
  | true => exact ⟨j, Nat.le_refl _, h2, fun k o a b => by omega, fun _ => ⟨_, List.getElem?_eq_getElem hlt, hb⟩⟩
  | false =>
   obtain ⟨c, g1, g2, g3, g4⟩ := ih (j + 1) (by omega) (by omega)
   refine ⟨c, by omega, g2, fun k o a b ho => ?_, g4⟩
   by_cases e : k = j
   · subst e; rw [List.getElem?_eq_getElem hlt] at ho; cases ho; exact hb
   · exact g3 k o (by omega) b ho
/-- How heaps follow one another: outside of operations that turn it, it grows by new variables at most. -/
def Grow (ops : List Oper) (hs : Nat → AHeap) : Prop :=
 (∀ j o, ops[j]? = some o → isEff o = false → hs (j + 1) = hs j) ∧ ∀ j o, ops[j]? = some o → isLight o = true → hs (j + 1) = hs j ∨ ∃ z, hs (j + 1) = hs j ++ [.var z]
theorem seg {ops : List Oper} {hs : Nat → AHeap} (hg : Grow ops hs) (a : Nat) : ∀ b, a ≤ b → b ≤ ops.length → (∀ k o, a ≤ k → k < b → ops[k]? = some o → isEff o = true → isLight o = true) →
 ∃ vs, hs b = hs a ++ vs ∧ ∀ q, q < vs.length → ∃ k o, a ≤ k ∧ k < b ∧ ops[k]? = some o ∧ isLight o = true ∧ (hs k).length = (hs a).length + q ∧ (hs (k + 1)).length = (hs k).length + 1 := by
 intro b
 induction b with
 | zero => intro h1 _ _; obtain rfl : a = 0 := by omega
           exact ⟨[], by simp, fun q hq => by simp at hq⟩
 | succ b ih =>
  intro h1 h2 h3
  by_cases e : a = b + 1
  · subst e; exact ⟨[], by simp, fun q hq => by simp at hq⟩
  obtain ⟨vs, g1, g2⟩ := ih (by omega) (by omega) fun k o a1 a2 => h3 k o a1 (by omega)
  have hlt : b < ops.length := by omega
  have keep : hs (b + 1) = hs b → ∃ vs, hs (b + 1) = hs a ++ vs ∧ ∀ q, q < vs.length → ∃ k o, a ≤ k ∧ k < b + 1 ∧ ops[k]? = some o ∧ isLight o = true ∧ (hs k).length = (hs a).length + q ∧ (hs (k + 1)).length = (hs k).length + 1 := fun e => by
   refine ⟨vs, by rw [e, g1], fun q hq => ?_⟩
   obtain ⟨k, o, a1, a2, a3⟩ := g2 q hq
   exact ⟨k, o, a1, by omega, a3⟩
  cases he : isEff ops[b] with
  | false => exact keep (hg.1 b _ (List.getElem?_eq_getElem hlt) he)
  | true =>
   have hl := h3 b _ (by omega) (by omega) (List.getElem?_eq_getElem hlt) he
   rcases hg.2 b _ (List.getElem?_eq_getElem hlt) hl with e | ⟨z, e⟩
   · exact keep e
   · refine ⟨vs ++ [.var z], by rw [e, g1, List.append_assoc], fun q hq => ?_⟩
     simp only [List.length_append, List.length_singleton] at hq
     by_cases hq' : q < vs.length
     · obtain ⟨k, o, a1, a2, a3⟩ := g2 q hq'
       exact ⟨k, o, a1, by omega, a3⟩
     · exact ⟨b, _, by omega, by omega, List.getElem?_eq_getElem hlt, hl, by rw [g1]; simp; omega, by rw [e]; simp⟩
/-- How far the run has come. -/
structure Cut (ops : List Oper) (hs : Nat → AHeap) (D : Nat → Bool) (c : Nat) (H : AHeap) (m : IdMap) : Prop where
 le : c ≤ ops.length
 bar : c < ops.length → ∃ o, ops[c]? = some o ∧ isBar o = true
 cut : ∀ k o, ops[k]? = some o → isBar o = true → (D k = true ↔ k < c)
 light : ∀ k o, ops[k]? = some o → isLight o = true → D k = true → k < c
 pure : ∀ k o, k < c → ops[k]? = some o → isLight o = true → D k = false → ∀ i oi, k < i → i < c → ops[i]? = some oi → isBar oi = false
 len : H.length = (hs c).length
 pend : ∀ k o, k < c → ops[k]? = some o → isLight o = true → D k = false → (hs (k + 1)).length = (hs k).length + 1 → ∀ n, m (hs k).length n = none
 get : ∀ id, (∃ k o, k < c ∧ ops[k]? = some o ∧ isLight o = true ∧ D k = false ∧ (hs k).length = id ∧ (hs (k + 1)).length = id + 1) ∨ H[id]? = (hs c)[id]?
theorem notBar {o : Oper} (h : isBar o = false) : isEff o = true → isLight o = true := by
 intro he
 unfold isBar at h
 rw [he] at h
 cases hl : isLight o with
 | true => rfl
 | false => rw [hl] at h; simp at h
theorem light_eff {o : Oper} (h : isLight o = true) : isEff o = true ∧ isBar o = false := by
 unfold isLight at h
 unfold isBar isEff isCallF isCallV isLight
 cases ho : o.op <;> rw [ho] at h <;> first | exact ⟨rfl, rfl⟩ | cases h
/-- A new segment begins. -/
theorem cut_from {ops : List Oper} {hs : Nat → AHeap} {D : Nat → Bool} {j : Nat} {m : IdMap} {Mut : Mu} {w : World} (hg : Grow ops hs) (hj : j ≤ ops.length) (hbar : ∀ k o, ops[k]? = some o → isBar o = true → (D k = true ↔ k < j))
 (hl : ∀ k o, ops[k]? = some o → isLight o = true → (D k = true ↔ k < j)) (H : RelH m Mut (hs j) w) : ∃ c H', Cut ops hs D c H' m ∧ RelH m Mut H' w := by
 obtain ⟨c, h1, h2, h3, h4⟩ := bar_after ops _ j rfl hj
 have sg : ∀ b, j ≤ b → b ≤ c → ∃ vs, hs b = hs j ++ vs ∧ ∀ q, q < vs.length → ∃ k o, j ≤ k ∧ k < b ∧ ops[k]? = some o ∧ isLight o = true ∧ (hs k).length = (hs j).length + q ∧ (hs (k + 1)).length = (hs k).length + 1 :=
  fun b hb hbc => seg hg j b hb (by omega) fun k o a1 a2 ho => notBar (h3 k o a1 (by omega) ho)
 obtain ⟨vs, g1, g2⟩ := sg c h1 (Nat.le_refl _)
 refine ⟨c, hs j ++ List.replicate vs.length .dead, ⟨h2, h4, fun k o ho hb => ?_, fun k o ho hl' hD => ?_, fun k o hk ho hl' hD i oi hi hic hoi => ?_, ?_, fun k o hk ho hl' hD hgr n => ?_, fun id => ?_⟩, H.dead _⟩
 · rw [hbar k o ho hb]
   constructor
   · intro h; omega
   · intro h
     rcases Nat.lt_or_ge k j with q | q
     · exact q
     · have := h3 k o q h ho; rw [hb] at this; cases this
 · have := (hl k o ho hl').1 hD; omega
 · have hkj : j ≤ k := by
    rcases Nat.lt_or_ge k j with q | q
    · rw [(hl k o ho hl').2 q] at hD; cases hD
    · exact q
   exact h3 i oi (by omega) hic hoi
 · rw [g1]; simp
 · have hkj : j ≤ k := by
    rcases Nat.lt_or_ge k j with q | q
    · rw [(hl k o ho hl').2 q] at hD; cases hD
    · exact q
   obtain ⟨us, e1, _⟩ := sg k hkj (by omega)
   cases hm : m (hs k).length n with
   | none => rfl
   | some x =>
    have := H.dom _ _ _ hm
    rw [e1] at this
    simp at this
    omega
 · rcases Nat.lt_or_ge id (hs j).length with q | q
   · right; rw [g1, List.getElem?_append_left q, List.getElem?_append_left q]
   · rcases Nat.lt_or_ge id ((hs j).length + vs.length) with q2 | q2
     · left
       obtain ⟨k, o, a1, a2, a3, a4, a5, a6⟩ := g2 (id - (hs j).length) (by omega)
       refine ⟨k, o, a2, a3, a4, ?_, by omega, by omega⟩
       cases hD : D k with
       | false => rfl
       | true => have := (hl k o a3 a4).1 hD; omega
     · right; rw [g1, List.getElem?_eq_none (by simp; omega), List.getElem?_eq_none (by simp; omega)]
theorem OpFactE.grow {ops : List Oper} {h h' : AHeap} {o : Oper} {T : List AV} {v : AV} (hf : OpFactE P ops h h' o T v) (hl : isLight o = true) : h' = h ∨ ∃ z, h' = h ++ [.var z] := by
 have dn : OpDone P o T h h' v → h' = h ∨ ∃ z, h' = h ++ [.var z] := fun hd => by
  rcases hd with ⟨h1, ds, cs, ds', hres, _⟩ | ⟨_, h2, _⟩
  · obtain ⟨z, _, hz, _⟩ := light_res hl hres
    exact .inr ⟨z, hz⟩
  · exact .inl h2
 rcases hf with ⟨_, hd⟩ | ⟨_, _, _, _, _, ⟨_, hd⟩ | ⟨_, _, hd⟩⟩ | ⟨_, _, _, _, _, hd⟩
 · exact dn hd
 · exact dn hd
 · exact .inl hd
 · exact .inl hd
theorem draw_soundE {ops : List Oper} {hs : Nat → AHeap} {Q : Exit → List AV → AHeap → Prop} {T : List AV} {v : Nat → AV} {m0 : IdMap} {Mut0 : Mu} {w0 : World} (hok : drawOk ops = true)
 (hord : ∀ (k j : Nat) (ok oj : Oper), ops[k]? = some ok → isBar ok = true → ops[j]? = some oj → (isBar oj || isLight oj) = true → Ordd ops k j)
 (hap : ∀ (k j : Nat) (ok oj : Oper), ops[k]? = some ok → isEff ok = true → isLight ok = false → ops[j]? = some oj → isEff oj = false → isReader oj = true →
  Ordd ops k j ∨ ∀ x ∈ oj.op.operands, ∀ id, (aeval (upTo ops v (fun _ => true) T (List.range' 0 j)) x).at = some id → ∀ y, (hs k)[id]? = some y → (hs (k + 1))[id]? = some y)
 (hf : ∀ j o, ops[j]? = some o → OpFactE P ops (hs j) (hs (j + 1)) o (upTo ops v (fun _ => true) T (List.range' 0 j)) (v j))
 (hq : Q .normal (upTo ops v (fun _ => true) T (List.range ops.length)) (hs ops.length)) :
 ∀ (fuel : Nat) (listed : Array Bool) (m : IdMap) (Mut : Mu) (w : World) (a : Act), listed.size = ops.length → (List.range ops.length).countP (fun i => !listed.getD i false) ≤ fuel →
  Closed ops (fun i => listed.getD i false = true) → Ext m0 Mut0 w0 m Mut w → (∃ c H, Cut ops hs (fun i => listed.getD i false) c H m ∧ RelH m Mut H w) → RelT m Mut w (upTo ops v (fun i => listed.getD i false) T (List.range ops.length)) a →
  wpAny P .any ops.toArray (APost Q m0 Mut0 w0) fuel listed a w := by
 obtain ⟨k1, k2⟩ := drawOk_spec hok
 have hg : Grow ops hs := ⟨fun j o ho he => (hf j o ho).quiet he, fun j o ho hl => (hf j o ho).grow hl⟩
 have done : ∀ (listed : Array Bool) (m : IdMap) (Mut : Mu) (w : World) (a : Act), (∀ i, i < ops.length → listed.getD i false = true) → Ext m0 Mut0 w0 m Mut w → (∃ c H, Cut ops hs (fun i => listed.getD i false) c H m ∧ RelH m Mut H w) →
  RelT m Mut w (upTo ops v (fun i => listed.getD i false) T (List.range ops.length)) a → APost Q m0 Mut0 w0 .normal a w := by
  intro listed m Mut w a hall E ⟨c, H0, hc, H⟩ hT
  have hcl : H0 = hs ops.length := by
   have hcn : c = ops.length := by
    rcases Nat.lt_or_ge c ops.length with q | q
    · obtain ⟨o, ho, hb⟩ := hc.bar q
      have := (hc.cut c o ho hb).1 (hall c q)
      omega
    · have := hc.le; omega
   subst hcn
   apply List.ext_getElem?
   intro id
   rcases hc.get id with ⟨k, o, hk, _, _, hD, _⟩ | h
   · rw [hall k hk] at hD; cases hD
   · exact h
  rw [hcl] at H
  have e : upTo ops v (fun i => listed.getD i false) T (List.range ops.length) = upTo ops v (fun _ => true) T (List.range ops.length) := by
   apply List.ext_getElem?
   intro t
   rw [upTo_get, upTo_get]
   exact lastW_congr _ _ fun i hi _ => hall i (List.mem_range.1 hi)
  rw [e] at hT
  exact ⟨m, Mut, _, hs ops.length, hq, E, H, hT⟩
 have allOf : ∀ (listed : Array Bool), listed.size = ops.length → Region.ready .any ops.toArray listed = [] → ∀ n i, i < n → i < ops.length → listed.getD i false = true := by
  intro listed hsz hr n
  induction n with
  | zero => intro i hi; omega
  | succ n ih =>
   intro i hi hil
   cases hb : listed.getD i false with
   | true => rfl
   | false =>
    exfalso
    have hmem : i ∈ Region.ready .any ops.toArray listed := by
     rw [mem_ready]
     have hlt : i < listed.size := by omega
     refine ⟨?_, ops[i], by simp [hil], fun e he hbd => ?_⟩
     · simp only [Array.getD, hlt, dif_pos] at hb ⊢; exact hb
     · have hep : e.on ∈ preds ops[i] := List.mem_filterMap.2 ⟨e, by simpa using he, by rw [if_pos hbd]⟩
       have := k1 i ops[i] (List.getElem?_eq_getElem hil) e.on hep
       exact ih e.on (by omega) (by omega)
    rw [hr] at hmem
    cases hmem
 intro fuel
 induction fuel with
 | zero =>
  intro listed m Mut w a hsz hcnt hcl E H hT
  have hall : ∀ i, i < ops.length → listed.getD i false = true := by
   intro i hi
   have := List.countP_eq_zero.1 (Nat.le_zero.1 hcnt) i (List.mem_range.2 hi)
   simpa using this
  refine ⟨?_, done listed m Mut w a hall E H hT⟩
  cases hr : Region.ready .any ops.toArray listed with
  | nil => rfl
  | cons x xs =>
   have hx : x ∈ Region.ready .any ops.toArray listed := by rw [hr]; exact List.mem_cons_self ..
   rw [mem_ready] at hx
   obtain ⟨h1, o, ho, _⟩ := hx
   have hxl : x < ops.length := by
    rw [List.getElem?_toArray] at ho
    exact (List.getElem?_eq_some_iff.1 ho).1
   have := hall x hxl
   have hlt : x < listed.size := by omega
   simp only [Array.getD, hlt, dif_pos] at h1 this
   rw [h1] at this; cases this
 | succ fuel ih =>
  intro listed m Mut w a hsz hcnt hcl E H hT
  refine ⟨fun hr => done listed m Mut w a (fun i hi => allOf listed hsz hr ops.length i hi hi) E H hT, fun j hj => ?_⟩
  rw [mem_ready] at hj
  obtain ⟨hj1, o, ho, hpre⟩ := hj
  rw [List.getElem?_toArray] at ho
  have hjl : j < ops.length := (List.getElem?_eq_some_iff.1 ho).1
  have hlt : j < listed.size := by omega
  have hDj : listed.getD j false = false := by simp only [Array.getD, hlt, dif_pos] at hj1 ⊢; exact hj1
  have hp : ∀ e ∈ preds o, listed.getD e false = true := by
   intro e he
   obtain ⟨ed, hed, heq⟩ := List.mem_filterMap.1 he
   split at heq
   · rename_i hb; cases heq; exact hpre ed (by simpa using hed) hb
   · cases heq
  have hD2 : ∀ i, (listed.setIfInBounds j true).getD i false = (if i = j then true else listed.getD i false) := by
   intro i
   rw [Array.getD_eq_getD_getElem?, Array.getElem?_setIfInBounds]
   by_cases e : j = i
   · subst e; simp [hlt]
   · rw [if_neg e, if_neg (Ne.symm e), Array.getD_eq_getD_getElem?]
  have hcl2 : Closed ops (fun i => (listed.setIfInBounds j true).getD i false = true) := by
   intro i oi hi hDi e he
   rw [hD2] at hDi ⊢
   by_cases eij : i = j
   · subst eij
     rw [ho] at hi; cases hi
     split
     · rfl
     · exact hp e he
   · rw [if_neg eij] at hDi
     split
     · rfl
     · exact hcl i oi hi hDi e he
  have hcount : (List.range ops.length).countP (fun i => !(listed.setIfInBounds j true).getD i false) ≤ fuel := by
   have := countP_lt (p := fun i => !listed.getD i false) (q := fun i => !(listed.setIfInBounds j true).getD i false) (List.range ops.length)
    (fun x _ hx => by
     simp only [hD2, Bool.not_eq_true'] at hx ⊢
     split at hx
     · cases hx
     · exact hx)
    ⟨j, List.mem_range.2 hjl, by simp [hDj], by simp [hD2]⟩
   omega
  -- the temporaries behind j
  have hnew : ∀ (x : AV), x = v j → upTo ops v (fun i => (listed.setIfInBounds j true).getD i false) T (List.range ops.length) = aput (upTo ops v (fun i => listed.getD i false) T (List.range ops.length)) o.dst x := by
   intro x hx
   subst hx
   have hsplit : List.range ops.length = List.range' 0 j ++ (j :: List.range' (j + 1) (ops.length - (j + 1))) := by
    rw [List.range_eq_range', ← List.range'_succ, show ops.length - (j + 1) + 1 = ops.length - j by omega]
    have h9 := List.range'_append_1 (s := 0) (m := j) (n := ops.length - j)
    rw [Nat.zero_add] at h9
    rw [h9, show j + (ops.length - j) = ops.length by omega]
   apply List.ext_getElem?
   intro t
   have same : ∀ l x, (∀ i ∈ l, i ≠ j) → lastW ops v (fun i => (listed.setIfInBounds j true).getD i false) t l x = lastW ops v (fun i => listed.getD i false) t l x := fun l x hl =>
    lastW_congr l x fun i hi _ => by rw [hD2, if_neg (hl i hi)]
   have hL : (upTo ops v (fun i => (listed.setIfInBounds j true).getD i false) T (List.range ops.length))[t]? =
    lastW ops v (fun i => listed.getD i false) t (List.range' (j + 1) (ops.length - (j + 1))) (if o.dst = some t then (lastW ops v (fun i => listed.getD i false) t (List.range' 0 j) T[t]?).map fun _ => v j else lastW ops v (fun i => listed.getD i false) t (List.range' 0 j) T[t]?) := by
    rw [upTo_get, hsplit, lastW_append, same (List.range' 0 j) _ fun i hi => by have := (List.mem_range'_1.1 hi).2; omega]
    show lastW ops v (fun i => (listed.setIfInBounds j true).getD i false) t (List.range' (j + 1) (ops.length - (j + 1))) (if (listed.setIfInBounds j true).getD j false = true ∧ (ops[j]?).bind (·.dst) = some t then (lastW ops v (fun i => listed.getD i false) t (List.range' 0 j) T[t]?).map fun _ => v j else lastW ops v (fun i => listed.getD i false) t (List.range' 0 j) T[t]?) = _
    rw [ho, show (listed.setIfInBounds j true).getD j false = true by rw [hD2, if_pos rfl]]
    simp only [Option.bind_some, true_and]
    exact same _ _ fun i hi => by have := (List.mem_range'_1.1 hi).1; omega
   have hR : (upTo ops v (fun i => listed.getD i false) T (List.range ops.length))[t]? =
    lastW ops v (fun i => listed.getD i false) t (List.range' (j + 1) (ops.length - (j + 1))) (lastW ops v (fun i => listed.getD i false) t (List.range' 0 j) T[t]?) := by
    rw [upTo_get, hsplit, lastW_append]
    show lastW ops v (fun i => listed.getD i false) t (List.range' (j + 1) (ops.length - (j + 1))) (if listed.getD j false = true ∧ (ops[j]?).bind (·.dst) = some t then (lastW ops v (fun i => listed.getD i false) t (List.range' 0 j) T[t]?).map fun _ => v j else lastW ops v (fun i => listed.getD i false) t (List.range' 0 j) T[t]?) = _
    rw [hDj]
    simp
   rw [hL]
   cases hd : o.dst with
   | none => rw [if_neg (by simp)]; exact hR.symm
   | some d =>
    by_cases e : d = t
    · subst e
      rw [if_pos rfl]
      have hno := (reads_same (v := v) (T := T) hok hcl ho hDj hp (.inr hd)).1
      rw [lastW_none (List.range' (j + 1) _) _ fun i hi hdi => hno i (by have := (List.mem_range'_1.1 hi).1; omega) hdi] at hR ⊢
      simp only [aput, List.getElem?_set, if_true]
      rw [← hR]
      rcases Nat.lt_or_ge d (upTo ops v (fun i => listed.getD i false) T (List.range ops.length)).length with q | q
      · rw [if_pos q, List.getElem?_eq_getElem q]; rfl
      · rw [if_neg (by omega), List.getElem?_eq_none q]; rfl
    · rw [if_neg (by simpa using e)]
      simp only [aput, List.getElem?_set, if_neg e]
      exact hR.symm
  have reads : ∀ t, t ∈ looks ops o → (upTo ops v (fun i => listed.getD i false) T (List.range ops.length))[t]? = (upTo ops v (fun _ => true) T (List.range' 0 j))[t]? := fun t ht =>
   (reads_same (v := v) (T := T) hok hcl ho hDj hp (.inl ht)).2 ht
  have evals : ∀ x ∈ o.op.operands, aeval (upTo ops v (fun i => listed.getD i false) T (List.range ops.length)) x = aeval (upTo ops v (fun _ => true) T (List.range' 0 j)) x := by
   intro x hx
   cases x with
   | tmp t => simp only [aeval, List.getD_eq_getElem?_getD, reads t (operand_look hx)]
   | _ => rfl
  have guards : ∀ g want, o.guard = some (g, want) → guardVal ops (upTo ops v (fun i => listed.getD i false) T (List.range ops.length)) g = guardVal ops (upTo ops v (fun _ => true) T (List.range' 0 j)) g := by
   intro g want hg
   unfold guardVal
   cases hd : (ops[g]?).bind (·.dst) with
   | none => rfl
   | some t =>
    have : t ∈ looks ops o := by
     unfold looks guardTmp
     rw [hg]
     simp [hd]
    simp only [List.getD_eq_getElem?_getD, reads t this]
  obtain ⟨c, H0, hc, H⟩ := H
  have hDj' : Closed ops (fun i => listed.getD i false = true ∨ i = j) := by
   intro i oi hi hDi e he
   rcases hDi with hDi | rfl
   · exact .inl (hcl i oi hi hDi e he)
   · rw [ho] at hi; cases hi; exact .inl (hp e he)
  -- an operation that stands in order with j
  have around : ∀ k ok, ops[k]? = some ok → k ≠ j → Ordd ops k j → (listed.getD k false = true ↔ k < j) := by
   intro k ok hk hne hord
   constructor
   · intro hDk
     rcases Nat.lt_or_ge k j with q | q
     · exact q
     · have := befs_spec hcl hDk (hord.1 (by omega))
       rw [hDj] at this; cases this
   · intro hlt
     rcases befs_spec hDj' (.inr rfl) (hord.2 hlt) with h | h
     · exact h
     · exact absurd h hne
  -- a call or an operation that turns the heap: all before it has run, nothing behind it
  have barHere : isBar o = true → (∀ k ok, ops[k]? = some ok → isBar ok = true → (listed.getD k false = true ↔ k < j)) ∧ (∀ k ok, ops[k]? = some ok → isLight ok = true → (listed.getD k false = true ↔ k < j)) ∧ H0 = hs j := by
   intro hb
   have h1 : ∀ k ok, ops[k]? = some ok → isBar ok = true → (listed.getD k false = true ↔ k < j) := fun k ok hk hbk => by
    by_cases e : k = j
    · subst e; simp [hDj]
    · exact around k ok hk e ((hord j k o ok ho hb hk (by simp [hbk])).symm')
   have h2 : ∀ k ok, ops[k]? = some ok → isLight ok = true → (listed.getD k false = true ↔ k < j) := fun k ok hk hlk => by
    by_cases e : k = j
    · subst e; rw [ho] at hk; cases hk; rw [(light_eff hlk).2] at hb; cases hb
    · exact around k ok hk e ((hord j k o ok ho hb hk (by simp [hlk])).symm')
   have hcj : c = j := by
    have hjc : c ≤ j := by
     rcases Nat.lt_or_ge j c with q | q
     · have := (hc.cut j o ho hb).2 q; simp [hDj] at this
     · exact q
    rcases Nat.lt_or_ge c j with q | q
    · obtain ⟨oc, hoc, hbc⟩ := hc.bar (by omega)
      have := (hc.cut c oc hoc hbc).1 ((h1 c oc hoc hbc).2 q)
      omega
    · omega
   subst hcj
   refine ⟨h1, h2, ?_⟩
   apply List.ext_getElem?
   intro id
   rcases hc.get id with ⟨k, ok, hk, hok, hlk, hD, _⟩ | h
   · rw [(h2 k ok hok hlk).2 hk] at hD; cases hD
   · exact h
  have nextBar : isBar o = true → ∀ (m' : IdMap) (Mut' : Mu) (w' : World), RelH m' Mut' (hs (j + 1)) w' → ∃ c H', Cut ops hs (fun i => (listed.setIfInBounds j true).getD i false) c H' m' ∧ RelH m' Mut' H' w' := by
   intro hb m' Mut' w' H'
   obtain ⟨h1, h2, _⟩ := barHere hb
   refine cut_from hg (j := j + 1) (by omega) (fun k ok hk hbk => ?_) (fun k ok hk hlk => ?_) H'
   · show (listed.setIfInBounds j true).getD k false = true ↔ k < j + 1
     rw [hD2]
     by_cases hkj : k = j
     · rw [if_pos hkj]; simp [hkj]
     · rw [if_neg hkj, h1 k ok hk hbk]; omega
   · show (listed.setIfInBounds j true).getD k false = true ↔ k < j + 1
     rw [hD2]
     by_cases hkj : k = j
     · rw [if_pos hkj]; simp [hkj]
     · rw [if_neg hkj, h2 k ok hk hlk]; omega
  -- the state behind an operation that is no bar: what it kept
  have nextSame : isBar o = false → (isLight o = true → j < c) → (isLight o = true → (hs (j + 1)).length ≠ (hs j).length + 1) → ∀ (m' : IdMap), (∀ id n, m' id n = m id n) → Cut ops hs (fun i => (listed.setIfInBounds j true).getD i false) c H0 m' := by
   intro hb hlc hno m' hm'
   have hD3 : ∀ k, k ≠ j → (listed.setIfInBounds j true).getD k false = listed.getD k false := fun k hk => by rw [hD2, if_neg hk]
   have hD4 : ∀ k, (listed.setIfInBounds j true).getD k false = false → k ≠ j ∧ listed.getD k false = false := fun k hk => by
    rw [hD2] at hk
    split at hk
    · cases hk
    · rename_i e; exact ⟨e, hk⟩
   refine ⟨hc.le, hc.bar, fun k ok hk hbk => ?_, fun k ok hk hlk hD => ?_, fun k ok hk hok hlk hD i oi hi hic hoi => hc.pure k ok hk hok hlk (hD4 k hD).2 i oi hi hic hoi, hc.len, fun k ok hk hok hlk hD hgr n => by rw [hm']; exact hc.pend k ok hk hok hlk (hD4 k hD).2 hgr n, fun id => ?_⟩
   · have : k ≠ j := fun e => by subst e; rw [ho] at hk; cases hk; rw [hb] at hbk; cases hbk
     show (listed.setIfInBounds j true).getD k false = true ↔ k < c
     rw [hD3 k this]; exact hc.cut k ok hk hbk
   · by_cases e : k = j
     · subst e; rw [ho] at hk; cases hk; exact hlc hlk
     · exact hc.light k ok hk hlk (by rw [← hD3 k e]; exact hD)
   · rcases hc.get id with ⟨k, ok, hk, hok, hlk, hD, e1, e2⟩ | h
     · left
       have : k ≠ j := fun e => by subst e; rw [ho] at hok; cases hok; exact hno hlk (by omega)
       exact ⟨k, ok, hk, hok, hlk, by show (listed.setIfInBounds j true).getD k false = false; rw [hD3 k this]; exact hD, e1, e2⟩
     · exact .inr h
  -- a light operation stands before the next bar
  have lightIn : isLight o = true → j < c ∧ (∀ i oi, j < i → i < c → ops[i]? = some oi → isBar oi = false) := by
   intro hl
   have hjc : j < c := by
    rcases Nat.lt_or_ge j c with q | q
    · exact q
    · obtain ⟨oc, hoc, hbc⟩ := hc.bar (by omega)
      have hne : c ≠ j := fun e => by subst e; rw [ho] at hoc; cases hoc; rw [(light_eff hl).2] at hbc; cases hbc
      have := (around c oc hoc hne (hord c j oc o hoc hbc ho (by simp [hl]))).2 (by omega)
      have := (hc.cut c oc hoc hbc).1 this
      omega
   exact ⟨hjc, fun i oi hi hic hoi => hc.pure j o hjc ho hl hDj i oi hi hic hoi⟩
  have segTo : ∀ a b, a ≤ b → b ≤ ops.length → (∀ k ok, a ≤ k → k < b → ops[k]? = some ok → isEff ok = true → isLight ok = true) → ∃ vs, hs b = hs a ++ vs := fun a b h1 h2 h3 => by
   obtain ⟨vs, e, _⟩ := seg hg a b h1 h2 h3; exact ⟨vs, e⟩
  have step : OpDone P o (upTo ops v (fun _ => true) T (List.range' 0 j)) (hs j) (hs (j + 1)) (v j) →
   o.wp P a w (wpAny P .any ops.toArray (APost Q m0 Mut0 w0) fuel (listed.setIfInBounds j true)) (APost Q m0 Mut0 w0) := by
   intro hdn
   cases hb : isBar o with
   | true =>
    obtain ⟨h1, h2, rfl⟩ := barHere hb
    rcases hdn with ⟨he, ds, cs, ds', hres, hcs⟩ | ⟨he, hh, ds, cs, ds', hres, hcs, hpo⟩
    · rw [← opRes_congr evals he] at hres
      refine opRes_sound hres hcs m Mut w a _ _ H hT fun m' Mut' w' x E' H' hx => ?_
      exact ih _ m' Mut' w' _ (by simp [hsz]) hcount hcl2 (E.trans E') (nextBar hb m' Mut' w' H') (by rw [hnew _ rfl]; exact (hT.ext E').put o.dst hx)
    · rw [← opResQ_congr evals] at hres
      refine opResQ_sound hres hcs m Mut w a _ _ H hT fun m' Mut' w' x E' H' hx => ?_
      exact ih _ m' Mut' w' _ (by simp [hsz]) hcount hcl2 (E.trans E') (nextBar hb m' Mut' w' (by rw [hh]; exact H')) (by rw [hnew _ rfl]; exact (hT.ext E').put o.dst hx)
   | false =>
    rcases hdn with ⟨he, ds, cs, ds', hres, hcs⟩ | ⟨he, hh, ds, cs, ds', hres, hcs, hpo⟩
    · have hl := notBar hb he
      rw [← opRes_congr evals he] at hres
      obtain ⟨z, hv, hz, hat⟩ := light_res hl hres
      obtain ⟨hjc, hpure⟩ := lightIn hl
      obtain ⟨us, hus⟩ := segTo (j + 1) c hjc hc.le fun k ok a1 a2 hok => notBar (hpure k ok (by omega) a2 hok)
      have hgr : (hs (j + 1)).length = (hs j).length + 1 := by rw [hz]; simp
      have hlen : (hs j).length < H0.length := by rw [hc.len, hus, hz]; simp
      refine hat m Mut w a _ _ H0 H hT hlen (hc.pend j o hjc ho hl hDj hgr) fun m' Mut' w' x E' H' hx hmm => ?_
      refine ih _ m' Mut' w' _ (by simp [hsz]) hcount hcl2 (E.trans E') ⟨c, _, ?_, H'⟩ (by rw [hnew _ hv.symm]; exact (hT.ext E').put o.dst hx)
      have hD3 : ∀ k, k ≠ j → (listed.setIfInBounds j true).getD k false = listed.getD k false := fun k hk => by rw [hD2, if_neg hk]
      have hD4 : ∀ k, (listed.setIfInBounds j true).getD k false = false → k ≠ j ∧ listed.getD k false = false := fun k hk => by
       rw [hD2] at hk
       split at hk
       · cases hk
       · rename_i e; exact ⟨e, hk⟩
      -- two that make a variable have two places
      have apart : ∀ k ok, k < c → ops[k]? = some ok → isLight ok = true → listed.getD k false = false → (hs (k + 1)).length = (hs k).length + 1 → k ≠ j → (hs k).length ≠ (hs j).length := by
       intro k ok hk hok hlk hD hgk hne
       rcases Nat.lt_or_ge k j with q | q
       · obtain ⟨vs, e⟩ := segTo (k + 1) j q (by have := hc.le; omega) fun i oi a1 a2 hoi => notBar (hc.pure k ok hk hok hlk hD i oi (by omega) (by omega) hoi)
         rw [e]; simp; omega
       · obtain ⟨vs, e⟩ := segTo (j + 1) k (by omega) (by have := hc.le; omega) fun i oi a1 a2 hoi => notBar (hpure i oi (by omega) (by omega) hoi)
         rw [e, hz]; simp
      refine ⟨hc.le, hc.bar, fun k ok hk hbk => ?_, fun k ok hk hlk hD => ?_, fun k ok hk hok hlk hD i oi hi hic hoi => hc.pure k ok hk hok hlk (hD4 k hD).2 i oi hi hic hoi, by rw [List.length_set]; exact hc.len, fun k ok hk hok hlk hD hgk n => ?_, fun id => ?_⟩
      · have : k ≠ j := fun e => by subst e; rw [ho] at hk; cases hk; rw [hb] at hbk; cases hbk
        show (listed.setIfInBounds j true).getD k false = true ↔ k < c
        rw [hD3 k this]; exact hc.cut k ok hk hbk
      · by_cases e : k = j
        · subst e; exact hjc
        · exact hc.light k ok hk hlk (by rw [← hD3 k e]; exact hD)
      · obtain ⟨hne, hD⟩ := hD4 k hD
        rw [hmm _ n (apart k ok hk hok hlk hD hgk hne)]
        exact hc.pend k ok hk hok hlk hD hgk n
      · rw [List.getElem?_set]
        by_cases e : (hs j).length = id
        · right
          rw [if_pos e, if_pos (by omega), hus, hz, ← e, List.getElem?_append_left (by simp), List.getElem?_append_right (Nat.le_refl _)]
          simp
        · rw [if_neg e]
          rcases hc.get id with ⟨k, ok, hk, hok, hlk, hD, e1, e2⟩ | h
          · left
            have hne : k ≠ j := fun e' => e (by rw [← e', e1])
            exact ⟨k, ok, hk, hok, hlk, by show (listed.setIfInBounds j true).getD k false = false; rw [hD3 k hne]; exact hD, e1, e2⟩
          · exact .inr h
    · have hnl : isLight o = false := by
       cases hl : isLight o with
       | false => rfl
       | true => rw [(light_eff hl).1] at he; cases he
      cases hpu : isPure o with
      | true =>
       obtain ⟨g, args, e1, e2, e3⟩ := hpo hpu
       rw [← pureCall_congr evals] at e1
       refine pure_wp e1 e2 e3 H hT fun w' x E' H' hx => ?_
       exact ih _ m Mut w' _ (by simp [hsz]) hcount hcl2 (E.trans E') ⟨c, H0, nextSame hb (fun h => by rw [hnl] at h; cases h) (fun h => by rw [hnl] at h; cases h) m fun _ _ => rfl, H'⟩ (by rw [hnew _ rfl]; exact (hT.ext E').put o.dst hx)
      | false =>
      have hcf : isCallV o = false := by
       cases hl : isCallV o with
       | false => rfl
       | true => simp [isBar, isCallF, hl, hpu] at hb
      rw [← opResQ_congr evals] at hres
      -- what it reads stands in the heap aas in the text's order
      have sees : isReader o = true → ∀ x ∈ o.op.operands, Sees (hs j) H0 (aeval (upTo ops v (fun i => listed.getD i false) T (List.range ops.length)) x) := by
       intro hrd x hx id ob hat hob
       obtain ⟨n, y, hm⟩ := at_mapped (hT.eval x) hat
       have hid := H.dom id n y hm
       have hat' : (aeval (upTo ops v (fun _ => true) T (List.range' 0 j)) x).at = some id := by rw [← evals x hx]; exact hat
       have hev : ∀ k ok, ops[k]? = some ok → isEff ok = true → isLight ok = false → (k < c ↔ k < j) ∨ ∀ y, (hs k)[id]? = some y → (hs (k + 1))[id]? = some y := fun k ok hk hek hlk => by
        have hbk : isBar ok = true := by simp [isBar, hek, hlk]
        rcases hap k j ok o hk hek hlk ho he hrd with q | q
        · left
          rw [← hc.cut k ok hk hbk]
          by_cases e : k = j
          · subst e; rw [ho] at hk; cases hk; rw [he] at hek; cases hek
          · exact around k ok hk e q
        · exact .inr (q x hx id hat')
       have walk : ∀ n a, (∀ k, a ≤ k → k < a + n → (k < c ↔ k < j) → False) → a + n ≤ ops.length → ∀ y, (hs a)[id]? = some y → (hs (a + n))[id]? = some y := by
        intro n
        induction n with
        | zero => intro a _ _ y hy; exact hy
        | succ n ihn =>
         intro a hno hle y hy
         have h1 := ihn a (fun k a1 a2 => hno k a1 (by omega)) (by omega) y hy
         have hlt : a + n < ops.length := by omega
         have hok' : ops[a + n]? = some ops[a + n] := List.getElem?_eq_getElem hlt
         show (hs (a + n + 1))[id]? = some y
         cases hek : isEff ops[a + n] with
         | false => rw [hg.1 _ _ hok' hek]; exact h1
         | true =>
          cases hlk : isLight ops[a + n] with
          | true =>
           rcases hg.2 _ _ hok' hlk with e | ⟨z, e⟩
           · rw [e]; exact h1
           · rw [e, List.getElem?_append_left (List.getElem?_eq_some_iff.1 h1).1]; exact h1
          | false =>
           rcases hev _ _ hok' hek hlk with q | q
           · exact (hno _ (by omega) (by omega) q).elim
           · exact q y h1
       rcases hc.get id with ⟨k, ok, hk, hok, hlk, hD, e1, e2⟩ | hget
       · have := hc.pend k ok hk hok hlk hD (by omega) n
         rw [e1, hm] at this; cases this
       rw [hget]
       rcases Nat.le_total j c with q | q
       · have := walk (c - j) j (fun k a1 a2 hh => by have := hh.1 (by omega); omega) (by have := hc.le; omega) _ hob
         rw [show j + (c - j) = c by omega] at this
         exact this
       · rw [hc.len] at hid
         have := walk (j - c) c (fun k a1 a2 hh => by have := hh.2 (by omega); omega) (by omega) _ (List.getElem?_eq_getElem hid)
         rw [show c + (j - c) = j by omega, hob] at this
         rw [List.getElem?_eq_getElem hid, this]
      have hres := opResQ_mono hcf sees hres
      refine quiet_wp hcf hres hcs H hT fun w' x E' H' hx => ?_
      exact ih _ m Mut w' _ (by simp [hsz]) hcount hcl2 (E.trans E') ⟨c, H0, nextSame hb (fun h => by rw [hnl] at h; cases h) (fun h => by rw [hnl] at h; cases h) m fun _ _ => rfl, H'⟩ (by rw [hnew _ rfl]; exact (hT.ext E').put o.dst hx)
  have skip : v j = .undef → hs (j + 1) = hs j → wpAny P .any ops.toArray (APost Q m0 Mut0 w0) fuel (listed.setIfInBounds j true) (a.put o.dst Go.undef) w := fun hv hh =>
   ih _ m Mut w _ (by simp [hsz]) hcount hcl2 E (by
    cases hb : isBar o with
    | true =>
     obtain ⟨_, _, rfl⟩ := barHere hb
     exact nextBar hb m Mut w (by rw [hh]; exact H)
    | false => exact ⟨c, H0, nextSame hb (fun hl => (lightIn hl).1) (fun hl => by rw [hh]; omega) m fun _ _ => rfl, H⟩) (by rw [hnew _ rfl, hv]; exact hT.put o.dst .undef)
  unfold wpOp
  simp only [List.getElem?_toArray, ho]
  rcases hf j o ho with ⟨hg, hres⟩ | ⟨g, want, q, hg, hgv, hres⟩ | ⟨g, want, hg, hgv, hv, hh⟩
  · rw [if_pos (by simp [Region.wanted, hg])]
    exact .inl (step hres)
  · have hy := guard_bool hT ((guards g want hg).trans hgv)
    rcases hres with ⟨rfl, hres⟩ | ⟨hne, hv, hh⟩
    · rw [if_pos (by simp [Region.wanted, hg, hy])]
      exact .inl (step hres)
    · rw [if_neg (by simp [Region.wanted, hg, hy, hne])]
      exact skip hv hh
  · have hy := guard_undef hT ((guards g want hg).trans hgv)
    rw [if_neg (by simp [Region.wanted, hg, hy])]
    exact skip hv hh
theorem WPC.regionDrawF {id : Nat} {ops : Array Oper} {h : AHeap} {T : List AV} {Q : Exit → List AV → AHeap → Prop} {v : Nat → AV} {hs : Nat → AHeap} (hmix : P.follows .mixedOrders = true) (hok : drawOk ops.toList = true)
 (hord : ∀ (k j : Nat) (ok oj : Oper), ops.toList[k]? = some ok → isBar ok = true → ops.toList[j]? = some oj → (isBar oj || isLight oj) = true → Ordd ops.toList k j)
 (hap : ∀ (k j : Nat) (ok oj : Oper), ops.toList[k]? = some ok → isEff ok = true → isLight ok = false → ops.toList[j]? = some oj → isEff oj = false → isReader oj = true →
  Ordd ops.toList k j ∨ ∀ x ∈ oj.op.operands, ∀ id, (aeval (upTo ops.toList v (fun _ => true) T (List.range' 0 j)) x).at = some id → ∀ y, (hs k)[id]? = some y → (hs (k + 1))[id]? = some y)
 (h0 : hs 0 = h) (hK : Q .normal (upTo ops.toList v (fun _ => true) T (List.range ops.toList.length)) (hs ops.toList.length))
 (hf : ∀ j o, ops.toList[j]? = some o → OpFactE P ops.toList (hs j) (hs (j + 1)) o (upTo ops.toList v (fun _ => true) T (List.range' 0 j)) (v j)) : WPC P (.region id ops true) T h Q := by
 intro m0 Mut0 w0 m Mut w a E H hT
 refine wp_region_any hmix ?_
 have e0 : upTo ops.toList v (fun i => (Array.replicate ops.size false).getD i false) T (List.range ops.toList.length) = T := by
  apply List.ext_getElem?
  intro t
  rw [upTo_get, lastW_none]
  intro i hi _
  have := List.mem_range.1 hi
  simp only [Array.length_toList] at this
  simp [Array.getD, this]
 have E' : Ext m0 Mut0 w0 m Mut { w with drawn := w.drawn + 1 } := E.trans (.drew m Mut w _)
 refine draw_soundE (Q := Q) (v := v) (hs := hs) (T := T) (ops := ops.toList) hok hord hap (fun j o ho => ?_) ?_ ops.size _ m Mut _ a (by simp) ?_ ?_ E' (cut_from ⟨fun j o ho he => (hf j o ho).quiet he, fun j o ho hl => (hf j o ho).grow hl⟩ (Nat.zero_le _) (fun k o hk he => ?_) (fun k o hk he => ?_) (by rw [h0]; exact H.drew _)) ?_
 · exact hf j o ho
 · exact hK
 · exact Nat.le_trans (List.countP_le_length) (by simp)
 · intro j o ho hj
   rw [Array.getD_eq_getD_getElem?, Array.getElem?_replicate] at hj
   split at hj <;> cases hj
 · have hkl : k < ops.size := by have := (List.getElem?_eq_some_iff.1 hk).1; simpa using this
   simp [Array.getD, hkl]
 · have hkl : k < ops.size := by have := (List.getElem?_eq_some_iff.1 hk).1; simpa using this
   simp [Array.getD, hkl]
 · rw [e0]
   exact hT.ext (.drew m Mut w _)
theorem WPC.regionDrawE {id : Nat} {ops : Array Oper} {h : AHeap} {T : List AV} {Q : Exit → List AV → AHeap → Prop} {ds : List Dec} {K : List AV → AHeap → List Dec → Prop} (hmix : P.follows .mixedOrders = true) (hok : drawOk ops.toList = true) (heff : drawEff ops.toList = true)
 (hr : runOpsE P ops.toList ops.toList T h ds K) (hk : ∀ T h ds, K T h ds → Q .normal T h) : WPC P (.region id ops true) T h Q := by
 obtain ⟨v, hs, ds', h0, hK, hf⟩ := runOpsE_facts ops.toList 0 T h ds rfl hr
 refine .regionDrawF (v := v) (hs := hs) hmix hok (fun k j ok oj hk hb hj hm => drawEff_spec heff hk hb hj (by unfold mustOrd; rw [hm]; rfl))
  (fun k j ok oj hk he hl hj he2 hr2 => .inl (drawEff_spec heff hk (by simp [isBar, he, hl]) hj (by simp [mustOrd, he, hr2]))) h0 ?_ fun j o ho => by simpa using hf j o (Nat.zero_le _) ho
 rw [List.range_eq_range']
 exact hk _ _ _ (by simpa using hK)
theorem stays_eval {ops : List Oper} {v : Nat → AV} {T : List AV} {k : Nat} {x : Operand} (hk : k ≤ ops.length) (h : stays ops k x = true) :
 aeval (upTo ops v (fun _ => true) T (List.range' 0 ops.length)) x = aeval (upTo ops v (fun _ => true) T (List.range' 0 k)) x := by
 cases x with
 | tmp t =>
  simp only [aeval, List.getD_eq_getElem?_getD, upTo_get]
  rw [show List.range' 0 ops.length = List.range' 0 k ++ List.range' k (ops.length - k) by
   have h9 := List.range'_append_1 (s := 0) (m := k) (n := ops.length - k)
   rw [Nat.zero_add] at h9
   rw [h9, show k + (ops.length - k) = ops.length by omega], lastW_append]
  congr 1
  refine lastW_none _ _ fun i hi hd => ?_
  exfalso
  have hik := List.mem_range'_1.1 hi
  simp only [stays, List.all_eq_true] at h
  cases ho : ops[i]? with
  | none => rw [ho] at hd; cases hd
  | some o =>
   rw [ho] at hd
   simp only [Option.bind_some] at hd
   have := h o (List.mem_of_getElem? (i := i - k) (by rw [List.getElem?_drop, show k + (i - k) = i by omega]; exact ho))
   rw [hd] at this
   simp at this
 | _ => rfl
theorem store_touch {h h' : AHeap} {o : Oper} {T : List AV} {ds ds' : List Dec} {cs : List Prop} {v : AV} (hs : isStore o = true) (hr : opRes P o T h ds = some (cs, v, h', ds')) :
 ∃ i x, (aeval T (addrOf o)).at = some i ∧ h' = h.set i x := by
 unfold isStore at hs
 split at hs
 · rename_i t a x ho
   have hq : aopQ P h (aeval T) o = none := by unfold aopQ; rw [ho]
   unfold opRes at hr
   rw [ho] at hr
   simp only [hq] at hr
   unfold aopE at hr
   rw [ho] at hr
   simp only [Option.map_map, Option.map_eq_some_iff, Function.comp, Prod.exists, Prod.mk.injEq] at hr
   obtain ⟨c, h1, hst, _, _, rfl, _⟩ := hr
   unfold astore at hst
   unfold addrOf
   rw [ho]
   simp only
   split at hst
   · split at hst
     · rename_i id n sz i off ha
       rw [ha]
       split at hst
       · split at hst
         · simp only [Option.map_eq_some_iff, Prod.mk.injEq] at hst
           obtain ⟨y, _, _, rfl⟩ := hst
           exact ⟨_, _, rfl, rfl⟩
         · cases hst
       · split at hst
         · split at hst
           · simp only [Option.map_eq_some_iff, Prod.mk.injEq] at hst
             obtain ⟨y, _, _, rfl⟩ := hst
             exact ⟨_, _, rfl, rfl⟩
           · cases hst
         · cases hst
       · cases hst
     · cases hst
   · cases hst
 · cases hs
theorem AV.at_turned {a : AV} {i : Nat} (h : a.at = some i) : a.turned = some i := by
 cases a <;> first | exact h | cases h
theorem app_touch {h h' : AHeap} {o : Oper} {T : List AV} {ds ds' : List Dec} {cs : List Prop} {v : AV} (hs : isApp o = true) (hr : opRes P o T h ds = some (cs, v, h', ds')) {i : Nat}
 (hne : ∀ i', (aeval T (addrOf o)).turned = some i' → i' ≠ i) {y : AObj} (hy : h[i]? = some y) : h'[i]? = some y := by
 unfold isApp at hs
 split at hs
 · rename_i c ho
   split at hs
   · rename_i hc
     have hq : aopQ P h (aeval T) o = none ∨ aopQ P h (aeval T) o ≠ none := by by_cases e : aopQ P h (aeval T) o = none; exact .inl e; exact .inr e
     unfold opRes at hr
     rw [ho] at hr
     simp only [hc] at hr
     split at hr
     · rename_i x hx
       cases hr
       exact hy
     · unfold aopE at hr
       rw [ho] at hr
       simp only [hc] at hr
       split at hr
       · rename_i s x t t' mode shift ds2 _ h3 h4
         have hadr : addrOf o = s := by unfold addrOf; rw [ho]; simp only [h3]; rfl
         rw [hadr] at hne
         split at hr
         · simp only [Option.map_map, Option.map_eq_some_iff, Function.comp, Prod.exists, Prod.mk.injEq] at hr
           obtain ⟨c1, v1, h1, hap, _, _, rfl, _⟩ := hr
           unfold aapp at hap
           split at hap
           · split at hap
             · split at hap
               · split at hap
                 · cases hap; exact hy
                 · cases hap; exact hy
                 · cases hap
                   rw [List.getElem?_append_left (List.getElem?_eq_some_iff.1 hy).1]; exact hy
                 · rename_i h6 h7 h8
                   have hne' := hne _ (by first | (rw [h6]; rfl) | (rw [h7]; rfl) | (rw [h8]; rfl) | trace_state)
                   split at hap
                   · split at hap
                     · split at hap
                       · cases hap; rw [List.getElem?_set_ne hne']; exact hy
                       · cases hap; rw [List.getElem?_set_ne hne']; exact hy
                     · cases hap
                   · cases hap
                 · cases hap
               · cases hap
             · cases hap
           · cases hap
         · cases hr
       · cases hr
   · cases hs
 · cases hs
theorem touch_same {h h' : AHeap} {o : Oper} {T : List AV} {ds ds' : List Dec} {cs : List Prop} {v : AV} (hs : isTouch o = true) (hr : opRes P o T h ds = some (cs, v, h', ds')) {i : Nat}
 (hne : ∀ i', (aeval T (addrOf o)).turned = some i' → i' ≠ i) {y : AObj} (hy : h[i]? = some y) : h'[i]? = some y := by
 unfold isTouch at hs
 cases hst : isStore o with
 | true =>
  obtain ⟨i', z, e1, e2⟩ := store_touch hst hr
  rw [e2, List.getElem?_set_ne (hne _ (AV.at_turned e1))]
  exact hy
 | false =>
  rw [hst] at hs
  exact app_touch hs hr hne hy
theorem load_operand {o : Oper} (h : isLoad o = true) {x : Operand} (hx : x ∈ o.op.operands) : x = addrOf o := by
 unfold isLoad at h
 split at h
 · rename_i t a ho
   unfold addrOf
   rw [ho] at hx ⊢
   simpa [Op.operands] using hx
 · cases h
theorem WPC.regionDrawG {id : Nat} {ops : Array Oper} {h : AHeap} {T : List AV} {Q : Exit → List AV → AHeap → Prop} {v : Nat → AV} {hs : Nat → AHeap} (hmix : P.follows .mixedOrders = true) (hok : drawOk ops.toList = true)
 (heff : drawEff ops.toList = true ∨ (drawEff2 ops.toList = true ∧ apartOk ops.toList (upTo ops.toList v (fun _ => true) T (List.range' 0 ops.toList.length)) = true))
 (h0 : hs 0 = h) (hK : Q .normal (upTo ops.toList v (fun _ => true) T (List.range' 0 ops.toList.length)) (hs ops.toList.length))
 (hf : ∀ j o, ops.toList[j]? = some o → OpFactE P ops.toList (hs j) (hs (j + 1)) o (upTo ops.toList v (fun _ => true) T (List.range' 0 j)) (v j)) : WPC P (.region id ops true) T h Q := by
 rcases heff with heff | ⟨heff, hapart⟩
 · exact .regionDrawF (v := v) (hs := hs) hmix hok (fun k j ok oj hk hb hj hm => drawEff_spec heff hk hb hj (by unfold mustOrd; rw [hm]; rfl))
    (fun k j ok oj hk he hl hj he2 hr2 => .inl (drawEff_spec heff hk (by simp [isBar, he, hl]) hj (by simp [mustOrd, he, hr2]))) h0 (by rw [List.range_eq_range']; exact hK) hf
 · refine .regionDrawF (v := v) (hs := hs) hmix hok (fun k j ok oj hk hb hj hm => ?_) (fun k j ok oj hk he hl hj he2 hr2 => ?_) h0 (by rw [List.range_eq_range']; exact hK) hf
   · rcases drawEff2_spec heff hk hb hj (by unfold mustOrd; rw [hm]; rfl) with q | ⟨_, q⟩
     · exact q
     · exfalso
       unfold isLoad at q
       split at q
       · rename_i ho
         simp [isBar, isLight, isCallF, isCallV, isEff, ho] at hm
       · cases q
   · rcases drawEff2_spec heff hk (by simp [isBar, he, hl]) hj (by simp [mustOrd, he, hr2]) with q | ⟨q1, q2⟩
     · exact .inl q
     · unfold apartOk at hapart
       have h1 := List.all_eq_true.1 hapart k (List.mem_range.2 (List.getElem?_eq_some_iff.1 hk).1)
       rw [hk] at h1
       simp only [q1, Bool.not_true, Bool.false_or, List.all_eq_true] at h1
       have h2 := h1 j (List.mem_range.2 (List.getElem?_eq_some_iff.1 hj).1)
       rw [hj] at h2
       simp only [q2, Bool.not_true, Bool.false_or, Bool.or_eq_true, Bool.and_eq_true] at h2
       rcases h2 with h2 | ⟨⟨h2, h3⟩, h4⟩
       · exact .inl (inOrd_spec h2)
       · refine .inr fun x hx i hi y hy => ?_
         rw [load_operand q2 hx, ← stays_eval (Nat.le_of_lt (List.getElem?_eq_some_iff.1 hj).1) h3] at hi
         rw [hi] at h4
         simp only at h4
         rw [stays_eval (Nat.le_of_lt (List.getElem?_eq_some_iff.1 hk).1) h2] at h4
         have dn : OpDone P ok (upTo ops.toList v (fun _ => true) T (List.range' 0 k)) (hs k) (hs (k + 1)) (v k) → (hs (k + 1))[i]? = some y := fun hd => by
          rcases hd with ⟨_, ds, cs, ds', hres, _⟩ | ⟨h5, _⟩
          · refine touch_same q1 hres (fun i' e => ?_) hy
            rw [e] at h4
            simp only [Bool.not_eq_true'] at h4
            rintro rfl
            simp at h4
          · rw [he] at h5; cases h5
         rcases hf k ok hk with ⟨_, hd⟩ | ⟨_, _, _, _, _, ⟨_, hd⟩ | ⟨_, _, hd⟩⟩ | ⟨_, _, _, _, _, hd⟩
         · exact dn hd
         · exact dn hd
         · rw [hd]; exact hy
         · rw [hd]; exact hy
theorem WPC.regionDrawE2 {id : Nat} {ops : Array Oper} {h : AHeap} {T : List AV} {Q : Exit → List AV → AHeap → Prop} {ds : List Dec} {K : List AV → AHeap → List Dec → Prop} (hmix : P.follows .mixedOrders = true) (hok : drawOk ops.toList = true) (heff : drawEff2 ops.toList = true)
 (hr : runOpsE P ops.toList ops.toList T h ds fun T' h' ds' => match apartOk ops.toList T' with | true => K T' h' ds' | false => False) (hk : ∀ T h ds, K T h ds → Q .normal T h) : WPC P (.region id ops true) T h Q := by
 obtain ⟨v, hs, ds', h0, hK, hf⟩ := runOpsE_facts ops.toList 0 T h ds rfl hr
 rw [Nat.sub_zero] at hK
 split at hK
 · rename_i hapart
   exact .regionDrawG (v := v) (hs := hs) hmix hok (.inr ⟨heff, hapart⟩) h0 (hk _ _ _ hK) fun j o ho => by simpa using hf j o (Nat.zero_le _) ho
 · exact hK.elim
end
end Go.Proofs.Ytjdbmmilcihpoaa
namespace Go.Proofs.Ytjdbmmilcihpoaa
set_option linter.unusedVariables false
set_option linter.unusedSimpArgs false
/-- A loop comes to one outcome. -/
def LoopTo (P : Program) (c : Code) (T : List AV) (h : AHeap) (e : Exit) (T' : List AV) (h' : AHeap) : Prop := WPC P (.loop c) T h fun e2 T2 h2 => e2 = e ∧ T2 = T' ∧ h2 = h'
/-- Rounds of a loop, one after the other. -/
def runLoop (body : List AV → AHeap → List Dec → (Exit → List AV → AHeap → List Dec → Prop) → Prop) : Nat → List AV → AHeap → List Dec → (Exit → List AV → AHeap → List Dec → Prop) → Prop
 | 0, _, _, _, _ => False
 | n + 1, T, h, ds, K => body T h ds fun e T' h' ds' => match e with
  | .normal => runLoop body n T' h' ds' K
  | e => K e T' h' ds'
def run (P : Program) : Code → List AV → AHeap → List Dec → (Exit → List AV → AHeap → List Dec → Prop) → Prop
 | .skip, T, h, ds, K => K .normal T h ds
 | .label _, T, h, ds, K => K .normal T h ds
 | .ret, T, h, ds, K => K .ret T h ds
 | .exit id, T, h, ds, K => K (.exit id) T h ds
 | .seq x y, T, h, ds, K => run P x T h ds fun e T' h' ds' => match e with | .normal => run P y T' h' ds' K | e => K e T' h' ds'
 | .cond c x y, T, h, ds, K =>
  match aeval T c, ds with
  | .bool q, .b d :: ds' => q = d ∧ (match d with | true => run P x T h ds' K | false => run P y T h ds' K)
  | _, _ => False
 | .block id c, T, h, ds, K => run P c T h ds fun e T' h' ds' => match e with
  | .exit id' => (match Nat.beq id' id with | true => K .normal T' h' ds' | false => K (.exit id') T' h' ds')
  | e => K e T' h' ds'
 | .scope c, T, h, ds, K => run P c T h ds fun e T' h' ds' => match e with
  | .goto _ => False
  | e => K e T' h' ds'
 | .loop c, T, h, ds, K =>
  match ds with
  | .loop ks e T2 h2 :: ds' => LoopTo P c (mask ks T) h e T2 h2 ∧ K e T2 h2 ds'
  | .virt dd vs :: .loop ks e T2 h2 :: ds' => vstOk vs T (killH dd h) ∧ LoopTo P c (mask ks (vst vs T (killH dd h)).1) (vst vs T (killH dd h)).2 e T2 h2 ∧ K e T2 h2 ds'
  | .rounds n :: ds' => runLoop (run P c) n T h ds' K
  | _ => False
 | .region _ ops false, T, h, ds, K => runOps P ops.toList ops.toList T h ds fun T' h' ds' => K .normal T' h' ds'
 | .region _ ops true, T, h, ds, K => match drawOk ops.toList with
  | true => (match ops.toList.any isEff with
   | false => runOpsQ P ops.toList h ops.toList T ds fun T' ds' => K .normal T' h ds'
   | true => (match drawEff ops.toList with
    | true => runOpsE P ops.toList ops.toList T h ds fun T' h' ds' => K .normal T' h' ds'
    | false => (match drawEff2 ops.toList with
     | true => runOpsE P ops.toList ops.toList T h ds fun T' h' ds' => match apartOk ops.toList T' with | true => K .normal T' h' ds' | false => False
     | false => False)))
  | false => False
 | _, _, _, _, _ => False
def ares1 (P : Program) (T : List AV) (h : AHeap) : ResultVar → Option (List Prop × AV)
 | .tmp t => some ([], T.getD t .any)
 | .cell a t => match cellsAt h (T.getD a .any) with
  | some (c, cs) => if (P.underlying t).isSome then (takeT P t cs).map fun v => (c.list, v) else none
  | none => none
def aresL (P : Program) (T : List AV) (h : AHeap) : List ResultVar → Option (List Prop × List AV)
 | [] => some ([], [])
 | r :: rs => match ares1 P T h r, aresL P T h rs with
  | some (c, v), some (cs, vs) => some (c ++ cs, v :: vs)
  | _, _ => none
def oneOf : List AV → AV
 | [v] => v
 | vs => .tup vs
def initT (fn : Func) (args : List AV) : List AV := args ++ List.replicate (fn.ntmps - args.length) .undef
section
variable {P : Program}
theorem run_sound (hmix : P.follows .mixedOrders = true) : ∀ (c : Code) (T : List AV) (h : AHeap) (ds : List Dec) (K : Exit → List AV → AHeap → List Dec → Prop), run P c T h ds K → WPC P c T h fun e T' h' => ∃ ds', K e T' h' ds' := by
 intro c
 induction c with
 | skip => intro T h ds K hr; exact .skip ⟨ds, hr⟩
 | label l => intro T h ds K hr; exact .label ⟨ds, hr⟩
 | ret => intro T h ds K hr; exact .ret ⟨ds, hr⟩
 | exit id => intro T h ds K hr; exact .exit ⟨ds, hr⟩
 | seq x y ihx ihy =>
  intro T h ds K hr
  refine .seq ((ihx T h ds _ hr).mono fun e T' h' ⟨ds', hk⟩ => ?_)
  cases e with
  | normal => exact ihy T' h' ds' K hk
  | _ => exact ⟨ds', hk⟩
 | cond c x y ihx ihy =>
  intro T h ds K hr
  unfold run at hr
  split at hr
  · rename_i q d ds' hc
    obtain ⟨hq, hr⟩ := hr
    refine .cond hc hq ?_
    cases d with
    | true => exact ihx T h ds' K hr
    | false => exact ihy T h ds' K hr
  · exact hr.elim
 | block id c ih =>
  intro T h ds K hr
  refine .block ((ih T h ds _ hr).mono fun e T' h' ⟨ds', hk⟩ => ?_)
  cases e with
  | exit id' =>
   simp only [inBlk]
   simp only at hk
   by_cases e : id' = id
   · subst e
     rw [if_pos rfl]
     simp only [Nat.beq_refl] at hk
     exact ⟨ds', hk⟩
   · rw [if_neg e]
     rw [show Nat.beq id' id = false by cases hb : Nat.beq id' id with | false => rfl | true => exact absurd (Nat.eq_of_beq_eq_true hb) e] at hk
     exact ⟨ds', hk⟩
  | _ => exact ⟨ds', hk⟩
 | scope c ih =>
  intro T h ds K hr
  refine .scope ((ih T h ds _ hr).mono fun e T' h' ⟨ds', hk⟩ => ?_)
  cases e with
  | goto l => exact hk.elim
  | _ => exact ⟨ds', hk⟩
 | loop c ih =>
  intro T h ds K hr
  unfold run at hr
  split at hr
  · rename_i ks e T2 h2 ds'
    obtain ⟨hl, hk⟩ := hr
    refine WPC.weaken (leT_mask ks T) (WPC.mono hl fun e2 T3 h3 ⟨he, hT, hh⟩ => ?_)
    subst he; subst hT; subst hh
    exact ⟨ds', hk⟩
  · rename_i dd vs ks e T2 h2 ds'
    obtain ⟨hv, hl, hk⟩ := hr
    refine WPC.kill dd (WPC.virt vs T _ hv (WPC.weaken (leT_mask ks _) (WPC.mono hl fun e2 T3 h3 ⟨he, hT, hh⟩ => ?_)))
    subst he; subst hT; subst hh
    exact ⟨ds', hk⟩
  · rename_i n ds'
    refine WPC.loop (fun k T h => ∃ ds, runLoop (run P c) k T h ds K) (fun k T h ⟨ds, hk⟩ => ?_) (n := n) ⟨ds', hr⟩
    cases k with
    | zero => exact hk.elim
    | succ k =>
     refine (ih T h ds _ hk).mono fun e T' h' ⟨ds', hk'⟩ => ?_
     cases e with
     | normal => exact ⟨k, Nat.lt_succ_self k, ds', hk'⟩
     | _ => exact ⟨ds', hk'⟩
  · exact hr.elim
 | region id ops draw =>
  intro T h ds K hr
  cases draw with
  | false => exact .region hr fun T h ds hk => ⟨ds, hk⟩
  | true =>
   unfold run at hr
   split at hr
   · rename_i hok
     split at hr
     · exact .regionDraw hmix hok hr fun T ds hk => ⟨ds, hk⟩
     · split at hr
       · rename_i he
         exact .regionDrawE hmix hok he hr fun T h ds hk => ⟨ds, hk⟩
       · split at hr
         · rename_i he2
           exact .regionDrawE2 hmix hok he2 hr fun T h ds hk => ⟨ds, hk⟩
         · exact hr.elim
   · exact hr.elim
 | _ => intro T h ds K hr; exact hr.elim
theorem results_sound {m : IdMap} {Mut : Mu} {w : World} {h : AHeap} {T : List AV} {a : Act} (H : RelH m Mut h w) (hT : RelT m Mut w T a) : ∀ (rs : List ResultVar) (cs : List Prop) (vs : List AV), aresL P T h rs = some (cs, vs) → (∀ c ∈ cs, c) →
 ∃ us : List Value, (rs.mapM (fun r => match r with
  | .tmp t => pure (a.tmps.getD t Go.undef)
  | .cell b t => do loadVar t (← asAddr (a.tmps.getD b Go.undef))) : Sem (List Value)).run P w = .ok us w ∧ vs.length = us.length ∧ ∀ (i : Nat) x u, vs[i]? = some x → us[i]? = some u → RelV m Mut w x u := by
 intro rs
 induction rs with
 | nil => intro cs vs h _; cases h; exact ⟨[], rfl, rfl, fun i x u hx => by simp at hx⟩
 | cons r rs ih =>
  intro cs vs hr hc
  unfold aresL at hr
  split at hr
  · rename_i c v cs' vs' h1 h2
    cases hr
    obtain ⟨us, g1, g2, g3⟩ := ih cs' vs' h2 fun x hx => hc x (List.mem_append.2 (.inr hx))
    have one : ∃ u, (match r with | .tmp t => pure (a.tmps.getD t Go.undef) | .cell b t => do loadVar t (← asAddr (a.tmps.getD b Go.undef)) : Sem Value).run P w = .ok u w ∧ RelV m Mut w v u := by
     cases r with
     | tmp t => cases h1; exact ⟨_, rfl, hT.eval (.tmp t)⟩
     | cell b t =>
      simp only [ares1] at h1
      split at h1
      · rename_i cd cells hcs
        split at h1
        · rename_i hu
          simp only [Option.map_eq_some_iff, Prod.mk.injEq] at h1
          obtain ⟨y, hy, rfl, rfl⟩ := h1
          have hb := hT.eval (.tmp b)
          obtain ⟨blk, off, ha, _, hcells⟩ := cellsAt_sound H hb hcs (Cnd.list_ok fun x hx => hc x (List.mem_append.2 (.inl hx)))
          obtain ⟨z, hz, hrz⟩ := load_sound (P := P) hcells hy hu
          have ha' : a.tmps.getD b Go.undef = .pointer (some ⟨blk, off, none⟩) := ha
          exact ⟨z, by simp only [ha', asAddr, Sem.run_bind, Sem.run_pure, Result.andThen_ok, hz], hrz⟩
        · cases h1
      · cases h1
    obtain ⟨u, hu, hru⟩ := one
    refine ⟨u :: us, ?_, by simp [g2], fun i x y hx hy => ?_⟩
    · simp only [List.mapM_cons, Sem.run_bind, hu, Result.andThen_ok, g1, Sem.run_pure]
    · cases i with
      | zero => simp at hx hy; subst hx; subst hy; exact hru
      | succ i => exact g3 i x y (by simpa using hx) (by simpa using hy)
  · cases hr
theorem results_run {m : IdMap} {Mut : Mu} {w : World} {h : AHeap} {T : List AV} {a : Act} {fn : Func} (H : RelH m Mut h w) (hT : RelT m Mut w T a) {cs : List Prop} {vs : List AV} (hr : aresL P T h fn.results.toList = some (cs, vs)) (hc : ∀ c ∈ cs, c) :
 ∃ x, (results fn a.tmps).run P w = .ok x w ∧ RelV m Mut w (oneOf vs) x := by
 obtain ⟨us, g1, g2, g3⟩ := results_sound (P := P) H hT _ cs vs hr hc
 have hrun : (results fn a.tmps).run P w = .ok (if h : us.toArray.size = 1 then us.toArray[0] else .tuple us.toArray) w := by
  unfold results
  rw [Array.mapM_eq_mapM_toList]
  simp only [Sem.run_bind, Sem.run_map]
  erw [g1]
  rfl
 refine ⟨_, hrun, ?_⟩
 cases vs with
 | nil =>
  cases us with
  | nil => exact .tup _ _ rfl fun i a v h => by simp at h
  | cons u us => simp at g2
 | cons v vs =>
  cases us with
  | nil => simp at g2
  | cons u us =>
   cases vs with
   | nil =>
    cases us with
    | nil => exact g3 0 v u rfl rfl
    | cons u' us => simp at g2
   | cons v' vs =>
    cases us with
    | nil => simp at g2
    | cons u' us =>
     rw [dif_neg (by simp)]
     exact .tup _ _ (by simpa using g2) fun i a x ha hx => g3 i a x ha (by rw [← List.getElem?_toArray]; exact hx)
end
end Go.Proofs.Ytjdbmmilcihpoaa
namespace Go.Proofs.Ytjdbmmilcihpoaa
set_option linter.unusedVariables false
set_option linter.unusedSimpArgs false
section
variable {P : Program}
theorem Ret.frame {f : FuncId} {args : List AV} {r : AV} (hr : Ret P f args [] r []) (hargs : ∀ a ∈ args, Low 0 a) (h : AHeap) : Ret P f args h r h := by
 intro m Mut w us H ha
 let Mu1 : Mu := ⟨Mut.im, fun _ => False, fun _ h => h.elim⟩
 have H1 : RelH (cutM m 0) Mu1 [] w :=
  { obj := fun id o ho => by simp at ho
    inj := fun id id' o o' b C C' ho => by simp at ho
    dom := fun id n x hx => by
     unfold cutM at hx
     rw [if_neg (Nat.not_lt_zero _)] at hx
     cases hx
    lt := H.lt
    top := fun id o n x ho => by simp at ho }
 have ha1 : RelL (cutM m 0) Mu1 w args us := ⟨ha.1, fun i a v hi hv => cut_rel (Mut := Mut) (Mut' := Mu1) (fun b hb => hb) (ha.2 i a v hi hv) (hargs a (List.mem_of_getElem? hi))⟩
 refine (hr (cutM m 0) Mu1 w us H1 ha1).mono fun e w' ⟨x, v, h', m', Mut', he, ⟨hv, hh⟩, E, H', hx⟩ => ?_
 subst hv; subst hh
 have hb : ∀ b, b < w.heap.size → w'.heap[b]? = w.heap[b]? := fun b hlt => E.block b hlt fun h => h
 have E' : Ext m Mut w m Mut w' := ⟨E.os, E.tape, E.output, E.drawn, E.size, fun b hlt _ => hb b hlt, fun _ _ h => h, fun _ _ h => h, fun _ _ h _ => h, fun _ _ _ h => h⟩
 refine ⟨x, v, h, m, Mut, he, ⟨rfl, rfl⟩, E', H.still E' hb, hx.mono (fun id n y hy => absurd (H'.dom id n y hy) (Nat.not_lt_zero _)) (Nat.le_refl _) (fun b _ hn hi => hn ?_) fun _ _ _ => rfl⟩
 exact E.keep b (H.lt b hi) hi fun h => h
/-- The arguments are told aas another reading. -/
theorem Ret.args {f : FuncId} {args args' : List AV} {h h' : AHeap} {r : AV} (hr : Ret P f args' h r h') (hw : ∀ (m : IdMap) (Mut : Mu) (w : World) (us : Array Value), RelL m Mut w args us → RelL m Mut w args' us) : Ret P f args h r h' :=
 fun m Mut w us H ha => hr m Mut w us H (hw m Mut w us ha)
theorem kmp {a b : Prop} (h : a = b) (hb : b) : a := h ▸ hb
end
end Go.Proofs.Ytjdbmmilcihpoaa
namespace Go.Proofs.Ytjdbmmilcihpoaa
set_option linter.unusedVariables false
set_option linter.unusedSimpArgs false
def Cnd.b : Cnd → Bool
 | none => true
 | some d => @decide d.p d.d
def lowF : Nat → Nat → AV → Bool
 | 0, _, _ => false
 | k + 1, lo, v =>
  match v with
  | .agg cs => cs.all (lowF k lo)
  | .tup cs => cs.all (lowF k lo)
  | .pp cs => cs.all (lowF k lo)
  | .fn _ cs => cs.all (lowF k lo)
  | .sl _ n f => (List.range n).all fun i => lowF k lo (f i)
  | .ptr id _ _ _ _ => decide (id < lo)
  | .ms id _ _ _ _ => decide (id < lo)
  | .mp id => decide (id < lo)
  | _ => true
def lowO (lo : Nat) : AObj → Bool
 | .var v => lowF 12 lo v
 | .row _ _ c => (List.range c.len).all fun i => lowF 12 lo (c.get i)
 | .frow _ _ len f => (List.range len).all fun i => lowF 12 lo (f i)
 | .map _ => true
 | .iter _ _ => true
 | .dead => true
/-- What is handed back, aas plain data. -/
def purF : Nat → AHeap → Nat → AV → Option AV
 | 0, _, _, _ => none
 | k + 1, h, lo, v =>
  if lowF 12 lo v then some v else
  match v with
  | .ms id n sz off len =>
   match h[id]? with
   | some (.row s ver c) =>
    if lo ≤ id ∧ s = sz ∧ n = ver ∧ off + len ≤ c.len ∧ ((List.range len).all fun i => (c.get (off + i)).cells.length == sz) = true then
     if ((List.range len).all fun i => lowF 12 lo (c.get (off + i))) then some (.sl sz len fun i => c.get (off + i))
     else if sz = 1 ∧ ((List.range len).all fun i => match purF k h lo (c.get (off + i)) with | some w => w.cells.length == 1 && (match (c.get (off + i)) with | .agg _ => false | _ => true) && (match w with | .agg _ => false | _ => true) | none => false) = true then
      some (.sl sz len fun i => (purF k h lo (c.get (off + i))).getD .any)
     else none
    else none
   | _ => none
  | .agg cs => (cs.mapM (purF k h lo)).map .agg
  | .tup cs => (cs.mapM (purF k h lo)).map .tup
  | _ => none
section
variable {P : Program}
theorem lowF_sound : ∀ (k lo : Nat) (v : AV), lowF k lo v = true → Low lo v := by
 intro k
 induction k with
 | zero => intro lo v h; cases h
 | succ k ih =>
  intro lo v h
  cases v <;> simp only [lowF, List.all_eq_true, decide_eq_true_eq] at h <;> first
   | (constructor; done)
   | exact .agg _ fun c hc => ih lo c (h c hc)
   | exact .tup _ fun c hc => ih lo c (h c hc)
   | exact .pp _ fun c hc => ih lo c (h c hc)
   | exact .fn _ _ fun c hc => ih lo c (h c hc)
   | exact .sl _ _ _ fun i hi => ih lo _ (h i (List.mem_range.2 hi))
   | exact .ptr _ _ _ _ _ h
   | exact .ms _ _ _ _ _ h
   | exact .mp _ h
theorem lowO_sound {lo : Nat} {o : AObj} (h : lowO lo o = true) : o.Low lo := by
 cases o with
 | var v => exact lowF_sound _ _ _ h
 | row s n c => exact fun i hi => lowF_sound _ _ _ (List.all_eq_true.1 h i (List.mem_range.2 hi))
 | frow s n len f => exact fun i hi => lowF_sound _ _ _ (List.all_eq_true.1 h i (List.mem_range.2 hi))
 | map c => trivial
 | iter s pos => trivial
 | dead => trivial
theorem mapM_get {f : AV → Option AV} : ∀ (cs ds : List AV), cs.mapM f = some ds → cs.length = ds.length ∧ ∀ (i : Nat) a b, cs[i]? = some a → ds[i]? = some b → f a = some b := by
 intro cs
 induction cs with
 | nil => intro ds h; simp at h; subst h; exact ⟨rfl, fun i a b h => by simp at h⟩
 | cons c cs ih =>
  intro ds h
  rw [List.mapM_cons] at h
  simp only [bind, Option.bind_eq_some_iff, pure, Option.some.injEq] at h
  obtain ⟨d, hd, ds', hds, rfl⟩ := h
  obtain ⟨h1, h2⟩ := ih ds' hds
  refine ⟨by simp [h1], fun i a b ha hb => ?_⟩
  cases i with
  | zero => simp at ha hb; subst ha; subst hb; exact hd
  | succ i => exact h2 i a b (by simpa using ha) (by simpa using hb)
theorem purF_sound : ∀ (k : Nat) (h : AHeap) (lo : Nat) (v r : AV), purF k h lo v = some r → Pur h lo v r := by
 intro k
 induction k with
 | zero => intro h lo v r hp; cases hp
 | succ k ih =>
  intro h lo v r hp
  unfold purF at hp
  split at hp
  · rename_i hl; cases hp; exact .low _ (lowF_sound _ _ _ hl)
  · split at hp
    · rename_i id n sz off len _
      split at hp
      · rename_i s ver c hid
        split at hp
        · rename_i hq
          obtain ⟨q1, rfl, rfl, q4, q5⟩ := hq
          have hcl : ∀ i, i < len → (c.get (off + i)).cells.length = s := fun i hi => by
           have := List.all_eq_true.1 q5 i (List.mem_range.2 hi); simpa using this
          split at hp
          · rename_i hall
            cases hp
            refine .row id n s off len n c _ (fun i j => ((c.get (off + i)).cells).getD j .any) q1 hid rfl q4 hcl (fun i j hi hj => ?_) (fun i j a hi ha => ?_)
            · rw [List.getD_eq_getElem?_getD, List.getElem?_eq_getElem (by rw [hcl i hi]; exact hj)]; rfl
            · rw [List.getD_eq_getElem?_getD, ha]
              exact .low _ (Low.cells (lowF_sound _ _ _ (List.all_eq_true.1 hall i (List.mem_range.2 hi))) a (List.mem_of_getElem? ha))
          · split at hp
            · rename_i hall
              obtain ⟨rfl, hall⟩ := hall
              cases hp
              have key : ∀ i, i < len → ∃ w, purF k h lo (c.get (off + i)) = some w ∧ w.cells = [w] ∧ (c.get (off + i)).cells = [c.get (off + i)] := by
               intro i hi
               have := List.all_eq_true.1 hall i (List.mem_range.2 hi)
               cases hq : purF k h lo (c.get (off + i)) with
               | none => rw [hq] at this; cases this
               | some w =>
                rw [hq] at this
                simp only [Bool.and_eq_true] at this
                refine ⟨w, rfl, ?_, ?_⟩
                · cases w <;> first | rfl | (exact absurd this.2 (by simp))
                · cases hg : c.get (off + i) <;> first | rfl | (rw [hg] at this; exact absurd this.1.2 (by simp))
              refine .row id n 1 off len n c _ (fun i _ => c.get (off + i)) q1 hid rfl q4 (fun i hi => ?_) (fun i j hi hj => ?_) (fun i j a hi ha => ?_)
              · obtain ⟨w, h1, h2, h3⟩ := key i hi
                simp only [h1, Option.getD_some, h2, List.length_singleton]
              · obtain ⟨w, h1, h2, h3⟩ := key i hi
                obtain rfl : j = 0 := by omega
                rw [h3]; rfl
              · obtain ⟨w, h1, h2, h3⟩ := key i hi
                simp only [h1, Option.getD_some, h2] at ha
                cases j with
                | zero => simp at ha; subst ha; exact ih _ _ _ _ h1
                | succ j => simp at ha
            · cases hp
        · cases hp
      · cases hp
    · rename_i cs _
      simp only [Option.map_eq_some_iff] at hp
      obtain ⟨ds, hds, rfl⟩ := hp
      obtain ⟨h1, h2⟩ := mapM_get cs ds hds
      exact .agg cs ds h1 fun i a b ha hb => ih _ _ _ _ (h2 i a b ha hb)
    · rename_i cs _
      simp only [Option.map_eq_some_iff] at hp
      obtain ⟨ds, hds, rfl⟩ := hp
      obtain ⟨h1, h2⟩ := mapM_get cs ds hds
      exact .tup cs ds h1 fun i a b ha hb => ih _ _ _ _ (h2 i a b ha hb)
    · cases hp
theorem Cnd.b_ok {c : Cnd} (h : c.b = true) : c.ok := by
 cases c with
 | none => trivial
 | some d => exact @of_decide_eq_true d.p d.d h
end
end Go.Proofs.Ytjdbmmilcihpoaa
namespace Go.Proofs.Ytjdbmmilcihpoaa
set_option linter.unusedVariables false
set_option linter.unusedSimpArgs false
def allZ (f : AV → AV → Bool) : List AV → List AV → Bool
 | [], [] => true
 | x :: xs, y :: ys => f x y && allZ f xs ys
 | _, _ => false
def eqv : Nat → AV → AV → Bool
 | 0, _, _ => false
 | k + 1, a, b =>
  match a, b with
  | _, .any => true
  | .undef, .undef => true
  | .int k1 n1, .int k2 n2 => decide (k1 = k2) && decide (n1 = n2)
  | .bool x, .bool y => x == y
  | .str x, .str y => decide (x = y)
  | .agg xs, .agg ys => allZ (eqv k) xs ys
  | .tup xs, .tup ys => allZ (eqv k) xs ys
  | .sl s n f, .sl s' n' f' => decide (s = s') && decide (n = n') && (List.range n).all fun i => allZ (eqv k) (f i).cells (f' i).cells
  | .snil, .snil => true
  | .pp xs, .pp ys => allZ (eqv k) xs ys
  | .ptr a b c d e, .ptr a' b' c' d' e' => decide (a = a') && decide (b = b') && decide (c = c') && decide (d = d') && decide (e = e')
  | .ms a b c d e, .ms a' b' c' d' e' => decide (a = a') && decide (b = b') && decide (c = c') && decide (d = d') && decide (e = e')
  | .mp a, .mp a' => decide (a = a')
  | .fn g xs, .fn g' ys => decide (g = g') && allZ (eqv k) xs ys
  | .nilp, .nilp => true
  | .nilf, .nilf => true
  | .nilm, .nilm => true
  | _, _ => false
section
variable {m : IdMap} {Mut : Mu} {w : World}
theorem allZ_spec {f : AV → AV → Bool} : ∀ (xs ys : List AV), allZ f xs ys = true → xs.length = ys.length ∧ ∀ (i : Nat) (y : AV), ys[i]? = some y → ∃ x, xs[i]? = some x ∧ f x y = true := by
 intro xs
 induction xs with
 | nil => intro ys h; cases ys with
  | nil => exact ⟨rfl, fun i y h => by simp at h⟩
  | cons y ys => cases h
 | cons x xs ih => intro ys h; cases ys with
  | nil => cases h
  | cons y ys =>
   simp only [allZ, Bool.and_eq_true] at h
   obtain ⟨h1, h2⟩ := ih ys h.2
   refine ⟨by simp [h1], fun i z hz => ?_⟩
   cases i with
   | zero => simp at hz; subst hz; exact ⟨x, rfl, h.1⟩
   | succ i => simpa using h2 i z (by simpa using hz)
theorem eqv_sound : ∀ (k : Nat) (a b : AV) (v : Value), eqv k a b = true → RelV m Mut w a v → RelV m Mut w b v := by
 intro k
 induction k with
 | zero => intro a b v h; cases h
 | succ k ih =>
  intro a b v h hr
  unfold eqv at h
  split at h
  · exact .any v
  · exact hr
  · simp only [Bool.and_eq_true, decide_eq_true_eq] at h; obtain ⟨rfl, rfl⟩ := h; exact hr
  · have := eq_of_beq h; subst this; exact hr
  · have := of_decide_eq_true h; subst this; exact hr
  · obtain ⟨h1, h2⟩ := allZ_spec _ _ h
    cases hr with
    | agg _ vs hl hh =>
     exact .agg _ vs (h1 ▸ hl) fun i y v hy hv => by
      obtain ⟨x, hx, e⟩ := h2 i y hy
      exact ih x y v e (hh i x v hx hv)
  · obtain ⟨h1, h2⟩ := allZ_spec _ _ h
    cases hr with
    | tup _ vs hl hh =>
     exact .tup _ vs (h1 ▸ hl) fun i y v hy hv => by
      obtain ⟨x, hx, e⟩ := h2 i y hy
      exact ih x y v e (hh i x v hx hv)
  · rename_i s n f s' n' f'
    simp only [Bool.and_eq_true, decide_eq_true_eq, List.all_eq_true, List.mem_range] at h
    obtain ⟨⟨rfl, rfl⟩, h⟩ := h
    cases hr with
    | sl _ _ _ b o cap val hn hc hb hm hs hv hh =>
     refine .sl _ _ _ b o cap val hn hc hb hm (fun i hi => ?_) hv fun i j y hi hy => ?_
     · rw [← (allZ_spec _ _ (h i hi)).1]; exact hs i hi
     · obtain ⟨x, hx, e⟩ := (allZ_spec _ _ (h i hi)).2 j y hy
       exact ih x y _ e (hh i j x hi hx)
    | sl0 _ _ a cap => exact .sl0 _ _ a cap
  · exact hr
  · obtain ⟨h1, h2⟩ := allZ_spec _ _ h
    cases hr with
    | pp _ b o val hb hm hv hh =>
     exact .pp _ b o val hb hm (fun j hj => hv j (h1 ▸ hj)) fun j y hy => by
      obtain ⟨x, hx, e⟩ := h2 j y hy
      exact ih x y _ e (hh j x hx)
  · simp only [Bool.and_eq_true, decide_eq_true_eq] at h; obtain ⟨⟨⟨⟨rfl, rfl⟩, rfl⟩, rfl⟩, rfl⟩ := h; exact hr
  · simp only [Bool.and_eq_true, decide_eq_true_eq] at h; obtain ⟨⟨⟨⟨rfl, rfl⟩, rfl⟩, rfl⟩, rfl⟩ := h; exact hr
  · have := of_decide_eq_true h; subst this; exact hr
  · simp only [Bool.and_eq_true, decide_eq_true_eq] at h
    obtain ⟨rfl, h⟩ := h
    obtain ⟨h1, h2⟩ := allZ_spec _ _ h
    cases hr with
    | fn _ _ vs hl hh =>
     exact .fn _ _ vs (h1 ▸ hl) fun i y v hy hv => by
      obtain ⟨x, hx, e⟩ := h2 i y hy
      exact ih x y v e (hh i x v hx hv)
  · exact hr
  · exact hr
  · exact hr
  · cases h
def eqvO (k : Nat) : AObj → AObj → Bool
 | .var x, .var y => allZ (eqv k) x.cells y.cells
 | .row s n c, .row s' n' c' => decide (s = s') && decide (n = n') && decide (c.len = c'.len) && (List.range c.len).all fun i => allZ (eqv k) (c.get i).cells (c'.get i).cells
 | .frow s n l f, .frow s' n' l' f' => decide (s = s') && decide (n = n') && decide (l = l') && (List.range l).all fun i => allZ (eqv k) (f i).cells (f' i).cells
 | .iter s p, .iter s' p' => decide (s = s') && decide (p = p')
 | .dead, .dead => true
 | _, _ => false
def eqvH (k : Nat) : AHeap → AHeap → Bool
 | [], [] => true
 | x :: xs, y :: ys => eqvO k x y && eqvH k xs ys
 | _, _ => false
theorem eqvO_same {k : Nat} {a b : AObj} (h : eqvO k a b = true) : a.ver = b.ver ∧ a.live = b.live ∧ a.act = b.act := by
 unfold eqvO at h
 split at h
 · exact ⟨rfl, rfl, rfl⟩
 · simp only [Bool.and_eq_true, decide_eq_true_eq] at h; exact ⟨h.1.1.2, by simp [AObj.live, h.1.1.2], rfl⟩
 · simp only [Bool.and_eq_true, decide_eq_true_eq] at h; exact ⟨h.1.1.2, rfl, rfl⟩
 · exact ⟨rfl, rfl, rfl⟩
 · exact ⟨rfl, rfl, rfl⟩
 · cases h
theorem eqvO_sound {k : Nat} {a b : AObj} {id : Nat} (h : eqvO k a b = true) (hr : RelO m Mut w id a) : RelO m Mut w id b := by
 unfold eqvO at h
 split at h
 · obtain ⟨g1, g2⟩ := allZ_spec _ _ h
   obtain ⟨b, c, t, h1, h2, h3, h4⟩ := hr
   exact ⟨b, c, t, h1, h2, h3, g1 ▸ h4.1, fun i y v hy hv => by
    obtain ⟨x, hx, e⟩ := g2 i y hy
    exact eqv_sound k x y v e (h4.2 i x v hx hv)⟩
 · simp only [Bool.and_eq_true, decide_eq_true_eq, List.all_eq_true, List.mem_range] at h
   obtain ⟨⟨⟨rfl, rfl⟩, hl⟩, h⟩ := h
   rcases hr with ⟨q1, q2, q3⟩ | ⟨q, b, o, C, c, t, h1, h2, h3, h4, h5, h6, h7⟩
   · exact .inl ⟨q1, hl ▸ q2, q3⟩
   refine .inr ⟨q, b, o, C, c, t, h1, h2, h3, h4, hl ▸ h5, fun i hi => ?_, fun i j y hi hy => ?_⟩
   · rw [← (allZ_spec _ _ (h i (hl ▸ hi))).1]; exact h6 i (hl ▸ hi)
   · obtain ⟨x, hx, e⟩ := (allZ_spec _ _ (h i (hl ▸ hi))).2 j y hy
     obtain ⟨v, hv, hrv⟩ := h7 i j x (hl ▸ hi) hx
     exact ⟨v, hv, eqv_sound k x y v e hrv⟩
 · simp only [Bool.and_eq_true, decide_eq_true_eq, List.all_eq_true, List.mem_range] at h
   obtain ⟨⟨⟨rfl, rfl⟩, rfl⟩, h⟩ := h
   rcases hr with q | ⟨b, o, C, c, t, h1, h2, h3, h4, h5, h6, h7⟩
   · exact .inl q
   refine .inr ⟨b, o, C, c, t, h1, h2, h3, h4, h5, fun i hi => ?_, fun i j y hi hy => ?_⟩
   · rw [← (allZ_spec _ _ (h i hi)).1]; exact h6 i hi
   · obtain ⟨x, hx, e⟩ := (allZ_spec _ _ (h i hi)).2 j y hy
     obtain ⟨v, hv, hrv⟩ := h7 i j x hi hx
     exact ⟨v, hv, eqv_sound k x y v e hrv⟩
 · simp only [Bool.and_eq_true, decide_eq_true_eq] at h; obtain ⟨rfl, rfl⟩ := h; exact hr
 · exact hr
 · cases h
theorem eqvH_spec {k : Nat} : ∀ (xs ys : AHeap), eqvH k xs ys = true → xs.length = ys.length ∧ ∀ (i : Nat) (y : AObj), ys[i]? = some y → ∃ x, xs[i]? = some x ∧ eqvO k x y = true := by
 intro xs
 induction xs with
 | nil => intro ys h; cases ys with
  | nil => exact ⟨rfl, fun i y h => by simp at h⟩
  | cons y ys => cases h
 | cons x xs ih => intro ys h; cases ys with
  | nil => cases h
  | cons y ys =>
   simp only [eqvH, Bool.and_eq_true] at h
   obtain ⟨h1, h2⟩ := ih ys h.2
   refine ⟨by simp [h1], fun i z hz => ?_⟩
   cases i with
   | zero => simp at hz; subst hz; exact ⟨x, rfl, h.1⟩
   | succ i => simpa using h2 i z (by simpa using hz)
theorem eqvH_sound {k : Nat} {h h' : AHeap} (he : eqvH k h h' = true) (H : RelH m Mut h w) : RelH m Mut h' w := by
 obtain ⟨g1, g2⟩ := eqvH_spec _ _ he
 refine ⟨fun id o ho => ?_, fun id id' o o' b C C' ho ho' hl hl' hm hm' => ?_, fun id n x hx => g1 ▸ H.dom id n x hx, H.lt, fun id o n x ho hl hx => ?_⟩
 · obtain ⟨a, ha, e⟩ := g2 id o ho
   exact eqvO_sound e (H.obj id a ha)
 · obtain ⟨a, ha, e⟩ := g2 id o ho
   obtain ⟨a', ha', e'⟩ := g2 id' o' ho'
   exact H.inj id id' a a' b C C' ha ha' ((eqvO_same e).2.1.trans hl) ((eqvO_same e').2.1.trans hl') ((eqvO_same e).1 ▸ hm) ((eqvO_same e').1 ▸ hm')
 · obtain ⟨a, ha, e⟩ := g2 id o ho
   rw [← (eqvO_same e).1]
   exact H.top id a n x ha ((eqvO_same e).2.2.trans hl) hx
/-- A contract whose heap behind says the same aas the one ahead. -/
theorem Ret.same {P : Program} {f : FuncId} {args : List AV} {h h' : AHeap} {r : AV} {k : Nat} (hr : Ret P f args h r h') (he : eqvH k h' h = true) : Ret P f args h r h := by
 intro m Mut w us H ha
 refine (hr m Mut w us H ha).mono fun e w' ⟨x, v, h2, m', Mut', hx, ⟨hv, hh⟩, E, H', hrx⟩ => ?_
 subst hv; subst hh
 exact ⟨x, v, h, m', Mut', hx, ⟨rfl, rfl⟩, E, eqvH_sound he H', hrx⟩
end
end Go.Proofs.Ytjdbmmilcihpoaa
namespace Go.Proofs.Ytjdbmmilcihpoaa
set_option linter.unusedVariables false
set_option linter.unusedSimpArgs false
abbrev CallF := FuncId → List AV → AHeap → Option (AV × AHeap)
/-- A call; without references among the arguments it is run over the empty heap. -/
def iCallQ (call : CallF) (h : AHeap) (g : FuncId) (args : List AV) : Option AV :=
 if args.all (lowF 12 0) then
  match call g args [] with
  | some (r, []) => some r
  | _ => none
 else
  match call g args h with
  | some (r, h') => if eqvH 24 h' h then some r else none
  | none => none
def iQ (P : Program) (call : CallF) (o : Oper) (T : List AV) (h : AHeap) : Option AV :=
 match o.op with
 | .pick c a b =>
  match aeval T c with
  | .bool q => some (if q then aeval T a else aeval T b)
  | _ => none
 | .call c =>
  match c.callee with
  | .value f =>
   match aeval T f with
   | .fn g cap => if callable P g then iCallQ call h g (c.args.toList.map (aeval T) ++ cap) else none
   | _ => none
  | _ => match aopQ P h (aeval T) o with
   | some (cd, v) => if cd.b then some v else none
   | none => none
 | _ => match aopQ P h (aeval T) o with
  | some (cd, v) => if cd.b then some v else none
  | none => none
def appDec (h : AHeap) (o : Oper) (T : List AV) : List Dec :=
 match o.op with
 | .call c => match c.args.toList with
  | [s, x] => match asrc h (aeval T x) with
   | some (_, _, n, _) => [.app (if n = 0 then .none else if n = 1 then .one else .many) (match aeval T s with | .ms _ _ _ off _ => off != 0 | _ => false)]
   | none => []
  | _ => []
 | _ => []
def iE (P : Program) (call : CallF) (o : Oper) (T : List AV) (h : AHeap) : Option (AV × AHeap) :=
 match iQ P call o T h with
 | some v => some (v, h)
 | none =>
  match o.op with
  | .call c =>
   match c.callee with
   | .value f =>
    match aeval T f with
    | .fn g cap => if callable P g then call g (c.args.toList.map (aeval T) ++ cap) h else none
    | _ => none
   | _ => match aopE P h (aeval T) o (appDec h o T) with
    | some (cd, v, h', _) => if cd.b then some (v, h') else none
    | none => none
  | _ => match aopE P h (aeval T) o [] with
   | some (cd, v, h', _) => if cd.b then some (v, h') else none
   | none => none
def iOps (P : Program) (call : CallF) (ops : List Oper) : List Oper → List AV → AHeap → Option (List AV × AHeap)
 | [], T, h => some (T, h)
 | o :: os, T, h =>
  match o.guard with
  | none => match iE P call o T h with
   | some (v, h') => iOps P call ops os (aput T o.dst v) h'
   | none => none
  | some (j, want) =>
   match guardVal ops T j with
   | .bool q => if q == want then
    match iE P call o T h with
    | some (v, h') => iOps P call ops os (aput T o.dst v) h'
    | none => none
    else iOps P call ops os (aput T o.dst .undef) h
   | .undef => iOps P call ops os (aput T o.dst .undef) h
   | _ => none
def iOpsQ (P : Program) (call : CallF) (ops : List Oper) (h : AHeap) : List Oper → List AV → Option (List AV)
 | [], T => some T
 | o :: os, T =>
  match o.guard with
  | none => match iQ P call o T h with
   | some v => iOpsQ P call ops h os (aput T o.dst v)
   | none => none
  | some (j, want) =>
   match guardVal ops T j with
   | .bool q => if q == want then
    match iQ P call o T h with
    | some v => iOpsQ P call ops h os (aput T o.dst v)
    | none => none
    else iOpsQ P call ops h os (aput T o.dst .undef)
   | .undef => iOpsQ P call ops h os (aput T o.dst .undef)
   | _ => none
/-- One operation of a region whose order is open. -/
def iOne (P : Program) (call : CallF) (o : Oper) (T : List AV) (h : AHeap) : Option (AV × AHeap) :=
 match isEff o with
 | true => (match aopQ P h (aeval T) o with
  | some _ => none
  | none => (match aopE P h (aeval T) o (appDec h o T) with
   | some (cd, v, h', _) => if cd.b then some (v, h') else none
   | none => none))
 | false => (match isPure o with
  | true => none
  | false => (iQ P call o T h).map fun v => (v, h))
def iOpsE (P : Program) (call : CallF) (ops : List Oper) : List Oper → List AV → AHeap → Option (List AV × AHeap)
 | [], T, h => some (T, h)
 | o :: os, T, h =>
  match o.guard with
  | none => match iOne P call o T h with
   | some (v, h') => iOpsE P call ops os (aput T o.dst v) h'
   | none => none
  | some (j, want) =>
   match guardVal ops T j with
   | .bool q => if q == want then
    match iOne P call o T h with
    | some (v, h') => iOpsE P call ops os (aput T o.dst v) h'
    | none => none
    else iOpsE P call ops os (aput T o.dst .undef) h
   | .undef => iOpsE P call ops os (aput T o.dst .undef) h
   | _ => none
def iLoop (body : List AV → AHeap → Option (Exit × List AV × AHeap)) : Nat → List AV → AHeap → Option (Exit × List AV × AHeap)
 | 0, _, _ => none
 | n + 1, T, h => match body T h with
  | some (.normal, T', h') => iLoop body n T' h'
  | r => r
def iCode (P : Program) (call : CallF) (n : Nat) : Code → List AV → AHeap → Option (Exit × List AV × AHeap)
 | .skip, T, h => some (.normal, T, h)
 | .label _, T, h => some (.normal, T, h)
 | .ret, T, h => some (.ret, T, h)
 | .exit id, T, h => some (.exit id, T, h)
 | .seq x y, T, h => match iCode P call n x T h with
  | some (.normal, T', h') => iCode P call n y T' h'
  | r => r
 | .cond c x y, T, h => match aeval T c with
  | .bool true => iCode P call n x T h
  | .bool false => iCode P call n y T h
  | _ => none
 | .block id c, T, h => match iCode P call n c T h with
  | some (.exit id', T', h') => if id' = id then some (.normal, T', h') else some (.exit id', T', h')
  | r => r
 | .scope c, T, h => match iCode P call n c T h with
  | some (.goto _, _, _) => none
  | r => r
 | .loop c, T, h => iLoop (iCode P call n c) n T h
 | .region _ ops false, T, h => match iOps P call ops.toList ops.toList T h with
  | some (T', h') => some (.normal, T', h')
  | none => none
 | .region _ ops true, T, h => if drawOk ops.toList then
  match ops.toList.any isEff with
  | false => (match iOpsQ P call ops.toList h ops.toList T with
   | some T' => some (.normal, T', h)
   | none => none)
  | true => if drawEff ops.toList then (match iOpsE P call ops.toList ops.toList T h with
   | some (T', h') => some (.normal, T', h')
   | none => none) else if drawEff2 ops.toList then (match iOpsE P call ops.toList ops.toList T h with
   | some (T', h') => if apartOk ops.toList T' then some (.normal, T', h') else none
   | none => none) else none
  else none
 | _, _, _ => none
def iRet (P : Program) (fn : Func) (T : List AV) (h1 h : AHeap) : Option (AV × AHeap) :=
 match aresL P T h1 fn.results.toList with
 | some ([], vs) =>
  match purF 12 h1 h.length (oneOf vs) with
  | some r => if (h1.take h.length).length = h.length ∧ ((h1.take h.length).all (lowO h.length)) = true then some (r, h1.take h.length) else some (oneOf vs, h1)
  | none => some (oneOf vs, h1)
 | _ => none
/-- `c0`: contracts that are known already. -/
def interp (P : Program) (c0 : CallF) : Nat → CallF
 | 0, f, args, h => c0 f args h
 | k + 1, f, args, h =>
  match c0 f args h with
  | some r => some r
  | none =>
  match P.funcs[f]? with
  | some fn =>
   match fn.body with
   | some c =>
    match iCode P (interp P c0 k) (k + 1) c (initT fn args) h with
    | some (.normal, T, h1) => iRet P fn T h1 h
    | some (.ret, T, h1) => iRet P fn T h1 h
    | _ => none
   | none => none
  | none => none
section
variable {P : Program} {call : CallF}
def CallOk (P : Program) (call : CallF) : Prop := ∀ g args h r h', call g args h = some (r, h') → Ret P g args h r h'
theorem iCallQ_sound (hc : CallOk P call) {g : FuncId} {args : List AV} {r : AV} (h : AHeap) (hr : iCallQ call h g args = some r) : Ret P g args h r h := by
 unfold iCallQ at hr
 split at hr
 · rename_i hl
   split at hr
   · rename_i hq
     cases hr
     exact (hc _ _ _ _ _ hq).frame (fun a ha => lowF_sound _ _ _ (List.all_eq_true.1 hl a ha)) h
   · cases hr
 · split at hr
   · rename_i hq
     split at hr
     · rename_i he
       cases hr
       exact (hc _ _ _ _ _ hq).same he
     · cases hr
   · cases hr
/-- The quiet step aas the draw's theorem wants it. -/
theorem iQ_facts (hc : CallOk P call) {o : Oper} {T : List AV} {h : AHeap} {v : AV} (hr : iQ P call o T h = some v) : ∃ ds cs ds', opResQ P o T h ds = some (cs, v, ds') ∧ ∀ c ∈ cs, c := by
 have quiet : ∀ cd, aopQ P h (aeval T) o = some (cd, v) → cd.b = true → ∀ c ∈ cd.list, c := by
  intro cd _ hb c hcm
  cases cd with
  | none => simp [Cnd.list] at hcm
  | some d =>
   simp only [Cnd.list, List.mem_singleton] at hcm
   subst hcm
   exact @of_decide_eq_true d.p d.d hb
 unfold iQ at hr
 unfold opResQ
 split at hr
 · rename_i c a b ho
   split at hr
   · rename_i q hq
     cases hr
     refine ⟨[.b q], [q = q], [], ?_, fun c hcm => ?_⟩
     · simp only [ho, hq]
     · rw [List.mem_singleton.1 hcm]
   · cases hr
 · rename_i c ho
   split at hr
   · rename_i f hcal
     split at hr
     · rename_i g cap hf
       split at hr
       · rename_i hcb
         have := iCallQ_sound hc h hr
         refine ⟨[.ret v h], [Ret P g (c.args.toList.map (aeval T) ++ cap) h v h], [], ?_, fun c hcm => ?_⟩
         · simp only [ho, hcal, hf, hcb, if_true]
         · rw [List.mem_singleton.1 hcm]; exact this
       · cases hr
     · cases hr
   · rename_i hcal
     split at hr
     · rename_i cd v' hq
       split at hr
       · rename_i hb
         cases hr
         refine ⟨[], cd.list, [], ?_, quiet cd hq hb⟩
         simp only [ho]
         cases hcc : c.callee with
         | value f => exact absurd hcc (hcal f)
         | _ => simp only [hq, Option.map_some]
       · cases hr
     · cases hr
 · rename_i hn1 hn2
   split at hr
   · rename_i cd v' hq
     split at hr
     · rename_i hb
       cases hr
       refine ⟨[], cd.list, [], ?_, quiet cd hq hb⟩
       cases ho : o.op with
       | pick c a b => exact absurd ho (hn1 c a b)
       | call c => exact absurd ho (hn2 c)
       | _ => simp only [hq, Option.map_some]
     · cases hr
   · cases hr
theorem iQ_sound (hc : CallOk P call) {o : Oper} {T : List AV} {h : AHeap} {v : AV} (hr : iQ P call o T h = some v) : StepTo P o T h v h := by
 obtain ⟨ds, cs, ds', h1, h2⟩ := iQ_facts hc hr
 exact opResQ_sound h1 h2
theorem iE_sound (hc : CallOk P call) {o : Oper} {T : List AV} {h h' : AHeap} {v : AV} (hr : iE P call o T h = some (v, h')) : StepTo P o T h v h' := by
 unfold iE at hr
 split at hr
 · rename_i v' hq
   cases hr
   exact iQ_sound hc hq
 · split at hr
   · rename_i c ho
     split at hr
     · rename_i f hcal
       split at hr
       · rename_i g cap hf
         split at hr
         · rename_i hcb
           exact stepTo_call ho hcal hf hcb (.refl _ _ _) (hc _ _ _ _ _ hr)
         · cases hr
       · cases hr
     · split at hr
       · rename_i hq
         split at hr
         · rename_i hb
           cases hr
           exact stepTo_effect hq (Cnd.b_ok hb)
         · cases hr
       · cases hr
   · split at hr
     · rename_i hq
       split at hr
       · rename_i hb
         cases hr
         exact stepTo_effect hq (Cnd.b_ok hb)
       · cases hr
     · cases hr
theorem iOps_sound (hc : CallOk P call) {ops : List Oper} {m0 : IdMap} {Mut0 : Mu} {w0 : World} {T2 : List AV} {h2 : AHeap} {Q : Exit → List AV → AHeap → Prop} (hk : Q .normal T2 h2) :
 ∀ (os : List Oper) (k : Nat) (T : List AV) (h : AHeap) (m : IdMap) (Mut : Mu) (w : World) (a : Act), ops.drop k = os → iOps P call ops os T h = some (T2, h2) →
  Ext m0 Mut0 w0 m Mut w → RelH m Mut h w → RelT m Mut w T a → wpOps P ops.toArray (APost Q m0 Mut0 w0) (List.range' k (ops.length - k)) a w := by
 intro os
 induction os with
 | nil =>
  intro k T h m Mut w a hd hr E H hT
  have : ops.length - k = 0 := by have := congrArg List.length hd; simpa using this
  rw [this]
  cases hr
  exact ⟨m, Mut, _, _, hk, E, H, hT⟩
 | cons o os ih =>
  intro k T h m Mut w a hd hr E H hT
  have hlen : ops.length - k = (ops.length - (k + 1)) + 1 := by have := congrArg List.length hd; simp at this; omega
  have hko : ops[k]? = some o := by
   have : (ops.drop k)[0]? = some o := by rw [hd]; rfl
   rw [List.getElem?_drop] at this
   simpa using this
  have hd' : ops.drop (k + 1) = os := by rw [← List.drop_drop, hd]; rfl
  rw [hlen, List.range'_succ]
  simp only [wpOps, List.getElem?_toArray, hko]
  have go : (match iE P call o T h with | some (v, h') => iOps P call ops os (aput T o.dst v) h' | none => none) = some (T2, h2) →
   o.wp P a w (wpOps P ops.toArray (APost Q m0 Mut0 w0) (List.range' (k + 1) (ops.length - (k + 1)))) (APost Q m0 Mut0 w0) := by
   intro hr
   split at hr
   · rename_i v h' hres
     refine iE_sound hc hres m Mut w a _ _ H hT fun m' Mut' w' x E' H' hx => ?_
     exact ih (k + 1) _ h' m' Mut' w' _ hd' hr (E.trans E') H' ((hT.ext E').put o.dst hx)
   · cases hr
  unfold iOps at hr
  split at hr
  · rename_i hg
    rw [if_pos (by simp [Region.wanted, hg])]
    exact .inl (go hr)
  · rename_i j want hg
    split at hr
    · rename_i q hgv
      have hy := guard_bool hT hgv
      split at hr
      · rename_i hqw
        have : q = want := by simpa using hqw
        subst this
        rw [if_pos (by simp [Region.wanted, hg, hy])]
        exact .inl (go hr)
      · rename_i hqw
        have hne : ¬ q = want := by simpa using hqw
        rw [if_neg (by simp [Region.wanted, hg, hy, hne])]
        exact ih (k + 1) _ h m Mut w _ hd' hr E H (hT.put o.dst .undef)
    · rename_i hgv
      have hy := guard_undef hT hgv
      rw [if_neg (by simp [Region.wanted, hg, hy])]
      exact ih (k + 1) _ h m Mut w _ hd' hr E H (hT.put o.dst .undef)
    · cases hr
theorem iOpsQ_facts (hc : CallOk P call) {ops : List Oper} {h : AHeap} : ∀ (os : List Oper) (T : List AV) (T2 : List AV), iOpsQ P call ops h os T = some T2 → ∃ ds, runOpsQ P ops h os T ds fun T' _ => T' = T2 := by
 have tail : ∀ (os : List Oper) (K : List AV → List Dec → Prop) (T : List AV) (ds ds2 : List Dec), (runOpsQ P ops h os T ds fun T' ds' => K T' ds') → True := fun _ _ _ _ _ _ => trivial
 -- what is told may be followed by more
 have more : ∀ (os : List Oper) (T T2 : List AV), iOpsQ P call ops h os T = some T2 → ∀ rest : List Dec, ∃ ds, runOpsQ P ops h os T ds fun T' _ => T' = T2 := by
  intro os
  induction os with
  | nil => intro T T2 hr rest; cases hr; exact ⟨[], rfl⟩
  | cons o os ih =>
   intro T T2 hr rest
   unfold iOpsQ at hr
   unfold runOpsQ
   have step : ∀ (v : AV), iQ P call o T h = some v → ∀ ds1, (runOpsQ P ops h os (aput T o.dst v) ds1 fun T' _ => T' = T2) →
    ∃ ds, match opResQ P o T h ds with | some (cs, v, ds') => conjs cs (runOpsQ P ops h os (aput T o.dst v) ds' fun T' _ => T' = T2) | none => False := by
    intro v hv ds1 hds1
    -- the same with what follows
    have conjI : ∀ (cs : List Prop) (p : Prop), (∀ c ∈ cs, c) → p → conjs cs p := by
     intro cs
     induction cs with
     | nil => intro p _ hp; exact hp
     | cons c cs ih => intro p h1 hp; exact ⟨h1 c (List.mem_cons_self ..), ih p (fun x hx => h1 x (List.mem_cons_of_mem _ hx)) hp⟩
    have quiet : ∀ cd : Cnd, cd.b = true → ∀ c ∈ cd.list, c := by
     intro cd hb c hcm
     cases cd with
     | none => simp [Cnd.list] at hcm
     | some d =>
      simp only [Cnd.list, List.mem_singleton] at hcm
      subst hcm
      exact @of_decide_eq_true d.p d.d hb
    unfold iQ at hv
    unfold opResQ
    split at hv
    · rename_i c a b ho
      split at hv
      · rename_i q hq
        cases hv
        refine ⟨.b q :: ds1, ?_⟩
        simp only [ho, hq]
        exact ⟨trivial, hds1⟩
      · cases hv
    · rename_i c ho
      split at hv
      · rename_i f hcal
        split at hv
        · rename_i g cap hf
          split at hv
          · rename_i hcb
            refine ⟨.ret v h :: ds1, ?_⟩
            simp only [ho, hcal, hf, hcb, if_true]
            exact ⟨iCallQ_sound hc h hv, hds1⟩
          · cases hv
        · cases hv
      · rename_i hcal
        split at hv
        · rename_i cd v' hq
          split at hv
          · rename_i hb
            cases hv
            refine ⟨ds1, ?_⟩
            simp only [ho]
            cases hcc : c.callee with
            | value f => exact absurd hcc (hcal f)
            | _ => simp only [hq, Option.map_some]; exact conjI _ _ (quiet cd hb) hds1
          · cases hv
        · cases hv
    · rename_i hn1 hn2
      split at hv
      · rename_i cd v' hq
        split at hv
        · rename_i hb
          cases hv
          refine ⟨ds1, ?_⟩
          cases ho : o.op with
          | pick c a b => exact absurd ho (hn1 c a b)
          | call c => exact absurd ho (hn2 c)
          | _ => simp only [hq, Option.map_some]; exact conjI _ _ (quiet cd hb) hds1
        · cases hv
      · cases hv
   split at hr
   · rename_i hg
     split at hr
     · rename_i v hv
       obtain ⟨ds1, hds1⟩ := ih _ _ hr []
       obtain ⟨ds, hds⟩ := step v hv ds1 hds1
       refine ⟨ds, ?_⟩
       first | exact hds | (simp only [hg]; exact hds)
     · cases hr
   · rename_i j want hg
     split at hr
     · rename_i q hgv
       split at hr
       · rename_i hqw
         split at hr
         · rename_i v hv
           obtain ⟨ds1, hds1⟩ := ih _ _ hr []
           obtain ⟨ds, hds⟩ := step v hv ds1 hds1
           exact ⟨.b q :: ds, by simp only [hg, hgv, hqw]; exact ⟨trivial, hds⟩⟩
         · cases hr
       · rename_i hqw
         obtain ⟨ds1, hds1⟩ := ih _ _ hr []
         have : (q == want) = false := by simpa using hqw
         exact ⟨.b q :: ds1, by simp only [hg, hgv, this]; exact ⟨trivial, hds1⟩⟩
     · rename_i hgv
       obtain ⟨ds1, hds1⟩ := ih _ _ hr []
       exact ⟨ds1, by simp only [hg, hgv]; exact hds1⟩
     · cases hr
 exact fun os T T2 hr => more os T T2 hr []
theorem iOne_done (hc : CallOk P call) {o : Oper} {T : List AV} {h h' : AHeap} {v : AV} (hr : iOne P call o T h = some (v, h')) : OpDone P o T h h' v := by
 unfold iOne at hr
 split at hr
 · rename_i he
   refine .inl ⟨he, ?_⟩
   split at hr
   · cases hr
   · rename_i hq
     split at hr
     · rename_i cd v' h'' ds' hE
       split at hr
       · rename_i hb
         cases hr
         refine ⟨appDec h o T, cd.list, ds', ?_, fun c hcm => ?_⟩
         · unfold opRes
           rw [hq, hE]
           cases ho : o.op with
           | call c =>
            simp only [isEff, ho] at he
            cases hcal : c.callee with
            | value f =>
             exfalso
             unfold aopE at hE
             rw [ho] at hE
             simp only [hcal] at hE
             cases hE
            | _ => simp only [hcal]; rfl
           | pick c a b => simp only [isEff, ho] at he; cases he
           | _ => rfl
         · have := Cnd.b_ok hb
           cases cd with
           | none => simp [Cnd.list] at hcm
           | some x => simp only [Cnd.list, List.mem_singleton] at hcm; rw [hcm]; exact this
       · cases hr
     · cases hr
 · rename_i he
   split at hr
   · cases hr
   · rename_i hpu
     simp only [Option.map_eq_some_iff, Prod.mk.injEq] at hr
     obtain ⟨x, hx, rfl, rfl⟩ := hr
     obtain ⟨ds, cs, ds', q1, q2⟩ := iQ_facts hc hx
     exact .inr ⟨he, rfl, ds, cs, ds', q1, q2, fun h => (by rw [hpu] at h; cases h)⟩
theorem iOpsE_facts (hc : CallOk P call) {ops : List Oper} : ∀ (os : List Oper) (k : Nat) (T : List AV) (h : AHeap) (T2 : List AV) (h2 : AHeap), ops.drop k = os → iOpsE P call ops os T h = some (T2, h2) →
 ∃ (v : Nat → AV) (hs : Nat → AHeap), hs k = h ∧ upTo ops v (fun _ => true) T (List.range' k (ops.length - k)) = T2 ∧ hs ops.length = h2 ∧
  ∀ j o, k ≤ j → ops[j]? = some o → OpFactE P ops (hs j) (hs (j + 1)) o (upTo ops v (fun _ => true) T (List.range' k (j - k))) (v j) := by
 intro os
 induction os with
 | nil =>
  intro k T h T2 h2 hd hr
  have hz : ops.length - k = 0 := by have := congrArg List.length hd; simpa using this
  rw [hz]
  cases hr
  exact ⟨fun _ => .any, fun _ => h, rfl, rfl, rfl, fun j o hj ho => by
   have : j < ops.length := (List.getElem?_eq_some_iff.1 ho).1
   omega⟩
 | cons o os ih =>
  intro k T h T2 h2 hd hr
  have hlen : ops.length - k = (ops.length - (k + 1)) + 1 := by have := congrArg List.length hd; simp at this; omega
  have hko : ops[k]? = some o := by
   have : (ops.drop k)[0]? = some o := by rw [hd]; rfl
   rw [List.getElem?_drop] at this
   simpa using this
  have hkl : k < ops.length := (List.getElem?_eq_some_iff.1 hko).1
  have hd' : ops.drop (k + 1) = os := by rw [← List.drop_drop, hd]; rfl
  have go : ∀ (x : AV) (h1 : AHeap), OpFactE P ops h h1 o T x → iOpsE P call ops os (aput T o.dst x) h1 = some (T2, h2) →
   ∃ (v : Nat → AV) (hs : Nat → AHeap), hs k = h ∧ upTo ops v (fun _ => true) T (List.range' k (ops.length - k)) = T2 ∧ hs ops.length = h2 ∧
    ∀ j o, k ≤ j → ops[j]? = some o → OpFactE P ops (hs j) (hs (j + 1)) o (upTo ops v (fun _ => true) T (List.range' k (j - k))) (v j) := by
   intro x h1 hf hr
   obtain ⟨v, hs, g0, g1, g3, g2⟩ := ih (k + 1) _ h1 T2 h2 hd' hr
   have shift : ∀ n, upTo ops (fun i => if i = k then x else v i) (fun _ => true) T (List.range' k (n + 1)) = upTo ops v (fun _ => true) (aput T o.dst x) (List.range' (k + 1) n) := by
    intro n
    rw [List.range'_succ]
    show upTo ops _ _ (aput T ((ops[k]?).bind (·.dst)) (if k = k then x else v k)) (List.range' (k + 1) n) = _
    rw [hko, if_pos rfl]
    exact upTo_congr _ _ fun i hi => by
     have : i ≠ k := by have := (List.mem_range'_1.1 hi).1; omega
     simp [this]
   refine ⟨fun i => if i = k then x else v i, fun i => if i = k then h else hs i, if_pos rfl, ?_, ?_, fun j o' hj ho' => ?_⟩
   · rw [hlen, shift]; exact g1
   · show (if ops.length = k then h else hs ops.length) = h2
     rw [if_neg (Nat.ne_of_gt hkl)]; exact g3
   by_cases hjk : j = k
   · subst hjk
     rw [hko] at ho'; cases ho'
     show OpFactE P ops (if j = j then h else hs j) (if j + 1 = j then h else hs (j + 1)) o _ (if j = j then x else v j)
     rw [if_pos rfl, if_neg (Nat.succ_ne_self j), g0, if_pos rfl]
     simpa [upTo] using hf
   · have := g2 j o' (by omega) ho'
     show OpFactE P ops (if j = k then h else hs j) (if j + 1 = k then h else hs (j + 1)) o' _ (if j = k then x else v j)
     rw [show j - k = (j - (k + 1)) + 1 by omega, shift, if_neg hjk, if_neg (show ¬ j + 1 = k by omega), if_neg hjk]
     exact this
  unfold iOpsE at hr
  split at hr
  · rename_i hg
    split at hr
    · rename_i v h' hx
      exact go v h' (.inl ⟨hg, iOne_done hc hx⟩) hr
    · cases hr
  · rename_i j want hg
    split at hr
    · rename_i q hgv
      split at hr
      · rename_i hqw
        split at hr
        · rename_i v h' hx
          exact go v h' (.inr (.inl ⟨j, want, q, hg, hgv, .inl ⟨by simpa using hqw, iOne_done hc hx⟩⟩)) hr
        · cases hr
      · rename_i hqw
        exact go .undef h (.inr (.inl ⟨j, want, q, hg, hgv, .inr ⟨by simpa using hqw, rfl, rfl⟩⟩)) hr
    · rename_i hgv
      exact go .undef h (.inr (.inr ⟨j, want, hg, hgv, rfl, rfl⟩)) hr
    · cases hr
theorem iCode_sound (hmix : P.follows .mixedOrders = true) (hc : CallOk P call) (n : Nat) : ∀ (c : Code) (T : List AV) (h : AHeap) (e : Exit) (T2 : List AV) (h2 : AHeap), iCode P call n c T h = some (e, T2, h2) →
 WPC P c T h fun e' T' h' => e' = e ∧ T' = T2 ∧ h' = h2 := by
 intro c
 induction c with
 | skip => intro T h e T2 h2 hr; cases hr; exact .skip ⟨rfl, rfl, rfl⟩
 | label l => intro T h e T2 h2 hr; cases hr; exact .label ⟨rfl, rfl, rfl⟩
 | ret => intro T h e T2 h2 hr; cases hr; exact .ret ⟨rfl, rfl, rfl⟩
 | exit id => intro T h e T2 h2 hr; cases hr; exact .exit ⟨rfl, rfl, rfl⟩
 | seq x y ihx ihy =>
  intro T h e T2 h2 hr
  unfold iCode at hr
  split at hr
  · rename_i T1 h1 hx
    refine .seq ((ihx T h _ _ _ hx).mono fun e' T' h' ⟨he, hT, hh⟩ => ?_)
    subst he; subst hT; subst hh
    exact ihy _ _ _ _ _ hr
  · rename_i hne
    refine .seq ((ihx T h _ _ _ hr).mono fun e' T' h' ⟨he, hT, hh⟩ => ?_)
    subst he; subst hT; subst hh
    cases e' with
    | normal => exact absurd hr (hne _ _)
    | _ => exact ⟨rfl, rfl, rfl⟩
 | cond c x y ihx ihy =>
  intro T h e T2 h2 hr
  unfold iCode at hr
  split at hr
  · rename_i hq; exact .cond hq rfl (ihx T h _ _ _ hr)
  · rename_i hq; exact .cond hq rfl (ihy T h _ _ _ hr)
  · cases hr
 | block id c ih =>
  intro T h e T2 h2 hr
  unfold iCode at hr
  split at hr
  · rename_i id' T1 h1 hx
    refine .block ((ih T h _ _ _ hx).mono fun e' T' h' ⟨he, hT, hh⟩ => ?_)
    subst he; subst hT; subst hh
    simp only [inBlk]
    split at hr
    · rename_i heq; cases hr; rw [if_pos heq]; exact ⟨rfl, rfl, rfl⟩
    · rename_i heq; cases hr; rw [if_neg heq]; exact ⟨rfl, rfl, rfl⟩
  · rename_i hne
    refine .block ((ih T h _ _ _ hr).mono fun e' T' h' ⟨he, hT, hh⟩ => ?_)
    subst he; subst hT; subst hh
    cases e' with
    | exit id' => exact absurd hr (hne _ _ _)
    | _ => exact ⟨rfl, rfl, rfl⟩
 | scope c ih =>
  intro T h e T2 h2 hr
  unfold iCode at hr
  split at hr
  · cases hr
  · rename_i hne
    refine .scope ((ih T h _ _ _ hr).mono fun e' T' h' ⟨he, hT, hh⟩ => ?_)
    subst he; subst hT; subst hh
    cases e' with
    | goto l => exact absurd hr (hne _ _ _)
    | _ => exact ⟨rfl, rfl, rfl⟩
 | loop c ih =>
  intro T h e T2 h2 hr
  refine WPC.loop (fun j T h => iLoop (iCode P call n c) j T h = some (e, T2, h2)) (fun j T h hj => ?_) (n := n) hr
  cases j with
  | zero => cases hj
  | succ j =>
   unfold iLoop at hj
   split at hj
   · rename_i T1 h1 hb
     refine (ih T h _ _ _ hb).mono fun e' T' h' ⟨he, hT, hh⟩ => ?_
     subst he; subst hT; subst hh
     exact ⟨j, Nat.lt_succ_self _, hj⟩
   · rename_i hne
     refine (ih T h _ _ _ hj).mono fun e' T' h' ⟨he, hT, hh⟩ => ?_
     subst he; subst hT; subst hh
     cases e' with
     | normal => exact absurd hj (hne _ _)
     | _ => exact ⟨rfl, rfl, rfl⟩
 | region id ops draw =>
  intro T h e T2 h2 hr
  cases draw with
  | false =>
   unfold iCode at hr
   split at hr
   · rename_i T1 h1 hx
     cases hr
     intro m0 Mut0 w0 m Mut w a E H hT
     refine wp_region ?_
     have := iOps_sound (Q := fun e' T' h' => e' = .normal ∧ T' = T2 ∧ h' = h2) (m0 := m0) (Mut0 := Mut0) (w0 := w0) hc ⟨rfl, rfl, rfl⟩ ops.toList 0 T h m Mut w a rfl hx E H hT
     rw [List.range_eq_range']
     simpa using this
   · cases hr
  | true =>
   unfold iCode at hr
   split at hr
   · rename_i hok
     split at hr
     · split at hr
       · rename_i T1 hx
         cases hr
         obtain ⟨ds, hds⟩ := iOpsQ_facts hc _ _ _ hx
         exact .regionDraw hmix hok hds fun T' ds' hT => ⟨rfl, hT, rfl⟩
       · cases hr
     · split at hr
       · rename_i he
         split at hr
         · rename_i T1 h1 hx
           cases hr
           obtain ⟨v, hs, g0, g1, g3, g2⟩ := iOpsE_facts hc ops.toList 0 T h _ _ rfl hx
           refine .regionDrawG (v := v) (hs := hs) hmix hok (.inl he) g0 ⟨rfl, ?_, g3⟩ fun j o ho => by simpa using g2 j o (Nat.zero_le _) ho
           simpa using g1
         · cases hr
       · split at hr
         · rename_i he
           split at hr
           · rename_i T1 h1 hx
             split at hr
             · rename_i hap
               cases hr
               obtain ⟨v, hs, g0, g1, g3, g2⟩ := iOpsE_facts hc ops.toList 0 T h _ _ rfl hx
               rw [Nat.sub_zero] at g1
               exact .regionDrawG (v := v) (hs := hs) hmix hok (.inr ⟨he, by rw [g1]; exact hap⟩) g0 ⟨rfl, g1, g3⟩ fun j o ho => by simpa using g2 j o (Nat.zero_le _) ho
             · cases hr
           · cases hr
         · cases hr
   · cases hr
 | _ => intro T h e T2 h2 hr; cases hr
theorem interp_sound (hmix : P.follows .mixedOrders = true) {c0 : CallF} (h0 : CallOk P c0) : ∀ k, CallOk P (interp P c0 k) := by
 intro k
 induction k with
 | zero => intro f args h r h' hr; exact h0 f args h r h' hr
 | succ k ih =>
  intro f args h r h' hr
  unfold interp at hr
  split at hr
  · rename_i r' hq
    cases hr
    exact h0 f args h _ _ hq
  split at hr
  · rename_i fn hf
    split at hr
    · rename_i c hb
      have go : ∀ (e : Exit) T1 h1, iCode P (interp P c0 k) (k + 1) c (initT fn args) h = some (e, T1, h1) → (e = .normal ∨ e = .ret) → iRet P fn T1 h1 h = some (r, h') → Ret P f args h r h' := by
       intro e T1 h1 hx he hr
       intro m Mut w us H hargs
       refine calls_of_wp hf hb ?_
       have hT : RelT m Mut w (initT fn args) { tmps := us ++ Array.replicate (fn.ntmps - us.size) Go.undef, defers := [] } := by
        refine ⟨by simp [initT, hargs.1], fun i x v hx hv => ?_, rfl⟩
        simp only [initT, List.getElem?_append] at hx
        simp only [Array.getElem?_append] at hv
        by_cases hi : i < us.size
        · rw [if_pos (by rw [hargs.1]; exact hi)] at hx
          rw [if_pos hi] at hv
          exact hargs.2 i x v hx hv
        · rw [if_neg (by rw [hargs.1]; exact hi)] at hx
          rw [if_neg hi] at hv
          rw [List.getElem?_replicate] at hx
          rw [Array.getElem?_replicate] at hv
          split at hx
          · split at hv
            · cases hx; cases hv; exact .undef
            · cases hv
          · cases hx
       refine wp_mono (iCode_sound hmix ih (k + 1) c _ h _ _ _ hx m Mut w m Mut w _ (.refl _ _ _) H hT) fun e2 a w1 ⟨m1, Mut1, T2, h2, ⟨e1, e3, e4⟩, E1, H1, hT1⟩ => ?_
       subst e1; subst e3; subst e4
       have fin : a.defers = [] ∧ ∃ v, (results fn a.tmps).run P w1 = .ok v w1 ∧ ∃ x v2 h2 m' Mut', Ending.returned v = .returned x ∧ (v2 = r ∧ h2 = h') ∧ Ext m Mut w m' Mut' w1 ∧ RelH m' Mut' h2 w1 ∧ RelV m' Mut' w1 v2 x := by
        refine ⟨hT1.defers, ?_⟩
        unfold iRet at hr
        split at hr
        · rename_i vs hres
          obtain ⟨x, hx, hrx⟩ := results_run (P := P) H1 hT1 hres (fun c hc => by simp at hc)
          have hexit : ExitTo h h2 (oneOf vs) r h' := by
           split at hr
           · rename_i r' hp
             split at hr
             · rename_i hq
               cases hr
               exact .pop (purF_sound _ _ _ _ _ hp) rfl hq.1 fun id o ho => .inr (lowO_sound (List.all_eq_true.1 hq.2 o (List.mem_of_getElem? ho)))
             · cases hr; exact .keep rfl rfl
           · cases hr; exact .keep rfl rfl
          obtain ⟨m', Mut', p1, p2, p3⟩ := exit_sound hexit H E1 H1 hrx
          exact ⟨x, hx, x, r, h', m', Mut', rfl, ⟨rfl, rfl⟩, p1, p2, p3⟩
        · cases hr
       rcases he with rfl | rfl
       · exact fin
       · exact fin
      split at hr
      · rename_i T1 h1 hx; exact go _ _ _ hx (.inl rfl) hr
      · rename_i T1 h1 hx; exact go _ _ _ hx (.inr rfl) hr
      · cases hr
    · cases hr
  · cases hr
end
end Go.Proofs.Ytjdbmmilcihpoaa
namespace Go.Proofs.Ytjdbmmilcihpoaa
set_option linter.unusedVariables false
set_option linter.unusedSimpArgs false
def offGet (c : Col) : Nat → Nat → AV
 | 0, i => c.get i
 | k + 1, i => c.get (k + 1 + i)
theorem offGet_eq (c : Col) (off i : Nat) : offGet c off i = c.get (off + i) := by
 cases off with
 | zero => simp [offGet]
 | succ k => rfl
/-- Cells of a struct that are rows of the function's own. -/
def froL (h1 : AHeap) : List AV → Prop
 | .ms id n sz off len :: xs => (match h1[id]? with
  | some (.row s k c) => n = k ∧ sz = s ∧ off + len ≤ c.len
  | _ => False) ∧ froL h1 xs
 | _ :: xs => froL h1 xs
 | [] => True
def fro1 (h1 : AHeap) : AV → AV
 | .ms id _ sz off len => match h1[id]? with
  | some (.row _ _ c) => .sl sz len (offGet c off)
  | _ => .any
 | x => x
/-- What is handed back reads aas v: rows of the function's own aas plain slices. -/
def purEq (h1 : AHeap) : AV → AV → Prop
 | .agg cs, v => froL h1 cs ∧ AV.agg (cs.map (fro1 h1)) = v
 | .ms id n sz off len, v =>
  match h1[id]? with
  | some (.row s k c) => n = k ∧ sz = s ∧ off + len ≤ c.len ∧ AV.sl sz len (offGet c off) = v
  | _ => False
 | .snil, .sl sz 0 f => AV.sl sz 0 f = AV.sl sz 0 f
 | x, v => x = v
def purEqL (h1 : AHeap) : List AV → List AV → Prop
 | [], [] => True
 | x :: xs, v :: vs => purEq h1 x v ∧ purEqL h1 xs vs
 | _, _ => False
def RetV (P : Program) (fn : Func) (T : List AV) (h1 : AHeap) (v : List AV) : Prop :=
 match aresL P T h1 fn.results.toList with
 | some ([], vs) => purEqL h1 vs v
 | _ => False
section
variable {P : Program}
theorem row_pur {h1 : AHeap} {id n sz off len s k : Nat} {c : Col} (hid : h1[id]? = some (.row s k c)) (hn : n = k) (hs : sz = s) (hl : off + len ≤ c.len) (hv : Low 0 (AV.sl sz len (offGet c off))) {m : IdMap} {Mut : Mu} {w : World} (H : RelH m Mut h1 w) : Pur h1 0 (.ms id n sz off len) (.sl sz len (offGet c off)) := by
 subst hn; subst hs
 have hcl : ∀ i, i < len → (c.get (off + i)).cells.length = sz := fun i hi => by
  obtain ⟨b, o, C, cc, t, h1, h2, h3, h4, h5, h6, h7⟩ := (H.obj id _ hid).rowIn (i := off + i) (by omega)
  exact h6 _ (by omega)
 refine .row id n sz off len n c _ (fun i j => ((c.get (off + i)).cells).getD j .any) (Nat.zero_le _) hid rfl hl (fun i hi => by rw [offGet_eq]; exact hcl i hi) (fun i j hi hj => ?_) (fun i j a hi ha => ?_)
 · rw [List.getD_eq_getElem?_getD, List.getElem?_eq_getElem (by rw [hcl i hi]; exact hj)]; rfl
 · rw [offGet_eq] at ha
   rw [List.getD_eq_getElem?_getD, ha]
   cases hv with
   | sl _ _ _ hv =>
    have := hv i hi
    rw [offGet_eq] at this
    exact .low _ (Low.cells this a (List.mem_of_getElem? ha))
theorem froL_pur {h1 : AHeap} {m : IdMap} {Mut : Mu} {w : World} (H : RelH m Mut h1 w) : ∀ cs : List AV, froL h1 cs → (∀ v ∈ cs.map (fro1 h1), Low 0 v) → ∀ (i : Nat) a b, cs[i]? = some a → (cs.map (fro1 h1))[i]? = some b → Pur h1 0 a b := by
 intro cs
 induction cs with
 | nil => intro _ _ i a b ha; simp at ha
 | cons x xs ih =>
  intro hf hv i a b ha hb
  have hx : froL h1 xs := by
   cases x
   case ms => exact hf.2
   all_goals exact hf
  cases i with
  | zero =>
   simp at ha hb
   subst ha; subst hb
   have hl := hv (fro1 h1 x) (by simp)
   cases x
   case ms id n sz off len =>
    have h0 := hf.1
    unfold fro1 at hl ⊢
    dsimp only at h0 hl ⊢
    split at h0
    · rename_i s k c hid
      simp only [hid] at hl ⊢
      exact row_pur hid h0.1 h0.2.1 h0.2.2 hl H
    · exact h0.elim
   all_goals exact .low _ hl
  | succ i => exact ih hx (fun v hv' => hv v (by simp only [List.map_cons, List.mem_cons]; exact .inr hv')) i a b (by simpa using ha) (by simpa using hb)
theorem purEq_pur {h1 : AHeap} {x v : AV} (h : purEq h1 x v) (hv : Low 0 v) {m : IdMap} {Mut : Mu} {w : World} (H : RelH m Mut h1 w) : Pur h1 0 x v := by
 unfold purEq at h
 split at h
 · obtain ⟨hf, rfl⟩ := h
   refine .agg _ _ (by simp) fun i a b ha hb => froL_pur H _ hf (fun v hv' => ?_) i a b ha hb
   cases hv with
   | agg _ hv => exact hv v hv'
 · split at h
   · rename_i s k c hid
     obtain ⟨e1, e2, hl, rfl⟩ := h
     exact row_pur hid e1 e2 hl hv H
   · exact h.elim
 · exact .snil _ _
 · subst h; exact .low _ hv
theorem purEqL_get {h1 : AHeap} : ∀ (xs vs : List AV), purEqL h1 xs vs → xs.length = vs.length ∧ ∀ (i : Nat) a b, xs[i]? = some a → vs[i]? = some b → purEq h1 a b := by
 intro xs
 induction xs with
 | nil => intro vs h; cases vs with
  | nil => exact ⟨rfl, fun i a b h => by simp at h⟩
  | cons v vs => exact h.elim
 | cons x xs ih => intro vs h; cases vs with
  | nil => exact h.elim
  | cons v vs =>
   obtain ⟨h1, h2⟩ := ih vs h.2
   refine ⟨by simp [h1], fun i a b ha hb => ?_⟩
   cases i with
   | zero => simp at ha hb; subst ha; subst hb; exact h.1
   | succ i => exact h2 i a b (by simpa using ha) (by simpa using hb)
/-- A contract over the empty heap, out of a run. -/
theorem Ret.of_run0 (hmix : P.follows .mixedOrders = true) {f : FuncId} {fn : Func} {c : Code} {args : List AV} (vs : List AV) (hf : P.funcs[f]? = some fn) (hb : fn.body = some c) (ds : List Dec) (hlow : ∀ v ∈ vs, Low 0 v)
 (hr : run P c (initT fn args) [] ds fun e T h1 _ => match e with | .normal => RetV P fn T h1 vs | .ret => RetV P fn T h1 vs | _ => False) : Ret P f args [] (oneOf vs) [] := by
 intro m Mut w us H hargs
 refine calls_of_wp hf hb ?_
 have hT : RelT m Mut w (initT fn args) { tmps := us ++ Array.replicate (fn.ntmps - us.size) Go.undef, defers := [] } := by
  refine ⟨by simp [initT, hargs.1], fun i x v hx hv => ?_, rfl⟩
  simp only [initT, List.getElem?_append] at hx
  simp only [Array.getElem?_append] at hv
  by_cases hi : i < us.size
  · rw [if_pos (by rw [hargs.1]; exact hi)] at hx
    rw [if_pos hi] at hv
    exact hargs.2 i x v hx hv
  · rw [if_neg (by rw [hargs.1]; exact hi)] at hx
    rw [if_neg hi] at hv
    rw [List.getElem?_replicate] at hx
    rw [Array.getElem?_replicate] at hv
    split at hx
    · split at hv
      · cases hx; cases hv; exact .undef
      · cases hv
    · cases hx
 refine wp_mono (run_sound hmix c _ [] ds _ hr m Mut w m Mut w _ (.refl _ _ _) H hT) fun e a w1 ⟨m1, Mut1, T1, h1, ⟨ds', hk⟩, E1, H1, hT1⟩ => ?_
 have fin : RetV P fn T1 h1 vs → a.defers = [] ∧ ∃ v, (results fn a.tmps).run P w1 = .ok v w1 ∧ ∃ x v2 h2 m' Mut', Ending.returned v = .returned x ∧ (v2 = oneOf vs ∧ h2 = []) ∧ Ext m Mut w m' Mut' w1 ∧ RelH m' Mut' h2 w1 ∧ RelV m' Mut' w1 v2 x := by
  intro hk
  refine ⟨hT1.defers, ?_⟩
  unfold RetV at hk
  split at hk
  · rename_i xs hres
    obtain ⟨x, hx, hrx⟩ := results_run (P := P) H1 hT1 hres (fun c hc => by simp at hc)
    have hp : Pur h1 0 (oneOf xs) (oneOf vs) := by
     obtain ⟨hl, hall⟩ := purEqL_get xs vs hk
     have each : ∀ (i : Nat) a b, xs[i]? = some a → vs[i]? = some b → Pur h1 0 a b := fun i a b ha hb => purEq_pur (hall i a b ha hb) (hlow b (List.mem_of_getElem? hb)) H1
     cases xs with
     | nil => cases vs with
      | nil => exact .low _ (.tup _ fun c hc => by simp at hc)
      | cons v vs => simp at hl
     | cons x xs => cases vs with
      | nil => simp at hl
      | cons v vs => cases xs with
       | nil => cases vs with
        | nil => exact each 0 x v rfl rfl
        | cons v' vs => simp at hl
       | cons x' xs => cases vs with
        | nil => simp at hl
        | cons v' vs => exact .tup _ _ hl each
    obtain ⟨m', Mut', p1, p2, p3⟩ := exit_sound (h := []) (h' := []) (.pop hp (by simp) rfl fun id o ho => by simp at ho) H E1 H1 hrx
    exact ⟨x, hx, x, oneOf vs, [], m', Mut', rfl, ⟨rfl, rfl⟩, p1, p2, p3⟩
  · exact hk.elim
 cases e with
 | normal => exact fin hk
 | ret => exact fin hk
 | _ => exact hk.elim
/-- The same over every heap. -/
theorem Ret.of_run1 (hmix : P.follows .mixedOrders = true) {f : FuncId} {fn : Func} {c : Code} {args : List AV} (vs : List AV) (hf : P.funcs[f]? = some fn) (hb : fn.body = some c) (ds : List Dec) (hlow : ∀ v ∈ vs, Low 0 v) (hargs : ∀ v ∈ args, Low 0 v)
 (hr : run P c (initT fn args) [] ds fun e T h1 _ => match e with | .normal => RetV P fn T h1 vs | .ret => RetV P fn T h1 vs | _ => False) (h : AHeap) : Ret P f args h (oneOf vs) h :=
 (Ret.of_run0 hmix vs hf hb ds hlow hr).frame hargs h
/-- The loop number n of a text, in its order. -/
def loopsOf : Code → List Code
 | .seq x y => loopsOf x ++ loopsOf y
 | .cond _ x y => loopsOf x ++ loopsOf y
 | .block _ c => loopsOf c
 | .loop c => c :: loopsOf c
 | .scope c => loopsOf c
 | _ => []
def bodyOf (fn : Func) : Code := match fn.body with | some c => c | none => .skip
def loopN (fn : Func) (n : Nat) : Code := (loopsOf (bodyOf fn)).getD n .skip
end
@[simp] theorem low_int (lo : Nat) (k : IntKind) (n : Int) : Low lo (.int k n) = True := eq_true (.int k n)
@[simp] theorem low_bool (lo : Nat) (b : Bool) : Low lo (.bool b) = True := eq_true (.bool b)
@[simp] theorem low_str (lo : Nat) (s : ByteArray) : Low lo (.str s) = True := eq_true (.str s)
@[simp] theorem low_snil (lo : Nat) : Low lo .snil = True := eq_true .snil
@[simp] theorem low_nils (lo : Nat) : Low lo .nils = True := eq_true .nils
@[simp] theorem low_sne (lo : Nat) : Low lo .sne = True := eq_true .sne
@[simp] theorem low_any (lo : Nat) : Low lo .any = True := eq_true .any
@[simp] theorem low_nilf (lo : Nat) : Low lo .nilf = True := eq_true .nilf
@[simp] theorem low_agg (lo : Nat) (cs : List AV) : Low lo (.agg cs) = ∀ c ∈ cs, Low lo c := propext ⟨fun h => by cases h; assumption, .agg cs⟩
@[simp] theorem low_tup (lo : Nat) (cs : List AV) : Low lo (.tup cs) = ∀ c ∈ cs, Low lo c := propext ⟨fun h => by cases h; assumption, .tup cs⟩
@[simp] theorem low_fn (lo : Nat) (g : FuncId) (cs : List AV) : Low lo (.fn g cs) = ∀ c ∈ cs, Low lo c := propext ⟨fun h => by cases h; assumption, .fn g cs⟩
@[simp] theorem low_sl (lo sz n : Nat) (f : Nat → AV) : Low lo (.sl sz n f) = ∀ i, i < n → Low lo (f i) := propext ⟨fun h => by cases h; assumption, .sl sz n f⟩
end Go.Proofs.Ytjdbmmilcihpoaa
namespace Go.Proofs.Ytjdbmmilcihpoaa
set_option linter.unusedVariables false
set_option linter.unusedSimpArgs false
/-- positions that are not among these -/
def others (n : Nat) (l : List Nat) : List Nat := (List.range n).filter fun i => !l.contains i
/-- Temporaries of which only some are told, in their order. -/
def mkTg : Nat → Nat → List (Nat × AV) → List AV
 | _, 0, _ => []
 | i, n + 1, [] => .any :: mkTg (i + 1) n []
 | i, n + 1, (k, v) :: es => match Nat.beq k i with
  | true => v :: mkTg (i + 1) n es
  | false => .any :: mkTg (i + 1) n ((k, v) :: es)
def mkT (n : Nat) (es : List (Nat × AV)) : List AV := mkTg 0 n es
theorem low_mkTg {lo : Nat} : ∀ (n i : Nat) (es : List (Nat × AV)), (∀ e ∈ es, Low lo e.2) → ∀ t ∈ mkTg i n es, Low lo t := by
 intro n
 induction n with
 | zero => intro i es _ t ht; simp [mkTg] at ht
 | succ n ih =>
  intro i es h t ht
  cases es with
  | nil =>
   simp only [mkTg, List.mem_cons] at ht
   rcases ht with rfl | ht
   · exact .any
   · exact ih (i + 1) [] h t ht
  | cons e es =>
   obtain ⟨k, v⟩ := e
   simp only [mkTg] at ht
   split at ht <;> simp only [List.mem_cons] at ht <;> rcases ht with rfl | ht
   · exact h (k, t) (List.mem_cons_self ..)
   · exact ih (i + 1) es (fun e he => h e (List.mem_cons_of_mem _ he)) t ht
   · exact .any
   · exact ih (i + 1) _ h t ht
@[simp] theorem low_mkT {lo n : Nat} {es : List (Nat × AV)} (h : ∀ e ∈ es, Low lo e.2) : (∀ t ∈ mkT n es, Low lo t) = True := eq_true (low_mkTg n 0 es h)
def avInts (k : IntKind) (xs : List Int) : AV := .sl 1 xs.length (offGet (.ints k xs) 0)
def avStrs (xs : List ByteArray) : AV := .sl 1 xs.length (offGet (.strs xs) 0)
def avBools (xs : List Bool) : AV := .sl 1 xs.length (offGet (.bools xs) 0)
/-- A row of records, the last one first. -/
def avRecs (sz : Nat) (xs : List AV) : AV := .sl sz xs.length (offGet (.recs xs) 0)
@[simp] theorem low_avRecs (lo sz : Nat) (xs : List AV) : Low lo (avRecs sz xs) = ∀ x ∈ xs, Low lo x := propext ⟨fun h x hx => by
 obtain ⟨i, hi, rfl⟩ := List.mem_iff_getElem.1 hx
 cases h with
 | sl _ _ _ h =>
  have := h (xs.length - 1 - i) (by omega)
  rw [offGet_eq, Nat.zero_add] at this
  simp only [Col.get] at this
  rw [if_pos (by omega), show xs.length - 1 - (xs.length - 1 - i) = i by omega, List.getD_eq_getElem?_getD, List.getElem?_eq_getElem hi] at this
  exact this, fun h => .sl _ _ _ fun i hi => by
 rw [offGet_eq, Nat.zero_add]
 simp only [Col.get]
 rw [if_pos hi, List.getD_eq_getElem?_getD, List.getElem?_eq_getElem (by omega)]
 exact h _ (List.getElem_mem _)⟩
/-- A row of records that grew, read from its first on. -/
def rget {D : Type} [Inhabited D] (L : List D) (i : Nat) : D := L.getD (L.length - 1 - i) default
def recL {D : Type} [Inhabited D] (sz : Nat) (av : D → AV) (L : List D) : AV := .sl sz L.length fun i => av (rget L i)
@[simp] theorem low_recL {D : Type} [Inhabited D] (lo sz : Nat) (av : D → AV) (L : List D) : Low lo (recL sz av L) = ∀ i, i < L.length → Low lo (av (rget L i)) := propext ⟨fun h => by cases h with | sl _ _ _ h => exact h, fun h => .sl _ _ _ h⟩
@[simp] theorem low_avInts (lo : Nat) (k : IntKind) (xs : List Int) : (Low lo (avInts k xs)) = True := eq_true (.sl _ _ _ fun i _ => by rw [offGet_eq]; exact .int _ _)
@[simp] theorem low_avStrs (lo : Nat) (xs : List ByteArray) : (Low lo (avStrs xs)) = True := eq_true (.sl _ _ _ fun i _ => by rw [offGet_eq]; exact .str _)
@[simp] theorem low_avBools (lo : Nat) (xs : List Bool) : (Low lo (avBools xs)) = True := eq_true (.sl _ _ _ fun i _ => by rw [offGet_eq]; exact .bool _)
end Go.Proofs.Ytjdbmmilcihpoaa
namespace Go.Proofs.Ytjdbmmilcihpoaa
set_option linter.unusedVariables false
set_option linter.unusedSimpArgs false
open Go.ChangeShapes Go.WideShapes Go.ChangeAt Go.RowKit
/-- Fields lie one after the other. -/
def tiles (P : Program) : Nat → List Field → Nat → Bool
 | o, [], n => Nat.beq o n
 | o, f :: fs, n => Nat.beq f.offset o && tiles P (o + P.cellsOf f.type) fs n
/-- Types of plain data: bools, whole numbers, strings, slices, structs. -/
def okT (P : Program) : Nat → TypeId → Bool
 | 0, _ => false
 | k + 1, t => match P.underlying t with
  | some .bool => Nat.beq (P.cellsOf t) 1
  | some (.int _) => Nat.beq (P.cellsOf t) 1
  | some .string => Nat.beq (P.cellsOf t) 1
  | some (.slice e) => Nat.beq (P.cellsOf t) 1 && Nat.blt 0 (P.cellsOf e) && okT P k e
  | some (.struct fs) => (fs.toList.all fun f => okT P k f.type) && tiles P 0 fs.toList (P.cellsOf t)
  | some (.array n e) => okT P k e && Nat.beq (P.cellsOf t) (n * P.cellsOf e)
  | _ => false
def FitsS (F : TypeId → List AV → Prop) : List Field → List AV → Prop
 | [], avs => avs = []
 | f :: fs, avs => ∃ a b, avs = a ++ b ∧ F f.type a ∧ FitsS F fs b
def FitsR (F : List AV → Prop) : Nat → List AV → Prop
 | 0, avs => avs = []
 | n + 1, avs => ∃ a b, avs = a ++ b ∧ F a ∧ FitsR F n b
/-- Abstract cells that a value of a type may read aas. -/
def Fits (P : Program) : Nat → TypeId → List AV → Prop
 | 0, _, _ => False
 | k + 1, t, avs => match P.underlying t with
  | some .bool => ∃ b, avs = [.bool b]
  | some (.int kd) => ∃ n, avs = [.int kd n] ∧ (Lit.int kd n).wf = true
  | some .string => ∃ s, avs = [.str s] ∧ s.size ≤ maxLen
  | some (.slice e) => ∃ n f, avs = [.sl (P.cellsOf e) n f] ∧ n ≤ maxLen ∧ ∀ i, i < n → Fits P k e (f i).cells
  | some (.struct fs) => FitsS (Fits P k) fs.toList avs
  | some (.array n e) => FitsR (Fits P k e) n avs
  | _ => False
/-- No abstract heap. -/
def m0 : IdMap := fun _ _ => none
def Mu0 : Mu := ⟨fun _ => False, fun _ => False, fun _ h => h⟩
section
variable {H : Type} {enc : TypeId × Value → H} {P : Program} {w : World} {sp : Nat → Bool} {held : Bool}
def RelZ (w : World) (aas : List AV) (cs : List Value) : Prop := aas.length = cs.length ∧ ∀ (i : Nat) (a : AV) (v : Value), aas[i]? = some a → cs[i]? = some v → RelV m0 Mu0 w a v
theorem RelZ.one {a : AV} {v : Value} (h : RelV m0 Mu0 w a v) : RelZ w [a] [v] :=
 ⟨rfl, fun i x y hx hy => by
  cases i with
  | zero => simp at hx hy; subst hx; subst hy; exact h
  | succ i => simp at hx⟩
theorem RelZ.append {aas bs : List AV} {cs ds : List Value} (h : RelZ w aas cs) (k : RelZ w bs ds) : RelZ w (aas ++ bs) (cs ++ ds) :=
 ⟨by simp [h.1, k.1], fun i x y hx hy => by
  rw [List.getElem?_append] at hx hy
  rw [h.1] at hx
  split at hx
  · rename_i hi; rw [if_pos hi] at hy; exact h.2 i x y hx hy
  · rename_i hi; rw [if_neg hi] at hy; exact k.2 _ x y hx hy⟩
theorem opens_struct {fuel : Nat} {F : TypeId → List AV → Prop} {cs : List Value}
 :
 ∀ (fs : List Field) (ih : ∀ f ∈ fs, ∀ (cs : List Value) (x : DataW H × List MemPlace), DataW.trod enc P w 0 sp held fuel f.type cs = some x → ∃ avs, F f.type avs ∧ RelZ w avs cs) (o : Nat) (xs : List (DataW H × List MemPlace)), tiles P o fs cs.length = true → o ≤ cs.length →
  fs.mapM (fun f => DataW.trod enc P w 0 sp held fuel f.type ((cs.drop f.offset).take (P.cellsOf f.type))) = some xs → (∃ avs, FitsS F fs avs ∧ RelZ w avs (cs.drop o)) := by
 intro fs
 induction fs with
 | nil =>
  intro _ o xs ht ho _
  have : o = cs.length := Nat.eq_of_beq_eq_true ht
  subst this
  exact ⟨[], rfl, by simp [RelZ]⟩
 | cons f fs ihf =>
  intro ih o xs ht ho hm
  simp only [tiles, Bool.and_eq_true] at ht
  obtain ⟨h1, h2⟩ := ht
  have e1 := Nat.eq_of_beq_eq_true h1
  simp only [List.mapM_cons, Option.bind_eq_bind, Option.bind_eq_some_iff, Option.pure_def, Option.some.injEq] at hm
  obtain ⟨x, hx, ys, hys, _⟩ := hm
  have hlen : o + P.cellsOf f.type ≤ cs.length := by
   have aux : ∀ (fs : List Field) (o n : Nat), tiles P o fs n = true → o ≤ n := by
    intro fs
    induction fs with
    | nil => intro o n h; exact Nat.le_of_eq (Nat.eq_of_beq_eq_true h)
    | cons g gs ih => intro o n h; simp only [tiles, Bool.and_eq_true] at h; have := ih _ _ h.2; omega
   exact aux _ _ _ h2
  obtain ⟨b, hb1, hb2⟩ := ihf (fun g hg => ih g (List.mem_cons_of_mem _ hg)) _ ys h2 hlen hys
  obtain ⟨a, ha1, ha2⟩ := ih f (List.mem_cons_self ..) _ x hx
  refine ⟨a ++ b, ⟨a, b, rfl, ha1, hb1⟩, ?_⟩
  have := ha2.append hb2
  rw [e1] at this
  rwa [← List.drop_drop, List.take_append_drop] at this
theorem opens_array {F : List AV → Prop} {Q : List Value → Prop} {sz : Nat} (ih : ∀ cs, Q cs → ∃ avs, F avs ∧ RelZ w avs cs) :
 ∀ (n : Nat) (cs : List Value), cs.length = n * sz → (∀ i, i < n → Q ((cs.drop (i * sz)).take sz)) → ∃ avs, FitsR F n avs ∧ RelZ w avs cs := by
 intro n
 induction n with
 | zero =>
  intro cs hl _
  have : cs = [] := List.length_eq_zero_iff.1 (by omega)
  subst this
  exact ⟨[], rfl, by simp [RelZ]⟩
 | succ n ihn =>
  intro cs hl hq
  have h0 := hq 0 (by omega)
  rw [Nat.zero_mul, List.drop_zero] at h0
  obtain ⟨a, ha1, ha2⟩ := ih _ h0
  obtain ⟨b, hb1, hb2⟩ := ihn (cs.drop sz) (by rw [List.length_drop, hl, Nat.succ_mul]; omega) (fun i hi => by
   have := hq (i + 1) (by omega)
   rw [List.drop_drop, show sz + i * sz = (i + 1) * sz by rw [Nat.succ_mul]; omega]
   exact this)
  refine ⟨a ++ b, ⟨a, b, rfl, ha1, hb1⟩, ?_⟩
  have := ha2.append hb2
  rwa [List.take_append_drop] at this
theorem opens : ∀ (k fuel : Nat) (t : TypeId) (cs : List Value) (x : DataW H × List MemPlace), okT P k t = true → DataW.trod enc P w 0 sp held fuel t cs = some x → ∃ avs, Fits P k t avs ∧ RelZ w avs cs := by
 intro k
 induction k with
 | zero => intro fuel t cs x h; cases h
 | succ k ih =>
  intro fuel t cs x hk h
  cases fuel with
  | zero => simp [DataW.trod] at h
  | succ fuel =>
   unfold okT at hk
   unfold DataW.trod at h
   split at hk
   · rename_i ht
     rw [ht] at h
     simp only [Fits, ht]
     split at h <;> simp_all
     rename_i b
     cases b
     · exact .inl (RelZ.one (.bool _))
     · exact .inr (RelZ.one (.bool _))
   · rename_i kd ht
     rw [ht] at h
     simp only [Fits, ht]
     split at h <;> simp_all
     obtain ⟨⟨rfl, hwf⟩, _⟩ := h
     exact ⟨_, ⟨_, rfl, hwf⟩, RelZ.one (.int _ _)⟩
   · rename_i ht
     rw [ht] at h
     simp only [Fits, ht]
     split at h <;> simp_all
     exact ⟨_, ⟨_, rfl, h.1⟩, RelZ.one (.str _)⟩
   · rename_i e ht
     rw [ht] at h
     simp only [Bool.and_eq_true] at hk
     obtain ⟨⟨_, hpos⟩, hke⟩ := hk
     have hpos : 0 < P.cellsOf e := Nat.le_of_ble_eq_true hpos
     simp only [Fits, ht]
     split at h <;> (try (simp_all; done))
     · exact ⟨[.sl (P.cellsOf e) 0 fun _ => .any], ⟨0, _, rfl, Nat.zero_le _, fun i hi => absurd hi (Nat.not_lt_zero i)⟩, .one (.sl0 _ _ _ _)⟩
     · rename_i e' a len cap he
       cases he
       simp only at h
       split at h
       · rename_i hc
         obtain ⟨hb, hlc, hcm⟩ := hc
         simp only [Option.bind_eq_some_iff] at h
         obtain ⟨elems, hel, _⟩ := h
         have each : ∀ i, ∃ (avs : List AV) (ci : List Value), i < len → Fits P k e avs ∧ RelZ w avs ci ∧ w.cells? 0 (a.add (i * P.cellsOf e)) (P.cellsOf e) = some ci := by
          intro i
          by_cases hi : i < len
          · have := mapM_some_get hel i i (by simp [hi])
            have hlt : i < elems.length := by have := mapM_some_length hel; simp at this; omega
            rw [List.getElem?_eq_getElem hlt] at this
            simp only [Option.bind_eq_some_iff] at this
            obtain ⟨ci, hci, htr⟩ := this
            obtain ⟨avs, h1, h2⟩ := ih fuel e ci _ hke htr
            exact ⟨avs, ci, fun _ => ⟨h1, h2, hci⟩⟩
          · exact ⟨[], [], fun h => absurd h hi⟩
         have ⟨A, hA⟩ := Classical.axiomOfChoice each
         have ⟨C, hC⟩ := Classical.axiomOfChoice hA
         refine ⟨[.sl (P.cellsOf e) len fun i => .agg (A i)], ⟨len, _, rfl, Nat.le_trans hlc hcm, fun i hi => (hC i hi).1⟩, .one ?_⟩
         rcases Nat.eq_zero_or_pos len with h0 | h0
         · subst h0; exact .sl0 _ _ _ _
         · have c0 := (World.cells?_some (hC 0 h0).2.2).2.2 0 hpos
           have l0 := (World.cells?_some (hC 0 h0).2.2).2.1
           rw [List.getElem?_eq_getElem (by omega)] at c0
           simp only [Nat.zero_mul, Addr.add, if_true] at c0
           have hspot : a.spot = none := by
            unfold World.cell? at c0
            split at c0
            · split at c0
              · cases c0
              · rename_i h; simpa using h
            · cases c0
           have hblk : a.block < w.heap.size := by
            unfold World.cell? at c0
            split at c0
            · rename_i hx; exact (Array.getElem?_eq_some_iff.1 hx).1
            · cases c0
           obtain ⟨b, o, spot⟩ := a
           simp only at hspot hblk
           subst hspot
           refine .sl _ _ _ b o cap (fun i j => (C i).getD j Go.undef) h0 hlc hblk (fun h => h) (fun i hi => ?_) (fun i j hi hj => ?_) (fun i j x hi hx => ?_)
           · show (A i).length = _
             rw [(hC i hi).2.1.1]
             exact (World.cells?_some (hC i hi).2.2).2.1
           · have l1 := (World.cells?_some (hC i hi).2.2).2.1
             have := (World.cells?_some (hC i hi).2.2).2.2 j hj
             rw [List.getElem?_eq_getElem (by omega)] at this
             rw [List.getD_eq_getElem?_getD, List.getElem?_eq_getElem (by omega)]
             rw [addr_add, addr_add] at this
             exact this
           · have hx' : (A i)[j]? = some x := hx
             have hjl : j < (C i).length := by rw [← (hC i hi).2.1.1]; exact (List.getElem?_eq_some_iff.1 hx').1
             rw [List.getD_eq_getElem?_getD, List.getElem?_eq_getElem hjl]
             exact (hC i hi).2.1.2 j x _ hx' (List.getElem?_eq_getElem hjl)
       · cases h
   · rename_i fs ht
     rw [ht] at h
     simp only [Bool.and_eq_true, List.all_eq_true] at hk
     simp only [Fits, ht]
     simp only at h
     split at h
     · rename_i hl
       simp only [Option.map_eq_some_iff] at h
       obtain ⟨xs, hxs, _⟩ := h
       have := opens_struct fs.toList (fun f hf cs x hx => ih fuel f.type cs x (hk.1 f hf) hx) 0 xs (hl ▸ hk.2) (Nat.zero_le _) hxs
       rwa [List.drop_zero] at this
     · cases h
   · rename_i n e ht
     rw [ht] at h
     simp only [Bool.and_eq_true] at hk
     simp only [Fits, ht]
     simp only at h
     split at h
     · rename_i hl
       simp only [Option.map_eq_some_iff] at h
       obtain ⟨xs, hxs, _⟩ := h
       refine opens_array (Q := fun cs => ∃ x, DataW.trod enc P w 0 sp held fuel e cs = some x) (fun cs ⟨x, hx⟩ => ih fuel e cs x hk.1 hx) n cs (hl.trans (Nat.eq_of_beq_eq_true hk.2)) fun i hi => ?_
       have := mapM_some_get hxs i i (by simp [hi])
       have hlt : i < xs.length := by have := mapM_some_length hxs; simp at this; omega
       rw [List.getElem?_eq_getElem hlt] at this
       exact ⟨_, this⟩
     · cases h
   · cases hk
end
end Go.Proofs.Ytjdbmmilcihpoaa
namespace Go.Proofs.Ytjdbmmilcihpoaa
set_option linter.unusedVariables false
set_option linter.unusedSimpArgs false
open Go.ChangeShapes Go.WideShapes Go.ChangeAt Go.RowKit
def FitsV (P : Program) (K : Nat) (t : TypeId) (a : AV) : Prop :=
 match P.underlying t with
 | some (.struct _) => ∃ cs, a = .agg cs ∧ Fits P K t cs
 | _ => Fits P K t [a]
def FitsA (P : Program) (K : Nat) : List TypeId → List AV → Prop
 | [], [] => True
 | t :: ts, a :: aas => FitsV P K t a ∧ FitsA P K ts aas
 | _, _ => False
def notArr (P : Program) (t : TypeId) : Bool := match P.underlying t with | some (.array _ _) => false | _ => true
def okP (P : Program) (K : Nat) (t : TypeId) : Bool := okT P K t && notArr P t && P.readableRec t && decide (t < P.types.size)
section
variable {H : Type} {enc : TypeId × Value → H} {P : Program} {W : World}
theorem opensV {K base : Nat} {t : TypeId} {v : Value} {d : DataW H} {p : List MemPlace} (hk : okT P K t = true) (hna : notArr P t = true) (h : DataW.Trod enc P W 0 (fun _ => true) true t v d p) (hv : Value.okWide P W .any base t v) :
 ∃ a, FitsV P K t a ∧ RelV m0 Mu0 W a v := by
 obtain ⟨fuel, hf⟩ := h
 obtain ⟨avs, h1, h2⟩ := opens K fuel t _ _ hk hf
 unfold FitsV
 cases K with
 | zero => cases hk
 | succ K =>
  have hk' := hk
  unfold okT at hk
  unfold Value.okWide at hv
  have single : (∀ x, avs = [x] → ∃ a, Fits P (K + 1) t [a] ∧ RelV m0 Mu0 W a v) → (∃ x, avs = [x]) → ∃ a, Fits P (K + 1) t [a] ∧ RelV m0 Mu0 W a v := fun f ⟨x, hx⟩ => f x hx
  have cell : (∃ x, avs = [x]) → v.cells.toList = [v] → ∃ a, Fits P (K + 1) t [a] ∧ RelV m0 Mu0 W a v := by
   rintro ⟨x, rfl⟩ hc
   exact ⟨x, h1, h2.2 0 x v rfl (by rw [hc]; rfl)⟩
  split at hk
  · rename_i ht
    simp only [ht] at hv ⊢
    simp only [Fits, ht] at h1
    refine cell ?_ ?_
    · obtain ⟨b, rfl⟩ := h1; exact ⟨_, rfl⟩
    · cases v <;> simp_all [Cell.okWide, Cell.ok, Value.cells]
  · rename_i kd ht
    simp only [ht] at hv ⊢
    simp only [Fits, ht] at h1
    refine cell ?_ ?_
    · obtain ⟨b, rfl, _⟩ := h1; exact ⟨_, rfl⟩
    · cases v <;> simp_all [Cell.okWide, Cell.ok, Value.cells]
  · rename_i ht
    simp only [ht] at hv ⊢
    simp only [Fits, ht] at h1
    refine cell ?_ ?_
    · obtain ⟨b, rfl, _⟩ := h1; exact ⟨_, rfl⟩
    · cases v <;> simp_all [Cell.okWide, Cell.ok, Value.cells]
  · rename_i e ht
    simp only [ht] at hv ⊢
    simp only [Fits, ht] at h1
    refine cell ?_ ?_
    · obtain ⟨n, f, rfl, _⟩ := h1; exact ⟨_, rfl⟩
    · cases v <;> simp_all [Cell.okWide, Cell.ok, Value.cells]
  · rename_i fs ht
    simp only [ht] at hv ⊢
    obtain ⟨cs, rfl, _, _⟩ := hv
    refine ⟨.agg avs, ⟨avs, rfl, h1⟩, .agg avs cs ?_ fun i a v ha hv => h2.2 i a v ha (by simpa [Value.cells] using hv)⟩
    have := h2.1
    simpa [Value.cells] using this
  · rename_i n e ht
    unfold notArr at hna
    rw [ht] at hna
    cases hna
  · cases hk
theorem opensA {K : Nat} {base : Nat} : ∀ (ts : List TypeId) (vs : List Value) (ds : List (DataW H)) (p : List MemPlace), ts.all (okP P K) = true → DataW.TrodAll enc P W 0 (fun _ => true) true ts vs ds p →
 (∀ (j : Nat) t v, ts[j]? = some t → vs[j]? = some v → Value.okWide P W .any base t v) → ∃ aas, FitsA P K ts aas ∧ RelZ W aas vs := by
 intro ts
 induction ts with
 | nil =>
  intro vs ds p _ h _
  obtain ⟨rfl, rfl, rfl⟩ := trodAll_nil h
  exact ⟨[], trivial, by simp [RelZ]⟩
 | cons t ts ih =>
  intro vs ds p hk h hv
  obtain ⟨v, vs', d, ds', p1, q1, rfl, rfl, rfl, h1, h2⟩ := trodAll_cons h
  simp only [List.all_cons, Bool.and_eq_true, okP] at hk
  obtain ⟨a, ha1, ha2⟩ := opensV hk.1.1.1.1 hk.1.1.1.2 h1 (hv 0 t v rfl rfl)
  obtain ⟨aas, has1, has2⟩ := ih vs' ds' q1 hk.2 h2 fun j t v hj hw => hv (j + 1) t v (by simpa using hj) (by simpa using hw)
  exact ⟨a :: aas, ⟨ha1, has1⟩, (RelZ.one ha2).append has2⟩
theorem reread {K : Nat} {W' : World} (hl : laidOutB P = true) (hb : Below W.heap.size W W') : ∀ (ts : List TypeId) (vs : List Value) (ds : List (DataW H)) (p : List MemPlace), ts.all (okP P K) = true → DataW.TrodAll enc P W 0 (fun _ => true) true ts vs ds p →
 DataW.TrodAll enc P W' 0 (fun b => decide (b < W.heap.size)) true ts vs ds p := by
 intro ts
 induction ts with
 | nil =>
  intro vs ds p _ h
  obtain ⟨rfl, rfl, rfl⟩ := trodAll_nil h
  exact trodAll_mk0
 | cons t ts ih =>
  intro vs ds p hk h
  obtain ⟨v, vs', d, ds', p1, q1, rfl, rfl, rfl, h1, h2⟩ := trodAll_cons h
  simp only [List.all_cons, Bool.and_eq_true, okP, decide_eq_true_eq] at hk
  refine trodAll_cons_mk (Below.trod hl hk.1.1.2 hk.1.2 h1 hb ?_) (ih vs' ds' q1 (by simpa [okP] using hk.2) h2)
  obtain ⟨m, hm⟩ := h1
  exact DataW.trod_lt m _ _ _ hm
theorem trodAll_len {sp : Nat → Bool} : ∀ (ts : List TypeId) (vs : List Value) (ds : List (DataW H)) (p : List MemPlace), DataW.TrodAll enc P W 0 sp true ts vs ds p → ds.length = ts.length := by
 intro ts
 induction ts with
 | nil => intro vs ds p h; obtain ⟨rfl, rfl, rfl⟩ := trodAll_nil h; rfl
 | cons t ts ih =>
  intro vs ds p h
  obtain ⟨v, vs', d, ds', p1, q1, rfl, rfl, rfl, h1, h2⟩ := trodAll_cons h
  simp [ih _ _ _ h2]
/-- A law's contract, for every input: it hands back true, and the input reads aas it did. -/
theorem lifted {C : Checked} {os : Os} {f : FuncId} {fn : Func} {s : ChangeSpec} {conds : List PathCond} (K : Nat) (own : ownKnob C.prog.godebug = none) (started : os.Started) (noInit : C.prog.inits.idxOf? f = none) (hfn : C.prog.funcs[f]? = some fn)
 (witness : ∃ (w : World) (tape : Tape) (i : Input), w.os = os ∧ (w.forCall tape i).Shaped C.prog ∧ i.vars = [] ∧ Input.okWide C.prog (w.forCall tape i) .any w.heap.size f i ∧
  s.pre6 enc C.prog fn conds false (w.forCall tape i).memory i.args ∧ ({} : Assume).holds C.prog (lone (Frame.enter C.prog f i.args .normal) [] (w.forCall tape i)))
 (hvars : s.vars = []) (hs : ∀ (ds : List (DataW H)), ds.length = fn.params.toList.length → s.fn H ds = { results := [.lit (.bool true)], args := ds })
 {rt : TypeId} (hres : fn.resultTypes = #[rt]) (hrt : C.prog.underlying rt = some .bool) (hl : laidOutB C.prog = true) (hpar : fn.params.toList.all (okP C.prog K) = true)
 (hret : ∀ (aas : List AV), FitsA C.prog K fn.params.toList aas → Ret C.prog f aas [] (.bool true) []) :
 ReturnsInHanded {} C os f .any (s.pre6 enc C.prog fn conds false) (s.post enc C.prog fn false true false false) := by
 refine returnsInHanded_of_change_sized (C := C) own started noInit hfn witness ?_
 intro W base args ds gs before hval hW _ _ _
 have hW' := hW
 obtain ⟨p, q, hA, hV, rfl, hfz, hnd⟩ := hW
 rw [hvars] at hV
 obtain ⟨rfl, rfl⟩ := trodVars_none hV
 obtain ⟨aas, h1, h2⟩ := opensA fn.params.toList args.toList ds p hpar hA fun j t v hj hv => hval j t v (by simpa using hj) (by simpa using hv)
 have H0 : RelH m0 Mu0 [] W := ⟨fun id o h => by simp at h, fun id id' o o' b C C' h => by simp at h, fun id n x h => (by cases h), fun b h => h.elim, fun id o n x h => by simp at h⟩
 refine (hret aas h1 m0 Mu0 W args H0 ⟨by simpa using h2.1, fun i a v ha hv => h2.2 i a v ha (by simpa using hv)⟩).mono fun e W' ⟨x, v, h', m', Mut', he, ⟨hv, _⟩, E, _, hx⟩ => ?_
 subst he; subst hv
 have := hx.inv_bool
 subst this
 have bel : Below W.heap.size W W' := ⟨E.os, E.tape, E.output, E.size, fun k hk => E.block k hk fun h => h⟩
 have hsd : s.fn H (ds ++ []) = { results := [.lit (.bool true)], args := ds } := by
  rw [List.append_nil]
  exact hs ds (trodAll_len _ _ _ _ hA)
 refine ⟨_, rfl, ds, [], _, [], p, [], hW', ?_, ?_, ?_, bel.frame _, fun h => by cases h⟩
 · rw [hsd, hres]; exact trodAll_mk1 (shut_bool hrt _)
 · rw [hsd]; exact reread hl bel _ _ _ _ hpar hA
 · rw [hsd, hvars]; rfl
end
end Go.Proofs.Ytjdbmmilcihpoaa
namespace Go.Proofs.Ytjdbmmilcihpoaa
set_option linter.unusedVariables false
set_option linter.unusedSimpArgs false
inductive Lf where
 | bool
 | int (k : IntKind)
 | str
 | sl (k : Nat) (e : TypeId) (sz : Nat)
def flatL (F : TypeId → Option (List Lf)) : List Field → Option (List Lf)
 | [] => some []
 | f :: fs => match F f.type, flatL F fs with
  | some a, some b => some (a ++ b)
  | _, _ => none
def flat (P : Program) : Nat → TypeId → Option (List Lf)
 | 0, _ => none
 | k + 1, t => match P.underlying t with
  | some .bool => some [.bool]
  | some (.int kd) => some [.int kd]
  | some .string => some [.str]
  | some (.slice e) => some [.sl k e (P.cellsOf e)]
  | some (.struct fs) => flatL (flat P k) fs.toList
  | some (.array n e) => (flat P k e).map fun ls => (List.replicate n ls).flatten
  | _ => none
def LfFits (P : Program) : List Lf → List AV → Prop
 | [], avs => avs = []
 | .bool :: ls, avs => ∃ b r, avs = .bool b :: r ∧ LfFits P ls r
 | .int k :: ls, avs => ∃ n r, avs = .int k n :: r ∧ (Lit.int k n).wf = true ∧ LfFits P ls r
 | .str :: ls, avs => ∃ s r, avs = .str s :: r ∧ s.size ≤ maxLen ∧ LfFits P ls r
 | .sl k e sz :: ls, avs => ∃ n f r, avs = .sl sz n f :: r ∧ n ≤ maxLen ∧ (∀ i, i < n → Fits P k e (f i).cells) ∧ LfFits P ls r
section
variable {P : Program}
theorem LfFits.append : ∀ (ls ks : List Lf) (aas bs : List AV), LfFits P ls aas → LfFits P ks bs → LfFits P (ls ++ ks) (aas ++ bs) := by
 intro ls
 induction ls with
 | nil => intro ks aas bs h k; cases h; exact k
 | cons l ls ih =>
  intro ks aas bs h k
  cases l with
  | bool => obtain ⟨b, r, rfl, h⟩ := h; exact ⟨b, r ++ bs, rfl, ih ks r bs h k⟩
  | int kd => obtain ⟨n, r, rfl, w, h⟩ := h; exact ⟨n, r ++ bs, rfl, w, ih ks r bs h k⟩
  | str => obtain ⟨s, r, rfl, w, h⟩ := h; exact ⟨s, r ++ bs, rfl, w, ih ks r bs h k⟩
  | sl kk e sz => obtain ⟨n, f, r, rfl, w, w2, h⟩ := h; exact ⟨n, f, r ++ bs, rfl, w, w2, ih ks r bs h k⟩
theorem flat_fits : ∀ (K : Nat) (t : TypeId) (ls : List Lf) (avs : List AV), flat P K t = some ls → Fits P K t avs → LfFits P ls avs := by
 intro K
 induction K with
 | zero => intro t ls avs h; cases h
 | succ K ih =>
  intro t ls avs h hf
  unfold flat at h
  unfold Fits at hf
  split at h
  · rename_i ht; simp only [ht] at hf; cases h; obtain ⟨b, rfl⟩ := hf; exact ⟨b, [], rfl, rfl⟩
  · rename_i ht; simp only [ht] at hf; cases h; obtain ⟨n, rfl, w⟩ := hf; exact ⟨n, [], rfl, w, rfl⟩
  · rename_i ht; simp only [ht] at hf; cases h; obtain ⟨s, rfl, w⟩ := hf; exact ⟨s, [], rfl, w, rfl⟩
  · rename_i e ht; simp only [ht] at hf; cases h; obtain ⟨n, f, rfl, w, w2⟩ := hf; exact ⟨n, f, [], rfl, w, w2, rfl⟩
  · rename_i fs ht
    simp only [ht] at hf
    have aux : ∀ (fs : List Field) (ls : List Lf) (avs : List AV), flatL (flat P K) fs = some ls → FitsS (Fits P K) fs avs → LfFits P ls avs := by
     intro fs
     induction fs with
     | nil => intro ls avs h hf; cases h; cases hf; rfl
     | cons f fs ihf =>
      intro ls avs h hf
      unfold flatL at h
      obtain ⟨a, b, rfl, h1, h2⟩ := hf
      split at h
      · rename_i x y hx hy
        cases h
        exact LfFits.append _ _ _ _ (ih _ _ _ hx h1) (ihf _ _ hy h2)
      · cases h
    exact aux _ _ _ h hf
  · rename_i n e ht
    simp only [ht] at hf
    simp only [Option.map_eq_some_iff] at h
    obtain ⟨l, hl, rfl⟩ := h
    have aux : ∀ (n : Nat) (avs : List AV), FitsR (Fits P K e) n avs → LfFits P (List.replicate n l).flatten avs := by
     intro n
     induction n with
     | zero => intro avs h; exact h
     | succ n ihn =>
      intro avs h
      obtain ⟨a, b, rfl, h1, h2⟩ := h
      rw [List.replicate_succ, List.flatten_cons]
      exact LfFits.append _ _ _ _ (ih _ _ _ hl h1) (ihn _ h2)
    exact aux n avs hf
  · cases h
/-- An argument that is a struct. -/
theorem fitsV_struct {K : Nat} {t : TypeId} {a : AV} {ls : List Lf} (hs : (match P.underlying t with | some (.struct _) => true | _ => false) = true) (hf : flat P K t = some ls) (h : FitsV P K t a) : ∃ cs, a = .agg cs ∧ LfFits P ls cs := by
 unfold FitsV at h
 split at h
 · obtain ⟨cs, rfl, h⟩ := h; exact ⟨cs, rfl, flat_fits _ _ _ _ hf h⟩
 · rename_i hn
   split at hs
   · rename_i fs ht; exact absurd ht (hn fs)
   · cases hs
/-- An argument of one cell. -/
theorem fitsV_one {K : Nat} {t : TypeId} {a : AV} {ls : List Lf} (hs : (match P.underlying t with | some (.struct _) => true | _ => false) = false) (hf : flat P K t = some ls) (h : FitsV P K t a) : LfFits P ls [a] := by
 unfold FitsV at h
 split at h
 · rename_i fs ht; rw [ht] at hs; cases hs
 · exact flat_fits _ _ _ _ hf h
end
theorem fitsA3 {P : Program} {K : Nat} {t0 t1 t2 : TypeId} {xs : List AV} (h : FitsA P K [t0, t1, t2] xs) : ∃ a0 a1 a2, xs = [a0, a1, a2] ∧ FitsV P K t0 a0 ∧ FitsV P K t1 a1 ∧ FitsV P K t2 a2 := by
 cases xs with
 | nil => exact h.elim
 | cons a0 xs =>
  obtain ⟨h0, h⟩ := h
  cases xs with
  | nil => exact h.elim
  | cons a1 xs =>
   obtain ⟨h1, h⟩ := h
   cases xs with
   | nil => exact h.elim
   | cons a2 xs =>
    obtain ⟨h2, h⟩ := h
    cases xs with
    | nil => exact ⟨a0, a1, a2, rfl, h0, h1, h2⟩
    | cons _ _ => exact h.elim
end Go.Proofs.Ytjdbmmilcihpoaa
namespace Go.Proofs.Ytjdbmmilcihpoaa
set_option linter.unusedVariables false
set_option linter.unusedSimpArgs false
/-- not -/
abbrev bnot (b : Bool) : Bool := Bool.not b
theorem sbyte_bd (s : ByteArray) (i : Nat) : 0 ≤ sbyte s i ∧ sbyte s i ≤ 255 := by
 unfold sbyte
 have := (s.data.getD i 0).toNat_lt
 omega
theorem str_eq {s t : ByteArray} (h : (s.toList == t.toList) = true) : s = t := by
 have h := eq_of_beq h
 rw [ByteArray.toList_eq, ByteArray.toList_eq] at h
 exact Go.WideShapes.bytes_inj h
theorem str_ne {s t : ByteArray} (h : (s.toList == t.toList) = false) : s ≠ t := by
 intro e
 subst e
 simp at h
theorem str_pos {s : ByteArray} (h : (s.toList == (ByteArray.mk #[]).toList) = false) : 0 < s.size := by
 rcases Nat.eq_zero_or_pos s.size with e | e
 · refine absurd ?_ (str_ne h)
   obtain ⟨⟨l⟩⟩ := s
   cases l with
   | nil => rfl
   | cons a l => simp [ByteArray.size] at e
 · exact e
end Go.Proofs.Ytjdbmmilcihpoaa
namespace Go.Proofs.Ytjdbmmilcihpoaa
set_option linter.unusedVariables false
set_option linter.unusedSimpArgs false
/-- The first place from i on, within k places, where p holds. -/
def srch {O : Type} (p : Nat → Bool) (hit : Nat → O) (miss : O) : Nat → Nat → O
 | _, 0 => miss
 | i, k + 1 => bif p i then hit i else srch p hit miss (i + 1) k
theorem wrap_succ {n i : Nat} (hn : n ≤ 9223372036854775807) (h : i < n) : IntKind.i64.wrap ((i : Int) + 1) = ((i + 1 : Nat) : Int) := by
 rw [IntWalk.i64_in _ (by omega)]
 rfl
theorem search_eq {O : Type} {n : Nat} (p : Nat → Bool) (hit : Nat → O) (miss : O) {N : Nat → Int → O}
 (h1 : ∀ k i, i < n → N (k + 1) (i : Int) = bif p i then hit i else N k ((i + 1 : Nat) : Int)) (h2 : ∀ k, N (k + 1) (n : Int) = miss) :
 ∀ m i, i ≤ n → n - i < m → N m (i : Int) = srch p hit miss i (n - i) := by
 intro m
 induction m with
 | zero => intro i _ h; omega
 | succ m ih =>
  intro i hi hm
  rcases Nat.lt_or_ge i n with h | h
  · rw [h1 m i h, show n - i = (n - (i + 1)) + 1 by omega]
    simp only [srch]
    rw [ih (i + 1) h (by omega)]
  · have : i = n := by omega
    subst this
    rw [h2, Nat.sub_self]
    rfl
theorem srch_cases {O : Type} (p : Nat → Bool) (hit : Nat → O) (miss : O) : ∀ k i,
 ((∀ j, i ≤ j → j < i + k → p j = false) ∧ srch p hit miss i k = miss) ∨ ∃ j, i ≤ j ∧ j < i + k ∧ p j = true ∧ (∀ l, i ≤ l → l < j → p l = false) ∧ srch p hit miss i k = hit j := by
 intro k
 induction k with
 | zero => intro i; exact .inl ⟨fun j h1 h2 => by omega, rfl⟩
 | succ k ih =>
  intro i
  cases hp : p i with
  | true => exact .inr ⟨i, Nat.le_refl _, by omega, hp, fun l h1 h2 => by omega, by simp [srch, hp]⟩
  | false =>
   rcases ih (i + 1) with ⟨h1, h2⟩ | ⟨j, h1, h2, h3, h4, h5⟩
   · refine .inl ⟨fun j a b => ?_, by simp [srch, hp, h2]⟩
     rcases Nat.eq_or_lt_of_le a with e | e
     · subst e; exact hp
     · exact h1 j e (by omega)
   · refine .inr ⟨j, by omega, by omega, h3, fun l a b => ?_, by simp [srch, hp, h5]⟩
     rcases Nat.eq_or_lt_of_le a with e | e
     · subst e; exact hp
     · exact h4 l e b
/-- One of the first n. -/
def anyN (n : Nat) (p : Nat → Bool) : Bool := (List.range n).any p
theorem anyN_true {n : Nat} {p : Nat → Bool} : anyN n p = true ↔ ∃ i, i < n ∧ p i = true := by
 simp [anyN, List.any_eq_true]
theorem anyN_false {n : Nat} {p : Nat → Bool} : anyN n p = false ↔ ∀ i, i < n → p i = false := by
 simp [anyN, List.any_eq_false]
theorem anyN_congr {n : Nat} {p q : Nat → Bool} (h : ∀ i, i < n → p i = q i) : anyN n p = anyN n q := by
 cases hq : anyN n q with
 | true => obtain ⟨i, h1, h2⟩ := anyN_true.1 hq; exact anyN_true.2 ⟨i, h1, (h i h1).trans h2⟩
 | false => exact anyN_false.2 fun i hi => (h i hi).trans (anyN_false.1 hq i hi)
/-- A search whose answer does not tell the place. -/
theorem srch_any {O : Type} (p : Nat → Bool) (a b : O) (n : Nat) : srch p (fun _ => a) b 0 n = bif anyN n p then a else b := by
 rcases srch_cases p (fun _ => a) b n 0 with ⟨h1, h2⟩ | ⟨j, h1, h2, h3, h4, h5⟩
 · rw [h2, anyN_false.2 fun i hi => h1 i (Nat.zero_le _) (by omega)]; rfl
 · rw [h5, anyN_true.2 ⟨j, by omega, h3⟩]; rfl
end Go.Proofs.Ytjdbmmilcihpoaa
namespace Go.Proofs.Ytjdbmmilcihpoaa
set_option linter.unusedVariables false
set_option linter.unusedSimpArgs false
end Go.Proofs.Ytjdbmmilcihpoaa
namespace Go.Proofs.Ytjdbmmilcihpoaa
set_option linter.unusedVariables false
set_option linter.unusedSimpArgs false
def eqL : List AV → List AV → Prop
 | [], [] => True
 | x :: xs, v :: vs => x = v ∧ eqL xs vs
 | _, _ => False
theorem eqL_eq : ∀ (xs vs : List AV), eqL xs vs → xs = vs := by
 intro xs
 induction xs with
 | nil => intro vs h; cases vs with
  | nil => rfl
  | cons v vs => exact h.elim
 | cons x xs ih => intro vs h; cases vs with
  | nil => exact h.elim
  | cons v vs => rw [h.1, ih vs h.2]
def RetH (P : Program) (fn : Func) (h0 : AHeap) (T : List AV) (h1 : AHeap) (v : List AV) : Prop :=
 match aresL P T h1 fn.results.toList with
 | some ([], vs) => eqL vs v ∧ h1.take h0.length = h0
 | _ => False
section
variable {P : Program}
theorem Ret.of_runH (hmix : P.follows .mixedOrders = true) {f : FuncId} {fn : Func} {c : Code} {args : List AV} (vs : List AV) (h0 : AHeap) (hf : P.funcs[f]? = some fn) (hb : fn.body = some c) (ds : List Dec) (hlow : ∀ v ∈ vs, Low h0.length v)
 (hr : run P c (initT fn args) h0 ds fun e T h1 _ => match e with | .normal => RetH P fn h0 T h1 vs | .ret => RetH P fn h0 T h1 vs | _ => False) : Ret P f args h0 (oneOf vs) h0 := by
 intro m Mut w us H hargs
 refine calls_of_wp hf hb ?_
 have hT : RelT m Mut w (initT fn args) { tmps := us ++ Array.replicate (fn.ntmps - us.size) Go.undef, defers := [] } := by
  refine ⟨by simp [initT, hargs.1], fun i x v hx hv => ?_, rfl⟩
  simp only [initT, List.getElem?_append] at hx
  simp only [Array.getElem?_append] at hv
  by_cases hi : i < us.size
  · rw [if_pos (by rw [hargs.1]; exact hi)] at hx
    rw [if_pos hi] at hv
    exact hargs.2 i x v hx hv
  · rw [if_neg (by rw [hargs.1]; exact hi)] at hx
    rw [if_neg hi] at hv
    rw [List.getElem?_replicate] at hx
    rw [Array.getElem?_replicate] at hv
    split at hx
    · split at hv
      · cases hx; cases hv; exact .undef
      · cases hv
    · cases hx
 refine wp_mono (run_sound hmix c _ h0 ds _ hr m Mut w m Mut w _ (.refl _ _ _) H hT) fun e a w1 ⟨m1, Mut1, T1, h1, ⟨ds', hk⟩, E1, H1, hT1⟩ => ?_
 have fin : RetH P fn h0 T1 h1 vs → a.defers = [] ∧ ∃ v, (results fn a.tmps).run P w1 = .ok v w1 ∧ ∃ x v2 h2 m' Mut', Ending.returned v = .returned x ∧ (v2 = oneOf vs ∧ h2 = h0) ∧ Ext m Mut w m' Mut' w1 ∧ RelH m' Mut' h2 w1 ∧ RelV m' Mut' w1 v2 x := by
  intro hk
  refine ⟨hT1.defers, ?_⟩
  unfold RetH at hk
  split at hk
  · rename_i xs hres
    obtain ⟨x, hx, hrx⟩ := results_run (P := P) H1 hT1 hres (fun c hc => by simp at hc)
    obtain ⟨k1, k2⟩ := hk
    have := eqL_eq _ _ k1
    subst this
    have hp : Pur h1 h0.length (oneOf xs) (oneOf xs) := by
     refine .low _ ?_
     cases xs with
     | nil => exact .tup _ fun c hc => by simp at hc
     | cons x xs => cases xs with
      | nil => exact hlow x (by simp)
      | cons y ys => exact .tup _ fun c hc => hlow c hc
    obtain ⟨m', Mut', p1, p2, p3⟩ := exit_sound (h := h0) (h' := h0) (.pop hp k2 rfl fun id o ho => .inl ho) H E1 H1 hrx
    exact ⟨x, hx, x, oneOf xs, h0, m', Mut', rfl, ⟨rfl, rfl⟩, p1, p2, p3⟩
  · exact hk.elim
 cases e with
 | normal => exact fin hk
 | ret => exact fin hk
 | _ => exact hk.elim
end
end Go.Proofs.Ytjdbmmilcihpoaa
namespace Go.Proofs.Ytjdbmmilcihpoaa
set_option linter.unusedVariables false
set_option linter.unusedSimpArgs false
def Imp (a b : AV) : Prop := ∀ (m : IdMap) (Mut : Mu) (w : World) (v : Value), RelV m Mut w a v → RelV m Mut w b v
def ImpL (aas bs : List AV) : Prop := aas.length = bs.length ∧ ∀ (i : Nat) a b, aas[i]? = some a → bs[i]? = some b → Imp a b
theorem Imp.refl (a : AV) : Imp a a := fun _ _ _ _ h => h
theorem ImpL.nil : ImpL [] [] := ⟨rfl, fun i a b h => by simp at h⟩
theorem ImpL.cons {a b : AV} {aas bs : List AV} (h : Imp a b) (hs : ImpL aas bs) : ImpL (a :: aas) (b :: bs) :=
 ⟨by simp [hs.1], fun i x y hx hy => by
  cases i with
  | zero => simp at hx hy; subst hx; subst hy; exact h
  | succ i => exact hs.2 i x y (by simpa using hx) (by simpa using hy)⟩
theorem ImpL.refl (aas : List AV) : ImpL aas aas := ⟨rfl, fun i a b h k => by rw [h] at k; cases k; exact .refl a⟩
theorem Imp.agg {cs ds : List AV} (h : ImpL cs ds) : Imp (.agg cs) (.agg ds) := by
 intro m Mut w v hr
 cases hr with
 | agg _ vs hl hh =>
  refine .agg _ vs (h.1 ▸ hl) fun i b v hb hv => ?_
  have hlt : i < cs.length := by rw [h.1]; exact (List.getElem?_eq_some_iff.1 hb).1
  exact h.2 i cs[i] b (List.getElem?_eq_getElem hlt) hb m Mut w v (hh i cs[i] v (List.getElem?_eq_getElem hlt) hv)
theorem Imp.sl {sz n : Nat} {f g : Nat → AV} (h : ∀ i, i < n → ImpL (f i).cells (g i).cells) : Imp (.sl sz n f) (.sl sz n g) := by
 intro m Mut w v hr
 cases hr with
 | sl _ _ _ b o cap val hn hc hb hm hs hv hh =>
  refine .sl _ _ _ b o cap val hn hc hb hm (fun i hi => by rw [← (h i hi).1]; exact hs i hi) hv fun i j x hi hx => ?_
  have hlt : j < (f i).cells.length := by rw [(h i hi).1]; exact (List.getElem?_eq_some_iff.1 hx).1
  exact (h i hi).2 j _ x (List.getElem?_eq_getElem hlt) hx m Mut w _ (hh i j _ hi (List.getElem?_eq_getElem hlt))
 | sl0 _ _ a cap => exact .sl0 _ _ a cap
theorem Ret.imp {P : Program} {f : FuncId} {args args' : List AV} {h h' : AHeap} {r : AV} (hi : ImpL args args') (hr : Ret P f args' h r h') : Ret P f args h r h' :=
 hr.args fun m Mut w us ha => ⟨hi.1 ▸ ha.1, fun i b v hb hv => by
  have hlt : i < args.length := by rw [hi.1]; exact (List.getElem?_eq_some_iff.1 hb).1
  exact hi.2 i args[i] b (List.getElem?_eq_getElem hlt) hb m Mut w v (ha.2 i args[i] v (List.getElem?_eq_getElem hlt) hv)⟩
section
variable {P : Program}
/-- Slices of structs. -/
theorem imp_structs {D : Type} [Inhabited D] (av : D → AV) {k sz : Nat} {e : TypeId} {ls : List Lf} {n : Nat} {f : Nat → AV} (hf : flat P k e = some ls)
 (hd : ∀ cs, LfFits P ls cs → ∃ d : D, ImpL cs (av d).cells) (h : ∀ i, i < n → Fits P k e (f i).cells) : ∃ g : Nat → D, Imp (.sl sz n f) (.sl sz n fun i => av (g i)) := by
 have each : ∀ i, ∃ d : D, i < n → ImpL (f i).cells (av d).cells := fun i => by
  by_cases hi : i < n
  · obtain ⟨d, hd⟩ := hd _ (flat_fits _ _ _ _ hf (h i hi))
    exact ⟨d, fun _ => hd⟩
  · exact ⟨default, fun h => absurd h hi⟩
 obtain ⟨g, hg⟩ := Classical.axiomOfChoice each
 exact ⟨g, .sl hg⟩
end
theorem le_max {n : Nat} (h : n ≤ maxLen) : n ≤ 9223372036854775807 := by unfold maxLen at h; omega
end Go.Proofs.Ytjdbmmilcihpoaa
