/- Code over abstract values: rules, and a function that runs it. Conditions: none. -/
import Derived.Test.YtjdakdjgkpfjkaaA12
namespace Go.Proofs.Ytjdakdjgkpfjkaa
set_option linter.unusedVariables false
set_option linter.unusedSimpArgs false

/-- What a piece of code leaves, seen from where it began. -/
def APost (Q : Exit → List AV → AHeap → Prop) (m0 : IdMap) (Mut0 : Mu) (w0 : World) : Exit → Act → World → Prop :=
  fun e a w => ∃ m Mut T h, Q e T h ∧ Ext m0 Mut0 w0 m Mut w ∧ RelH m Mut h w ∧ RelT m Mut w T a

def WPC (P : Program) (c : Code) (T : List AV) (h : AHeap) (Q : Exit → List AV → AHeap → Prop) : Prop :=
  ∀ (m0 : IdMap) (Mut0 : Mu) (w0 : World) (m : IdMap) (Mut : Mu) (w : World) (a : Act),
    Ext m0 Mut0 w0 m Mut w → RelH m Mut h w → RelT m Mut w T a → c.wp P (APost Q m0 Mut0 w0) a w

section
variable {P : Program} {T : List AV} {h : AHeap} {Q R : Exit → List AV → AHeap → Prop}

theorem WPC.mono {c : Code} (hc : WPC P c T h R) (hq : ∀ e T h, R e T h → Q e T h) : WPC P c T h Q :=
  fun m0 Mut0 w0 m Mut w a E H hT => wp_mono (hc m0 Mut0 w0 m Mut w a E H hT) fun e a w ⟨m, Mut, T, h, hr, rest⟩ => ⟨m, Mut, T, h, hq e T h hr, rest⟩

theorem WPC.skip (hq : Q .normal T h) : WPC P .skip T h Q := fun _ _ _ m Mut _ _ E H hT => wp_skip ⟨m, Mut, T, h, hq, E, H, hT⟩
theorem WPC.label {l : Nat} (hq : Q .normal T h) : WPC P (.label l) T h Q := fun _ _ _ m Mut _ _ E H hT => wp_label ⟨m, Mut, T, h, hq, E, H, hT⟩
theorem WPC.exit {id : Nat} (hq : Q (.exit id) T h) : WPC P (.exit id) T h Q := fun _ _ _ m Mut _ _ E H hT => wp_exit ⟨m, Mut, T, h, hq, E, H, hT⟩
theorem WPC.ret (hq : Q .ret T h) : WPC P .ret T h Q := fun _ _ _ m Mut _ _ E H hT => wp_ret ⟨m, Mut, T, h, hq, E, H, hT⟩

/-- What comes behind. -/
def andThen (N : List AV → AHeap → Prop) (Q : Exit → List AV → AHeap → Prop) : Exit → List AV → AHeap → Prop
  | .normal, T, h => N T h
  | e, T, h => Q e T h

theorem WPC.seq {x y : Code} (hc : WPC P x T h (andThen (fun T h => WPC P y T h Q) Q)) : WPC P (.seq x y) T h Q :=
  fun m0 Mut0 w0 m Mut w a E H hT => wp_seq (wp_mono (hc m0 Mut0 w0 m Mut w a E H hT) fun e a1 w1 ⟨m1, Mut1, T1, h1, hr, E1, H1, hT1⟩ => by
    cases e with
    | normal => exact hr m0 Mut0 w0 m1 Mut1 w1 a1 E1 H1 hT1
    | _ => exact ⟨m1, Mut1, T1, h1, hr, E1, H1, hT1⟩)

theorem WPC.cond {c : Operand} {x y : Code} {q d : Bool} (hc : aeval T c = .bool q) (hd : q = d) (hx : WPC P (if d then x else y) T h Q) : WPC P (.cond c x y) T h Q :=
  fun m0 Mut0 w0 m Mut w a E H hT => by
    have hcv := hT.eval c
    rw [hc] at hcv
    subst hd
    exact wp_cond hcv.inv_bool (hx m0 Mut0 w0 m Mut w a E H hT)

def inBlk (id : Nat) (Q : Exit → List AV → AHeap → Prop) : Exit → List AV → AHeap → Prop
  | .exit id', T, h => if id' = id then Q .normal T h else Q (.exit id') T h
  | e, T, h => Q e T h

theorem WPC.block {id : Nat} {c : Code} (hc : WPC P c T h (inBlk id Q)) : WPC P (.block id c) T h Q :=
  fun m0 Mut0 w0 m Mut w a E H hT => wp_block (wp_mono (hc m0 Mut0 w0 m Mut w a E H hT) fun e a1 w1 ⟨m1, Mut1, T1, h1, hr, rest⟩ => by
    cases e with
    | exit id' =>
      simp only [inBlk] at hr
      simp only [Exit.inBlock]
      split
      · rename_i e; rw [if_pos e] at hr; exact ⟨m1, Mut1, T1, h1, hr, rest⟩
      · rename_i e; rw [if_neg e] at hr; exact ⟨m1, Mut1, T1, h1, hr, rest⟩
    | _ => exact ⟨m1, Mut1, T1, h1, hr, rest⟩)

/-- A loop, by a number that falls. -/
theorem wp_loop_n {c : Code} {Q : Exit → Act → World → Prop} (I : Nat → Act → World → Prop) (round : ∀ n a w, I n a w → c.wp P (Exit.then (fun a' w' => ∃ n', n' < n ∧ I n' a' w') Q) a w) :
    ∀ n a w, I n a w → (Code.loop c).wp P Q a w := by
  intro n0 a0 w0 h0 b k cs
  have key : ∀ n a w, I n a w →
      ∃ e a' w', Q e a' w' ∧ Arrives P (lone (b.at a (.code c :: .inLoop c :: k)) cs w) b k cs e a' w' := by
    intro n
    induction n using Nat.strongRecOn with
    | _ n ih =>
      intro a w hI
      obtain ⟨e, a₁, w₁, hq, harr⟩ := round n a w hI b (.inLoop c :: k) cs
      cases e with
      | normal =>
        obtain ⟨n', hlt, hI₁⟩ := hq
        obtain ⟨e₂, a₂, w₂, hq₂, harr₂⟩ := ih n' hlt a₁ w₁ hI₁
        exact ⟨e₂, a₂, w₂, hq₂, .of_steps (Steps.trans harr (.one step_inLoop)) harr₂⟩
      | exit id => exact ⟨_, a₁, w₁, hq, .pass (x := .inLoop c) rfl (fun _ _ => .inl (by simp)) harr⟩
      | goto l => exact ⟨_, a₁, w₁, hq, .pass (x := .inLoop c) rfl (fun _ _ => .inl (by simp)) harr⟩
      | ret => exact ⟨_, a₁, w₁, hq, .pass (x := .inLoop c) rfl (fun _ _ => .inl (by simp)) harr⟩
      | panic ch => exact ⟨_, a₁, w₁, hq, .pass (x := .inLoop c) rfl (fun _ _ => .inl (by simp)) harr⟩
      | outgrown => exact ⟨_, a₁, w₁, hq, .pass (x := .inLoop c) rfl (fun _ _ => .inl (by simp)) harr⟩
  obtain ⟨e, a', w', hq, harr⟩ := key n0 a0 w0 h0
  exact ⟨e, a', w', hq, .of_steps (.one step_loop) harr⟩

theorem WPC.loop {c : Code} (I : Nat → List AV → AHeap → Prop) (round : ∀ n T h, I n T h → WPC P c T h (andThen (fun T' h' => ∃ n', n' < n ∧ I n' T' h') Q)) {n : Nat} (h0 : I n T h) : WPC P (.loop c) T h Q :=
  fun m0 Mut0 w0 m Mut w a E H hT =>
    wp_loop_n (fun n a w => ∃ m Mut T h, I n T h ∧ Ext m0 Mut0 w0 m Mut w ∧ RelH m Mut h w ∧ RelT m Mut w T a)
      (fun n a w ⟨m, Mut, T, h, hI, E, H, hT⟩ => wp_mono (round n T h hI m0 Mut0 w0 m Mut w a E H hT) fun e a1 w1 ⟨m1, Mut1, T1, h1, hr, E1, H1, hT1⟩ => by
        cases e with
        | normal => obtain ⟨n', hlt, hI'⟩ := hr; exact ⟨n', hlt, m1, Mut1, T1, h1, hI', E1, H1, hT1⟩
        | _ => exact ⟨m1, Mut1, T1, h1, hr, E1, H1, hT1⟩)
      n a w ⟨m, Mut, T, h, h0, E, H, hT⟩

/-! ### Less is known -/
/-- The temporaries are as told, or nothing is told of them. -/
def leT : List AV → List AV → Prop
  | [], [] => True
  | x :: xs, y :: ys => (match y with | .any => leT xs ys | y => x = y ∧ leT xs ys)
  | _, _ => False

theorem leT_spec {m : IdMap} {Mut : Mu} {w : World} : ∀ (xs ys : List AV), leT xs ys → xs.length = ys.length ∧ ∀ (i : Nat) (y : AV), ys[i]? = some y → y = .any ∨ xs[i]? = some y := by
  intro xs
  induction xs with
  | nil => intro ys h; cases ys with
    | nil => exact ⟨rfl, fun i y h => by simp at h⟩
    | cons y ys => exact h.elim
  | cons x xs ih => intro ys h; cases ys with
    | nil => exact h.elim
    | cons y ys =>
      have hh : (y = .any ∨ x = y) ∧ leT xs ys := by
        unfold leT at h
        split at h
        · exact ⟨.inl rfl, h⟩
        · exact ⟨.inr h.1, h.2⟩
      obtain ⟨h1, h2⟩ := ih ys hh.2
      refine ⟨by simp [h1], fun i z hz => ?_⟩
      cases i with
      | zero => simp at hz; subst hz; rcases hh.1 with e | e
                · exact .inl e
                · subst e; exact .inr rfl
      | succ i => simpa using h2 i z (by simpa using hz)

/-- These temporaries forgotten. -/
def mask : List Nat → List AV → List AV
  | [], T => T
  | k :: ks, T => mask ks (T.set k .any)

theorem leT_refl : ∀ (T : List AV), leT T T
  | [] => trivial
  | x :: xs => by
    unfold leT
    split
    · exact leT_refl xs
    · exact ⟨rfl, leT_refl xs⟩

theorem leT_of : ∀ (xs ys : List AV), xs.length = ys.length → (∀ (i : Nat) (y : AV), ys[i]? = some y → y = .any ∨ xs[i]? = some y) → leT xs ys
  | [], [], _, _ => trivial
  | [], _ :: _, h, _ => by simp at h
  | _ :: _, [], h, _ => by simp at h
  | x :: xs, y :: ys, hl, h => by
    have ht : leT xs ys := leT_of xs ys (by simpa using hl) fun i z hz => by simpa using h (i + 1) z (by simpa using hz)
    have h0 := h 0 y rfl
    unfold leT
    split
    · exact ht
    · rename_i hne
      rcases h0 with e | e
      · exact absurd e (by simpa using hne)
      · simp at e; exact ⟨e, ht⟩

theorem leT_mask : ∀ (ks : List Nat) (T : List AV), leT T (mask ks T)
  | [], T => leT_refl T
  | k :: ks, T => by
    have := leT_mask ks (T.set k .any)
    have hs := fun (m : IdMap) (Mut : Mu) (w : World) => leT_spec (m := m) (Mut := Mut) (w := w) _ _ this
    refine leT_of _ _ ?_ fun i y hy => ?_
    · have := (leT_spec (m := fun _ _ => none) (Mut := ⟨fun _ => False, fun _ => False, fun _ h => h⟩) (w := default) _ _ this).1
      simpa [mask] using this
    · have := (leT_spec (m := fun _ _ => none) (Mut := ⟨fun _ => False, fun _ => False, fun _ h => h⟩) (w := default) _ _ this).2 i y hy
      rcases this with e | e
      · exact .inl e
      · rw [List.getElem?_set] at e
        split at e
        · split at e
          · cases e; exact .inl rfl
          · cases e
        · exact .inr e

theorem WPC.weaken {c : Code} {T' : List AV} (hle : leT T T') (hc : WPC P c T' h Q) : WPC P c T h Q :=
  fun m0 Mut0 w0 m Mut w a E H hT => hc m0 Mut0 w0 m Mut w a E H (by
    obtain ⟨h1, h2⟩ := leT_spec (m := m) (Mut := Mut) (w := w) T T' hle
    refine ⟨by rw [← h1]; exact hT.len, fun i x v hx hv => ?_, hT.defers⟩
    rcases h2 i x hx with e | e
    · subst e; exact .any v
    · exact hT.val i x v e hv)

/-! ### Nil slices as rows without a block; objects that are forgotten -/
def killH : List Nat → AHeap → AHeap
  | [], h => h
  | i :: is, h => killH is (h.set i .dead)

theorem killH_length : ∀ (ds : List Nat) (h : AHeap), (killH ds h).length = h.length
  | [], _ => rfl
  | i :: is, h => by rw [killH, killH_length is, List.length_set]

theorem RelH.kill1 {m : IdMap} {Mut : Mu} {h : AHeap} {w : World} (H : RelH m Mut h w) (k : Nat) : RelH m Mut (h.set k .dead) w := by
  have old : ∀ (i : Nat) (x : AObj), (h.set k .dead)[i]? = some x → x = .dead ∨ h[i]? = some x := by
    intro i x hx
    rw [List.getElem?_set] at hx
    by_cases e : k = i
    · rw [if_pos e] at hx
      split at hx
      · cases hx; exact .inl rfl
      · cases hx
    · rw [if_neg e] at hx; exact .inr hx
  refine ⟨fun i x hx => ?_, fun i i' x x' b C C' hx hx' hl hl' hm hm' => ?_, fun i n x hx => by rw [List.length_set]; exact H.dom i n x hx, H.lt, fun i x n y hx hl hy => ?_⟩
  · rcases old i x hx with rfl | hx
    · trivial
    · exact H.obj i x hx
  · rcases old i x hx with rfl | hx
    · cases hl
    · rcases old i' x' hx' with rfl | hx'
      · cases hl'
      · exact H.inj i i' x x' b C C' hx hx' hl hl' hm hm'
  · rcases old i x hx with rfl | hx
    · cases hl
    · exact H.top i x n y hx hl hy

theorem RelH.kill {m : IdMap} {Mut : Mu} {w : World} : ∀ (ds : List Nat) {h : AHeap}, RelH m Mut h w → RelH m Mut (killH ds h) w
  | [], _, H => H
  | i :: is, _, H => RelH.kill is (H.kill1 i)

theorem WPC.kill {c : Code} (ds : List Nat) (hc : WPC P c T (killH ds h) Q) : WPC P c T h Q :=
  fun m0 Mut0 w0 m Mut w a E H hT => hc m0 Mut0 w0 m Mut w a E (H.kill ds) hT

def cellH (h : AHeap) (id k : Nat) (v : AV) : AHeap :=
  match h[id]? with
  | some (.var (.agg cs)) => h.set id (.var (.agg (cs.set k v)))
  | _ => h
def cellNil (h : AHeap) (id k : Nat) : Prop :=
  match h[id]? with
  | some (.var (.agg cs)) => cs.getD k .any = .snil
  | _ => False
def vst : List (Option Nat × Nat × Nat × Col) → List AV → AHeap → List AV × AHeap
  | [], T, h => (T, h)
  | (none, t, sz, c) :: vs, T, h => vst vs (T.set t (.ms h.length 0 sz 0 0)) (h ++ [.row sz 0 c])
  | (some id, k, sz, c) :: vs, T, h => vst vs T (cellH h id k (.ms h.length 0 sz 0 0) ++ [.row sz 0 c])
def vstOk : List (Option Nat × Nat × Nat × Col) → List AV → AHeap → Prop
  | [], _, _ => True
  | (none, t, sz, c) :: vs, T, h => T.getD t .any = .snil ∧ c.len = 0 ∧ vstOk vs (T.set t (.ms h.length 0 sz 0 0)) (h ++ [.row sz 0 c])
  | (some id, k, sz, c) :: vs, T, h => cellNil h id k ∧ c.len = 0 ∧ vstOk vs T (cellH h id k (.ms h.length 0 sz 0 0) ++ [.row sz 0 c])

/-- A variable that reads as another. -/
theorem RelH.revar {m : IdMap} {Mut : Mu} {h : AHeap} {w : World} {id : Nat} {v v' : AV} (H : RelH m Mut h w) (hid : h[id]? = some (.var v)) (himp : ∀ c, RelL m Mut w v.cells c → RelL m Mut w v'.cells c) : RelH m Mut (h.set id (.var v')) w := by
  have hlt : id < h.length := (List.getElem?_eq_some_iff.1 hid).1
  have old : ∀ (i : Nat) (x : AObj), (h.set id (.var v'))[i]? = some x → ∃ y, h[i]? = some y ∧ y.ver = x.ver ∧ y.live = x.live ∧ y.act = x.act ∧ (y = x ∨ (i = id ∧ x = .var v')) := by
    intro i x hx
    rw [List.getElem?_set] at hx
    by_cases e : id = i
    · rw [if_pos e, if_pos hlt] at hx; cases hx; subst e; exact ⟨.var v, hid, rfl, rfl, rfl, .inr ⟨rfl, rfl⟩⟩
    · rw [if_neg e] at hx; exact ⟨x, hx, rfl, rfl, rfl, .inl rfl⟩
  refine ⟨fun i x hx => ?_, fun i i' x x' b C C' hx hx' hl hl' hm hm' => ?_, fun i n x hx => by rw [List.length_set]; exact H.dom i n x hx, H.lt, fun i x n y hx hl hy => ?_⟩
  · obtain ⟨y, hy, _, _, _, e | ⟨rfl, rfl⟩⟩ := old i x hx
    · subst e; exact H.obj i y hy
    · obtain ⟨b, c, t, h1, h2, h3, h4⟩ := H.obj i _ hid
      exact ⟨b, c, t, h1, h2, h3, himp c h4⟩
  · obtain ⟨y, hy, e1, e2, _⟩ := old i x hx
    obtain ⟨y', hy', e1', e2', _⟩ := old i' x' hx'
    exact H.inj i i' y y' b C C' hy hy' (e2.trans hl) (e2'.trans hl') (e1 ▸ hm) (e1' ▸ hm')
  · obtain ⟨y', hy', e1, _, e3, _⟩ := old i x hx
    rw [← e1]
    exact H.top i y' n y hy' (e3.trans hl) hy

theorem WPC.virt {c : Code} : ∀ (vs : List (Option Nat × Nat × Nat × Col)) (T : List AV) (h : AHeap), vstOk vs T h → WPC P c (vst vs T h).1 (vst vs T h).2 Q → WPC P c T h Q := by
  intro vs
  induction vs with
  | nil => intro T h _ hc; exact hc
  | cons v vs ih =>
    obtain ⟨o, t, sz, col⟩ := v
    intro T h hok hc
    cases o with
    | none =>
      obtain ⟨h1, h2, h3⟩ := hok
      have hc2 : WPC P c (T.set t (.ms h.length 0 sz 0 0)) (h ++ [.row sz 0 col]) Q := ih _ _ h3 hc
      intro m0 Mut0 w0 m Mut w a E H hT
      obtain ⟨H', E'⟩ := H.virt sz col h2
      refine hc2 m0 Mut0 w0 _ _ w a (E.trans E') H' ?_
      have hT' := hT.ext E'
      refine ⟨by simp [hT'.len], fun i x v hx hv => ?_, hT'.defers⟩
      rw [List.getElem?_set] at hx
      by_cases e : t = i
      · subst e
        by_cases hlt : t < T.length
        · rw [if_pos rfl, if_pos hlt] at hx
          cases hx
          have hx2 : T[t]? = some .snil := by
            rw [List.getD_eq_getElem?_getD, List.getElem?_eq_getElem hlt] at h1
            rw [List.getElem?_eq_getElem hlt]
            exact congrArg some h1
          have hr := hT'.val t _ v hx2 hv
          cases hr with
          | snil a => exact .ms0 _ _ _ _ _ _ _ _ (IdMap.put_same _ _ _ _)
        · rw [if_pos rfl, if_neg hlt] at hx; cases hx
      · rw [if_neg e] at hx
        exact hT'.val i x v hx hv
    | some id =>
      obtain ⟨h1, h2, h3⟩ := hok
      have hc2 : WPC P c T (cellH h id t (.ms h.length 0 sz 0 0) ++ [.row sz 0 col]) Q := ih _ _ h3 hc
      unfold cellNil at h1
      unfold cellH at hc2
      split at h1
      · rename_i cs hid
        intro m0 Mut0 w0 m Mut w a E H hT
        obtain ⟨H', E'⟩ := H.virt sz col h2
        have hlt : id < h.length := (List.getElem?_eq_some_iff.1 hid).1
        have H2 := H'.revar (id := id) (v := .agg cs) (v' := .agg (cs.set t (.ms h.length 0 sz 0 0))) (by rw [List.getElem?_append_left hlt]; exact hid) (fun c hr => by
          refine ⟨by simpa [AV.cells] using hr.1, fun i x v hx hv => ?_⟩
          simp only [AV.cells] at hx hr
          rw [List.getElem?_set] at hx
          by_cases e : t = i
          · subst e
            by_cases hl : t < cs.length
            · rw [if_pos rfl, if_pos hl] at hx
              cases hx
              have hx2 : cs[t]? = some .snil := by
                rw [List.getD_eq_getElem?_getD, List.getElem?_eq_getElem hl] at h1
                rw [List.getElem?_eq_getElem hl]
                exact congrArg some h1
              have hr2 := hr.2 t _ v hx2 hv
              cases hr2 with
              | snil a => exact .ms0 _ _ _ _ _ _ _ _ (IdMap.put_same _ _ _ _)
            · rw [if_pos rfl, if_neg hl] at hx; cases hx
          · rw [if_neg e] at hx
            exact hr.2 i x v hx hv)
        rw [List.set_append_left _ _ hlt] at H2
        rw [hid] at hc2
        exact hc2 m0 Mut0 w0 _ _ w a (E.trans E') H2 (hT.ext E')
      · exact h1.elim

/-! ### Regions in the order of the text -/
def guardVal (ops : List Oper) (T : List AV) (j : Nat) : AV :=
  match (ops[j]?).bind (·.dst) with
  | some t => T.getD t .any
  | none => .any

def runOps (P : Program) (ops : List Oper) : List Oper → List AV → AHeap → List Dec → (List AV → AHeap → List Dec → Prop) → Prop
  | [], T, h, ds, K => K T h ds
  | o :: os, T, h, ds, K =>
    match o.guard with
    | none =>
      match opRes P o T h ds with
      | some (cs, v, h', ds') => conjs cs (runOps P ops os (aput T o.dst v) h' ds' K)
      | none => False
    | some (j, want) =>
      match guardVal ops T j, ds with
      | .bool q, .b d :: ds1 =>
        q = d ∧ (match d == want with
          | true =>
            match opRes P o T h ds1 with
            | some (cs, v, h', ds') => conjs cs (runOps P ops os (aput T o.dst v) h' ds' K)
            | none => False
          | false => runOps P ops os (aput T o.dst .undef) h ds1 K)
      | .undef, ds => runOps P ops os (aput T o.dst .undef) h ds K
      | _, _ => False

theorem guard_bool {m : IdMap} {Mut : Mu} {w : World} {ops : List Oper} {a : Act} {j : Nat} {q : Bool} (hT : RelT m Mut w T a) (hg : guardVal ops T j = .bool q) : yielded ops.toArray a.tmps j = some q := by
  unfold guardVal at hg
  split at hg
  · rename_i t ht
    unfold yielded
    rw [show (ops.toArray[j]?).bind (·.dst) = some t by rw [List.getElem?_toArray]; exact ht]
    rw [List.getD_eq_getElem?_getD] at hg
    rcases Nat.lt_or_ge t T.length with z | z
    · rw [List.getElem?_eq_getElem z] at hg
      simp only [Option.getD_some] at hg
      have z2 : t < a.tmps.size := hT.len ▸ z
      have hr := hT.val t _ _ (List.getElem?_eq_getElem z) (Array.getElem?_eq_getElem z2)
      rw [hg] at hr
      simp only [Option.bind_some]
      rw [Array.getElem?_eq_getElem z2, hr.inv_bool]
    · rw [List.getElem?_eq_none z] at hg; cases hg
  · cases hg

theorem RelV.inv_undef {m : IdMap} {Mut : Mu} {w : World} {v : Value} (hr : RelV m Mut w .undef v) : v = Go.undef := by cases hr; rfl

theorem guard_undef {m : IdMap} {Mut : Mu} {w : World} {ops : List Oper} {a : Act} {j : Nat} (hT : RelT m Mut w T a) (hg : guardVal ops T j = .undef) : yielded ops.toArray a.tmps j = none := by
  unfold guardVal at hg
  split at hg
  · rename_i t ht
    unfold yielded
    rw [show (ops.toArray[j]?).bind (·.dst) = some t by rw [List.getElem?_toArray]; exact ht]
    rw [List.getD_eq_getElem?_getD] at hg
    rcases Nat.lt_or_ge t T.length with z | z
    · rw [List.getElem?_eq_getElem z] at hg
      simp only [Option.getD_some] at hg
      have z2 : t < a.tmps.size := hT.len ▸ z
      have hr := hT.val t _ _ (List.getElem?_eq_getElem z) (Array.getElem?_eq_getElem z2)
      rw [hg] at hr
      simp only [Option.bind_some]
      rw [Array.getElem?_eq_getElem z2, hr.inv_undef]
      rfl
    · rw [List.getElem?_eq_none z] at hg; cases hg
  · cases hg

theorem runOps_sound {ops : List Oper} {K : List AV → AHeap → List Dec → Prop} {m0 : IdMap} {Mut0 : Mu} {w0 : World} (hk : ∀ T h ds, K T h ds → Q .normal T h) :
    ∀ (os : List Oper) (k : Nat) (T : List AV) (h : AHeap) (ds : List Dec) (m : IdMap) (Mut : Mu) (w : World) (a : Act), ops.drop k = os → runOps P ops os T h ds K →
      Ext m0 Mut0 w0 m Mut w → RelH m Mut h w → RelT m Mut w T a → wpOps P ops.toArray (APost Q m0 Mut0 w0) (List.range' k (ops.length - k)) a w := by
  intro os
  induction os with
  | nil =>
    intro k T h ds m Mut w a hd hr E H hT
    have : ops.length - k = 0 := by have := congrArg List.length hd; simpa using this
    rw [this]
    exact ⟨m, Mut, T, h, hk T h ds hr, E, H, hT⟩
  | cons o os ih =>
    intro k T h ds m Mut w a hd hr E H hT
    have hlen : ops.length - k = (ops.length - (k + 1)) + 1 := by have := congrArg List.length hd; simp at this; omega
    have hko : ops[k]? = some o := by
      have : (ops.drop k)[0]? = some o := by rw [hd]; rfl
      rw [List.getElem?_drop] at this
      simpa using this
    have hd' : ops.drop (k + 1) = os := by
      rw [← List.drop_drop, hd]; rfl
    rw [hlen, List.range'_succ]
    simp only [wpOps, List.getElem?_toArray, hko]
    have run : ∀ (ds1 : List Dec), (match opRes P o T h ds1 with | some (cs, v, h', ds') => conjs cs (runOps P ops os (aput T o.dst v) h' ds' K) | none => False) →
        o.wp P a w (wpOps P ops.toArray (APost Q m0 Mut0 w0) (List.range' (k + 1) (ops.length - (k + 1)))) (APost Q m0 Mut0 w0) := by
      intro ds1 hr
      split at hr
      · rename_i cs v h' ds' hres
        obtain ⟨c1, c2⟩ := conjs_iff hr
        refine opRes_sound hres c1 m Mut w a _ _ H hT fun m' Mut' w' x E' H' hx => ?_
        exact ih (k + 1) _ h' ds' m' Mut' w' _ hd' c2 (E.trans E') H' ((hT.ext E').put o.dst hx)
      · exact hr.elim
    unfold runOps at hr
    split at hr
    · rename_i hg
      rw [if_pos (by simp [Region.wanted, hg])]
      exact .inl (run ds hr)
    · rename_i j want hg
      split at hr
      · rename_i q d ds1 hgv
        obtain ⟨rfl, hr⟩ := hr
        have hy := guard_bool hT hgv
        split at hr
        · rename_i hqw
          have : q = want := by simpa using hqw
          subst this
          rw [if_pos (by simp [Region.wanted, hg, hy])]
          exact .inl (run ds1 hr)
        · rename_i hqw
          have hne : ¬ q = want := by simpa using hqw
          rw [if_neg (by simp [Region.wanted, hg, hy, hne])]
          exact ih (k + 1) _ h ds1 m Mut w _ hd' hr E H (hT.put o.dst .undef)
      · rename_i hgv
        have hy := guard_undef hT hgv
        rw [if_neg (by simp [Region.wanted, hg, hy])]
        exact ih (k + 1) _ h _ m Mut w _ hd' hr E H (hT.put o.dst .undef)
      · exact hr.elim

theorem WPC.region {id : Nat} {ops : Array Oper} {ds : List Dec} {K : List AV → AHeap → List Dec → Prop} (hr : runOps P ops.toList ops.toList T h ds K) (hk : ∀ T h ds, K T h ds → Q .normal T h) : WPC P (.region id ops false) T h Q :=
  fun m0 Mut0 w0 m Mut w a E H hT => wp_region (by
    have := runOps_sound (Q := Q) (m0 := m0) (Mut0 := Mut0) (w0 := w0) hk ops.toList 0 T h ds m Mut w a rfl hr E H hT
    rw [List.range_eq_range']
    simpa using this)

end
end Go.Proofs.Ytjdakdjgkpfjkaa
