/- The operations that leave the abstract heap as it is, and that the model does as they say. Conditions: none. -/
import Derived.Test.YtjdakdjgkpfjkaaA2
namespace Go.Proofs.Ytjdakdjgkpfjkaa
set_option linter.unusedVariables false
set_option linter.unusedSimpArgs false

section
variable {m : IdMap} {Mut : Mu} {w : World} {P : Program} {h : AHeap}

theorem run_underlying_some {t : TypeId} {d : TypeDesc} (hd : P.underlying t = some d) : (underlying t).run P w = .ok d w := by
  simp [underlying, hd]
theorem run_sizeOf_has {t : TypeId} (ht : hasT P t = true) : (sizeOf t).run P w = .ok (szOf P t) w := by
  unfold hasT at ht
  obtain ⟨i, hi⟩ := Option.isSome_iff_exists.1 ht
  simp [sizeOf, typeInfo, szOf, hi]
theorem run_isAgg_has {t : TypeId} (ht : (P.underlying t).isSome = true) : (isAgg t).run P w = .ok (isAggB P t) w := by
  obtain ⟨d, hd⟩ := Option.isSome_iff_exists.1 ht
  simp only [isAgg, Sem.run_bind, run_underlying_some hd, Result.andThen_ok, isAggB, hd]
  cases d <;> rfl

theorem relV_cells {a : AV} {v : Value} (hr : RelV m Mut w a v) (ha : a ≠ .any) : RelL m Mut w a.cells v.cells := by
  have one : ∀ (a : AV) (v : Value), RelV m Mut w a v → RelL m Mut w [a] #[v] := fun a v hr =>
    ⟨by simp, fun i x y hx hy => by
      cases i with
      | zero => simp at hx hy; subst hx; subst hy; exact hr
      | succ i => simp at hx⟩
  cases hr <;> first | exact absurd rfl ha | (simp only [AV.cells, Value.cells]; first | (apply one; constructor <;> assumption) | skip)
  · rename_i cs vs hl h; exact ⟨hl, h⟩


theorem cell?_at {b : Nat} {c : Array Value} {t : TypeId} {fr : Nat × Nat} (hb : w.heap[b]? = some (.cells c t fr)) (o : Nat) : w.cell? ⟨b, o, none⟩ = c[o]? := by
  simp [World.cell?, hb]

/-- What a pointer's cells read as. -/
theorem cellsAt_sound (H : RelH m Mut h w) {p : AV} {v : Value} (hr : RelV m Mut w p v) {c : Cnd} {cs : List AV} (hc : cellsAt h p = some (c, cs)) (hC : c.ok) :
    ∃ b o, v = .pointer (some ⟨b, o, none⟩) ∧ b < w.heap.size ∧ ∀ (j : Nat) (a : AV), cs[j]? = some a → ∃ x, w.cell? ⟨b, o + j, none⟩ = some x ∧ RelV m Mut w a x := by
  unfold cellsAt at hc
  split at hc
  · rename_i id n sz i off
    split at hc
    · rename_i v0 hid
      split at hc
      · rename_i hni
        obtain ⟨rfl, rfl⟩ := hni
        cases hc
        obtain ⟨b, cc, t, h1, h2, h3, h4⟩ := H.obj id _ hid
        cases hr with
        | ptr _ _ _ _ _ b' o' C' hm =>
          rw [h1] at hm; cases hm
          refine ⟨b, _, rfl, (H.wr b h2), fun j a hj => ?_⟩
          rw [List.getElem?_drop] at hj
          rw [cell?_at h3]
          have hlt : off + j < v0.cells.length := by
            rcases Nat.lt_or_ge (off + j) v0.cells.length with q | q
            · exact q
            · rw [List.getElem?_eq_none q] at hj; cases hj
          have hlt2 : off + j < cc.size := h4.1 ▸ hlt
          refine ⟨cc[off + j], ?_, h4.2 _ _ _ hj (Array.getElem?_eq_getElem hlt2)⟩
          rw [show 0 + 0 * sz + off + j = off + j by omega]
          exact Array.getElem?_eq_getElem hlt2
      · cases hc
    · rename_i s k col hid
      cases hc
      obtain ⟨rfl, rfl, hi⟩ := hC
      obtain ⟨b, o, C, cc, t, h1, h2, h3, h4, h5, h6, h7⟩ := (H.obj id _ hid).rowIn hi
      cases hr with
      | ptr _ _ _ _ _ b' o' C' hm =>
        rw [h1] at hm; cases hm
        refine ⟨b, _, rfl, (H.wr b h2), fun j a hj => ?_⟩
        rw [List.getElem?_drop] at hj
        obtain ⟨x, hx, hrx⟩ := h7 i (off + j) a hi hj
        refine ⟨x, ?_, hrx⟩
        rw [cell?_at h3, ← hx]
        congr 1
        omega
    · rename_i s k len f hid
      cases hc
      obtain ⟨rfl, rfl, hi⟩ := hC
      obtain ⟨b, o, C, cc, t, h1, h2, h3, h4, h5, h6, h7⟩ := (H.obj id _ hid).frowIn hi
      cases hr with
      | ptr _ _ _ _ _ b' o' C' hm =>
        rw [h1] at hm; cases hm
        refine ⟨b, _, rfl, h2, fun j a hj => ?_⟩
        rw [List.getElem?_drop] at hj
        obtain ⟨x, hx, hrx⟩ := h7 i (off + j) a hi hj
        refine ⟨x, ?_, hrx⟩
        rw [cell?_at h4, ← hx]
        congr 1
        omega
    · cases hc
  · rename_i cs0
    cases hc
    cases hr with
    | pp _ b o val hb hm hv hr =>
      exact ⟨b, o, rfl, hb, fun j a hj => ⟨val j, hv j (by
        rcases Nat.lt_or_ge j cs.length with q | q
        · exact q
        · rw [List.getElem?_eq_none q] at hj; cases hj), hr j a hj⟩⟩
  · cases hc

theorem addr_add (b o n : Nat) : (⟨b, o, none⟩ : Addr).add n = ⟨b, o + n, none⟩ := by
  unfold Addr.add
  split
  · rename_i h; simp [h]
  · rfl

/-- A read of a variable. -/
theorem load_sound {t : TypeId} {b o : Nat} {cs : List AV} {v : AV} (hcs : ∀ (j : Nat) (a : AV), cs[j]? = some a → ∃ x, w.cell? ⟨b, o + j, none⟩ = some x ∧ RelV m Mut w a x)
    (ht : takeT P t cs = some v) (hu : (P.underlying t).isSome = true) : ∃ x, (loadVar t ⟨b, o, none⟩).run P w = .ok x w ∧ RelV m Mut w v x := by
  unfold takeT at ht
  split at ht
  · rename_i hh
    simp only [loadVar, Sem.run_bind, run_isAgg_has hu, Result.andThen_ok]
    split at ht
    · rename_i ha
      split at ht
      · rename_i hl
        cases ht
        simp only [ha, if_true, Sem.run_bind, run_sizeOf_has hh, Result.andThen_ok]
        have hx : ∀ j : Nat, j < szOf P t → ∃ x, w.cell? ((⟨b, o, none⟩ : Addr).add j) = some x ∧ ∀ a, cs[j]? = some a → RelV m Mut w a x := by
          intro j hj
          obtain ⟨x, hx, hrx⟩ := hcs j cs[j] (List.getElem?_eq_getElem (by omega))
          exact ⟨x, by rw [addr_add]; exact hx, fun a ha => by rw [List.getElem?_eq_getElem (by omega)] at ha; cases ha; exact hrx⟩
        classical
        let f : Nat → Value := fun j => if hj : j < szOf P t then Classical.choose (hx j hj) else default
        have hf : ∀ j, j < szOf P t → w.cell? ((⟨b, o, none⟩ : Addr).add j) = some (f j) := fun j hj => by
          simp only [f, hj, dif_pos]; exact (Classical.choose_spec (hx j hj)).1
        have hf2 : ∀ j, j < szOf P t → ∀ a, cs[j]? = some a → RelV m Mut w a (f j) := fun j hj => by
          simp only [f, hj, dif_pos]; exact (Classical.choose_spec (hx j hj)).2
        rw [run_loadCells w _ _ f hf]
        refine ⟨_, rfl, .agg _ _ (by simp; omega) fun i a x hi hxi => ?_⟩
        have hlt : i < szOf P t := by
          rcases Nat.lt_or_ge i (szOf P t) with q | q
          · exact q
          · rw [List.getElem?_eq_none (by simp; omega)] at hi; cases hi
        rw [List.getElem?_take_of_lt hlt] at hi
        have : x = f i := by
          rw [List.getElem?_toArray, List.getElem?_map, List.getElem?_range hlt] at hxi
          simpa using hxi.symm
        subst this
        exact hf2 i hlt a hi
      · cases ht
    · rename_i ha
      cases cs with
      | nil => cases ht
      | cons a cs =>
        simp at ht
        subst ht
        obtain ⟨x, hx, hrx⟩ := hcs 0 a rfl
        simp only [ha, Bool.false_eq_true, if_false, run_load, Nat.add_zero] at *
        rw [hx]
        exact ⟨x, rfl, hrx⟩
  · cases ht


/-- An operation hands back a value that reads as v and leaves the abstract heap as it was. -/
def OpR (P : Program) (ρ : Operand → Value) (o : Oper) (m : IdMap) (Mut : Mu) (h : AHeap) (w : World) (v : AV) : Prop :=
  ∃ x w', (execOp ρ o).run P w = .ok (.value x) w' ∧ Ext m Mut w m Mut w' ∧ RelH m Mut h w' ∧ RelV m Mut w' v x

theorem OpR.same {ρ : Operand → Value} {o : Oper} {v : AV} (H : RelH m Mut h w) (x : Value) (hx : (execOp ρ o).run P w = .ok (.value x) w) (hr : RelV m Mut w v x) : OpR P ρ o m Mut h w v :=
  ⟨x, w, hx, .refl _ _ _, H, hr⟩

theorem RelV.inv_int {k : IntKind} {n : Int} {v : Value} (hr : RelV m Mut w (.int k n) v) : v = .int k n := by cases hr; rfl
theorem RelV.inv_bool {b : Bool} {v : Value} (hr : RelV m Mut w (.bool b) v) : v = .bool b := by cases hr; rfl
theorem RelV.inv_str {s : ByteArray} {v : Value} (hr : RelV m Mut w (.str s) v) : v = .string s := by cases hr; rfl
theorem RelV.inv_agg {cs : List AV} {v : Value} (hr : RelV m Mut w (.agg cs) v) : ∃ vs, v = .agg vs ∧ RelL m Mut w cs vs := by
  cases hr with | agg _ vs hl h => exact ⟨vs, rfl, hl, h⟩
theorem RelV.inv_tup {cs : List AV} {v : Value} (hr : RelV m Mut w (.tup cs) v) : ∃ vs, v = .tuple vs ∧ RelL m Mut w cs vs := by
  cases hr with | tup _ vs hl h => exact ⟨vs, rfl, hl, h⟩
theorem RelL.get {cs : List AV} {vs : Array Value} (h : RelL m Mut w cs vs) {i : Nat} {a : AV} (ha : cs[i]? = some a) : ∃ v, vs[i]? = some v ∧ RelV m Mut w a v := by
  have hlt : i < cs.length := by
    rcases Nat.lt_or_ge i cs.length with q | q
    · exact q
    · rw [List.getElem?_eq_none q] at ha; cases ha
  have hlt2 : i < vs.size := h.1 ▸ hlt
  exact ⟨vs[i], Array.getElem?_eq_getElem hlt2, h.2 _ _ _ ha (Array.getElem?_eq_getElem hlt2)⟩

/-- A part of a struct or an array. -/
theorem part_sound {t : TypeId} {cs : List AV} {vs : Array Value} {off : Nat} {v : AV} (hr : RelL m Mut w cs vs) (ht : takeT P t (cs.drop off) = some v) (hu : (P.underlying t).isSome = true) :
    ∃ x, (part t vs off).run P w = .ok x w ∧ RelV m Mut w v x := by
  unfold takeT at ht
  split at ht
  · rename_i hh
    simp only [part, Sem.run_bind, run_isAgg_has hu, Result.andThen_ok]
    split at ht
    · rename_i ha
      split at ht
      · rename_i hl
        cases ht
        simp only [ha, if_true, Sem.run_bind, run_sizeOf_has hh, Result.andThen_ok, Sem.run_pure]
        refine ⟨_, rfl, .agg _ _ ?_ fun i a x hi hx => ?_⟩
        · have := hr.1
          simp at hl ⊢
          omega
        · have hlt : i < szOf P t := by
            rcases Nat.lt_or_ge i (szOf P t) with q | q
            · exact q
            · rw [List.getElem?_eq_none (by simp; omega)] at hi; cases hi
          rw [List.getElem?_take_of_lt hlt, List.getElem?_drop] at hi
          refine hr.2 (off + i) a x hi ?_
          rw [Array.getElem?_extract] at hx
          split at hx
          · exact hx
          · cases hx
      · cases ht
    · rename_i ha
      have h0 : cs[off]? = some v := by
        rw [← ht, List.head?_drop]
      obtain ⟨x, hx, hrx⟩ := hr.get h0
      simp only [ha, Bool.false_eq_true, if_false]
      rw [hx]
      exact ⟨x, rfl, hrx⟩
  · cases ht

theorem takeT_has {t : TypeId} {cs : List AV} {v : AV} (ht : takeT P t cs = some v) : hasT P t = true := by
  unfold takeT at ht
  split at ht
  · assumption
  · cases ht

theorem aplace_sound {off : Nat} {p q : AV} {v : Value} (hr : RelV m Mut w p v) (hp : aplace off p = some q) :
    ∃ b o, v = .pointer (some ⟨b, o, none⟩) ∧ RelV m Mut w q (.pointer (some ⟨b, o + off, none⟩)) := by
  unfold aplace at hp
  split at hp
  · cases hp
    cases hr with
    | ptr _ _ _ _ _ b o C hm => exact ⟨b, _, rfl, by rw [Nat.add_assoc]; exact .ptr _ _ _ _ _ b o C hm⟩
  · rename_i cs
    cases hp
    cases hr with
    | pp _ b o val hb hm hv hr =>
      refine ⟨b, o, rfl, .pp _ b _ (fun j => val (off + j)) hb hm (fun j hj => ?_) (fun j a hj => ?_)⟩
      · rw [Nat.add_assoc]
        exact hv _ (by simp at hj; omega)
      · rw [List.getElem?_drop] at hj
        exact hr _ _ hj
  · cases hp


/-! ### Arithmetic, comparisons -/
theorem eqGuard_int {op : BinOp} {t : TypeId} {x y : Operand} {k k' : IntKind} {a b : Int} : (eqGuard op t x y (.int k a) (.int k' b)).run P w = .ok () w := by
  unfold eqGuard
  cases op <;> rfl
theorem eqGuard_str {op : BinOp} {t : TypeId} {x y : Operand} {a b : ByteArray} : (eqGuard op t x y (.string a) (.string b)).run P w = .ok () w := by
  unfold eqGuard
  cases op <;> rfl
theorem eqGuard_bool {op : BinOp} {t : TypeId} {x y : Operand} {a b : Bool} : (eqGuard op t x y (.bool a) (.bool b)).run P w = .ok () w := by
  unfold eqGuard
  cases op <;> rfl

theorem binInt_sound {op : BinOp} {t : TypeId} {k k' : IntKind} {a b : Int} {c : Cnd} {v : AV} (hb : abin op (.int k a) (.int k' b) = some (c, v)) (hC : c.ok) :
    ∃ x, (binOp op t (.int k a) (.int k' b)).run P w = .ok x w ∧ RelV m Mut w v x := by
  by_cases hk : k = k'
  · subst hk
    cases op <;> simp only [abin, if_true, reduceCtorEq] at hb <;> (try cases hb) <;> simp only [Cnd.ok, cnd] at hC <;>
      first
        | (refine ⟨_, ?_, RelV.int _ _⟩; simp [binOp, Op.intArith, Op.intBits]; done)
        | (refine ⟨_, ?_, RelV.int _ _⟩; simp [binOp, Op.intArith, Op.intBits, Op.intDiv, hC]; done)
        | (refine ⟨_, ?_, RelV.int _ _⟩; simp [binOp, Op.shift, Int.not_lt.2 hC]; done)
        | (refine ⟨.bool _, ?_, RelV.bool _⟩; simp [binOp, Op.intCmp]; done)
        | (refine ⟨.bool _, ?_, RelV.bool _⟩; simp only [binOp, ne_eq, not_true_eq_false, if_false]; rfl)
  · cases op <;> simp only [abin, hk, if_false, reduceCtorEq] at hb <;> (try cases hb) <;> simp only [Cnd.ok, cnd] at hC <;>
      (refine ⟨_, ?_, RelV.int _ _⟩; simp [binOp, Op.shift, Int.not_lt.2 hC]; done)

theorem binStr_sound {op : BinOp} {t : TypeId} {a b : ByteArray} {c : Cnd} {v : AV} (hb : abin op (.str a) (.str b) = some (c, v)) (hC : c.ok) :
    ∃ x, (binOp op t (.string a) (.string b)).run P w = .ok x w ∧ RelV m Mut w v x := by
  cases op <;> simp only [abin, reduceCtorEq] at hb <;> (try cases hb)
  · refine ⟨.string (a ++ b), ?_, .str _⟩
    simp only [Cnd.ok, cnd] at hC
    simp only [binOp, Op.stringOp]
    rw [if_neg (by omega)]
    rfl
  all_goals exact ⟨_, rfl, .bool _⟩

end
end Go.Proofs.Ytjdakdjgkpfjkaa
