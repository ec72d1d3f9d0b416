/- The operations that make or write an abstract object. Conditions: none. -/
import Derived.Test.YtjdakdjgkpfjkaaA6
import Derived.Laws.MakeOwn
import Derived.Laws.OwnMore
namespace Go.Proofs.Ytjdakdjgkpfjkaa
set_option linter.unusedVariables false
set_option linter.unusedSimpArgs false

/-- A value of one cell that a store takes. -/
def AV.isCell : AV → Bool
  | .any | .undef | .agg _ | .tup _ => false
  | _ => true

def Col.set (c : Col) (i : Nat) (v : AV) : Option Col :=
  match c, v with
  | .ints k xs, .int k' y => if k = k' then some (.ints k (xs.set i y)) else none
  | .bools xs, .bool y => some (.bools (xs.set i y))
  | .strs xs, .str y => some (.strs (xs.set i y))
  | .recs xs, v => some (.recs (xs.set (xs.length - 1 - i) v))
  | .gen n f, v => some (.gen n fun j => if j = i then v else f j)
  | _, _ => none

def storeIn (x : AV) (off : Nat) (vs : List AV) : Option AV :=
  if off + vs.length ≤ x.cells.length ∧ (vs.all AV.isCell) = true then
    match x with
    | .agg cs => some (.agg (splice cs off vs))
    | _ => match vs with
      | [v] => some v
      | _ => none
  else none

def astore (P : Program) (h : AHeap) (t : TypeId) (a v : AV) : Option (Cnd × AHeap) :=
  if hasT P t ∧ v.isAny = false ∧ v.cells.length = szOf P t then
    match a with
    | .ptr id n sz i off =>
      match h[id]? with
      | some (.var x) => if n = 1 ∧ i = 0 then (storeIn x off v.cells).map fun x' => (none, h.set id (.var x')) else none
      | some (.row s k c) => if s = sz then
          match storeIn (c.get i) off v.cells with
          | some e => (c.set i e).map fun c' => (cnd (n = k ∧ i < c.len), h.set id (.row s k c'))
          | none => none
        else none
      | _ => none
    | _ => none
  else none

def Col.zero (z : AV) (n : Nat) : Col :=
  match z with
  | .int k 0 => .ints k (List.replicate n 0)
  | .bool false => .bools (List.replicate n false)
  | z => .gen n fun _ => z

section
variable {m : IdMap} {Mut : Mu} {w : World} {P : Program} {h : AHeap}

theorem isCell_one {a : AV} {v : Value} (ha : a.isCell = true) (hr : RelV m Mut w a v) : v.oneCell' = true ∧ a.cells = [a] := by
  cases hr <;> first | exact ⟨rfl, rfl⟩ | cases ha

theorem relL_mem {cs : List AV} {vs : Array Value} (h : RelL m Mut w cs vs) (hall : cs.all AV.isCell = true) : ∀ v ∈ vs.toList, v.oneCell' = true := by
  intro v hv
  obtain ⟨i, hi⟩ := List.getElem?_of_mem hv
  have hlt : i < vs.size := by
    rcases Nat.lt_or_ge i vs.toList.length with q | q
    · simpa using q
    · rw [List.getElem?_eq_none q] at hi; cases hi
  have hlt2 : i < cs.length := by rw [h.1]; exact hlt
  have hr := h.2 i cs[i] v (List.getElem?_eq_getElem hlt2) (by rw [← Array.getElem?_toList]; exact hi)
  exact (isCell_one (List.all_eq_true.1 hall _ (List.getElem_mem hlt2)) hr).1

/-- An operation's outcome where it may write. -/
def OpE (P : Program) (σ : Operand → Value) (o : Oper) (m : IdMap) (Mut : Mu) (w : World) (v : AV) (h' : AHeap) : Prop :=
  ∃ x m' Mut' w', ((execOp σ o).run P w = .ok (.value x) w' ∨ ((execOp σ o).run P w = .ok .skip w' ∧ x = Go.undef)) ∧
    Ext m Mut w m' Mut' w' ∧ RelH m' Mut' h' w' ∧ RelV m' Mut' w' v x

theorem newVar_sound {t : TypeId} {v : AV} {u : Value} (H : RelH m Mut h w) (hv : RelV m Mut w v u) (hna : v.isAny = false) :
    ∃ m' Mut' w', (newVar t u).run P w = .ok ⟨w.heap.size, 0, none⟩ w' ∧ Ext m Mut w m' Mut' w' ∧ RelH m' Mut' (h ++ [.var v]) w' ∧
      RelV m' Mut' w' (.ptr h.length 1 v.cells.length 0 0) (.pointer (some ⟨w.heap.size, 0, none⟩)) := by
  have hl := relV_cells hv (isAny_ne hna)
  have hids : ∀ id n x, m id n = some x → m.put h.length 1 (w.heap.size, 0, 1) id n = some x := fun id n x hx => by
    rw [IdMap.put_other (.inl (Nat.ne_of_lt (H.dom id n x hx)))]; exact hx
  have E : Ext m Mut w (m.put h.length 1 (w.heap.size, 0, 1)) (Mut.add w.heap.size) (w.alloc (.cells u.cells t)) :=
    ⟨rfl, rfl, rfl, by simp, fun b hb _ => Go.RowKit.Below.heap_alloc w _ b hb, fun b hb hM hM' => hM'.elim hM (fun e => by omega), fun b hb hM hM' => hM'.elim hM (fun e => by omega), fun b _ hi _ => .inl hi, hids⟩
  obtain ⟨H', E'⟩ := H.new (.cells u.cells t) (.var v) (0, 1) rfl ⟨w.heap.size, u.cells, t, IdMap.put_same _ _ _ _, .inr rfl, heap_alloc_self w _, E.relL hl⟩
  refine ⟨_, _, _, by simp [newVar, newRow], E', H', ?_⟩
  have := RelV.ptr (m := m.put h.length 1 (w.heap.size, 0, 1)) (Mut := Mut.add w.heap.size) (w := w.alloc (.cells u.cells t)) h.length 1 v.cells.length 0 0 w.heap.size 0 1 (IdMap.put_same _ _ _ _)
  simp only [Nat.zero_mul, Nat.add_zero] at this
  exact this

theorem storeIn_sound {x : AV} {off : Nat} {vs : List AV} {y : AV} (hs : storeIn x off vs = some y) :
    off + vs.length ≤ x.cells.length ∧ vs.all AV.isCell = true ∧ y.cells = splice x.cells off vs ∧ y.cells.length = x.cells.length := by
  unfold storeIn at hs
  split at hs
  · rename_i hh
    split at hs
    · rename_i cs
      cases hs
      exact ⟨hh.1, hh.2, rfl, splice_length _ _ _⟩
    · rename_i hx
      split at hs
      · rename_i v
        cases hs
        have hv : AV.isCell y = true := by have := hh.2; simpa using this
        have hy : y.cells = [y] := by cases y <;> first | rfl | cases hv
        have hxc : x.cells = [x] := by cases x <;> first | rfl | exact absurd rfl (hx _)
        have h1 := hh.1
        rw [hxc] at h1
        simp at h1
        subst h1
        rw [hxc, hy]
        exact ⟨by simp, hh.2, rfl, rfl⟩
      · cases hs
  · cases hs

theorem setCell_heap_other (w : World) (a : Addr) (v : Value) (b : Nat) (h : b ≠ a.block) : (w.setCell a v).heap[b]? = w.heap[b]? := Go.RowKit.Below.heap_setCell w a v b h

/-- Stores, cell by cell, into one block. -/
theorem run_storeCells_block (P : Program) (b off : Nat) (t : TypeId) : ∀ (vs : List Value) (i : Nat) (c : Array Value) (w : World), w.heap[b]? = some (.cells c t (0, 0)) → off + i + vs.length ≤ c.size →
    (∀ v ∈ vs, v.oneCell' = true) → ∃ c' w', (storeCells ⟨b, off, none⟩ vs i).run P w = .ok () w' ∧ w'.heap[b]? = some (.cells c' t (0, 0)) ∧ c'.size = c.size ∧
      (∀ j, c'[j]? = if off + i ≤ j ∧ j < off + i + vs.length then vs[j - (off + i)]? else c[j]?) ∧
      w'.os = w.os ∧ w'.tape = w.tape ∧ w'.output = w.output ∧ w'.heap.size = w.heap.size ∧ ∀ b', b' ≠ b → w'.heap[b']? = w.heap[b']? := by
  intro vs
  induction vs with
  | nil =>
    intro i c w hb hs h1
    exact ⟨c, w, rfl, hb, rfl, fun j => by rw [if_neg (by simp)], rfl, rfl, rfl, rfl, fun _ _ => rfl⟩
  | cons v vs ih =>
    intro i c w hb hs h1
    simp only [List.length_cons] at hs
    have hcell : w.cell? ⟨b, off + i, none⟩ = some c[off + i] := by
      rw [cell?_at hb]; exact Array.getElem?_eq_getElem (by omega)
    have hfz : w.frozen? ⟨b, off + i, none⟩ = false := by simp [World.frozen?, hb]
    have hst : (store ((⟨b, off, none⟩ : Addr).add i) v).run P w = .ok () (w.setCell ⟨b, off + i, none⟩ v) := by
      rw [addr_add, run_store P w _ v .plain (h1 v (List.mem_cons_self ..)), hcell]
      simp [hfz]
    have hb' : (w.setCell ⟨b, off + i, none⟩ v).heap[b]? = some (.cells (c.setIfInBounds (off + i) v) t (0, 0)) := by
      simp only [World.setCell, Array.getElem?_modify, if_true, hb]
      rfl
    obtain ⟨c', w', hrun, g1, g2, g3, g4, g5, g6, g7, g8⟩ := ih (i + 1) (c.setIfInBounds (off + i) v) (w.setCell ⟨b, off + i, none⟩ v) hb' (by simp; omega) (fun u hu => h1 u (List.mem_cons_of_mem _ hu))
    refine ⟨c', w', ?_, g1, by simpa using g2, fun j => ?_, g4, g5, g6, by simpa using g7, fun b' hne => (g8 b' hne).trans (setCell_heap_other w _ v b' hne)⟩
    · simp only [storeCells, Sem.run_bind, hst, Result.andThen_ok, hrun]
    · rw [g3 j]
      simp only [List.length_cons]
      by_cases hj : j = off + i
      · subst hj
        rw [if_neg (by omega), if_pos (by omega), Array.getElem?_setIfInBounds, if_pos rfl, if_pos (by omega)]
        simp
      · by_cases hj2 : off + (i + 1) ≤ j ∧ j < off + (i + 1) + vs.length
        · rw [if_pos hj2, if_pos (by omega), show j - (off + i) = (j - (off + (i + 1))) + 1 by omega, List.getElem?_cons_succ]
        · rw [if_neg hj2, if_neg (by omega), Array.getElem?_setIfInBounds, if_neg (Ne.symm hj)]

theorem Col.set_sound {c c' : Col} {i : Nat} {v : AV} (hs : c.set i v = some c') (hi : i < c.len) : c'.len = c.len ∧ (∀ j, j ≠ i → c'.get j = c.get j) ∧ c'.get i = v := by
  unfold Col.set at hs
  split at hs
  · split at hs
    · rename_i hk
      subst hk
      cases hs
      simp only [Col.len] at hi
      refine ⟨by simp [Col.len], fun j hj => by simp [Col.get, List.getD, List.getElem?_set_ne (Ne.symm hj)], by simp [Col.get, List.getD, List.getElem?_set_self hi]⟩
    · cases hs
  · cases hs
    simp only [Col.len] at hi
    exact ⟨by simp [Col.len], fun j hj => by simp [Col.get, List.getD, List.getElem?_set_ne (Ne.symm hj)], by simp [Col.get, List.getD, List.getElem?_set_self hi]⟩
  · cases hs
    simp only [Col.len] at hi
    exact ⟨by simp [Col.len], fun j hj => by simp [Col.get, List.getD, List.getElem?_set_ne (Ne.symm hj)], by simp [Col.get, List.getD, List.getElem?_set_self hi]⟩
  · cases hs
    rename_i xs
    simp only [Col.len] at hi
    refine ⟨by simp [Col.len], fun j hj => ?_, ?_⟩
    · simp only [Col.get, List.length_set]
      by_cases hjl : j < xs.length
      · rw [if_pos hjl, if_pos hjl, List.getD_eq_getElem?_getD, List.getD_eq_getElem?_getD, List.getElem?_set_ne (by omega)]
      · rw [if_neg hjl, if_neg hjl]
    · simp only [Col.get, List.length_set]
      rw [if_pos hi, List.getD_eq_getElem?_getD, List.getElem?_set_self (by omega)]
      rfl
  · cases hs
    exact ⟨rfl, fun j hj => by simp [Col.get, hj], by simp [Col.get]⟩
  · cases hs

theorem block_mul {i k sz j : Nat} (hj : j < sz) (e : i ≠ k) : ∀ q, q < sz → i * sz + j ≠ k * sz + q := by
  intro q hq heq
  have h1 : (i * sz + j) / sz = i := by rw [Nat.mul_comm, Nat.mul_add_div (by omega), Nat.div_eq_of_lt hj]; omega
  have h2 : (k * sz + q) / sz = k := by rw [Nat.mul_comm, Nat.mul_add_div (by omega), Nat.div_eq_of_lt hq]; omega
  rw [heq, h2] at h1
  exact e h1.symm

theorem astore_sound {t : TypeId} {a v : AV} {ua uv : Value} {c : Cnd} {h' : AHeap} (H : RelH m Mut h w) (hs : astore P h t a v = some (c, h')) (hC : c.ok) (ha : RelV m Mut w a ua) (hv : RelV m Mut w v uv) :
    ∃ w', (Instr.storeAt t ua uv).run P w = .ok () w' ∧ Ext m Mut w m Mut w' ∧ RelH m Mut h' w' := by
  unfold astore at hs
  split at hs
  · rename_i hh
    obtain ⟨ht, hna, hlen⟩ := hh
    have hvl := relV_cells hv (isAny_ne hna)
    have hvn : uv.cells.size = szOf P t := by rw [← hvl.1, hlen]
    split at hs
    · rename_i id n sz i off
      split at hs
      · rename_i x hid
        split at hs
        · rename_i hni
          obtain ⟨rfl, rfl⟩ := hni
          simp only [Option.map_eq_some_iff, Prod.mk.injEq] at hs
          obtain ⟨y, hy, rfl, rfl⟩ := hs
          obtain ⟨k1, k2, k3, k4⟩ := storeIn_sound hy
          obtain ⟨b, cc, tt, h1, h2, h3, h4⟩ := H.obj id _ hid
          cases ha with
          | ptr _ _ _ _ _ b' o' C' hm =>
            rw [h1] at hm; cases hm
            have hone := relL_mem hvl k2
            obtain ⟨c', w', hrun, g1, g2, g3, g4, g5, g6, g7, g8⟩ := run_storeCells_block P b (0 + 0 * sz + off) tt uv.cells.toList 0 cc w h3 (by have := h4.1; have := hvl.1; simp; omega) hone
            have hrun' : (Instr.storeAt t (.pointer (some ⟨b, 0 + 0 * sz + off, none⟩)) uv).run P w = .ok () w' := by
              simp only [Instr.storeAt, Instr.sureAddr, storeVar, Sem.run_bind, Sem.run_pure, Result.andThen_ok, run_sizeOf_has ht, hvn, ne_eq, not_true_eq_false, if_false, hrun]
            have W := H.write (o' := .var y) hid rfl rfl rfl h1 g4 g5 g6 g7 g8 (fun E => ⟨b, c', tt, h1, h2, g1, ?_⟩)
            · exact ⟨w', hrun', W.2, W.1⟩
            · rw [k3]
              refine ⟨by rw [splice_length, g2, h4.1], fun j a u hj hu => ?_⟩
              rw [splice_get] at hj
              rw [g3] at hu
              have e1 := hvl.1
              have e2 := h4.1
              by_cases hin : off ≤ j ∧ j < off + v.cells.length ∧ j < x.cells.length
              · rw [if_pos hin] at hj
                rw [if_pos (by simp; omega)] at hu
                exact E.relV (hvl.2 _ _ _ hj (by rw [← Array.getElem?_toList]; simpa using hu))
              · rw [if_neg hin] at hj
                have hjlt : j < x.cells.length := by
                  rcases Nat.lt_or_ge j x.cells.length with q | q
                  · exact q
                  · rw [List.getElem?_eq_none q] at hj; cases hj
                rw [if_neg (by simp; omega)] at hu
                exact E.relV (h4.2 _ _ _ hj hu)
        · cases hs
      · rename_i s k col hid
        split at hs
        · rename_i hsz
          subst hsz
          split at hs
          · rename_i e he
            simp only [Option.map_eq_some_iff, Prod.mk.injEq] at hs
            obtain ⟨col', hcol, rfl, rfl⟩ := hs
            obtain ⟨rfl, hi⟩ := hC
            obtain ⟨k1, k2, k3, k4⟩ := storeIn_sound he
            obtain ⟨l1, l2, l3⟩ := Col.set_sound hcol hi
            have hO := H.obj id _ hid
            have hlive : (AObj.row s n col).live = true := by
              rcases hO with ⟨_, q, _⟩ | ⟨q, _⟩
              · omega
              · exact decide_eq_true q
            obtain ⟨b, o, C, cc, tt, h1, h2, h3, h4, h5, h6, h7⟩ := hO.rowIn hi
            cases ha with
            | ptr _ _ _ _ _ b' o' C' hm =>
              rw [h1] at hm; cases hm
              have hone := relL_mem hvl k2
              have e1 := hvl.1
              have e6 := h6 i hi
              have hfit : (i + 1) * s ≤ C * s := Nat.mul_le_mul_right _ (by omega)
              rw [Nat.succ_mul] at hfit
              obtain ⟨c', w', hrun, g1, g2, g3, g4, g5, g6, g7, g8⟩ := run_storeCells_block P b (o + i * s + off) tt uv.cells.toList 0 cc w h3 (by simp; omega) hone
              have hrun' : (Instr.storeAt t (.pointer (some ⟨b, o + i * s + off, none⟩)) uv).run P w = .ok () w' := by
                simp only [Instr.storeAt, Instr.sureAddr, storeVar, Sem.run_bind, Sem.run_pure, Result.andThen_ok, run_sizeOf_has ht, hvn, ne_eq, not_true_eq_false, if_false, hrun]
              have W := H.write (o' := .row s n col') hid hlive hlive rfl h1 g4 g5 g6 g7 g8 (fun E => .inr ⟨of_decide_eq_true hlive, b, o, C, c', tt, h1, h2, g1, by rw [g2, h4], by omega, ?_, ?_⟩)
              · exact ⟨w', hrun', W.2, W.1⟩
              · intro q hq
                by_cases hqi : q = i
                · subst hqi; rw [l3, k4]; exact h6 q hi
                · rw [l2 q hqi]; exact h6 q (by omega)
              · intro q j a hq hj
                by_cases hqi : q = i
                · subst hqi
                  rw [l3, k3, splice_get] at hj
                  rw [g3]
                  by_cases hin : off ≤ j ∧ j < off + v.cells.length ∧ j < (col.get q).cells.length
                  · rw [if_pos hin] at hj
                    obtain ⟨u, hu, hru⟩ := hvl.get hj
                    refine ⟨u, ?_, E.relV hru⟩
                    rw [if_pos (by simp; omega), ← hu, ← Array.getElem?_toList]
                    congr 1
                    omega
                  · rw [if_neg hin] at hj
                    have hjlt : j < (col.get q).cells.length := by
                      rcases Nat.lt_or_ge j (col.get q).cells.length with z | z
                      · exact z
                      · rw [List.getElem?_eq_none z] at hj; cases hj
                    obtain ⟨u, hu, hru⟩ := h7 q j a hi hj
                    refine ⟨u, ?_, E.relV hru⟩
                    rw [if_neg (by simp; omega), hu]
                · rw [l2 q hqi] at hj
                  obtain ⟨u, hu, hru⟩ := h7 q j a (by omega) hj
                  have hjlt : j < s := by
                    rcases Nat.lt_or_ge j s with z | z
                    · exact z
                    · rw [List.getElem?_eq_none (by rw [h6 q (by omega)]; exact z)] at hj; cases hj
                  refine ⟨u, ?_, E.relV hru⟩
                  rw [g3, if_neg ?_, hu]
                  rintro ⟨y1, y2⟩
                  have := block_mul (i := q) (k := i) hjlt hqi (q * s + j - i * s) (by simp at y2; omega)
                  simp at y2
                  omega
          · cases hs
        · cases hs
      · cases hs
    · cases hs
  · cases hs


/-- A string that is ranged over. -/
def arange (P : Program) (h : AHeap) (t : TypeId) (x : AV) : Option (AV × AHeap) :=
  match seqOf P t, x with
  | .string, .str s => some (.ptr h.length 0 0 0 0, h ++ [.iter s 0])
  | _, _ => none

def anext (h : AHeap) (it : AV) (isString : Bool) : Option (AV × AHeap) :=
  match it, isString with
  | .ptr id 0 0 0 0, true =>
    match h[id]? with
    | some (.iter s pos) =>
      match decide (pos < s.size) with
      | true => some (.tup [.bool true, .int .i64 pos, .int .i32 (Utf8.decode s pos).1], h.set id (.iter s (pos + (Utf8.decode s pos).2)))
      | false => some (.tup [.bool false], h)
    | _ => none
  | _, _ => none

theorem arange_sound {t : TypeId} {x : AV} {u : Value} {v : AV} {h' : AHeap} (H : RelH m Mut h w) (hb : arange P h t x = some (v, h')) (hx : RelV m Mut w x u) :
    ∃ y m' Mut' w', (Instr.range t u).run P w = .ok y w' ∧ Ext m Mut w m' Mut' w' ∧ RelH m' Mut' h' w' ∧ RelV m' Mut' w' v y := by
  unfold arange at hb
  split at hb
  · rename_i s _
    cases hb
    rw [hx.inv_str]
    obtain ⟨H', E'⟩ := H.new (.stringIter s 0) (.iter s 0) (0, 0) rfl ⟨w.heap.size, IdMap.put_same _ _ _ _, .inr rfl, heap_alloc_self w _⟩
    refine ⟨.pointer (some ⟨w.heap.size, 0, none⟩), _, _, w.alloc (.stringIter s 0), ?_, E', H', ?_⟩
    · simp [Instr.range, run_underlying_some (seqOf_string (t := t) (by assumption))]
    · have := RelV.ptr (m := m.put h.length 0 (w.heap.size, 0, 0)) (Mut := Mut.add w.heap.size) (w := w.alloc (.stringIter s 0)) h.length 0 0 0 0 w.heap.size 0 0 (IdMap.put_same _ _ _ _)
      simp only [Nat.zero_mul, Nat.add_zero] at this
      exact this
  · cases hb

theorem anext_sound {it : AV} {isString : Bool} {ty : TypeId} {u : Value} {v : AV} {h' : AHeap} (H : RelH m Mut h w) (hb : anext h it isString = some (v, h')) (hx : RelV m Mut w it u) :
    ∃ y w', (Instr.next u isString ty).run P w = .ok y w' ∧ Ext m Mut w m Mut w' ∧ RelH m Mut h' w' ∧ RelV m Mut w' v y := by
  unfold anext at hb
  split at hb
  · rename_i id
    split at hb
    · rename_i s pos hid
      obtain ⟨b, h1, h2, h3⟩ := H.obj id _ hid
      cases hx with
      | ptr _ _ _ _ _ b' o' C' hm =>
        rw [h1] at hm; cases hm
        have hg : (getObj b).run P w = .ok (.stringIter s pos) w := by simp [getObj, Sem.run, h3]
        split at hb
        · rename_i hlt
          have hlt' : pos < s.size := of_decide_eq_true hlt
          cases hb
          have hset : (setObj b (.stringIter s (pos + (Utf8.decode s pos).2))).run P w = .ok () { w with heap := w.heap.setIfInBounds b (.stringIter s (pos + (Utf8.decode s pos).2)) } := by
            simp [setObj, Sem.run, h3]
          have hlt2 : b < w.heap.size := H.wr b h2
          have W := H.write (w' := { w with heap := w.heap.setIfInBounds b (.stringIter s (pos + (Utf8.decode s pos).2)) }) (o' := .iter s (pos + (Utf8.decode s pos).2)) hid rfl rfl rfl h1 rfl rfl rfl (by simp)
            (fun b' hne => by simp only [Array.getElem?_setIfInBounds]; rw [if_neg (Ne.symm hne)])
            (fun E => ⟨b, h1, h2, by simp only [Array.getElem?_setIfInBounds, if_true]; rw [if_pos hlt2]⟩)
          refine ⟨.tuple #[.bool true, .int .i64 pos, .int .i32 (Utf8.decode s pos).1], _, ?_, W.2, W.1, ?_⟩
          · simp only [Instr.next, Nat.zero_mul, Nat.add_zero, Sem.run_bind, hg, Result.andThen_ok, hlt', if_true, hset, Sem.run_pure, goInt]
          · refine .tup _ _ rfl fun i a x ha hx => ?_
            match i with
            | 0 => simp at ha hx; subst ha; subst hx; exact .bool _
            | 1 => simp at ha hx; subst ha; subst hx; exact .int _ _
            | 2 => simp at ha hx; subst ha; subst hx; exact .int _ _
            | i + 3 => simp at ha
        · rename_i hlt
          have hlt' : ¬ pos < s.size := of_decide_eq_false hlt
          cases hb
          refine ⟨.tuple #[.bool false], w, ?_, .refl _ _ _, H, ?_⟩
          · simp only [Instr.next, Nat.zero_mul, Nat.add_zero, Sem.run_bind, hg, Result.andThen_ok, hlt', if_false, Sem.run_pure]
          · refine .tup _ _ rfl fun i a x ha hx => ?_
            match i with
            | 0 => simp at ha hx; subst ha; subst hx; exact .bool _
            | i + 1 => simp at ha
    · cases hb
  · cases hb

end
end Go.Proofs.Ytjdakdjgkpfjkaa
