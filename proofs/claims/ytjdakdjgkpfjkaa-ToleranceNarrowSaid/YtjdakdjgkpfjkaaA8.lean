/- make and append over abstract rows. Conditions: none. -/
import Derived.Test.YtjdakdjgkpfjkaaA7
namespace Go.Proofs.Ytjdakdjgkpfjkaa
set_option linter.unusedVariables false
set_option linter.unusedSimpArgs false

def bytesT (P : Program) (t : TypeId) : Nat := match P.info? t with | some i => i.bytes | none => 0

def zeroSized (P : Program) (t : TypeId) : Bool := match zeroV P t with | some z => !z.isAny && z.cells.length == szOf P t && decide (0 < szOf P t) && decide (0 < bytesT P t) | none => false

def amake (P : Program) (h : AHeap) (t : TypeId) (l c : AV) : Option (Cnd × AV × AHeap) :=
  match seqOf P t, l, c with
  | .slice e, .int _ l, .int _ c =>
    match zeroV P e with
    | some z => if zeroSized P e then
        some (cnd (c = l ∧ 0 ≤ l ∧ (bytesT P e : Int) * l ≤ 281474976710656 ∧ l ≤ 9223372036854775807), .ms h.length l.toNat (szOf P e) 0 l.toNat, h ++ [.row (szOf P e) l.toNat (Col.zero z l.toNat)])
      else none
    | none => none
  | _, _, _ => none

def Col.snoc (c : Col) (v : AV) : Col :=
  match c, v with
  | .ints k xs, .int k' y => if k = k' then .ints k (xs ++ [y]) else .gen (xs.length + 1) fun j => if j = xs.length then .int k' y else .int k (xs.getD j 0)
  | .bools xs, .bool y => .bools (xs ++ [y])
  | .strs xs, .str y => .strs (xs ++ [y])
  | .recs xs, v => .recs (v :: xs)
  | .gen n f, v => .gen (n + 1) fun j => if j = n then v else f j
  | c, v => .gen (c.len + 1) fun j => if j = c.len then v else c.get j

def Col.app (c : Col) (n : Nat) (f : Nat → AV) : Col := .gen (c.len + n) fun j => if j < c.len then c.get j else f (j - c.len)

def Col.drop (c : Col) (k : Nat) : Col :=
  match c with
  | .ints d xs => .ints d (xs.drop k)
  | .bools xs => .bools (xs.drop k)
  | .strs xs => .strs (xs.drop k)
  | .recs xs => .recs (xs.take (xs.length - k))
  | .gen n f => .gen (n - k) fun j => f (k + j)

/-- What is appended: its elements. -/
def asrc (h : AHeap) : AV → Option (Cnd × Nat × Nat × (Nat → AV))
  | .sl sz n f => some (none, sz, n, f)
  | .ms id v sz off len =>
    match h[id]? with
    | some (.row s k c) => some (cnd (v = k ∧ sz = s ∧ off + len ≤ c.len), sz, len, fun i => c.get (off + i))
    | some (.frow s k n f) => some (cnd (v = k ∧ sz = s ∧ off + len ≤ n), sz, len, fun i => f (off + i))
    | _ => none
  | .snil => some (none, 0, 0, fun _ => .any)
  | _ => none

inductive AppMode where
  | none     -- nothing is appended
  | one      -- one element
  | many     -- at least one

section
variable {m : IdMap} {Mut : Mu} {w : World} {P : Program} {h : AHeap}

theorem Col.zero_sound (z : AV) (n : Nat) : (Col.zero z n).len = n ∧ ∀ i, i < n → (Col.zero z n).get i = z := by
  unfold Col.zero
  split
  · refine ⟨by simp [Col.len], fun i hi => by simp [Col.get, List.getD, hi]⟩
  · refine ⟨by simp [Col.len], fun i hi => by simp [Col.get, List.getD, hi]⟩
  · exact ⟨rfl, fun i hi => rfl⟩

theorem zeroSized_spec {t : TypeId} {z : AV} (hz : zeroV P t = some z) (hs : zeroSized P t = true) : z.isAny = false ∧ z.cells.length = szOf P t ∧ 0 < szOf P t ∧ 0 < bytesT P t := by
  unfold zeroSized at hs
  rw [hz] at hs
  simp only [Bool.and_eq_true, Bool.not_eq_true', beq_iff_eq, decide_eq_true_eq] at hs
  exact ⟨hs.1.1.1, hs.1.1.2, hs.1.2, hs.2⟩

theorem madeCells_get (z : Array Value) (C s i j : Nat) (hs : z.size = s) (hi : i < C) (hj : j < s) : (madeCells z (C * s))[i * s + j]? = z[j]? := by
  have hlt : i * s + j < C * s := by
    have : (i + 1) * s ≤ C * s := Nat.mul_le_mul_right _ hi
    rw [Nat.succ_mul] at this
    omega
  have hmod : (i * s + j) % z.size = j := by rw [hs, Nat.mul_comm, Nat.mul_add_mod]; exact Nat.mod_eq_of_lt hj
  unfold madeCells
  rw [Array.getElem?_map, Array.getElem?_range, if_pos hlt]
  simp only [Option.map_some, hmod]
  rw [getElem!_def]
  rw [Array.getElem?_eq_getElem (by omega)]

theorem amake_sound {t : TypeId} {l c : AV} {ul uc : Value} {cnd : Cnd} {v : AV} {h' : AHeap} (H : RelH m Mut h w) (hb : amake P h t l c = some (cnd, v, h')) (hC : cnd.ok) (hl : RelV m Mut w l ul) (hc : RelV m Mut w c uc) :
    ∃ x m' Mut' w', (Instr.makeSlice t ul uc).run P w = .ok x w' ∧ Ext m Mut w m' Mut' w' ∧ RelH m' Mut' h' w' ∧ RelV m' Mut' w' v x := by
  unfold amake at hb
  split at hb
  · rename_i e kl l kc c _
    have hu := seqOf_slice (t := t) (by assumption)
    split at hb
    · rename_i z hz
      split at hb
      · rename_i hzs
        cases hb
        obtain ⟨rfl, h0, h1, h2⟩ := hC
        obtain ⟨k1, k2, k3, _⟩ := zeroSized_spec hz hzs
        obtain ⟨zc, hzr, rfl, i, hi, hzi⟩ := run_zeroValue (w := w) hz
        have hby : bytesT P e = i.bytes := by simp [bytesT, hi]
        have hsz : szOf P e = i.size := by simp [szOf, hi]
        rw [hby] at h1
        rw [hl.inv_int, hc.inv_int]
        have hrun := run_make (P := P) w t e i zc hu hi hzi kl kc c c h0 (Int.le_refl _) h1 h2
        have hzl := relV_cells (ofV_rel (m := m.put h.length c.toNat (w.heap.size, 0, c.toNat)) (Mut := Mut.add w.heap.size) (w := w.alloc (.cells (madeCells zc.cells (c.toNat * i.size)) e)) zc) (isAny_ne k1)
        obtain ⟨g1, g2⟩ := Col.zero_sound (ofV zc) c.toNat
        rcases Nat.eq_zero_or_pos c.toNat with q0 | q0
        · obtain ⟨H', E'⟩ := (H.alloc (.cells (madeCells zc.cells (c.toNat * i.size)) e)).virt (szOf P e) (Col.zero (ofV zc) c.toNat) (by rw [g1, q0])
          refine ⟨_, _, _, _, hrun, (Ext.alloc m Mut w _).trans E', by rw [q0] at H' ⊢; exact H', ?_⟩
          rw [q0]
          exact .ms0 _ _ _ _ _ _ _ _ (IdMap.put_same _ _ _ _)
        obtain ⟨H', E'⟩ := H.new (.cells (madeCells zc.cells (c.toNat * i.size)) e) (.row (szOf P e) c.toNat (Col.zero (ofV zc) c.toNat)) (0, c.toNat) (decide_eq_true q0)
          (.inr ⟨q0, w.heap.size, 0, c.toNat, _, e, IdMap.put_same _ _ _ _, .inr rfl, heap_alloc_self w _, by rw [size_madeCells, hsz]; omega, by omega, fun q hq => by rw [g2 q (by omega)]; exact k2, fun q j a hq ha => by
            rw [g2 q (by omega)] at ha
            obtain ⟨u, hu, hru⟩ := hzl.get ha
            refine ⟨u, ?_, hru⟩
            have hjlt : j < szOf P e := by
              rcases Nat.lt_or_ge j (szOf P e) with y | y
              · exact y
              · rw [List.getElem?_eq_none (by omega)] at ha; cases ha
            rw [Nat.zero_add, hsz, madeCells_get _ _ _ _ _ (by have := hzl.1; omega) (by omega) (by omega), hu]⟩)
        refine ⟨_, _, _, _, hrun, E', H', ?_⟩
        have := RelV.ms (m := m.put h.length c.toNat (w.heap.size, 0, c.toNat)) (Mut := Mut.add w.heap.size) (w := w.alloc (.cells (madeCells zc.cells (c.toNat * i.size)) e)) h.length c.toNat (szOf P e) 0 c.toNat w.heap.size 0 c.toNat (IdMap.put_same _ _ _ _) (by omega)
        simp only [Nat.zero_mul, Nat.add_zero, Nat.sub_zero] at this
        exact this
      · cases hb
    · cases hb
  · cases hb

theorem Col.snoc_sound (c : Col) (v : AV) : (c.snoc v).len = c.len + 1 ∧ (∀ j, j < c.len → (c.snoc v).get j = c.get j) ∧ (c.snoc v).get c.len = v := by
  unfold Col.snoc
  split
  · rename_i k xs k' y
    split
    · rename_i hk
      subst hk
      refine ⟨by simp [Col.len], fun j hj => ?_, ?_⟩
      · simp only [Col.len] at hj
        simp [Col.get, List.getD, List.getElem?_append_left hj]
      · simp [Col.get, Col.len, List.getD]
    · refine ⟨rfl, fun j hj => ?_, ?_⟩
      · simp only [Col.len] at hj
        simp only [Col.get]
        rw [if_neg (by omega)]
      · simp [Col.get, Col.len]
  · rename_i xs y
    refine ⟨by simp [Col.len], fun j hj => ?_, ?_⟩
    · simp only [Col.len] at hj
      simp [Col.get, List.getD, List.getElem?_append_left hj]
    · simp [Col.get, Col.len, List.getD]
  · rename_i xs y
    refine ⟨by simp [Col.len], fun j hj => ?_, ?_⟩
    · simp only [Col.len] at hj
      simp [Col.get, List.getD, List.getElem?_append_left hj]
    · simp [Col.get, Col.len, List.getD]
  · rename_i xs
    refine ⟨by simp [Col.len], fun j hj => ?_, ?_⟩
    · simp only [Col.len] at hj
      simp only [Col.get, List.length_cons]
      rw [if_pos (by omega), if_pos hj, show xs.length + 1 - 1 - j = (xs.length - 1 - j) + 1 by omega]
      rfl
    · simp [Col.get, Col.len]
  · rename_i n f
    refine ⟨rfl, fun j hj => ?_, by simp [Col.get, Col.len]⟩
    simp only [Col.len] at hj
    simp only [Col.get]
    rw [if_neg (by omega)]
  · refine ⟨rfl, fun j hj => ?_, by simp [Col.get]⟩
    simp only [Col.get]
    rw [if_neg (by omega)]

theorem Col.drop_sound (c : Col) (k : Nat) : (c.drop k).len = c.len - k ∧ ∀ j, (c.drop k).get j = c.get (k + j) := by
  cases c with
  | recs xs =>
    refine ⟨by simp [Col.drop, Col.len], fun j => ?_⟩
    simp only [Col.drop, Col.get, List.length_take]
    by_cases h : k + j < xs.length
    · rw [if_pos (by omega), if_pos h, List.getD_eq_getElem?_getD, List.getD_eq_getElem?_getD, List.getElem?_take, if_pos (by omega)]
      congr 2
      omega
    · rw [if_neg (by omega), if_neg h]
  | _ => simp [Col.drop, Col.len, Col.get, List.getD, List.getElem?_drop]

/-- The elements of a source lie in memory. -/
structure Src (m : IdMap) (Mut : Mu) (w : World) (u : Value) (sz n : Nat) (f : Nat → AV) (news : List Value) : Prop where
  len : news.length = n * sz
  val : ∃ a cap, u = .slice a n cap ∧ (0 < n → ∃ b, a = some b ∧ ∀ (j : Nat) x, news[j]? = some x → w.cell? (b.add j) = some x)
  size : ∀ i, i < n → (f i).cells.length = sz
  rel : ∀ (i j : Nat) (a : AV), i < n → (f i).cells[j]? = some a → ∃ x, news[i * sz + j]? = some x ∧ RelV m Mut w a x

theorem src_of_cells {u : Value} {sz n cap b o : Nat} {f : Nat → AV} (hu : u = .slice (some ⟨b, o, none⟩) n cap) (hsz : ∀ i, i < n → (f i).cells.length = sz)
    (hc : ∀ (i j : Nat), i < n → j < sz → ∃ x, w.cell? ⟨b, o + i * sz + j, none⟩ = some x ∧ ∀ a, (f i).cells[j]? = some a → RelV m Mut w a x) :
    ∃ news, Src m Mut w u sz n f news := by
  have hex : ∀ q, q < n * sz → ∃ x, w.cell? ⟨b, o + q, none⟩ = some x := by
    intro q hq
    have hs0 : 0 < sz := by
      rcases Nat.eq_zero_or_pos sz with z | z
      · subst z; simp at hq
      · exact z
    have h1 : q / sz < n := Nat.div_lt_of_lt_mul (by rw [Nat.mul_comm]; exact hq)
    obtain ⟨x, hx, _⟩ := hc (q / sz) (q % sz) h1 (Nat.mod_lt _ hs0)
    exact ⟨x, by rw [← hx]; congr 2; have := Nat.div_add_mod q sz; rw [Nat.mul_comm] at this; omega⟩
  refine ⟨(List.range (n * sz)).map fun q => (w.cell? ⟨b, o + q, none⟩).getD default, ⟨by simp, ⟨_, _, hu, fun _ => ⟨_, rfl, fun j x hx => ?_⟩⟩, hsz, fun i j a hi ha => ?_⟩⟩
  · rw [addr_add]
    rw [List.getElem?_map] at hx
    rcases Nat.lt_or_ge j (n * sz) with q | q
    · rw [List.getElem?_range q] at hx
      simp only [Option.map_some, Option.some.injEq] at hx
      obtain ⟨y, hy⟩ := hex j q
      rw [hy] at hx ⊢
      simpa using hx
    · rw [List.getElem?_eq_none (by simpa using q)] at hx; cases hx
  · have hj : j < sz := by
      rcases Nat.lt_or_ge j sz with q | q
      · exact q
      · rw [List.getElem?_eq_none (by rw [hsz i hi]; exact q)] at ha; cases ha
    obtain ⟨x, hx, hr⟩ := hc i j hi hj
    refine ⟨x, ?_, hr a ha⟩
    have hlt : i * sz + j < n * sz := by
      have : (i + 1) * sz ≤ n * sz := Nat.mul_le_mul_right _ hi
      rw [Nat.succ_mul] at this
      omega
    rw [List.getElem?_map, List.getElem?_range hlt]
    simp only [Option.map_some]
    rw [← Nat.add_assoc, hx]
    rfl

theorem asrc_sound {x : AV} {u : Value} {c : Cnd} {sz n : Nat} {f : Nat → AV} (H : RelH m Mut h w) (hs : asrc h x = some (c, sz, n, f)) (hC : c.ok) (hx : RelV m Mut w x u) : ∃ news, Src m Mut w u sz n f news := by
  have nil : ∀ (a : Option Addr) (cap sz : Nat) (f : Nat → AV), Src m Mut w (.slice a 0 cap) sz 0 f [] := fun a cap sz f =>
    ⟨by simp, ⟨a, cap, rfl, fun h => absurd h (Nat.lt_irrefl _)⟩, fun i hi => absurd hi (Nat.not_lt_zero _), fun i j a hi => absurd hi (Nat.not_lt_zero _)⟩
  unfold asrc at hs
  split at hs
  · cases hs
    cases hx with
    | sl _ _ _ b o cap val hn hc hbs hmu hsz hv hr => exact src_of_cells rfl hsz fun i j hi hj => ⟨_, hv i j hi hj, fun a ha => hr i j a hi ha⟩
    | sl0 _ _ a cap => exact ⟨_, nil _ _ _ _⟩
  · rename_i id v sz' off len
    split at hs
    · rename_i s k col hid
      cases hs
      obtain ⟨rfl, rfl, hle⟩ := hC
      rcases Nat.eq_zero_or_pos n with q0 | q0
      · subst q0
        cases hx with
        | ms _ _ _ _ _ b' o' C' hm hc => exact ⟨_, nil _ _ _ _⟩
        | ms0 _ _ _ _ b' o' C' a hm => exact ⟨_, nil _ _ _ _⟩
      obtain ⟨b, o, C, cc, t, h1, h2, h3, h4, h5, h6, h7⟩ := (H.obj id _ hid).rowIn (i := off) (by omega)
      cases hx with
      | ms _ _ _ _ _ b' o' C' hm hc =>
        rw [h1] at hm; cases hm
        refine src_of_cells rfl (fun i hi => h6 _ (by omega)) fun i j hi hj => ?_
        obtain ⟨a, ha⟩ : ∃ a, (col.get (off + i)).cells[j]? = some a := ⟨_, List.getElem?_eq_getElem (by rw [h6 _ (by omega)]; exact hj)⟩
        obtain ⟨x, hx, hr⟩ := h7 (off + i) j a (by omega) ha
        refine ⟨x, ?_, fun a' ha' => ?_⟩
        · rw [cell?_at h3, ← hx]; congr 1; rw [Nat.add_mul]; omega
        · rw [ha] at ha'; cases ha'; exact hr
      | ms0 _ _ _ _ b' o' C' a hm => exact ⟨_, nil _ _ _ _⟩
    · rename_i s k n' f' hid
      cases hs
      obtain ⟨rfl, rfl, hle⟩ := hC
      rcases Nat.eq_zero_or_pos n with q0 | q0
      · subst q0
        cases hx with
        | ms _ _ _ _ _ b' o' C' hm hc => exact ⟨_, nil _ _ _ _⟩
        | ms0 _ _ _ _ b' o' C' a hm => exact ⟨_, nil _ _ _ _⟩
      obtain ⟨b, o, C, cc, t, h1, h2, h3, h4, h5, h6, h7⟩ := (H.obj id _ hid).frowIn (i := off) (by omega)
      cases hx with
      | ms _ _ _ _ _ b' o' C' hm hc =>
        rw [h1] at hm; cases hm
        refine src_of_cells rfl (fun i hi => h6 _ (by omega)) fun i j hi hj => ?_
        obtain ⟨a, ha⟩ : ∃ a, (f' (off + i)).cells[j]? = some a := ⟨_, List.getElem?_eq_getElem (by rw [h6 _ (by omega)]; exact hj)⟩
        obtain ⟨x, hx, hr⟩ := h7 (off + i) j a (by omega) ha
        refine ⟨x, ?_, fun a' ha' => ?_⟩
        · rw [cell?_at h4, ← hx]; congr 1; rw [Nat.add_mul]; omega
        · rw [ha] at ha'; cases ha'; exact hr
      | ms0 _ _ _ _ b' o' C' a hm => exact ⟨_, nil _ _ _ _⟩
    · cases hs
  · cases hs
    cases hx with
    | snil a => exact ⟨_, nil _ _ _ _⟩
  · cases hs

end
end Go.Proofs.Ytjdakdjgkpfjkaa
