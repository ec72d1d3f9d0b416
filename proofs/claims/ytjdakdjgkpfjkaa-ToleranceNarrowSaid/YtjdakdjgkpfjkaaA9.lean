/- append over abstract rows; all operations that write. Conditions: none. -/
import Derived.Test.YtjdakdjgkpfjkaaA8
namespace Go.Proofs.Ytjdakdjgkpfjkaa
set_option linter.unusedVariables false
set_option linter.unusedSimpArgs false

def Cnd.and (c : Cnd) (p : Prop) [d : Decidable p] : Cnd :=
  match c with
  | none => some ⟨p, d⟩
  | some c => some ⟨c.p ∧ p, @instDecidableAnd _ _ c.d d⟩

def AppMode.num : AppMode → Nat → Nat
  | .none, _ => 0
  | .one, _ => 1
  | .many, n => n

def AppMode.needs (mode : AppMode) (n : Nat) (f : Nat → AV) : Prop :=
  match mode with
  | .none => n = 0
  | .one => n = 1 ∧ (f 0).cells.all AV.isCell = true
  | .many => ∀ i, i < n → (f i).cells.all AV.isCell = true

instance (mode : AppMode) (n : Nat) (f : Nat → AV) : Decidable (mode.needs n f) :=
  match mode with
  | .none => inferInstanceAs (Decidable (n = 0))
  | .one => inferInstanceAs (Decidable (n = 1 ∧ (f 0).cells.all AV.isCell = true))
  | .many => inferInstanceAs (Decidable (∀ i, i < n → (f i).cells.all AV.isCell = true))

def Col.join (c : Col) (mode : AppMode) (n : Nat) (f : Nat → AV) : Col :=
  match mode with
  | .none => c
  | .one => c.snoc (f 0)
  | .many => c.app n f

def Col.first (mode : AppMode) (n : Nat) (f : Nat → AV) : Col :=
  match mode with
  | .one => Col.ofList [f 0]
  | _ => .gen n f

/-- append(s, x...). -/
def aapp (P : Program) (h : AHeap) (t : TypeId) (s x : AV) (mode : AppMode) (shift : Bool) : Option (Cnd × AV × AHeap) :=
  match seqOf P t with
  | .slice e =>
    if zeroSized P e then
      match asrc h x with
      | some (cx, sz, n, f) =>
        match mode, s with
        | .none, .snil => some (cx.and (n = 0), .snil, h)
        | .none, .ms id v s' off len => some (cx.and (n = 0), .ms id v s' off len, h)
        | mode, .snil =>
          some (cx.and (sz = szOf P e ∧ mode.needs n f ∧ n * bytesT P e ≤ 140737488355328), .ms h.length (mode.num n) (szOf P e) 0 (mode.num n), h ++ [.row (szOf P e) (mode.num n) (Col.first mode n f)])
        | mode, .ms id v s' off len =>
          match h[id]? with
          | some (.row s'' k c) =>
            if s'' = szOf P e ∧ s' = szOf P e then
              match shift with
              | false => some (cx.and (sz = szOf P e ∧ mode.needs n f ∧ (len + n) * bytesT P e ≤ 140737488355328 ∧ v = k ∧ off = 0 ∧ len = c.len), .ms id (k + mode.num n) (szOf P e) 0 (c.join mode n f).len, h.set id (.row (szOf P e) (k + mode.num n) (c.join mode n f)))
              | true => some (cx.and (sz = szOf P e ∧ mode.needs n f ∧ (len + n) * bytesT P e ≤ 140737488355328 ∧ v = k ∧ off + len = c.len ∧ 0 < n), .ms id (k + mode.num n) (szOf P e) 0 (len + mode.num n), h.set id (.row (szOf P e) (k + mode.num n) ((c.drop off).join mode n f)))
            else none
          | _ => none
        | _, _ => none
      | none => none
    else none
  | _ => none

section
variable {m : IdMap} {Mut : Mu} {w : World} {P : Program} {h : AHeap}

theorem Cnd.and_ok {c : Cnd} {p : Prop} [Decidable p] (h : (c.and p).ok) : c.ok ∧ p := by
  cases c with
  | none => exact ⟨trivial, h⟩
  | some c => exact h

theorem AppMode.needs_num {mode : AppMode} {n : Nat} {f : Nat → AV} (h : mode.needs n f) : mode.num n = n ∧ (∀ i, i < n → (f i).cells.all AV.isCell = true) := by
  cases mode with
  | none => simp only [AppMode.needs] at h; subst h; exact ⟨rfl, fun i hi => absurd hi (Nat.not_lt_zero _)⟩
  | one =>
    obtain ⟨rfl, h2⟩ := h
    refine ⟨rfl, fun i hi => ?_⟩
    obtain rfl : i = 0 := by omega
    exact h2
  | many => exact ⟨rfl, h⟩

/-- A row to which elements came. -/
structure Joined (c c' : Col) (n : Nat) (f : Nat → AV) : Prop where
  len : c'.len = c.len + n
  old : ∀ j, j < c.len → c'.get j = c.get j
  new : ∀ j, j < n → c'.get (c.len + j) = f j

theorem Col.join_sound {c : Col} {mode : AppMode} {n : Nat} {f : Nat → AV} (h : mode.needs n f) : Joined c (c.join mode n f) n f := by
  cases mode with
  | none => simp only [AppMode.needs] at h; subst h; exact ⟨rfl, fun _ _ => rfl, fun j hj => absurd hj (Nat.not_lt_zero _)⟩
  | one =>
    obtain ⟨rfl, _⟩ := h
    obtain ⟨h1, h2, h3⟩ := Col.snoc_sound c (f 0)
    refine ⟨h1, h2, fun j hj => ?_⟩
    obtain rfl : j = 0 := by omega
    exact h3
  | many =>
    refine ⟨rfl, fun j hj => ?_, fun j hj => ?_⟩
    · simp [Col.join, Col.app, Col.get, hj]
    · simp only [Col.join, Col.app]
      show (if c.len + j < c.len then c.get (c.len + j) else f (c.len + j - c.len)) = f j
      rw [if_neg (by omega), Nat.add_sub_cancel_left]

/-- A row that reads as another. -/
theorem RelH.recol {id sz k : Nat} {c c' : Col} (H : RelH m Mut h w) (hid : h[id]? = some (.row sz k c)) (hl : c'.len = c.len) (hg : ∀ j, j < c.len → c'.get j = c.get j) : RelH m Mut (h.set id (.row sz k c')) w := by
  have hlt : id < h.length := (List.getElem?_eq_some_iff.1 hid).1
  have old : ∀ (i : Nat) (x : AObj), (h.set id (.row sz k c'))[i]? = some x → ∃ y, h[i]? = some y ∧ y.ver = x.ver ∧ y.live = x.live ∧ y.act = x.act ∧ (y = x ∨ (i = id ∧ x = .row sz k c')) := by
    intro i x hx
    rw [List.getElem?_set] at hx
    by_cases e : id = i
    · rw [if_pos e, if_pos hlt] at hx; cases hx; subst e; exact ⟨.row sz k c, hid, rfl, rfl, rfl, .inr ⟨rfl, rfl⟩⟩
    · rw [if_neg e] at hx; exact ⟨x, hx, rfl, rfl, rfl, .inl rfl⟩
  refine ⟨fun i x hx => ?_, fun i i' x x' b C C' hx hx' hl hl' hm hm' => ?_, fun i n x hx => by rw [List.length_set]; exact H.dom i n x hx, H.lt, fun i x n y hx hl hy => ?_⟩
  · obtain ⟨y, hy, _, _, _, e | ⟨rfl, rfl⟩⟩ := old i x hx
    · subst e; exact H.obj i y hy
    · rcases H.obj i _ hid with ⟨q1, q2, q3⟩ | ⟨q, b, o, C, cc, t, h1, h2, h3, h4, h5, h6, h7⟩
      · exact .inl ⟨q1, hl ▸ q2, q3⟩
      · exact .inr ⟨q, b, o, C, cc, t, h1, h2, h3, h4, hl ▸ h5, fun j hj => by rw [hg j (hl ▸ hj)]; exact h6 j (hl ▸ hj), fun j q a hj ha => by rw [hg j (hl ▸ hj)] at ha; exact h7 j q a (hl ▸ hj) ha⟩
  · obtain ⟨y, hy, e1, e2, _⟩ := old i x hx
    obtain ⟨y', hy', e1', e2', _⟩ := old i' x' hx'
    exact H.inj i i' y y' b C C' hy hy' (e2.trans hl) (e2'.trans hl') (e1 ▸ hm) (e1' ▸ hm')
  · obtain ⟨y', hy', e1, _, e3, _⟩ := old i x hx
    rw [← e1]
    exact H.top i y' n y hy' (e3.trans hl) hy

theorem Col.first_sound {mode : AppMode} {n : Nat} {f : Nat → AV} (h : mode.needs n f) : (Col.first mode n f).len = n ∧ ∀ j, j < n → (Col.first mode n f).get j = f j := by
  cases mode with
  | none => exact ⟨rfl, fun _ _ => rfl⟩
  | one =>
    obtain ⟨rfl, _⟩ := h
    obtain ⟨h1, h2⟩ := Col.ofList_get [f 0]
    refine ⟨h1, fun j hj => ?_⟩
    obtain rfl : j = 0 := by omega
    have := h2 0 (by simp)
    simpa [Col.first] using this.symm
  | many => exact ⟨rfl, fun _ _ => rfl⟩

theorem news_one {u : Value} {sz n : Nat} {f : Nat → AV} {news : List Value} (S : Src m Mut w u sz n f news) (hall : ∀ i, i < n → (f i).cells.all AV.isCell = true) : ∀ x ∈ news, x.oneCell' = true := by
  intro x hx
  obtain ⟨q, hq⟩ := List.getElem?_of_mem hx
  have hlt : q < n * sz := by
    rw [← S.len]
    rcases Nat.lt_or_ge q news.length with z | z
    · exact z
    · rw [List.getElem?_eq_none z] at hq; cases hq
  have hs0 : 0 < sz := by
    rcases Nat.eq_zero_or_pos sz with z | z
    · subst z; simp at hlt
    · exact z
  have h1 : q / sz < n := Nat.div_lt_of_lt_mul (by rw [Nat.mul_comm]; exact hlt)
  have h2 : q % sz < sz := Nat.mod_lt _ hs0
  obtain ⟨a, ha⟩ : ∃ a, (f (q / sz)).cells[q % sz]? = some a := ⟨_, List.getElem?_eq_getElem (by rw [S.size _ h1]; exact h2)⟩
  obtain ⟨y, hy, hr⟩ := S.rel _ _ _ h1 ha
  rw [show q / sz * sz + q % sz = q by have := Nat.div_add_mod q sz; rw [Nat.mul_comm] at this; omega, hq] at hy
  cases hy
  exact (isCell_one (List.all_eq_true.1 (hall _ h1) _ (List.mem_of_getElem? ha)) hr).1

theorem zeroCells_size (z : Array Value) (n : Nat) : (Builtin.zeroCells z n).size = n * z.size := by simp [Builtin.zeroCells]

theorem grownCap_ge' (w : World) (need old : Nat) (e : TypeId) : need ≤ grownCap w need old e := grownCap_ge w need old e

/-- What a grown row is. -/
theorem grown_row {olds news : List Value} {rest : Array Value} {sz len n : Nat} (ho : olds.length = len * sz) (hn : news.length = n * sz) (i j : Nat) (hj : j < sz) :
    (i < len → (olds.toArray ++ news.toArray ++ rest)[0 + i * sz + j]? = olds[i * sz + j]?) ∧ (i < n → (olds.toArray ++ news.toArray ++ rest)[0 + (len + i) * sz + j]? = news[i * sz + j]?) := by
  constructor
  · intro hi
    have : (i + 1) * sz ≤ len * sz := Nat.mul_le_mul_right _ hi
    rw [Nat.succ_mul] at this
    rw [Nat.zero_add, Array.getElem?_append_left (by simp; omega), Array.getElem?_append_left (by simp; omega)]
    simp
  · intro hi
    have : (i + 1) * sz ≤ n * sz := Nat.mul_le_mul_right _ hi
    rw [Nat.succ_mul] at this
    rw [Nat.zero_add, Nat.add_mul, Array.getElem?_append_left (by simp; omega), Array.getElem?_append_right (by simp; omega)]
    simp only [List.size_toArray, List.getElem?_toArray]
    congr 1
    omega

theorem append_new_sound {t e : TypeId} {z : AV} {ua ux : Value} {a : Option Addr} {n sz : Nat} {f : Nat → AV} {news : List Value} {c' : Col} {ty : TypeId}
    (H : RelH m Mut h w) (hs : seqOf P t = .slice e) (hz : zeroV P e = some z) (hzs : zeroSized P e = true) (hsz : sz = szOf P e)
    (hua : ua = .slice a 0 0) (S : Src m Mut w ux sz n f news) (hn : 0 < n) (hb : n * bytesT P e ≤ 140737488355328) (hc : c'.len = n ∧ ∀ j, j < n → c'.get j = f j) :
    ∃ x m' Mut' w', (Builtin.append_ #[t, t] ty #[ua, ux]).run P w = .ok x w' ∧ Ext m Mut w m' Mut' w' ∧ RelH m' Mut' (h ++ [.row sz n c']) w' ∧ RelV m' Mut' w' (.ms h.length n sz 0 n) x := by
  subst hua
  have hu := seqOf_slice hs
  obtain ⟨k1, k2, k3, k4⟩ := zeroSized_spec hz hzs
  obtain ⟨zc, hzr, rfl, i, hi, hzi⟩ := run_zeroValue (w := w) hz
  have hby : bytesT P e = i.bytes := by simp [bytesT, hi]
  have hisz : szOf P e = i.size := by simp [szOf, hi]
  have hzl := (relV_cells (ofV_rel (m := m) (Mut := Mut) (w := w) zc) (isAny_ne k1)).1
  obtain ⟨ax, capx, rfl, hax⟩ := S.val
  obtain ⟨bx, rfl, hcells⟩ := hax hn
  rw [hby] at hb
  rw [hby] at k4
  have h63 : n ≤ 9223372036854775807 := by
    have : n * 1 ≤ n * i.bytes := Nat.mul_le_mul_left _ k4
    omega
  have hlen : news.length = n * i.size := by rw [S.len, hsz, hisz]
  have fin : ∀ (w1 : World) (C : Nat) (rest : Array Value), w1 = w.drew.alloc (.cells (([] : List Value).toArray ++ news.toArray ++ rest) e) → n ≤ C → rest.size = (C - n) * i.size →
      ∃ m' Mut', Ext m Mut w m' Mut' w1 ∧ RelH m' Mut' (h ++ [.row sz n c']) w1 ∧ RelV m' Mut' w1 (.ms h.length n sz 0 n) (.slice (some ⟨w.heap.size, 0, none⟩) n C) := by
    intro w1 C rest hw1 hC hrest
    subst hw1
    have H1 : RelH m Mut h w.drew := H.drew _
    have E1 : Ext m Mut w m Mut w.drew := .drew _ _ _ _
    obtain ⟨H', E'⟩ := H1.new (.cells (([] : List Value).toArray ++ news.toArray ++ rest) e) (.row sz n c') (0, C) (decide_eq_true hn)
      (.inr ⟨hn, w.heap.size, 0, C, _, e, IdMap.put_same _ _ _ _, .inr rfl, heap_alloc_self w.drew _, by
        simp only [Array.size_append, List.size_toArray, List.length_nil, hlen, hrest, hsz, hisz]
        rw [Nat.zero_add, Nat.zero_add, ← Nat.add_mul]; congr 1; omega, by omega, fun q hq => by rw [hc.2 q (by omega)]; exact S.size q (by omega), fun q j y hq ha => by
          rw [hc.2 q (by omega)] at ha
          obtain ⟨x, hx, hr⟩ := S.rel q j y (by omega) ha
          have hj : j < sz := by
            rcases Nat.lt_or_ge j sz with y | y
            · exact y
            · rw [List.getElem?_eq_none (by rw [S.size q (by omega)]; exact y)] at ha; cases ha
          refine ⟨x, ?_, ?_⟩
          · have g := (grown_row (olds := []) (rest := rest) (len := 0) (sz := sz) (by simp) S.len q j hj).2 (by omega)
            rw [Nat.zero_add q] at g
            rw [g, hx]
          · refine RelV.mono (m := m) (Mut := Mut) (Mut' := Mut.add w.heap.size) (w := w) (fun id k x hx => ?_) (by simp) (fun b hb hM hM' => hM'.elim hM (fun e => by have : b = w.heap.size := e; omega)) (fun b hb _ => Go.RowKit.Below.heap_alloc w.drew _ b hb) hr
            rw [IdMap.put_other (.inl (Nat.ne_of_lt (H.dom id k x hx)))]; exact hx⟩)
    refine ⟨_, _, E1.trans E', H', ?_⟩
    have := RelV.ms (m := m.put h.length n (w.heap.size, 0, C)) (Mut := Mut.add w.heap.size) (w := w.drew.alloc (.cells (([] : List Value).toArray ++ news.toArray ++ rest) e)) h.length n sz 0 n w.heap.size 0 C (IdMap.put_same _ _ _ _) (by omega)
    simp only [Nat.zero_mul, Nat.add_zero, Nat.sub_zero] at this
    exact this
  cases a with
  | none =>
    have hrun := run_append_nil (P := P) w t ty e i zc hu hi hzi bx n capx news hlen (by simpa using hcells) hn (by omega) (by omega)
    obtain ⟨m', Mut', g1, g2, g3⟩ := fin _ (grownCap w n 0 e) (Builtin.zeroCells zc.cells (grownCap w n 0 e - n)) rfl (grownCap_ge w n 0 e) (by rw [zeroCells_size, ← hzl, k2, hisz])
    exact ⟨_, m', Mut', _, by rw [hrun]; simp, g1, g2, g3⟩
  | some b =>
    have hrun := run_append_grow (P := P) w t ty e i zc hu hi hzi b 0 0 [] (by simp) (by simp) bx n capx news hlen (by simpa using hcells) (by omega) (by simp; omega) (by rw [Nat.zero_add, nextslicecap_zero hn]; omega)
    simp only [Nat.zero_add] at hrun
    obtain ⟨m', Mut', g1, g2, g3⟩ := fin _ (grownCap w n 0 e) (Builtin.zeroCells zc.cells (grownCap w n 0 e - n)) rfl (grownCap_ge w n 0 e) (by rw [zeroCells_size, ← hzl, k2, hisz])
    exact ⟨_, m', Mut', _, hrun, g1, g2, g3⟩

end
end Go.Proofs.Ytjdakdjgkpfjkaa
