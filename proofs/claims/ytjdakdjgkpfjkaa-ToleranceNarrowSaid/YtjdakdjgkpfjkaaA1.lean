/- The abstract values of this proof, and how they stand for the model's values in a world. Conditions: none. -/
import Derived.Calls
import Derived.Below
import Derived.Orders
import Derived.Laws.AppendOwn
import Derived.Laws.Cells
import Derived.Laws.NewBlocks
namespace Go.Proofs.Ytjdakdjgkpfjkaa
set_option linter.unusedVariables false
set_option linter.unusedSimpArgs false

/-- An abstract value: what a value of the model reads as. `sl`, `pp`: memory that nobody writes any more. `ptr`, `ms`, `mp`: an object of the abstract heap. -/
inductive AV where
  | any
  | undef
  | int (k : IntKind) (n : Int)
  | bool (b : Bool)
  | str (s : ByteArray)
  | agg (cs : List AV)
  | tup (vs : List AV)
  | sl (sz n : Nat) (f : Nat → AV)
  | snil
  | pp (cs : List AV)
  | ptr (id n sz i off : Nat)
  | ms (id n sz off len : Nat)
  | mp (id : Nat)
  | fn (g : FuncId) (cap : List AV)
  | nilp
  | nilf
  | nilm

instance : Inhabited AV := ⟨.any⟩

def AV.cells : AV → List AV
  | .agg cs => cs
  | v => [v]

/-- Where the abstract objects lie: of each object and version the block, the cell of its element 0, and for how many elements there is room. -/
abbrev IdMap := Nat → Nat → Option (Nat × Nat × Nat)

/-- Blocks that no plain data lies in (im), and those of them that may be written here (wr). -/
structure Mu where
  im : Nat → Prop
  wr : Nat → Prop
  le : ∀ b, wr b → im b

def Mu.add (M : Mu) (x : Nat) : Mu := ⟨fun b => M.im b ∨ b = x, fun b => M.wr b ∨ b = x, fun b h => h.imp (M.le b) id⟩

/-- `RelV m Mut w a v`: the value v reads as a in the world w; m: where the abstract objects lie; Mut: the blocks that may still be written. -/
inductive RelV (m : IdMap) (Mut : Mu) (w : World) : AV → Value → Prop
  | any (v : Value) : RelV m Mut w .any v
  | undef : RelV m Mut w .undef Go.undef
  | int (k : IntKind) (n : Int) : RelV m Mut w (.int k n) (.int k n)
  | bool (b : Bool) : RelV m Mut w (.bool b) (.bool b)
  | str (s : ByteArray) : RelV m Mut w (.str s) (.string s)
  | agg (cs : List AV) (vs : Array Value) (hl : cs.length = vs.size) (h : ∀ (i : Nat) (a : AV) (v : Value), cs[i]? = some a → vs[i]? = some v → RelV m Mut w a v) : RelV m Mut w (.agg cs) (.agg vs)
  | tup (cs : List AV) (vs : Array Value) (hl : cs.length = vs.size) (h : ∀ (i : Nat) (a : AV) (v : Value), cs[i]? = some a → vs[i]? = some v → RelV m Mut w a v) : RelV m Mut w (.tup cs) (.tuple vs)
  | sl (sz n : Nat) (f : Nat → AV) (b o cap : Nat) (val : Nat → Nat → Value) (hn : 0 < n) (hc : n ≤ cap) (hb : b < w.heap.size) (hm : ¬ Mut.im b)
      (hs : ∀ i, i < n → (f i).cells.length = sz)
      (hv : ∀ (i j : Nat), i < n → j < sz → w.cell? ⟨b, o + i * sz + j, none⟩ = some (val i j))
      (hr : ∀ (i j : Nat) (a : AV), i < n → (f i).cells[j]? = some a → RelV m Mut w a (val i j)) : RelV m Mut w (.sl sz n f) (.slice (some ⟨b, o, none⟩) n cap)
  | sl0 (sz : Nat) (f : Nat → AV) (a : Option Addr) (cap : Nat) : RelV m Mut w (.sl sz 0 f) (.slice a 0 cap)
  | snil (a : Option Addr) : RelV m Mut w .snil (.slice a 0 0)
  | pp (cs : List AV) (b o : Nat) (val : Nat → Value) (hb : b < w.heap.size) (hm : ¬ Mut.im b)
      (hv : ∀ j : Nat, j < cs.length → w.cell? ⟨b, o + j, none⟩ = some (val j))
      (hr : ∀ (j : Nat) (a : AV), cs[j]? = some a → RelV m Mut w a (val j)) : RelV m Mut w (.pp cs) (.pointer (some ⟨b, o, none⟩))
  | ptr (id n sz i off b o C : Nat) (h : m id n = some (b, o, C)) : RelV m Mut w (.ptr id n sz i off) (.pointer (some ⟨b, o + i * sz + off, none⟩))
  | ms (id n sz off len b o C : Nat) (h : m id n = some (b, o, C)) (hc : off + len ≤ C) : RelV m Mut w (.ms id n sz off len) (.slice (some ⟨b, o + off * sz, none⟩) len (C - off))
  | ms0 (id n sz off b o C : Nat) (a : Option Addr) (h : m id n = some (b, o, C)) : RelV m Mut w (.ms id n sz off 0) (.slice a 0 0)
  | mp (id b o C : Nat) (h : m id 0 = some (b, o, C)) : RelV m Mut w (.mp id) (.map (some b))
  | fn (g : FuncId) (cs : List AV) (vs : Array Value) (hl : cs.length = vs.size) (h : ∀ (i : Nat) (a : AV) (v : Value), cs[i]? = some a → vs[i]? = some v → RelV m Mut w a v) : RelV m Mut w (.fn g cs) (.func (.func g) #[] vs)
  | nilp : RelV m Mut w .nilp (.pointer none)
  | nilf : RelV m Mut w .nilf .nilFunc
  | nilm : RelV m Mut w .nilm (.map none)

/-- Lists of values. -/
def RelL (m : IdMap) (Mut : Mu) (w : World) (cs : List AV) (vs : Array Value) : Prop :=
  cs.length = vs.size ∧ ∀ (i : Nat) (a : AV) (v : Value), cs[i]? = some a → vs[i]? = some v → RelV m Mut w a v

theorem cell?_of_block' {w w' : World} {a : Addr} (h : w'.heap[a.block]? = w.heap[a.block]?) : w'.cell? a = w.cell? a := World.cell?_of_block h

theorem RelV.mono {m m' : IdMap} {Mut Mut' : Mu} {w w' : World}
    (hm : ∀ id n x, m id n = some x → m' id n = some x) (hs : w.heap.size ≤ w'.heap.size)
    (hM : ∀ b, b < w.heap.size → ¬ Mut.im b → ¬ Mut'.im b) (hb : ∀ b, b < w.heap.size → ¬ Mut.im b → w'.heap[b]? = w.heap[b]?)
    {a : AV} {v : Value} (h : RelV m Mut w a v) : RelV m' Mut' w' a v := by
  induction h with
  | any v => exact .any v
  | undef => exact .undef
  | int k n => exact .int k n
  | bool b => exact .bool b
  | str s => exact .str s
  | agg cs vs hl h ih => exact .agg cs vs hl ih
  | tup cs vs hl h ih => exact .tup cs vs hl ih
  | sl sz n f b o cap val hn hc hbs hmu hsz hv hr ih =>
    exact .sl sz n f b o cap val hn hc (Nat.lt_of_lt_of_le hbs hs) (hM b hbs hmu) hsz (fun i j hi hj => (cell?_of_block' (hb b hbs hmu)).trans (hv i j hi hj)) ih
  | sl0 sz f a cap => exact .sl0 sz f a cap
  | snil a => exact .snil a
  | pp cs b o val hbs hmu hv hr ih =>
    exact .pp cs b o val (Nat.lt_of_lt_of_le hbs hs) (hM b hbs hmu) (fun j hj => (cell?_of_block' (hb b hbs hmu)).trans (hv j hj)) ih
  | ptr id n sz i off b o C h => exact .ptr id n sz i off b o C (hm _ _ _ h)
  | ms id n sz off len b o C h hc => exact .ms id n sz off len b o C (hm _ _ _ h) hc
  | ms0 id n sz off b o C a h => exact .ms0 id n sz off b o C a (hm _ _ _ h)
  | mp id b o C h => exact .mp id b o C (hm _ _ _ h)
  | fn g cs vs hl h ih => exact .fn g cs vs hl ih
  | nilp => exact .nilp
  | nilf => exact .nilf
  | nilm => exact .nilm

theorem RelL.mono {m m' : IdMap} {Mut Mut' : Mu} {w w' : World}
    (hm : ∀ id n x, m id n = some x → m' id n = some x) (hs : w.heap.size ≤ w'.heap.size)
    (hM : ∀ b, b < w.heap.size → ¬ Mut.im b → ¬ Mut'.im b) (hb : ∀ b, b < w.heap.size → ¬ Mut.im b → w'.heap[b]? = w.heap[b]?)
    {cs : List AV} {vs : Array Value} (h : RelL m Mut w cs vs) : RelL m' Mut' w' cs vs :=
  ⟨h.1, fun i a v ha hv => (h.2 i a v ha hv).mono hm hs hM hb⟩

/-! ### Objects -/

/-- The elements of a row: typed where they are of one cell. -/
inductive Col where
  | ints (k : IntKind) (xs : List Int)
  | bools (xs : List Bool)
  | strs (xs : List ByteArray)
  | recs (xs : List AV)   -- the last one first
  | gen (n : Nat) (f : Nat → AV)

def Col.len : Col → Nat
  | .ints _ xs => xs.length
  | .bools xs => xs.length
  | .strs xs => xs.length
  | .recs xs => xs.length
  | .gen n _ => n

def Col.get : Col → Nat → AV
  | .ints k xs => fun i => .int k (xs.getD i 0)
  | .bools xs => fun i => .bool (xs.getD i false)
  | .strs xs => fun i => .str (xs.getD i ByteArray.empty)
  | .recs xs => fun i => if i < xs.length then xs.getD (xs.length - 1 - i) .any else .any
  | .gen _ f => f

/-- An object of the abstract heap. -/
inductive AObj where
  | var (v : AV)
  | row (sz n : Nat) (c : Col)
  | frow (sz n len : Nat) (f : Nat → AV)
  | map (es : List (AV × AV × Nat)) (clock : Nat)
  | iter (s : ByteArray) (pos : Nat)
  | dead

abbrev AHeap := List AObj

instance : Inhabited AObj := ⟨.dead⟩

def AObj.ver : AObj → Nat
  | .var _ => 1
  | .row _ n _ => n
  | .frow _ n _ _ => n
  | .map _ _ => 0
  | .iter _ _ => 0
  | .dead => 0

/-- An object with a block of its own (a row of version 0 is one that has none yet). -/
def AObj.live : AObj → Bool
  | .var _ | .map _ _ | .iter _ _ => true
  | .row _ n _ => decide (0 < n)
  | _ => false

def AObj.act : AObj → Bool
  | .var _ | .row _ _ _ | .map _ _ | .iter _ _ => true
  | _ => false

theorem AObj.act_of_live {o : AObj} (h : o.live = true) : o.act = true := by cases o <;> first | rfl | cases h

/-- A row that lies in memory. -/
def RowIn (m : IdMap) (Mut : Mu) (w : World) (id sz n : Nat) (col : Col) : Prop :=
  ∃ b o C c t, m id n = some (b, o, C) ∧ Mut.wr b ∧ w.heap[b]? = some (.cells c t (0, 0)) ∧ c.size = o + C * sz ∧ col.len ≤ C ∧
      (∀ i, i < col.len → (col.get i).cells.length = sz) ∧
      ∀ (i j : Nat) (a : AV), i < col.len → (col.get i).cells[j]? = some a → ∃ v, c[o + i * sz + j]? = some v ∧ RelV m Mut w a v
def FrowIn (m : IdMap) (Mut : Mu) (w : World) (id sz n len : Nat) (f : Nat → AV) : Prop :=
  ∃ b o C c t, m id n = some (b, o, C) ∧ b < w.heap.size ∧ ¬ Mut.im b ∧ w.heap[b]? = some (.cells c t (0, 0)) ∧ len ≤ C ∧
      (∀ i, i < len → (f i).cells.length = sz) ∧
      ∀ (i j : Nat) (a : AV), i < len → (f i).cells[j]? = some a → ∃ v, c[o + i * sz + j]? = some v ∧ RelV m Mut w a v

def RelO (m : IdMap) (Mut : Mu) (w : World) (id : Nat) : AObj → Prop
  | .var v => ∃ b c t, m id 1 = some (b, 0, 1) ∧ Mut.wr b ∧ w.heap[b]? = some (.cells c t (0, 0)) ∧ RelL m Mut w v.cells c
  | .row sz n col => (n = 0 ∧ col.len = 0 ∧ ∃ x : Nat × Nat, m id 0 = some (x.1, x.2, 0)) ∨ (0 < n ∧ RowIn m Mut w id sz n col)
  | .frow sz n len f => (len = 0 ∧ ∃ x, m id n = some x) ∨ FrowIn m Mut w id sz n len f
  | .map es clock => ∃ b ents, m id 0 = some (b, 0, 0) ∧ Mut.wr b ∧ w.heap[b]? = some (.map ents clock) ∧ ents.size = es.length ∧
      ∀ (i : Nat) (k v : AV) (born : Nat), es[i]? = some (k, v, born) → ∃ e, ents[i]? = some e ∧ RelV m Mut w k e.key ∧ RelV m Mut w v e.val ∧ e.born = born
  | .iter s pos => ∃ b, m id 0 = some (b, 0, 0) ∧ Mut.wr b ∧ w.heap[b]? = some (.stringIter s pos)
  | .dead => True

theorem RelO.rowIn {m : IdMap} {Mut : Mu} {w : World} {id sz n : Nat} {col : Col} (h : RelO m Mut w id (.row sz n col)) {i : Nat} (hi : i < col.len) : RowIn m Mut w id sz n col := by
  rcases h with ⟨_, h, _⟩ | ⟨_, h⟩
  · omega
  · exact h
theorem RelO.frowIn {m : IdMap} {Mut : Mu} {w : World} {id sz n len : Nat} {f : Nat → AV} (h : RelO m Mut w id (.frow sz n len f)) {i : Nat} (hi : i < len) : FrowIn m Mut w id sz n len f := by
  rcases h with ⟨h, _⟩ | h
  · omega
  · exact h

structure RelH (m : IdMap) (Mut : Mu) (h : AHeap) (w : World) : Prop where
  obj : ∀ (id : Nat) (o : AObj), h[id]? = some o → RelO m Mut w id o
  inj : ∀ (id id' : Nat) (o o' : AObj) (b : Nat) (C C' : Nat × Nat), h[id]? = some o → h[id']? = some o' → o.live = true → o'.live = true →
    m id o.ver = some (b, C) → m id' o'.ver = some (b, C') → id = id'
  dom : ∀ (id n : Nat) x, m id n = some x → id < h.length
  lt : ∀ b, Mut.im b → b < w.heap.size
  top : ∀ (id : Nat) (o : AObj) (n : Nat) x, h[id]? = some o → o.act = true → m id n = some x → n ≤ o.ver

theorem RelH.wr {m : IdMap} {Mut : Mu} {h : AHeap} {w : World} (H : RelH m Mut h w) : ∀ b, Mut.wr b → b < w.heap.size := fun b hb => H.lt b (Mut.le b hb)

/-- What an execution leaves as it was. -/
structure Ext (m : IdMap) (Mut : Mu) (w : World) (m' : IdMap) (Mut' : Mu) (w' : World) : Prop where
  os : w'.os = w.os
  tape : w'.tape = w.tape
  output : w'.output = w.output
  size : w.heap.size ≤ w'.heap.size
  block : ∀ b, b < w.heap.size → ¬ Mut.wr b → w'.heap[b]? = w.heap[b]?
  nmut : ∀ b, b < w.heap.size → ¬ Mut.im b → ¬ Mut'.im b
  nwr : ∀ b, b < w.heap.size → ¬ Mut.wr b → ¬ Mut'.wr b
  keep : ∀ b, b < w.heap.size → Mut.im b → ¬ Mut.wr b → Mut'.im b
  ids : ∀ id n x, m id n = some x → m' id n = some x

theorem Ext.refl (m : IdMap) (Mut : Mu) (w : World) : Ext m Mut w m Mut w :=
  ⟨rfl, rfl, rfl, Nat.le_refl _, fun _ _ _ => rfl, fun _ _ h => h, fun _ _ h => h, fun _ _ h _ => h, fun _ _ _ h => h⟩

theorem Ext.trans {m m' m'' : IdMap} {Mut Mut' Mut'' : Mu} {w w' w'' : World} (h : Ext m Mut w m' Mut' w') (k : Ext m' Mut' w' m'' Mut'' w'') : Ext m Mut w m'' Mut'' w'' :=
  ⟨k.os.trans h.os, k.tape.trans h.tape, k.output.trans h.output, Nat.le_trans h.size k.size,
    fun b hb hm => (k.block b (Nat.lt_of_lt_of_le hb h.size) (h.nwr b hb hm)).trans (h.block b hb hm),
    fun b hb hm => k.nmut b (Nat.lt_of_lt_of_le hb h.size) (h.nmut b hb hm),
    fun b hb hm => k.nwr b (Nat.lt_of_lt_of_le hb h.size) (h.nwr b hb hm),
    fun b hb hi hm => k.keep b (Nat.lt_of_lt_of_le hb h.size) (h.keep b hb hi hm) (h.nwr b hb hm),
    fun id n x hx => k.ids _ _ _ (h.ids _ _ _ hx)⟩

theorem Ext.pure {m m' : IdMap} {Mut Mut' : Mu} {w w' : World} (e : Ext m Mut w m' Mut' w') : ∀ b, b < w.heap.size → ¬ Mut.im b → w'.heap[b]? = w.heap[b]? :=
  fun b hb hm => e.block b hb fun h => hm (Mut.le b h)

theorem Ext.relV {m m' : IdMap} {Mut Mut' : Mu} {w w' : World} (e : Ext m Mut w m' Mut' w') {a : AV} {v : Value} (h : RelV m Mut w a v) : RelV m' Mut' w' a v :=
  h.mono e.ids e.size e.nmut e.pure
theorem Ext.relL {m m' : IdMap} {Mut Mut' : Mu} {w w' : World} (e : Ext m Mut w m' Mut' w') {cs : List AV} {vs : Array Value} (h : RelL m Mut w cs vs) : RelL m' Mut' w' cs vs :=
  h.mono e.ids e.size e.nmut e.pure

/-- The same, and no block that lay has turned. -/
theorem RelO.mono {m m' : IdMap} {Mut Mut' : Mu} {w w' : World} {id : Nat} {o : AObj} (e : Ext m Mut w m' Mut' w')
    (hb : ∀ b C, o.live = true → m id o.ver = some (b, C) → w'.heap[b]? = w.heap[b]? ∧ Mut'.wr b)
    (h : RelO m Mut w id o) : RelO m' Mut' w' id o := by
  cases o with
  | var v =>
    obtain ⟨b, c, t, h1, h2, h3, h4⟩ := h
    have hh := hb b _ rfl h1
    exact ⟨b, c, t, e.ids _ _ _ h1, hh.2, hh.1.trans h3, e.relL h4⟩
  | row sz n col =>
    rcases h with ⟨hn, hl, x, hx⟩ | ⟨hn, b, o, C, c, t, h1, h2, h3, h4, h5, h6, h7⟩
    · exact .inl ⟨hn, hl, x, e.ids _ _ _ hx⟩
    have hh := hb b _ (decide_eq_true hn) h1
    exact .inr ⟨hn, b, o, C, c, t, e.ids _ _ _ h1, hh.2, hh.1.trans h3, h4, h5, h6, fun i j a hi ha => by
      obtain ⟨v, hv, hr⟩ := h7 i j a hi ha
      exact ⟨v, hv, e.relV hr⟩⟩
  | frow sz n len f =>
    rcases h with ⟨hl, x, hx⟩ | ⟨b, o, C, c, t, h1, h2, h3, h4, h5, h6, h7⟩
    · exact .inl ⟨hl, x, e.ids _ _ _ hx⟩
    exact .inr ⟨b, o, C, c, t, e.ids _ _ _ h1, Nat.lt_of_lt_of_le h2 e.size, e.nmut b h2 h3, (e.pure b h2 h3).trans h4, h5, h6, fun i j a hi ha => by
      obtain ⟨v, hv, hr⟩ := h7 i j a hi ha
      exact ⟨v, hv, e.relV hr⟩⟩
  | map es clock =>
    obtain ⟨b, ents, h1, h2, h3, h4, h5⟩ := h
    have hh := hb b _ rfl h1
    exact ⟨b, ents, e.ids _ _ _ h1, hh.2, hh.1.trans h3, h4, fun i k v born hi => by
      obtain ⟨x, hx, h6, h7, h8⟩ := h5 i k v born hi
      exact ⟨x, hx, e.relV h6, e.relV h7, h8⟩⟩
  | iter s pos =>
    obtain ⟨b, h1, h2, h3⟩ := h
    have hh := hb b _ rfl h1
    exact ⟨b, e.ids _ _ _ h1, hh.2, hh.1.trans h3⟩
  | dead => trivial

/-- A live object's block is one that may be written. -/
theorem RelO.wr {m : IdMap} {Mut : Mu} {w : World} {id : Nat} {o : AObj} (h : RelO m Mut w id o) (hl : o.live = true) : ∀ b C, m id o.ver = some (b, C) → Mut.wr b := by
  intro b C hb
  cases o with
  | var v => obtain ⟨b', c, t, h1, h2, _⟩ := h; simp only [AObj.ver] at hb; rw [h1] at hb; cases hb; exact h2
  | row sz n col =>
    rcases h with ⟨hn, _⟩ | ⟨_, b', o, C', c, t, h1, h2, _⟩
    · subst hn; cases hl
    · simp only [AObj.ver] at hb; rw [h1] at hb; cases hb; exact h2
  | frow sz n len f => cases hl
  | map es clock => obtain ⟨b', ents, h1, h2, _⟩ := h; simp only [AObj.ver] at hb; rw [h1] at hb; cases hb; exact h2
  | iter s pos => obtain ⟨b', h1, h2, _⟩ := h; simp only [AObj.ver] at hb; rw [h1] at hb; cases hb; exact h2
  | dead => cases hl

/-- Nothing that lay has turned; what may be written may still be. -/
theorem RelH.still {m : IdMap} {Mut : Mu} {h : AHeap} {w w' : World} (H : RelH m Mut h w)
    (e : Ext m Mut w m Mut w') (hb : ∀ b, b < w.heap.size → w'.heap[b]? = w.heap[b]?) : RelH m Mut h w' where
  obj id o ho := (H.obj id o ho).mono e fun b C hl hm => by
    have hM := (H.obj id o ho).wr hl b C hm
    exact ⟨hb b (H.wr b hM), hM⟩
  inj := H.inj
  dom := H.dom
  lt b hM := Nat.lt_of_lt_of_le (H.lt b hM) e.size
  top := H.top

theorem Ext.alloc (m : IdMap) (Mut : Mu) (w : World) (o : Obj) : Ext m Mut w m Mut (w.alloc o) :=
  ⟨rfl, rfl, rfl, by simp, fun b hb _ => Go.RowKit.Below.heap_alloc w o b hb, fun _ _ h => h, fun _ _ h => h, fun _ _ h _ => h, fun _ _ _ h => h⟩
theorem Ext.drew (m : IdMap) (Mut : Mu) (w : World) (n : Nat) : Ext m Mut w m Mut { w with drawn := n } :=
  ⟨rfl, rfl, rfl, Nat.le_refl _, fun _ _ _ => rfl, fun _ _ h => h, fun _ _ h => h, fun _ _ h _ => h, fun _ _ _ h => h⟩
theorem RelH.alloc {m : IdMap} {Mut : Mu} {h : AHeap} {w : World} (H : RelH m Mut h w) (o : Obj) : RelH m Mut h (w.alloc o) :=
  H.still (.alloc m Mut w o) fun b hb => Go.RowKit.Below.heap_alloc w o b hb
theorem RelH.drew {m : IdMap} {Mut : Mu} {h : AHeap} {w : World} (H : RelH m Mut h w) (n : Nat) : RelH m Mut h { w with drawn := n } :=
  H.still (.drew m Mut w n) fun _ _ => rfl

/-! ### A new object -/
def IdMap.put (m : IdMap) (id n : Nat) (x : Nat × Nat × Nat) : IdMap := fun i k => if i = id ∧ k = n then some x else m i k
theorem IdMap.put_same (m : IdMap) (id n : Nat) (x : Nat × Nat × Nat) : m.put id n x id n = some x := by simp [IdMap.put]
theorem IdMap.put_other {m : IdMap} {id n : Nat} {x : Nat × Nat × Nat} {i k : Nat} (h : i ≠ id ∨ k ≠ n) : m.put id n x i k = m i k := by
  unfold IdMap.put
  rw [if_neg]
  rintro ⟨rfl, rfl⟩
  simp at h

/-- The world has one more block, which is a new object's. -/
theorem RelH.new {m : IdMap} {Mut : Mu} {h : AHeap} {w : World} (H : RelH m Mut h w) (o : Obj) (ao : AObj) (C : Nat × Nat) (hl : ao.live = true)
    (ho : RelO (m.put h.length ao.ver (w.heap.size, C)) (Mut.add w.heap.size) (w.alloc o) h.length ao) :
    RelH (m.put h.length ao.ver (w.heap.size, C)) (Mut.add w.heap.size) (h ++ [ao]) (w.alloc o) ∧
    Ext m Mut w (m.put h.length ao.ver (w.heap.size, C)) (Mut.add w.heap.size) (w.alloc o) := by
  have hids : ∀ id n x, m id n = some x → m.put h.length ao.ver (w.heap.size, C) id n = some x := fun id n x hx => by
    rw [IdMap.put_other (.inl (Nat.ne_of_lt (H.dom id n x hx)))]; exact hx
  have E : Ext m Mut w (m.put h.length ao.ver (w.heap.size, C)) (Mut.add w.heap.size) (w.alloc o) :=
    ⟨rfl, rfl, rfl, by simp, fun b hb _ => Go.RowKit.Below.heap_alloc w o b hb, fun b hb hM hM' => hM'.elim hM (fun e => by omega), fun b hb hM hM' => hM'.elim hM (fun e => by omega), fun b _ hi _ => .inl hi, hids⟩
  have old : ∀ (id : Nat) (o' : AObj), (h ++ [ao])[id]? = some o' → (id < h.length ∧ h[id]? = some o') ∨ (id = h.length ∧ o' = ao) := by
    intro id o' hid
    rcases Nat.lt_trichotomy id h.length with hlt | heq | hgt
    · rw [List.getElem?_append_left hlt] at hid; exact .inl ⟨hlt, hid⟩
    · subst heq; rw [List.getElem?_append_right (Nat.le_refl _)] at hid; simp at hid; exact .inr ⟨rfl, hid.symm⟩
    · rw [List.getElem?_eq_none (by simp; omega)] at hid; cases hid
  refine ⟨⟨?_, ?_, ?_, ?_, ?_⟩, E⟩
  · intro id o' hid
    rcases old id o' hid with ⟨hlt, hid⟩ | ⟨rfl, rfl⟩
    · refine (H.obj id o' hid).mono E fun b C' hlive hm => ?_
      have hM := (H.obj id o' hid).wr hlive b C' hm
      exact ⟨Go.RowKit.Below.heap_alloc w o b (H.wr b hM), .inl hM⟩
    · exact ho
  · intro id id' o1 o2 b C1 C2 h1 h2 l1 l2 m1 m2
    have back : ∀ (id : Nat) (o1 : AObj) C1, h[id]? = some o1 → o1.live = true → id < h.length → m.put h.length ao.ver (w.heap.size, C) id o1.ver = some (b, C1) → m id o1.ver = some (b, C1) ∧ b < w.heap.size := by
      intro id o1 C1 h1 l1 hlt m1
      rw [IdMap.put_other (.inl (Nat.ne_of_lt hlt))] at m1
      exact ⟨m1, H.wr b ((H.obj id o1 h1).wr l1 b C1 m1)⟩
    rcases old id o1 h1 with ⟨hlt, g1⟩ | ⟨rfl, rfl⟩ <;> rcases old id' o2 h2 with ⟨hlt', g2⟩ | ⟨rfl, rfl⟩
    · exact H.inj id id' o1 o2 b C1 C2 g1 g2 l1 l2 (back id o1 C1 g1 l1 hlt m1).1 (back id' o2 C2 g2 l2 hlt' m2).1
    · have := (back id o1 C1 g1 l1 hlt m1).2
      rw [IdMap.put_same] at m2; cases m2; omega
    · have := (back id' o2 C2 g2 l2 hlt' m2).2
      rw [IdMap.put_same] at m1; cases m1; omega
    · rfl
  · intro id n x hx
    simp only [IdMap.put] at hx
    split at hx
    · rename_i e; obtain ⟨rfl, _⟩ := e; simp
    · have := H.dom id n x hx; simp; omega
  · intro b hb
    rcases hb with hb | rfl
    · have := H.lt b hb; simp; omega
    · simp
  · intro id o' n x hid hl hx
    rcases old id o' hid with ⟨hlt, g⟩ | ⟨rfl, rfl⟩
    · rw [IdMap.put_other (.inl (Nat.ne_of_lt hlt))] at hx
      exact H.top id o' n x g hl hx
    · simp only [IdMap.put] at hx
      split at hx
      · rename_i e; exact Nat.le_of_eq e.2
      · exact absurd (H.dom _ _ _ hx) (Nat.lt_irrefl _)

/-! ### An object that is written -/
theorem RelH.write {m : IdMap} {Mut : Mu} {h : AHeap} {w w' : World} (H : RelH m Mut h w) {id b : Nat} {C : Nat × Nat} {o o' : AObj}
    (hid : h[id]? = some o) (hlo : o.live = true) (hlive : o'.live = true) (hver : o'.ver = o.ver) (hm : m id o.ver = some (b, C))
    (hos : w'.os = w.os) (htape : w'.tape = w.tape) (hout : w'.output = w.output) (hsize : w'.heap.size = w.heap.size)
    (hbl : ∀ b', b' ≠ b → w'.heap[b']? = w.heap[b']?)
    (ho : Ext m Mut w m Mut w' → RelO m Mut w' id o') :
    RelH m Mut (h.set id o') w' ∧ Ext m Mut w m Mut w' := by
  have hMb : Mut.wr b := (H.obj id o hid).wr hlo b C hm
  have E : Ext m Mut w m Mut w' := ⟨hos, htape, hout, by omega, fun b' _ hM => hbl b' (fun e => hM (e ▸ hMb)), fun _ _ h => h, fun _ _ h => h, fun _ _ h _ => h, fun _ _ _ h => h⟩
  have hlt : id < h.length := H.dom _ _ _ hm
  have old : ∀ (i : Nat) (x : AObj), (h.set id o')[i]? = some x → (i ≠ id ∧ h[i]? = some x) ∨ (i = id ∧ x = o') := by
    intro i x hx
    by_cases e : i = id
    · subst e; rw [List.getElem?_set_self hlt] at hx; cases hx; exact .inr ⟨rfl, rfl⟩
    · rw [List.getElem?_set_ne (Ne.symm e)] at hx; exact .inl ⟨e, hx⟩
  refine ⟨⟨?_, ?_, ?_, ?_, ?_⟩, E⟩
  · intro i x hx
    rcases old i x hx with ⟨hne, hx⟩ | ⟨rfl, rfl⟩
    · refine (H.obj i x hx).mono E fun b' C' hl hmi => ⟨hbl b' fun e => hne ?_, (H.obj i x hx).wr hl b' C' hmi⟩
      subst e
      exact H.inj i id x o b' C' C hx hid hl hlo hmi hm
    · exact ho E
  · intro i i' x x' b' C1 C2 h1 h2 l1 l2 m1 m2
    rcases old i x h1 with ⟨hne, g1⟩ | ⟨rfl, rfl⟩ <;> rcases old i' x' h2 with ⟨hne', g2⟩ | ⟨rfl, rfl⟩
    · exact H.inj i i' x x' b' C1 C2 g1 g2 l1 l2 m1 m2
    · exact H.inj i _ x o b' C1 C2 g1 hid l1 hlo m1 (hver ▸ m2)
    · exact H.inj _ i' o x' b' C1 C2 hid g2 hlo l2 (hver ▸ m1) m2
    · rfl
  · intro i n x hx; rw [List.length_set]; exact H.dom i n x hx
  · intro b' hb; rw [hsize]; exact H.lt b' hb
  · intro i x n y hi hl hy
    rcases old i x hi with ⟨hne, g⟩ | ⟨rfl, rfl⟩
    · exact H.top i x n y g hl hy
    · rw [hver]; exact H.top _ _ n y hid (AObj.act_of_live hlo) hy

/-- An object that is written and gets a new version, in its block or in a new one. -/
theorem RelH.move {m : IdMap} {Mut : Mu} {h : AHeap} {w w' : World} (H : RelH m Mut h w) {id b b' : Nat} {C C' : Nat × Nat} {o o' : AObj}
    (hid : h[id]? = some o) (hlo : o.live = true) (hlive : o'.live = true) (hver : o.ver ≤ o'.ver) (hm : m id o.ver = some (b, C))
    (hnew : m id o'.ver = none ∨ m id o'.ver = some (b', C')) (hb' : b' = b ∨ b' = w.heap.size)
    (hos : w'.os = w.os) (htape : w'.tape = w.tape) (hout : w'.output = w.output) (hsize : w.heap.size ≤ w'.heap.size) (hbs : b' < w'.heap.size)
    (hbl : ∀ k, k ≠ b → k < w.heap.size → w'.heap[k]? = w.heap[k]?)
    (ho : Ext m Mut w (m.put id o'.ver (b', C')) (Mut.add b') w' → RelO (m.put id o'.ver (b', C')) (Mut.add b') w' id o') :
    RelH (m.put id o'.ver (b', C')) (Mut.add b') (h.set id o') w' ∧ Ext m Mut w (m.put id o'.ver (b', C')) (Mut.add b') w' := by
  have hMb : Mut.wr b := (H.obj id o hid).wr hlo b C hm
  have hids : ∀ i n x, m i n = some x → m.put id o'.ver (b', C') i n = some x := fun i n x hx => by
    by_cases e : i = id ∧ n = o'.ver
    · obtain ⟨rfl, rfl⟩ := e
      rcases hnew with q | q
      · rw [q] at hx; cases hx
      · rw [q] at hx; cases hx; exact IdMap.put_same _ _ _ _
    · rw [IdMap.put_other (by by_cases e1 : i = id <;> simp_all)]; exact hx
  have E : Ext m Mut w (m.put id o'.ver (b', C')) (Mut.add b') w' :=
    ⟨hos, htape, hout, hsize, fun k hk hM => hbl k (fun e => hM (e ▸ hMb)) hk,
      fun k hk hM hM' => hM'.elim hM (fun e => by
        rcases hb' with q | q
        · apply hM; rw [e, q]; exact Mut.le b hMb
        · omega), fun k hk hM hM' => hM'.elim hM (fun e => by
        rcases hb' with q | q
        · apply hM; rw [e, q]; exact hMb
        · omega), fun k _ hi _ => .inl hi, hids⟩
  have hlt : id < h.length := H.dom _ _ _ hm
  have old : ∀ (i : Nat) (x : AObj), (h.set id o')[i]? = some x → (i ≠ id ∧ h[i]? = some x) ∨ (i = id ∧ x = o') := by
    intro i x hx
    by_cases e : i = id
    · subst e; rw [List.getElem?_set_self hlt] at hx; cases hx; exact .inr ⟨rfl, rfl⟩
    · rw [List.getElem?_set_ne (Ne.symm e)] at hx; exact .inl ⟨e, hx⟩
  have back : ∀ (i : Nat) (x : AObj) k C1, i ≠ id → h[i]? = some x → x.live = true → m.put id o'.ver (b', C') i x.ver = some (k, C1) → m i x.ver = some (k, C1) ∧ k < w.heap.size ∧ k ≠ b := by
    intro i x k C1 hne hi hl hk
    rw [IdMap.put_other (.inl hne)] at hk
    exact ⟨hk, H.wr k ((H.obj i x hi).wr hl k C1 hk), fun e => hne (H.inj i id x o k C1 C hi hid hl hlo hk (e ▸ hm))⟩
  refine ⟨⟨?_, ?_, ?_, ?_, ?_⟩, E⟩
  · intro i x hx
    rcases old i x hx with ⟨hne, hx⟩ | ⟨rfl, rfl⟩
    · refine (H.obj i x hx).mono E fun k C1 hl hmi => ?_
      have hM := (H.obj i x hx).wr hl k C1 hmi
      exact ⟨hbl k (fun e => hne (H.inj i id x o k C1 C hx hid hl hlo hmi (e ▸ hm))) (H.wr k hM), .inl hM⟩
    · exact ho E
  · intro i i' x x' k C1 C2 h1 h2 l1 l2 m1 m2
    rcases old i x h1 with ⟨hne, g1⟩ | ⟨rfl, rfl⟩ <;> rcases old i' x' h2 with ⟨hne', g2⟩ | ⟨rfl, rfl⟩
    · exact H.inj i i' x x' k C1 C2 g1 g2 l1 l2 (back i x k C1 hne g1 l1 m1).1 (back i' x' k C2 hne' g2 l2 m2).1
    · have q := back i x k C1 hne g1 l1 m1
      rw [IdMap.put_same] at m2; cases m2
      rcases hb' with e | e
      · exact absurd e q.2.2
      · omega
    · have q := back i' x' k C2 hne' g2 l2 m2
      rw [IdMap.put_same] at m1; cases m1
      rcases hb' with e | e
      · exact absurd e q.2.2
      · omega
    · rfl
  · intro i n x hx
    rw [List.length_set]
    by_cases e : i = id
    · rw [e]; exact hlt
    · rw [IdMap.put_other (.inl e)] at hx; exact H.dom i n x hx
  · intro k hk
    rcases hk with hk | rfl
    · exact Nat.lt_of_lt_of_le (H.lt k hk) hsize
    · exact hbs
  · intro i x n y hi hl hy
    rcases old i x hi with ⟨hne, g⟩ | ⟨rfl, rfl⟩
    · rw [IdMap.put_other (.inl hne)] at hy
      exact H.top i x n y g hl hy
    · by_cases e : n = AObj.ver x
      · omega
      · rw [IdMap.put_other (.inr e)] at hy
        have := H.top _ _ n y hid (AObj.act_of_live hlo) hy
        omega

/-- A row without a block gets one, which is new. -/
theorem RelH.fill {m : IdMap} {Mut : Mu} {h : AHeap} {w w0 : World} (H : RelH m Mut h w) {id : Nat} {C : Nat × Nat} {o o' : AObj} (ob : Obj)
    (hid : h[id]? = some o) (hact : o.act = true) (hlive : o'.live = true) (hver : o.ver < o'.ver)
    (hw0 : w0.heap = w.heap ∧ w0.os = w.os ∧ w0.tape = w.tape ∧ w0.output = w.output)
    (ho : Ext m Mut w (m.put id o'.ver (w.heap.size, C)) (Mut.add w.heap.size) (w0.alloc ob) → RelO (m.put id o'.ver (w.heap.size, C)) (Mut.add w.heap.size) (w0.alloc ob) id o') :
    RelH (m.put id o'.ver (w.heap.size, C)) (Mut.add w.heap.size) (h.set id o') (w0.alloc ob) ∧ Ext m Mut w (m.put id o'.ver (w.heap.size, C)) (Mut.add w.heap.size) (w0.alloc ob) := by
  obtain ⟨e1, e2, e3, e4⟩ := hw0
  have hz : (w0.alloc ob).heap.size = w.heap.size + 1 := by simp [e1]
  have hbl : ∀ b, b < w.heap.size → (w0.alloc ob).heap[b]? = w.heap[b]? := fun b hb => by
    rw [Go.RowKit.Below.heap_alloc w0 ob b (by rw [e1]; exact hb), e1]
  have hlt : id < h.length := (List.getElem?_eq_some_iff.1 hid).1
  have hnone : m id o'.ver = none := by
    cases hq : m id o'.ver with
    | none => rfl
    | some x => have := H.top id o _ x hid hact hq; omega
  have hids : ∀ i n x, m i n = some x → m.put id o'.ver (w.heap.size, C) i n = some x := fun i n x hx => by
    by_cases e : i = id ∧ n = o'.ver
    · obtain ⟨rfl, rfl⟩ := e; rw [hnone] at hx; cases hx
    · rw [IdMap.put_other (by by_cases q : i = id <;> simp_all)]; exact hx
  have E : Ext m Mut w (m.put id o'.ver (w.heap.size, C)) (Mut.add w.heap.size) (w0.alloc ob) :=
    ⟨e2, e3, e4, by omega, fun b hb _ => hbl b hb, fun b hb hM hM' => hM'.elim hM (fun e => by omega), fun b hb hM hM' => hM'.elim hM (fun e => by omega), fun b _ hi _ => .inl hi, hids⟩
  have old : ∀ (i : Nat) (x : AObj), (h.set id o')[i]? = some x → (i ≠ id ∧ h[i]? = some x) ∨ (i = id ∧ x = o') := by
    intro i x hx
    by_cases e : i = id
    · subst e; rw [List.getElem?_set_self hlt] at hx; cases hx; exact .inr ⟨rfl, rfl⟩
    · rw [List.getElem?_set_ne (Ne.symm e)] at hx; exact .inl ⟨e, hx⟩
  have back : ∀ (i : Nat) (x : AObj) k C1, i ≠ id → h[i]? = some x → x.live = true → m.put id o'.ver (w.heap.size, C) i x.ver = some (k, C1) → m i x.ver = some (k, C1) ∧ k < w.heap.size := by
    intro i x k C1 hne hi hl hk
    rw [IdMap.put_other (.inl hne)] at hk
    exact ⟨hk, H.wr k ((H.obj i x hi).wr hl k C1 hk)⟩
  refine ⟨⟨?_, ?_, ?_, ?_, ?_⟩, E⟩
  · intro i x hx
    rcases old i x hx with ⟨hne, hx⟩ | ⟨rfl, rfl⟩
    · refine (H.obj i x hx).mono E fun k C1 hl hmi => ?_
      have hM := (H.obj i x hx).wr hl k C1 hmi
      exact ⟨hbl k (H.wr k hM), .inl hM⟩
    · exact ho E
  · intro i i' x x' k C1 C2 h1 h2 l1 l2 m1 m2
    rcases old i x h1 with ⟨hne, g1⟩ | ⟨rfl, rfl⟩ <;> rcases old i' x' h2 with ⟨hne', g2⟩ | ⟨rfl, rfl⟩
    · exact H.inj i i' x x' k C1 C2 g1 g2 l1 l2 (back i x k C1 hne g1 l1 m1).1 (back i' x' k C2 hne' g2 l2 m2).1
    · have q := (back i x k C1 hne g1 l1 m1).2
      rw [IdMap.put_same] at m2; cases m2; omega
    · have q := (back i' x' k C2 hne' g2 l2 m2).2
      rw [IdMap.put_same] at m1; cases m1; omega
    · rfl
  · intro i n x hx
    rw [List.length_set]
    by_cases e : i = id
    · rw [e]; exact hlt
    · rw [IdMap.put_other (.inl e)] at hx; exact H.dom i n x hx
  · intro k hk
    rcases hk with hk | rfl
    · have := H.lt k hk; omega
    · omega
  · intro i x n y hi hl hy
    rcases old i x hi with ⟨hne, g⟩ | ⟨rfl, rfl⟩
    · rw [IdMap.put_other (.inl hne)] at hy
      exact H.top i x n y g hl hy
    · by_cases e : n = AObj.ver x
      · omega
      · rw [IdMap.put_other (.inr e)] at hy
        have := H.top _ _ n y hid hact hy
        omega

/-- A row that has no block yet. -/
theorem RelH.virt {m : IdMap} {Mut : Mu} {h : AHeap} {w : World} (H : RelH m Mut h w) (sz : Nat) (c : Col) (hc : c.len = 0) :
    RelH (m.put h.length 0 (0, 0, 0)) Mut (h ++ [.row sz 0 c]) w ∧ Ext m Mut w (m.put h.length 0 (0, 0, 0)) Mut w := by
  have hids : ∀ id n x, m id n = some x → m.put h.length 0 (0, 0, 0) id n = some x := fun id n x hx => by
    rw [IdMap.put_other (.inl (Nat.ne_of_lt (H.dom id n x hx)))]; exact hx
  have E : Ext m Mut w (m.put h.length 0 (0, 0, 0)) Mut w := ⟨rfl, rfl, rfl, Nat.le_refl _, fun _ _ _ => rfl, fun _ _ h => h, fun _ _ h => h, fun _ _ h _ => h, hids⟩
  have old : ∀ (id : Nat) (o' : AObj), (h ++ [.row sz 0 c])[id]? = some o' → (id < h.length ∧ h[id]? = some o') ∨ (id = h.length ∧ o' = .row sz 0 c) := by
    intro id o' hid
    rcases Nat.lt_trichotomy id h.length with hlt | heq | hgt
    · rw [List.getElem?_append_left hlt] at hid; exact .inl ⟨hlt, hid⟩
    · subst heq; rw [List.getElem?_append_right (Nat.le_refl _)] at hid; simp at hid; exact .inr ⟨rfl, hid.symm⟩
    · rw [List.getElem?_eq_none (by simp; omega)] at hid; cases hid
  refine ⟨⟨?_, ?_, ?_, H.lt, ?_⟩, E⟩
  · intro id o' hid
    rcases old id o' hid with ⟨hlt, hid⟩ | ⟨rfl, rfl⟩
    · exact (H.obj id o' hid).mono E fun b C' hlive hm => ⟨rfl, (H.obj id o' hid).wr hlive b C' hm⟩
    · exact .inl ⟨rfl, hc, (0, 0), IdMap.put_same _ _ _ _⟩
  · intro id id' o1 o2 b C1 C2 h1 h2 l1 l2 m1 m2
    rcases old id o1 h1 with ⟨hlt, g1⟩ | ⟨rfl, rfl⟩
    · rcases old id' o2 h2 with ⟨hlt', g2⟩ | ⟨rfl, rfl⟩
      · rw [IdMap.put_other (.inl (Nat.ne_of_lt hlt))] at m1
        rw [IdMap.put_other (.inl (Nat.ne_of_lt hlt'))] at m2
        exact H.inj id id' o1 o2 b C1 C2 g1 g2 l1 l2 m1 m2
      · cases l2
    · cases l1
  · intro id n x hx
    simp only [IdMap.put] at hx
    split at hx
    · rename_i e; obtain ⟨rfl, _⟩ := e; simp
    · have := H.dom id n x hx; simp; omega
  · intro id o' n x hid hl hx
    rcases old id o' hid with ⟨hlt, g⟩ | ⟨rfl, rfl⟩
    · rw [IdMap.put_other (.inl (Nat.ne_of_lt hlt))] at hx
      exact H.top id o' n x g hl hx
    · simp only [IdMap.put] at hx
      split at hx
      · rename_i e; exact Nat.le_of_eq e.2
      · exact absurd (H.dom _ _ _ hx) (Nat.lt_irrefl _)

end Go.Proofs.Ytjdakdjgkpfjkaa
