/- Own framework for walks through the program, part 1. Conditions: none. -/
import Derived.Calls
import Derived.Below
import Derived.Orders
import Derived.Laws.AppendOwn
import Derived.Laws.Cells
import Derived.Laws.NewBlocks
import Derived.Laws.Small
import Derived.WalkLawsBesides
import Derived.ChangeKeysEq
import Derived.Laws.StructEq
import Derived.Laws.BytesString
import Derived.Laws.Slices
import Derived.Laws.MakeOwn
import Derived.Laws.OwnMore

namespace Go.Proofs.Ytjdbmmilcihpoaa
set_option linter.unusedVariables false
set_option linter.unusedSimpArgs false
/-- An abstract value: what a value of the model reads aas. `sl`, `pp`: memory that nobody writes any more; `nils`, `sne`: an empty slice that is nil, and one that is not. `ptr`, `ms`, `mp`: an object of the abstract heap. -/
inductive AV where
 | any
 | undef
 | int (k : IntKind) (n : Int)
 | bool (b : Bool)
 | str (s : ByteArray)
 | agg (cs : List AV)
 | tup (vs : List AV)
 | sl (sz n : Nat) (f : Nat → AV)
 | snil
 | nils
 | sne
 | pp (cs : List AV)
 | ptr (id n sz i off : Nat)
 | ms (id n sz off len : Nat)
 | mp (id : Nat)
 | fn (g : FuncId) (cap : List AV)
 | nilp
 | nilf
 | nilm
instance : Inhabited AV := ⟨.any⟩
def AV.cells : AV → List AV
 | .agg cs => cs
 | v => [v]
/-- Where the abstract objects lie: of each object and version the block, the cell of its element 0, and for how many elements there is room. -/
abbrev IdMap := Nat → Nat → Option (Nat × Nat × Nat)
/-- Blocks that no plain data lies in (im), and those of them that may be written here (wr). -/
structure Mu where
 im : Nat → Prop
 wr : Nat → Prop
 le : ∀ b, wr b → im b
def Mu.add (M : Mu) (x : Nat) : Mu := ⟨fun b => M.im b ∨ b = x, fun b => M.wr b ∨ b = x, fun b h => h.imp (M.le b) id⟩
/-- `RelV m Mut w a v`: the value v reads aas a in the world w; m: where the abstract objects lie; Mut: the blocks that may still be written. -/
inductive RelV (m : IdMap) (Mut : Mu) (w : World) : AV → Value → Prop
 | any (v : Value) : RelV m Mut w .any v
 | undef : RelV m Mut w .undef Go.undef
 | int (k : IntKind) (n : Int) : RelV m Mut w (.int k n) (.int k n)
 | bool (b : Bool) : RelV m Mut w (.bool b) (.bool b)
 | str (s : ByteArray) : RelV m Mut w (.str s) (.string s)
 | agg (cs : List AV) (vs : Array Value) (hl : cs.length = vs.size) (h : ∀ (i : Nat) (a : AV) (v : Value), cs[i]? = some a → vs[i]? = some v → RelV m Mut w a v) : RelV m Mut w (.agg cs) (.agg vs)
 | tup (cs : List AV) (vs : Array Value) (hl : cs.length = vs.size) (h : ∀ (i : Nat) (a : AV) (v : Value), cs[i]? = some a → vs[i]? = some v → RelV m Mut w a v) : RelV m Mut w (.tup cs) (.tuple vs)
 | sl (sz n : Nat) (f : Nat → AV) (b o cap : Nat) (val : Nat → Nat → Value) (hn : 0 < n) (hc : n ≤ cap) (hb : b < w.heap.size) (hm : ¬ Mut.im b)
  (hs : ∀ i, i < n → (f i).cells.length = sz)
  (hv : ∀ (i j : Nat), i < n → j < sz → w.cell? ⟨b, o + i * sz + j, none⟩ = some (val i j))
  (hr : ∀ (i j : Nat) (a : AV), i < n → (f i).cells[j]? = some a → RelV m Mut w a (val i j)) : RelV m Mut w (.sl sz n f) (.slice (some ⟨b, o, none⟩) n cap)
 | sl0 (sz : Nat) (f : Nat → AV) (a : Option Addr) (cap : Nat) : RelV m Mut w (.sl sz 0 f) (.slice a 0 cap)
 | snil (a : Option Addr) : RelV m Mut w .snil (.slice a 0 0)
 | nils (cap : Nat) : RelV m Mut w .nils (.slice none 0 cap)
 | sne (a : Addr) (cap : Nat) : RelV m Mut w .sne (.slice (some a) 0 cap)
 | pp (cs : List AV) (b o : Nat) (val : Nat → Value) (hb : b < w.heap.size) (hm : ¬ Mut.im b)
  (hv : ∀ j : Nat, j < cs.length → w.cell? ⟨b, o + j, none⟩ = some (val j))
  (hr : ∀ (j : Nat) (a : AV), cs[j]? = some a → RelV m Mut w a (val j)) : RelV m Mut w (.pp cs) (.pointer (some ⟨b, o, none⟩))
 | ptr (id n sz i off b o C : Nat) (h : m id n = some (b, o, C)) : RelV m Mut w (.ptr id n sz i off) (.pointer (some ⟨b, o + i * sz + off, none⟩))
 | ms (id n sz off len b o C : Nat) (h : m id n = some (b, o, C)) (hc : off + len ≤ C) : RelV m Mut w (.ms id n sz off len) (.slice (some ⟨b, o + off * sz, none⟩) len (C - off))
 | ms0 (id n sz off b o C : Nat) (a : Option Addr) (h : m id n = some (b, o, C)) : RelV m Mut w (.ms id n sz off 0) (.slice a 0 0)
 | mp (id b o C : Nat) (h : m id 0 = some (b, o, C)) : RelV m Mut w (.mp id) (.map (some b))
 | fn (g : FuncId) (cs : List AV) (vs : Array Value) (hl : cs.length = vs.size) (h : ∀ (i : Nat) (a : AV) (v : Value), cs[i]? = some a → vs[i]? = some v → RelV m Mut w a v) : RelV m Mut w (.fn g cs) (.func (.func g) #[] vs)
 | nilp : RelV m Mut w .nilp (.pointer none)
 | nilf : RelV m Mut w .nilf .nilFunc
 | nilm : RelV m Mut w .nilm (.map none)
/-- Lists of values. -/
def RelL (m : IdMap) (Mut : Mu) (w : World) (cs : List AV) (vs : Array Value) : Prop :=
 cs.length = vs.size ∧ ∀ (i : Nat) (a : AV) (v : Value), cs[i]? = some a → vs[i]? = some v → RelV m Mut w a v
theorem cell?_of_block' {w w' : World} {a : Addr} (h : w'.heap[a.block]? = w.heap[a.block]?) : w'.cell? a = w.cell? a := World.cell?_of_block h
theorem RelV.mono {m m' : IdMap} {Mut Mut' : Mu} {w w' : World}
 (hm : ∀ id n x, m id n = some x → m' id n = some x) (hs : w.heap.size ≤ w'.heap.size)
 (hM : ∀ b, b < w.heap.size → ¬ Mut.im b → ¬ Mut'.im b) (hb : ∀ b, b < w.heap.size → ¬ Mut.im b → w'.heap[b]? = w.heap[b]?)
 {a : AV} {v : Value} (h : RelV m Mut w a v) : RelV m' Mut' w' a v := by
 induction h with
 | any v => exact .any v
 | undef => exact .undef
 | int k n => exact .int k n
 | bool b => exact .bool b
 | str s => exact .str s
 | agg cs vs hl h ih => exact .agg cs vs hl ih
 | tup cs vs hl h ih => exact .tup cs vs hl ih
 | sl sz n f b o cap val hn hc hbs hmu hsz hv hr ih =>
  exact .sl sz n f b o cap val hn hc (Nat.lt_of_lt_of_le hbs hs) (hM b hbs hmu) hsz (fun i j hi hj => (cell?_of_block' (hb b hbs hmu)).trans (hv i j hi hj)) ih
 | sl0 sz f a cap => exact .sl0 sz f a cap
 | snil a => exact .snil a
 | nils cap => exact .nils cap
 | sne a cap => exact .sne a cap
 | pp cs b o val hbs hmu hv hr ih =>
  exact .pp cs b o val (Nat.lt_of_lt_of_le hbs hs) (hM b hbs hmu) (fun j hj => (cell?_of_block' (hb b hbs hmu)).trans (hv j hj)) ih
 | ptr id n sz i off b o C h => exact .ptr id n sz i off b o C (hm _ _ _ h)
 | ms id n sz off len b o C h hc => exact .ms id n sz off len b o C (hm _ _ _ h) hc
 | ms0 id n sz off b o C a h => exact .ms0 id n sz off b o C a (hm _ _ _ h)
 | mp id b o C h => exact .mp id b o C (hm _ _ _ h)
 | fn g cs vs hl h ih => exact .fn g cs vs hl ih
 | nilp => exact .nilp
 | nilf => exact .nilf
 | nilm => exact .nilm
theorem RelL.mono {m m' : IdMap} {Mut Mut' : Mu} {w w' : World}
 (hm : ∀ id n x, m id n = some x → m' id n = some x) (hs : w.heap.size ≤ w'.heap.size)
 (hM : ∀ b, b < w.heap.size → ¬ Mut.im b → ¬ Mut'.im b) (hb : ∀ b, b < w.heap.size → ¬ Mut.im b → w'.heap[b]? = w.heap[b]?)
 {cs : List AV} {vs : Array Value} (h : RelL m Mut w cs vs) : RelL m' Mut' w' cs vs :=
 ⟨h.1, fun i a v ha hv => (h.2 i a v ha hv).mono hm hs hM hb⟩
/-- The elements of a row: typed where they are of one cell. -/
inductive Col where
 | ints (k : IntKind) (xs : List Int)
 | bools (xs : List Bool)
 | strs (xs : List ByteArray)
 | recs (xs : List AV)   -- the last one first
 | gen (n : Nat) (f : Nat → AV)
def Col.len : Col → Nat
 | .ints _ xs => xs.length
 | .bools xs => xs.length
 | .strs xs => xs.length
 | .recs xs => xs.length
 | .gen n _ => n
def Col.get : Col → Nat → AV
 | .ints k xs => fun i => .int k (xs.getD i 0)
 | .bools xs => fun i => .bool (xs.getD i false)
 | .strs xs => fun i => .str (xs.getD i ByteArray.empty)
 | .recs xs => fun i => if i < xs.length then xs.getD (xs.length - 1 - i) .any else .any
 | .gen _ f => f
/-- What a map holds, in the order of its entries; of plain data alone. -/
inductive MCol where
 | sset (ks : List ByteArray)                         -- map[string]bool, all true
 | iset (k : IntKind) (ks : List Int)                 -- map[int]bool, all true
 | imap (k k' : IntKind) (es : List (Int × Int))      -- map[int]int
 | smap (k : IntKind) (es : List (ByteArray × Int))   -- map[string]int
def MCol.pairs : MCol → List (Value × Value)
 | .sset ks => ks.map fun s => (.string s, .bool true)
 | .iset k ks => ks.map fun x => (.int k x, .bool true)
 | .imap k k' es => es.map fun e => (.int k e.1, .int k' e.2)
 | .smap k es => es.map fun e => (.string e.1, .int k e.2)
def MCol.len : MCol → Nat
 | .sset ks => ks.length
 | .iset _ ks => ks.length
 | .imap _ _ es => es.length
 | .smap _ es => es.length
theorem MCol.pairs_len (c : MCol) : c.pairs.length = c.len := by cases c <;> exact List.length_map _
def MRel (c : MCol) (es : Array MapEntry) : Prop := es.toList.map (fun e => (e.key, e.val)) = c.pairs
/-- An object of the abstract heap. -/
inductive AObj where
 | var (v : AV)
 | row (sz n : Nat) (c : Col)
 | frow (sz n len : Nat) (f : Nat → AV)
 | map (c : MCol)
 | iter (s : ByteArray) (pos : Nat)
 | dead
abbrev AHeap := List AObj
instance : Inhabited AObj := ⟨.dead⟩
def AObj.ver : AObj → Nat
 | .var _ => 1
 | .row _ n _ => n
 | .frow _ n _ _ => n
 | .map _ => 0
 | .iter _ _ => 0
 | .dead => 0
/-- An object with a block of its own (a row of version 0 is one that has none yet). -/
def AObj.live : AObj → Bool
 | .var _ | .map _ | .iter _ _ => true
 | .row _ n _ => decide (0 < n)
 | _ => false
def AObj.act : AObj → Bool
 | .var _ | .row _ _ _ | .map _ | .iter _ _ => true
 | _ => false
theorem AObj.act_of_live {o : AObj} (h : o.live = true) : o.act = true := by cases o <;> first | rfl | cases h
/-- A row that lies in memory. -/
def RowIn (m : IdMap) (Mut : Mu) (w : World) (id sz n : Nat) (col : Col) : Prop :=
 ∃ b o C c t, m id n = some (b, o, C) ∧ Mut.wr b ∧ w.heap[b]? = some (.cells c t (0, 0)) ∧ c.size = o + C * sz ∧ col.len ≤ C ∧
  (∀ i, i < col.len → (col.get i).cells.length = sz) ∧
  ∀ (i j : Nat) (a : AV), i < col.len → (col.get i).cells[j]? = some a → ∃ v, c[o + i * sz + j]? = some v ∧ RelV m Mut w a v
def FrowIn (m : IdMap) (Mut : Mu) (w : World) (id sz n len : Nat) (f : Nat → AV) : Prop :=
 ∃ b o C c t, m id n = some (b, o, C) ∧ b < w.heap.size ∧ ¬ Mut.im b ∧ w.heap[b]? = some (.cells c t (0, 0)) ∧ len ≤ C ∧
  (∀ i, i < len → (f i).cells.length = sz) ∧
  ∀ (i j : Nat) (a : AV), i < len → (f i).cells[j]? = some a → ∃ v, c[o + i * sz + j]? = some v ∧ RelV m Mut w a v
def RelO (m : IdMap) (Mut : Mu) (w : World) (id : Nat) : AObj → Prop
 | .var v => ∃ b c t, m id 1 = some (b, 0, 1) ∧ Mut.wr b ∧ w.heap[b]? = some (.cells c t (0, 0)) ∧ RelL m Mut w v.cells c
 | .row sz n col => (n = 0 ∧ col.len = 0 ∧ ∃ x : Nat × Nat, m id 0 = some (x.1, x.2, 0)) ∨ (0 < n ∧ RowIn m Mut w id sz n col)
 | .frow sz n len f => (len = 0 ∧ ∃ x, m id n = some x) ∨ FrowIn m Mut w id sz n len f
 | .map c => ∃ b ents clock, m id 0 = some (b, 0, 0) ∧ Mut.wr b ∧ w.heap[b]? = some (.map ents clock) ∧ MRel c ents
 | .iter s pos => ∃ b, m id 0 = some (b, 0, 0) ∧ Mut.wr b ∧ w.heap[b]? = some (.stringIter s pos)
 | .dead => True
theorem RelO.rowIn {m : IdMap} {Mut : Mu} {w : World} {id sz n : Nat} {col : Col} (h : RelO m Mut w id (.row sz n col)) {i : Nat} (hi : i < col.len) : RowIn m Mut w id sz n col := by
 rcases h with ⟨_, h, _⟩ | ⟨_, h⟩
 · omega
 · exact h
theorem RelO.frowIn {m : IdMap} {Mut : Mu} {w : World} {id sz n len : Nat} {f : Nat → AV} (h : RelO m Mut w id (.frow sz n len f)) {i : Nat} (hi : i < len) : FrowIn m Mut w id sz n len f := by
 rcases h with ⟨h, _⟩ | h
 · omega
 · exact h
structure RelH (m : IdMap) (Mut : Mu) (h : AHeap) (w : World) : Prop where
 obj : ∀ (id : Nat) (o : AObj), h[id]? = some o → RelO m Mut w id o
 inj : ∀ (id id' : Nat) (o o' : AObj) (b : Nat) (C C' : Nat × Nat), h[id]? = some o → h[id']? = some o' → o.live = true → o'.live = true →
  m id o.ver = some (b, C) → m id' o'.ver = some (b, C') → id = id'
 dom : ∀ (id n : Nat) x, m id n = some x → id < h.length
 lt : ∀ b, Mut.im b → b < w.heap.size
 top : ∀ (id : Nat) (o : AObj) (n : Nat) x, h[id]? = some o → o.act = true → m id n = some x → n ≤ o.ver
theorem RelH.wr {m : IdMap} {Mut : Mu} {h : AHeap} {w : World} (H : RelH m Mut h w) : ∀ b, Mut.wr b → b < w.heap.size := fun b hb => H.lt b (Mut.le b hb)
/-- What an execution leaves aas it was. -/
structure Ext (m : IdMap) (Mut : Mu) (w : World) (m' : IdMap) (Mut' : Mu) (w' : World) : Prop where
 os : w'.os = w.os
 tape : w'.tape = w.tape
 output : w'.output = w.output
 drawn : w.drawn ≤ w'.drawn
 size : w.heap.size ≤ w'.heap.size
 block : ∀ b, b < w.heap.size → ¬ Mut.wr b → w'.heap[b]? = w.heap[b]?
 nmut : ∀ b, b < w.heap.size → ¬ Mut.im b → ¬ Mut'.im b
 nwr : ∀ b, b < w.heap.size → ¬ Mut.wr b → ¬ Mut'.wr b
 keep : ∀ b, b < w.heap.size → Mut.im b → ¬ Mut.wr b → Mut'.im b
 ids : ∀ id n x, m id n = some x → m' id n = some x
theorem Ext.refl (m : IdMap) (Mut : Mu) (w : World) : Ext m Mut w m Mut w :=
 ⟨rfl, rfl, rfl, Nat.le_refl _, Nat.le_refl _, fun _ _ _ => rfl, fun _ _ h => h, fun _ _ h => h, fun _ _ h _ => h, fun _ _ _ h => h⟩
theorem Ext.trans {m m' m'' : IdMap} {Mut Mut' Mut'' : Mu} {w w' w'' : World} (h : Ext m Mut w m' Mut' w') (k : Ext m' Mut' w' m'' Mut'' w'') : Ext m Mut w m'' Mut'' w'' :=
 ⟨k.os.trans h.os, k.tape.trans h.tape, k.output.trans h.output, Nat.le_trans h.drawn k.drawn, Nat.le_trans h.size k.size,
  fun b hb hm => (k.block b (Nat.lt_of_lt_of_le hb h.size) (h.nwr b hb hm)).trans (h.block b hb hm),
  fun b hb hm => k.nmut b (Nat.lt_of_lt_of_le hb h.size) (h.nmut b hb hm),
  fun b hb hm => k.nwr b (Nat.lt_of_lt_of_le hb h.size) (h.nwr b hb hm),
  fun b hb hi hm => k.keep b (Nat.lt_of_lt_of_le hb h.size) (h.keep b hb hi hm) (h.nwr b hb hm),
  fun id n x hx => k.ids _ _ _ (h.ids _ _ _ hx)⟩
theorem Ext.pure {m m' : IdMap} {Mut Mut' : Mu} {w w' : World} (e : Ext m Mut w m' Mut' w') : ∀ b, b < w.heap.size → ¬ Mut.im b → w'.heap[b]? = w.heap[b]? :=
 fun b hb hm => e.block b hb fun h => hm (Mut.le b h)
theorem Ext.relV {m m' : IdMap} {Mut Mut' : Mu} {w w' : World} (e : Ext m Mut w m' Mut' w') {a : AV} {v : Value} (h : RelV m Mut w a v) : RelV m' Mut' w' a v :=
 h.mono e.ids e.size e.nmut e.pure
theorem Ext.relL {m m' : IdMap} {Mut Mut' : Mu} {w w' : World} (e : Ext m Mut w m' Mut' w') {cs : List AV} {vs : Array Value} (h : RelL m Mut w cs vs) : RelL m' Mut' w' cs vs :=
 h.mono e.ids e.size e.nmut e.pure
/-- The same, and no block that lay has turned. -/
theorem RelO.mono {m m' : IdMap} {Mut Mut' : Mu} {w w' : World} {id : Nat} {o : AObj} (e : Ext m Mut w m' Mut' w')
 (hb : ∀ b C, o.live = true → m id o.ver = some (b, C) → w'.heap[b]? = w.heap[b]? ∧ Mut'.wr b)
 (h : RelO m Mut w id o) : RelO m' Mut' w' id o := by
 cases o with
 | var v =>
  obtain ⟨b, c, t, h1, h2, h3, h4⟩ := h
  have hh := hb b _ rfl h1
  exact ⟨b, c, t, e.ids _ _ _ h1, hh.2, hh.1.trans h3, e.relL h4⟩
 | row sz n col =>
  rcases h with ⟨hn, hl, x, hx⟩ | ⟨hn, b, o, C, c, t, h1, h2, h3, h4, h5, h6, h7⟩
  · exact .inl ⟨hn, hl, x, e.ids _ _ _ hx⟩
  have hh := hb b _ (decide_eq_true hn) h1
  exact .inr ⟨hn, b, o, C, c, t, e.ids _ _ _ h1, hh.2, hh.1.trans h3, h4, h5, h6, fun i j a hi ha => by
   obtain ⟨v, hv, hr⟩ := h7 i j a hi ha
   exact ⟨v, hv, e.relV hr⟩⟩
 | frow sz n len f =>
  rcases h with ⟨hl, x, hx⟩ | ⟨b, o, C, c, t, h1, h2, h3, h4, h5, h6, h7⟩
  · exact .inl ⟨hl, x, e.ids _ _ _ hx⟩
  exact .inr ⟨b, o, C, c, t, e.ids _ _ _ h1, Nat.lt_of_lt_of_le h2 e.size, e.nmut b h2 h3, (e.pure b h2 h3).trans h4, h5, h6, fun i j a hi ha => by
   obtain ⟨v, hv, hr⟩ := h7 i j a hi ha
   exact ⟨v, hv, e.relV hr⟩⟩
 | map col =>
  obtain ⟨b, ents, clock, h1, h2, h3, h4⟩ := h
  have hh := hb b _ rfl h1
  exact ⟨b, ents, clock, e.ids _ _ _ h1, hh.2, hh.1.trans h3, h4⟩
 | iter s pos =>
  obtain ⟨b, h1, h2, h3⟩ := h
  have hh := hb b _ rfl h1
  exact ⟨b, e.ids _ _ _ h1, hh.2, hh.1.trans h3⟩
 | dead => trivial
/-- A live object's block is one that may be written. -/
theorem RelO.wr {m : IdMap} {Mut : Mu} {w : World} {id : Nat} {o : AObj} (h : RelO m Mut w id o) (hl : o.live = true) : ∀ b C, m id o.ver = some (b, C) → Mut.wr b := by
 intro b C hb
 cases o with
 | var v => obtain ⟨b', c, t, h1, h2, _⟩ := h; simp only [AObj.ver] at hb; rw [h1] at hb; cases hb; exact h2
 | row sz n col =>
  rcases h with ⟨hn, _⟩ | ⟨_, b', o, C', c, t, h1, h2, _⟩
  · subst hn; cases hl
  · simp only [AObj.ver] at hb; rw [h1] at hb; cases hb; exact h2
 | frow sz n len f => cases hl
 | map col => obtain ⟨b', ents, clock, h1, h2, _⟩ := h; simp only [AObj.ver] at hb; rw [h1] at hb; cases hb; exact h2
 | iter s pos => obtain ⟨b', h1, h2, _⟩ := h; simp only [AObj.ver] at hb; rw [h1] at hb; cases hb; exact h2
 | dead => cases hl
/-- Nothing that lay has turned; what may be written may still be. -/
theorem RelH.still {m : IdMap} {Mut : Mu} {h : AHeap} {w w' : World} (H : RelH m Mut h w)
 (e : Ext m Mut w m Mut w') (hb : ∀ b, b < w.heap.size → w'.heap[b]? = w.heap[b]?) : RelH m Mut h w' where
 obj id o ho := (H.obj id o ho).mono e fun b C hl hm => by
  have hM := (H.obj id o ho).wr hl b C hm
  exact ⟨hb b (H.wr b hM), hM⟩
 inj := H.inj
 dom := H.dom
 lt b hM := Nat.lt_of_lt_of_le (H.lt b hM) e.size
 top := H.top
theorem Ext.alloc (m : IdMap) (Mut : Mu) (w : World) (o : Obj) : Ext m Mut w m Mut (w.alloc o) :=
 ⟨rfl, rfl, rfl, Nat.le_refl _, by simp, fun b hb _ => Go.RowKit.Below.heap_alloc w o b hb, fun _ _ h => h, fun _ _ h => h, fun _ _ h _ => h, fun _ _ _ h => h⟩
theorem Ext.drew (m : IdMap) (Mut : Mu) (w : World) (n : Nat) : Ext m Mut w m Mut { w with drawn := w.drawn + n } :=
 ⟨rfl, rfl, rfl, Nat.le_add_right _ _, Nat.le_refl _, fun _ _ _ => rfl, fun _ _ h => h, fun _ _ h => h, fun _ _ h _ => h, fun _ _ _ h => h⟩
theorem RelH.alloc {m : IdMap} {Mut : Mu} {h : AHeap} {w : World} (H : RelH m Mut h w) (o : Obj) : RelH m Mut h (w.alloc o) :=
 H.still (.alloc m Mut w o) fun b hb => Go.RowKit.Below.heap_alloc w o b hb
theorem RelH.drew {m : IdMap} {Mut : Mu} {h : AHeap} {w : World} (H : RelH m Mut h w) (n : Nat) : RelH m Mut h { w with drawn := w.drawn + n } :=
 H.still (.drew m Mut w n) fun _ _ => rfl
def IdMap.put (m : IdMap) (id n : Nat) (x : Nat × Nat × Nat) : IdMap := fun i k => if i = id ∧ k = n then some x else m i k
theorem IdMap.put_same (m : IdMap) (id n : Nat) (x : Nat × Nat × Nat) : m.put id n x id n = some x := by simp [IdMap.put]
theorem IdMap.put_other {m : IdMap} {id n : Nat} {x : Nat × Nat × Nat} {i k : Nat} (h : i ≠ id ∨ k ≠ n) : m.put id n x i k = m i k := by
 unfold IdMap.put
 rw [if_neg]
 rintro ⟨rfl, rfl⟩
 simp at h
/-- The world has one more block, which is a new object's. -/
theorem RelH.new {m : IdMap} {Mut : Mu} {h : AHeap} {w : World} (H : RelH m Mut h w) (o : Obj) (ao : AObj) (C : Nat × Nat) (hl : ao.live = true)
 (ho : RelO (m.put h.length ao.ver (w.heap.size, C)) (Mut.add w.heap.size) (w.alloc o) h.length ao) :
 RelH (m.put h.length ao.ver (w.heap.size, C)) (Mut.add w.heap.size) (h ++ [ao]) (w.alloc o) ∧
 Ext m Mut w (m.put h.length ao.ver (w.heap.size, C)) (Mut.add w.heap.size) (w.alloc o) := by
 have hids : ∀ id n x, m id n = some x → m.put h.length ao.ver (w.heap.size, C) id n = some x := fun id n x hx => by
  rw [IdMap.put_other (.inl (Nat.ne_of_lt (H.dom id n x hx)))]; exact hx
 have E : Ext m Mut w (m.put h.length ao.ver (w.heap.size, C)) (Mut.add w.heap.size) (w.alloc o) :=
  ⟨rfl, rfl, rfl, Nat.le_refl _, by simp, fun b hb _ => Go.RowKit.Below.heap_alloc w o b hb, fun b hb hM hM' => hM'.elim hM (fun e => by omega), fun b hb hM hM' => hM'.elim hM (fun e => by omega), fun b _ hi _ => .inl hi, hids⟩
 have old : ∀ (id : Nat) (o' : AObj), (h ++ [ao])[id]? = some o' → (id < h.length ∧ h[id]? = some o') ∨ (id = h.length ∧ o' = ao) := by
  intro id o' hid
  rcases Nat.lt_trichotomy id h.length with hlt | heq | hgt
  · rw [List.getElem?_append_left hlt] at hid; exact .inl ⟨hlt, hid⟩
  · subst heq; rw [List.getElem?_append_right (Nat.le_refl _)] at hid; simp at hid; exact .inr ⟨rfl, hid.symm⟩
  · rw [List.getElem?_eq_none (by simp; omega)] at hid; cases hid
 refine ⟨⟨?_, ?_, ?_, ?_, ?_⟩, E⟩
 · intro id o' hid
   rcases old id o' hid with ⟨hlt, hid⟩ | ⟨rfl, rfl⟩
   · refine (H.obj id o' hid).mono E fun b C' hlive hm => ?_
     have hM := (H.obj id o' hid).wr hlive b C' hm
     exact ⟨Go.RowKit.Below.heap_alloc w o b (H.wr b hM), .inl hM⟩
   · exact ho
 · intro id id' o1 o2 b C1 C2 h1 h2 l1 l2 m1 m2
   have back : ∀ (id : Nat) (o1 : AObj) C1, h[id]? = some o1 → o1.live = true → id < h.length → m.put h.length ao.ver (w.heap.size, C) id o1.ver = some (b, C1) → m id o1.ver = some (b, C1) ∧ b < w.heap.size := by
    intro id o1 C1 h1 l1 hlt m1
    rw [IdMap.put_other (.inl (Nat.ne_of_lt hlt))] at m1
    exact ⟨m1, H.wr b ((H.obj id o1 h1).wr l1 b C1 m1)⟩
   rcases old id o1 h1 with ⟨hlt, g1⟩ | ⟨rfl, rfl⟩ <;> rcases old id' o2 h2 with ⟨hlt', g2⟩ | ⟨rfl, rfl⟩
   · exact H.inj id id' o1 o2 b C1 C2 g1 g2 l1 l2 (back id o1 C1 g1 l1 hlt m1).1 (back id' o2 C2 g2 l2 hlt' m2).1
   · have := (back id o1 C1 g1 l1 hlt m1).2
     rw [IdMap.put_same] at m2; cases m2; omega
   · have := (back id' o2 C2 g2 l2 hlt' m2).2
     rw [IdMap.put_same] at m1; cases m1; omega
   · rfl
 · intro id n x hx
   simp only [IdMap.put] at hx
   split at hx
   · rename_i e; obtain ⟨rfl, _⟩ := e; simp
   · have := H.dom id n x hx; simp; omega
 · intro b hb
   rcases hb with hb | rfl
   · have := H.lt b hb; simp; omega
   · simp
 · intro id o' n x hid hl hx
   rcases old id o' hid with ⟨hlt, g⟩ | ⟨rfl, rfl⟩
   · rw [IdMap.put_other (.inl (Nat.ne_of_lt hlt))] at hx
     exact H.top id o' n x g hl hx
   · simp only [IdMap.put] at hx
     split at hx
     · rename_i e; exact Nat.le_of_eq e.2
     · exact absurd (H.dom _ _ _ hx) (Nat.lt_irrefl _)
theorem RelH.write {m : IdMap} {Mut : Mu} {h : AHeap} {w w' : World} (H : RelH m Mut h w) {id b : Nat} {C : Nat × Nat} {o o' : AObj}
 (hid : h[id]? = some o) (hlo : o.live = true) (hlive : o'.live = true) (hver : o'.ver = o.ver) (hm : m id o.ver = some (b, C))
 (hos : w'.os = w.os) (htape : w'.tape = w.tape) (hout : w'.output = w.output) (hdr : w.drawn ≤ w'.drawn) (hsize : w'.heap.size = w.heap.size)
 (hbl : ∀ b', b' ≠ b → w'.heap[b']? = w.heap[b']?)
 (ho : Ext m Mut w m Mut w' → RelO m Mut w' id o') :
 RelH m Mut (h.set id o') w' ∧ Ext m Mut w m Mut w' := by
 have hMb : Mut.wr b := (H.obj id o hid).wr hlo b C hm
 have E : Ext m Mut w m Mut w' := ⟨hos, htape, hout, hdr, by omega, fun b' _ hM => hbl b' (fun e => hM (e ▸ hMb)), fun _ _ h => h, fun _ _ h => h, fun _ _ h _ => h, fun _ _ _ h => h⟩
 have hlt : id < h.length := H.dom _ _ _ hm
 have old : ∀ (i : Nat) (x : AObj), (h.set id o')[i]? = some x → (i ≠ id ∧ h[i]? = some x) ∨ (i = id ∧ x = o') := by
  intro i x hx
  by_cases e : i = id
  · subst e; rw [List.getElem?_set_self hlt] at hx; cases hx; exact .inr ⟨rfl, rfl⟩
  · rw [List.getElem?_set_ne (Ne.symm e)] at hx; exact .inl ⟨e, hx⟩
 refine ⟨⟨?_, ?_, ?_, ?_, ?_⟩, E⟩
 · intro i x hx
   rcases old i x hx with ⟨hne, hx⟩ | ⟨rfl, rfl⟩
   · refine (H.obj i x hx).mono E fun b' C' hl hmi => ⟨hbl b' fun e => hne ?_, (H.obj i x hx).wr hl b' C' hmi⟩
     subst e
     exact H.inj i id x o b' C' C hx hid hl hlo hmi hm
   · exact ho E
 · intro i i' x x' b' C1 C2 h1 h2 l1 l2 m1 m2
   rcases old i x h1 with ⟨hne, g1⟩ | ⟨rfl, rfl⟩ <;> rcases old i' x' h2 with ⟨hne', g2⟩ | ⟨rfl, rfl⟩
   · exact H.inj i i' x x' b' C1 C2 g1 g2 l1 l2 m1 m2
   · exact H.inj i _ x o b' C1 C2 g1 hid l1 hlo m1 (hver ▸ m2)
   · exact H.inj _ i' o x' b' C1 C2 hid g2 hlo l2 (hver ▸ m1) m2
   · rfl
 · intro i n x hx; rw [List.length_set]; exact H.dom i n x hx
 · intro b' hb; rw [hsize]; exact H.lt b' hb
 · intro i x n y hi hl hy
   rcases old i x hi with ⟨hne, g⟩ | ⟨rfl, rfl⟩
   · exact H.top i x n y g hl hy
   · rw [hver]; exact H.top _ _ n y hid (AObj.act_of_live hlo) hy
/-- An object that is written and gets a new version, in its block or in a new one. -/
theorem RelH.move {m : IdMap} {Mut : Mu} {h : AHeap} {w w' : World} (H : RelH m Mut h w) {id b b' : Nat} {C C' : Nat × Nat} {o o' : AObj}
 (hid : h[id]? = some o) (hlo : o.live = true) (hlive : o'.live = true) (hver : o.ver ≤ o'.ver) (hm : m id o.ver = some (b, C))
 (hnew : m id o'.ver = none ∨ m id o'.ver = some (b', C')) (hb' : b' = b ∨ b' = w.heap.size)
 (hos : w'.os = w.os) (htape : w'.tape = w.tape) (hout : w'.output = w.output) (hdr : w.drawn ≤ w'.drawn) (hsize : w.heap.size ≤ w'.heap.size) (hbs : b' < w'.heap.size)
 (hbl : ∀ k, k ≠ b → k < w.heap.size → w'.heap[k]? = w.heap[k]?)
 (ho : Ext m Mut w (m.put id o'.ver (b', C')) (Mut.add b') w' → RelO (m.put id o'.ver (b', C')) (Mut.add b') w' id o') :
 RelH (m.put id o'.ver (b', C')) (Mut.add b') (h.set id o') w' ∧ Ext m Mut w (m.put id o'.ver (b', C')) (Mut.add b') w' := by
 have hMb : Mut.wr b := (H.obj id o hid).wr hlo b C hm
 have hids : ∀ i n x, m i n = some x → m.put id o'.ver (b', C') i n = some x := fun i n x hx => by
  by_cases e : i = id ∧ n = o'.ver
  · obtain ⟨rfl, rfl⟩ := e
    rcases hnew with q | q
    · rw [q] at hx; cases hx
    · rw [q] at hx; cases hx; exact IdMap.put_same _ _ _ _
  · rw [IdMap.put_other (by by_cases e1 : i = id <;> simp_all)]; exact hx
 have E : Ext m Mut w (m.put id o'.ver (b', C')) (Mut.add b') w' :=
  ⟨hos, htape, hout, hdr, hsize, fun k hk hM => hbl k (fun e => hM (e ▸ hMb)) hk,
   fun k hk hM hM' => hM'.elim hM (fun e => by
    rcases hb' with q | q
    · apply hM; rw [e, q]; exact Mut.le b hMb
    · omega), fun k hk hM hM' => hM'.elim hM (fun e => by
    rcases hb' with q | q
    · apply hM; rw [e, q]; exact hMb
    · omega), fun k _ hi _ => .inl hi, hids⟩
 have hlt : id < h.length := H.dom _ _ _ hm
 have old : ∀ (i : Nat) (x : AObj), (h.set id o')[i]? = some x → (i ≠ id ∧ h[i]? = some x) ∨ (i = id ∧ x = o') := by
  intro i x hx
  by_cases e : i = id
  · subst e; rw [List.getElem?_set_self hlt] at hx; cases hx; exact .inr ⟨rfl, rfl⟩
  · rw [List.getElem?_set_ne (Ne.symm e)] at hx; exact .inl ⟨e, hx⟩
 have back : ∀ (i : Nat) (x : AObj) k C1, i ≠ id → h[i]? = some x → x.live = true → m.put id o'.ver (b', C') i x.ver = some (k, C1) → m i x.ver = some (k, C1) ∧ k < w.heap.size ∧ k ≠ b := by
  intro i x k C1 hne hi hl hk
  rw [IdMap.put_other (.inl hne)] at hk
  exact ⟨hk, H.wr k ((H.obj i x hi).wr hl k C1 hk), fun e => hne (H.inj i id x o k C1 C hi hid hl hlo hk (e ▸ hm))⟩
 refine ⟨⟨?_, ?_, ?_, ?_, ?_⟩, E⟩
 · intro i x hx
   rcases old i x hx with ⟨hne, hx⟩ | ⟨rfl, rfl⟩
   · refine (H.obj i x hx).mono E fun k C1 hl hmi => ?_
     have hM := (H.obj i x hx).wr hl k C1 hmi
     exact ⟨hbl k (fun e => hne (H.inj i id x o k C1 C hx hid hl hlo hmi (e ▸ hm))) (H.wr k hM), .inl hM⟩
   · exact ho E
 · intro i i' x x' k C1 C2 h1 h2 l1 l2 m1 m2
   rcases old i x h1 with ⟨hne, g1⟩ | ⟨rfl, rfl⟩ <;> rcases old i' x' h2 with ⟨hne', g2⟩ | ⟨rfl, rfl⟩
   · exact H.inj i i' x x' k C1 C2 g1 g2 l1 l2 (back i x k C1 hne g1 l1 m1).1 (back i' x' k C2 hne' g2 l2 m2).1
   · have q := back i x k C1 hne g1 l1 m1
     rw [IdMap.put_same] at m2; cases m2
     rcases hb' with e | e
     · exact absurd e q.2.2
     · omega
   · have q := back i' x' k C2 hne' g2 l2 m2
     rw [IdMap.put_same] at m1; cases m1
     rcases hb' with e | e
     · exact absurd e q.2.2
     · omega
   · rfl
 · intro i n x hx
   rw [List.length_set]
   by_cases e : i = id
   · rw [e]; exact hlt
   · rw [IdMap.put_other (.inl e)] at hx; exact H.dom i n x hx
 · intro k hk
   rcases hk with hk | rfl
   · exact Nat.lt_of_lt_of_le (H.lt k hk) hsize
   · exact hbs
 · intro i x n y hi hl hy
   rcases old i x hi with ⟨hne, g⟩ | ⟨rfl, rfl⟩
   · rw [IdMap.put_other (.inl hne)] at hy
     exact H.top i x n y g hl hy
   · by_cases e : n = AObj.ver x
     · omega
     · rw [IdMap.put_other (.inr e)] at hy
       have := H.top _ _ n y hid (AObj.act_of_live hlo) hy
       omega
/-- A row without a block gets one, which is new. -/
theorem RelH.fill {m : IdMap} {Mut : Mu} {h : AHeap} {w w0 : World} (H : RelH m Mut h w) {id : Nat} {C : Nat × Nat} {o o' : AObj} (ob : Obj)
 (hid : h[id]? = some o) (hact : o.act = true) (hlive : o'.live = true) (hver : o.ver < o'.ver)
 (hw0 : w0.heap = w.heap ∧ w0.os = w.os ∧ w0.tape = w.tape ∧ w0.output = w.output ∧ w.drawn ≤ w0.drawn)
 (ho : Ext m Mut w (m.put id o'.ver (w.heap.size, C)) (Mut.add w.heap.size) (w0.alloc ob) → RelO (m.put id o'.ver (w.heap.size, C)) (Mut.add w.heap.size) (w0.alloc ob) id o') :
 RelH (m.put id o'.ver (w.heap.size, C)) (Mut.add w.heap.size) (h.set id o') (w0.alloc ob) ∧ Ext m Mut w (m.put id o'.ver (w.heap.size, C)) (Mut.add w.heap.size) (w0.alloc ob) := by
 obtain ⟨e1, e2, e3, e4, e5⟩ := hw0
 have hz : (w0.alloc ob).heap.size = w.heap.size + 1 := by simp [e1]
 have hbl : ∀ b, b < w.heap.size → (w0.alloc ob).heap[b]? = w.heap[b]? := fun b hb => by
  rw [Go.RowKit.Below.heap_alloc w0 ob b (by rw [e1]; exact hb), e1]
 have hlt : id < h.length := (List.getElem?_eq_some_iff.1 hid).1
 have hnone : m id o'.ver = none := by
  cases hq : m id o'.ver with
  | none => rfl
  | some x => have := H.top id o _ x hid hact hq; omega
 have hids : ∀ i n x, m i n = some x → m.put id o'.ver (w.heap.size, C) i n = some x := fun i n x hx => by
  by_cases e : i = id ∧ n = o'.ver
  · obtain ⟨rfl, rfl⟩ := e; rw [hnone] at hx; cases hx
  · rw [IdMap.put_other (by by_cases q : i = id <;> simp_all)]; exact hx
 have E : Ext m Mut w (m.put id o'.ver (w.heap.size, C)) (Mut.add w.heap.size) (w0.alloc ob) :=
  ⟨e2, e3, e4, e5, by omega, fun b hb _ => hbl b hb, fun b hb hM hM' => hM'.elim hM (fun e => by omega), fun b hb hM hM' => hM'.elim hM (fun e => by omega), fun b _ hi _ => .inl hi, hids⟩
 have old : ∀ (i : Nat) (x : AObj), (h.set id o')[i]? = some x → (i ≠ id ∧ h[i]? = some x) ∨ (i = id ∧ x = o') := by
  intro i x hx
  by_cases e : i = id
  · subst e; rw [List.getElem?_set_self hlt] at hx; cases hx; exact .inr ⟨rfl, rfl⟩
  · rw [List.getElem?_set_ne (Ne.symm e)] at hx; exact .inl ⟨e, hx⟩
 have back : ∀ (i : Nat) (x : AObj) k C1, i ≠ id → h[i]? = some x → x.live = true → m.put id o'.ver (w.heap.size, C) i x.ver = some (k, C1) → m i x.ver = some (k, C1) ∧ k < w.heap.size := by
  intro i x k C1 hne hi hl hk
  rw [IdMap.put_other (.inl hne)] at hk
  exact ⟨hk, H.wr k ((H.obj i x hi).wr hl k C1 hk)⟩
 refine ⟨⟨?_, ?_, ?_, ?_, ?_⟩, E⟩
 · intro i x hx
   rcases old i x hx with ⟨hne, hx⟩ | ⟨rfl, rfl⟩
   · refine (H.obj i x hx).mono E fun k C1 hl hmi => ?_
     have hM := (H.obj i x hx).wr hl k C1 hmi
     exact ⟨hbl k (H.wr k hM), .inl hM⟩
   · exact ho E
 · intro i i' x x' k C1 C2 h1 h2 l1 l2 m1 m2
   rcases old i x h1 with ⟨hne, g1⟩ | ⟨rfl, rfl⟩ <;> rcases old i' x' h2 with ⟨hne', g2⟩ | ⟨rfl, rfl⟩
   · exact H.inj i i' x x' k C1 C2 g1 g2 l1 l2 (back i x k C1 hne g1 l1 m1).1 (back i' x' k C2 hne' g2 l2 m2).1
   · have q := (back i x k C1 hne g1 l1 m1).2
     rw [IdMap.put_same] at m2; cases m2; omega
   · have q := (back i' x' k C2 hne' g2 l2 m2).2
     rw [IdMap.put_same] at m1; cases m1; omega
   · rfl
 · intro i n x hx
   rw [List.length_set]
   by_cases e : i = id
   · rw [e]; exact hlt
   · rw [IdMap.put_other (.inl e)] at hx; exact H.dom i n x hx
 · intro k hk
   rcases hk with hk | rfl
   · have := H.lt k hk; omega
   · omega
 · intro i x n y hi hl hy
   rcases old i x hi with ⟨hne, g⟩ | ⟨rfl, rfl⟩
   · rw [IdMap.put_other (.inl hne)] at hy
     exact H.top i x n y g hl hy
   · by_cases e : n = AObj.ver x
     · omega
     · rw [IdMap.put_other (.inr e)] at hy
       have := H.top _ _ n y hid hact hy
       omega
/-- A row that has no block yet. -/
theorem RelH.virt {m : IdMap} {Mut : Mu} {h : AHeap} {w : World} (H : RelH m Mut h w) (sz : Nat) (c : Col) (hc : c.len = 0) :
 RelH (m.put h.length 0 (0, 0, 0)) Mut (h ++ [.row sz 0 c]) w ∧ Ext m Mut w (m.put h.length 0 (0, 0, 0)) Mut w := by
 have hids : ∀ id n x, m id n = some x → m.put h.length 0 (0, 0, 0) id n = some x := fun id n x hx => by
  rw [IdMap.put_other (.inl (Nat.ne_of_lt (H.dom id n x hx)))]; exact hx
 have E : Ext m Mut w (m.put h.length 0 (0, 0, 0)) Mut w := ⟨rfl, rfl, rfl, Nat.le_refl _, Nat.le_refl _, fun _ _ _ => rfl, fun _ _ h => h, fun _ _ h => h, fun _ _ h _ => h, hids⟩
 have old : ∀ (id : Nat) (o' : AObj), (h ++ [.row sz 0 c])[id]? = some o' → (id < h.length ∧ h[id]? = some o') ∨ (id = h.length ∧ o' = .row sz 0 c) := by
  intro id o' hid
  rcases Nat.lt_trichotomy id h.length with hlt | heq | hgt
  · rw [List.getElem?_append_left hlt] at hid; exact .inl ⟨hlt, hid⟩
  · subst heq; rw [List.getElem?_append_right (Nat.le_refl _)] at hid; simp at hid; exact .inr ⟨rfl, hid.symm⟩
  · rw [List.getElem?_eq_none (by simp; omega)] at hid; cases hid
 refine ⟨⟨?_, ?_, ?_, H.lt, ?_⟩, E⟩
 · intro id o' hid
   rcases old id o' hid with ⟨hlt, hid⟩ | ⟨rfl, rfl⟩
   · exact (H.obj id o' hid).mono E fun b C' hlive hm => ⟨rfl, (H.obj id o' hid).wr hlive b C' hm⟩
   · exact .inl ⟨rfl, hc, (0, 0), IdMap.put_same _ _ _ _⟩
 · intro id id' o1 o2 b C1 C2 h1 h2 l1 l2 m1 m2
   rcases old id o1 h1 with ⟨hlt, g1⟩ | ⟨rfl, rfl⟩
   · rcases old id' o2 h2 with ⟨hlt', g2⟩ | ⟨rfl, rfl⟩
     · rw [IdMap.put_other (.inl (Nat.ne_of_lt hlt))] at m1
       rw [IdMap.put_other (.inl (Nat.ne_of_lt hlt'))] at m2
       exact H.inj id id' o1 o2 b C1 C2 g1 g2 l1 l2 m1 m2
     · cases l2
   · cases l1
 · intro id n x hx
   simp only [IdMap.put] at hx
   split at hx
   · rename_i e; obtain ⟨rfl, _⟩ := e; simp
   · have := H.dom id n x hx; simp; omega
 · intro id o' n x hid hl hx
   rcases old id o' hid with ⟨hlt, g⟩ | ⟨rfl, rfl⟩
   · rw [IdMap.put_other (.inl (Nat.ne_of_lt hlt))] at hx
     exact H.top id o' n x g hl hx
   · simp only [IdMap.put] at hx
     split at hx
     · rename_i e; exact Nat.le_of_eq e.2
     · exact absurd (H.dom _ _ _ hx) (Nat.lt_irrefl _)
end Go.Proofs.Ytjdbmmilcihpoaa
namespace Go.Proofs.Ytjdbmmilcihpoaa
set_option linter.unusedVariables false
set_option linter.unusedSimpArgs false
/-- A constant's abstract value. -/
def ofVs (f : Value → AV) : List Value → List AV
 | [] => []
 | v :: vs => f v :: ofVs f vs
def ofV1 : Value → AV
 | .int k n => .int k n
 | .bool b => .bool b
 | .string s => .str s
 | .slice none 0 0 => .snil
 | .pointer none => .nilp
 | .nilFunc => .nilf
 | .map none => .nilm
 | _ => .any
def ofV : Value → AV
 | .agg cs => .agg (ofVs ofV1 cs.toList)
 | .tuple vs => if vs.toList.length = 0 then .undef else .any
 | v => ofV1 v
section
variable {m : IdMap} {Mut : Mu} {w : World}
theorem ofV1_rel (v : Value) : RelV m Mut w (ofV1 v) v := by
 unfold ofV1
 split <;> constructor
theorem ofVs_length (f : Value → AV) (vs : List Value) : (ofVs f vs).length = vs.length := by
 induction vs with
 | nil => rfl
 | cons v vs ih => simp [ofVs, ih]
theorem ofVs_get (f : Value → AV) (vs : List Value) : ∀ (i : Nat), (ofVs f vs)[i]? = (vs[i]?).map f := by
 induction vs with
 | nil => intro i; simp [ofVs]
 | cons v vs ih => intro i; cases i <;> simp [ofVs, ih]
theorem ofV_rel (v : Value) : RelV m Mut w (ofV v) v := by
 unfold ofV
 split
 · rename_i cs
   refine .agg _ _ (by simp [ofVs_length]) fun i a v ha hv => ?_
   rw [ofVs_get] at ha
   rw [Array.getElem?_toList, hv] at ha
   cases ha
   exact ofV1_rel v
 · rename_i vs
   split
   · rename_i h
     have : vs = #[] := Array.eq_empty_of_size_eq_zero (by simpa using h)
     subst this
     exact .undef
   · exact .any _
 · exact ofV1_rel _
end
/-- What must hold: nothing, or a condition. -/
structure DProp where
 p : Prop
 d : Decidable p
abbrev Cnd := Option DProp
def cnd (p : Prop) [d : Decidable p] : Cnd := some ⟨p, d⟩
def Cnd.ok : Cnd → Prop
 | none => True
 | some c => c.p
/-- Operands. -/
def aeval (T : List AV) : Operand → AV
 | .tmp t => T.getD t .any
 | .const v => ofV v
 | .global _ => .any
 | .func f => .fn f []
def isAggB (P : Program) (t : TypeId) : Bool :=
 match P.underlying t with
 | some (.struct _) | some (.array _ _) => true
 | _ => false
def szOf (P : Program) (t : TypeId) : Nat := match P.info? t with | some i => i.size | none => 0
def hasT (P : Program) (t : TypeId) : Bool := (P.info? t).isSome
def splice : List AV → Nat → List AV → List AV
 | cs, _, [] => cs
 | [], _, _ :: _ => []
 | _ :: cs, 0, v :: vs => v :: splice cs 0 vs
 | c :: cs, i + 1, v :: vs => c :: splice cs i (v :: vs)
/-- What a variable of type t holds that begins with these cells. -/
def takeT (P : Program) (t : TypeId) (cs : List AV) : Option AV :=
 if hasT P t then
  if isAggB P t then (if szOf P t ≤ cs.length then some (.agg (cs.take (szOf P t))) else none)
  else cs.head?
 else none
/-- The cells from a pointer on, and what must hold. -/
def cellsAt (h : AHeap) : AV → Option (Cnd × List AV)
 | .ptr id n sz i off =>
  match h[id]? with
  | some (.var v) => if n = 1 ∧ i = 0 then some (none, v.cells.drop off) else none
  | some (.row s k c) => some (cnd (n = k ∧ sz = s ∧ i < c.len), (c.get i).cells.drop off)
  | some (.frow s k len f) => some (cnd (n = k ∧ sz = s ∧ i < len), (f i).cells.drop off)
  | _ => none
 | .pp cs => some (none, cs)
 | _ => none
def structOf (P : Program) (t : TypeId) : Option (Array Field) :=
 match P.underlying t with
 | some (.struct fs) => some fs
 | _ => none
inductive Seq where
 | slice (e : TypeId)
 | array (n : Nat) (e : TypeId)
 | string
 | map (k e : TypeId)
 | other
def seqOf (P : Program) (t : TypeId) : Seq :=
 match P.underlying t with
 | some (.slice e) => .slice e
 | some (.array n e) => .array n e
 | some .string => .string
 | some (.map k e) => .map k e
 | _ => .other
/-- The address of a part. -/
def aplace (off : Nat) : AV → Option AV
 | .ptr id n sz i o => some (.ptr id n sz i (o + off))
 | .pp cs => some (.pp (cs.drop off))
 | _ => none
/-- A byte of a string. -/
def sbyte (s : ByteArray) (i : Nat) : Int := ((s.data.getD i 0).toNat : Int)
def abin (op : BinOp) : AV → AV → Option (Cnd × AV)
 | .int k a, .int k' b =>
  match op with
  | .shl => some (cnd (0 ≤ b), .int k (k.wrap (a * 2 ^ (min b.toNat k.bits))))
  | .shr => some (cnd (0 ≤ b), .int k (a.fdiv (2 ^ (min b.toNat k.bits))))
  | _ => if k = k' then
   match op with
   | .add => some (none, .int k (k.wrap (a + b)))
   | .sub => some (none, .int k (k.wrap (a - b)))
   | .mul => some (none, .int k (k.wrap (a * b)))
   | .quo => some (cnd (b ≠ 0), .int k (k.wrap (a.tdiv b)))
   | .rem => some (cnd (b ≠ 0), .int k (a.tmod b))
   | .and => some (none, .int k (k.wrap (BitVec.ofInt k.bits a &&& BitVec.ofInt k.bits b).toNat))
   | .or => some (none, .int k (k.wrap (BitVec.ofInt k.bits a ||| BitVec.ofInt k.bits b).toNat))
   | .xor => some (none, .int k (k.wrap (BitVec.ofInt k.bits a ^^^ BitVec.ofInt k.bits b).toNat))
   | .andNot => some (none, .int k (k.wrap (BitVec.ofInt k.bits a &&& ~~~BitVec.ofInt k.bits b).toNat))
   | .eql => some (none, .bool (a == b))
   | .neq => some (none, .bool (a != b))
   | .lss => some (none, .bool (decide (a < b)))
   | .leq => some (none, .bool (decide (a ≤ b)))
   | .gtr => some (none, .bool (decide (a > b)))
   | .geq => some (none, .bool (decide (a ≥ b)))
   | _ => none
  else none
 | .str a, .str b =>
  match op with
  | .add => some (cnd (((a.size + b.size : Nat) : Int) ≤ IntKind.i64.max), .str (a ++ b))
  | .eql => some (none, .bool (a.toList == b.toList))
  | .neq => some (none, .bool !(a.toList == b.toList))
  | .lss => some (none, .bool (Op.bytesLess a.toList b.toList))
  | .leq => some (none, .bool (Op.bytesLess a.toList b.toList || a.toList == b.toList))
  | .gtr => some (none, .bool !(Op.bytesLess a.toList b.toList || a.toList == b.toList))
  | .geq => some (none, .bool !(Op.bytesLess a.toList b.toList))
  | _ => none
 | _, _ => none
def aun (op : UnOp) : AV → Option AV
 | .bool b => match op with | .not => some (.bool !b) | _ => none
 | .int k n => match op with | .neg => some (.int k (k.wrap (0 - n))) | _ => none
 | _ => none
/-- A slice's bounds: low and high. -/
def abounds (len : Nat) (lo hi : Option AV) : Option (Cnd × Nat × Nat) :=
 match lo, hi with
 | none, none => some (none, 0, len)
 | some (.int _ l), none => some (cnd (0 ≤ l ∧ l ≤ len), l.toNat, len)
 | none, some (.int _ h) => some (cnd (0 ≤ h ∧ h ≤ len), 0, h.toNat)
 | some (.int _ l), some (.int _ h) => some (cnd (0 ≤ l ∧ l ≤ h ∧ h ≤ len), l.toNat, h.toNat)
 | _, _ => none
def aslice (P : Program) (t : TypeId) (x : AV) (lo hi : Option AV) : Option (Cnd × AV) :=
 match seqOf P t, x with
 | .string, .str s => (abounds s.size lo hi).map fun (c, l, h) => (c, .str (s.extract l h))
 | .slice e, .sl sz n f => if hasT P e ∧ szOf P e = sz then (abounds n lo hi).map fun (c, l, h) => (c, .sl sz (h - l) (fun i => f (l + i))) else none
 | .slice e, .ms id v sz off len => if hasT P e ∧ szOf P e = sz then (abounds len lo hi).map fun (c, l, h) => (c, .ms id v sz (off + l) (h - l)) else none
 | _, _ => none
def aindexAddr (P : Program) (t : TypeId) (x ix : AV) : Option (Cnd × AV) :=
 match ix with
 | .int _ i =>
  match seqOf P t, x with
  | .slice e, .sl sz n f => if hasT P e ∧ szOf P e = sz then some (cnd (0 ≤ i ∧ i < n), .pp (f i.toNat).cells) else none
  | .slice e, .ms id v sz off len => if hasT P e ∧ szOf P e = sz then some (cnd (0 ≤ i ∧ i < len), .ptr id v sz (off + i.toNat) 0) else none
  | .array n e, x => if hasT P e then (aplace (i.toNat * szOf P e) x).map fun y => (cnd (0 ≤ i ∧ i < n), y) else none
  | _, _ => none
 | _ => none
def alen (P : Program) (h : AHeap) (t : TypeId) (x : AV) : Option AV :=
 match seqOf P t, x with
 | .string, .str s => some (.int .i64 s.size)
 | .slice _, .sl _ n _ => some (.int .i64 n)
 | .slice _, .ms _ _ _ _ len => some (.int .i64 len)
 | .slice _, .snil => some (.int .i64 0)
 | .array n _, _ => some (.int .i64 n)
 | .map _ _, .nilm => some (.int .i64 0)
 | .map _ _, .mp id => match h[id]? with
  | some (.map c) => some (.int .i64 c.len)
  | _ => none
 | _, _ => none
def buildCells : List (Nat × AV) → (Nat → Option (Nat × Nat)) → List AV → Option (List AV)
 | [], _, cs => some cs
 | (i, v) :: rest, place, cs =>
  match place i with
  | none => none
  | some (off, size) => if v.cells.length = size ∧ off + size ≤ cs.length then buildCells rest place (splice cs off v.cells) else none
def zeroV (P : Program) (t : TypeId) : Option AV := match P.info? t with | some i => i.zero.map ofV | none => none
def Col.ofList : List AV → Col
 | [] => .gen 0 fun _ => .any
 | .int k x :: r =>
  match go k r with
  | some xs => .ints k (x :: xs)
  | none => .gen (r.length + 1) fun i => (AV.int k x :: r).getD i .any
 | .str s :: r =>
  match gos r with
  | some xs => .strs (s :: xs)
  | none => .gen (r.length + 1) fun i => (AV.str s :: r).getD i .any
 | .bool b :: r =>
  match gob r with
  | some xs => .bools (b :: xs)
  | none => .gen (r.length + 1) fun i => (AV.bool b :: r).getD i .any
 | v :: r => .recs (v :: r).reverse
where
 go (k : IntKind) : List AV → Option (List Int)
  | [] => some []
  | .int k' x :: r => if k' = k then (go k r).map (x :: ·) else none
  | _ :: _ => none
 gos : List AV → Option (List ByteArray)
  | [] => some []
  | .str s :: r => (gos r).map (s :: ·)
  | _ :: _ => none
 gob : List AV → Option (List Bool)
  | [] => some []
  | .bool s :: r => (gob r).map (s :: ·)
  | _ :: _ => none
def aindex (P : Program) (t : TypeId) (x ix : AV) : Option (Cnd × AV) :=
 match ix with
 | .int _ i =>
  match seqOf P t, x with
  | .string, .str s => some (cnd (0 ≤ i ∧ i < s.size), .int .u8 (sbyte s i.toNat))
  | .array n e, .agg cs => if (P.underlying e).isSome then
   if isAggB P e then (takeT P e (cs.drop (i.toNat * szOf P e))).map fun y => (cnd (0 ≤ i ∧ i < n), y)
   else if hasT P e ∧ szOf P e = 1 ∧ n = cs.length then some (cnd (0 ≤ i ∧ i < n), (Col.ofList cs).get i.toNat) else none
   else none
  | _, _ => none
 | _ => none
def AV.isAny : AV → Bool
 | .any => true
 | _ => false
/-- The parts of a slice's literal in their order. -/
def inOrder : List (Nat × AV) → Nat → Option (List AV)
 | [], _ => some []
 | (i, v) :: r, k => if i = k then (inOrder r (k + 1)).map (v :: ·) else none
def abuildSlice (P : Program) (t : TypeId) (len : Nat) (parts : List (Nat × AV)) : Option AV :=
 match seqOf P t with
 | .slice e =>
  if hasT P e then
   if len = 0 ∧ parts = [] then some .snil
   else match inOrder parts 0 with
    | some vs => if vs.length = len ∧ 0 < len ∧ 0 < szOf P e ∧ len * szOf P e ≤ 16777216 ∧ (vs.all fun v => v.cells.length == szOf P e && !v.isAny) = true ∧ (zeroV P e).isSome = true then some (.sl (szOf P e) len (Col.ofList vs).get) else none
    | none => none
  else none
 | _ => none
end Go.Proofs.Ytjdbmmilcihpoaa
namespace Go.Proofs.Ytjdbmmilcihpoaa
set_option linter.unusedVariables false
set_option linter.unusedSimpArgs false
section
variable {m : IdMap} {Mut : Mu} {w : World} {P : Program} {h : AHeap}
theorem run_underlying_some {t : TypeId} {d : TypeDesc} (hd : P.underlying t = some d) : (underlying t).run P w = .ok d w := by
 simp [underlying, hd]
theorem run_sizeOf_has {t : TypeId} (ht : hasT P t = true) : (sizeOf t).run P w = .ok (szOf P t) w := by
 unfold hasT at ht
 obtain ⟨i, hi⟩ := Option.isSome_iff_exists.1 ht
 simp [sizeOf, typeInfo, szOf, hi]
theorem run_isAgg_has {t : TypeId} (ht : (P.underlying t).isSome = true) : (isAgg t).run P w = .ok (isAggB P t) w := by
 obtain ⟨d, hd⟩ := Option.isSome_iff_exists.1 ht
 simp only [isAgg, Sem.run_bind, run_underlying_some hd, Result.andThen_ok, isAggB, hd]
 cases d <;> rfl
theorem relV_cells {a : AV} {v : Value} (hr : RelV m Mut w a v) (ha : a ≠ .any) : RelL m Mut w a.cells v.cells := by
 have one : ∀ (a : AV) (v : Value), RelV m Mut w a v → RelL m Mut w [a] #[v] := fun a v hr =>
  ⟨by simp, fun i x y hx hy => by
   cases i with
   | zero => simp at hx hy; subst hx; subst hy; exact hr
   | succ i => simp at hx⟩
 cases hr <;> first | exact absurd rfl ha | (simp only [AV.cells, Value.cells]; first | (apply one; constructor <;> assumption) | skip)
 · rename_i cs vs hl h; exact ⟨hl, h⟩
theorem cell?_at {b : Nat} {c : Array Value} {t : TypeId} {fr : Nat × Nat} (hb : w.heap[b]? = some (.cells c t fr)) (o : Nat) : w.cell? ⟨b, o, none⟩ = c[o]? := by
 simp [World.cell?, hb]
/-- What a pointer's cells read aas. -/
theorem cellsAt_sound (H : RelH m Mut h w) {p : AV} {v : Value} (hr : RelV m Mut w p v) {c : Cnd} {cs : List AV} (hc : cellsAt h p = some (c, cs)) (hC : c.ok) :
 ∃ b o, v = .pointer (some ⟨b, o, none⟩) ∧ b < w.heap.size ∧ ∀ (j : Nat) (a : AV), cs[j]? = some a → ∃ x, w.cell? ⟨b, o + j, none⟩ = some x ∧ RelV m Mut w a x := by
 unfold cellsAt at hc
 split at hc
 · rename_i id n sz i off
   split at hc
   · rename_i v0 hid
     split at hc
     · rename_i hni
       obtain ⟨rfl, rfl⟩ := hni
       cases hc
       obtain ⟨b, cc, t, h1, h2, h3, h4⟩ := H.obj id _ hid
       cases hr with
       | ptr _ _ _ _ _ b' o' C' hm =>
        rw [h1] at hm; cases hm
        refine ⟨b, _, rfl, (H.wr b h2), fun j a hj => ?_⟩
        rw [List.getElem?_drop] at hj
        rw [cell?_at h3]
        have hlt : off + j < v0.cells.length := by
         rcases Nat.lt_or_ge (off + j) v0.cells.length with q | q
         · exact q
         · rw [List.getElem?_eq_none q] at hj; cases hj
        have hlt2 : off + j < cc.size := h4.1 ▸ hlt
        refine ⟨cc[off + j], ?_, h4.2 _ _ _ hj (Array.getElem?_eq_getElem hlt2)⟩
        rw [show 0 + 0 * sz + off + j = off + j by omega]
        exact Array.getElem?_eq_getElem hlt2
     · cases hc
   · rename_i s k col hid
     cases hc
     obtain ⟨rfl, rfl, hi⟩ := hC
     obtain ⟨b, o, C, cc, t, h1, h2, h3, h4, h5, h6, h7⟩ := (H.obj id _ hid).rowIn hi
     cases hr with
     | ptr _ _ _ _ _ b' o' C' hm =>
      rw [h1] at hm; cases hm
      refine ⟨b, _, rfl, (H.wr b h2), fun j a hj => ?_⟩
      rw [List.getElem?_drop] at hj
      obtain ⟨x, hx, hrx⟩ := h7 i (off + j) a hi hj
      refine ⟨x, ?_, hrx⟩
      rw [cell?_at h3, ← hx]
      congr 1
      omega
   · rename_i s k len f hid
     cases hc
     obtain ⟨rfl, rfl, hi⟩ := hC
     obtain ⟨b, o, C, cc, t, h1, h2, h3, h4, h5, h6, h7⟩ := (H.obj id _ hid).frowIn hi
     cases hr with
     | ptr _ _ _ _ _ b' o' C' hm =>
      rw [h1] at hm; cases hm
      refine ⟨b, _, rfl, h2, fun j a hj => ?_⟩
      rw [List.getElem?_drop] at hj
      obtain ⟨x, hx, hrx⟩ := h7 i (off + j) a hi hj
      refine ⟨x, ?_, hrx⟩
      rw [cell?_at h4, ← hx]
      congr 1
      omega
   · cases hc
 · rename_i cs0
   cases hc
   cases hr with
   | pp _ b o val hb hm hv hr =>
    exact ⟨b, o, rfl, hb, fun j a hj => ⟨val j, hv j (by
     rcases Nat.lt_or_ge j cs.length with q | q
     · exact q
     · rw [List.getElem?_eq_none q] at hj; cases hj), hr j a hj⟩⟩
 · cases hc
theorem addr_add (b o n : Nat) : (⟨b, o, none⟩ : Addr).add n = ⟨b, o + n, none⟩ := by
 unfold Addr.add
 split
 · rename_i h; simp [h]
 · rfl
/-- A read of a variable. -/
theorem load_sound {t : TypeId} {b o : Nat} {cs : List AV} {v : AV} (hcs : ∀ (j : Nat) (a : AV), cs[j]? = some a → ∃ x, w.cell? ⟨b, o + j, none⟩ = some x ∧ RelV m Mut w a x)
 (ht : takeT P t cs = some v) (hu : (P.underlying t).isSome = true) : ∃ x, (loadVar t ⟨b, o, none⟩).run P w = .ok x w ∧ RelV m Mut w v x := by
 unfold takeT at ht
 split at ht
 · rename_i hh
   simp only [loadVar, Sem.run_bind, run_isAgg_has hu, Result.andThen_ok]
   split at ht
   · rename_i ha
     split at ht
     · rename_i hl
       cases ht
       simp only [ha, if_true, Sem.run_bind, run_sizeOf_has hh, Result.andThen_ok]
       have hx : ∀ j : Nat, j < szOf P t → ∃ x, w.cell? ((⟨b, o, none⟩ : Addr).add j) = some x ∧ ∀ a, cs[j]? = some a → RelV m Mut w a x := by
        intro j hj
        obtain ⟨x, hx, hrx⟩ := hcs j cs[j] (List.getElem?_eq_getElem (by omega))
        exact ⟨x, by rw [addr_add]; exact hx, fun a ha => by rw [List.getElem?_eq_getElem (by omega)] at ha; cases ha; exact hrx⟩
       classical
       let f : Nat → Value := fun j => if hj : j < szOf P t then Classical.choose (hx j hj) else default
       have hf : ∀ j, j < szOf P t → w.cell? ((⟨b, o, none⟩ : Addr).add j) = some (f j) := fun j hj => by
        simp only [f, hj, dif_pos]; exact (Classical.choose_spec (hx j hj)).1
       have hf2 : ∀ j, j < szOf P t → ∀ a, cs[j]? = some a → RelV m Mut w a (f j) := fun j hj => by
        simp only [f, hj, dif_pos]; exact (Classical.choose_spec (hx j hj)).2
       rw [run_loadCells w _ _ f hf]
       refine ⟨_, rfl, .agg _ _ (by simp; omega) fun i a x hi hxi => ?_⟩
       have hlt : i < szOf P t := by
        rcases Nat.lt_or_ge i (szOf P t) with q | q
        · exact q
        · rw [List.getElem?_eq_none (by simp; omega)] at hi; cases hi
       rw [List.getElem?_take_of_lt hlt] at hi
       have : x = f i := by
        rw [List.getElem?_toArray, List.getElem?_map, List.getElem?_range hlt] at hxi
        simpa using hxi.symm
       subst this
       exact hf2 i hlt a hi
     · cases ht
   · rename_i ha
     cases cs with
     | nil => cases ht
     | cons a cs =>
      simp at ht
      subst ht
      obtain ⟨x, hx, hrx⟩ := hcs 0 a rfl
      simp only [ha, Bool.false_eq_true, if_false, run_load, Nat.add_zero] at *
      rw [hx]
      exact ⟨x, rfl, hrx⟩
 · cases ht
/-- An operation hands back a value that reads aas v and leaves the abstract heap aas it was. -/
def OpR (P : Program) (ρ : Operand → Value) (o : Oper) (m : IdMap) (Mut : Mu) (h : AHeap) (w : World) (v : AV) : Prop :=
 ∃ x w', (execOp ρ o).run P w = .ok (.value x) w' ∧ Ext m Mut w m Mut w' ∧ RelH m Mut h w' ∧ RelV m Mut w' v x
theorem OpR.same {ρ : Operand → Value} {o : Oper} {v : AV} (H : RelH m Mut h w) (x : Value) (hx : (execOp ρ o).run P w = .ok (.value x) w) (hr : RelV m Mut w v x) : OpR P ρ o m Mut h w v :=
 ⟨x, w, hx, .refl _ _ _, H, hr⟩
theorem RelV.inv_int {k : IntKind} {n : Int} {v : Value} (hr : RelV m Mut w (.int k n) v) : v = .int k n := by cases hr; rfl
theorem RelV.inv_bool {b : Bool} {v : Value} (hr : RelV m Mut w (.bool b) v) : v = .bool b := by cases hr; rfl
theorem RelV.inv_str {s : ByteArray} {v : Value} (hr : RelV m Mut w (.str s) v) : v = .string s := by cases hr; rfl
theorem RelV.inv_agg {cs : List AV} {v : Value} (hr : RelV m Mut w (.agg cs) v) : ∃ vs, v = .agg vs ∧ RelL m Mut w cs vs := by
 cases hr with | agg _ vs hl h => exact ⟨vs, rfl, hl, h⟩
theorem RelV.inv_tup {cs : List AV} {v : Value} (hr : RelV m Mut w (.tup cs) v) : ∃ vs, v = .tuple vs ∧ RelL m Mut w cs vs := by
 cases hr with | tup _ vs hl h => exact ⟨vs, rfl, hl, h⟩
theorem RelL.get {cs : List AV} {vs : Array Value} (h : RelL m Mut w cs vs) {i : Nat} {a : AV} (ha : cs[i]? = some a) : ∃ v, vs[i]? = some v ∧ RelV m Mut w a v := by
 have hlt : i < cs.length := by
  rcases Nat.lt_or_ge i cs.length with q | q
  · exact q
  · rw [List.getElem?_eq_none q] at ha; cases ha
 have hlt2 : i < vs.size := h.1 ▸ hlt
 exact ⟨vs[i], Array.getElem?_eq_getElem hlt2, h.2 _ _ _ ha (Array.getElem?_eq_getElem hlt2)⟩
/-- A part of a struct or an array. -/
theorem part_sound {t : TypeId} {cs : List AV} {vs : Array Value} {off : Nat} {v : AV} (hr : RelL m Mut w cs vs) (ht : takeT P t (cs.drop off) = some v) (hu : (P.underlying t).isSome = true) :
 ∃ x, (part t vs off).run P w = .ok x w ∧ RelV m Mut w v x := by
 unfold takeT at ht
 split at ht
 · rename_i hh
   simp only [part, Sem.run_bind, run_isAgg_has hu, Result.andThen_ok]
   split at ht
   · rename_i ha
     split at ht
     · rename_i hl
       cases ht
       simp only [ha, if_true, Sem.run_bind, run_sizeOf_has hh, Result.andThen_ok, Sem.run_pure]
       refine ⟨_, rfl, .agg _ _ ?_ fun i a x hi hx => ?_⟩
       · have := hr.1
         simp at hl ⊢
         omega
       · have hlt : i < szOf P t := by
          rcases Nat.lt_or_ge i (szOf P t) with q | q
          · exact q
          · rw [List.getElem?_eq_none (by simp; omega)] at hi; cases hi
         rw [List.getElem?_take_of_lt hlt, List.getElem?_drop] at hi
         refine hr.2 (off + i) a x hi ?_
         rw [Array.getElem?_extract] at hx
         split at hx
         · exact hx
         · cases hx
     · cases ht
   · rename_i ha
     have h0 : cs[off]? = some v := by
      rw [← ht, List.head?_drop]
     obtain ⟨x, hx, hrx⟩ := hr.get h0
     simp only [ha, Bool.false_eq_true, if_false]
     rw [hx]
     exact ⟨x, rfl, hrx⟩
 · cases ht
theorem takeT_has {t : TypeId} {cs : List AV} {v : AV} (ht : takeT P t cs = some v) : hasT P t = true := by
 unfold takeT at ht
 split at ht
 · assumption
 · cases ht
theorem aplace_sound {off : Nat} {p q : AV} {v : Value} (hr : RelV m Mut w p v) (hp : aplace off p = some q) :
 ∃ b o, v = .pointer (some ⟨b, o, none⟩) ∧ RelV m Mut w q (.pointer (some ⟨b, o + off, none⟩)) := by
 unfold aplace at hp
 split at hp
 · cases hp
   cases hr with
   | ptr _ _ _ _ _ b o C hm => exact ⟨b, _, rfl, by rw [Nat.add_assoc]; exact .ptr _ _ _ _ _ b o C hm⟩
 · rename_i cs
   cases hp
   cases hr with
   | pp _ b o val hb hm hv hr =>
    refine ⟨b, o, rfl, .pp _ b _ (fun j => val (off + j)) hb hm (fun j hj => ?_) (fun j a hj => ?_)⟩
    · rw [Nat.add_assoc]
      exact hv _ (by simp at hj; omega)
    · rw [List.getElem?_drop] at hj
      exact hr _ _ hj
 · cases hp
theorem eqGuard_int {op : BinOp} {t : TypeId} {x y : Operand} {k k' : IntKind} {a b : Int} : (eqGuard op t x y (.int k a) (.int k' b)).run P w = .ok () w := by
 unfold eqGuard
 cases op <;> rfl
theorem eqGuard_str {op : BinOp} {t : TypeId} {x y : Operand} {a b : ByteArray} : (eqGuard op t x y (.string a) (.string b)).run P w = .ok () w := by
 unfold eqGuard
 cases op <;> rfl
theorem eqGuard_bool {op : BinOp} {t : TypeId} {x y : Operand} {a b : Bool} : (eqGuard op t x y (.bool a) (.bool b)).run P w = .ok () w := by
 unfold eqGuard
 cases op <;> rfl
theorem binInt_sound {op : BinOp} {t : TypeId} {k k' : IntKind} {a b : Int} {c : Cnd} {v : AV} (hb : abin op (.int k a) (.int k' b) = some (c, v)) (hC : c.ok) :
 ∃ x, (binOp op t (.int k a) (.int k' b)).run P w = .ok x w ∧ RelV m Mut w v x := by
 by_cases hk : k = k'
 · subst hk
   cases op <;> simp only [abin, if_true, reduceCtorEq] at hb <;> (try cases hb) <;> simp only [Cnd.ok, cnd] at hC <;>
    first
     | (refine ⟨_, ?_, RelV.int _ _⟩; simp [binOp, Op.intArith, Op.intBits]; done)
     | (refine ⟨_, ?_, RelV.int _ _⟩; simp [binOp, Op.intArith, Op.intBits, Op.intDiv, hC]; done)
     | (refine ⟨_, ?_, RelV.int _ _⟩; simp [binOp, Op.shift, Int.not_lt.2 hC]; done)
     | (refine ⟨.bool _, ?_, RelV.bool _⟩; simp [binOp, Op.intCmp]; done)
     | (refine ⟨.bool _, ?_, RelV.bool _⟩; simp only [binOp, ne_eq, not_true_eq_false, if_false]; rfl)
 · cases op <;> simp only [abin, hk, if_false, reduceCtorEq] at hb <;> (try cases hb) <;> simp only [Cnd.ok, cnd] at hC <;>
    (refine ⟨_, ?_, RelV.int _ _⟩; simp [binOp, Op.shift, Int.not_lt.2 hC]; done)
theorem binStr_sound {op : BinOp} {t : TypeId} {a b : ByteArray} {c : Cnd} {v : AV} (hb : abin op (.str a) (.str b) = some (c, v)) (hC : c.ok) :
 ∃ x, (binOp op t (.string a) (.string b)).run P w = .ok x w ∧ RelV m Mut w v x := by
 cases op <;> simp only [abin, reduceCtorEq] at hb <;> (try cases hb)
 · refine ⟨.string (a ++ b), ?_, .str _⟩
   simp only [Cnd.ok, cnd] at hC
   simp only [binOp, Op.stringOp]
   rw [if_neg (by omega)]
   rfl
 all_goals exact ⟨_, rfl, .bool _⟩
end
end Go.Proofs.Ytjdbmmilcihpoaa
namespace Go.Proofs.Ytjdbmmilcihpoaa
set_option linter.unusedVariables false
set_option linter.unusedSimpArgs false
/-- `==` aas the model asks it, of plain values. -/
def eqF (P : Program) (rec : TypeId → AV → AV → Option Bool) (xs ys : List AV) : List Field → Option Bool
 | [] => some true
 | f :: fs =>
  if f.name ≠ "_" then
   match takeT P f.type (xs.drop f.offset), takeT P f.type (ys.drop f.offset) with
   | some a, some b => if (P.underlying f.type).isSome then (rec f.type a b).bind fun r => (eqF P rec xs ys fs).map fun q => r && q else none
   | _, _ => none
  else eqF P rec xs ys fs
def eqA (P : Program) (rec : TypeId → AV → AV → Option Bool) (e : TypeId) (xs ys : List AV) : List Nat → Option Bool
 | [] => some true
 | j :: js =>
  match takeT P e (xs.drop (j * szOf P e)), takeT P e (ys.drop (j * szOf P e)) with
  | some a, some b => if (P.underlying e).isSome then (rec e a b).bind fun r => (eqA P rec e xs ys js).map fun q => r && q else none
  | _, _ => none
def eqT (P : Program) : Nat → TypeId → AV → AV → Option Bool
 | 0, _, _, _ => none
 | d + 1, t, x, y =>
  match P.underlying t, x, y with
  | some .bool, .bool a, .bool b => some (a == b)
  | some (.int _), .int k a, .int k' b => if k = k' then some (a == b) else none
  | some .string, .str a, .str b => some (a == b)
  | some (.struct fs), .agg xs, .agg ys => if P.stoodInHeld t = false then eqF P (eqT P d) xs ys fs.toList else none
  | some (.array n e), .agg xs, .agg ys => if hasT P e then eqA P (eqT P d) e xs ys (List.range n) else none
  | _, _, _ => none
section
variable {m : IdMap} {Mut : Mu} {w : World} {P : Program} {h : AHeap}
theorem eqT_sound {k : Nat} : ∀ (d : Nat) (t : TypeId) (x y : AV) (r : Bool) (u v : Value), eqT P d t x y = some r → RelV m Mut w x u → RelV m Mut w y v → (Op.equalIn (d + k) t u v).run P w = .ok r w := by
 intro d
 induction d with
 | zero => intro t x y r u v h; cases h
 | succ d ih =>
  intro t x y r u v he hx hy
  rw [show d + 1 + k = (d + k) + 1 by omega]
  unfold eqT at he
  split at he
  · rename_i hu; cases he; rw [hx.inv_bool, hy.inv_bool]; exact run_equalIn_bool w _ t _ _ hu
  · rename_i hu
    split at he
    · rename_i hk; subst hk; cases he; rw [hx.inv_int, hy.inv_int]; exact run_equalIn_int w _ t _ _ _ _ hu
    · cases he
  · rename_i a b hu
    cases he; rw [hx.inv_str, hy.inv_str]
    rw [run_equalIn_string w _ t _ _ hu, beq_toListBytes]
  · rename_i fs xs ys hu
    split at he
    · rename_i hp
      obtain ⟨us, rfl, hxl⟩ := hx.inv_agg
      obtain ⟨vs, rfl, hyl⟩ := hy.inv_agg
      have hf : P.fieldsOf t = fs := by unfold Program.fieldsOf; rw [hu]
      rw [run_equalIn_struct w _ t us vs (by rw [hf]; exact hu) hp, hf]
      clear hf hu hp
      generalize fs.toList = l at he
      induction l generalizing r with
      | nil => simp only [eqF, Option.some.injEq] at he; subst he; rfl
      | cons f l ihl =>
       unfold eqF at he
       unfold Op.eqFields
       split at he
       · rename_i hn
         rw [if_pos hn]
         split at he
         · rename_i a b ha hb
           split at he
           · rename_i hs
             obtain ⟨p, hp, hpr⟩ := part_sound hxl ha hs
             obtain ⟨q, hq, hqr⟩ := part_sound hyl hb hs
             cases hr : eqT P d f.type a b with
             | none => rw [hr] at he; cases he
             | some r1 =>
              rw [hr] at he
              have h1 := ih f.type a b r1 p q hr hpr hqr
              simp only [Sem.run_bind, hp, hq, h1, Result.andThen_ok]
              cases hr2 : eqF P (eqT P d) xs ys l with
              | none => rw [hr2] at he; cases he
              | some r2 =>
               rw [hr2] at he
               simp only [Option.bind_some, Option.map_some, Option.some.injEq] at he
               subst he
               have h2 := ihl r2 hr2
               cases r1
               · rfl
               · simpa using h2
           · cases he
         · cases he
       · rename_i hn
         rw [if_neg hn]
         exact ihl r he
    · cases he
  · rename_i n e xs ys hu
    split at he
    · rename_i hh
      obtain ⟨us, rfl, hxl⟩ := hx.inv_agg
      obtain ⟨vs, rfl, hyl⟩ := hy.inv_agg
      unfold hasT at hh
      obtain ⟨i, hi⟩ := Option.isSome_iff_exists.1 hh
      have hsz : P.cellsOf e = szOf P e := by simp [Program.cellsOf, szOf, hi]
      rw [run_equalIn_array w _ us vs hu hi, hsz]
      clear hu
      generalize List.range n = l at he
      induction l generalizing r with
      | nil => simp only [eqA, Option.some.injEq] at he; subst he; rfl
      | cons j l ihl =>
       unfold eqA at he
       unfold Op.eqItems
       split at he
       · rename_i a b ha hb
         split at he
         · rename_i hs
           obtain ⟨p, hp, hpr⟩ := part_sound hxl ha hs
           obtain ⟨q, hq, hqr⟩ := part_sound hyl hb hs
           cases hr : eqT P d e a b with
           | none => rw [hr] at he; cases he
           | some r1 =>
            rw [hr] at he
            have h1 := ih e a b r1 p q hr hpr hqr
            simp only [Sem.run_bind, hp, hq, h1, Result.andThen_ok]
            cases hr2 : eqA P (eqT P d) e xs ys l with
            | none => rw [hr2] at he; cases he
            | some r2 =>
             rw [hr2] at he
             simp only [Option.bind_some, Option.map_some, Option.some.injEq] at he
             subst he
             have h2 := ihl r2 hr2
             cases r1
             · rfl
             · simpa using h2
         · cases he
       · cases he
    · cases he
  · cases he
end
/-- Binary operations. -/
def abinT (P : Program) (op : BinOp) (t : TypeId) (x y : AV) : Option (Cnd × AV) :=
 match op, x, y with
 | .eql, .agg xs, .agg ys => if P.eqGuardType P.depth t = false then (eqT P 8 t (.agg xs) (.agg ys)).map fun r => (none, .bool r) else none
 | .neq, .agg xs, .agg ys => if P.eqGuardType P.depth t = false then (eqT P 8 t (.agg xs) (.agg ys)).map fun r => (none, .bool (!r)) else none
 | .eql, .bool a, .bool b => match P.underlying t with | some .bool => some (none, .bool (a == b)) | _ => none
 | .neq, .bool a, .bool b => match P.underlying t with | some .bool => some (none, .bool (!(a == b))) | _ => none
 | op, .int k a, .int k' b => abin op (.int k a) (.int k' b)
 | op, .str a, .str b => abin op (.str a) (.str b)
 | _, _, _ => none
/-- The bytes that a row of them holds. -/
def bytesOf (n : Nat) (f : Nat → AV) : List Int := (List.range n).map fun i => match f i with | .int _ x => x | _ => 0
def isByte : AV → Bool
 | .int .u8 _ => true
 | _ => false
def allBytes (n : Nat) (f : Nat → AV) : Prop := ∀ i, i < n → isByte (f i) = true
instance (n : Nat) (f : Nat → AV) : Decidable (allBytes n f) := inferInstanceAs (Decidable (∀ i, i < n → isByte (f i) = true))
def strBytes (ns : List Int) : ByteArray := ns.foldl (fun r n => r.push (UInt8.ofNat n.toNat)) ByteArray.empty
def aconv (P : Program) (src dst : TypeId) (x : AV) : Option (Cnd × AV) :=
 match P.underlying src, P.underlying dst, x with
 | some _, some (.int k), .int _ n => some (none, .int k (k.wrap n))
 | some _, some .string, .str s => some (none, .str s)
 | some (.slice e), some .string, .sl sz n f => match P.underlying e with
  | some (.int .u8) => some (cnd (sz = 1 ∧ 0 < n ∧ allBytes n f), .str (strBytes (bytesOf n f)))
  | _ => none
 | some (.struct _), some (.struct _), _ => none
 | _, _, _ => none
def afield (P : Program) (s : TypeId) (x : AV) (f : Nat) : Option AV :=
 match structOf P s with
 | some fs => match fs.toList[f]? with
  | some fl => match x with
   | .agg cs => if (P.underlying fl.type).isSome then takeT P fl.type (cs.drop fl.offset) else none
   | _ => none
  | none => none
 | none => none
def afieldAddr (P : Program) (s : TypeId) (x : AV) (f : Nat) : Option AV :=
 match structOf P s with
 | some fs => match fs.toList[f]? with
  | some fl => if hasT P fl.type ∧ szOf P fl.type ≠ 0 then aplace fl.offset x else none
  | none => none
 | none => none
def abuild (P : Program) (t : TypeId) (parts : List (Nat × AV)) : Option AV :=
 match structOf P t with
 | some fs =>
  if (fs.toList.all fun f => hasT P f.type) ∧ (parts.all fun p => !p.2.isAny) = true then
   match zeroV P t with
   | some z => if z.isAny then none else (buildCells parts (fun i => (fs.toList[i]?).map fun f => (f.offset, szOf P f.type)) z.cells).map .agg
   | none => none
  else none
 | none => match seqOf P t with
  | .array n e =>
   if hasT P e ∧ (parts.all fun p => !p.2.isAny) = true then
    match zeroV P t with
    | some z => if z.isAny then none else (buildCells parts (fun i => some (i * szOf P e, szOf P e)) z.cells).map .agg
    | none => none
   else none
  | _ => none
def avmin : AV → AV → Option AV
 | .int k x, .int _ y => some (.int k (if y < x then y else x))
 | _, _ => none
def avmax : AV → AV → Option AV
 | .int k x, .int _ y => some (.int k (if y > x then y else x))
 | _, _ => none
def abuiltin (P : Program) (h : AHeap) (b : Builtin) (ts : List TypeId) (xs : List AV) : Option (Cnd × AV) :=
 match b, ts, xs with
 | .len, t :: _, x :: _ => (alen P h t x).map fun v => (none, v)
 | .min, _, [x, y] => (avmin x y).map fun v => (none, v)
 | .max, _, [x, y] => (avmax x y).map fun v => (none, v)
 | _, _, _ => none
/-- `s[:0:0]`. -/
def aslice3 (P : Program) (t : TypeId) (x hi mx : AV) : Option (Cnd × AV) :=
 match seqOf P t, hi, mx with
 | .slice e, .int _ 0, .int _ 0 => if hasT P e then
  match x with
  | .sl _ _ _ => some (none, .snil)
  | .ms _ _ _ _ _ => some (none, .snil)
  | .snil => some (none, .snil)
  | _ => none
  else none
 | _, _, _ => none
/-- A key in a map. -/
def hasS (ks : List ByteArray) (s : ByteArray) : Bool := ks.any fun k => s.toList == k.toList
def hasI (ks : List Int) (x : Int) : Bool := ks.any fun k => x == k
def valI (es : List (Int × Int)) (x : Int) : Option Int := (es.find? fun e => x == e.1).map (·.2)
def valS (es : List (ByteArray × Int)) (s : ByteArray) : Option Int := (es.find? fun e => s.toList == e.1.toList).map (·.2)
/-- What a map has at a key, and whether it has the key. -/
def MCol.look : MCol → AV → Option (AV × Bool)
 | .sset ks, .str s => some (.bool (hasS ks s), hasS ks s)
 | .iset k ks, .int k' x => if k = k' then some (.bool (hasI ks x), hasI ks x) else none
 | .imap k kv es, .int k' x => if k = k' then some (.int kv ((valI es x).getD 0), (valI es x).isSome) else none
 | .smap kv es, .str s => some (.int kv ((valS es s).getD 0), (valS es s).isSome)
 | _, _ => none
def MCol.keyT : MCol → TypeDesc → Bool
 | .sset _, .string => true
 | .smap _ _, .string => true
 | .iset k _, .int k' => k == k'
 | .imap k _ _, .int k' => k == k'
 | _, _ => false
def MCol.zeroIs : MCol → AV → Bool
 | .sset _, .bool b => !b
 | .iset _ _, .bool b => !b
 | .smap k _, .int k' x => k == k' && x == 0
 | .imap _ k _, .int k' x => k == k' && x == 0
 | _, _ => false
def mapOf (P : Program) (t : TypeId) : Option (TypeDesc × AV) :=
 match P.underlying t with
 | some (.map k e) => match P.underlying k, zeroV P e with
  | some a, some b => some (a, b)
  | _, _ => none
 | _ => none
def alook (P : Program) (h : AHeap) (t : TypeId) (x y : AV) (commaOk : Bool) : Option (Cnd × AV) :=
 match mapOf P t, x with
 | some (kt, vt), .mp id => match h[id]? with
  | some (.map c) => if c.keyT kt = true ∧ c.zeroIs vt = true then (c.look y).map fun r => (none, if commaOk then .tup [r.1, .bool r.2] else r.1) else none
  | _ => none
 | _, _ => none
/-- A slice that is compared with the literal nil. -/
def anilEq (P : Program) (op : BinOp) (t : TypeId) (x : AV) (y : Operand) : Option (Cnd × AV) :=
 match op, y, x, seqOf P t with
 | .eql, .const (.slice none 0 0), .nils, .slice _ => some (none, .bool true)
 | .eql, .const (.slice none 0 0), .sne, .slice _ => some (none, .bool false)
 | .eql, .const (.slice none 0 0), .sl _ n _, .slice _ => some (cnd (0 < n), .bool false)
 | _, _, _, _ => none
/-- The operations that leave the abstract heap alone: what must hold, and the value. -/
def aopQ (P : Program) (h : AHeap) (ρ : Operand → AV) (o : Oper) : Option (Cnd × AV) :=
 match o.op with
 | .move x => some (none, ρ x)
 | .assign x => some (none, ρ x)
 | .load t a =>
  match cellsAt h (ρ a) with
  | some (c, cs) => if (P.underlying t).isSome then (takeT P t cs).map fun v => (c, v) else none
  | none => none
 | .nilCheck x =>
  match ρ x with
  | .ptr id n sz i off => some (none, .ptr id n sz i off)
  | .pp cs => some (none, .pp cs)
  | .fn g cs => some (none, .fn g cs)
  | _ => none
 | .binOp op t x y _ => match anilEq P op t (ρ x) y with
  | some r => some r
  | none => abinT P op t (ρ x) (ρ y)
 | .unOp op _ x => (aun op (ρ x)).map fun v => (none, v)
 | .convert src dst x => aconv P src dst (ρ x)
 | .makeFunc (.func g) first cs => if first.toList.length = 0 then some (none, .fn g (cs.toList.map ρ)) else none
 | .slice t x lo hi none => aslice P t (ρ x) (lo.map ρ) (hi.map ρ)
 | .slice t x none (some hi) (some mx) => aslice3 P t (ρ x) (ρ hi) (ρ mx)
 | .fieldAddr s x f => (afieldAddr P s (ρ x) f).map fun v => (none, v)
 | .field s x f => (afield P s (ρ x) f).map fun v => (none, v)
 | .indexAddr t x ix => aindexAddr P t (ρ x) (ρ ix)
 | .index t x ix => aindex P t (ρ x) (ρ ix)
 | .lookup t x y ok => alook P h t (ρ x) (ρ y) ok
 | .extract x i => match ρ x with
  | .tup vs => (vs[i]?).map fun v => (none, v)
  | _ => none
 | .build t parts => (abuild P t (parts.toList.map fun p => (p.1, ρ p.2))).map fun v => (none, v)
 | .buildSlice t len parts => (abuildSlice P t len (parts.toList.map fun p => (p.1, ρ p.2))).map fun v => (none, v)
 | .call c => match c.callee with
  | .builtin b => abuiltin P h b c.argTypes.toList (c.args.toList.map ρ)
  | _ => none
 | _ => none
section
variable {m : IdMap} {Mut : Mu} {w : World} {P : Program} {h : AHeap}
theorem abinT_sound {op : BinOp} {t : TypeId} {x y : AV} {u v : Value} {ox oy : Operand} {c : Cnd} {r : AV} (hb : abinT P op t x y = some (c, r)) (hC : c.ok) (hx : RelV m Mut w x u) (hy : RelV m Mut w y v) :
 ∃ z, (do eqGuard op t ox oy u v; binOp op t u v : Sem Value).run P w = .ok z w ∧ RelV m Mut w r z := by
 unfold abinT at hb
 split at hb
 · split at hb
   · rename_i hg
     obtain ⟨us, rfl, hxl⟩ := hx.inv_agg
     obtain ⟨vs, rfl, hyl⟩ := hy.inv_agg
     simp only [Option.map_eq_some_iff, Prod.mk.injEq] at hb
     obtain ⟨q, hq, rfl, rfl⟩ := hb
     have := eqT_sound (k := 9992) 8 t _ _ q _ _ hq hx hy
     refine ⟨.bool q, ?_, .bool _⟩
     rw [Sem.run_bind, run_eqGuard_agg w _ _ _ _ _ _ hg, Result.andThen_ok, run_eql_struct w]
     rw [show (10000 : Nat) = 8 + 9992 from rfl, this]; rfl
   · cases hb
 · split at hb
   · rename_i hg
     obtain ⟨us, rfl, hxl⟩ := hx.inv_agg
     obtain ⟨vs, rfl, hyl⟩ := hy.inv_agg
     simp only [Option.map_eq_some_iff, Prod.mk.injEq] at hb
     obtain ⟨q, hq, rfl, rfl⟩ := hb
     have := eqT_sound (k := 9992) 8 t _ _ q _ _ hq hx hy
     refine ⟨.bool (!q), ?_, .bool _⟩
     rw [Sem.run_bind, run_eqGuard_agg w _ _ _ _ _ _ hg, Result.andThen_ok, run_neq_struct w]
     rw [show (10000 : Nat) = 8 + 9992 from rfl, this]; rfl
   · cases hb
 · split at hb
   · rename_i hu
     cases hb
     rw [hx.inv_bool, hy.inv_bool]
     refine ⟨_, ?_, .bool _⟩
     rw [Sem.run_bind, eqGuard_bool, Result.andThen_ok, run_eql_bool w t _ _ hu]
   · cases hb
 · split at hb
   · rename_i hu
     cases hb
     rw [hx.inv_bool, hy.inv_bool]
     refine ⟨_, ?_, .bool _⟩
     rw [Sem.run_bind, eqGuard_bool, Result.andThen_ok, run_neq_bool w t _ _ hu]
   · cases hb
 · rw [hx.inv_int, hy.inv_int]
   obtain ⟨z, hz, hr⟩ := binInt_sound (m := m) (Mut := Mut) (w := w) (P := P) (t := t) hb hC
   exact ⟨z, by rw [Sem.run_bind, eqGuard_int, Result.andThen_ok, hz], hr⟩
 · rw [hx.inv_str, hy.inv_str]
   obtain ⟨z, hz, hr⟩ := binStr_sound (m := m) (Mut := Mut) (w := w) (P := P) (t := t) hb hC
   exact ⟨z, by rw [Sem.run_bind, eqGuard_str, Result.andThen_ok, hz], hr⟩
 · cases hb
theorem aun_sound {op : UnOp} {x : AV} {u : Value} {r : AV} (hb : aun op x = some r) (hx : RelV m Mut w x u) : ∃ z, (Op.unary op u).run P w = .ok z w ∧ RelV m Mut w r z := by
 unfold aun at hb
 split at hb
 · split at hb
   · cases hb; rw [hx.inv_bool]; exact ⟨_, rfl, .bool _⟩
   · cases hb
 · split at hb
   · cases hb; rw [hx.inv_int]; exact ⟨_, rfl, .int _ _⟩
   · cases hb
 · cases hb
/-- An optional operand. -/
def RelOpt (m : IdMap) (Mut : Mu) (w : World) : Option AV → Option Value → Prop
 | none, none => True
 | some a, some u => RelV m Mut w a u
 | _, _ => False
theorem abounds_sound {isSlice : Bool} {len cap : Nat} {lo hi : Option AV} {ulo uhi : Option Value} {c : Cnd} {l e : Nat} (hb : abounds len lo hi = some (c, l, e)) (hC : c.ok) (hcap : len ≤ cap)
 (hlo : RelOpt m Mut w lo ulo) (hhi : RelOpt m Mut w hi uhi) :
 (Instr.sliceBounds isSlice len cap ulo uhi none).run P w = .ok (l, e, cap) w ∧ l ≤ e ∧ e ≤ len := by
 unfold abounds at hb
 split at hb
 · cases hb
   cases ulo <;> cases uhi <;> simp [RelOpt] at hlo hhi
   exact ⟨by simp [Instr.sliceBounds], Nat.zero_le _, Nat.le_refl _⟩
 · cases hb
   cases ulo <;> cases uhi <;> simp [RelOpt] at hlo hhi
   rw [hlo.inv_int]
   obtain ⟨h0, h1⟩ := hC
   exact ⟨by simp [Instr.sliceBounds, Instr.sliceBound, asIntOf, h0, h1], by omega, Nat.le_refl _⟩
 · cases hb
   cases ulo <;> cases uhi <;> simp [RelOpt] at hlo hhi
   rw [hhi.inv_int]
   obtain ⟨h0, h1⟩ := hC
   have h2 : ∀ k : Int, k ≤ (len : Int) → k ≤ (cap : Int) := fun k hk => by omega
   exact ⟨by simp [Instr.sliceBounds, Instr.sliceBound, asIntOf, h0, h2 _ h1], Nat.zero_le _, by omega⟩
 · rename_i k1 a k2 b
   cases hb
   cases ulo <;> cases uhi <;> simp [RelOpt] at hlo hhi
   rw [hlo.inv_int, hhi.inv_int]
   obtain ⟨h0, h1, h2⟩ := hC
   have h3 : b ≤ (cap : Int) := by omega
   have h4 : 0 ≤ b := by omega
   have h5 : a ≤ ((b.toNat : Nat) : Int) := by omega
   refine ⟨?_, by omega, by omega⟩
   simp only [Instr.sliceBounds, Sem.run_bind, Sem.run_pure, Result.andThen_ok, Instr.sliceBound, asIntOf, h4, h3, and_self, if_true, h0, h5]
 · cases hb
end
end Go.Proofs.Ytjdbmmilcihpoaa
namespace Go.Proofs.Ytjdbmmilcihpoaa
set_option linter.unusedVariables false
set_option linter.unusedSimpArgs false
section
variable {m : IdMap} {Mut : Mu} {w : World} {P : Program} {h : AHeap}
theorem seqOf_slice {t e : TypeId} (hs : seqOf P t = .slice e) : P.underlying t = some (.slice e) := by
 unfold seqOf at hs
 split at hs <;> first | (cases hs; assumption) | cases hs
theorem seqOf_array {t e : TypeId} {n : Nat} (hs : seqOf P t = .array n e) : P.underlying t = some (.array n e) := by
 unfold seqOf at hs
 split at hs <;> first | (cases hs; assumption) | cases hs
theorem seqOf_string {t : TypeId} (hs : seqOf P t = .string) : P.underlying t = some .string := by
 unfold seqOf at hs
 split at hs <;> first | (cases hs; assumption) | cases hs
theorem seqOf_map {t k e : TypeId} (hs : seqOf P t = .map k e) : P.underlying t = some (.map k e) := by
 unfold seqOf at hs
 split at hs <;> first | (cases hs; assumption) | cases hs
theorem structOf_some {t : TypeId} {fs : Array Field} (hs : structOf P t = some fs) : P.underlying t = some (.struct fs) := by
 unfold structOf at hs
 split at hs
 · cases hs; assumption
 · cases hs
theorem aslice_sound {t : TypeId} {x : AV} {u : Value} {lo hi : Option AV} {ulo uhi : Option Value} {c : Cnd} {r : AV} (hb : aslice P t x lo hi = some (c, r)) (hC : c.ok)
 (hx : RelV m Mut w x u) (hlo : RelOpt m Mut w lo ulo) (hhi : RelOpt m Mut w hi uhi) :
 ∃ z, (Instr.sliceAt t u ulo uhi none).run P w = .ok z w ∧ RelV m Mut w r z := by
 unfold aslice at hb
 split at hb
 · rename_i s _
   rw [hx.inv_str]
   have hu := seqOf_string (t := t) (by assumption)
   simp only [Option.map_eq_some_iff, Prod.mk.injEq, Prod.exists] at hb
   obtain ⟨c', l, e, hbd, rfl, rfl⟩ := hb
   obtain ⟨hr, h1, h2⟩ := abounds_sound (P := P) (w := w) (m := m) (Mut := Mut) (isSlice := false) hbd hC (Nat.le_refl _) hlo hhi
   refine ⟨.string (s.extract l e), ?_, .str _⟩
   simp only [Instr.sliceAt, Instr.slice, Sem.run_bind, run_underlying_some hu, Result.andThen_ok, Option.isSome_none, Bool.false_eq_true, if_false, hr, Sem.run_pure]
 · rename_i e sz n f _
   split at hb
   · rename_i hh
     obtain ⟨hh, rfl⟩ := hh
     have hu := seqOf_slice (t := t) (by assumption)
     simp only [Option.map_eq_some_iff, Prod.mk.injEq, Prod.exists] at hb
     obtain ⟨c', l, hi', hbd, rfl, rfl⟩ := hb
     cases hx with
     | sl _ _ _ b o cap val hn hc hbs hmu hsz hv hr =>
      obtain ⟨hrun, h1, h2⟩ := abounds_sound (P := P) (w := w) (m := m) (Mut := Mut) (isSlice := true) hbd hC hc hlo hhi
      refine ⟨.slice (if cap = l then some ⟨b, o, none⟩ else some ⟨b, o + l * szOf P e, none⟩) (hi' - l) (cap - l), ?_, ?_⟩
      · simp only [Instr.sliceAt, Instr.slice, Sem.run_bind, run_underlying_some hu, Result.andThen_ok, hrun, run_sizeOf_has hh, Sem.run_pure]
        split <;> simp [addr_add]
      · by_cases hz : hi' - l = 0
        · rw [hz]; exact .sl0 _ _ _ _
        · rw [if_neg (by omega)]
          refine .sl _ _ _ b _ _ (fun i j => val (l + i) j) (by omega) (by omega) hbs hmu (fun i hi => hsz _ (by omega)) (fun i j hi hj => ?_) (fun i j a hi ha => hr _ _ _ (by omega) ha)
          rw [← hv (l + i) j (by omega) hj]
          congr 2
          rw [Nat.add_mul]
          omega
     | sl0 _ _ a cap =>
      obtain ⟨hrun, h1, h2⟩ := abounds_sound (P := P) (w := w) (m := m) (Mut := Mut) (isSlice := true) hbd hC (Nat.zero_le cap) hlo hhi
      obtain rfl : hi' = 0 := by omega
      obtain rfl : l = 0 := by omega
      refine ⟨.slice (if cap = 0 then a else a.map (·.add (0 * szOf P e))) (0 - 0) (cap - 0), ?_, .sl0 _ _ _ _⟩
      simp only [Instr.sliceAt, Instr.slice, Sem.run_bind, run_underlying_some hu, Result.andThen_ok, hrun, run_sizeOf_has hh, Sem.run_pure]
   · cases hb
 · rename_i e id v sz off len _
   split at hb
   · rename_i hh
     obtain ⟨hh, rfl⟩ := hh
     have hu := seqOf_slice (t := t) (by assumption)
     simp only [Option.map_eq_some_iff, Prod.mk.injEq, Prod.exists] at hb
     obtain ⟨c', l, hi', hbd, rfl, rfl⟩ := hb
     cases hx with
     | ms _ _ _ _ _ b o C hm hc =>
      obtain ⟨hrun, h1, h2⟩ := abounds_sound (P := P) (w := w) (m := m) (Mut := Mut) (isSlice := true) hbd hC (show len ≤ C - off by omega) hlo hhi
      refine ⟨.slice (if C - off = l then some ⟨b, o + off * szOf P e, none⟩ else some ⟨b, o + off * szOf P e + l * szOf P e, none⟩) (hi' - l) (C - off - l), ?_, ?_⟩
      · simp only [Instr.sliceAt, Instr.slice, Sem.run_bind, run_underlying_some hu, Result.andThen_ok, hrun, run_sizeOf_has hh, Sem.run_pure]
        split <;> simp [addr_add]
      · by_cases hz : C - off = l
        · rw [if_pos hz]
          obtain rfl : hi' = l := by omega
          rw [show hi' - hi' = 0 by omega, show C - off - hi' = 0 by omega]
          exact .ms0 _ _ _ _ b o C _ hm
        · rw [if_neg hz, show o + off * szOf P e + l * szOf P e = o + (off + l) * szOf P e by rw [Nat.add_mul]; omega, show C - off - l = C - (off + l) by omega]
          exact .ms _ _ _ _ _ b o C hm (by omega)
     | ms0 _ _ _ _ b o C a hm =>
      obtain ⟨hrun, h1, h2⟩ := abounds_sound (P := P) (w := w) (m := m) (Mut := Mut) (isSlice := true) hbd hC (Nat.zero_le 0) hlo hhi
      obtain rfl : hi' = 0 := by omega
      obtain rfl : l = 0 := by omega
      refine ⟨.slice a 0 0, ?_, .ms0 _ _ _ _ b o C _ hm⟩
      cases a <;> simp only [Instr.sliceAt, Instr.slice, Sem.run_bind, run_underlying_some hu, Result.andThen_ok, hrun, run_sizeOf_has hh, Sem.run_pure, if_true, Nat.sub_zero]
   · cases hb
 · cases hb
theorem aindexAddr_sound {t : TypeId} {x ix : AV} {u v : Value} {c : Cnd} {r : AV} (hb : aindexAddr P t x ix = some (c, r)) (hC : c.ok) (hx : RelV m Mut w x u) (hi : RelV m Mut w ix v) :
 ∃ z, (Instr.indexAt t u v).run P w = .ok z w ∧ RelV m Mut w r z := by
 unfold aindexAddr at hb
 split at hb
 · rename_i k i
   rw [hi.inv_int]
   split at hb
   · rename_i e sz n f _
     have hu := seqOf_slice (t := t) (by assumption)
     split at hb
     · rename_i hh
       obtain ⟨hh, rfl⟩ := hh
       cases hb
       obtain ⟨h0, h1⟩ := hC
       cases hx with
       | sl _ _ _ b o cap val hn hc hbs hmu hsz hv hr =>
        have hlt : i.toNat < n := by omega
        refine ⟨.pointer (some ⟨b, o + i.toNat * szOf P e, none⟩), ?_, ?_⟩
        · simp [Instr.indexAt, asIntOf, run_underlying_some hu, h0, h1, run_sizeOf_has hh, addr_add]
        · refine .pp _ b _ (fun j => val i.toNat j) hbs hmu (fun j hj => hv _ _ hlt (by rw [hsz _ hlt] at hj; exact hj)) (fun j a ha => hr _ _ _ hlt ha)
       | sl0 _ _ a cap => exact absurd h1 (by omega)
     · cases hb
   · rename_i e id n sz off len hs
     have hu := seqOf_slice (t := t) (by assumption)
     split at hb
     · rename_i hh
       obtain ⟨hh, rfl⟩ := hh
       cases hb
       obtain ⟨h0, h1⟩ := hC
       cases hx with
       | ms _ _ _ _ _ b o C hm hc =>
        refine ⟨.pointer (some ⟨b, o + off * szOf P e + i.toNat * szOf P e, none⟩), ?_, ?_⟩
        · simp [Instr.indexAt, asIntOf, run_underlying_some hu, h0, h1, run_sizeOf_has hh, addr_add]
        · rw [show o + off * szOf P e + i.toNat * szOf P e = o + (off + i.toNat) * szOf P e + 0 by rw [Nat.add_mul]; omega]
          exact .ptr _ _ _ _ _ b o C hm
       | ms0 _ _ _ _ b o C a hm => exact absurd h1 (by omega)
     · cases hb
   · rename_i n e x hs
     have hu := seqOf_array (t := t) (by assumption)
     split at hb
     · rename_i hh
       simp only [Option.map_eq_some_iff, Prod.mk.injEq] at hb
       obtain ⟨y, hy, rfl, rfl⟩ := hb
       obtain ⟨h0, h1⟩ := hC
       obtain ⟨b, o, rfl, hr⟩ := aplace_sound hx hy
       refine ⟨_, ?_, hr⟩
       simp [Instr.indexAt, asIntOf, run_underlying_some hu, h0, h1, run_sizeOf_has hh, Instr.sureAddr, addr_add]
     · cases hb
   · cases hb
 · cases hb
theorem Col.ofList_go_get (k : IntKind) : ∀ (l : List AV) (xs : List Int), Col.ofList.go k l = some xs → xs.length = l.length ∧ ∀ i, i < l.length → l[i]? = some (.int k (xs.getD i 0)) := by
 intro l
 induction l with
 | nil => intro xs h; cases h; exact ⟨rfl, fun i hi => by simp at hi⟩
 | cons a l ih =>
  intro xs h
  cases a <;> simp only [Col.ofList.go, reduceCtorEq] at h
  split at h
  · rename_i hk
    subst hk
    simp only [Option.map_eq_some_iff] at h
    obtain ⟨ys, hy, rfl⟩ := h
    obtain ⟨h1, h2⟩ := ih ys hy
    refine ⟨by simp [h1], fun i hi => ?_⟩
    cases i with
    | zero => simp
    | succ i => simpa using h2 i (by simpa using hi)
  · cases h
theorem Col.ofList_gos_get : ∀ (l : List AV) (xs : List ByteArray), Col.ofList.gos l = some xs → xs.length = l.length ∧ ∀ i, i < l.length → l[i]? = some (.str (xs.getD i ByteArray.empty)) := by
 intro l
 induction l with
 | nil => intro xs h; cases h; exact ⟨rfl, fun i hi => by simp at hi⟩
 | cons a l ih =>
  intro xs h
  cases a <;> simp only [Col.ofList.gos, reduceCtorEq] at h
  simp only [Option.map_eq_some_iff] at h
  obtain ⟨ys, hy, rfl⟩ := h
  obtain ⟨h1, h2⟩ := ih ys hy
  refine ⟨by simp [h1], fun i hi => ?_⟩
  cases i with
  | zero => simp
  | succ i => simpa using h2 i (by simpa using hi)
theorem Col.ofList_gob_get : ∀ (l : List AV) (xs : List Bool), Col.ofList.gob l = some xs → xs.length = l.length ∧ ∀ i, i < l.length → l[i]? = some (.bool (xs.getD i false)) := by
 intro l
 induction l with
 | nil => intro xs h; cases h; exact ⟨rfl, fun i hi => by simp at hi⟩
 | cons a l ih =>
  intro xs h
  cases a <;> simp only [Col.ofList.gob, reduceCtorEq] at h
  simp only [Option.map_eq_some_iff] at h
  obtain ⟨ys, hy, rfl⟩ := h
  obtain ⟨h1, h2⟩ := ih ys hy
  refine ⟨by simp [h1], fun i hi => ?_⟩
  cases i with
  | zero => simp
  | succ i => simpa using h2 i (by simpa using hi)
theorem Col.ofList_get (l : List AV) : (Col.ofList l).len = l.length ∧ ∀ i, i < l.length → l[i]? = some ((Col.ofList l).get i) := by
 have gen : ∀ (l : List AV), ∀ i, i < l.length → l[i]? = some ((Col.gen l.length fun i => l.getD i .any).get i) := by
  intro l i hi
  simp [Col.get, List.getD, List.getElem?_eq_getElem hi]
 unfold Col.ofList
 split
 · exact ⟨rfl, fun i hi => by simp at hi⟩
 · rename_i k x r
   split
   · rename_i xs hx
     obtain ⟨h1, h2⟩ := Col.ofList_go_get k r xs hx
     refine ⟨by simp [Col.len, h1], fun i hi => ?_⟩
     cases i with
     | zero => simp [Col.get]
     | succ i => simpa [Col.get] using h2 i (by simpa using hi)
   · exact ⟨rfl, gen _⟩
 · rename_i x r
   split
   · rename_i xs hx
     obtain ⟨h1, h2⟩ := Col.ofList_gos_get r xs hx
     refine ⟨by simp [Col.len, h1], fun i hi => ?_⟩
     cases i with
     | zero => simp [Col.get]
     | succ i => simpa [Col.get] using h2 i (by simpa using hi)
   · exact ⟨rfl, gen _⟩
 · rename_i x r
   split
   · rename_i xs hx
     obtain ⟨h1, h2⟩ := Col.ofList_gob_get r xs hx
     refine ⟨by simp [Col.len, h1], fun i hi => ?_⟩
     cases i with
     | zero => simp [Col.get]
     | succ i => simpa [Col.get] using h2 i (by simpa using hi)
   · exact ⟨rfl, gen _⟩
 · rename_i v r _ _ _
   refine ⟨by simp [Col.len], fun i hi => ?_⟩
   simp only [Col.get, List.length_reverse]
   rw [if_pos hi, List.getD_eq_getElem?_getD, List.getElem?_reverse (by omega), show (v :: r).length - 1 - ((v :: r).length - 1 - i) = i by omega, List.getElem?_eq_getElem hi]
   rfl
theorem aindex_sound {t : TypeId} {x ix : AV} {u v : Value} {c : Cnd} {r : AV} (hb : aindex P t x ix = some (c, r)) (hC : c.ok) (hx : RelV m Mut w x u) (hi : RelV m Mut w ix v) :
 ∃ z, (Instr.index t u v).run P w = .ok z w ∧ RelV m Mut w r z := by
 unfold aindex at hb
 split at hb
 · rename_i k i
   rw [hi.inv_int]
   split at hb
   · rename_i s hs
     cases hb
     obtain ⟨h0, h1⟩ := hC
     rw [hx.inv_str, run_index_string w t s k i (seqOf_string (t := t) (by assumption)), dif_pos ⟨h0, h1⟩]
     refine ⟨_, rfl, ?_⟩
     have : sbyte s i.toNat = ((s[i.toNat]'(by omega)).toNat : Int) := by
      unfold sbyte
      have hlt : i.toNat < s.data.size := by have : s.size = s.data.size := rfl; omega
      rw [show s.data.getD i.toNat 0 = s.data[i.toNat] by simp only [Array.getD, hlt, dif_pos]; rfl]
      rfl
     rw [this]
     exact .int _ _
   · rename_i n e cs hs
     split at hb
     · rename_i hue
       split at hb
       · simp only [Option.map_eq_some_iff, Prod.mk.injEq] at hb
         obtain ⟨y, hy, rfl, rfl⟩ := hb
         obtain ⟨h0, h1⟩ := hC
         obtain ⟨us, rfl, hxl⟩ := hx.inv_agg
         obtain ⟨z, hz, hr⟩ := part_sound hxl hy hue
         refine ⟨z, ?_, hr⟩
         simp [Instr.index, asIntOf, run_underlying_some (seqOf_array (t := t) (by assumption)), h0, h1, run_sizeOf_has (takeT_has hy), hz]
       · rename_i hna
         split at hb
         · rename_i hq
           obtain ⟨hh, hsz, rfl⟩ := hq
           cases hb
           obtain ⟨h0, h1⟩ := hC
           obtain ⟨us, rfl, hxl⟩ := hx.inv_agg
           have hget := (Col.ofList_get cs).2 i.toNat (by omega)
           obtain ⟨z, hz, hr⟩ := hxl.get hget
           refine ⟨z, ?_, hr⟩
           have hpart : (part e us (i.toNat * szOf P e)).run P w = .ok z w := by
            simp only [part, Sem.run_bind, run_isAgg_has hue, Result.andThen_ok, hna, if_false, hsz, Nat.mul_one, Bool.false_eq_true, hz, Sem.run_pure]
           simp [Instr.index, asIntOf, run_underlying_some (seqOf_array (t := t) (by assumption)), h0, h1, run_sizeOf_has hh, hpart]
         · cases hb
     · cases hb
   · cases hb
 · cases hb
theorem alen_sound {t : TypeId} {x : AV} {u : Value} {ts : Array TypeId} {us : Array Value} {ty : TypeId} {r : AV} (H : RelH m Mut h w) (hb : alen P h t x = some r) (hts : ts[0]? = some t) (hus : us[0]? = some u) (hx : RelV m Mut w x u) :
 ∃ z, (Builtin.len_ ts ty us).run P w = .ok z w ∧ RelV m Mut w r z := by
 unfold alen at hb
 split at hb
 · rename_i s hs
   cases hb; rw [hx.inv_str] at hus
   exact ⟨_, by simp [Builtin.len_, hts, hus, run_underlying_some (seqOf_string (t := t) (by assumption))]; rfl, .int _ _⟩
 · rename_i e sz n f _
   cases hb
   have hu := seqOf_slice (t := t) (by assumption)
   cases hx with
   | sl _ _ _ b o cap val hn hc hbs hmu hsz hv hr => exact ⟨_, by simp [Builtin.len_, hts, hus, run_underlying_some hu]; rfl, .int _ _⟩
   | sl0 _ _ a cap => exact ⟨_, by simp [Builtin.len_, hts, hus, run_underlying_some hu]; rfl, .int _ _⟩
 · rename_i hs
   cases hb
   have hu := seqOf_slice (t := t) (by assumption)
   cases hx with
   | ms _ _ _ _ _ b o C hm hc => exact ⟨_, by simp [Builtin.len_, hts, hus, run_underlying_some hu]; rfl, .int _ _⟩
   | ms0 _ _ _ _ b o C a hm => exact ⟨_, by simp [Builtin.len_, hts, hus, run_underlying_some hu]; rfl, .int _ _⟩
 · rename_i hs
   cases hb
   have hu := seqOf_slice (t := t) (by assumption)
   cases hx with
   | snil a => exact ⟨_, by simp [Builtin.len_, hts, hus, run_underlying_some hu]; rfl, .int _ _⟩
 · rename_i n e x hs
   cases hb
   exact ⟨_, by simp [Builtin.len_, hts, hus, run_underlying_some (seqOf_array (t := t) (by assumption))]; rfl, .int _ _⟩
 · rename_i hs
   cases hb
   cases hx with
   | nilm => exact ⟨_, by simp [Builtin.len_, hts, hus, run_underlying_some (seqOf_map (t := t) (by assumption))]; rfl, .int _ _⟩
 · rename_i k e id hs
   split at hb
   · rename_i c hid
     cases hb
     obtain ⟨b, ents, clock, h1, h2, h3, h4⟩ := H.obj id _ hid
     cases hx with
     | mp _ b' o C hm =>
      rw [h1] at hm; cases hm
      refine ⟨_, ?_, .int _ _⟩
      have hsz : c.len = ents.size := by
       rw [← c.pairs_len, ← h4, List.length_map, Array.length_toList]
      rw [hsz]
      simp [Builtin.len_, hts, hus, run_underlying_some (seqOf_map (t := t) (by assumption)), getObj, Sem.run, h3]
      rfl
   · cases hb
 · cases hb
theorem list_toArray_get {fs : Array Field} {f : Nat} {fl : Field} (hf : fs.toList[f]? = some fl) : fs[f]? = some fl := by
 rw [← hf, Array.getElem?_toList]
theorem afield_sound {s : TypeId} {x : AV} {f : Nat} {u : Value} {r : AV} (hb : afield P s x f = some r) (hx : RelV m Mut w x u) : ∃ z, (Instr.field s u f).run P w = .ok z w ∧ RelV m Mut w r z := by
 unfold afield at hb
 split at hb
 · rename_i fs hs
   split at hb
   · rename_i fl hf
     split at hb
     · split at hb
       · rename_i hq
         obtain ⟨us, rfl, hxl⟩ := hx.inv_agg
         obtain ⟨z, hz, hr⟩ := part_sound hxl hb hq
         refine ⟨z, ?_, hr⟩
         simp [Instr.field, run_underlying_some (structOf_some hs), list_toArray_get hf, asAgg, hz]
       · cases hb
     · cases hb
   · cases hb
 · cases hb
theorem afieldAddr_sound {s : TypeId} {x : AV} {f : Nat} {u : Value} {r : AV} (hb : afieldAddr P s x f = some r) (hx : RelV m Mut w x u) : ∃ z, (Instr.fieldAt s u f).run P w = .ok z w ∧ RelV m Mut w r z := by
 unfold afieldAddr at hb
 split at hb
 · rename_i fs hs
   split at hb
   · rename_i fl hf
     split at hb
     · rename_i hh
       obtain ⟨b, o, rfl, hr⟩ := aplace_sound hx hb
       refine ⟨_, ?_, hr⟩
       simp [Instr.fieldAt, run_underlying_some (structOf_some hs), list_toArray_get hf, Instr.sureAddr, fieldPlace, run_sizeOf_has hh.1, hh.2, addr_add]
     · cases hb
   · cases hb
 · cases hb
theorem run_zeroValue {t : TypeId} {z : AV} (hz : zeroV P t = some z) : ∃ v, (zeroValue t).run P w = .ok v w ∧ z = ofV v ∧ ∃ i, P.info? t = some i ∧ i.zero = some v := by
 unfold zeroV at hz
 split at hz
 · rename_i i hi
   simp only [Option.map_eq_some_iff] at hz
   obtain ⟨v, hv, rfl⟩ := hz
   exact ⟨v, by simp [zeroValue, typeInfo, hi, hv], rfl, i, hi, hv⟩
 · cases hz
theorem splice_length : ∀ (cs : List AV) (i : Nat) (vs : List AV), (splice cs i vs).length = cs.length := by
 intro cs
 induction cs with
 | nil => intro i vs; cases vs <;> simp [splice]
 | cons c cs ih => intro i vs; cases vs with
  | nil => simp [splice]
  | cons v vs => cases i <;> simp [splice, ih]
theorem splice_get : ∀ (cs : List AV) (i : Nat) (vs : List AV) (j : Nat), (splice cs i vs)[j]? = if i ≤ j ∧ j < i + vs.length ∧ j < cs.length then vs[j - i]? else cs[j]? := by
 intro cs
 induction cs with
 | nil => intro i vs j; cases vs <;> simp [splice]
 | cons c cs ih =>
  intro i vs j
  cases vs with
  | nil => simp [splice]; omega
  | cons v vs =>
   cases i with
   | zero =>
    cases j with
    | zero => simp [splice]
    | succ j => simp [splice, ih]
   | succ i =>
    cases j with
    | zero => simp [splice]
    | succ j => simp [splice, ih]; congr 1; simp; omega
theorem foldl_set_get (vs : List Value) : ∀ (cs : Array Value) (off k : Nat) (j : Nat),
 ((vs.zipIdx k).foldl (fun cs (x : Value × Nat) => cs.setIfInBounds (off + x.2) x.1) cs)[j]? = if off + k ≤ j ∧ j < off + k + vs.length ∧ j < cs.size then vs[j - (off + k)]? else cs[j]? := by
 induction vs with
 | nil => intro cs off k j; simp; omega
 | cons v vs ih =>
  intro cs off k j
  simp only [List.zipIdx_cons, List.foldl_cons]
  rw [ih]
  simp only [Array.size_setIfInBounds, List.length_cons]
  by_cases h : off + k = j
  · subst h
    rw [if_neg (by omega)]
    by_cases hs : off + k < cs.size
    · rw [if_pos (by omega)]; simp [Array.getElem?_setIfInBounds, hs]
    · rw [if_neg (by omega)]; simp [Array.getElem?_setIfInBounds, hs]
  · by_cases h2 : off + (k + 1) ≤ j ∧ j < off + (k + 1) + vs.length ∧ j < cs.size
    · rw [if_pos h2, if_pos (by omega), show j - (off + k) = (j - (off + (k + 1))) + 1 by omega, List.getElem?_cons_succ]
    · rw [if_neg h2, if_neg (by omega), Array.getElem?_setIfInBounds, if_neg h]
theorem foldl_set_size (vs : List Value) : ∀ (cs : Array Value) (off k : Nat), ((vs.zipIdx k).foldl (fun cs (x : Value × Nat) => cs.setIfInBounds (off + x.2) x.1) cs).size = cs.size := by
 induction vs with
 | nil => intro cs off k; simp
 | cons v vs ih => intro cs off k; simp only [List.zipIdx_cons, List.foldl_cons]; rw [ih]; simp
theorem relL_splice {cs vs : List AV} {us xs : Array Value} {off : Nat} (hc : RelL m Mut w cs us) (hv : RelL m Mut w vs xs) :
 RelL m Mut w (splice cs off vs) (xs.zipIdx.foldl (fun cs (x : Value × Nat) => cs.setIfInBounds (off + x.2) x.1) us) := by
 have e : xs.zipIdx.foldl (fun cs (x : Value × Nat) => cs.setIfInBounds (off + x.2) x.1) us = (xs.toList.zipIdx 0).foldl (fun cs (x : Value × Nat) => cs.setIfInBounds (off + x.2) x.1) us := by
  rw [← Array.foldl_toList, Array.toList_zipIdx]
 rw [e]
 refine ⟨by rw [splice_length, foldl_set_size, hc.1], fun i a v ha hv' => ?_⟩
 rw [splice_get] at ha
 rw [foldl_set_get] at hv'
 have hl : vs.length = xs.toList.length := by have := hv.1; simpa using this
 have hl2 := hc.1
 by_cases h : off ≤ i ∧ i < off + vs.length ∧ i < cs.length
 · rw [if_pos h] at ha
   rw [if_pos (by omega)] at hv'
   exact hv.2 _ _ _ ha (by rw [← Array.getElem?_toList]; exact hv')
 · rw [if_neg h] at ha
   rw [if_neg (by omega)] at hv'
   exact hc.2 _ _ _ ha hv'
theorem buildCells_sound {place : Nat → Option (Nat × Nat)} : ∀ (parts : List (Nat × AV)) (uparts : List (Nat × Value)) (cs : List AV) (us : Array Value) (rs : List AV),
 buildCells parts place cs = some rs → RelL m Mut w cs us →
 (parts.length = uparts.length ∧ ∀ (i : Nat) p u, parts[i]? = some p → uparts[i]? = some u → p.1 = u.1 ∧ RelV m Mut w p.2 u.2 ∧ p.2 ≠ .any) →
 ∃ vs, Instr.fill place us uparts = some vs ∧ RelL m Mut w rs vs := by
 intro parts
 induction parts with
 | nil =>
  intro uparts cs us rs hb hr hp
  cases uparts with
  | nil => cases hb; exact ⟨us, rfl, hr⟩
  | cons u uparts => simp at hp
 | cons p parts ih =>
  intro uparts cs us rs hb hr hp
  cases uparts with
  | nil => simp at hp
  | cons u uparts =>
   obtain ⟨i, a⟩ := p
   obtain ⟨i', x⟩ := u
   obtain ⟨e1, e2, e3⟩ := hp.2 0 (i, a) (i', x) rfl rfl
   simp only at e1 e2 e3
   subst e1
   unfold buildCells at hb
   unfold Instr.fill
   cases hpl : place i with
   | none => rw [hpl] at hb; cases hb
   | some q =>
    obtain ⟨off, size⟩ := q
    rw [hpl] at hb
    simp only at hb ⊢
    split at hb
    · rename_i hh
      have hcells := relV_cells e2 e3
      have hl1 := hcells.1
      have hl2 := hr.1
      rw [if_neg (by simp; omega)]
      exact ih uparts _ _ rs hb (relL_splice hr hcells) ⟨by have := hp.1; simpa using this, fun j p u hj hu => hp.2 (j + 1) p u (by simpa using hj) (by simpa using hu)⟩
    · cases hb
theorem isAny_ne {a : AV} (h : a.isAny = false) : a ≠ .any := by rintro rfl; cases h
/-- The parts of a literal, abstract and concrete. -/
def RelP (m : IdMap) (Mut : Mu) (w : World) (ps : List (Nat × AV)) (us : List (Nat × Value)) : Prop :=
 ps.length = us.length ∧ ∀ (i : Nat) p u, ps[i]? = some p → us[i]? = some u → p.1 = u.1 ∧ RelV m Mut w p.2 u.2
theorem RelP.strict {ps : List (Nat × AV)} {us : List (Nat × Value)} (h : RelP m Mut w ps us) (ha : (ps.all fun p => !p.2.isAny) = true) :
 ps.length = us.length ∧ ∀ (i : Nat) p u, ps[i]? = some p → us[i]? = some u → p.1 = u.1 ∧ RelV m Mut w p.2 u.2 ∧ p.2 ≠ .any :=
 ⟨h.1, fun i p u hp hu => ⟨(h.2 i p u hp hu).1, (h.2 i p u hp hu).2, isAny_ne (by
  have := List.all_eq_true.1 ha p (List.mem_of_getElem? hp)
  simpa using this)⟩⟩
theorem run_mapM_places {fs : Array Field} (hh : ∀ f ∈ fs.toList, hasT P f.type = true) :
 (fs.mapM fun f => do pure (f.offset, ← sizeOf f.type) : Sem (Array (Nat × Nat))).run P w = .ok (fs.map fun f => (f.offset, szOf P f.type)) w := by
 rw [Array.mapM_eq_mapM_toList]
 have key : ∀ l : List Field, (∀ f ∈ l, hasT P f.type = true) → (l.mapM fun f => do pure (f.offset, ← sizeOf f.type) : Sem (List (Nat × Nat))).run P w = .ok (l.map fun f => (f.offset, szOf P f.type)) w := by
  intro l
  induction l with
  | nil => intro _; rfl
  | cons f l ih =>
   intro hl
   simp only [List.mapM_cons, Sem.run_bind, run_sizeOf_has (hl f (List.mem_cons_self ..)), Result.andThen_ok, Sem.run_pure, ih fun g hg => hl g (List.mem_cons_of_mem _ hg), List.map_cons]
 simp only [Sem.run_map, key _ hh, Result.andThen_ok]
 congr 1
 apply Array.ext'
 simp
theorem abuild_sound {t : TypeId} {ps : List (Nat × AV)} {us : Array (Nat × Value)} {r : AV} (hb : abuild P t ps = some r) (hp : RelP m Mut w ps us.toList) :
 ∃ z, (Instr.build t us).run P w = .ok z w ∧ RelV m Mut w r z := by
 unfold abuild at hb
 split at hb
 · rename_i fs hs
   split at hb
   · rename_i hh
     split at hb
     · rename_i z hz
       split at hb
       · cases hb
       · rename_i hna
         simp only [Option.map_eq_some_iff] at hb
         obtain ⟨rs, hrs, rfl⟩ := hb
         obtain ⟨v, hv, rfl, _⟩ := run_zeroValue (w := w) hz
         have hzr := relV_cells (ofV_rel (m := m) (Mut := Mut) (w := w) v) (isAny_ne (by simpa using hna))
         obtain ⟨vs, hfill, hrel⟩ := buildCells_sound _ _ _ _ _ hrs hzr (hp.strict hh.2)
         refine ⟨.agg vs, ?_, .agg _ _ hrel.1 hrel.2⟩
         simp only [Instr.build, Sem.run_bind, hv, Result.andThen_ok, run_underlying_some (structOf_some hs), run_mapM_places (fun f hf => List.all_eq_true.1 hh.1 f hf)]
         have hpl : (fun i : Nat => (fs.toList[i]?).map fun (f : Field) => (f.offset, szOf P f.type)) = fun i : Nat => (fs.map fun (f : Field) => (f.offset, szOf P f.type))[i]? := by
          funext i
          rw [Array.getElem?_map, Array.getElem?_toList]
         rw [hpl] at hfill
         simp only [hfill, Sem.run_pure]
     · cases hb
   · cases hb
 · split at hb
   · rename_i n e hs
     split at hb
     · rename_i hh
       split at hb
       · rename_i z hz
         split at hb
         · cases hb
         · rename_i hna
           simp only [Option.map_eq_some_iff] at hb
           obtain ⟨rs, hrs, rfl⟩ := hb
           obtain ⟨v, hv, rfl, _⟩ := run_zeroValue (w := w) hz
           have hzr := relV_cells (ofV_rel (m := m) (Mut := Mut) (w := w) v) (isAny_ne (by simpa using hna))
           obtain ⟨vs, hfill, hrel⟩ := buildCells_sound _ _ _ _ _ hrs hzr (hp.strict hh.2)
           refine ⟨.agg vs, ?_, .agg _ _ hrel.1 hrel.2⟩
           simp only [Instr.build, Sem.run_bind, hv, Result.andThen_ok, run_underlying_some (seqOf_array (t := t) (by assumption)), run_sizeOf_has hh.1, hfill, Sem.run_pure]
       · cases hb
     · cases hb
   · cases hb
theorem fill_inOrder {size : Nat} : ∀ (ps : List (Nat × AV)) (us : List (Nat × Value)) (vs : List AV) (k : Nat) (cs : Array Value),
 inOrder ps k = some vs → RelP m Mut w ps us → (vs.all fun v => v.cells.length == size && !v.isAny) = true → (k + vs.length) * size ≤ cs.size →
 ∃ cs', Instr.fill (fun i => some (i * size, size)) cs us = some cs' ∧ cs'.size = cs.size ∧ (∀ j, j < k * size → cs'[j]? = cs[j]?) ∧
  ∀ (i j : Nat) (v a : AV), vs[i]? = some v → v.cells[j]? = some a → ∃ x, cs'[(k + i) * size + j]? = some x ∧ RelV m Mut w a x := by
 intro ps
 induction ps with
 | nil =>
  intro us vs k cs hi hr hall hs
  cases us with
  | nil => cases hi; exact ⟨cs, rfl, rfl, fun _ _ => rfl, fun i j v a hv => by simp at hv⟩
  | cons u us => have := hr.1; simp at this
 | cons p ps ih =>
  intro us vs k cs hi hr hall hs
  cases us with
  | nil => have := hr.1; simp at this
  | cons u us =>
   obtain ⟨i0, a0⟩ := p
   obtain ⟨i1, x0⟩ := u
   obtain ⟨e1, e2⟩ := hr.2 0 (i0, a0) (i1, x0) rfl rfl
   simp only at e1 e2
   subst e1
   unfold inOrder at hi
   split at hi
   · rename_i hk
     subst hk
     simp only [Option.map_eq_some_iff] at hi
     obtain ⟨vs', hvs, rfl⟩ := hi
     simp only [List.all_cons, Bool.and_eq_true, beq_iff_eq, Bool.not_eq_true'] at hall
     obtain ⟨⟨hl, hna⟩, hall⟩ := hall
     have hcells := relV_cells e2 (isAny_ne hna)
     simp only [List.length_cons] at hs
     have hs' : (i0 + 1 + vs'.length) * size ≤ cs.size := by rw [show i0 + 1 + vs'.length = i0 + (vs'.length + 1) by omega]; exact hs
     have hsz : i0 * size + size ≤ cs.size := by
      have : (i0 + 1) * size ≤ (i0 + 1 + vs'.length) * size := Nat.mul_le_mul_right _ (by omega)
      rw [Nat.succ_mul] at this
      omega
     unfold Instr.fill
     have hl1 := hcells.1
     simp only
     rw [if_neg (by simp; omega)]
     have e : x0.cells.zipIdx.foldl (fun cs (x : Value × Nat) => cs.setIfInBounds (i0 * size + x.2) x.1) cs = (x0.cells.toList.zipIdx 0).foldl (fun cs (x : Value × Nat) => cs.setIfInBounds (i0 * size + x.2) x.1) cs := by
      rw [← Array.foldl_toList, Array.toList_zipIdx]
     obtain ⟨cs', h1, h2, h3, h4⟩ := ih us vs' (i0 + 1) (x0.cells.zipIdx.foldl (fun cs (x : Value × Nat) => cs.setIfInBounds (i0 * size + x.2) x.1) cs) hvs
      ⟨by have := hr.1; simpa using this, fun j p u hj hu => hr.2 (j + 1) p u (by simpa using hj) (by simpa using hu)⟩ hall (by rw [e, foldl_set_size]; exact hs')
     rw [e, foldl_set_size] at h2
     refine ⟨cs', h1, h2, fun j hj => ?_, fun i j v a hv ha => ?_⟩
     · rw [h3 j (by rw [Nat.succ_mul]; omega), e, foldl_set_get, if_neg (by omega)]
     · cases i with
       | zero =>
        simp only [List.getElem?_cons_zero, Option.some.injEq] at hv
        subst hv
        have hj : j < a0.cells.length := by
         rcases Nat.lt_or_ge j a0.cells.length with q | q
         · exact q
         · rw [List.getElem?_eq_none q] at ha; cases ha
        obtain ⟨x, hx, hrx⟩ := hcells.get ha
        refine ⟨x, ?_, hrx⟩
        simp only [Nat.add_zero]
        rw [h3 _ (by rw [Nat.succ_mul]; omega), e, foldl_set_get, if_pos ⟨by omega, by simp; omega, by omega⟩, ← hx, ← Array.getElem?_toList]
        congr 1
        omega
       | succ i =>
        obtain ⟨x, hx, hrx⟩ := h4 i j v a (by simpa using hv) ha
        refine ⟨x, ?_, hrx⟩
        rw [← hx]
        congr 2
        rw [show i0 + 1 + i = i0 + (i + 1) by omega]
   · cases hi
end
end Go.Proofs.Ytjdbmmilcihpoaa
namespace Go.Proofs.Ytjdbmmilcihpoaa
set_option linter.unusedVariables false
set_option linter.unusedSimpArgs false
def putI : List (Int × Int) → Int → Int → List (Int × Int)
 | [], x, v => [(x, v)]
 | e :: es, x, v => bif x == e.1 then (e.1, v) :: es else e :: putI es x v
def putS : List (ByteArray × Int) → ByteArray → Int → List (ByteArray × Int)
 | [], x, v => [(x, v)]
 | e :: es, x, v => bif x.toList == e.1.toList then (e.1, v) :: es else e :: putS es x v
def addS (ks : List ByteArray) (s : ByteArray) : List ByteArray := bif hasS ks s then ks else ks ++ [s]
def addI (ks : List Int) (x : Int) : List Int := bif hasI ks x then ks else ks ++ [x]
/-- A map with a value laid at a key. -/
def MCol.upd : MCol → AV → AV → Option MCol
 | .sset ks, .str s, .bool true => some (.sset (addS ks s))
 | .iset k ks, .int k' x, .bool true => if k = k' then some (.iset k (addI ks x)) else none
 | .imap k kv es, .int k' x, .int kv' v => if k = k' ∧ kv = kv' then some (.imap k kv (putI es x v)) else none
 | .smap kv es, .str s, .int kv' v => if kv = kv' then some (.smap kv (putS es s v)) else none
 | _, _, _ => none
def amapUpd (P : Program) (h : AHeap) (t : TypeId) (x k v : AV) : Option AHeap :=
 match mapOf P t, x with
 | some (kt, vt), .mp id => match h[id]? with
  | some (.map c) => if c.keyT kt = true ∧ c.zeroIs vt = true then (c.upd k v).map fun c' => h.set id (.map c') else none
  | _ => none
 | _, _ => none
def amkMap (P : Program) (h : AHeap) (t : TypeId) : Option (AV × AHeap) :=
 match mapOf P t with
 | some (.string, .bool false) => some (.mp h.length, h ++ [.map (.sset [])])
 | some (.int k, .bool false) => some (.mp h.length, h ++ [.map (.iset k [])])
 | some (.int k, .int k' 0) => some (.mp h.length, h ++ [.map (.imap k k' [])])
 | some (.string, .int k' 0) => some (.mp h.length, h ++ [.map (.smap k' [])])
 | _ => none
def fnd (p : MapEntry → Bool) : List MapEntry → Nat → Option (Nat × Value)
 | [], _ => none
 | e :: es, i => bif p e then some (i, e.val) else fnd p es (i + 1)
theorem findNow_fnd {kd : TypeDesc} {k : Value} {p : MapEntry → Bool} : ∀ (es : List MapEntry) (i : Nat), (∀ e, e ∈ es → Instr.sameNow kd k e.key = some (p e)) → Instr.findNow kd k es i = some (fnd p es i) := by
 intro es
 induction es with
 | nil => intro i _; rfl
 | cons e es ih =>
  intro i h
  unfold Instr.findNow fnd
  rw [h e (List.mem_cons_self ..)]
  cases p e with
  | true => rfl
  | false => exact ih (i + 1) fun x hx => h x (List.mem_cons_of_mem _ hx)
def putE (p : MapEntry → Bool) (f : MapEntry → MapEntry) (new : MapEntry) : List MapEntry → List MapEntry
 | [] => [new]
 | e :: es => bif p e then f e :: es else e :: putE p f new es
theorem putE_none {p : MapEntry → Bool} {f : MapEntry → MapEntry} {new : MapEntry} : ∀ (es : List MapEntry) (i : Nat), fnd p es i = none → putE p f new es = es ++ [new] := by
 intro es
 induction es with
 | nil => intro i _; rfl
 | cons e es ih =>
  intro i h
  unfold fnd at h
  unfold putE
  cases hp : p e with
  | true => rw [hp] at h; cases h
  | false => rw [hp] at h; rw [cond_false, ih (i + 1) h]; rfl
theorem putE_some {p : MapEntry → Bool} {f : MapEntry → MapEntry} {new : MapEntry} : ∀ (es : List MapEntry) (i j : Nat) (v : Value), fnd p es i = some (j, v) → ∃ q, j = i + q ∧ putE p f new es = es.modify q f ∧ ∃ e, es[q]? = some e ∧ p e = true ∧ e.val = v := by
 intro es
 induction es with
 | nil => intro i j v h; cases h
 | cons e es ih =>
  intro i j v h
  unfold fnd at h
  unfold putE
  cases hp : p e with
  | true =>
   rw [hp] at h; cases h
   exact ⟨0, rfl, rfl, e, rfl, hp, rfl⟩
  | false =>
   rw [hp] at h
   obtain ⟨q, h1, h2, h3⟩ := ih (i + 1) j v h
   exact ⟨q + 1, by omega, by rw [cond_false, h2]; rfl, h3⟩
/-- What the entry's key says of a key. -/
def keyP : AV → MapEntry → Bool
 | .str s, e => match e.key with | .string t => s.toList == t.toList | _ => false
 | .int _ x, e => match e.key with | .int _ y => x == y | _ => false
 | _, _ => false
def kv (e : MapEntry) : Value × Value := (e.key, e.val)
/-- The key aas a value. -/
def keyV : AV → Value
 | .str s => .string s
 | .int k x => .int k x
 | _ => .bool false
/-- What a column says of a key agrees with the search through the entries. -/
def LookOk (c : MCol) (kd : TypeDesc) (key : AV) : Prop :=
 ∀ es : List MapEntry, es.map kv = c.pairs →
  (∀ e, e ∈ es → Instr.sameNow kd (keyV key) e.key = some (keyP key e)) ∧
  (∀ e, e ∈ es → keyP key e = true → Instr.sameBits 10000 e.key (keyV key) = true ∧ e.key = keyV key)
theorem mem_key {es : List MapEntry} {α : Type} {f : α → Value × Value} {xs : List α} (h : es.map kv = xs.map f) {e : MapEntry} (he : e ∈ es) : ∃ x, x ∈ xs ∧ kv e = f x := by
 have : kv e ∈ es.map kv := List.mem_map_of_mem he
 rw [h] at this
 obtain ⟨x, hx, e'⟩ := List.mem_map.1 this
 exact ⟨x, hx, e'.symm⟩
theorem str_of_toList {a b : ByteArray} (h : (a.toList == b.toList) = true) : a = b := by
 have h := eq_of_beq h
 rw [ByteArray.toList_eq, ByteArray.toList_eq] at h
 obtain ⟨⟨x⟩⟩ := a
 obtain ⟨⟨y⟩⟩ := b
 exact congrArg (fun l => ByteArray.mk ⟨l⟩) h
theorem lookOk {c : MCol} {kd : TypeDesc} {key : AV} {r : AV × Bool} (hk : c.keyT kd = true) (hl : c.look key = some r) : LookOk c kd key := by
 intro es hes
 cases c with
 | sset ks =>
  cases kd <;> first | cases hk | skip
  cases key <;> first | cases hl | skip
  refine ⟨fun e he => ?_, fun e he hp => ?_⟩
  · obtain ⟨x, _, hx⟩ := mem_key hes he
    have hx1 : e.key = .string x := congrArg Prod.fst hx
    simp only [Instr.sameNow, keyV, keyP, hx1, beq_toListBytes]
  · obtain ⟨x, _, hx⟩ := mem_key hes he
    have hx1 : e.key = .string x := congrArg Prod.fst hx
    simp only [keyP, hx1] at hp
    have := str_of_toList hp
    subst this
    rw [hx1]
    exact ⟨by simp [Instr.sameBits, keyV, beq_toListBytes], rfl⟩
 | smap kx ks =>
  cases kd <;> first | cases hk | skip
  cases key <;> first | cases hl | skip
  refine ⟨fun e he => ?_, fun e he hp => ?_⟩
  · obtain ⟨x, _, hx⟩ := mem_key hes he
    have hx1 : e.key = .string x.1 := congrArg Prod.fst hx
    simp only [Instr.sameNow, keyV, keyP, hx1, beq_toListBytes]
  · obtain ⟨x, _, hx⟩ := mem_key hes he
    have hx1 : e.key = .string x.1 := congrArg Prod.fst hx
    simp only [keyP, hx1] at hp
    have := str_of_toList hp
    subst this
    rw [hx1]
    exact ⟨by simp [Instr.sameBits, keyV, beq_toListBytes], rfl⟩
 | iset k ks =>
  cases kd <;> first | cases hk | skip
  cases key <;> first | cases hl | skip
  rename_i k1 k2 n
  simp only [MCol.keyT, beq_iff_eq] at hk
  subst hk
  simp only [MCol.look] at hl
  split at hl
  · rename_i hkk
    subst hkk
    refine ⟨fun e he => ?_, fun e he hp => ?_⟩
    · obtain ⟨x, _, hx⟩ := mem_key hes he
      have hx1 : e.key = .int k x := congrArg Prod.fst hx
      simp only [Instr.sameNow, keyV, keyP, hx1, if_true]
    · obtain ⟨x, _, hx⟩ := mem_key hes he
      have hx1 : e.key = .int k x := congrArg Prod.fst hx
      simp only [keyP, hx1, beq_iff_eq] at hp
      subst hp
      rw [hx1]
      exact ⟨by simp [Instr.sameBits, keyV, beq_toListBytes], rfl⟩
  · cases hl
 | imap k kv' ks =>
  cases kd <;> first | cases hk | skip
  cases key <;> first | cases hl | skip
  rename_i k1 k2 n
  simp only [MCol.keyT, beq_iff_eq] at hk
  subst hk
  simp only [MCol.look] at hl
  split at hl
  · rename_i hkk
    subst hkk
    refine ⟨fun e he => ?_, fun e he hp => ?_⟩
    · obtain ⟨x, _, hx⟩ := mem_key hes he
      have hx1 : e.key = .int k x.1 := congrArg Prod.fst hx
      simp only [Instr.sameNow, keyV, keyP, hx1, if_true]
    · obtain ⟨x, _, hx⟩ := mem_key hes he
      have hx1 : e.key = .int k x.1 := congrArg Prod.fst hx
      simp only [keyP, hx1, beq_iff_eq] at hp
      subst hp
      rw [hx1]
      exact ⟨by simp [Instr.sameBits, keyV, beq_toListBytes], rfl⟩
  · cases hl
/-- The value found. -/
def zeroOf : MCol → Value
 | .sset _ => .bool false
 | .iset _ _ => .bool false
 | .imap _ k _ => .int k 0
 | .smap k _ => .int k 0
def asVal : AV → Value
 | .bool b => .bool b
 | .int k n => .int k n
 | _ => .bool false
theorem look_fnd {c : MCol} {key : AV} {r : AV × Bool} (hl : c.look key = some r) : ∀ (es : List MapEntry) (i : Nat), es.map kv = c.pairs →
 (match fnd (keyP key) es i with | some (_, v) => asVal r.1 = v ∧ r.2 = true | none => asVal r.1 = zeroOf c ∧ r.2 = false) ∧ ((∃ b, r.1 = .bool b) ∨ ∃ k n, r.1 = .int k n) := by
 cases c with
 | sset ks =>
  cases key <;> first | cases hl | skip
  rename_i s
  intro es i hes
  refine ⟨?_, .inl ⟨_, rfl⟩⟩
  induction ks generalizing es i with
  | nil =>
   cases es with
   | nil => exact ⟨rfl, rfl⟩
   | cons e es => cases hes
  | cons x ks ih =>
   cases es with
   | nil => cases hes
   | cons e es =>
    simp only [List.map_cons, MCol.pairs, List.cons.injEq] at hes
    obtain ⟨h1, h2⟩ := hes
    have hk : e.key = .string x := congrArg Prod.fst h1
    have hv : e.val = .bool true := congrArg Prod.snd h1
    have := ih es (i + 1) h2
    unfold fnd
    simp only [keyP, hk]
    cases hq : s.toList == x.toList with
    | true =>
     simp only [cond_true, hv]
     have : hasS (x :: ks) s = true := by unfold hasS; rw [List.any_cons, hq]; rfl
     rw [this]
     exact ⟨rfl, rfl⟩
    | false =>
     simp only [cond_false]
     have e2 : hasS (x :: ks) s = hasS ks s := by unfold hasS; rw [List.any_cons, hq]; rfl
     rw [e2]
     exact this
 | iset k ks =>
  cases key <;> first | cases hl | skip
  rename_i k2 s
  simp only [MCol.look] at hl
  split at hl
  · simp only [Option.some.injEq] at hl
    subst hl
    intro es i hes
    refine ⟨?_, .inl ⟨_, rfl⟩⟩
    induction ks generalizing es i with
    | nil =>
     cases es with
     | nil => exact ⟨rfl, rfl⟩
     | cons e es => cases hes
    | cons x ks ih =>
     cases es with
     | nil => cases hes
     | cons e es =>
      simp only [List.map_cons, MCol.pairs, List.cons.injEq] at hes
      obtain ⟨h1, h2⟩ := hes
      have hk : e.key = .int k x := congrArg Prod.fst h1
      have hv : e.val = .bool true := congrArg Prod.snd h1
      have := ih es (i + 1) h2
      unfold fnd
      simp only [keyP, hk]
      cases hq : s == x with
      | true =>
       simp only [cond_true, hv]
       have : hasI (x :: ks) s = true := by unfold hasI; rw [List.any_cons, hq]; rfl
       rw [this]
       exact ⟨rfl, rfl⟩
      | false =>
       simp only [cond_false]
       have e2 : hasI (x :: ks) s = hasI ks s := by unfold hasI; rw [List.any_cons, hq]; rfl
       rw [e2]
       exact this
  · cases hl
 | imap k k3 ks =>
  cases key <;> first | cases hl | skip
  rename_i k2 s
  simp only [MCol.look] at hl
  split at hl
  · simp only [Option.some.injEq] at hl
    subst hl
    intro es i hes
    refine ⟨?_, .inr ⟨_, _, rfl⟩⟩
    induction ks generalizing es i with
    | nil =>
     cases es with
     | nil => exact ⟨rfl, rfl⟩
     | cons e es => cases hes
    | cons x ks ih =>
     cases es with
     | nil => cases hes
     | cons e es =>
      simp only [List.map_cons, MCol.pairs, List.cons.injEq] at hes
      obtain ⟨h1, h2⟩ := hes
      have hk : e.key = .int k x.1 := congrArg Prod.fst h1
      have hv : e.val = .int k3 x.2 := congrArg Prod.snd h1
      have := ih es (i + 1) h2
      unfold fnd
      simp only [keyP, hk]
      cases hq : s == x.1 with
      | true =>
       simp only [cond_true, hv]
       have : valI (x :: ks) s = some x.2 := by unfold valI; rw [List.find?_cons, hq]; rfl
       rw [this]
       exact ⟨rfl, rfl⟩
      | false =>
       simp only [cond_false]
       have e2 : valI (x :: ks) s = valI ks s := by unfold valI; rw [List.find?_cons, hq]
       rw [e2]
       exact this
  · cases hl
 | smap k3 ks =>
  cases key <;> first | cases hl | skip
  rename_i s
  intro es i hes
  refine ⟨?_, .inr ⟨_, _, rfl⟩⟩
  induction ks generalizing es i with
  | nil =>
   cases es with
   | nil => exact ⟨rfl, rfl⟩
   | cons e es => cases hes
  | cons x ks ih =>
   cases es with
   | nil => cases hes
   | cons e es =>
    simp only [List.map_cons, MCol.pairs, List.cons.injEq] at hes
    obtain ⟨h1, h2⟩ := hes
    have hk : e.key = .string x.1 := congrArg Prod.fst h1
    have hv : e.val = .int k3 x.2 := congrArg Prod.snd h1
    have := ih es (i + 1) h2
    unfold fnd
    simp only [keyP, hk]
    cases hq : s.toList == x.1.toList with
    | true =>
     simp only [cond_true, hv]
     have : valS (x :: ks) s = some x.2 := by unfold valS; rw [List.find?_cons, hq]; rfl
     rw [this]
     exact ⟨rfl, rfl⟩
    | false =>
     simp only [cond_false]
     have e2 : valS (x :: ks) s = valS ks s := by unfold valS; rw [List.find?_cons, hq]
     rw [e2]
     exact this
section
variable {m : IdMap} {Mut : Mu} {w : World} {P : Program} {h : AHeap}
theorem checkKey_run {e : Bool} {t : TypeId} {d : TypeDesc} {c : MCol} {key : AV} {r : AV × Bool} (hu : P.underlying t = some d) (hk : c.keyT d = true) (hl : c.look key = some r) : (Instr.checkKey e 10000 t (keyV key)).run P w = .ok () w := by
 rw [show (10000 : Nat) = 9999 + 1 from rfl]
 unfold Instr.checkKey
 rw [Sem.run_bind, run_underlying_some hu, Result.andThen_ok]
 cases c <;> cases d <;> first | cases hk | skip
 all_goals (cases key <;> first | (cases hl; done) | (simp only [keyV, Sem.run_pure]; done) | rfl)
theorem key_rel {c : MCol} {key : AV} {r : AV × Bool} {u : Value} (hl : c.look key = some r) (hr : RelV m Mut w key u) : u = keyV key := by
 cases c <;> cases key <;> first | (cases hl; done) | (exact hr.inv_str) | (exact hr.inv_int)
theorem zero_run {c : MCol} {e : TypeId} {z : AV} (hz : zeroV P e = some z) (hc : c.zeroIs z = true) : (zeroValue e).run P w = .ok (zeroOf c) w := by
 obtain ⟨v, h1, rfl, _⟩ := run_zeroValue (w := w) hz
 rw [h1]
 have hr := ofV_rel (m := fun _ _ => none) (Mut := ⟨fun _ => False, fun _ => False, fun _ h => h⟩) (w := w) v
 cases c with
 | sset ks =>
  cases e : ofV v <;> rw [e] at hc <;> first | cases hc | skip
  rw [e] at hr
  rw [hr.inv_bool]
  simp only [MCol.zeroIs, Bool.not_eq_true'] at hc
  rw [hc]; rfl
 | iset k ks =>
  cases e : ofV v <;> rw [e] at hc <;> first | cases hc | skip
  rw [e] at hr
  rw [hr.inv_bool]
  simp only [MCol.zeroIs, Bool.not_eq_true'] at hc
  rw [hc]; rfl
 | imap k kv ks =>
  cases e : ofV v <;> rw [e] at hc <;> first | cases hc | skip
  rw [e] at hr
  rw [hr.inv_int]
  simp only [MCol.zeroIs, Bool.and_eq_true, beq_iff_eq] at hc
  rw [← hc.1, hc.2]; rfl
 | smap kv ks =>
  cases e : ofV v <;> rw [e] at hc <;> first | cases hc | skip
  rw [e] at hr
  rw [hr.inv_int]
  simp only [MCol.zeroIs, Bool.and_eq_true, beq_iff_eq] at hc
  rw [← hc.1, hc.2]; rfl
theorem mapOf_some {t : TypeId} {kt : TypeDesc} {vt : AV} (h : mapOf P t = some (kt, vt)) : ∃ k e, P.underlying t = some (.map k e) ∧ P.underlying k = some kt ∧ zeroV P e = some vt := by
 unfold mapOf at h
 split at h
 · rename_i k e hu
   split at h
   · rename_i a b ha hb
     cases h
     exact ⟨k, e, hu, ha, hb⟩
   · cases h
 · cases h
theorem getObj_run {b : Nat} {ents : Array MapEntry} {cl : Nat} (hb : w.heap[b]? = some (.map ents cl)) : (getObj b).run P w = .ok (.map ents cl) w := by simp [getObj, Sem.run, hb]
theorem findKey_run {kt : TypeId} {kd : TypeDesc} {c : MCol} {key : AV} {r : AV × Bool} {es : Array MapEntry} (hu : P.underlying kt = some kd) (hk : c.keyT kd = true) (hl : c.look key = some r) (hm : MRel c es) :
 (Instr.findKey kt (keyV key) es.toList).run P w = .ok (fnd (keyP key) es.toList 0) w := by
 unfold Instr.findKey
 rw [Sem.run_bind, run_underlying_some hu, Result.andThen_ok, findNow_fnd (p := keyP key) es.toList 0 (lookOk hk hl es.toList hm).1]
 rfl
theorem alook_sound {t : TypeId} {x y : AV} {ok : Bool} {u v : Value} {c : Cnd} {r : AV} (H : RelH m Mut h w) (hb : alook P h t x y ok = some (c, r)) (hx : RelV m Mut w x u) (hy : RelV m Mut w y v) :
 ∃ z, (Instr.lookup t u v ok).run P w = .ok z w ∧ RelV m Mut w r z := by
 unfold alook at hb
 split at hb
 · rename_i kt vt id hmo
   split at hb
   · rename_i col hid
     split at hb
     · rename_i hcc
       obtain ⟨hk, hz⟩ := hcc
       simp only [Option.map_eq_some_iff, Prod.mk.injEq] at hb
       obtain ⟨r0, hl, rfl, rfl⟩ := hb
       obtain ⟨k, e, h1, h2, h3⟩ := mapOf_some hmo
       obtain ⟨b, ents, clock, g1, g2, g3, g4⟩ := H.obj id _ hid
       obtain rfl := key_rel hl hy
       cases hx with
       | mp _ b' o' C' hm =>
        rw [g1] at hm; cases hm
        obtain ⟨hf, hsh⟩ := look_fnd hl ents.toList 0 g4
        have base : (Instr.lookup t (.map (some b)) (keyV y) ok).run P w = .ok (if ok then .tuple #[asVal r0.1, .bool r0.2] else asVal r0.1) w := by
         unfold Instr.lookup
         simp only [Sem.run_bind, run_underlying_some h1, Result.andThen_ok, getObj_run g3, Sem.run_pure, checkKey_run h2 hk hl, findKey_run h2 hk hl g4]
         cases hfn : fnd (keyP y) ents.toList 0 with
         | none =>
          rw [hfn] at hf
          simp only [Sem.run_bind, zero_run h3 hz, Result.andThen_ok, Sem.run_pure, hf.1, hf.2]
         | some jv =>
          obtain ⟨j, v0⟩ := jv
          rw [hfn] at hf
          simp only [Sem.run_bind, Sem.run_pure, Result.andThen_ok, hf.1, hf.2]
        have hrel : RelV m Mut w r0.1 (asVal r0.1) := by
         rcases hsh with ⟨q, e⟩ | ⟨q, n, e⟩
         · rw [e]; exact .bool _
         · rw [e]; exact .int _ _
        refine ⟨_, base, ?_⟩
        cases ok with
        | false => exact hrel
        | true =>
         refine .tup _ _ rfl fun i a z ha hz => ?_
         match i with
         | 0 => simp at ha hz; subst ha; subst hz; exact hrel
         | 1 => simp at ha hz; subst ha; subst hz; exact .bool _
         | i + 2 => simp at ha
     · cases hb
   · cases hb
 · cases hb
theorem aslice3_sound {t : TypeId} {x hi mx : AV} {u vh vm : Value} {c : Cnd} {r : AV} (hb : aslice3 P t x hi mx = some (c, r)) (hx : RelV m Mut w x u) (hh : RelV m Mut w hi vh) (hm : RelV m Mut w mx vm) :
 ∃ z, (Instr.sliceAt t u none (some vh) (some vm)).run P w = .ok z w ∧ RelV m Mut w r z := by
 unfold aslice3 at hb
 split at hb
 · rename_i e k1 k2 hs
   split at hb
   · rename_i hT
     have hu := seqOf_slice hs
     rw [hh.inv_int, hm.inv_int]
     have key : ∀ (a : Option Addr) (len cap : Nat), ∃ z, (Instr.sliceAt t (.slice a len cap) none (some (.int k1 0)) (some (.int k2 0))).run P w = .ok z w ∧ RelV m Mut w .snil z := fun a len cap => by
      refine ⟨.slice a 0 0, ?_, .snil a⟩
      simp [Instr.sliceAt, Instr.slice, Instr.sliceBounds, Instr.sliceBound, asIntOf, run_underlying_some hu, run_sizeOf_has hT]
     split at hb
     · cases hb
       cases hx with
       | sl => exact key _ _ _
       | sl0 => exact key _ _ _
     · cases hb
       cases hx with
       | ms => exact key _ _ _
       | ms0 => exact key _ _ _
     · cases hb
       cases hx with
       | snil a => exact key _ _ _
     · cases hb
   · cases hb
 · cases hb
theorem heap_alloc_self' (w : World) (o : Obj) : (w.alloc o).heap[w.heap.size]? = some o := by
 show (w.heap.push o)[w.heap.size]? = _
 simp
theorem amkMap_sound {t : TypeId} {v : AV} {h' : AHeap} (H : RelH m Mut h w) (hb : amkMap P h t = some (v, h')) :
 ∃ y m' Mut' w', (Instr.makeMap t none).run P w = .ok y w' ∧ Ext m Mut w m' Mut' w' ∧ RelH m' Mut' h' w' ∧ RelV m' Mut' w' v y := by
 have all : ∀ c : MCol, c.pairs = [] → ∃ y m' Mut' w', (Instr.makeMap t none).run P w = .ok y w' ∧ Ext m Mut w m' Mut' w' ∧ RelH m' Mut' (h ++ [.map c]) w' ∧ RelV m' Mut' w' (.mp h.length) y := fun c hc => by
  obtain ⟨H', E'⟩ := H.new (.map #[] 0) (.map c) (0, 0) rfl ⟨w.heap.size, #[], 0, IdMap.put_same _ _ _ _, .inr rfl, heap_alloc_self' w _, by unfold MRel; rw [hc]; rfl⟩
  refine ⟨.map (some w.heap.size), _, _, w.alloc (.map #[] 0), ?_, E', H', .mp _ _ 0 0 (IdMap.put_same _ _ _ _)⟩
  simp [Instr.makeMap]
 unfold amkMap at hb
 split at hb <;> first | (cases hb; done) | (cases hb; exact all _ rfl)
theorem upd_pairs {c c' : MCol} {key val : AV} (hu : c.upd key val = some c') {es : List MapEntry} (hes : es.map kv = c.pairs) {born : Nat} :
 (putE (keyP key) (fun e => { e with key := keyV key, val := asVal val }) { key := keyV key, val := asVal val, born := born } es).map kv = c'.pairs := by
 cases c with
 | sset ks =>
  cases key <;> first | cases hu | skip
  cases val <;> first | cases hu | skip
  rename_i s b
  cases b <;> first | cases hu | skip
  have : ∀ (ks : List ByteArray) (es : List MapEntry), es.map kv = (MCol.sset ks).pairs → (putE (keyP (.str s)) (fun e => { e with key := keyV (.str s), val := asVal (.bool true) }) { key := keyV (.str s), val := asVal (.bool true), born := born } es).map kv = (MCol.sset (bif hasS ks s then ks else ks ++ [s])).pairs := by
   intro ks
   induction ks with
   | nil =>
    intro es hes
    cases es with
    | nil => rfl
    | cons e es => cases hes
   | cons x ks ih =>
    intro es hes
    cases es with
    | nil => cases hes
    | cons e es =>
     simp only [List.map_cons, MCol.pairs, List.cons.injEq] at hes
     obtain ⟨h1, h2⟩ := hes
     have hk : e.key = .string x := congrArg Prod.fst h1
     have hv : e.val = .bool true := congrArg Prod.snd h1
     have := ih es h2
     unfold putE
     simp only [keyP, hk]
     cases hq : s.toList == x.toList with
     | true =>
      have e2 : hasS (x :: ks) s = true := by unfold hasS; rw [List.any_cons, hq]; rfl
      rw [e2]
      simp only [cond_true, List.map_cons, MCol.pairs, h2]
      rw [str_of_toList hq]
      rfl
     | false =>
      have e2 : hasS (x :: ks) s = hasS ks s := by unfold hasS; rw [List.any_cons, hq]; rfl
      rw [e2]
      simp only [cond_false, List.map_cons, this]
      cases hasS ks s <;> simp [MCol.pairs, h1]
  exact this ks es hes
 | iset k ks =>
  cases key <;> first | cases hu | skip
  cases val <;> first | cases hu | skip
  rename_i k2 s b
  cases b <;> first | cases hu | skip
  simp only [MCol.upd] at hu
  split at hu
  · rename_i hkk
    subst hkk
    simp only [Option.some.injEq] at hu
    subst hu
    have : ∀ (ks : List Int) (es : List MapEntry), es.map kv = (MCol.iset k ks).pairs → (putE (keyP (.int k s)) (fun e => { e with key := keyV (.int k s), val := asVal (.bool true) }) { key := keyV (.int k s), val := asVal (.bool true), born := born } es).map kv = (MCol.iset k (bif hasI ks s then ks else ks ++ [s])).pairs := by
     intro ks
     induction ks with
     | nil =>
      intro es hes
      cases es with
      | nil => rfl
      | cons e es => cases hes
     | cons x ks ih =>
      intro es hes
      cases es with
      | nil => cases hes
      | cons e es =>
       simp only [List.map_cons, MCol.pairs, List.cons.injEq] at hes
       obtain ⟨h1, h2⟩ := hes
       have hk : e.key = .int k x := congrArg Prod.fst h1
       have hv : e.val = .bool true := congrArg Prod.snd h1
       have := ih es h2
       unfold putE
       simp only [keyP, hk]
       cases hq : s == x with
       | true =>
        have e2 : hasI (x :: ks) s = true := by unfold hasI; rw [List.any_cons, hq]; rfl
        rw [e2]
        simp only [cond_true, List.map_cons, MCol.pairs, h2]
        rw [eq_of_beq hq]
        rfl
       | false =>
        have e2 : hasI (x :: ks) s = hasI ks s := by unfold hasI; rw [List.any_cons, hq]; rfl
        rw [e2]
        simp only [cond_false, List.map_cons, this]
        cases hasI ks s <;> simp [MCol.pairs, h1]
    exact this ks es hes
  · cases hu
 | imap k k3 ks =>
  cases key <;> first | cases hu | skip
  cases val <;> first | cases hu | skip
  rename_i k2 s k4 vv
  simp only [MCol.upd] at hu
  split at hu
  · rename_i hkk
    obtain ⟨rfl, rfl⟩ := hkk
    simp only [Option.some.injEq] at hu
    subst hu
    have : ∀ (ks : List (Int × Int)) (es : List MapEntry), es.map kv = (MCol.imap k k3 ks).pairs → (putE (keyP (.int k s)) (fun e => { e with key := keyV (.int k s), val := asVal (.int k3 vv) }) { key := keyV (.int k s), val := asVal (.int k3 vv), born := born } es).map kv = (MCol.imap k k3 (putI ks s vv)).pairs := by
     intro ks
     induction ks with
     | nil =>
      intro es hes
      cases es with
      | nil => rfl
      | cons e es => cases hes
     | cons x ks ih =>
      intro es hes
      cases es with
      | nil => cases hes
      | cons e es =>
       simp only [List.map_cons, MCol.pairs, List.cons.injEq] at hes
       obtain ⟨h1, h2⟩ := hes
       have hk : e.key = .int k x.1 := congrArg Prod.fst h1
       have hv : e.val = .int k3 x.2 := congrArg Prod.snd h1
       have := ih es h2
       unfold putE putI
       simp only [keyP, hk]
       cases hq : s == x.1 with
       | true =>
        simp only [cond_true, List.map_cons, MCol.pairs, h2]
        rw [eq_of_beq hq]
        rfl
       | false =>
        simp only [cond_false, List.map_cons, this, MCol.pairs, h1]
    exact this ks es hes
  · cases hu
 | smap k3 ks =>
  cases key <;> first | cases hu | skip
  cases val <;> first | cases hu | skip
  rename_i s k4 vv
  simp only [MCol.upd] at hu
  split at hu
  · rename_i hkk
    subst hkk
    simp only [Option.some.injEq] at hu
    subst hu
    have : ∀ (ks : List (ByteArray × Int)) (es : List MapEntry), es.map kv = (MCol.smap k3 ks).pairs → (putE (keyP (.str s)) (fun e => { e with key := keyV (.str s), val := asVal (.int k3 vv) }) { key := keyV (.str s), val := asVal (.int k3 vv), born := born } es).map kv = (MCol.smap k3 (putS ks s vv)).pairs := by
     intro ks
     induction ks with
     | nil =>
      intro es hes
      cases es with
      | nil => rfl
      | cons e es => cases hes
     | cons x ks ih =>
      intro es hes
      cases es with
      | nil => cases hes
      | cons e es =>
       simp only [List.map_cons, MCol.pairs, List.cons.injEq] at hes
       obtain ⟨h1, h2⟩ := hes
       have hk : e.key = .string x.1 := congrArg Prod.fst h1
       have hv : e.val = .int k3 x.2 := congrArg Prod.snd h1
       have := ih es h2
       unfold putE putS
       simp only [keyP, hk]
       cases hq : s.toList == x.1.toList with
       | true =>
        simp only [cond_true, List.map_cons, MCol.pairs, h2]
        rw [str_of_toList hq]
        rfl
       | false =>
        simp only [cond_false, List.map_cons, this, MCol.pairs, h1]
    exact this ks es hes
  · cases hu
theorem upd_look {c c' : MCol} {key val : AV} (hu : c.upd key val = some c') : ∃ r, c.look key = some r := by
 cases c <;> cases key <;> first | cases hu | skip
 · exact ⟨_, rfl⟩
 · cases val <;> first | cases hu | skip
   rename_i b; cases b <;> first | cases hu | skip
   simp only [MCol.upd] at hu
   split at hu
   · rename_i e; exact ⟨_, by simp only [MCol.look]; rw [if_pos e]⟩
   · cases hu
 · cases val <;> first | cases hu | skip
   simp only [MCol.upd] at hu
   split at hu
   · rename_i e; exact ⟨_, by simp only [MCol.look]; rw [if_pos e.1]⟩
   · cases hu
 · exact ⟨_, rfl⟩
theorem upd_val {c c' : MCol} {key val : AV} {u : Value} (hu : c.upd key val = some c') (hr : RelV m Mut w val u) : u = asVal val := by
 cases val <;> first | exact hr.inv_bool | exact hr.inv_int | (cases c <;> cases key <;> first | (cases hu; done))
theorem amapUpd_sound {t : TypeId} {x k v : AV} {ux uk uv : Value} {h' : AHeap} (H : RelH m Mut h w) (hb : amapUpd P h t x k v = some h') (hx : RelV m Mut w x ux) (hk : RelV m Mut w k uk) (hv : RelV m Mut w v uv) :
 ∃ w', (Instr.mapUpdate t ux uk uv).run P w = .ok () w' ∧ Ext m Mut w m Mut w' ∧ RelH m Mut h' w' := by
 unfold amapUpd at hb
 split at hb
 · rename_i kt vt id hmo
   split at hb
   · rename_i col hid
     split at hb
     · rename_i hcc
       obtain ⟨hkt, hz⟩ := hcc
       simp only [Option.map_eq_some_iff] at hb
       obtain ⟨c', hu, rfl⟩ := hb
       obtain ⟨kk, e, h1, h2, h3⟩ := mapOf_some hmo
       obtain ⟨b, ents, clock, g1, g2, g3, g4⟩ := H.obj id _ hid
       obtain ⟨r, hl⟩ := upd_look hu
       obtain rfl := key_rel hl hk
       obtain rfl := upd_val hu hv
       cases hx with
       | mp _ b' o' C' hm =>
        rw [g1] at hm; cases hm
        have hlt : b < w.heap.size := H.wr b g2
        have wr : ∀ (es' : Array MapEntry) (cl : Nat), MRel c' es' → (setObj b (.map es' cl)).run P w = .ok () { w with heap := w.heap.setIfInBounds b (.map es' cl) } ∧ RelH m Mut (h.set id (.map c')) { w with heap := w.heap.setIfInBounds b (.map es' cl) } ∧ Ext m Mut w m Mut { w with heap := w.heap.setIfInBounds b (.map es' cl) } := fun es' cl hes' => by
         have W := H.write (w' := { w with heap := w.heap.setIfInBounds b (.map es' cl) }) (o' := .map c') hid rfl rfl rfl g1 rfl rfl rfl (Nat.le_refl _) (by simp)
          (fun b' hne => by simp only [Array.getElem?_setIfInBounds]; rw [if_neg (Ne.symm hne)])
          (fun E => ⟨b, es', cl, g1, g2, by simp only [Array.getElem?_setIfInBounds, if_true]; rw [if_pos hlt], hes'⟩)
         exact ⟨by simp [setObj, Sem.run, g3], W.1, W.2⟩
        have hp := upd_pairs hu (es := ents.toList) g4 (born := clock)
        cases hfn : fnd (keyP k) ents.toList 0 with
        | none =>
         rw [putE_none ents.toList 0 hfn] at hp
         obtain ⟨w1, w2, w3⟩ := wr (ents.push { key := keyV k, val := asVal v, born := clock }) (clock + 1) (by unfold MRel; rw [Array.toList_push]; exact hp)
         refine ⟨_, ?_, w3, w2⟩
         unfold Instr.mapUpdate
         simp only [Sem.run_bind, run_underlying_some h1, Result.andThen_ok, getObj_run g3, checkKey_run h2 hkt hl, findKey_run h2 hkt hl g4, hfn, w1]
        | some jv =>
         obtain ⟨j, v0⟩ := jv
         obtain ⟨q, q1, q2, en, q3, q4, q5⟩ := putE_some (f := fun e => { e with key := keyV k, val := asVal v }) (new := { key := keyV k, val := asVal v, born := clock }) ents.toList 0 j v0 hfn
         rw [Nat.zero_add] at q1
         subst q1
         rw [q2] at hp
         obtain ⟨w1, w2, w3⟩ := wr (ents.modify j fun e => { e with key := keyV k, val := asVal v }) clock (by unfold MRel; rw [Array.toList_modify]; exact hp)
         have hmem : en ∈ ents.toList := List.mem_of_getElem? q3
         obtain ⟨b1, b2⟩ := (lookOk hkt hl ents.toList g4).2 en hmem q4
         have hget : ents[j]? = some en := by rw [← Array.getElem?_toList]; exact q3
         have hkey : (Instr.keyThatStays (((ents[j]?).map (·.key)).getD (keyV k)) (keyV k)).run P w = .ok (keyV k) w := by
          rw [hget]
          simp only [Option.map_some, Option.getD_some, Instr.keyThatStays, b1, if_true]
          rfl
         refine ⟨_, ?_, w3, w2⟩
         unfold Instr.mapUpdate
         simp only [Sem.run_bind, run_underlying_some h1, Result.andThen_ok, getObj_run g3, checkKey_run h2 hkt hl, findKey_run h2 hkt hl g4, hfn, hkey, w1]
     · cases hb
   · cases hb
 · cases hb
end
end Go.Proofs.Ytjdbmmilcihpoaa
namespace Go.Proofs.Ytjdbmmilcihpoaa
set_option linter.unusedVariables false
set_option linter.unusedSimpArgs false
section
variable {m : IdMap} {Mut : Mu} {w : World} {P : Program} {h : AHeap}
theorem heap_alloc_self (w : World) (o : Obj) : (w.alloc o).heap[w.heap.size]? = some o := by
 show (w.heap.push o)[w.heap.size]? = _
 simp
theorem abuildSlice_sound {t : TypeId} {len : Nat} {ps : List (Nat × AV)} {us : Array (Nat × Value)} {r : AV} (H : RelH m Mut h w) (hb : abuildSlice P t len ps = some r) (hp : RelP m Mut w ps us.toList) :
 ∃ z w', (Instr.buildSlice t len us).run P w = .ok z w' ∧ Ext m Mut w m Mut w' ∧ RelH m Mut h w' ∧ RelV m Mut w' r z := by
 unfold abuildSlice at hb
 split at hb
 · rename_i e _
   have hu := seqOf_slice (t := t) (by assumption)
   split at hb
   · rename_i hh
     split at hb
     · rename_i hz
       obtain ⟨rfl, rfl⟩ := hz
       cases hb
       have hus : us = #[] := Array.eq_empty_of_size_eq_zero (by have := hp.1; simp at this; exact this.symm)
       subst hus
       refine ⟨.slice (some ⟨w.heap.size, 0, none⟩) 0 0, w.alloc (.cells #[] e), ?_, .alloc _ _ _ _, H.alloc _, .snil _⟩
       simp [Instr.buildSlice, run_underlying_some hu, run_sizeOf_has hh, Instr.fill, newRow]
       rw [show Array.range 0 = #[] by apply Array.ext'; simp]; simp
     · split at hb
       · rename_i vs hvs
         split at hb
         · rename_i hc
           obtain ⟨rfl, hpos, hsz, hbig, hall, hzs⟩ := hc
           cases hb
           obtain ⟨zv, hz⟩ := Option.isSome_iff_exists.1 hzs
           obtain ⟨zc, hzr, _, _⟩ := run_zeroValue (w := w) hz
           have hb2 : ¬ (vs.length * szOf P e > 2 ^ 24) := by omega
           have hne : vs.length * szOf P e ≠ 0 := Nat.ne_of_gt (Nat.mul_pos hpos hsz)
           obtain ⟨cs', hf, hsize, _, hcells⟩ := fill_inOrder (size := szOf P e) ps us.toList vs 0 ((Array.range (vs.length * szOf P e)).map (zc.cells[· % zc.cells.size]!)) hvs hp hall (by simp)
           have hsize' : cs'.size = vs.length * szOf P e := by simpa using hsize
           refine ⟨.slice (some ⟨w.heap.size, 0, none⟩) vs.length vs.length, w.alloc (.cells cs' e), ?_, .alloc _ _ _ _, H.alloc _, ?_⟩
           · simp only [Instr.buildSlice, Sem.run_bind, run_underlying_some hu, Result.andThen_ok, run_sizeOf_has hh, if_neg hb2, if_neg hne, hzr, Sem.run_pure, hf, newRow, run_newObj, World.alloc_eq]
           · obtain ⟨hlen, hget⟩ := Col.ofList_get vs
             have hcl : ∀ i, i < vs.length → ((Col.ofList vs).get i).cells.length = szOf P e := fun i hi => by
              have := List.all_eq_true.1 hall _ (List.mem_of_getElem? (hget i hi))
              simp only [Bool.and_eq_true, beq_iff_eq] at this
              exact this.1
             refine .sl _ _ _ w.heap.size 0 _ (fun i j => cs'.getD (i * szOf P e + j) default) hpos (Nat.le_refl _) (by simp) (fun hM => absurd (H.lt _ hM) (Nat.lt_irrefl _)) hcl (fun i j hi hj => ?_) (fun i j a hi ha => ?_)
             · rw [cell?_at (heap_alloc_self w _), Nat.zero_add]
               have hlt : i * szOf P e + j < cs'.size := by
                rw [hsize']
                have : (i + 1) * szOf P e ≤ vs.length * szOf P e := Nat.mul_le_mul_right _ hi
                rw [Nat.succ_mul] at this
                omega
               simp [Array.getD, hlt]
             · obtain ⟨x, hx, hrx⟩ := hcells i j _ a (hget i hi) ha
               rw [Nat.zero_add] at hx
               have : cs'.getD (i * szOf P e + j) default = x := by
                rw [Array.getD_eq_getD_getElem?, hx]; rfl
               rw [this]
               exact (Ext.alloc m Mut w _).relV hrx
         · cases hb
       · cases hb
   · cases hb
 · cases hb
theorem aconv_sound {src dst : TypeId} {x : AV} {u : Value} {c : Cnd} {r : AV} (hb : aconv P src dst x = some (c, r)) (hC : c.ok) (hx : RelV m Mut w x u) :
 ∃ z, (convert src dst u).run P w = .ok z w ∧ RelV m Mut w r z := by
 unfold aconv at hb
 split at hb
 · rename_i d k k0 n hs hd
   cases hb
   rw [hx.inv_int]
   exact ⟨.int k (k.wrap n), by simp [convert, run_underlying_some hs, run_underlying_some hd, Conv.intToInt], .int _ _⟩
 · rename_i d s hs hd
   cases hb
   rw [hx.inv_str]
   exact ⟨.string s, by simp [convert, run_underlying_some hs, run_underlying_some hd], .str _⟩
 · rename_i e sz n f hs hd
   split at hb
   · rename_i he
     cases hb
     obtain ⟨rfl, hn, hall⟩ := hC
     cases hx with
     | sl _ _ _ b o cap val hn' hc hbs hmu hsz hv hr =>
      refine ⟨.string (strBytes (bytesOf n f)), ?_, .str _⟩
      rw [run_convert_bytes_string w src dst e _ _ _ hs he hd]
      refine run_bytesToString w _ n cap (bytesOf n f) ?_
      have hlen : (bytesOf n f).length = n := by simp [bytesOf]
      have hall : ∀ i, i < n → f i = .int .u8 ((bytesOf n f).getD i 0) := fun i hi => by
       have h1 := hall i hi
       simp only [bytesOf, List.getD_eq_getElem?_getD, List.getElem?_map, List.getElem?_range hi, Option.map_some, Option.getD_some]
       cases hq : f i with
       | int k x => cases k <;> first | rfl | (rw [hq] at h1; cases h1)
       | _ => rw [hq] at h1; cases h1
      have hcell : ∀ j, j < n → w.cell? ((⟨b, o, none⟩ : Addr).add j) = some (.int .u8 ((bytesOf n f).getD j 0)) := fun j hj => by
       rw [addr_add]
       have h1 := hv j 0 hj (by omega)
       simp only [Nat.mul_one, Nat.add_zero] at h1
       rw [h1]
       have h2 : RelV m Mut w (f j) (val j 0) := hr j 0 (f j) hj (by rw [hall j hj]; rfl)
       rw [hall j hj] at h2
       rw [h2.inv_int]
      rw [run_loadCells w _ n (fun j => .int .u8 ((bytesOf n f).getD j 0)) hcell]
      congr 1
      apply Array.ext'
      simp only [List.map_toArray]
      apply List.ext_getElem?
      intro j
      by_cases hj : j < n
      · simp [hj, hlen, List.getD]
      · simp [hj, hlen]
     | sl0 _ _ a cap => exact absurd hn (Nat.lt_irrefl _)
   · cases hb
 · cases hb
 · cases hb
theorem abuiltin_sound {b : Builtin} {ts : Array TypeId} {xs : List AV} {us : Array Value} {ty : TypeId} {cb : Array Bool} {c : Cnd} {r : AV} (H : RelH m Mut h w) (hb : abuiltin P h b ts.toList xs = some (c, r)) (hx : RelL m Mut w xs us) :
 ∃ z, (builtin b ts ty cb us).run P w = .ok (.value z) w ∧ RelV m Mut w r z := by
 unfold abuiltin at hb
 split at hb
 · rename_i t ts' x xs' e1
   simp only [Option.map_eq_some_iff, Prod.mk.injEq] at hb
   obtain ⟨y, hy, rfl, rfl⟩ := hb
   obtain ⟨u, hu, hr⟩ := hx.get (i := 0) (a := x) rfl
   obtain ⟨z, hz, hrz⟩ := alen_sound (ts := ts) (us := us) (ty := ty) H hy (by rw [← Array.getElem?_toList, e1]; rfl) hu hr
   exact ⟨z, by simp [builtin, hz], hrz⟩
 · rename_i x y
   simp only [Option.map_eq_some_iff, Prod.mk.injEq] at hb
   obtain ⟨q, hq, rfl, rfl⟩ := hb
   have hlen := hx.1
   obtain ⟨u, hu, hru⟩ := hx.get (i := 0) (a := x) rfl
   obtain ⟨v, hv, hrv⟩ := hx.get (i := 1) (a := y) rfl
   have hus : us = #[u, v] := by
    apply Array.ext (by simpa using hlen.symm)
    intro i h1 h2
    simp at h2
    have : i = 0 ∨ i = 1 := by omega
    rcases this with rfl | rfl
    · rw [Array.getElem?_eq_getElem h1] at hu; simpa using hu
    · rw [Array.getElem?_eq_getElem h1] at hv; simpa using hv
   subst hus
   unfold avmin at hq
   split at hq
   · cases hq
     rw [hru.inv_int, hrv.inv_int]
     exact ⟨_, by simp only [builtin, Sem.run_bind, run_min_int2, Result.andThen_ok]; rfl, .int _ _⟩
   · cases hq
 · rename_i x y
   simp only [Option.map_eq_some_iff, Prod.mk.injEq] at hb
   obtain ⟨q, hq, rfl, rfl⟩ := hb
   have hlen := hx.1
   obtain ⟨u, hu, hru⟩ := hx.get (i := 0) (a := x) rfl
   obtain ⟨v, hv, hrv⟩ := hx.get (i := 1) (a := y) rfl
   have hus : us = #[u, v] := by
    apply Array.ext (by simpa using hlen.symm)
    intro i h1 h2
    simp at h2
    have : i = 0 ∨ i = 1 := by omega
    rcases this with rfl | rfl
    · rw [Array.getElem?_eq_getElem h1] at hu; simpa using hu
    · rw [Array.getElem?_eq_getElem h1] at hv; simpa using hv
   subst hus
   unfold avmax at hq
   split at hq
   · cases hq
     rw [hru.inv_int, hrv.inv_int]
     exact ⟨_, by simp only [builtin, Sem.run_bind, run_max_int2, Result.andThen_ok]; rfl, .int _ _⟩
   · cases hq
 · cases hb
theorem anil_in {t e : TypeId} (hu : P.underlying t = some (.slice e)) (d : Nat) (a : Option Addr) (n c : Nat) : (Op.equalIn (d + 1) t (.slice a n c) (.slice none 0 0)).run P w = .ok a.isNone w := by
 cases a <;> simp [Op.equalIn, run_underlying_some hu]
theorem anil_run {t e : TypeId} {ox y : Operand} (hu : P.underlying t = some (.slice e)) (a : Option Addr) (n c : Nat) (_x : Unit) :
 (do eqGuard .eql t ox y (.slice a n c) (.slice none 0 0); binOp .eql t (.slice a n c) (.slice none 0 0) : Sem Value).run P w = .ok (.bool a.isNone) w := by
 have h1 : (Op.equal t (.slice a n c) (.slice none 0 0)).run P w = .ok a.isNone w := anil_in hu 9999 a n c
 rw [Sem.run_bind, show (eqGuard .eql t ox y (.slice a n c) (.slice none 0 0)).run P w = .ok () w from rfl, Result.andThen_ok]
 simp [binOp, h1]
theorem anilEq_sound {op : BinOp} {t : TypeId} {x : AV} {u v : Value} {ox y : Operand} {c : Cnd} {r : AV} (hb : anilEq P op t x y = some (c, r)) (hC : c.ok) (hx : RelV m Mut w x u) (hy : ∀ z, y = .const z → v = z) :
 ∃ z, (do eqGuard op t ox y u v; binOp op t u v : Sem Value).run P w = .ok z w ∧ RelV m Mut w r z := by
 unfold anilEq at hb
 split at hb
 · rename_i e hs
   cases hb
   have hu := seqOf_slice hs
   obtain rfl := hy _ rfl
   cases hx with
   | nils cap => exact ⟨.bool true, anil_run hu _ _ _ (), .bool _⟩
 · rename_i e hs
   cases hb
   have hu := seqOf_slice hs
   obtain rfl := hy _ rfl
   cases hx with
   | sne a cap => exact ⟨.bool false, anil_run hu _ _ _ (), .bool _⟩
 · rename_i sz n f e hs
   cases hb
   have hu := seqOf_slice hs
   obtain rfl := hy _ rfl
   have hC : 0 < n := hC
   cases hx with
   | sl _ _ _ b o cap val hn hc hbs hmu hsz hv hr => exact ⟨.bool false, anil_run hu _ _ _ (), .bool _⟩
   | sl0 _ _ a cap => exact absurd hC (Nat.lt_irrefl _)
 · cases hb
/-- Operands' values. -/
structure RelE (m : IdMap) (Mut : Mu) (w : World) (ρ : Operand → AV) (σ : Operand → Value) : Prop where
 rel : ∀ x, RelV m Mut w (ρ x) (σ x)
 const : ∀ z, σ (.const z) = z
instance {m : IdMap} {Mut : Mu} {w : World} {ρ : Operand → AV} {σ : Operand → Value} : CoeFun (RelE m Mut w ρ σ) (fun _ => ∀ x, RelV m Mut w (ρ x) (σ x)) := ⟨RelE.rel⟩
theorem RelE.list {ρ : Operand → AV} {σ : Operand → Value} (h : RelE m Mut w ρ σ) (xs : Array Operand) : RelL m Mut w (xs.toList.map ρ) (xs.map σ) :=
 ⟨by simp, fun i a v ha hv => by
  rw [List.getElem?_map, Array.getElem?_toList] at ha
  rw [Array.getElem?_map] at hv
  cases hx : xs[i]? with
  | none => rw [hx] at ha; cases ha
  | some x => rw [hx] at ha hv; cases ha; cases hv; exact h x⟩
theorem RelE.parts {ρ : Operand → AV} {σ : Operand → Value} (h : RelE m Mut w ρ σ) (ps : Array (Nat × Operand)) : RelP m Mut w (ps.toList.map fun p => (p.1, ρ p.2)) (ps.map fun (i, x) => (i, σ x)).toList :=
 ⟨by simp, fun i p u hp hu => by
  rw [List.getElem?_map] at hp
  rw [Array.toList_map, List.getElem?_map] at hu
  cases hx : ps.toList[i]? with
  | none => rw [hx] at hp; cases hp
  | some x => rw [hx] at hp hu; cases hp; cases hu; exact ⟨rfl, h _⟩⟩
theorem RelE.opt {ρ : Operand → AV} {σ : Operand → Value} (h : RelE m Mut w ρ σ) (x : Option Operand) : RelOpt m Mut w (x.map ρ) (x.map σ) := by
 cases x with
 | none => trivial
 | some x => exact h x
theorem aopQ_sound {ρ : Operand → AV} {σ : Operand → Value} {o : Oper} {c : Cnd} {r : AV} (H : RelH m Mut h w) (hρ : RelE m Mut w ρ σ) (hb : aopQ P h ρ o = some (c, r)) (hC : c.ok) :
 OpR P σ o m Mut h w r := by
 unfold aopQ at hb
 split at hb
 · rename_i x ho
   cases hb
   exact .same H (σ x) (by simp [execOp, ho]) (hρ x)
 · rename_i x ho
   cases hb
   exact .same H (σ x) (by simp [execOp, ho]) (hρ x)
 · rename_i t a ho
   split at hb
   · rename_i c' cs hcs
     split at hb
     · rename_i hu
       simp only [Option.map_eq_some_iff, Prod.mk.injEq] at hb
       obtain ⟨v, hv, rfl, rfl⟩ := hb
       obtain ⟨b, o', ha, hlt, hcells⟩ := cellsAt_sound H (hρ a) hcs hC
       obtain ⟨z, hz, hr⟩ := load_sound (P := P) hcells hv hu
       exact .same H z (by simp [execOp, ho, Instr.loadAt, ha, Instr.sureAddr, hz]) hr
     · cases hb
   · cases hb
 · rename_i x ho
   have hx := hρ x
   split at hb
   · rename_i e
     cases hb
     rw [e] at hx
     cases hs : σ x with
     | pointer a =>
      rw [hs] at hx
      cases a with
      | none => cases hx
      | some a => exact .same H (.pointer (some a)) (by simp [execOp, ho, hs]) hx
     | _ => rw [hs] at hx; cases hx
   · rename_i e
     cases hb
     rw [e] at hx
     cases hs : σ x with
     | pointer a =>
      rw [hs] at hx
      cases a with
      | none => cases hx
      | some a => exact .same H (.pointer (some a)) (by simp [execOp, ho, hs]) hx
     | _ => rw [hs] at hx; cases hx
   · rename_i g cs e
     cases hb
     rw [e] at hx
     cases hs : σ x with
     | func fn first cap =>
      have hx2 := hx
      rw [hs] at hx2
      cases hx2
      exact .same H (σ x) (by simp [execOp, ho, hs]) hx
     | _ => rw [hs] at hx; cases hx
   · cases hb
 · rename_i op t x y yt ho
   split at hb
   · rename_i r0 hn
     cases hb
     obtain ⟨z, hz, hr⟩ := anilEq_sound (P := P) (ox := x) (v := σ y) hn hC (hρ x) (fun z e => by rw [e]; exact hρ.const z)
     exact .same H z (by simp only [execOp, ho, Sem.run_bind] at hz ⊢; rw [hz]; rfl) hr
   · obtain ⟨z, hz, hr⟩ := abinT_sound (P := P) (ox := x) (oy := y) hb hC (hρ x) (hρ y)
     exact .same H z (by simp only [execOp, ho, Sem.run_bind] at hz ⊢; rw [hz]; rfl) hr
 · rename_i op t x ho
   simp only [Option.map_eq_some_iff, Prod.mk.injEq] at hb
   obtain ⟨v, hv, rfl, rfl⟩ := hb
   obtain ⟨z, hz, hr⟩ := aun_sound (P := P) hv (hρ x)
   exact .same H z (by simp [execOp, ho, hz]) hr
 · rename_i src dst x ho
   obtain ⟨z, hz, hr⟩ := aconv_sound (P := P) hb hC (hρ x)
   exact .same H z (by simp [execOp, ho, hz]) hr
 · rename_i g first cs ho
   split at hb
   · rename_i hl
     cases hb
     have hf : first = #[] := Array.eq_empty_of_size_eq_zero (by simpa using hl)
     subst hf
     have hr := hρ.list cs
     exact .same H (.func (.func g) #[] (cs.map σ)) (by simp [execOp, ho, Instr.makeFunc]) (.fn _ _ _ hr.1 hr.2)
   · cases hb
 · rename_i t x lo hi ho
   obtain ⟨z, hz, hr⟩ := aslice_sound (P := P) hb hC (hρ x) (hρ.opt lo) (hρ.opt hi)
   exact .same H z (by simp [execOp, ho, hz]) hr
 · rename_i t x hi mx ho
   obtain ⟨z, hz, hr⟩ := aslice3_sound (P := P) hb (hρ x) (hρ hi) (hρ mx)
   exact .same H z (by simp [execOp, ho, hz]) hr
 · rename_i s x f ho
   simp only [Option.map_eq_some_iff, Prod.mk.injEq] at hb
   obtain ⟨v, hv, rfl, rfl⟩ := hb
   obtain ⟨z, hz, hr⟩ := afieldAddr_sound (P := P) hv (hρ x)
   exact .same H z (by simp [execOp, ho, hz]) hr
 · rename_i s x f ho
   simp only [Option.map_eq_some_iff, Prod.mk.injEq] at hb
   obtain ⟨v, hv, rfl, rfl⟩ := hb
   obtain ⟨z, hz, hr⟩ := afield_sound (P := P) hv (hρ x)
   exact .same H z (by simp [execOp, ho, hz]) hr
 · rename_i t x ix ho
   obtain ⟨z, hz, hr⟩ := aindexAddr_sound (P := P) hb hC (hρ x) (hρ ix)
   exact .same H z (by simp [execOp, ho, hz]) hr
 · rename_i t x ix ho
   obtain ⟨z, hz, hr⟩ := aindex_sound (P := P) hb hC (hρ x) (hρ ix)
   exact .same H z (by simp [execOp, ho, hz]) hr
 · rename_i t x y ok ho
   obtain ⟨z, hz, hr⟩ := alook_sound (P := P) H hb (hρ x) (hρ y)
   exact .same H z (by simp [execOp, ho, hz]) hr
 · rename_i x i ho
   have hx := hρ x
   split at hb
   · rename_i vs e
     simp only [Option.map_eq_some_iff, Prod.mk.injEq] at hb
     obtain ⟨v, hv, rfl, rfl⟩ := hb
     rw [e] at hx
     obtain ⟨us, hus, hl⟩ := hx.inv_tup
     obtain ⟨z, hz, hr⟩ := hl.get hv
     exact .same H z (by simp [execOp, ho, hus, Instr.extract, hz]) hr
   · cases hb
 · rename_i t ps ho
   simp only [Option.map_eq_some_iff, Prod.mk.injEq] at hb
   obtain ⟨v, hv, rfl, rfl⟩ := hb
   obtain ⟨z, hz, hr⟩ := abuild_sound (P := P) hv (hρ.parts ps)
   exact .same H z (by simp only [execOp, ho, Sem.run_bind, hz, Result.andThen_ok]; rfl) hr
 · rename_i t len ps ho
   simp only [Option.map_eq_some_iff, Prod.mk.injEq] at hb
   obtain ⟨v, hv, rfl, rfl⟩ := hb
   obtain ⟨z, w', hz, hE, hH, hr⟩ := abuildSlice_sound (P := P) H hv (hρ.parts ps)
   exact ⟨z, w', by simp only [execOp, ho, Sem.run_bind, hz, Result.andThen_ok]; rfl, hE, hH, hr⟩
 · rename_i cl ho
   split at hb
   · rename_i b hcal
     obtain ⟨z, hz, hr⟩ := abuiltin_sound (P := P) (ty := o.type) (cb := cl.args.map fun | .const _ => true | _ => false) H hb (hρ.list cl.args)
     refine .same H z ?_ hr
     simp only [execOp, ho, resolve, hcal, Sem.run_bind, Sem.run_pure, Result.andThen_ok, invoke]
     exact hz
   · cases hb
 · cases hb
end
end Go.Proofs.Ytjdbmmilcihpoaa
namespace Go.Proofs.Ytjdbmmilcihpoaa
set_option linter.unusedVariables false
set_option linter.unusedSimpArgs false
/-- A value of one cell that a store takes. -/
def AV.isCell : AV → Bool
 | .any | .undef | .agg _ | .tup _ => false
 | _ => true
/-- The element laid at i of a row, cell by cell, so that a row of records stays one. -/
def mix1 (j i : Nat) : AV → AV → AV
 | .int k a, .int k' b => if k = k' then .int k (if j = i then b else a) else if j = i then .int k' b else .int k a
 | .str a, .str b => .str (if j = i then b else a)
 | .bool a, .bool b => .bool (if j = i then b else a)
 | x, y => if j = i then y else x
def mixL (j i : Nat) : List AV → List AV → List AV
 | x :: xs, y :: ys => mix1 j i x y :: mixL j i xs ys
 | _, _ => []
def mixA (j i : Nat) : AV → AV → AV
 | .agg xs, .agg ys => if xs.length = ys.length then .agg (mixL j i xs ys) else if j = i then .agg ys else .agg xs
 | x, y => mix1 j i x y
theorem mix1_eq (j i : Nat) (x y : AV) : mix1 j i x y = if j = i then y else x := by
 unfold mix1
 split
 · split
   · rename_i h; subst h; split <;> rfl
   · rfl
 · split <;> rfl
 · split <;> rfl
 · rfl
theorem mixL_eq (j i : Nat) : ∀ (xs ys : List AV), xs.length = ys.length → mixL j i xs ys = if j = i then ys else xs := by
 intro xs
 induction xs with
 | nil => intro ys h; cases ys with
  | nil => split <;> rfl
  | cons y ys => cases h
 | cons x xs ih => intro ys h; cases ys with
  | nil => cases h
  | cons y ys =>
   simp only [List.length_cons, Nat.add_right_cancel_iff] at h
   simp only [mixL, mix1_eq, ih ys h]
   split <;> rfl
theorem mixA_eq (j i : Nat) (x y : AV) : mixA j i x y = if j = i then y else x := by
 unfold mixA
 split
 · split
   · rename_i h; rw [mixL_eq j i _ _ h]; split <;> rfl
   · rfl
 · exact mix1_eq ..
def Col.set (c : Col) (i : Nat) (v : AV) : Option Col :=
 match c, v with
 | .ints k xs, .int k' y => if k = k' then some (.ints k (xs.set i y)) else none
 | .bools xs, .bool y => some (.bools (xs.set i y))
 | .strs xs, .str y => some (.strs (xs.set i y))
 | .recs xs, v => some (.recs (xs.set (xs.length - 1 - i) v))
 | .gen n f, v => some (.gen n fun j => mixA j i (f j) v)
 | _, _ => none
def storeIn (x : AV) (off : Nat) (vs : List AV) : Option AV :=
 if off + vs.length ≤ x.cells.length ∧ (vs.all AV.isCell) = true then
  match x with
  | .agg cs => some (.agg (splice cs off vs))
  | _ => match vs with
   | [v] => some v
   | _ => none
 else none
def astore (P : Program) (h : AHeap) (t : TypeId) (a v : AV) : Option (Cnd × AHeap) :=
 if hasT P t ∧ v.isAny = false ∧ v.cells.length = szOf P t then
  match a with
  | .ptr id n sz i off =>
   match h[id]? with
   | some (.var x) => if n = 1 ∧ i = 0 then (storeIn x off v.cells).map fun x' => (none, h.set id (.var x')) else none
   | some (.row s k c) => if s = sz then
    match storeIn (c.get i) off v.cells with
    | some e => (c.set i e).map fun c' => (cnd (n = k ∧ i < c.len), h.set id (.row s k c'))
    | none => none
    else none
   | _ => none
  | _ => none
 else none
def Col.zero (z : AV) (n : Nat) : Col :=
 match z with
 | .int k 0 => .ints k (List.replicate n 0)
 | .bool false => .bools (List.replicate n false)
 | z => .gen n fun _ => z
section
variable {m : IdMap} {Mut : Mu} {w : World} {P : Program} {h : AHeap}
theorem isCell_one {a : AV} {v : Value} (ha : a.isCell = true) (hr : RelV m Mut w a v) : v.oneCell' = true ∧ a.cells = [a] := by
 cases hr <;> first | exact ⟨rfl, rfl⟩ | cases ha
theorem relL_mem {cs : List AV} {vs : Array Value} (h : RelL m Mut w cs vs) (hall : cs.all AV.isCell = true) : ∀ v ∈ vs.toList, v.oneCell' = true := by
 intro v hv
 obtain ⟨i, hi⟩ := List.getElem?_of_mem hv
 have hlt : i < vs.size := by
  rcases Nat.lt_or_ge i vs.toList.length with q | q
  · simpa using q
  · rw [List.getElem?_eq_none q] at hi; cases hi
 have hlt2 : i < cs.length := by rw [h.1]; exact hlt
 have hr := h.2 i cs[i] v (List.getElem?_eq_getElem hlt2) (by rw [← Array.getElem?_toList]; exact hi)
 exact (isCell_one (List.all_eq_true.1 hall _ (List.getElem_mem hlt2)) hr).1
/-- An operation's outcome where it may write. -/
def OpE (P : Program) (σ : Operand → Value) (o : Oper) (m : IdMap) (Mut : Mu) (w : World) (v : AV) (h' : AHeap) : Prop :=
 ∃ x m' Mut' w', ((execOp σ o).run P w = .ok (.value x) w' ∨ ((execOp σ o).run P w = .ok .skip w' ∧ x = Go.undef)) ∧
  Ext m Mut w m' Mut' w' ∧ RelH m' Mut' h' w' ∧ RelV m' Mut' w' v x
theorem newVar_sound {t : TypeId} {v : AV} {u : Value} (H : RelH m Mut h w) (hv : RelV m Mut w v u) (hna : v.isAny = false) :
 ∃ m' Mut' w', (newVar t u).run P w = .ok ⟨w.heap.size, 0, none⟩ w' ∧ Ext m Mut w m' Mut' w' ∧ RelH m' Mut' (h ++ [.var v]) w' ∧
  RelV m' Mut' w' (.ptr h.length 1 v.cells.length 0 0) (.pointer (some ⟨w.heap.size, 0, none⟩)) := by
 have hl := relV_cells hv (isAny_ne hna)
 have hids : ∀ id n x, m id n = some x → m.put h.length 1 (w.heap.size, 0, 1) id n = some x := fun id n x hx => by
  rw [IdMap.put_other (.inl (Nat.ne_of_lt (H.dom id n x hx)))]; exact hx
 have E : Ext m Mut w (m.put h.length 1 (w.heap.size, 0, 1)) (Mut.add w.heap.size) (w.alloc (.cells u.cells t)) :=
  ⟨rfl, rfl, rfl, Nat.le_refl _, by simp, fun b hb _ => Go.RowKit.Below.heap_alloc w _ b hb, fun b hb hM hM' => hM'.elim hM (fun e => by omega), fun b hb hM hM' => hM'.elim hM (fun e => by omega), fun b _ hi _ => .inl hi, hids⟩
 obtain ⟨H', E'⟩ := H.new (.cells u.cells t) (.var v) (0, 1) rfl ⟨w.heap.size, u.cells, t, IdMap.put_same _ _ _ _, .inr rfl, heap_alloc_self w _, E.relL hl⟩
 refine ⟨_, _, _, by simp [newVar, newRow], E', H', ?_⟩
 have := RelV.ptr (m := m.put h.length 1 (w.heap.size, 0, 1)) (Mut := Mut.add w.heap.size) (w := w.alloc (.cells u.cells t)) h.length 1 v.cells.length 0 0 w.heap.size 0 1 (IdMap.put_same _ _ _ _)
 simp only [Nat.zero_mul, Nat.add_zero] at this
 exact this
theorem storeIn_sound {x : AV} {off : Nat} {vs : List AV} {y : AV} (hs : storeIn x off vs = some y) :
 off + vs.length ≤ x.cells.length ∧ vs.all AV.isCell = true ∧ y.cells = splice x.cells off vs ∧ y.cells.length = x.cells.length := by
 unfold storeIn at hs
 split at hs
 · rename_i hh
   split at hs
   · rename_i cs
     cases hs
     exact ⟨hh.1, hh.2, rfl, splice_length _ _ _⟩
   · rename_i hx
     split at hs
     · rename_i v
       cases hs
       have hv : AV.isCell y = true := by have := hh.2; simpa using this
       have hy : y.cells = [y] := by cases y <;> first | rfl | cases hv
       have hxc : x.cells = [x] := by cases x <;> first | rfl | exact absurd rfl (hx _)
       have h1 := hh.1
       rw [hxc] at h1
       simp at h1
       subst h1
       rw [hxc, hy]
       exact ⟨by simp, hh.2, rfl, rfl⟩
     · cases hs
 · cases hs
theorem setCell_heap_other (w : World) (a : Addr) (v : Value) (b : Nat) (h : b ≠ a.block) : (w.setCell a v).heap[b]? = w.heap[b]? := Go.RowKit.Below.heap_setCell w a v b h
/-- Stores, cell by cell, into one block. -/
theorem run_storeCells_block (P : Program) (b off : Nat) (t : TypeId) : ∀ (vs : List Value) (i : Nat) (c : Array Value) (w : World), w.heap[b]? = some (.cells c t (0, 0)) → off + i + vs.length ≤ c.size →
 (∀ v ∈ vs, v.oneCell' = true) → ∃ c' w', (storeCells ⟨b, off, none⟩ vs i).run P w = .ok () w' ∧ w'.heap[b]? = some (.cells c' t (0, 0)) ∧ c'.size = c.size ∧
  (∀ j, c'[j]? = if off + i ≤ j ∧ j < off + i + vs.length then vs[j - (off + i)]? else c[j]?) ∧
  w'.os = w.os ∧ w'.tape = w.tape ∧ w'.output = w.output ∧ w.drawn ≤ w'.drawn ∧ w'.heap.size = w.heap.size ∧ ∀ b', b' ≠ b → w'.heap[b']? = w.heap[b']? := by
 intro vs
 induction vs with
 | nil =>
  intro i c w hb hs h1
  exact ⟨c, w, rfl, hb, rfl, fun j => by rw [if_neg (by simp)], rfl, rfl, rfl, Nat.le_refl _, rfl, fun _ _ => rfl⟩
 | cons v vs ih =>
  intro i c w hb hs h1
  simp only [List.length_cons] at hs
  have hcell : w.cell? ⟨b, off + i, none⟩ = some c[off + i] := by
   rw [cell?_at hb]; exact Array.getElem?_eq_getElem (by omega)
  have hfz : w.frozen? ⟨b, off + i, none⟩ = false := by simp [World.frozen?, hb]
  have hst : (store ((⟨b, off, none⟩ : Addr).add i) v).run P w = .ok () (w.setCell ⟨b, off + i, none⟩ v) := by
   rw [addr_add, run_store P w _ v .plain (h1 v (List.mem_cons_self ..)), hcell]
   simp [hfz]
  have hb' : (w.setCell ⟨b, off + i, none⟩ v).heap[b]? = some (.cells (c.setIfInBounds (off + i) v) t (0, 0)) := by
   simp only [World.setCell, Array.getElem?_modify, if_true, hb]
   rfl
  obtain ⟨c', w', hrun, g1, g2, g3, g4, g5, g6, gd, g7, g8⟩ := ih (i + 1) (c.setIfInBounds (off + i) v) (w.setCell ⟨b, off + i, none⟩ v) hb' (by simp; omega) (fun u hu => h1 u (List.mem_cons_of_mem _ hu))
  refine ⟨c', w', ?_, g1, by simpa using g2, fun j => ?_, g4, g5, g6, gd, by simpa using g7, fun b' hne => (g8 b' hne).trans (setCell_heap_other w _ v b' hne)⟩
  · simp only [storeCells, Sem.run_bind, hst, Result.andThen_ok, hrun]
  · rw [g3 j]
    simp only [List.length_cons]
    by_cases hj : j = off + i
    · subst hj
      rw [if_neg (by omega), if_pos (by omega), Array.getElem?_setIfInBounds, if_pos rfl, if_pos (by omega)]
      simp
    · by_cases hj2 : off + (i + 1) ≤ j ∧ j < off + (i + 1) + vs.length
      · rw [if_pos hj2, if_pos (by omega), show j - (off + i) = (j - (off + (i + 1))) + 1 by omega, List.getElem?_cons_succ]
      · rw [if_neg hj2, if_neg (by omega), Array.getElem?_setIfInBounds, if_neg (Ne.symm hj)]
theorem Col.set_sound {c c' : Col} {i : Nat} {v : AV} (hs : c.set i v = some c') (hi : i < c.len) : c'.len = c.len ∧ (∀ j, j ≠ i → c'.get j = c.get j) ∧ c'.get i = v := by
 unfold Col.set at hs
 split at hs
 · split at hs
   · rename_i hk
     subst hk
     cases hs
     simp only [Col.len] at hi
     refine ⟨by simp [Col.len], fun j hj => by simp [Col.get, List.getD, List.getElem?_set_ne (Ne.symm hj)], by simp [Col.get, List.getD, List.getElem?_set_self hi]⟩
   · cases hs
 · cases hs
   simp only [Col.len] at hi
   exact ⟨by simp [Col.len], fun j hj => by simp [Col.get, List.getD, List.getElem?_set_ne (Ne.symm hj)], by simp [Col.get, List.getD, List.getElem?_set_self hi]⟩
 · cases hs
   simp only [Col.len] at hi
   exact ⟨by simp [Col.len], fun j hj => by simp [Col.get, List.getD, List.getElem?_set_ne (Ne.symm hj)], by simp [Col.get, List.getD, List.getElem?_set_self hi]⟩
 · cases hs
   rename_i xs
   simp only [Col.len] at hi
   refine ⟨by simp [Col.len], fun j hj => ?_, ?_⟩
   · simp only [Col.get, List.length_set]
     by_cases hjl : j < xs.length
     · rw [if_pos hjl, if_pos hjl, List.getD_eq_getElem?_getD, List.getD_eq_getElem?_getD, List.getElem?_set_ne (by omega)]
     · rw [if_neg hjl, if_neg hjl]
   · simp only [Col.get, List.length_set]
     rw [if_pos hi, List.getD_eq_getElem?_getD, List.getElem?_set_self (by omega)]
     rfl
 · cases hs
   exact ⟨rfl, fun j hj => by simp [Col.get, mixA_eq, hj], by simp [Col.get, mixA_eq]⟩
 · cases hs
theorem block_mul {i k sz j : Nat} (hj : j < sz) (e : i ≠ k) : ∀ q, q < sz → i * sz + j ≠ k * sz + q := by
 intro q hq heq
 have h1 : (i * sz + j) / sz = i := by rw [Nat.mul_comm, Nat.mul_add_div (by omega), Nat.div_eq_of_lt hj]; omega
 have h2 : (k * sz + q) / sz = k := by rw [Nat.mul_comm, Nat.mul_add_div (by omega), Nat.div_eq_of_lt hq]; omega
 rw [heq, h2] at h1
 exact e h1.symm
theorem astore_sound {t : TypeId} {a v : AV} {ua uv : Value} {c : Cnd} {h' : AHeap} (H : RelH m Mut h w) (hs : astore P h t a v = some (c, h')) (hC : c.ok) (ha : RelV m Mut w a ua) (hv : RelV m Mut w v uv) :
 ∃ w', (Instr.storeAt t ua uv).run P w = .ok () w' ∧ Ext m Mut w m Mut w' ∧ RelH m Mut h' w' := by
 unfold astore at hs
 split at hs
 · rename_i hh
   obtain ⟨ht, hna, hlen⟩ := hh
   have hvl := relV_cells hv (isAny_ne hna)
   have hvn : uv.cells.size = szOf P t := by rw [← hvl.1, hlen]
   split at hs
   · rename_i id n sz i off
     split at hs
     · rename_i x hid
       split at hs
       · rename_i hni
         obtain ⟨rfl, rfl⟩ := hni
         simp only [Option.map_eq_some_iff, Prod.mk.injEq] at hs
         obtain ⟨y, hy, rfl, rfl⟩ := hs
         obtain ⟨k1, k2, k3, k4⟩ := storeIn_sound hy
         obtain ⟨b, cc, tt, h1, h2, h3, h4⟩ := H.obj id _ hid
         cases ha with
         | ptr _ _ _ _ _ b' o' C' hm =>
          rw [h1] at hm; cases hm
          have hone := relL_mem hvl k2
          obtain ⟨c', w', hrun, g1, g2, g3, g4, g5, g6, gd, g7, g8⟩ := run_storeCells_block P b (0 + 0 * sz + off) tt uv.cells.toList 0 cc w h3 (by have := h4.1; have := hvl.1; simp; omega) hone
          have hrun' : (Instr.storeAt t (.pointer (some ⟨b, 0 + 0 * sz + off, none⟩)) uv).run P w = .ok () w' := by
           simp only [Instr.storeAt, Instr.sureAddr, storeVar, Sem.run_bind, Sem.run_pure, Result.andThen_ok, run_sizeOf_has ht, hvn, ne_eq, not_true_eq_false, if_false, hrun]
          have W := H.write (o' := .var y) hid rfl rfl rfl h1 g4 g5 g6 gd g7 g8 (fun E => ⟨b, c', tt, h1, h2, g1, ?_⟩)
          · exact ⟨w', hrun', W.2, W.1⟩
          · rw [k3]
            refine ⟨by rw [splice_length, g2, h4.1], fun j a u hj hu => ?_⟩
            rw [splice_get] at hj
            rw [g3] at hu
            have e1 := hvl.1
            have e2 := h4.1
            by_cases hin : off ≤ j ∧ j < off + v.cells.length ∧ j < x.cells.length
            · rw [if_pos hin] at hj
              rw [if_pos (by simp; omega)] at hu
              exact E.relV (hvl.2 _ _ _ hj (by rw [← Array.getElem?_toList]; simpa using hu))
            · rw [if_neg hin] at hj
              have hjlt : j < x.cells.length := by
               rcases Nat.lt_or_ge j x.cells.length with q | q
               · exact q
               · rw [List.getElem?_eq_none q] at hj; cases hj
              rw [if_neg (by simp; omega)] at hu
              exact E.relV (h4.2 _ _ _ hj hu)
       · cases hs
     · rename_i s k col hid
       split at hs
       · rename_i hsz
         subst hsz
         split at hs
         · rename_i e he
           simp only [Option.map_eq_some_iff, Prod.mk.injEq] at hs
           obtain ⟨col', hcol, rfl, rfl⟩ := hs
           obtain ⟨rfl, hi⟩ := hC
           obtain ⟨k1, k2, k3, k4⟩ := storeIn_sound he
           obtain ⟨l1, l2, l3⟩ := Col.set_sound hcol hi
           have hO := H.obj id _ hid
           have hlive : (AObj.row s n col).live = true := by
            rcases hO with ⟨_, q, _⟩ | ⟨q, _⟩
            · omega
            · exact decide_eq_true q
           obtain ⟨b, o, C, cc, tt, h1, h2, h3, h4, h5, h6, h7⟩ := hO.rowIn hi
           cases ha with
           | ptr _ _ _ _ _ b' o' C' hm =>
            rw [h1] at hm; cases hm
            have hone := relL_mem hvl k2
            have e1 := hvl.1
            have e6 := h6 i hi
            have hfit : (i + 1) * s ≤ C * s := Nat.mul_le_mul_right _ (by omega)
            rw [Nat.succ_mul] at hfit
            obtain ⟨c', w', hrun, g1, g2, g3, g4, g5, g6, gd, g7, g8⟩ := run_storeCells_block P b (o + i * s + off) tt uv.cells.toList 0 cc w h3 (by simp; omega) hone
            have hrun' : (Instr.storeAt t (.pointer (some ⟨b, o + i * s + off, none⟩)) uv).run P w = .ok () w' := by
             simp only [Instr.storeAt, Instr.sureAddr, storeVar, Sem.run_bind, Sem.run_pure, Result.andThen_ok, run_sizeOf_has ht, hvn, ne_eq, not_true_eq_false, if_false, hrun]
            have W := H.write (o' := .row s n col') hid hlive hlive rfl h1 g4 g5 g6 gd g7 g8 (fun E => .inr ⟨of_decide_eq_true hlive, b, o, C, c', tt, h1, h2, g1, by rw [g2, h4], by omega, ?_, ?_⟩)
            · exact ⟨w', hrun', W.2, W.1⟩
            · intro q hq
              by_cases hqi : q = i
              · subst hqi; rw [l3, k4]; exact h6 q hi
              · rw [l2 q hqi]; exact h6 q (by omega)
            · intro q j a hq hj
              by_cases hqi : q = i
              · subst hqi
                rw [l3, k3, splice_get] at hj
                rw [g3]
                by_cases hin : off ≤ j ∧ j < off + v.cells.length ∧ j < (col.get q).cells.length
                · rw [if_pos hin] at hj
                  obtain ⟨u, hu, hru⟩ := hvl.get hj
                  refine ⟨u, ?_, E.relV hru⟩
                  rw [if_pos (by simp; omega), ← hu, ← Array.getElem?_toList]
                  congr 1
                  omega
                · rw [if_neg hin] at hj
                  have hjlt : j < (col.get q).cells.length := by
                   rcases Nat.lt_or_ge j (col.get q).cells.length with z | z
                   · exact z
                   · rw [List.getElem?_eq_none z] at hj; cases hj
                  obtain ⟨u, hu, hru⟩ := h7 q j a hi hj
                  refine ⟨u, ?_, E.relV hru⟩
                  rw [if_neg (by simp; omega), hu]
              · rw [l2 q hqi] at hj
                obtain ⟨u, hu, hru⟩ := h7 q j a (by omega) hj
                have hjlt : j < s := by
                 rcases Nat.lt_or_ge j s with z | z
                 · exact z
                 · rw [List.getElem?_eq_none (by rw [h6 q (by omega)]; exact z)] at hj; cases hj
                refine ⟨u, ?_, E.relV hru⟩
                rw [g3, if_neg ?_, hu]
                rintro ⟨y1, y2⟩
                have := block_mul (i := q) (k := i) hjlt hqi (q * s + j - i * s) (by simp at y2; omega)
                simp at y2
                omega
         · cases hs
       · cases hs
     · cases hs
   · cases hs
 · cases hs
/-- A string that is ranged over. -/
def arange (P : Program) (h : AHeap) (t : TypeId) (x : AV) : Option (AV × AHeap) :=
 match seqOf P t, x with
 | .string, .str s => some (.ptr h.length 0 0 0 0, h ++ [.iter s 0])
 | _, _ => none
def anext (h : AHeap) (it : AV) (isString : Bool) : Option (AV × AHeap) :=
 match it, isString with
 | .ptr id 0 0 0 0, true =>
  match h[id]? with
  | some (.iter s pos) =>
   match decide (pos < s.size) with
   | true => some (.tup [.bool true, .int .i64 pos, .int .i32 (Utf8.decode s pos).1], h.set id (.iter s (pos + (Utf8.decode s pos).2)))
   | false => some (.tup [.bool false], h)
  | _ => none
 | _, _ => none
theorem arange_sound {t : TypeId} {x : AV} {u : Value} {v : AV} {h' : AHeap} (H : RelH m Mut h w) (hb : arange P h t x = some (v, h')) (hx : RelV m Mut w x u) :
 ∃ y m' Mut' w', (Instr.range t u).run P w = .ok y w' ∧ Ext m Mut w m' Mut' w' ∧ RelH m' Mut' h' w' ∧ RelV m' Mut' w' v y := by
 unfold arange at hb
 split at hb
 · rename_i s _
   cases hb
   rw [hx.inv_str]
   obtain ⟨H', E'⟩ := H.new (.stringIter s 0) (.iter s 0) (0, 0) rfl ⟨w.heap.size, IdMap.put_same _ _ _ _, .inr rfl, heap_alloc_self w _⟩
   refine ⟨.pointer (some ⟨w.heap.size, 0, none⟩), _, _, w.alloc (.stringIter s 0), ?_, E', H', ?_⟩
   · simp [Instr.range, run_underlying_some (seqOf_string (t := t) (by assumption))]
   · have := RelV.ptr (m := m.put h.length 0 (w.heap.size, 0, 0)) (Mut := Mut.add w.heap.size) (w := w.alloc (.stringIter s 0)) h.length 0 0 0 0 w.heap.size 0 0 (IdMap.put_same _ _ _ _)
     simp only [Nat.zero_mul, Nat.add_zero] at this
     exact this
 · cases hb
theorem anext_sound {it : AV} {isString : Bool} {ty : TypeId} {u : Value} {v : AV} {h' : AHeap} (H : RelH m Mut h w) (hb : anext h it isString = some (v, h')) (hx : RelV m Mut w it u) :
 ∃ y w', (Instr.next u isString ty).run P w = .ok y w' ∧ Ext m Mut w m Mut w' ∧ RelH m Mut h' w' ∧ RelV m Mut w' v y := by
 unfold anext at hb
 split at hb
 · rename_i id
   split at hb
   · rename_i s pos hid
     obtain ⟨b, h1, h2, h3⟩ := H.obj id _ hid
     cases hx with
     | ptr _ _ _ _ _ b' o' C' hm =>
      rw [h1] at hm; cases hm
      have hg : (getObj b).run P w = .ok (.stringIter s pos) w := by simp [getObj, Sem.run, h3]
      split at hb
      · rename_i hlt
        have hlt' : pos < s.size := of_decide_eq_true hlt
        cases hb
        have hset : (setObj b (.stringIter s (pos + (Utf8.decode s pos).2))).run P w = .ok () { w with heap := w.heap.setIfInBounds b (.stringIter s (pos + (Utf8.decode s pos).2)) } := by
         simp [setObj, Sem.run, h3]
        have hlt2 : b < w.heap.size := H.wr b h2
        have W := H.write (w' := { w with heap := w.heap.setIfInBounds b (.stringIter s (pos + (Utf8.decode s pos).2)) }) (o' := .iter s (pos + (Utf8.decode s pos).2)) hid rfl rfl rfl h1 rfl rfl rfl (Nat.le_refl _) (by simp)
         (fun b' hne => by simp only [Array.getElem?_setIfInBounds]; rw [if_neg (Ne.symm hne)])
         (fun E => ⟨b, h1, h2, by simp only [Array.getElem?_setIfInBounds, if_true]; rw [if_pos hlt2]⟩)
        refine ⟨.tuple #[.bool true, .int .i64 pos, .int .i32 (Utf8.decode s pos).1], _, ?_, W.2, W.1, ?_⟩
        · simp only [Instr.next, Nat.zero_mul, Nat.add_zero, Sem.run_bind, hg, Result.andThen_ok, hlt', if_true, hset, Sem.run_pure, goInt]
        · refine .tup _ _ rfl fun i a x ha hx => ?_
          match i with
          | 0 => simp at ha hx; subst ha; subst hx; exact .bool _
          | 1 => simp at ha hx; subst ha; subst hx; exact .int _ _
          | 2 => simp at ha hx; subst ha; subst hx; exact .int _ _
          | i + 3 => simp at ha
      · rename_i hlt
        have hlt' : ¬ pos < s.size := of_decide_eq_false hlt
        cases hb
        refine ⟨.tuple #[.bool false], w, ?_, .refl _ _ _, H, ?_⟩
        · simp only [Instr.next, Nat.zero_mul, Nat.add_zero, Sem.run_bind, hg, Result.andThen_ok, hlt', if_false, Sem.run_pure]
        · refine .tup _ _ rfl fun i a x ha hx => ?_
          match i with
          | 0 => simp at ha hx; subst ha; subst hx; exact .bool _
          | i + 1 => simp at ha
   · cases hb
 · cases hb
end
end Go.Proofs.Ytjdbmmilcihpoaa
namespace Go.Proofs.Ytjdbmmilcihpoaa
set_option linter.unusedVariables false
set_option linter.unusedSimpArgs false
def bytesT (P : Program) (t : TypeId) : Nat := match P.info? t with | some i => i.bytes | none => 0
def zeroSized (P : Program) (t : TypeId) : Bool := match zeroV P t with | some z => !z.isAny && z.cells.length == szOf P t && decide (0 < szOf P t) && decide (0 < bytesT P t) | none => false
def amake (P : Program) (h : AHeap) (t : TypeId) (l c : AV) : Option (Cnd × AV × AHeap) :=
 match seqOf P t, l, c with
 | .slice e, .int _ l, .int _ c =>
  match zeroV P e with
  | some z => if zeroSized P e then
   some (cnd (c = l ∧ 0 ≤ l ∧ (bytesT P e : Int) * l ≤ 281474976710656 ∧ l ≤ 9223372036854775807), .ms h.length l.toNat (szOf P e) 0 l.toNat, h ++ [.row (szOf P e) l.toNat (Col.zero z l.toNat)])
   else none
  | none => none
 | _, _, _ => none
def Col.snoc (c : Col) (v : AV) : Col :=
 match c, v with
 | .ints k xs, .int k' y => if k = k' then .ints k (xs ++ [y]) else .gen (xs.length + 1) fun j => if j = xs.length then .int k' y else .int k (xs.getD j 0)
 | .bools xs, .bool y => .bools (xs ++ [y])
 | .strs xs, .str y => .strs (xs ++ [y])
 | .recs xs, v => .recs (v :: xs)
 | .gen n f, v => .gen (n + 1) fun j => if j = n then v else f j
 | c, v => .gen (c.len + 1) fun j => if j = c.len then v else c.get j
def Col.app (c : Col) (n : Nat) (f : Nat → AV) : Col := .gen (c.len + n) fun j => if j < c.len then c.get j else f (j - c.len)
def Col.drop (c : Col) (k : Nat) : Col :=
 match c with
 | .ints d xs => .ints d (xs.drop k)
 | .bools xs => .bools (xs.drop k)
 | .strs xs => .strs (xs.drop k)
 | .recs xs => .recs (xs.take (xs.length - k))
 | .gen n f => .gen (n - k) fun j => f (k + j)
/-- What is appended: its elements. -/
def asrc (h : AHeap) : AV → Option (Cnd × Nat × Nat × (Nat → AV))
 | .sl sz n f => some (none, sz, n, f)
 | .ms id v sz off len =>
  match h[id]? with
  | some (.row s k c) => some (cnd (v = k ∧ sz = s ∧ off + len ≤ c.len), sz, len, fun i => c.get (off + i))
  | some (.frow s k n f) => some (cnd (v = k ∧ sz = s ∧ off + len ≤ n), sz, len, fun i => f (off + i))
  | _ => none
 | .snil => some (none, 0, 0, fun _ => .any)
 | .sne => some (none, 0, 0, fun _ => .any)
 | _ => none
inductive AppMode where
 | none     -- nothing is appended
 | one      -- one element
 | many     -- at least one
section
variable {m : IdMap} {Mut : Mu} {w : World} {P : Program} {h : AHeap}
theorem Col.zero_sound (z : AV) (n : Nat) : (Col.zero z n).len = n ∧ ∀ i, i < n → (Col.zero z n).get i = z := by
 unfold Col.zero
 split
 · refine ⟨by simp [Col.len], fun i hi => by simp [Col.get, List.getD, hi]⟩
 · refine ⟨by simp [Col.len], fun i hi => by simp [Col.get, List.getD, hi]⟩
 · exact ⟨rfl, fun i hi => rfl⟩
theorem zeroSized_spec {t : TypeId} {z : AV} (hz : zeroV P t = some z) (hs : zeroSized P t = true) : z.isAny = false ∧ z.cells.length = szOf P t ∧ 0 < szOf P t ∧ 0 < bytesT P t := by
 unfold zeroSized at hs
 rw [hz] at hs
 simp only [Bool.and_eq_true, Bool.not_eq_true', beq_iff_eq, decide_eq_true_eq] at hs
 exact ⟨hs.1.1.1, hs.1.1.2, hs.1.2, hs.2⟩
theorem madeCells_get (z : Array Value) (C s i j : Nat) (hs : z.size = s) (hi : i < C) (hj : j < s) : (madeCells z (C * s))[i * s + j]? = z[j]? := by
 have hlt : i * s + j < C * s := by
  have : (i + 1) * s ≤ C * s := Nat.mul_le_mul_right _ hi
  rw [Nat.succ_mul] at this
  omega
 have hmod : (i * s + j) % z.size = j := by rw [hs, Nat.mul_comm, Nat.mul_add_mod]; exact Nat.mod_eq_of_lt hj
 unfold madeCells
 rw [Array.getElem?_map, Array.getElem?_range, if_pos hlt]
 simp only [Option.map_some, hmod]
 rw [getElem!_def]
 rw [Array.getElem?_eq_getElem (by omega)]
theorem amake_sound {t : TypeId} {l c : AV} {ul uc : Value} {cnd : Cnd} {v : AV} {h' : AHeap} (H : RelH m Mut h w) (hb : amake P h t l c = some (cnd, v, h')) (hC : cnd.ok) (hl : RelV m Mut w l ul) (hc : RelV m Mut w c uc) :
 ∃ x m' Mut' w', (Instr.makeSlice t ul uc).run P w = .ok x w' ∧ Ext m Mut w m' Mut' w' ∧ RelH m' Mut' h' w' ∧ RelV m' Mut' w' v x := by
 unfold amake at hb
 split at hb
 · rename_i e kl l kc c _
   have hu := seqOf_slice (t := t) (by assumption)
   split at hb
   · rename_i z hz
     split at hb
     · rename_i hzs
       cases hb
       obtain ⟨rfl, h0, h1, h2⟩ := hC
       obtain ⟨k1, k2, k3, _⟩ := zeroSized_spec hz hzs
       obtain ⟨zc, hzr, rfl, i, hi, hzi⟩ := run_zeroValue (w := w) hz
       have hby : bytesT P e = i.bytes := by simp [bytesT, hi]
       have hsz : szOf P e = i.size := by simp [szOf, hi]
       rw [hby] at h1
       rw [hl.inv_int, hc.inv_int]
       have hrun := run_make (P := P) w t e i zc hu hi hzi kl kc c c h0 (Int.le_refl _) h1 h2
       have hzl := relV_cells (ofV_rel (m := m.put h.length c.toNat (w.heap.size, 0, c.toNat)) (Mut := Mut.add w.heap.size) (w := w.alloc (.cells (madeCells zc.cells (c.toNat * i.size)) e)) zc) (isAny_ne k1)
       obtain ⟨g1, g2⟩ := Col.zero_sound (ofV zc) c.toNat
       rcases Nat.eq_zero_or_pos c.toNat with q0 | q0
       · obtain ⟨H', E'⟩ := (H.alloc (.cells (madeCells zc.cells (c.toNat * i.size)) e)).virt (szOf P e) (Col.zero (ofV zc) c.toNat) (by rw [g1, q0])
         refine ⟨_, _, _, _, hrun, (Ext.alloc m Mut w _).trans E', by rw [q0] at H' ⊢; exact H', ?_⟩
         rw [q0]
         exact .ms0 _ _ _ _ _ _ _ _ (IdMap.put_same _ _ _ _)
       obtain ⟨H', E'⟩ := H.new (.cells (madeCells zc.cells (c.toNat * i.size)) e) (.row (szOf P e) c.toNat (Col.zero (ofV zc) c.toNat)) (0, c.toNat) (decide_eq_true q0)
        (.inr ⟨q0, w.heap.size, 0, c.toNat, _, e, IdMap.put_same _ _ _ _, .inr rfl, heap_alloc_self w _, by rw [size_madeCells, hsz]; omega, by omega, fun q hq => by rw [g2 q (by omega)]; exact k2, fun q j a hq ha => by
         rw [g2 q (by omega)] at ha
         obtain ⟨u, hu, hru⟩ := hzl.get ha
         refine ⟨u, ?_, hru⟩
         have hjlt : j < szOf P e := by
          rcases Nat.lt_or_ge j (szOf P e) with y | y
          · exact y
          · rw [List.getElem?_eq_none (by omega)] at ha; cases ha
         rw [Nat.zero_add, hsz, madeCells_get _ _ _ _ _ (by have := hzl.1; omega) (by omega) (by omega), hu]⟩)
       refine ⟨_, _, _, _, hrun, E', H', ?_⟩
       have := RelV.ms (m := m.put h.length c.toNat (w.heap.size, 0, c.toNat)) (Mut := Mut.add w.heap.size) (w := w.alloc (.cells (madeCells zc.cells (c.toNat * i.size)) e)) h.length c.toNat (szOf P e) 0 c.toNat w.heap.size 0 c.toNat (IdMap.put_same _ _ _ _) (by omega)
       simp only [Nat.zero_mul, Nat.add_zero, Nat.sub_zero] at this
       exact this
     · cases hb
   · cases hb
 · cases hb
theorem Col.snoc_sound (c : Col) (v : AV) : (c.snoc v).len = c.len + 1 ∧ (∀ j, j < c.len → (c.snoc v).get j = c.get j) ∧ (c.snoc v).get c.len = v := by
 unfold Col.snoc
 split
 · rename_i k xs k' y
   split
   · rename_i hk
     subst hk
     refine ⟨by simp [Col.len], fun j hj => ?_, ?_⟩
     · simp only [Col.len] at hj
       simp [Col.get, List.getD, List.getElem?_append_left hj]
     · simp [Col.get, Col.len, List.getD]
   · refine ⟨rfl, fun j hj => ?_, ?_⟩
     · simp only [Col.len] at hj
       simp only [Col.get]
       rw [if_neg (by omega)]
     · simp [Col.get, Col.len]
 · rename_i xs y
   refine ⟨by simp [Col.len], fun j hj => ?_, ?_⟩
   · simp only [Col.len] at hj
     simp [Col.get, List.getD, List.getElem?_append_left hj]
   · simp [Col.get, Col.len, List.getD]
 · rename_i xs y
   refine ⟨by simp [Col.len], fun j hj => ?_, ?_⟩
   · simp only [Col.len] at hj
     simp [Col.get, List.getD, List.getElem?_append_left hj]
   · simp [Col.get, Col.len, List.getD]
 · rename_i xs
   refine ⟨by simp [Col.len], fun j hj => ?_, ?_⟩
   · simp only [Col.len] at hj
     simp only [Col.get, List.length_cons]
     rw [if_pos (by omega), if_pos hj, show xs.length + 1 - 1 - j = (xs.length - 1 - j) + 1 by omega]
     rfl
   · simp [Col.get, Col.len]
 · rename_i n f
   refine ⟨rfl, fun j hj => ?_, by simp [Col.get, Col.len]⟩
   simp only [Col.len] at hj
   simp only [Col.get]
   rw [if_neg (by omega)]
 · refine ⟨rfl, fun j hj => ?_, by simp [Col.get]⟩
   simp only [Col.get]
   rw [if_neg (by omega)]
theorem Col.drop_sound (c : Col) (k : Nat) : (c.drop k).len = c.len - k ∧ ∀ j, (c.drop k).get j = c.get (k + j) := by
 cases c with
 | recs xs =>
  refine ⟨by simp [Col.drop, Col.len], fun j => ?_⟩
  simp only [Col.drop, Col.get, List.length_take]
  by_cases h : k + j < xs.length
  · rw [if_pos (by omega), if_pos h, List.getD_eq_getElem?_getD, List.getD_eq_getElem?_getD, List.getElem?_take, if_pos (by omega)]
    congr 2
    omega
  · rw [if_neg (by omega), if_neg h]
 | _ => simp [Col.drop, Col.len, Col.get, List.getD, List.getElem?_drop]
/-- The elements of a source lie in memory. -/
structure Src (m : IdMap) (Mut : Mu) (w : World) (u : Value) (sz n : Nat) (f : Nat → AV) (news : List Value) : Prop where
 len : news.length = n * sz
 val : ∃ a cap, u = .slice a n cap ∧ (0 < n → ∃ b, a = some b ∧ ∀ (j : Nat) x, news[j]? = some x → w.cell? (b.add j) = some x)
 size : ∀ i, i < n → (f i).cells.length = sz
 rel : ∀ (i j : Nat) (a : AV), i < n → (f i).cells[j]? = some a → ∃ x, news[i * sz + j]? = some x ∧ RelV m Mut w a x
theorem src_of_cells {u : Value} {sz n cap b o : Nat} {f : Nat → AV} (hu : u = .slice (some ⟨b, o, none⟩) n cap) (hsz : ∀ i, i < n → (f i).cells.length = sz)
 (hc : ∀ (i j : Nat), i < n → j < sz → ∃ x, w.cell? ⟨b, o + i * sz + j, none⟩ = some x ∧ ∀ a, (f i).cells[j]? = some a → RelV m Mut w a x) :
 ∃ news, Src m Mut w u sz n f news := by
 have hex : ∀ q, q < n * sz → ∃ x, w.cell? ⟨b, o + q, none⟩ = some x := by
  intro q hq
  have hs0 : 0 < sz := by
   rcases Nat.eq_zero_or_pos sz with z | z
   · subst z; simp at hq
   · exact z
  have h1 : q / sz < n := Nat.div_lt_of_lt_mul (by rw [Nat.mul_comm]; exact hq)
  obtain ⟨x, hx, _⟩ := hc (q / sz) (q % sz) h1 (Nat.mod_lt _ hs0)
  exact ⟨x, by rw [← hx]; congr 2; have := Nat.div_add_mod q sz; rw [Nat.mul_comm] at this; omega⟩
 refine ⟨(List.range (n * sz)).map fun q => (w.cell? ⟨b, o + q, none⟩).getD default, ⟨by simp, ⟨_, _, hu, fun _ => ⟨_, rfl, fun j x hx => ?_⟩⟩, hsz, fun i j a hi ha => ?_⟩⟩
 · rw [addr_add]
   rw [List.getElem?_map] at hx
   rcases Nat.lt_or_ge j (n * sz) with q | q
   · rw [List.getElem?_range q] at hx
     simp only [Option.map_some, Option.some.injEq] at hx
     obtain ⟨y, hy⟩ := hex j q
     rw [hy] at hx ⊢
     simpa using hx
   · rw [List.getElem?_eq_none (by simpa using q)] at hx; cases hx
 · have hj : j < sz := by
    rcases Nat.lt_or_ge j sz with q | q
    · exact q
    · rw [List.getElem?_eq_none (by rw [hsz i hi]; exact q)] at ha; cases ha
   obtain ⟨x, hx, hr⟩ := hc i j hi hj
   refine ⟨x, ?_, hr a ha⟩
   have hlt : i * sz + j < n * sz := by
    have : (i + 1) * sz ≤ n * sz := Nat.mul_le_mul_right _ hi
    rw [Nat.succ_mul] at this
    omega
   rw [List.getElem?_map, List.getElem?_range hlt]
   simp only [Option.map_some]
   rw [← Nat.add_assoc, hx]
   rfl
theorem asrc_sound {x : AV} {u : Value} {c : Cnd} {sz n : Nat} {f : Nat → AV} (H : RelH m Mut h w) (hs : asrc h x = some (c, sz, n, f)) (hC : c.ok) (hx : RelV m Mut w x u) : ∃ news, Src m Mut w u sz n f news := by
 have nil : ∀ (a : Option Addr) (cap sz : Nat) (f : Nat → AV), Src m Mut w (.slice a 0 cap) sz 0 f [] := fun a cap sz f =>
  ⟨by simp, ⟨a, cap, rfl, fun h => absurd h (Nat.lt_irrefl _)⟩, fun i hi => absurd hi (Nat.not_lt_zero _), fun i j a hi => absurd hi (Nat.not_lt_zero _)⟩
 unfold asrc at hs
 split at hs
 · cases hs
   cases hx with
   | sl _ _ _ b o cap val hn hc hbs hmu hsz hv hr => exact src_of_cells rfl hsz fun i j hi hj => ⟨_, hv i j hi hj, fun a ha => hr i j a hi ha⟩
   | sl0 _ _ a cap => exact ⟨_, nil _ _ _ _⟩
 · rename_i id v sz' off len
   split at hs
   · rename_i s k col hid
     cases hs
     obtain ⟨rfl, rfl, hle⟩ := hC
     rcases Nat.eq_zero_or_pos n with q0 | q0
     · subst q0
       cases hx with
       | ms _ _ _ _ _ b' o' C' hm hc => exact ⟨_, nil _ _ _ _⟩
       | ms0 _ _ _ _ b' o' C' a hm => exact ⟨_, nil _ _ _ _⟩
     obtain ⟨b, o, C, cc, t, h1, h2, h3, h4, h5, h6, h7⟩ := (H.obj id _ hid).rowIn (i := off) (by omega)
     cases hx with
     | ms _ _ _ _ _ b' o' C' hm hc =>
      rw [h1] at hm; cases hm
      refine src_of_cells rfl (fun i hi => h6 _ (by omega)) fun i j hi hj => ?_
      obtain ⟨a, ha⟩ : ∃ a, (col.get (off + i)).cells[j]? = some a := ⟨_, List.getElem?_eq_getElem (by rw [h6 _ (by omega)]; exact hj)⟩
      obtain ⟨x, hx, hr⟩ := h7 (off + i) j a (by omega) ha
      refine ⟨x, ?_, fun a' ha' => ?_⟩
      · rw [cell?_at h3, ← hx]; congr 1; rw [Nat.add_mul]; omega
      · rw [ha] at ha'; cases ha'; exact hr
     | ms0 _ _ _ _ b' o' C' a hm => exact ⟨_, nil _ _ _ _⟩
   · rename_i s k n' f' hid
     cases hs
     obtain ⟨rfl, rfl, hle⟩ := hC
     rcases Nat.eq_zero_or_pos n with q0 | q0
     · subst q0
       cases hx with
       | ms _ _ _ _ _ b' o' C' hm hc => exact ⟨_, nil _ _ _ _⟩
       | ms0 _ _ _ _ b' o' C' a hm => exact ⟨_, nil _ _ _ _⟩
     obtain ⟨b, o, C, cc, t, h1, h2, h3, h4, h5, h6, h7⟩ := (H.obj id _ hid).frowIn (i := off) (by omega)
     cases hx with
     | ms _ _ _ _ _ b' o' C' hm hc =>
      rw [h1] at hm; cases hm
      refine src_of_cells rfl (fun i hi => h6 _ (by omega)) fun i j hi hj => ?_
      obtain ⟨a, ha⟩ : ∃ a, (f' (off + i)).cells[j]? = some a := ⟨_, List.getElem?_eq_getElem (by rw [h6 _ (by omega)]; exact hj)⟩
      obtain ⟨x, hx, hr⟩ := h7 (off + i) j a (by omega) ha
      refine ⟨x, ?_, fun a' ha' => ?_⟩
      · rw [cell?_at h4, ← hx]; congr 1; rw [Nat.add_mul]; omega
      · rw [ha] at ha'; cases ha'; exact hr
     | ms0 _ _ _ _ b' o' C' a hm => exact ⟨_, nil _ _ _ _⟩
   · cases hs
 · cases hs
   cases hx with
   | snil a => exact ⟨_, nil _ _ _ _⟩
 · cases hs
   cases hx with
   | sne a cap => exact ⟨_, nil _ _ _ _⟩
 · cases hs
end
end Go.Proofs.Ytjdbmmilcihpoaa
namespace Go.Proofs.Ytjdbmmilcihpoaa
set_option linter.unusedVariables false
set_option linter.unusedSimpArgs false
def Cnd.and (c : Cnd) (p : Prop) [d : Decidable p] : Cnd :=
 match c with
 | none => some ⟨p, d⟩
 | some c => some ⟨c.p ∧ p, @instDecidableAnd _ _ c.d d⟩
def AppMode.num : AppMode → Nat → Nat
 | .none, _ => 0
 | .one, _ => 1
 | .many, n => n
def AppMode.needs (mode : AppMode) (n : Nat) (f : Nat → AV) : Prop :=
 match mode with
 | .none => n = 0
 | .one => n = 1 ∧ (f 0).cells.all AV.isCell = true
 | .many => ∀ i, i < n → (f i).cells.all AV.isCell = true
instance (mode : AppMode) (n : Nat) (f : Nat → AV) : Decidable (mode.needs n f) :=
 match mode with
 | .none => inferInstanceAs (Decidable (n = 0))
 | .one => inferInstanceAs (Decidable (n = 1 ∧ (f 0).cells.all AV.isCell = true))
 | .many => inferInstanceAs (Decidable (∀ i, i < n → (f i).cells.all AV.isCell = true))
def Col.join (c : Col) (mode : AppMode) (n : Nat) (f : Nat → AV) : Col :=
 match mode with
 | .none => c
 | .one => c.snoc (f 0)
 | .many => c.app n f
def Col.first (mode : AppMode) (n : Nat) (f : Nat → AV) : Col :=
 match mode with
 | .one => Col.ofList [f 0]
 | _ => .gen n f
/-- append(s, x...). -/
def aapp (P : Program) (h : AHeap) (t : TypeId) (s x : AV) (mode : AppMode) (shift : Bool) : Option (Cnd × AV × AHeap) :=
 match seqOf P t with
 | .slice e =>
  if zeroSized P e then
   match asrc h x with
   | some (cx, sz, n, f) =>
    match mode, s with
    | .none, .snil => some (cx.and (n = 0), .snil, h)
    | .none, .ms id v s' off len => some (cx.and (n = 0), .ms id v s' off len, h)
    | mode, .snil =>
     some (cx.and (sz = szOf P e ∧ mode.needs n f ∧ n * bytesT P e ≤ 140737488355328), .ms h.length (mode.num n) (szOf P e) 0 (mode.num n), h ++ [.row (szOf P e) (mode.num n) (Col.first mode n f)])
    | mode, .ms id v s' off len =>
     match h[id]? with
     | some (.row s'' k c) =>
      if s'' = szOf P e ∧ s' = szOf P e then
       match shift with
       | false => some (cx.and (sz = szOf P e ∧ mode.needs n f ∧ (len + n) * bytesT P e ≤ 140737488355328 ∧ v = k ∧ off = 0 ∧ len = c.len), .ms id (k + mode.num n) (szOf P e) 0 (c.join mode n f).len, h.set id (.row (szOf P e) (k + mode.num n) (c.join mode n f)))
       | true => some (cx.and (sz = szOf P e ∧ mode.needs n f ∧ (len + n) * bytesT P e ≤ 140737488355328 ∧ v = k ∧ off + len = c.len ∧ 0 < n), .ms id (k + mode.num n) (szOf P e) 0 (len + mode.num n), h.set id (.row (szOf P e) (k + mode.num n) ((c.drop off).join mode n f)))
      else none
     | _ => none
    | _, _ => none
   | none => none
  else none
 | _ => none
section
variable {m : IdMap} {Mut : Mu} {w : World} {P : Program} {h : AHeap}
theorem Cnd.and_ok {c : Cnd} {p : Prop} [Decidable p] (h : (c.and p).ok) : c.ok ∧ p := by
 cases c with
 | none => exact ⟨trivial, h⟩
 | some c => exact h
theorem AppMode.needs_num {mode : AppMode} {n : Nat} {f : Nat → AV} (h : mode.needs n f) : mode.num n = n ∧ (∀ i, i < n → (f i).cells.all AV.isCell = true) := by
 cases mode with
 | none => simp only [AppMode.needs] at h; subst h; exact ⟨rfl, fun i hi => absurd hi (Nat.not_lt_zero _)⟩
 | one =>
  obtain ⟨rfl, h2⟩ := h
  refine ⟨rfl, fun i hi => ?_⟩
  obtain rfl : i = 0 := by omega
  exact h2
 | many => exact ⟨rfl, h⟩
/-- A row to which elements came. -/
structure Joined (c c' : Col) (n : Nat) (f : Nat → AV) : Prop where
 len : c'.len = c.len + n
 old : ∀ j, j < c.len → c'.get j = c.get j
 new : ∀ j, j < n → c'.get (c.len + j) = f j
theorem Col.join_sound {c : Col} {mode : AppMode} {n : Nat} {f : Nat → AV} (h : mode.needs n f) : Joined c (c.join mode n f) n f := by
 cases mode with
 | none => simp only [AppMode.needs] at h; subst h; exact ⟨rfl, fun _ _ => rfl, fun j hj => absurd hj (Nat.not_lt_zero _)⟩
 | one =>
  obtain ⟨rfl, _⟩ := h
  obtain ⟨h1, h2, h3⟩ := Col.snoc_sound c (f 0)
  refine ⟨h1, h2, fun j hj => ?_⟩
  obtain rfl : j = 0 := by omega
  exact h3
 | many =>
  refine ⟨rfl, fun j hj => ?_, fun j hj => ?_⟩
  · simp [Col.join, Col.app, Col.get, hj]
  · simp only [Col.join, Col.app]
    show (if c.len + j < c.len then c.get (c.len + j) else f (c.len + j - c.len)) = f j
    rw [if_neg (by omega), Nat.add_sub_cancel_left]
/-- A row that reads aas another. -/
theorem RelH.recol {id sz k : Nat} {c c' : Col} (H : RelH m Mut h w) (hid : h[id]? = some (.row sz k c)) (hl : c'.len = c.len) (hg : ∀ j, j < c.len → c'.get j = c.get j) : RelH m Mut (h.set id (.row sz k c')) w := by
 have hlt : id < h.length := (List.getElem?_eq_some_iff.1 hid).1
 have old : ∀ (i : Nat) (x : AObj), (h.set id (.row sz k c'))[i]? = some x → ∃ y, h[i]? = some y ∧ y.ver = x.ver ∧ y.live = x.live ∧ y.act = x.act ∧ (y = x ∨ (i = id ∧ x = .row sz k c')) := by
  intro i x hx
  rw [List.getElem?_set] at hx
  by_cases e : id = i
  · rw [if_pos e, if_pos hlt] at hx; cases hx; subst e; exact ⟨.row sz k c, hid, rfl, rfl, rfl, .inr ⟨rfl, rfl⟩⟩
  · rw [if_neg e] at hx; exact ⟨x, hx, rfl, rfl, rfl, .inl rfl⟩
 refine ⟨fun i x hx => ?_, fun i i' x x' b C C' hx hx' hl hl' hm hm' => ?_, fun i n x hx => by rw [List.length_set]; exact H.dom i n x hx, H.lt, fun i x n y hx hl hy => ?_⟩
 · obtain ⟨y, hy, _, _, _, e | ⟨rfl, rfl⟩⟩ := old i x hx
   · subst e; exact H.obj i y hy
   · rcases H.obj i _ hid with ⟨q1, q2, q3⟩ | ⟨q, b, o, C, cc, t, h1, h2, h3, h4, h5, h6, h7⟩
     · exact .inl ⟨q1, hl ▸ q2, q3⟩
     · exact .inr ⟨q, b, o, C, cc, t, h1, h2, h3, h4, hl ▸ h5, fun j hj => by rw [hg j (hl ▸ hj)]; exact h6 j (hl ▸ hj), fun j q a hj ha => by rw [hg j (hl ▸ hj)] at ha; exact h7 j q a (hl ▸ hj) ha⟩
 · obtain ⟨y, hy, e1, e2, _⟩ := old i x hx
   obtain ⟨y', hy', e1', e2', _⟩ := old i' x' hx'
   exact H.inj i i' y y' b C C' hy hy' (e2.trans hl) (e2'.trans hl') (e1 ▸ hm) (e1' ▸ hm')
 · obtain ⟨y', hy', e1, _, e3, _⟩ := old i x hx
   rw [← e1]
   exact H.top i y' n y hy' (e3.trans hl) hy
theorem Col.first_sound {mode : AppMode} {n : Nat} {f : Nat → AV} (h : mode.needs n f) : (Col.first mode n f).len = n ∧ ∀ j, j < n → (Col.first mode n f).get j = f j := by
 cases mode with
 | none => exact ⟨rfl, fun _ _ => rfl⟩
 | one =>
  obtain ⟨rfl, _⟩ := h
  obtain ⟨h1, h2⟩ := Col.ofList_get [f 0]
  refine ⟨h1, fun j hj => ?_⟩
  obtain rfl : j = 0 := by omega
  have := h2 0 (by simp)
  simpa [Col.first] using this.symm
 | many => exact ⟨rfl, fun _ _ => rfl⟩
theorem news_one {u : Value} {sz n : Nat} {f : Nat → AV} {news : List Value} (S : Src m Mut w u sz n f news) (hall : ∀ i, i < n → (f i).cells.all AV.isCell = true) : ∀ x ∈ news, x.oneCell' = true := by
 intro x hx
 obtain ⟨q, hq⟩ := List.getElem?_of_mem hx
 have hlt : q < n * sz := by
  rw [← S.len]
  rcases Nat.lt_or_ge q news.length with z | z
  · exact z
  · rw [List.getElem?_eq_none z] at hq; cases hq
 have hs0 : 0 < sz := by
  rcases Nat.eq_zero_or_pos sz with z | z
  · subst z; simp at hlt
  · exact z
 have h1 : q / sz < n := Nat.div_lt_of_lt_mul (by rw [Nat.mul_comm]; exact hlt)
 have h2 : q % sz < sz := Nat.mod_lt _ hs0
 obtain ⟨a, ha⟩ : ∃ a, (f (q / sz)).cells[q % sz]? = some a := ⟨_, List.getElem?_eq_getElem (by rw [S.size _ h1]; exact h2)⟩
 obtain ⟨y, hy, hr⟩ := S.rel _ _ _ h1 ha
 rw [show q / sz * sz + q % sz = q by have := Nat.div_add_mod q sz; rw [Nat.mul_comm] at this; omega, hq] at hy
 cases hy
 exact (isCell_one (List.all_eq_true.1 (hall _ h1) _ (List.mem_of_getElem? ha)) hr).1
theorem zeroCells_size (z : Array Value) (n : Nat) : (Builtin.zeroCells z n).size = n * z.size := by simp [Builtin.zeroCells]
/-- What a grown row is. -/
theorem grown_row {olds news : List Value} {rest : Array Value} {sz len n : Nat} (ho : olds.length = len * sz) (hn : news.length = n * sz) (i j : Nat) (hj : j < sz) :
 (i < len → (olds.toArray ++ news.toArray ++ rest)[0 + i * sz + j]? = olds[i * sz + j]?) ∧ (i < n → (olds.toArray ++ news.toArray ++ rest)[0 + (len + i) * sz + j]? = news[i * sz + j]?) := by
 constructor
 · intro hi
   have : (i + 1) * sz ≤ len * sz := Nat.mul_le_mul_right _ hi
   rw [Nat.succ_mul] at this
   rw [Nat.zero_add, Array.getElem?_append_left (by simp; omega), Array.getElem?_append_left (by simp; omega)]
   simp
 · intro hi
   have : (i + 1) * sz ≤ n * sz := Nat.mul_le_mul_right _ hi
   rw [Nat.succ_mul] at this
   rw [Nat.zero_add, Nat.add_mul, Array.getElem?_append_left (by simp; omega), Array.getElem?_append_right (by simp; omega)]
   simp only [List.size_toArray, List.getElem?_toArray]
   congr 1
   omega
theorem append_new_sound {t e : TypeId} {z : AV} {ua ux : Value} {a : Option Addr} {n sz : Nat} {f : Nat → AV} {news : List Value} {c' : Col} {ty : TypeId}
 (H : RelH m Mut h w) (hs : seqOf P t = .slice e) (hz : zeroV P e = some z) (hzs : zeroSized P e = true) (hsz : sz = szOf P e)
 (hua : ua = .slice a 0 0) (S : Src m Mut w ux sz n f news) (hn : 0 < n) (hb : n * bytesT P e ≤ 140737488355328) (hc : c'.len = n ∧ ∀ j, j < n → c'.get j = f j) :
 ∃ x m' Mut' w', (Builtin.append_ #[t, t] ty #[ua, ux]).run P w = .ok x w' ∧ Ext m Mut w m' Mut' w' ∧ RelH m' Mut' (h ++ [.row sz n c']) w' ∧ RelV m' Mut' w' (.ms h.length n sz 0 n) x := by
 subst hua
 have hu := seqOf_slice hs
 obtain ⟨k1, k2, k3, k4⟩ := zeroSized_spec hz hzs
 obtain ⟨zc, hzr, rfl, i, hi, hzi⟩ := run_zeroValue (w := w) hz
 have hby : bytesT P e = i.bytes := by simp [bytesT, hi]
 have hisz : szOf P e = i.size := by simp [szOf, hi]
 have hzl := (relV_cells (ofV_rel (m := m) (Mut := Mut) (w := w) zc) (isAny_ne k1)).1
 obtain ⟨ax, capx, rfl, hax⟩ := S.val
 obtain ⟨bx, rfl, hcells⟩ := hax hn
 rw [hby] at hb
 rw [hby] at k4
 have h63 : n ≤ 9223372036854775807 := by
  have : n * 1 ≤ n * i.bytes := Nat.mul_le_mul_left _ k4
  omega
 have hlen : news.length = n * i.size := by rw [S.len, hsz, hisz]
 have fin : ∀ (w1 : World) (C : Nat) (rest : Array Value), w1 = w.drew.alloc (.cells (([] : List Value).toArray ++ news.toArray ++ rest) e) → n ≤ C → rest.size = (C - n) * i.size →
  ∃ m' Mut', Ext m Mut w m' Mut' w1 ∧ RelH m' Mut' (h ++ [.row sz n c']) w1 ∧ RelV m' Mut' w1 (.ms h.length n sz 0 n) (.slice (some ⟨w.heap.size, 0, none⟩) n C) := by
  intro w1 C rest hw1 hC hrest
  subst hw1
  have H1 : RelH m Mut h w.drew := H.drew _
  have E1 : Ext m Mut w m Mut w.drew := .drew _ _ _ _
  obtain ⟨H', E'⟩ := H1.new (.cells (([] : List Value).toArray ++ news.toArray ++ rest) e) (.row sz n c') (0, C) (decide_eq_true hn)
   (.inr ⟨hn, w.heap.size, 0, C, _, e, IdMap.put_same _ _ _ _, .inr rfl, heap_alloc_self w.drew _, by
    simp only [Array.size_append, List.size_toArray, List.length_nil, hlen, hrest, hsz, hisz]
    rw [Nat.zero_add, Nat.zero_add, ← Nat.add_mul]; congr 1; omega, by omega, fun q hq => by rw [hc.2 q (by omega)]; exact S.size q (by omega), fun q j y hq ha => by
     rw [hc.2 q (by omega)] at ha
     obtain ⟨x, hx, hr⟩ := S.rel q j y (by omega) ha
     have hj : j < sz := by
      rcases Nat.lt_or_ge j sz with y | y
      · exact y
      · rw [List.getElem?_eq_none (by rw [S.size q (by omega)]; exact y)] at ha; cases ha
     refine ⟨x, ?_, ?_⟩
     · have g := (grown_row (olds := []) (rest := rest) (len := 0) (sz := sz) (by simp) S.len q j hj).2 (by omega)
       rw [Nat.zero_add q] at g
       rw [g, hx]
     · refine RelV.mono (m := m) (Mut := Mut) (Mut' := Mut.add w.heap.size) (w := w) (fun id k x hx => ?_) (by simp) (fun b hb hM hM' => hM'.elim hM (fun e => by have : b = w.heap.size := e; omega)) (fun b hb _ => Go.RowKit.Below.heap_alloc w.drew _ b hb) hr
       rw [IdMap.put_other (.inl (Nat.ne_of_lt (H.dom id k x hx)))]; exact hx⟩)
  refine ⟨_, _, E1.trans E', H', ?_⟩
  have := RelV.ms (m := m.put h.length n (w.heap.size, 0, C)) (Mut := Mut.add w.heap.size) (w := w.drew.alloc (.cells (([] : List Value).toArray ++ news.toArray ++ rest) e)) h.length n sz 0 n w.heap.size 0 C (IdMap.put_same _ _ _ _) (by omega)
  simp only [Nat.zero_mul, Nat.add_zero, Nat.sub_zero] at this
  exact this
 cases a with
 | none =>
  have hrun := run_append_nil (P := P) w t ty e i zc hu hi hzi bx n capx news hlen (by simpa using hcells) hn (by omega) (by omega)
  obtain ⟨m', Mut', g1, g2, g3⟩ := fin _ (grownCap w n 0 e) (Builtin.zeroCells zc.cells (grownCap w n 0 e - n)) rfl (grownCap_ge w n 0 e) (by rw [zeroCells_size, ← hzl, k2, hisz])
  exact ⟨_, m', Mut', _, by rw [hrun]; simp, g1, g2, g3⟩
 | some b =>
  have hrun := run_append_grow (P := P) w t ty e i zc hu hi hzi b 0 0 [] (by simp) (by simp) bx n capx news hlen (by simpa using hcells) (by omega) (by simp; omega) (by rw [Nat.zero_add, nextslicecap_zero hn]; omega)
  simp only [Nat.zero_add] at hrun
  obtain ⟨m', Mut', g1, g2, g3⟩ := fin _ (grownCap w n 0 e) (Builtin.zeroCells zc.cells (grownCap w n 0 e - n)) rfl (grownCap_ge w n 0 e) (by rw [zeroCells_size, ← hzl, k2, hisz])
  exact ⟨_, m', Mut', _, hrun, g1, g2, g3⟩
end
end Go.Proofs.Ytjdbmmilcihpoaa
namespace Go.Proofs.Ytjdbmmilcihpoaa
set_option linter.unusedVariables false
set_option linter.unusedSimpArgs false
section
variable {m : IdMap} {Mut : Mu} {w : World} {P : Program} {h : AHeap}
/-- append within the room that there is. -/
theorem run_append_inplace {t ty e e' : TypeId} {i : TypeInfo} (ht : P.underlying t = some (.slice e)) (hi : P.info? e = some i)
 {g o sLen sCap : Nat} {cur : Array Value} (hg : w.heap[g]? = some (.cells cur e' (0, 0))) {b : Addr} {n c : Nat} {news : List Value} (hl : news.length = n * i.size)
 (hnews : ∀ (j : Nat) u, news[j]? = some u → w.cell? (b.add j) = some u) (h1 : ∀ u ∈ news, u.oneCell' = true) (hroom : sLen + n ≤ sCap) (hfit : o + sLen * i.size + news.length ≤ cur.size) :
 ∃ c' w', (Builtin.append_ #[t, t] ty #[.slice (some ⟨g, o, none⟩) sLen sCap, .slice (some b) n c]).run P w = .ok (.slice (some ⟨g, o, none⟩) (sLen + n) sCap) w' ∧
  w'.heap[g]? = some (.cells c' e' (0, 0)) ∧ c'.size = cur.size ∧
  (∀ j, c'[j]? = if o + sLen * i.size ≤ j ∧ j < o + sLen * i.size + news.length then news[j - (o + sLen * i.size)]? else cur[j]?) ∧
  w'.os = w.os ∧ w'.tape = w.tape ∧ w'.output = w.output ∧ w.drawn ≤ w'.drawn ∧ w'.heap.size = w.heap.size ∧ ∀ b', b' ≠ g → w'.heap[b']? = w.heap[b']? := by
 have hf := run_firstCells_some (P := P) w i.size n b n c news hl hnews
 obtain ⟨c', w', hrun, g1, g2, g3, g4, g5, g6, gd, g7, g8⟩ := run_storeCells_block P g (o + sLen * i.size) e' news 0 cur w hg (by simpa using hfit) h1
 refine ⟨c', w', ?_, g1, g2, by simpa using g3, g4, g5, g6, gd, g7, g8⟩
 simp [Builtin.append_, run_underlying ht, sizeOf, typeInfo, hi, Builtin.lenOf, hroom, hf, addr_add, hrun]
theorem append_row_sound {t e : TypeId} {z : AV} {us ux : Value} {id v off len n sz : Nat} {f : Nat → AV} {news : List Value} {c0 c' : Col} {ty : TypeId}
 (H : RelH m Mut h w) (hs : seqOf P t = .slice e) (hz : zeroV P e = some z) (hzs : zeroSized P e = true) (hsz : sz = szOf P e)
 (hid : h[id]? = some (.row sz v c0)) (hus : RelV m Mut w (.ms id v sz off len) us) (S : Src m Mut w ux sz n f news) (hn : 0 < n) (hall : ∀ i, i < n → (f i).cells.all AV.isCell = true)
 (hb : (len + n) * bytesT P e ≤ 140737488355328) (hlen : off + len = c0.len) (hj : Joined (c0.drop off) c' n f) :
 ∃ x m' Mut' w', (Builtin.append_ #[t, t] ty #[us, ux]).run P w = .ok x w' ∧ Ext m Mut w m' Mut' w' ∧ RelH m' Mut' (h.set id (.row sz (v + n) c')) w' ∧ RelV m' Mut' w' (.ms id (v + n) sz 0 (len + n)) x := by
 have hu := seqOf_slice hs
 obtain ⟨k1, k2, k3, k4⟩ := zeroSized_spec hz hzs
 obtain ⟨zc, hzr, rfl, i, hi, hzi⟩ := run_zeroValue (w := w) hz
 have hby : bytesT P e = i.bytes := by simp [bytesT, hi]
 have hisz : szOf P e = i.size := by simp [szOf, hi]
 have hzl := (relV_cells (ofV_rel (m := m) (Mut := Mut) (w := w) zc) (isAny_ne k1)).1
 obtain ⟨ax, capx, rfl, hax⟩ := S.val
 obtain ⟨bx, rfl, hcells⟩ := hax hn
 rw [hby] at hb k4
 have h63 : len + n ≤ 9223372036854775807 := by
  have : (len + n) * 1 ≤ (len + n) * i.bytes := Nat.mul_le_mul_left _ k4
  omega
 obtain ⟨d1, d2⟩ := Col.drop_sound c0 off
 have hlen' : (c0.drop off).len = len := by omega
 have hnl : news.length = n * i.size := by rw [S.len, hsz, hisz]
 have hsi : sz = i.size := by rw [hsz, hisz]
 rcases H.obj id _ hid with ⟨rfl, q2, y, q3⟩ | ⟨hv0, b, o, C, cc, tt, p1, p2, p3, p4, p5, p6, p7⟩
 · -- a row without a block
   obtain rfl : len = 0 := by omega
   obtain rfl : off = 0 := by omega
   rw [Nat.zero_add] at hb
   have hnl : news.length = n * i.size := by rw [S.len, hsz, hisz]
   have hnew : ∀ q, q < n → c'.get q = f q := fun q hq => by have := hj.new q hq; rwa [show (c0.drop 0).len + q = q by rw [d1]; omega] at this
   have hcl : c'.len = n := by rw [hj.len, d1]; omega
   have fin : ∀ (CC : Nat) (rest : Array Value), n ≤ CC → rest.size = (CC - n) * i.size →
    ∃ m' Mut', Ext m Mut w m' Mut' (w.drew.alloc (.cells (([] : List Value).toArray ++ news.toArray ++ rest) e)) ∧ RelH m' Mut' (h.set id (.row sz (0 + n) c')) (w.drew.alloc (.cells (([] : List Value).toArray ++ news.toArray ++ rest) e)) ∧ RelV m' Mut' (w.drew.alloc (.cells (([] : List Value).toArray ++ news.toArray ++ rest) e)) (.ms id (0 + n) sz 0 (0 + n)) (.slice (some ⟨w.heap.size, 0, none⟩) n CC) := by
    intro CC rest hC hrest
    have M := H.fill (w0 := w.drew) (C := (0, CC)) (o' := .row sz (0 + n) c') (.cells (([] : List Value).toArray ++ news.toArray ++ rest) e) hid rfl (decide_eq_true (by omega)) (by simp [AObj.ver]; omega) ⟨rfl, rfl, rfl, rfl, Nat.le_succ _⟩
     (fun E => .inr ⟨by omega, w.heap.size, 0, CC, _, e, IdMap.put_same _ _ _ _, .inr rfl, heap_alloc_self w.drew _, by
      simp only [Array.size_append, List.size_toArray, List.length_nil, hnl, hrest, hsz, hisz]
      rw [Nat.zero_add, Nat.zero_add, ← Nat.add_mul]; congr 1; omega, by omega, fun q hq => by rw [hnew q (by omega)]; exact S.size q (by omega), fun q j a hq ha => by
       rw [hnew q (by omega)] at ha
       obtain ⟨x, hx, hr⟩ := S.rel q j a (by omega) ha
       have hj2 : j < sz := by
        rcases Nat.lt_or_ge j sz with y | y
        · exact y
        · rw [List.getElem?_eq_none (by rw [S.size q (by omega)]; exact y)] at ha; cases ha
       refine ⟨x, ?_, E.relV hr⟩
       have g := (grown_row (olds := []) (rest := rest) (len := 0) (sz := sz) (by simp) S.len q j hj2).2 (by omega)
       rw [Nat.zero_add q] at g
       rw [g, hx]⟩)
    refine ⟨_, _, M.2, M.1, ?_⟩
    have := RelV.ms (m := m.put id (0 + n) (w.heap.size, 0, CC)) (Mut := Mut.add w.heap.size) (w := w.drew.alloc (.cells (([] : List Value).toArray ++ news.toArray ++ rest) e)) id (0 + n) sz 0 (0 + n) w.heap.size 0 CC (IdMap.put_same _ _ _ _) (by omega)
    simp only [Nat.zero_mul, Nat.add_zero, Nat.sub_zero, Nat.zero_add] at this ⊢
    exact this
   have key : ∀ a, us = .slice a 0 0 → ∃ x m' Mut' w', (Builtin.append_ #[t, t] ty #[us, .slice (some bx) n capx]).run P w = .ok x w' ∧ Ext m Mut w m' Mut' w' ∧ RelH m' Mut' (h.set id (.row sz (0 + n) c')) w' ∧ RelV m' Mut' w' (.ms id (0 + n) sz 0 (0 + n)) x := by
    intro a ha
    subst ha
    cases a with
    | none =>
     have hrun := run_append_nil (P := P) w t ty e i zc hu hi hzi bx n capx news hnl (by simpa using hcells) hn (by omega) (by omega)
     obtain ⟨m', Mut', g1, g2, g3⟩ := fin (grownCap w n 0 e) (Builtin.zeroCells zc.cells (grownCap w n 0 e - n)) (grownCap_ge w n 0 e) (by rw [zeroCells_size, ← hzl, k2, hisz])
     exact ⟨_, m', Mut', _, by rw [hrun]; simp, g1, g2, g3⟩
    | some b =>
     have hrun := run_append_grow (P := P) w t ty e i zc hu hi hzi b 0 0 [] (by simp) (by simp) bx n capx news hnl (by simpa using hcells) (by omega) (by simp; omega) (by rw [Nat.zero_add, nextslicecap_zero hn]; omega)
     simp only [Nat.zero_add] at hrun
     obtain ⟨m', Mut', g1, g2, g3⟩ := fin (grownCap w n 0 e) (Builtin.zeroCells zc.cells (grownCap w n 0 e - n)) (grownCap_ge w n 0 e) (by rw [zeroCells_size, ← hzl, k2, hisz])
     exact ⟨_, m', Mut', _, hrun, g1, g2, g3⟩
   cases hus with
   | ms _ _ _ _ _ b' o' C' hm hc =>
    rw [q3] at hm; cases hm
    exact key _ rfl
   | ms0 _ _ _ _ b' o' C' a hm => exact key _ rfl
 have htop : m id (v + n) = none := by
  cases hq : m id (v + n) with
  | none => rfl
  | some x => have := H.top id _ (v + n) x hid rfl hq; simp only [AObj.ver] at this; omega
 -- the old elements, aas they lie
 have hold : ∀ (i' j : Nat) (a : AV), i' < len → ((c0.drop off).get i').cells[j]? = some a → ∃ x, cc[o + (off + i') * sz + j]? = some x ∧ RelV m Mut w a x := fun i' j a hi' ha => by
  rw [d2] at ha
  exact p7 (off + i') j a (by omega) ha
 have hjlt : ∀ (i' j : Nat) (a : AV), i' < len → ((c0.drop off).get i').cells[j]? = some a → j < sz := fun i' j a hi' ha => by
  rcases Nat.lt_or_ge j sz with y | y
  · exact y
  · rw [List.getElem?_eq_none (by rw [d2, p6 _ (by omega)]; exact y)] at ha; cases ha
 have hjlt2 : ∀ (i' j : Nat) (a : AV), i' < n → (f i').cells[j]? = some a → j < sz := fun i' j a hi' ha => by
  rcases Nat.lt_or_ge j sz with y | y
  · exact y
  · rw [List.getElem?_eq_none (by rw [S.size _ (by omega)]; exact y)] at ha; cases ha
 have hsizes : ∀ q, q < c'.len → (c'.get q).cells.length = sz := fun q hq => by
  rw [hj.len, hlen'] at hq
  rcases Nat.lt_or_ge q len with y | y
  · rw [hj.old q (by omega), d2]; exact p6 _ (by omega)
  · have := hj.new (q - len) (by omega)
    rw [hlen', show len + (q - len) = q by omega] at this
    rw [this]; exact S.size _ (by omega)
 -- the grown row
 have growC : ∀ (CC : Nat) (rest : Array Value) (olds : List Value), (Builtin.append_ #[t, t] ty #[us, .slice (some bx) n capx]).run P w = .ok (.slice (some ⟨w.heap.size, 0, none⟩) (len + n) CC) (w.drew.alloc (.cells (olds.toArray ++ news.toArray ++ rest) e)) →
  len + n ≤ CC → rest.size = (CC - (len + n)) * sz → olds.length = len * sz →
  (∀ (i' j : Nat) (a : AV), i' < len → ((c0.drop off).get i').cells[j]? = some a → ∃ x, olds[i' * sz + j]? = some x ∧ RelV m Mut w a x) →
  ∃ x m' Mut' w', (Builtin.append_ #[t, t] ty #[us, .slice (some bx) n capx]).run P w = .ok x w' ∧ Ext m Mut w m' Mut' w' ∧ RelH m' Mut' (h.set id (.row sz (v + n) c')) w' ∧ RelV m' Mut' w' (.ms id (v + n) sz 0 (len + n)) x := by
  intro CC rest olds hrun hC hrest hol hrel
  have M := H.move (w' := w.drew.alloc (.cells (olds.toArray ++ news.toArray ++ rest) e)) (b' := w.heap.size) (C' := (0, CC)) (o' := .row sz (v + n) c') hid (decide_eq_true hv0) (decide_eq_true (by omega)) (by simp [AObj.ver]) p1 (.inl htop) (.inr rfl) rfl rfl rfl (Nat.le_succ _) (by simp) (by simp)
   (fun k _ hk => Go.RowKit.Below.heap_alloc w.drew _ k hk)
   (fun E => .inr ⟨by omega, w.heap.size, 0, CC, _, e, IdMap.put_same _ _ _ _, .inr rfl, heap_alloc_self w.drew _, by
    simp only [Array.size_append, List.size_toArray, hol, S.len, hrest]
    rw [Nat.zero_add, ← Nat.add_mul, ← Nat.add_mul]; congr 1; omega, by rw [hj.len, hlen']; exact hC, hsizes, fun q j a hq ha => by
     rw [hj.len, hlen'] at hq
     rcases Nat.lt_or_ge q len with y | y
     · rw [hj.old q (by omega)] at ha
       obtain ⟨x, hx, hr⟩ := hrel q j a y ha
       exact ⟨x, by rw [(grown_row (rest := rest) hol S.len q j (hjlt q j a y ha)).1 y, hx], E.relV hr⟩
     · have e1 := hj.new (q - len) (by omega)
       rw [hlen', show len + (q - len) = q by omega] at e1
       rw [e1] at ha
       obtain ⟨x, hx, hr⟩ := S.rel (q - len) j a (by omega) ha
       refine ⟨x, ?_, E.relV hr⟩
       have g := (grown_row (rest := rest) hol S.len (q - len) j (hjlt2 (q - len) j a (by omega) ha)).2 (by omega)
       rw [show len + (q - len) = q by omega] at g
       rw [g, hx]⟩)
  refine ⟨_, _, _, _, hrun, M.2, M.1, ?_⟩
  have := RelV.ms (m := m.put id (v + n) (w.heap.size, 0, CC)) (Mut := Mut.add w.heap.size) (w := w.drew.alloc (.cells (olds.toArray ++ news.toArray ++ rest) e)) id (v + n) sz 0 (len + n) w.heap.size 0 CC (IdMap.put_same _ _ _ _) (by omega)
  simp only [Nat.zero_mul, Nat.add_zero, Nat.sub_zero] at this
  exact this
 have grow : ∀ (b0 : Addr) (cap : Nat) (olds : List Value), us = .slice (some b0) len cap → cap < len + n → olds.length = len * sz → (∀ (j : Nat) x, olds[j]? = some x → w.cell? (b0.add j) = some x) →
  (∀ (i' j : Nat) (a : AV), i' < len → ((c0.drop off).get i').cells[j]? = some a → ∃ x, olds[i' * sz + j]? = some x ∧ RelV m Mut w a x) →
  ∃ x m' Mut' w', (Builtin.append_ #[t, t] ty #[us, .slice (some bx) n capx]).run P w = .ok x w' ∧ Ext m Mut w m' Mut' w' ∧ RelH m' Mut' (h.set id (.row sz (v + n) c')) w' ∧ RelV m' Mut' w' (.ms id (v + n) sz 0 (len + n)) x := by
  intro b0 cap olds e0 hcap hol holds hrel
  subst e0
  exact growC _ _ olds (run_append_grow (P := P) w t ty e i zc hu hi hzi b0 len cap olds (by rw [hol, hsi]) holds bx n capx news hnl hcells hcap (by omega) (growslice_fits (by omega) hb))
   (grownCap_ge w (len + n) cap e) (by rw [zeroCells_size, ← hzl, k2, ← hsz]) hol hrel
 cases hus with
 | ms _ _ _ _ _ b' o' C' hm hc =>
  rw [p1] at hm; cases hm
  rcases Nat.lt_or_ge (C - off) (len + n) with hlt | hroom
  · -- grow
    obtain ⟨olds, So⟩ := src_of_cells (m := m) (Mut := Mut) (w := w) (u := .slice (some ⟨b, o + off * sz, none⟩) len (C - off)) (f := (c0.drop off).get) rfl (fun i' hi' => by rw [d2]; exact p6 _ (by omega)) (fun i' j hi' hj' => by
     obtain ⟨a, ha⟩ : ∃ a, ((c0.drop off).get i').cells[j]? = some a := ⟨_, List.getElem?_eq_getElem (by rw [d2, p6 _ (by omega)]; exact hj')⟩
     obtain ⟨x, hx, hr⟩ := hold i' j a hi' ha
     refine ⟨x, ?_, fun a' ha' => by rw [ha] at ha'; cases ha'; exact hr⟩
     rw [cell?_at p3, ← hx]; congr 1; rw [Nat.add_mul]; omega)
    obtain ⟨a0, cap0, e0, hc0⟩ := So.val
    cases e0
    by_cases hl0 : 0 < len
    · obtain ⟨b1, e1, hcell⟩ := hc0 hl0
      cases e1
      exact grow _ _ olds rfl hlt So.len hcell So.rel
    · obtain rfl : len = 0 := by omega
      have hol : olds = [] := List.eq_nil_of_length_eq_zero (by rw [So.len]; simp)
      subst hol
      exact grow _ _ [] rfl hlt (by simp) (fun j x hx => by simp at hx) So.rel
  · -- in place
    have hcs : cc.size = o + off * sz + (C - off) * sz := by
     rw [p4, Nat.add_assoc, ← Nat.add_mul]; congr 2; omega
    have hfit : o + off * sz + len * i.size + news.length ≤ cc.size := by
     rw [hnl, ← hsi, hcs, Nat.add_assoc, ← Nat.add_mul]
     exact Nat.add_le_add_left (Nat.mul_le_mul_right _ hroom) _
    obtain ⟨c2, w', hrun, g1, g2, g3, g4, g5, g6, gd, g7, g8⟩ := run_append_inplace (P := P) (w := w) (ty := ty) hu hi p3 hnl hcells (news_one S hall) hroom hfit
    have M := H.move (w' := w') (b' := b) (C' := (o + off * sz, C - off)) (o' := .row sz (v + n) c') hid (decide_eq_true hv0) (decide_eq_true (by omega)) (by simp [AObj.ver]) p1 (.inl htop) (.inl rfl) g4 g5 g6 gd (by omega) (by have := H.wr b p2; omega) (fun k hk _ => g8 k hk)
     (fun E => .inr ⟨by omega, b, o + off * sz, C - off, c2, tt, IdMap.put_same _ _ _ _, .inl p2, g1, by rw [g2, hcs], by rw [hj.len, hlen']; exact hroom, hsizes, fun q j a hq ha => by
      rw [hj.len, hlen'] at hq
      have hqj : j < sz := by
       rcases Nat.lt_or_ge j sz with y | y
       · exact y
       · rw [List.getElem?_eq_none (by rw [hsizes q (by rw [hj.len, hlen']; exact hq)]; exact y)] at ha; cases ha
      rw [g3, ← hsi]
      rcases Nat.lt_or_ge q len with y | y
      · rw [hj.old q (by omega)] at ha
        obtain ⟨x, hx, hr⟩ := hold q j a y ha
        refine ⟨x, ?_, E.relV hr⟩
        have : (q + 1) * sz ≤ len * sz := Nat.mul_le_mul_right _ y
        rw [Nat.succ_mul] at this
        rw [if_neg (by omega), ← hx]
        congr 1
        rw [Nat.add_mul]; omega
      · have e1 := hj.new (q - len) (by omega)
        rw [hlen', show len + (q - len) = q by omega] at e1
        rw [e1] at ha
        obtain ⟨x, hx, hr⟩ := S.rel (q - len) j a (by omega) ha
        refine ⟨x, ?_, E.relV hr⟩
        have a1 : (q + 1) * sz ≤ (len + n) * sz := Nat.mul_le_mul_right _ hq
        rw [Nat.succ_mul, Nat.add_mul] at a1
        have a2 : len * sz ≤ q * sz := Nat.mul_le_mul_right _ y
        rw [if_pos ⟨by omega, by rw [S.len]; omega⟩, ← hx]
        congr 1
        rw [Nat.sub_mul]; omega⟩)
    refine ⟨_, _, _, _, hrun, M.2, M.1, ?_⟩
    have := RelV.ms (m := m.put id (v + n) (b, o + off * sz, C - off)) (Mut := Mut.add b) (w := w') id (v + n) sz 0 (len + n) b (o + off * sz) (C - off) (IdMap.put_same _ _ _ _) (by omega)
    simp only [Nat.zero_mul, Nat.add_zero, Nat.sub_zero] at this
    exact this
 | ms0 _ _ _ _ b' o' C' a hm =>
  cases a with
  | some a => exact grow _ 0 [] rfl (by omega) (by simp) (fun j x hx => by simp at hx) (fun i' j a hi' => absurd hi' (Nat.not_lt_zero _))
  | none =>
   rw [Nat.zero_add] at hb
   have hrun := run_append_nil (P := P) w t ty e i zc hu hi hzi bx n capx news hnl (by simpa using hcells) hn (by omega) (by omega)
   refine growC (grownCap w n 0 e) (Builtin.zeroCells zc.cells (grownCap w n 0 e - n)) [] (by rw [hrun]; simp) (by have := grownCap_ge w n 0 e; omega) (by rw [zeroCells_size, ← hzl, k2, ← hsz]; simp) (by simp) (fun i' j a hi' => absurd hi' (Nat.not_lt_zero _))
end
end Go.Proofs.Ytjdbmmilcihpoaa
namespace Go.Proofs.Ytjdbmmilcihpoaa
set_option linter.unusedVariables false
set_option linter.unusedSimpArgs false
section
variable {m : IdMap} {Mut : Mu} {w : World} {P : Program} {h : AHeap}
theorem drop_zero_col (c : Col) : c.drop 0 = c := by
 cases c with
 | ints k xs => simp [Col.drop]
 | bools xs => simp [Col.drop]
 | strs xs => simp [Col.drop]
 | recs xs => simp [Col.drop]
 | gen n f => simp [Col.drop]
theorem append_none_sound {t : TypeId} {s ux us : Value} {n sz : Nat} {f : Nat → AV} {news : List Value} {ty : TypeId} {e : TypeId} (hs : seqOf P t = .slice e) (hh : hasT P e = true) (S : Src m Mut w ux sz n f news) (hn : n = 0)
 {a : Option Addr} {l c : Nat} (hus : us = .slice a l c) (hlc : l ≤ c) : (Builtin.append_ #[t, t] ty #[us, ux]).run P w = .ok us w := by
 subst hn; subst hus
 obtain ⟨ax, capx, rfl, _⟩ := S.val
 have hu := seqOf_slice hs
 unfold hasT at hh
 obtain ⟨i, hi⟩ := Option.isSome_iff_exists.1 hh
 have hf : (Builtin.firstCells i.size 0 (.slice ax 0 capx)).run P w = .ok #[] w := by
  cases ax <;> simp [Builtin.firstCells, loadCells, loadCellsFrom]
 cases a <;> simp [Builtin.append_, run_underlying_some hu, sizeOf, typeInfo, hi, Builtin.lenOf, hlc, hf, storeCells]
theorem append_zero_sound {t e : TypeId} {us ux : Value} {id k len n sz s : Nat} {f : Nat → AV} {news : List Value} {cl c' : Col} {ty : TypeId} (H : RelH m Mut h w) (hs : seqOf P t = .slice e) (hh : hasT P e = true)
 (hid : h[id]? = some (.row s k cl)) (hus : RelV m Mut w (.ms id k s 0 len) us) (S : Src m Mut w ux sz n f news) (hn : n = 0) (hj : Joined cl c' n f) :
 ∃ y m' Mut' w', (Builtin.append_ #[t, t] ty #[us, ux]).run P w = .ok y w' ∧ Ext m Mut w m' Mut' w' ∧ RelH m' Mut' (h.set id (.row s (k + n) c')) w' ∧ RelV m' Mut' w' (.ms id (k + n) s 0 (len + n)) y := by
 subst hn
 have hH := H.recol (c' := c') hid (by rw [hj.len]; rfl) hj.old
 cases hus with
 | ms _ _ _ _ _ b o C hm hc => exact ⟨_, m, Mut, w, append_none_sound (s := ux) hs hh S rfl rfl (by omega), .refl _ _ _, hH, .ms _ _ _ _ _ b o C hm hc⟩
 | ms0 _ _ _ _ b o C a hm => exact ⟨_, m, Mut, w, append_none_sound (s := ux) hs hh S rfl rfl (Nat.le_refl _), .refl _ _ _, hH, .ms0 _ _ _ _ b o C a hm⟩
theorem aapp_sound {t : TypeId} {s x v : AV} {us ux : Value} {mode : AppMode} {shift : Bool} {c : Cnd} {h' : AHeap} {ty : TypeId} (H : RelH m Mut h w) (hb : aapp P h t s x mode shift = some (c, v, h')) (hC : c.ok)
 (hs : RelV m Mut w s us) (hx : RelV m Mut w x ux) :
 ∃ y m' Mut' w', (Builtin.append_ #[t, t] ty #[us, ux]).run P w = .ok y w' ∧ Ext m Mut w m' Mut' w' ∧ RelH m' Mut' h' w' ∧ RelV m' Mut' w' v y := by
 unfold aapp at hb
 split at hb
 · rename_i e _
   split at hb
   · rename_i hzs
     have hzs' := hzs
     unfold zeroSized at hzs'
     split at hzs'
     · rename_i z hz
       have hh : hasT P e = true := by
        obtain ⟨_, _, _, i, hi, _⟩ := run_zeroValue (w := w) hz
        unfold hasT; rw [hi]; rfl
       split at hb
       · rename_i cx sz n f hsrc
         split at hb
         · cases hb
           obtain ⟨c1, c2⟩ := Cnd.and_ok hC
           obtain ⟨news, S⟩ := asrc_sound H hsrc c1 hx
           cases hs with
           | snil a => exact ⟨_, m, Mut, w, append_none_sound (s := ux) (by assumption) hh S c2 rfl (Nat.le_refl _), .refl _ _ _, H, .snil _⟩
         · cases hb
           obtain ⟨c1, c2⟩ := Cnd.and_ok hC
           obtain ⟨news, S⟩ := asrc_sound H hsrc c1 hx
           cases hs with
           | ms _ _ _ _ _ b o C hm hc => exact ⟨_, m, Mut, w, append_none_sound (s := ux) (by assumption) hh S c2 rfl (by omega), .refl _ _ _, H, .ms _ _ _ _ _ b o C hm hc⟩
           | ms0 _ _ _ _ b o C a hm => exact ⟨_, m, Mut, w, append_none_sound (s := ux) (by assumption) hh S c2 rfl (Nat.le_refl _), .refl _ _ _, H, .ms0 _ _ _ _ b o C a hm⟩
         · rename_i hmode
           cases hb
           obtain ⟨c1, rfl, c3, c4⟩ := Cnd.and_ok hC
           obtain ⟨news, S⟩ := asrc_sound H hsrc c1 hx
           obtain ⟨e1, _⟩ := AppMode.needs_num c3
           rw [e1]
           obtain ⟨f1, f2⟩ := Col.first_sound c3
           cases hs with
           | snil a =>
            rcases Nat.eq_zero_or_pos n with hn | hn
            · subst hn
              obtain ⟨H', E'⟩ := H.virt (szOf P e) (Col.first mode 0 f) f1
              exact ⟨_, _, _, w, append_none_sound (s := ux) (by assumption) hh S rfl rfl (Nat.le_refl _), E', H', .ms0 _ _ _ _ _ _ _ _ (IdMap.put_same _ _ _ _)⟩
            exact append_new_sound H (by assumption) hz hzs rfl rfl S hn c4 (Col.first_sound c3)
         · split at hb
           · rename_i s'' k cl hid
             split at hb
             · rename_i hq
               obtain ⟨rfl, rfl⟩ := hq
               split at hb
               · cases hb
                 obtain ⟨c1, rfl, c3, c4, rfl, rfl, c7⟩ := Cnd.and_ok hC
                 obtain ⟨news, S⟩ := asrc_sound H hsrc c1 hx
                 obtain ⟨e1, e2⟩ := AppMode.needs_num c3
                 rw [(Col.join_sound c3).len, e1, ← c7]
                 rcases Nat.eq_zero_or_pos n with hn | hn
                 · exact append_zero_sound H (by assumption) hh hid hs S hn (Col.join_sound c3)
                 exact append_row_sound H (by assumption) hz hzs rfl hid hs S hn e2 c4 (by omega) (by rw [drop_zero_col]; exact Col.join_sound c3)
               · cases hb
                 obtain ⟨c1, rfl, c3, c4, rfl, c7, hn⟩ := Cnd.and_ok hC
                 obtain ⟨news, S⟩ := asrc_sound H hsrc c1 hx
                 obtain ⟨e1, e2⟩ := AppMode.needs_num c3
                 rw [e1]
                 exact append_row_sound H (by assumption) hz hzs rfl hid hs S hn e2 c4 c7 (Col.join_sound c3)
             · cases hb
           · cases hb
         · cases hb
       · cases hb
     · cases hzs'
   · cases hb
 · cases hb
end
end Go.Proofs.Ytjdbmmilcihpoaa
namespace Go.Proofs.Ytjdbmmilcihpoaa
set_option linter.unusedVariables false
set_option linter.unusedSimpArgs false
/-- A call of f with these arguments over this abstract heap hands back a value and leaves a heap with R. -/
def WPF (P : Program) (f : FuncId) (args : List AV) (h : AHeap) (R : AV → AHeap → Prop) : Prop :=
 ∀ (m : IdMap) (Mut : Mu) (w : World) (us : Array Value), RelH m Mut h w → RelL m Mut w args us →
  Calls P f us w fun e w' => ∃ x v h' m' Mut', e = .returned x ∧ R v h' ∧ Ext m Mut w m' Mut' w' ∧ RelH m' Mut' h' w' ∧ RelV m' Mut' w' v x
/-- The same with one outcome. -/
def Ret (P : Program) (f : FuncId) (args : List AV) (h : AHeap) (r : AV) (h' : AHeap) : Prop := WPF P f args h fun v k => v = r ∧ k = h'
/-- Values and a heap may be read aas others. -/
def Weak (lo : Nat) (vs : List AV) (h : AHeap) (vs' : List AV) (h' : AHeap) : Prop :=
 ∀ (m : IdMap) (Mut : Mu) (w : World) (us : Array Value), RelH m Mut h w → RelL m Mut w vs us →
  ∃ m' Mut', (∀ id n x, id < lo → m id n = some x → m' id n = some x) ∧ (∀ b, Mut'.im b → Mut.im b) ∧ (∀ b, Mut'.wr b → Mut.wr b) ∧ (∀ b, Mut.im b → ¬ Mut.wr b → Mut'.im b) ∧ RelH m' Mut' h' w ∧ RelL m' Mut' w vs' us
/-- What is told to the run from outside: branches, calls' results, loops' outcomes. -/
inductive Dec where
 | b (d : Bool)
 | ret (r : AV) (h : AHeap)
 | fret (args : List AV) (h1 : AHeap) (r : AV) (h : AHeap)
 | app (mode : AppMode) (shift : Bool)
 | loop (ks : List Nat) (e : Exit) (T' : List AV) (h' : AHeap)
 | rounds (n : Nat)
 | virt (ds : List Nat) (vs : List (Option Nat × Nat × Nat × Col))   -- objects that are forgotten; nil slices (of a temporary, or in an object's cell) that become rows without a block
def aput (T : List AV) (d : Option Tmp) (v : AV) : List AV :=
 match d with
 | some d => T.set d v
 | none => T
def callable (P : Program) (f : FuncId) : Bool :=
 match P.funcs[f]? with
 | some fn => fn.name != "runtime.NumGoroutine" && fn.body.isSome
 | none => false
/-- A call of a function that the model stands in for: it comes to a value at once. -/
def ERet (P : Program) (g : FuncId) (args : List AV) (r : AV) : Prop :=
 ∀ (m : IdMap) (Mut : Mu) (w : World) (us : Array Value), RelL m Mut w args us → ∃ x, (callFunc g us).run P w = .ok (.value x) w ∧ RelV m Mut w r x
/-- The operations that make or write an abstract object. -/
def aopE (P : Program) (h : AHeap) (ρ : Operand → AV) (o : Oper) (ds : List Dec) : Option (Cnd × AV × AHeap × List Dec) :=
 match o.op with
 | .alloc e => match zeroV P e with
  | some z => if z.isAny then none else some (none, .ptr h.length 1 z.cells.length 0 0, h ++ [.var z], ds)
  | none => none
 | .box _ x => if (ρ x).isAny then none else some (none, .ptr h.length 1 (ρ x).cells.length 0 0, h ++ [.var (ρ x)], ds)
 | .store t a x => (astore P h t (ρ a) (ρ x)).map fun (c, h') => (c, .undef, h', ds)
 | .makeSlice t l c => (amake P h t (ρ l) (ρ c)).map fun (c, v, h') => (c, v, h', ds)
 | .makeMap t none => (amkMap P h t).map fun (v, h') => (none, v, h', ds)
 | .mapUpdate t x k y => (amapUpd P h t (ρ x) (ρ k) (ρ y)).map fun h' => (none, .undef, h', ds)
 | .range t x => (arange P h t (ρ x)).map fun (v, h') => (none, v, h', ds)
 | .next it isString => (anext h (ρ it) isString).map fun (v, h') => (none, v, h', ds)
 | .call c => match c.callee, c.args.toList, c.argTypes.toList, ds with
  | .builtin .append, [s, x], [t, t'], .app mode shift :: ds' => if t = t' then (aapp P h t (ρ s) (ρ x) mode shift).map fun (c, v, h') => (c, v, h', ds') else none
  | _, _, _, _ => none
 | _ => none
def conjs : List Prop → Prop → Prop
 | [], p => p
 | c :: cs, p => c ∧ conjs cs p
def Cnd.list : Cnd → List Prop
 | none => []
 | some c => [c.p]
/-- One operation that leaves the abstract heap alone: what must hold, the value, what is left of the told. -/
def opResQ (P : Program) (o : Oper) (T : List AV) (h : AHeap) (ds : List Dec) : Option (List Prop × AV × List Dec) :=
 match o.op with
 | .pick c a b =>
  match aeval T c, ds with
  | .bool q, .b d :: ds' => some ([q = d], if d then aeval T a else aeval T b, ds')
  | _, _ => none
 | .call c =>
  match c.callee with
  | .value f =>
   match aeval T f, ds with
   | .fn g cap, .ret r _ :: ds' => if callable P g then some ([Ret P g (c.args.toList.map (aeval T) ++ cap) h r h], r, ds') else some ([ERet P g (c.args.toList.map (aeval T) ++ cap) r], r, ds')
   | _, _ => none
  | _ => (aopQ P h (aeval T) o).map fun (cd, v) => (cd.list, v, ds)
 | _ => (aopQ P h (aeval T) o).map fun (cd, v) => (cd.list, v, ds)
/-- One operation: what must hold, the value, the heap behind it, what is left of the told. -/
def opRes (P : Program) (o : Oper) (T : List AV) (h : AHeap) (ds : List Dec) : Option (List Prop × AV × AHeap × List Dec) :=
 match o.op with
 | .pick c a b =>
  match aeval T c, ds with
  | .bool q, .b d :: ds' => some ([q = d], if d then aeval T a else aeval T b, h, ds')
  | _, _ => none
 | .call c =>
  match c.callee with
  | .value f =>
   match aeval T f, ds with
   | .fn g cap, .ret r h' :: ds' => if callable P g then some ([Ret P g (c.args.toList.map (aeval T) ++ cap) h r h'], r, h', ds') else some ([ERet P g (c.args.toList.map (aeval T) ++ cap) r], r, h, ds')
   | .fn g cap, .fret args h1 r h' :: ds' => if callable P g then some ([Weak h.length (c.args.toList.map (aeval T) ++ cap) h args h1, Ret P g args h1 r h'], r, h', ds') else none
   | _, _ => none
  | _ =>
   match aopQ P h (aeval T) o with
   | some (cd, v) => some (cd.list, v, h, ds)
   | none => (aopE P h (aeval T) o ds).map fun (cd, v, h', ds') => (cd.list, v, h', ds')
 | _ =>
  match aopQ P h (aeval T) o with
  | some (cd, v) => some (cd.list, v, h, ds)
  | none => (aopE P h (aeval T) o ds).map fun (cd, v, h', ds') => (cd.list, v, h', ds')
/-- The temporaries. -/
structure RelT (m : IdMap) (Mut : Mu) (w : World) (T : List AV) (a : Act) : Prop where
 len : T.length = a.tmps.size
 val : ∀ (i : Nat) (x : AV) (v : Value), T[i]? = some x → a.tmps[i]? = some v → RelV m Mut w x v
 defers : a.defers = []
section
variable {m : IdMap} {Mut : Mu} {w : World} {P : Program} {h : AHeap}
theorem RelT.ext {m' : IdMap} {Mut' : Mu} {w' : World} {T : List AV} {a : Act} (h : RelT m Mut w T a) (e : Ext m Mut w m' Mut' w') : RelT m' Mut' w' T a :=
 ⟨h.len, fun i x v hx hv => e.relV (h.val i x v hx hv), h.defers⟩
theorem RelT.put {T : List AV} {a : Act} (h : RelT m Mut w T a) (d : Option Tmp) {x : AV} {v : Value} (hr : RelV m Mut w x v) : RelT m Mut w (aput T d x) (a.put d v) := by
 cases d with
 | none => exact h
 | some d =>
  refine ⟨by simp [aput, Act.put, h.len], fun i y u hy hu => ?_, by simpa [Act.put] using h.defers⟩
  simp only [aput, List.getElem?_set] at hy
  simp only [Act.put, Array.getElem?_setIfInBounds] at hu
  by_cases e : d = i
  · subst e
    rw [if_pos rfl] at hy hu
    have hl := h.len
    split at hy
    · split at hu
      · cases hy; cases hu; exact hr
      · omega
    · cases hy
  · rw [if_neg e] at hy hu
    exact h.val i y u hy hu
theorem RelT.eval {T : List AV} {a : Act} (h : RelT m Mut w T a) : RelE m Mut w (aeval T) a.eval := by
 refine ⟨fun x => ?_, fun _ => rfl⟩
 cases x with
 | tmp t =>
  show RelV m Mut w (T.getD t .any) (a.tmps.getD t Go.undef)
  rcases Nat.lt_or_ge t T.length with q | q
  · have q2 : t < a.tmps.size := h.len ▸ q
    rw [List.getD_eq_getElem?_getD, List.getElem?_eq_getElem q]
    rw [Array.getD_eq_getD_getElem?, Array.getElem?_eq_getElem q2]
    exact h.val t _ _ (List.getElem?_eq_getElem q) (Array.getElem?_eq_getElem q2)
  · rw [List.getD_eq_getElem?_getD, List.getElem?_eq_none q]
    exact .any _
 | const v => exact ofV_rel v
 | global g => exact .any _
 | func f => exact .fn f [] #[] rfl (fun i a v h => by simp at h)
theorem aopE_sound {ρ : Operand → AV} {σ : Operand → Value} {o : Oper} {ds ds' : List Dec} {c : Cnd} {v : AV} {h' : AHeap} (H : RelH m Mut h w) (hρ : RelE m Mut w ρ σ) (hb : aopE P h ρ o ds = some (c, v, h', ds')) (hC : c.ok) :
 OpE P σ o m Mut w v h' := by
 unfold aopE at hb
 split at hb
 · rename_i e ho
   split at hb
   · rename_i z hz
     split at hb
     · cases hb
     · rename_i hna
       cases hb
       obtain ⟨zc, hzr, rfl, i, hi, hzi⟩ := run_zeroValue (w := w) hz
       obtain ⟨m', Mut', w', g1, g2, g3, g4⟩ := newVar_sound (P := P) (t := e) H (ofV_rel (m := m) (Mut := Mut) (w := w) zc) (by simpa using hna)
       exact ⟨_, m', Mut', w', .inl (by simp [execOp, ho, Instr.alloc, hzr, g1]), g2, g3, g4⟩
   · cases hb
 · rename_i e x ho
   split at hb
   · cases hb
   · rename_i hna
     cases hb
     obtain ⟨m', Mut', w', g1, g2, g3, g4⟩ := newVar_sound (P := P) (t := e) H (hρ x) (by simpa using hna)
     exact ⟨_, m', Mut', w', .inl (by simp [execOp, ho, Instr.box, g1]), g2, g3, g4⟩
 · rename_i t a x ho
   simp only [Option.map_eq_some_iff, Prod.exists, Prod.mk.injEq] at hb
   obtain ⟨c', h'', hs, rfl, rfl, rfl, rfl⟩ := hb
   obtain ⟨w', g1, g2, g3⟩ := astore_sound H hs hC (hρ a) (hρ x)
   exact ⟨_, m, Mut, w', .inr ⟨by simp [execOp, ho, g1], rfl⟩, g2, g3, .undef⟩
 · rename_i t l c ho
   simp only [Option.map_eq_some_iff, Prod.exists, Prod.mk.injEq] at hb
   obtain ⟨c', v', h'', hs, rfl, rfl, rfl, rfl⟩ := hb
   obtain ⟨x, m', Mut', w', g1, g2, g3, g4⟩ := amake_sound H hs hC (hρ l) (hρ c)
   exact ⟨x, m', Mut', w', .inl (by simp [execOp, ho, g1]), g2, g3, g4⟩
 · rename_i t ho
   simp only [Option.map_eq_some_iff, Prod.exists, Prod.mk.injEq] at hb
   obtain ⟨v', h'', hs, rfl, rfl, rfl, rfl⟩ := hb
   obtain ⟨x, m', Mut', w', g1, g2, g3, g4⟩ := amkMap_sound (P := P) H hs
   exact ⟨x, m', Mut', w', .inl (by simp [execOp, ho, g1]), g2, g3, g4⟩
 · rename_i t x k y ho
   simp only [Option.map_eq_some_iff, Prod.mk.injEq] at hb
   obtain ⟨h'', hs, rfl, rfl, rfl, rfl⟩ := hb
   obtain ⟨w', g1, g2, g3⟩ := amapUpd_sound (P := P) H hs (hρ x) (hρ k) (hρ y)
   exact ⟨_, m, Mut, w', .inr ⟨by simp [execOp, ho, g1], rfl⟩, g2, g3, .undef⟩
 · rename_i t x ho
   simp only [Option.map_eq_some_iff, Prod.exists, Prod.mk.injEq] at hb
   obtain ⟨v', h'', hs, rfl, rfl, rfl, rfl⟩ := hb
   obtain ⟨x, m', Mut', w', g1, g2, g3, g4⟩ := arange_sound (P := P) H hs (hρ x)
   exact ⟨x, m', Mut', w', .inl (by simp [execOp, ho, g1]), g2, g3, g4⟩
 · rename_i it isString ho
   simp only [Option.map_eq_some_iff, Prod.exists, Prod.mk.injEq] at hb
   obtain ⟨v', h'', hs, rfl, rfl, rfl, rfl⟩ := hb
   obtain ⟨x, w', g1, g2, g3, g4⟩ := anext_sound (P := P) (ty := o.type) H hs (hρ it)
   exact ⟨x, m, Mut, w', .inl (by simp [execOp, ho, g1]), g2, g3, g4⟩
 · rename_i cl ho
   split at hb
   · rename_i s x t t' mode shift ds0 hcal hargs htys
     split at hb
     · rename_i htt
       subst htt
       simp only [Option.map_eq_some_iff, Prod.exists, Prod.mk.injEq] at hb
       obtain ⟨c', v', h'', hs, rfl, rfl, rfl, rfl⟩ := hb
       obtain ⟨y, m', Mut', w', g1, g2, g3, g4⟩ := aapp_sound (ty := o.type) H hs hC (hρ s) (hρ x)
       have e1 : cl.args = #[s, x] := by apply Array.ext'; simpa using hargs
       have e2 : cl.argTypes = #[t, t] := by apply Array.ext'; simpa using htys
       exact ⟨y, m', Mut', w', .inl (by simp [execOp, ho, resolve, hcal, invoke, builtin, e1, e2, g1]), g2, g3, g4⟩
     · cases hb
   · cases hb
 · cases hb
theorem Weak.app {lo : Nat} {vs vs' : List AV} {h h' : AHeap} (hw : Weak lo vs h vs' h') (hlo : lo = h.length) {us : Array Value} (H : RelH m Mut h w) (hr : RelL m Mut w vs us) :
 ∃ m' Mut', Ext m Mut w m' Mut' w ∧ RelH m' Mut' h' w ∧ RelL m' Mut' w vs' us := by
 obtain ⟨m', Mut', g1, g2, g5, g6, g3, g4⟩ := hw m Mut w us H hr
 exact ⟨m', Mut', ⟨rfl, rfl, rfl, Nat.le_refl _, Nat.le_refl _, fun _ _ _ => rfl, fun b _ hM hM' => hM (g2 b hM'), fun b _ hM hM' => hM (g5 b hM'), fun b _ hi hM => g6 b hi hM, fun id n x hx => g1 id n x (by rw [hlo]; exact H.dom id n x hx) hx⟩, g3, g4⟩
theorem callFunc_run {g : FuncId} {us : Array Value} (hc : callable P g = true) : (callFunc g us).run P w = .ok (.enter g us) w := by
 unfold callable at hc
 split at hc
 · rename_i fn hf
   simp only [Bool.and_eq_true, bne_iff_ne, ne_eq] at hc
   obtain ⟨h1, h2⟩ := hc
   obtain ⟨b, hb⟩ := Option.isSome_iff_exists.1 h2
   simp [callFunc, hf, h1, hb]
 · cases hc
theorem conjs_iff {cs : List Prop} {p : Prop} (hc : conjs cs p) : (∀ c ∈ cs, c) ∧ p := by
 induction cs with
 | nil => exact ⟨fun c hc => by simp at hc, hc⟩
 | cons c cs ih =>
  obtain ⟨h1, h2⟩ := hc
  obtain ⟨h3, h4⟩ := ih h2
  refine ⟨fun x hx => ?_, h4⟩
  rcases List.mem_cons.1 hx with rfl | hx
  · exact h1
  · exact h3 x hx
theorem Cnd.list_ok {c : Cnd} (h : ∀ x ∈ c.list, x) : c.ok := by
 cases c with
 | none => trivial
 | some c => exact h c.p (by simp [Cnd.list])
/-- An operation comes to a value and a heap. -/
def StepTo (P : Program) (o : Oper) (T : List AV) (h : AHeap) (v : AV) (h' : AHeap) : Prop :=
 ∀ (m : IdMap) (Mut : Mu) (w : World) (a : Act) (next : Act → World → Prop) (Q : Exit → Act → World → Prop), RelH m Mut h w → RelT m Mut w T a →
  (∀ m' Mut' w' x, Ext m Mut w m' Mut' w' → RelH m' Mut' h' w' → RelV m' Mut' w' v x → next (a.put o.dst x) w') → o.wp P a w next Q
theorem stepTo_quiet {o : Oper} {T : List AV} {cd : Cnd} {v : AV} (hq : aopQ P h (aeval T) o = some (cd, v)) (hc : cd.ok) : StepTo P o T h v h := by
 intro m Mut w a next Q H hT hk
 obtain ⟨x, w', g1, g2, g3, g4⟩ := aopQ_sound H hT.eval hq hc
 unfold Oper.wp
 rw [g1]
 exact hk m Mut w' x g2 g3 g4
theorem stepTo_effect {o : Oper} {T : List AV} {ds ds' : List Dec} {cd : Cnd} {v : AV} {h' : AHeap} (hq : aopE P h (aeval T) o ds = some (cd, v, h', ds')) (hc : cd.ok) : StepTo P o T h v h' := by
 intro m Mut w a next Q H hT hk
 obtain ⟨x, m', Mut', w', g1, g2, g3, g4⟩ := aopE_sound H hT.eval hq hc
 unfold Oper.wp
 rcases g1 with g1 | ⟨g1, rfl⟩
 · rw [g1]; exact hk m' Mut' w' x g2 g3 g4
 · rw [g1]; exact hk m' Mut' w' _ g2 g3 g4
theorem stepTo_pick {o : Oper} {T : List AV} {c x y : Operand} {q d : Bool} (ho : o.op = .pick c x y) (hc : aeval T c = .bool q) (hqd : q = d) : StepTo P o T h (if d then aeval T x else aeval T y) h := by
 intro m Mut w a next Q H hT hk
 subst hqd
 have hcv := hT.eval c
 rw [hc] at hcv
 unfold Oper.wp
 rw [show (execOp a.eval o).run P w = .ok (.value (if q then a.eval x else a.eval y)) w by simp [execOp, ho, hcv.inv_bool, asBool]]
 refine hk m Mut w _ (.refl _ _ _) H ?_
 cases q
 · exact hT.eval y
 · exact hT.eval x
theorem stepTo_call {o : Oper} {T : List AV} {c : Call} {f : Operand} {g : FuncId} {cap args : List AV} {h1 : AHeap} {r : AV} {h' : AHeap} (ho : o.op = .call c) (hcal : c.callee = .value f) (hf : aeval T f = .fn g cap) (hcb : callable P g = true)
 (hweak : Weak h.length (c.args.toList.map (aeval T) ++ cap) h args h1) (hret : Ret P g args h1 r h') : StepTo P o T h r h' := by
 intro m Mut w a next Q H hT hk
 have hfv := hT.eval f
 rw [hf] at hfv
 cases hs : a.eval f with
 | func fn first capv =>
  rw [hs] at hfv
  cases hfv with
  | fn _ _ _ hl hrel =>
   have hargs := hT.eval.list c.args
   have hall : RelL m Mut w (c.args.toList.map (aeval T) ++ cap) (c.args.map a.eval ++ capv) := by
    refine ⟨by simp [hl], fun i x v hx hv => ?_⟩
    rw [List.getElem?_append] at hx
    rw [Array.getElem?_append] at hv
    by_cases hi : i < c.args.size
    · rw [if_pos (by simpa using hi)] at hx hv
      exact hargs.2 i x v hx hv
    · rw [if_neg (by simpa using hi)] at hx hv
      simp only [List.length_map, Array.length_toList] at hx
      simp only [Array.size_map] at hv
      exact hrel _ x v hx hv
   obtain ⟨m1, Mut1, E1, H1, hall1⟩ := hweak.app rfl H hall
   have hcalls := hret m1 Mut1 w _ H1 hall1
   unfold Oper.wp
   have hrun : (execOp a.eval o).run P w = .ok (.enter g (c.args.map a.eval ++ capv)) w := by
    simp only [execOp, ho, resolve, hcal, hs, Deferred.ofValue, Sem.run_bind, Sem.run_pure, Result.andThen_ok, invoke]
    rw [show (#[] : Array Value) ++ c.args.map a.eval ++ capv = c.args.map a.eval ++ capv by simp]
    exact callFunc_run hcb
   rw [hrun, Oper.upon_enter]
   refine hcalls.mono fun e w' hpost => ?_
   obtain ⟨x, v, h'', m', Mut', rfl, ⟨rfl, rfl⟩, g2, g3, g4⟩ := hpost
   exact hk m' Mut' w' x (E1.trans g2) g3 g4
 | _ => rw [hs] at hfv; cases hfv
theorem stepTo_ecall {o : Oper} {T : List AV} {c : Call} {f : Operand} {g : FuncId} {cap : List AV} {r : AV} (ho : o.op = .call c) (hcal : c.callee = .value f) (hf : aeval T f = .fn g cap)
 (hret : ERet P g (c.args.toList.map (aeval T) ++ cap) r) : StepTo P o T h r h := by
 intro m Mut w a next Q H hT hk
 have hfv := hT.eval f
 rw [hf] at hfv
 cases hs : a.eval f with
 | func fn first capv =>
  rw [hs] at hfv
  cases hfv with
  | fn _ _ _ hl hrel =>
   have hargs := hT.eval.list c.args
   have hall : RelL m Mut w (c.args.toList.map (aeval T) ++ cap) (c.args.map a.eval ++ capv) := by
    refine ⟨by simp [hl], fun i x v hx hv => ?_⟩
    rw [List.getElem?_append] at hx
    rw [Array.getElem?_append] at hv
    by_cases hi : i < c.args.size
    · rw [if_pos (by simpa using hi)] at hx hv
      exact hargs.2 i x v hx hv
    · rw [if_neg (by simpa using hi)] at hx hv
      simp only [List.length_map, Array.length_toList] at hx
      simp only [Array.size_map] at hv
      exact hrel _ x v hx hv
   obtain ⟨x, hx1, hx2⟩ := hret m Mut w _ hall
   unfold Oper.wp
   have hrun : (execOp a.eval o).run P w = .ok (.value x) w := by
    simp only [execOp, ho, resolve, hcal, hs, Deferred.ofValue, Sem.run_bind, Sem.run_pure, Result.andThen_ok, invoke]
    rw [show (#[] : Array Value) ++ c.args.map a.eval ++ capv = c.args.map a.eval ++ capv by simp]
    exact hx1
   rw [hrun]
   exact hk m Mut w x (.refl _ _ _) H hx2
 | _ => rw [hs] at hfv; cases hfv
theorem Weak.refl (lo : Nat) (vs : List AV) (h : AHeap) : Weak lo vs h vs h := fun m Mut _ _ H hr => ⟨m, Mut, fun _ _ _ _ hx => hx, fun _ hb => hb, fun _ hb => hb, fun _ hb _ => hb, H, hr⟩
theorem opResQ_sound {o : Oper} {T : List AV} {ds ds' : List Dec} {cs : List Prop} {v : AV} (hr : opResQ P o T h ds = some (cs, v, ds')) (hc : ∀ c ∈ cs, c) : StepTo P o T h v h := by
 unfold opResQ at hr
 split at hr
 · rename_i c x y ho
   split at hr
   · rename_i hq
     cases hr
     exact stepTo_pick ho hq (hc _ (List.mem_singleton.2 rfl))
   · cases hr
 · rename_i c ho
   split at hr
   · rename_i f hcal
     split at hr
     · rename_i hf
       split at hr
       · rename_i hcb
         cases hr
         exact stepTo_call ho hcal hf hcb (.refl _ _ _) (hc _ (List.mem_singleton.2 rfl))
       · cases hr
         exact stepTo_ecall ho hcal hf (hc _ (List.mem_singleton.2 rfl))
     · cases hr
   · simp only [Option.map_eq_some_iff, Prod.exists, Prod.mk.injEq] at hr
     obtain ⟨cd, v', hq, rfl, rfl, rfl⟩ := hr
     exact stepTo_quiet hq (Cnd.list_ok hc)
 · simp only [Option.map_eq_some_iff, Prod.exists, Prod.mk.injEq] at hr
   obtain ⟨cd, v', hq, rfl, rfl, rfl⟩ := hr
   exact stepTo_quiet hq (Cnd.list_ok hc)
theorem opRes_sound {o : Oper} {T : List AV} {ds ds' : List Dec} {cs : List Prop} {v : AV} {h' : AHeap} (hr : opRes P o T h ds = some (cs, v, h', ds')) (hc : ∀ c ∈ cs, c) : StepTo P o T h v h' := by
 unfold opRes at hr
 split at hr
 · rename_i c x y ho
   split at hr
   · rename_i hq
     cases hr
     exact stepTo_pick ho hq (hc _ (List.mem_singleton.2 rfl))
   · cases hr
 · rename_i c ho
   split at hr
   · rename_i f hcal
     split at hr
     · rename_i hf
       split at hr
       · rename_i hcb
         cases hr
         exact stepTo_call ho hcal hf hcb (.refl _ _ _) (hc _ (List.mem_singleton.2 rfl))
       · cases hr
         exact stepTo_ecall ho hcal hf (hc _ (List.mem_singleton.2 rfl))
     · rename_i hf
       split at hr
       · rename_i hcb
         cases hr
         exact stepTo_call ho hcal hf hcb (hc _ (List.mem_cons_self ..)) (hc _ (List.mem_cons_of_mem _ (List.mem_singleton.2 rfl)))
       · cases hr
     · cases hr
   · split at hr
     · rename_i hq
       cases hr
       exact stepTo_quiet hq (Cnd.list_ok hc)
     · simp only [Option.map_eq_some_iff, Prod.exists, Prod.mk.injEq] at hr
       obtain ⟨cd, v', h'', ds'', hq, rfl, rfl, rfl, rfl⟩ := hr
       exact stepTo_effect hq (Cnd.list_ok hc)
 · split at hr
   · rename_i hq
     cases hr
     exact stepTo_quiet hq (Cnd.list_ok hc)
   · simp only [Option.map_eq_some_iff, Prod.exists, Prod.mk.injEq] at hr
     obtain ⟨cd, v', h'', ds'', hq, rfl, rfl, rfl, rfl⟩ := hr
     exact stepTo_effect hq (Cnd.list_ok hc)
end
end Go.Proofs.Ytjdbmmilcihpoaa
