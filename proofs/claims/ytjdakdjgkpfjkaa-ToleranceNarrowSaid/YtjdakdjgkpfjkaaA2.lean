/- The abstract operations that leave the abstract heap as it is. Conditions: none. -/
import Derived.Test.YtjdakdjgkpfjkaaA1
import Derived.Laws.Small
import Derived.WalkLawsBesides
namespace Go.Proofs.Ytjdakdjgkpfjkaa
set_option linter.unusedVariables false
set_option linter.unusedSimpArgs false

/-- A constant's abstract value. -/
def ofVs (f : Value → AV) : List Value → List AV
  | [] => []
  | v :: vs => f v :: ofVs f vs

def ofV1 : Value → AV
  | .int k n => .int k n
  | .bool b => .bool b
  | .string s => .str s
  | .slice none 0 0 => .snil
  | .pointer none => .nilp
  | .nilFunc => .nilf
  | .map none => .nilm
  | _ => .any

def ofV : Value → AV
  | .agg cs => .agg (ofVs ofV1 cs.toList)
  | .tuple vs => if vs.toList.length = 0 then .undef else .any
  | v => ofV1 v

section
variable {m : IdMap} {Mut : Mu} {w : World}

theorem ofV1_rel (v : Value) : RelV m Mut w (ofV1 v) v := by
  unfold ofV1
  split <;> constructor

theorem ofVs_length (f : Value → AV) (vs : List Value) : (ofVs f vs).length = vs.length := by
  induction vs with
  | nil => rfl
  | cons v vs ih => simp [ofVs, ih]
theorem ofVs_get (f : Value → AV) (vs : List Value) : ∀ (i : Nat), (ofVs f vs)[i]? = (vs[i]?).map f := by
  induction vs with
  | nil => intro i; simp [ofVs]
  | cons v vs ih => intro i; cases i <;> simp [ofVs, ih]
theorem ofV_rel (v : Value) : RelV m Mut w (ofV v) v := by
  unfold ofV
  split
  · rename_i cs
    refine .agg _ _ (by simp [ofVs_length]) fun i a v ha hv => ?_
    rw [ofVs_get] at ha
    rw [Array.getElem?_toList, hv] at ha
    cases ha
    exact ofV1_rel v
  · rename_i vs
    split
    · rename_i h
      have : vs = #[] := Array.eq_empty_of_size_eq_zero (by simpa using h)
      subst this
      exact .undef
    · exact .any _
  · exact ofV1_rel _
end

/-- What must hold: nothing, or a condition. -/
structure DProp where
  p : Prop
  d : Decidable p
abbrev Cnd := Option DProp
def cnd (p : Prop) [d : Decidable p] : Cnd := some ⟨p, d⟩
def Cnd.ok : Cnd → Prop
  | none => True
  | some c => c.p

/-- Operands. -/
def aeval (T : List AV) : Operand → AV
  | .tmp t => T.getD t .any
  | .const v => ofV v
  | .global _ => .any
  | .func f => .fn f []

/-! ### Types -/
def isAggB (P : Program) (t : TypeId) : Bool :=
  match P.underlying t with
  | some (.struct _) | some (.array _ _) => true
  | _ => false
def szOf (P : Program) (t : TypeId) : Nat := match P.info? t with | some i => i.size | none => 0
def hasT (P : Program) (t : TypeId) : Bool := (P.info? t).isSome

def splice : List AV → Nat → List AV → List AV
  | cs, _, [] => cs
  | [], _, _ :: _ => []
  | _ :: cs, 0, v :: vs => v :: splice cs 0 vs
  | c :: cs, i + 1, v :: vs => c :: splice cs i (v :: vs)

/-- What a variable of type t holds that begins with these cells. -/
def takeT (P : Program) (t : TypeId) (cs : List AV) : Option AV :=
  if hasT P t then
    if isAggB P t then (if szOf P t ≤ cs.length then some (.agg (cs.take (szOf P t))) else none)
    else cs.head?
  else none

/-- The cells from a pointer on, and what must hold. -/
def cellsAt (h : AHeap) : AV → Option (Cnd × List AV)
  | .ptr id n sz i off =>
    match h[id]? with
    | some (.var v) => if n = 1 ∧ i = 0 then some (none, v.cells.drop off) else none
    | some (.row s k c) => some (cnd (n = k ∧ sz = s ∧ i < c.len), (c.get i).cells.drop off)
    | some (.frow s k len f) => some (cnd (n = k ∧ sz = s ∧ i < len), (f i).cells.drop off)
    | _ => none
  | .pp cs => some (none, cs)
  | _ => none

def structOf (P : Program) (t : TypeId) : Option (Array Field) :=
  match P.underlying t with
  | some (.struct fs) => some fs
  | _ => none

inductive Seq where
  | slice (e : TypeId)
  | array (n : Nat) (e : TypeId)
  | string
  | map (k e : TypeId)
  | other

def seqOf (P : Program) (t : TypeId) : Seq :=
  match P.underlying t with
  | some (.slice e) => .slice e
  | some (.array n e) => .array n e
  | some .string => .string
  | some (.map k e) => .map k e
  | _ => .other

/-- The address of a part. -/
def aplace (off : Nat) : AV → Option AV
  | .ptr id n sz i o => some (.ptr id n sz i (o + off))
  | .pp cs => some (.pp (cs.drop off))
  | _ => none

/-- A byte of a string. -/
def sbyte (s : ByteArray) (i : Nat) : Int := ((s.data.getD i 0).toNat : Int)

def abin (op : BinOp) : AV → AV → Option (Cnd × AV)
  | .int k a, .int k' b =>
    match op with
    | .shl => some (cnd (0 ≤ b), .int k (k.wrap (a * 2 ^ (min b.toNat k.bits))))
    | .shr => some (cnd (0 ≤ b), .int k (a.fdiv (2 ^ (min b.toNat k.bits))))
    | _ => if k = k' then
      match op with
      | .add => some (none, .int k (k.wrap (a + b)))
      | .sub => some (none, .int k (k.wrap (a - b)))
      | .mul => some (none, .int k (k.wrap (a * b)))
      | .quo => some (cnd (b ≠ 0), .int k (k.wrap (a.tdiv b)))
      | .rem => some (cnd (b ≠ 0), .int k (a.tmod b))
      | .and => some (none, .int k (k.wrap (BitVec.ofInt k.bits a &&& BitVec.ofInt k.bits b).toNat))
      | .or => some (none, .int k (k.wrap (BitVec.ofInt k.bits a ||| BitVec.ofInt k.bits b).toNat))
      | .xor => some (none, .int k (k.wrap (BitVec.ofInt k.bits a ^^^ BitVec.ofInt k.bits b).toNat))
      | .andNot => some (none, .int k (k.wrap (BitVec.ofInt k.bits a &&& ~~~BitVec.ofInt k.bits b).toNat))
      | .eql => some (none, .bool (a == b))
      | .neq => some (none, .bool (a != b))
      | .lss => some (none, .bool (decide (a < b)))
      | .leq => some (none, .bool (decide (a ≤ b)))
      | .gtr => some (none, .bool (decide (a > b)))
      | .geq => some (none, .bool (decide (a ≥ b)))
      | _ => none
    else none
  | .str a, .str b =>
    match op with
    | .add => some (cnd (((a.size + b.size : Nat) : Int) ≤ IntKind.i64.max), .str (a ++ b))
    | .eql => some (none, .bool (a.toList == b.toList))
    | .neq => some (none, .bool !(a.toList == b.toList))
    | .lss => some (none, .bool (Op.bytesLess a.toList b.toList))
    | .leq => some (none, .bool (Op.bytesLess a.toList b.toList || a.toList == b.toList))
    | .gtr => some (none, .bool !(Op.bytesLess a.toList b.toList || a.toList == b.toList))
    | .geq => some (none, .bool !(Op.bytesLess a.toList b.toList))
    | _ => none
  | _, _ => none

def aun (op : UnOp) : AV → Option AV
  | .bool b => match op with | .not => some (.bool !b) | _ => none
  | .int k n => match op with | .neg => some (.int k (k.wrap (0 - n))) | _ => none
  | _ => none

/-- A slice's bounds: low and high. -/
def abounds (len : Nat) (lo hi : Option AV) : Option (Cnd × Nat × Nat) :=
  match lo, hi with
  | none, none => some (none, 0, len)
  | some (.int _ l), none => some (cnd (0 ≤ l ∧ l ≤ len), l.toNat, len)
  | none, some (.int _ h) => some (cnd (0 ≤ h ∧ h ≤ len), 0, h.toNat)
  | some (.int _ l), some (.int _ h) => some (cnd (0 ≤ l ∧ l ≤ h ∧ h ≤ len), l.toNat, h.toNat)
  | _, _ => none

def aslice (P : Program) (t : TypeId) (x : AV) (lo hi : Option AV) : Option (Cnd × AV) :=
  match seqOf P t, x with
  | .string, .str s => (abounds s.size lo hi).map fun (c, l, h) => (c, .str (s.extract l h))
  | .slice e, .sl sz n f => if hasT P e ∧ szOf P e = sz then (abounds n lo hi).map fun (c, l, h) => (c, .sl sz (h - l) (fun i => f (l + i))) else none
  | .slice e, .ms id v sz off len => if hasT P e ∧ szOf P e = sz then (abounds len lo hi).map fun (c, l, h) => (c, .ms id v sz (off + l) (h - l)) else none
  | _, _ => none

def aindexAddr (P : Program) (t : TypeId) (x ix : AV) : Option (Cnd × AV) :=
  match ix with
  | .int _ i =>
    match seqOf P t, x with
    | .slice e, .sl sz n f => if hasT P e ∧ szOf P e = sz then some (cnd (0 ≤ i ∧ i < n), .pp (f i.toNat).cells) else none
    | .slice e, .ms id v sz off len => if hasT P e ∧ szOf P e = sz then some (cnd (0 ≤ i ∧ i < len), .ptr id v sz (off + i.toNat) 0) else none
    | .array n e, x => if hasT P e then (aplace (i.toNat * szOf P e) x).map fun y => (cnd (0 ≤ i ∧ i < n), y) else none
    | _, _ => none
  | _ => none

def alen (P : Program) (h : AHeap) (t : TypeId) (x : AV) : Option AV :=
  match seqOf P t, x with
  | .string, .str s => some (.int .i64 s.size)
  | .slice _, .sl _ n _ => some (.int .i64 n)
  | .slice _, .ms _ _ _ _ len => some (.int .i64 len)
  | .slice _, .snil => some (.int .i64 0)
  | .array n _, _ => some (.int .i64 n)
  | .map _ _, .nilm => some (.int .i64 0)
  | .map _ _, .mp id => match h[id]? with
    | some (.map es _) => some (.int .i64 es.length)
    | _ => none
  | _, _ => none

def buildCells : List (Nat × AV) → (Nat → Option (Nat × Nat)) → List AV → Option (List AV)
  | [], _, cs => some cs
  | (i, v) :: rest, place, cs =>
    match place i with
    | none => none
    | some (off, size) => if v.cells.length = size ∧ off + size ≤ cs.length then buildCells rest place (splice cs off v.cells) else none

def zeroV (P : Program) (t : TypeId) : Option AV := match P.info? t with | some i => i.zero.map ofV | none => none

def Col.ofList : List AV → Col
  | [] => .gen 0 fun _ => .any
  | .int k x :: r =>
    match go k r with
    | some xs => .ints k (x :: xs)
    | none => .gen (r.length + 1) fun i => (AV.int k x :: r).getD i .any
  | .str s :: r =>
    match gos r with
    | some xs => .strs (s :: xs)
    | none => .gen (r.length + 1) fun i => (AV.str s :: r).getD i .any
  | .bool b :: r =>
    match gob r with
    | some xs => .bools (b :: xs)
    | none => .gen (r.length + 1) fun i => (AV.bool b :: r).getD i .any
  | v :: r => .recs (v :: r).reverse
where
  go (k : IntKind) : List AV → Option (List Int)
    | [] => some []
    | .int k' x :: r => if k' = k then (go k r).map (x :: ·) else none
    | _ :: _ => none
  gos : List AV → Option (List ByteArray)
    | [] => some []
    | .str s :: r => (gos r).map (s :: ·)
    | _ :: _ => none
  gob : List AV → Option (List Bool)
    | [] => some []
    | .bool s :: r => (gob r).map (s :: ·)
    | _ :: _ => none

def aindex (P : Program) (t : TypeId) (x ix : AV) : Option (Cnd × AV) :=
  match ix with
  | .int _ i =>
    match seqOf P t, x with
    | .string, .str s => some (cnd (0 ≤ i ∧ i < s.size), .int .u8 (sbyte s i.toNat))
    | .array n e, .agg cs => if (P.underlying e).isSome then
        if isAggB P e then (takeT P e (cs.drop (i.toNat * szOf P e))).map fun y => (cnd (0 ≤ i ∧ i < n), y)
        else if hasT P e ∧ szOf P e = 1 ∧ n = cs.length then some (cnd (0 ≤ i ∧ i < n), (Col.ofList cs).get i.toNat) else none
      else none
    | _, _ => none
  | _ => none

def AV.isAny : AV → Bool
  | .any => true
  | _ => false

/-- The parts of a slice's literal in their order. -/
def inOrder : List (Nat × AV) → Nat → Option (List AV)
  | [], _ => some []
  | (i, v) :: r, k => if i = k then (inOrder r (k + 1)).map (v :: ·) else none

def abuildSlice (P : Program) (t : TypeId) (len : Nat) (parts : List (Nat × AV)) : Option AV :=
  match seqOf P t with
  | .slice e =>
    if hasT P e then
      if len = 0 ∧ parts = [] then some .snil
      else match inOrder parts 0 with
        | some vs => if vs.length = len ∧ 0 < len ∧ 0 < szOf P e ∧ len * szOf P e ≤ 16777216 ∧ (vs.all fun v => v.cells.length == szOf P e && !v.isAny) = true ∧ (zeroV P e).isSome = true then some (.sl (szOf P e) len (Col.ofList vs).get) else none
        | none => none
    else none
  | _ => none

/-- `==` of structs and arrays of plain cells. -/
def eqCells : List AV → List AV → Option Bool
  | [], [] => some true
  | .int k a :: x, .int k' b :: y => if k = k' then (eqCells x y).map ((a == b) && ·) else none
  | .bool a :: x, .bool b :: y => (eqCells x y).map ((a == b) && ·)
  | .str a :: x, .str b :: y => (eqCells x y).map ((a == b) && ·)
  | _, _ => none

end Go.Proofs.Ytjdakdjgkpfjkaa
