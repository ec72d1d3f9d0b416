/- The given inputs of a law, read as abstract values. Conditions: none. -/
import Derived.Test.YtjdakdjgkpfjkaaA21
import Derived.WalkKit
import Derived.ProofKit
import Derived.OpenShut
import Derived.ShutString
import Derived.ChangeOld
import Derived.SizedLaws
namespace Go.Proofs.Ytjdakdjgkpfjkaa
set_option linter.unusedVariables false
set_option linter.unusedSimpArgs false
open Go.ChangeShapes Go.WideShapes Go.ChangeAt Go.RowKit

/-- Fields lie one after the other. -/
def tiles (P : Program) : Nat → List Field → Nat → Bool
  | o, [], n => Nat.beq o n
  | o, f :: fs, n => Nat.beq f.offset o && tiles P (o + P.cellsOf f.type) fs n

/-- Types of plain data: bools, whole numbers, strings, slices, structs. -/
def okT (P : Program) : Nat → TypeId → Bool
  | 0, _ => false
  | k + 1, t => match P.underlying t with
    | some .bool => Nat.beq (P.cellsOf t) 1
    | some (.int _) => Nat.beq (P.cellsOf t) 1
    | some .string => Nat.beq (P.cellsOf t) 1
    | some (.slice e) => Nat.beq (P.cellsOf t) 1 && Nat.blt 0 (P.cellsOf e) && okT P k e
    | some (.struct fs) => (fs.toList.all fun f => okT P k f.type) && tiles P 0 fs.toList (P.cellsOf t)
    | _ => false

def FitsS (F : TypeId → List AV → Prop) : List Field → List AV → Prop
  | [], avs => avs = []
  | f :: fs, avs => ∃ a b, avs = a ++ b ∧ F f.type a ∧ FitsS F fs b

/-- Abstract cells that a value of a type may read as. -/
def Fits (P : Program) : Nat → TypeId → List AV → Prop
  | 0, _, _ => False
  | k + 1, t, avs => match P.underlying t with
    | some .bool => ∃ b, avs = [.bool b]
    | some (.int kd) => ∃ n, avs = [.int kd n] ∧ (Lit.int kd n).wf = true
    | some .string => ∃ s, avs = [.str s] ∧ s.size ≤ maxLen
    | some (.slice e) => ∃ n f, avs = [.sl (P.cellsOf e) n f] ∧ n ≤ maxLen ∧ ∀ i, i < n → Fits P k e (f i).cells
    | some (.struct fs) => FitsS (Fits P k) fs.toList avs
    | _ => False

/-- No abstract heap. -/
def m0 : IdMap := fun _ _ => none
def Mu0 : Mu := ⟨fun _ => False, fun _ => False, fun _ h => h⟩

section
variable {H : Type} {enc : TypeId × Value → H} {P : Program} {w : World} {sp : Nat → Bool} {held : Bool}

def RelZ (w : World) (as : List AV) (cs : List Value) : Prop := as.length = cs.length ∧ ∀ (i : Nat) (a : AV) (v : Value), as[i]? = some a → cs[i]? = some v → RelV m0 Mu0 w a v

theorem RelZ.one {a : AV} {v : Value} (h : RelV m0 Mu0 w a v) : RelZ w [a] [v] :=
  ⟨rfl, fun i x y hx hy => by
    cases i with
    | zero => simp at hx hy; subst hx; subst hy; exact h
    | succ i => simp at hx⟩

theorem RelZ.append {as bs : List AV} {cs ds : List Value} (h : RelZ w as cs) (k : RelZ w bs ds) : RelZ w (as ++ bs) (cs ++ ds) :=
  ⟨by simp [h.1, k.1], fun i x y hx hy => by
    rw [List.getElem?_append] at hx hy
    rw [h.1] at hx
    split at hx
    · rename_i hi; rw [if_pos hi] at hy; exact h.2 i x y hx hy
    · rename_i hi; rw [if_neg hi] at hy; exact k.2 _ x y hx hy⟩

theorem opens_struct {fuel : Nat} {F : TypeId → List AV → Prop} {cs : List Value}
    :
    ∀ (fs : List Field) (ih : ∀ f ∈ fs, ∀ (cs : List Value) (x : DataW H × List MemPlace), DataW.trod enc P w 0 sp held fuel f.type cs = some x → ∃ avs, F f.type avs ∧ RelZ w avs cs) (o : Nat) (xs : List (DataW H × List MemPlace)), tiles P o fs cs.length = true → o ≤ cs.length →
      fs.mapM (fun f => DataW.trod enc P w 0 sp held fuel f.type ((cs.drop f.offset).take (P.cellsOf f.type))) = some xs → (∃ avs, FitsS F fs avs ∧ RelZ w avs (cs.drop o)) := by
  intro fs
  induction fs with
  | nil =>
    intro _ o xs ht ho _
    have : o = cs.length := Nat.eq_of_beq_eq_true ht
    subst this
    exact ⟨[], rfl, by simp [RelZ]⟩
  | cons f fs ihf =>
    intro ih o xs ht ho hm
    simp only [tiles, Bool.and_eq_true] at ht
    obtain ⟨h1, h2⟩ := ht
    have e1 := Nat.eq_of_beq_eq_true h1
    simp only [List.mapM_cons, Option.bind_eq_bind, Option.bind_eq_some_iff, Option.pure_def, Option.some.injEq] at hm
    obtain ⟨x, hx, ys, hys, _⟩ := hm
    have hlen : o + P.cellsOf f.type ≤ cs.length := by
      have aux : ∀ (fs : List Field) (o n : Nat), tiles P o fs n = true → o ≤ n := by
        intro fs
        induction fs with
        | nil => intro o n h; exact Nat.le_of_eq (Nat.eq_of_beq_eq_true h)
        | cons g gs ih => intro o n h; simp only [tiles, Bool.and_eq_true] at h; have := ih _ _ h.2; omega
      exact aux _ _ _ h2
    obtain ⟨b, hb1, hb2⟩ := ihf (fun g hg => ih g (List.mem_cons_of_mem _ hg)) _ ys h2 hlen hys
    obtain ⟨a, ha1, ha2⟩ := ih f (List.mem_cons_self ..) _ x hx
    refine ⟨a ++ b, ⟨a, b, rfl, ha1, hb1⟩, ?_⟩
    have := ha2.append hb2
    rw [e1] at this
    rwa [← List.drop_drop, List.take_append_drop] at this

theorem opens : ∀ (k fuel : Nat) (t : TypeId) (cs : List Value) (x : DataW H × List MemPlace), okT P k t = true → DataW.trod enc P w 0 sp held fuel t cs = some x → ∃ avs, Fits P k t avs ∧ RelZ w avs cs := by
  intro k
  induction k with
  | zero => intro fuel t cs x h; cases h
  | succ k ih =>
    intro fuel t cs x hk h
    cases fuel with
    | zero => simp [DataW.trod] at h
    | succ fuel =>
      unfold okT at hk
      unfold DataW.trod at h
      split at hk
      · rename_i ht
        rw [ht] at h
        simp only [Fits, ht]
        split at h <;> simp_all
        rename_i b
        cases b
        · exact .inl (RelZ.one (.bool _))
        · exact .inr (RelZ.one (.bool _))
      · rename_i kd ht
        rw [ht] at h
        simp only [Fits, ht]
        split at h <;> simp_all
        obtain ⟨⟨rfl, hwf⟩, _⟩ := h
        exact ⟨_, ⟨_, rfl, hwf⟩, RelZ.one (.int _ _)⟩
      · rename_i ht
        rw [ht] at h
        simp only [Fits, ht]
        split at h <;> simp_all
        exact ⟨_, ⟨_, rfl, h.1⟩, RelZ.one (.str _)⟩
      · rename_i e ht
        rw [ht] at h
        simp only [Bool.and_eq_true] at hk
        obtain ⟨⟨_, hpos⟩, hke⟩ := hk
        have hpos : 0 < P.cellsOf e := Nat.le_of_ble_eq_true hpos
        simp only [Fits, ht]
        split at h <;> (try (simp_all; done))
        · exact ⟨[.sl (P.cellsOf e) 0 fun _ => .any], ⟨0, _, rfl, Nat.zero_le _, fun i hi => absurd hi (Nat.not_lt_zero i)⟩, .one (.sl0 _ _ _ _)⟩
        · rename_i e' a len cap he
          cases he
          simp only at h
          split at h
          · rename_i hc
            obtain ⟨hb, hlc, hcm⟩ := hc
            simp only [Option.bind_eq_some_iff] at h
            obtain ⟨elems, hel, _⟩ := h
            have each : ∀ i, ∃ (avs : List AV) (ci : List Value), i < len → Fits P k e avs ∧ RelZ w avs ci ∧ w.cells? 0 (a.add (i * P.cellsOf e)) (P.cellsOf e) = some ci := by
              intro i
              by_cases hi : i < len
              · have := mapM_some_get hel i i (by simp [hi])
                have hlt : i < elems.length := by have := mapM_some_length hel; simp at this; omega
                rw [List.getElem?_eq_getElem hlt] at this
                simp only [Option.bind_eq_some_iff] at this
                obtain ⟨ci, hci, htr⟩ := this
                obtain ⟨avs, h1, h2⟩ := ih fuel e ci _ hke htr
                exact ⟨avs, ci, fun _ => ⟨h1, h2, hci⟩⟩
              · exact ⟨[], [], fun h => absurd h hi⟩
            have ⟨A, hA⟩ := Classical.axiomOfChoice each
            have ⟨C, hC⟩ := Classical.axiomOfChoice hA
            refine ⟨[.sl (P.cellsOf e) len fun i => .agg (A i)], ⟨len, _, rfl, Nat.le_trans hlc hcm, fun i hi => (hC i hi).1⟩, .one ?_⟩
            rcases Nat.eq_zero_or_pos len with h0 | h0
            · subst h0; exact .sl0 _ _ _ _
            · have c0 := (World.cells?_some (hC 0 h0).2.2).2.2 0 hpos
              have l0 := (World.cells?_some (hC 0 h0).2.2).2.1
              rw [List.getElem?_eq_getElem (by omega)] at c0
              simp only [Nat.zero_mul, Addr.add, if_true] at c0
              have hspot : a.spot = none := by
                unfold World.cell? at c0
                split at c0
                · split at c0
                  · cases c0
                  · rename_i h; simpa using h
                · cases c0
              have hblk : a.block < w.heap.size := by
                unfold World.cell? at c0
                split at c0
                · rename_i hx; exact (Array.getElem?_eq_some_iff.1 hx).1
                · cases c0
              obtain ⟨b, o, spot⟩ := a
              simp only at hspot hblk
              subst hspot
              refine .sl _ _ _ b o cap (fun i j => (C i).getD j Go.undef) h0 hlc hblk (fun h => h) (fun i hi => ?_) (fun i j hi hj => ?_) (fun i j x hi hx => ?_)
              · show (A i).length = _
                rw [(hC i hi).2.1.1]
                exact (World.cells?_some (hC i hi).2.2).2.1
              · have l1 := (World.cells?_some (hC i hi).2.2).2.1
                have := (World.cells?_some (hC i hi).2.2).2.2 j hj
                rw [List.getElem?_eq_getElem (by omega)] at this
                rw [List.getD_eq_getElem?_getD, List.getElem?_eq_getElem (by omega)]
                rw [addr_add, addr_add] at this
                exact this
              · have hx' : (A i)[j]? = some x := hx
                have hjl : j < (C i).length := by rw [← (hC i hi).2.1.1]; exact (List.getElem?_eq_some_iff.1 hx').1
                rw [List.getD_eq_getElem?_getD, List.getElem?_eq_getElem hjl]
                exact (hC i hi).2.1.2 j x _ hx' (List.getElem?_eq_getElem hjl)
          · cases h
      · rename_i fs ht
        rw [ht] at h
        simp only [Bool.and_eq_true, List.all_eq_true] at hk
        simp only [Fits, ht]
        simp only at h
        split at h
        · rename_i hl
          simp only [Option.map_eq_some_iff] at h
          obtain ⟨xs, hxs, _⟩ := h
          have := opens_struct fs.toList (fun f hf cs x hx => ih fuel f.type cs x (hk.1 f hf) hx) 0 xs (hl ▸ hk.2) (Nat.zero_le _) hxs
          rwa [List.drop_zero] at this
        · cases h
      · cases hk
end
end Go.Proofs.Ytjdakdjgkpfjkaa
