/- One abstract value says what another one says. Conditions: none. -/
import Derived.Test.YtjdakdjgkpfjkaaA28
namespace Go.Proofs.Ytjdakdjgkpfjkaa
set_option linter.unusedVariables false
set_option linter.unusedSimpArgs false

def Imp (a b : AV) : Prop := ∀ (m : IdMap) (Mut : Mu) (w : World) (v : Value), RelV m Mut w a v → RelV m Mut w b v
def ImpL (as bs : List AV) : Prop := as.length = bs.length ∧ ∀ (i : Nat) a b, as[i]? = some a → bs[i]? = some b → Imp a b

theorem Imp.refl (a : AV) : Imp a a := fun _ _ _ _ h => h
theorem ImpL.nil : ImpL [] [] := ⟨rfl, fun i a b h => by simp at h⟩
theorem ImpL.cons {a b : AV} {as bs : List AV} (h : Imp a b) (hs : ImpL as bs) : ImpL (a :: as) (b :: bs) :=
  ⟨by simp [hs.1], fun i x y hx hy => by
    cases i with
    | zero => simp at hx hy; subst hx; subst hy; exact h
    | succ i => exact hs.2 i x y (by simpa using hx) (by simpa using hy)⟩
theorem ImpL.refl (as : List AV) : ImpL as as := ⟨rfl, fun i a b h k => by rw [h] at k; cases k; exact .refl a⟩

theorem Imp.agg {cs ds : List AV} (h : ImpL cs ds) : Imp (.agg cs) (.agg ds) := by
  intro m Mut w v hr
  cases hr with
  | agg _ vs hl hh =>
    refine .agg _ vs (h.1 ▸ hl) fun i b v hb hv => ?_
    have hlt : i < cs.length := by rw [h.1]; exact (List.getElem?_eq_some_iff.1 hb).1
    exact h.2 i cs[i] b (List.getElem?_eq_getElem hlt) hb m Mut w v (hh i cs[i] v (List.getElem?_eq_getElem hlt) hv)

theorem Imp.sl {sz n : Nat} {f g : Nat → AV} (h : ∀ i, i < n → ImpL (f i).cells (g i).cells) : Imp (.sl sz n f) (.sl sz n g) := by
  intro m Mut w v hr
  cases hr with
  | sl _ _ _ b o cap val hn hc hb hm hs hv hh =>
    refine .sl _ _ _ b o cap val hn hc hb hm (fun i hi => by rw [← (h i hi).1]; exact hs i hi) hv fun i j x hi hx => ?_
    have hlt : j < (f i).cells.length := by rw [(h i hi).1]; exact (List.getElem?_eq_some_iff.1 hx).1
    exact (h i hi).2 j _ x (List.getElem?_eq_getElem hlt) hx m Mut w _ (hh i j _ hi (List.getElem?_eq_getElem hlt))
  | sl0 _ _ a cap => exact .sl0 _ _ a cap

theorem Ret.imp {P : Program} {f : FuncId} {args args' : List AV} {h h' : AHeap} {r : AV} (hi : ImpL args args') (hr : Ret P f args' h r h') : Ret P f args h r h' :=
  hr.args fun m Mut w us ha => ⟨hi.1 ▸ ha.1, fun i b v hb hv => by
    have hlt : i < args.length := by rw [hi.1]; exact (List.getElem?_eq_some_iff.1 hb).1
    exact hi.2 i args[i] b (List.getElem?_eq_getElem hlt) hb m Mut w v (ha.2 i args[i] v (List.getElem?_eq_getElem hlt) hv)⟩

section
variable {P : Program}

/-- Slices of whole numbers. -/
theorem imp_ints {k : Nat} {e : TypeId} {kd : IntKind} {n : Nat} {f : Nat → AV} (hf : flat P k e = some [.int kd]) (h : ∀ i, i < n → Fits P k e (f i).cells) :
    ∃ r : Nat → Int, Imp (.sl 1 n f) (.sl 1 n fun i => .int kd (r i)) := by
  have each : ∀ i, ∃ r : Int, i < n → (f i).cells = [.int kd r] := fun i => by
    by_cases hi : i < n
    · obtain ⟨r, _, e1, _, e2⟩ := flat_fits _ _ _ _ hf (h i hi)
      subst e2
      exact ⟨r, fun _ => e1⟩
    · exact ⟨0, fun h => absurd h hi⟩
  obtain ⟨r, hr⟩ := Classical.axiomOfChoice each
  exact ⟨r, .sl fun i hi => by rw [hr i hi]; exact .refl _⟩

/-- Slices of structs. -/
theorem imp_structs {D : Type} [Inhabited D] (av : D → AV) {k sz : Nat} {e : TypeId} {ls : List Lf} {n : Nat} {f : Nat → AV} (hf : flat P k e = some ls)
    (hd : ∀ cs, LfFits P ls cs → ∃ d : D, ImpL cs (av d).cells) (h : ∀ i, i < n → Fits P k e (f i).cells) : ∃ g : Nat → D, Imp (.sl sz n f) (.sl sz n fun i => av (g i)) := by
  have each : ∀ i, ∃ d : D, i < n → ImpL (f i).cells (av d).cells := fun i => by
    by_cases hi : i < n
    · obtain ⟨d, hd⟩ := hd _ (flat_fits _ _ _ _ hf (h i hi))
      exact ⟨d, fun _ => hd⟩
    · exact ⟨default, fun h => absurd h hi⟩
  obtain ⟨g, hg⟩ := Classical.axiomOfChoice each
  exact ⟨g, .sl hg⟩
end

theorem le_max {n : Nat} (h : n ≤ maxLen) : n ≤ 9223372036854775807 := by unfold maxLen at h; omega
end Go.Proofs.Ytjdakdjgkpfjkaa
