/- A contract over the empty heap holds over every heap; small words for contracts. Conditions: none. -/
import Derived.Test.YtjdakdjgkpfjkaaA16
namespace Go.Proofs.Ytjdakdjgkpfjkaa
set_option linter.unusedVariables false
set_option linter.unusedSimpArgs false

section
variable {P : Program}

theorem Ret.frame {f : FuncId} {args : List AV} {r : AV} (hr : Ret P f args [] r []) (hargs : ∀ a ∈ args, Low 0 a) (h : AHeap) : Ret P f args h r h := by
  intro m Mut w us H ha
  let Mu1 : Mu := ⟨Mut.im, fun _ => False, fun _ h => h.elim⟩
  have H1 : RelH (cutM m 0) Mu1 [] w :=
    { obj := fun id o ho => by simp at ho
      inj := fun id id' o o' b C C' ho => by simp at ho
      dom := fun id n x hx => by
        unfold cutM at hx
        rw [if_neg (Nat.not_lt_zero _)] at hx
        cases hx
      lt := H.lt
      top := fun id o n x ho => by simp at ho }
  have ha1 : RelL (cutM m 0) Mu1 w args us := ⟨ha.1, fun i a v hi hv => cut_rel (Mut := Mut) (Mut' := Mu1) (fun b hb => hb) (ha.2 i a v hi hv) (hargs a (List.mem_of_getElem? hi))⟩
  refine (hr (cutM m 0) Mu1 w us H1 ha1).mono fun e w' ⟨x, v, h', m', Mut', he, ⟨hv, hh⟩, E, H', hx⟩ => ?_
  subst hv; subst hh
  have hb : ∀ b, b < w.heap.size → w'.heap[b]? = w.heap[b]? := fun b hlt => E.block b hlt fun h => h
  have E' : Ext m Mut w m Mut w' := ⟨E.os, E.tape, E.output, E.size, fun b hlt _ => hb b hlt, fun _ _ h => h, fun _ _ h => h, fun _ _ h _ => h, fun _ _ _ h => h⟩
  refine ⟨x, v, h, m, Mut, he, ⟨rfl, rfl⟩, E', H.still E' hb, hx.mono (fun id n y hy => absurd (H'.dom id n y hy) (Nat.not_lt_zero _)) (Nat.le_refl _) (fun b _ hn hi => hn ?_) fun _ _ _ => rfl⟩
  exact E.keep b (H.lt b hi) hi fun h => h

/-- What is handed back may be told as another reading of the same. -/
theorem Ret.weaken {f : FuncId} {args : List AV} {h h' : AHeap} {r r' : AV} (hr : Ret P f args h r h') (hw : ∀ (m : IdMap) (Mut : Mu) (w : World) (x : Value), RelV m Mut w r x → RelV m Mut w r' x) : Ret P f args h r' h' := by
  intro m Mut w us H ha
  refine (hr m Mut w us H ha).mono fun e w' ⟨x, v, h2, m', Mut', he, ⟨hv, hh⟩, E, H', hx⟩ => ?_
  subst hv; subst hh
  exact ⟨x, r', h2, m', Mut', he, ⟨rfl, rfl⟩, E, H', hw m' Mut' w' x hx⟩

/-- The arguments are told as another reading. -/
theorem Ret.args {f : FuncId} {args args' : List AV} {h h' : AHeap} {r : AV} (hr : Ret P f args' h r h') (hw : ∀ (m : IdMap) (Mut : Mu) (w : World) (us : Array Value), RelL m Mut w args us → RelL m Mut w args' us) : Ret P f args h r h' :=
  fun m Mut w us H ha => hr m Mut w us H (hw m Mut w us ha)

theorem kmp {a b : Prop} (h : a = b) (hb : b) : a := h ▸ hb

end
end Go.Proofs.Ytjdakdjgkpfjkaa
