/- From a contract of a law's function to what is said of it. Conditions: none. -/
import Derived.Test.YtjdakdjgkpfjkaaA22
namespace Go.Proofs.Ytjdakdjgkpfjkaa
set_option linter.unusedVariables false
set_option linter.unusedSimpArgs false
open Go.ChangeShapes Go.WideShapes Go.ChangeAt Go.RowKit

def FitsV (P : Program) (K : Nat) (t : TypeId) (a : AV) : Prop :=
  match P.underlying t with
  | some (.struct _) => ∃ cs, a = .agg cs ∧ Fits P K t cs
  | _ => Fits P K t [a]

def FitsA (P : Program) (K : Nat) : List TypeId → List AV → Prop
  | [], [] => True
  | t :: ts, a :: as => FitsV P K t a ∧ FitsA P K ts as
  | _, _ => False

def okP (P : Program) (K : Nat) (t : TypeId) : Bool := okT P K t && P.readableRec t && decide (t < P.types.size)

section
variable {H : Type} {enc : TypeId × Value → H} {P : Program} {W : World}

theorem opensV {K base : Nat} {t : TypeId} {v : Value} {d : DataW H} {p : List MemPlace} (hk : okT P K t = true) (h : DataW.Trod enc P W 0 (fun _ => true) true t v d p) (hv : Value.okWide P W .any base t v) :
    ∃ a, FitsV P K t a ∧ RelV m0 Mu0 W a v := by
  obtain ⟨fuel, hf⟩ := h
  obtain ⟨avs, h1, h2⟩ := opens K fuel t _ _ hk hf
  unfold FitsV
  cases K with
  | zero => cases hk
  | succ K =>
    have hk' := hk
    unfold okT at hk
    unfold Value.okWide at hv
    have single : (∀ x, avs = [x] → ∃ a, Fits P (K + 1) t [a] ∧ RelV m0 Mu0 W a v) → (∃ x, avs = [x]) → ∃ a, Fits P (K + 1) t [a] ∧ RelV m0 Mu0 W a v := fun f ⟨x, hx⟩ => f x hx
    have cell : (∃ x, avs = [x]) → v.cells.toList = [v] → ∃ a, Fits P (K + 1) t [a] ∧ RelV m0 Mu0 W a v := by
      rintro ⟨x, rfl⟩ hc
      exact ⟨x, h1, h2.2 0 x v rfl (by rw [hc]; rfl)⟩
    split at hk
    · rename_i ht
      simp only [ht] at hv ⊢
      simp only [Fits, ht] at h1
      refine cell ?_ ?_
      · obtain ⟨b, rfl⟩ := h1; exact ⟨_, rfl⟩
      · cases v <;> simp_all [Cell.okWide, Cell.ok, Value.cells]
    · rename_i kd ht
      simp only [ht] at hv ⊢
      simp only [Fits, ht] at h1
      refine cell ?_ ?_
      · obtain ⟨b, rfl, _⟩ := h1; exact ⟨_, rfl⟩
      · cases v <;> simp_all [Cell.okWide, Cell.ok, Value.cells]
    · rename_i ht
      simp only [ht] at hv ⊢
      simp only [Fits, ht] at h1
      refine cell ?_ ?_
      · obtain ⟨b, rfl, _⟩ := h1; exact ⟨_, rfl⟩
      · cases v <;> simp_all [Cell.okWide, Cell.ok, Value.cells]
    · rename_i e ht
      simp only [ht] at hv ⊢
      simp only [Fits, ht] at h1
      refine cell ?_ ?_
      · obtain ⟨n, f, rfl, _⟩ := h1; exact ⟨_, rfl⟩
      · cases v <;> simp_all [Cell.okWide, Cell.ok, Value.cells]
    · rename_i fs ht
      simp only [ht] at hv ⊢
      obtain ⟨cs, rfl, _, _⟩ := hv
      refine ⟨.agg avs, ⟨avs, rfl, h1⟩, .agg avs cs ?_ fun i a v ha hv => h2.2 i a v ha (by simpa [Value.cells] using hv)⟩
      have := h2.1
      simpa [Value.cells] using this
    · cases hk

theorem opensA {K : Nat} {base : Nat} : ∀ (ts : List TypeId) (vs : List Value) (ds : List (DataW H)) (p : List MemPlace), ts.all (okP P K) = true → DataW.TrodAll enc P W 0 (fun _ => true) true ts vs ds p →
    (∀ (j : Nat) t v, ts[j]? = some t → vs[j]? = some v → Value.okWide P W .any base t v) → ∃ as, FitsA P K ts as ∧ RelZ W as vs := by
  intro ts
  induction ts with
  | nil =>
    intro vs ds p _ h _
    obtain ⟨rfl, rfl, rfl⟩ := trodAll_nil h
    exact ⟨[], trivial, by simp [RelZ]⟩
  | cons t ts ih =>
    intro vs ds p hk h hv
    obtain ⟨v, vs', d, ds', p1, q1, rfl, rfl, rfl, h1, h2⟩ := trodAll_cons h
    simp only [List.all_cons, Bool.and_eq_true, okP] at hk
    obtain ⟨a, ha1, ha2⟩ := opensV hk.1.1.1 h1 (hv 0 t v rfl rfl)
    obtain ⟨as, has1, has2⟩ := ih vs' ds' q1 hk.2 h2 fun j t v hj hw => hv (j + 1) t v (by simpa using hj) (by simpa using hw)
    exact ⟨a :: as, ⟨ha1, has1⟩, (RelZ.one ha2).append has2⟩

theorem reread {K : Nat} {W' : World} (hl : laidOutB P = true) (hb : Below W.heap.size W W') : ∀ (ts : List TypeId) (vs : List Value) (ds : List (DataW H)) (p : List MemPlace), ts.all (okP P K) = true → DataW.TrodAll enc P W 0 (fun _ => true) true ts vs ds p →
    DataW.TrodAll enc P W' 0 (fun b => decide (b < W.heap.size)) true ts vs ds p := by
  intro ts
  induction ts with
  | nil =>
    intro vs ds p _ h
    obtain ⟨rfl, rfl, rfl⟩ := trodAll_nil h
    exact trodAll_mk0
  | cons t ts ih =>
    intro vs ds p hk h
    obtain ⟨v, vs', d, ds', p1, q1, rfl, rfl, rfl, h1, h2⟩ := trodAll_cons h
    simp only [List.all_cons, Bool.and_eq_true, okP, decide_eq_true_eq] at hk
    refine trodAll_cons_mk (Below.trod hl hk.1.1.2 hk.1.2 h1 hb ?_) (ih vs' ds' q1 (by simpa [okP] using hk.2) h2)
    obtain ⟨m, hm⟩ := h1
    exact DataW.trod_lt m _ _ _ hm

theorem trodAll_len {sp : Nat → Bool} : ∀ (ts : List TypeId) (vs : List Value) (ds : List (DataW H)) (p : List MemPlace), DataW.TrodAll enc P W 0 sp true ts vs ds p → ds.length = ts.length := by
  intro ts
  induction ts with
  | nil => intro vs ds p h; obtain ⟨rfl, rfl, rfl⟩ := trodAll_nil h; rfl
  | cons t ts ih =>
    intro vs ds p h
    obtain ⟨v, vs', d, ds', p1, q1, rfl, rfl, rfl, h1, h2⟩ := trodAll_cons h
    simp [ih _ _ _ h2]

/-- A law's contract, for every input: it hands back true, and the input reads as it did. -/
theorem lifted {C : Checked} {os : Os} {f : FuncId} {fn : Func} {s : ChangeSpec} {conds : List PathCond} (K : Nat) (own : ownKnob C.prog.godebug = none) (started : os.Started) (noInit : C.prog.inits.idxOf? f = none) (hfn : C.prog.funcs[f]? = some fn)
    (witness : ∃ (w : World) (tape : Tape) (i : Input), w.os = os ∧ (w.forCall tape i).Shaped C.prog ∧ i.vars = [] ∧ Input.okWide C.prog (w.forCall tape i) .any w.heap.size f i ∧
      s.pre6 enc C.prog fn conds false (w.forCall tape i).memory i.args ∧ ({} : Assume).holds C.prog (lone (Frame.enter C.prog f i.args .normal) [] (w.forCall tape i)))
    (hvars : s.vars = []) (hs : ∀ (ds : List (DataW H)), ds.length = fn.params.toList.length → s.fn H ds = { results := [.lit (.bool true)], args := ds })
    {rt : TypeId} (hres : fn.resultTypes = #[rt]) (hrt : C.prog.underlying rt = some .bool) (hl : laidOutB C.prog = true) (hpar : fn.params.toList.all (okP C.prog K) = true)
    (hret : ∀ (as : List AV), FitsA C.prog K fn.params.toList as → Ret C.prog f as [] (.bool true) []) :
    ReturnsInHanded {} C os f .any (s.pre6 enc C.prog fn conds false) (s.post enc C.prog fn false true false false) := by
  refine returnsInHanded_of_change_sized (C := C) own started noInit hfn witness ?_
  intro W base args ds gs before hval hW _ _ _
  have hW' := hW
  obtain ⟨p, q, hA, hV, rfl, hfz, hnd⟩ := hW
  rw [hvars] at hV
  obtain ⟨rfl, rfl⟩ := trodVars_none hV
  obtain ⟨as, h1, h2⟩ := opensA fn.params.toList args.toList ds p hpar hA fun j t v hj hv => hval j t v (by simpa using hj) (by simpa using hv)
  have H0 : RelH m0 Mu0 [] W := ⟨fun id o h => by simp at h, fun id id' o o' b C C' h => by simp at h, fun id n x h => (by cases h), fun b h => h.elim, fun id o n x h => by simp at h⟩
  refine (hret as h1 m0 Mu0 W args H0 ⟨by simpa using h2.1, fun i a v ha hv => h2.2 i a v ha (by simpa using hv)⟩).mono fun e W' ⟨x, v, h', m', Mut', he, ⟨hv, _⟩, E, _, hx⟩ => ?_
  subst he; subst hv
  have := hx.inv_bool
  subst this
  have bel : Below W.heap.size W W' := ⟨E.os, E.tape, E.output, E.size, fun k hk => E.block k hk fun h => h⟩
  have hsd : s.fn H (ds ++ []) = { results := [.lit (.bool true)], args := ds } := by
    rw [List.append_nil]
    exact hs ds (trodAll_len _ _ _ _ hA)
  refine ⟨_, rfl, ds, [], _, [], p, [], hW', ?_, ?_, ?_, bel.frame _, fun h => by cases h⟩
  · rw [hsd, hres]; exact trodAll_mk1 (shut_bool hrt _)
  · rw [hsd]; exact reread hl bel _ _ _ _ hpar hA
  · rw [hsd, hvars]; rfl

end
end Go.Proofs.Ytjdakdjgkpfjkaa
