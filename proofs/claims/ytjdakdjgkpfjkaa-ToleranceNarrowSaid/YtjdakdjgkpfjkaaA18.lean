/- An interpreter for calls on data that is all there, proved against the model. Conditions: none. -/
import Derived.Test.YtjdakdjgkpfjkaaA17
namespace Go.Proofs.Ytjdakdjgkpfjkaa
set_option linter.unusedVariables false
set_option linter.unusedSimpArgs false

def Cnd.b : Cnd → Bool
  | none => true
  | some d => @decide d.p d.d

def lowF : Nat → Nat → AV → Bool
  | 0, _, _ => false
  | k + 1, lo, v =>
    match v with
    | .agg cs => cs.all (lowF k lo)
    | .tup cs => cs.all (lowF k lo)
    | .pp cs => cs.all (lowF k lo)
    | .fn _ cs => cs.all (lowF k lo)
    | .sl _ n f => (List.range n).all fun i => lowF k lo (f i)
    | .ptr id _ _ _ _ => decide (id < lo)
    | .ms id _ _ _ _ => decide (id < lo)
    | .mp id => decide (id < lo)
    | _ => true

def lowO (lo : Nat) : AObj → Bool
  | .var v => lowF 12 lo v
  | .row _ _ c => (List.range c.len).all fun i => lowF 12 lo (c.get i)
  | .frow _ _ len f => (List.range len).all fun i => lowF 12 lo (f i)
  | .map es _ => es.all fun e => lowF 12 lo e.1 && lowF 12 lo e.2.1
  | .iter _ _ => true
  | .dead => true

/-- What is handed back, as plain data. -/
def purF : Nat → AHeap → Nat → AV → Option AV
  | 0, _, _, _ => none
  | k + 1, h, lo, v =>
    if lowF 12 lo v then some v else
    match v with
    | .ms id n sz off len =>
      match h[id]? with
      | some (.row s ver c) =>
        if lo ≤ id ∧ s = sz ∧ n = ver ∧ off + len ≤ c.len ∧ ((List.range len).all fun i => (c.get (off + i)).cells.length == sz) = true then
          if ((List.range len).all fun i => lowF 12 lo (c.get (off + i))) then some (.sl sz len fun i => c.get (off + i))
          else if sz = 1 ∧ ((List.range len).all fun i => match purF k h lo (c.get (off + i)) with | some w => w.cells.length == 1 && (match (c.get (off + i)) with | .agg _ => false | _ => true) && (match w with | .agg _ => false | _ => true) | none => false) = true then
            some (.sl sz len fun i => (purF k h lo (c.get (off + i))).getD .any)
          else none
        else none
      | _ => none
    | .agg cs => (cs.mapM (purF k h lo)).map .agg
    | .tup cs => (cs.mapM (purF k h lo)).map .tup
    | _ => none

section
variable {P : Program}

theorem lowF_sound : ∀ (k lo : Nat) (v : AV), lowF k lo v = true → Low lo v := by
  intro k
  induction k with
  | zero => intro lo v h; cases h
  | succ k ih =>
    intro lo v h
    cases v <;> simp only [lowF, List.all_eq_true, decide_eq_true_eq] at h <;> first
      | (constructor; done)
      | exact .agg _ fun c hc => ih lo c (h c hc)
      | exact .tup _ fun c hc => ih lo c (h c hc)
      | exact .pp _ fun c hc => ih lo c (h c hc)
      | exact .fn _ _ fun c hc => ih lo c (h c hc)
      | exact .sl _ _ _ fun i hi => ih lo _ (h i (List.mem_range.2 hi))
      | exact .ptr _ _ _ _ _ h
      | exact .ms _ _ _ _ _ h
      | exact .mp _ h

theorem lowO_sound {lo : Nat} {o : AObj} (h : lowO lo o = true) : o.Low lo := by
  cases o with
  | var v => exact lowF_sound _ _ _ h
  | row s n c => exact fun i hi => lowF_sound _ _ _ (List.all_eq_true.1 h i (List.mem_range.2 hi))
  | frow s n len f => exact fun i hi => lowF_sound _ _ _ (List.all_eq_true.1 h i (List.mem_range.2 hi))
  | map es cl =>
    intro e he
    have := List.all_eq_true.1 h e he
    simp only [Bool.and_eq_true] at this
    exact ⟨lowF_sound _ _ _ this.1, lowF_sound _ _ _ this.2⟩
  | iter s pos => trivial
  | dead => trivial

theorem mapM_get {f : AV → Option AV} : ∀ (cs ds : List AV), cs.mapM f = some ds → cs.length = ds.length ∧ ∀ (i : Nat) a b, cs[i]? = some a → ds[i]? = some b → f a = some b := by
  intro cs
  induction cs with
  | nil => intro ds h; simp at h; subst h; exact ⟨rfl, fun i a b h => by simp at h⟩
  | cons c cs ih =>
    intro ds h
    rw [List.mapM_cons] at h
    simp only [bind, Option.bind_eq_some_iff, pure, Option.some.injEq] at h
    obtain ⟨d, hd, ds', hds, rfl⟩ := h
    obtain ⟨h1, h2⟩ := ih ds' hds
    refine ⟨by simp [h1], fun i a b ha hb => ?_⟩
    cases i with
    | zero => simp at ha hb; subst ha; subst hb; exact hd
    | succ i => exact h2 i a b (by simpa using ha) (by simpa using hb)

theorem purF_sound : ∀ (k : Nat) (h : AHeap) (lo : Nat) (v r : AV), purF k h lo v = some r → Pur h lo v r := by
  intro k
  induction k with
  | zero => intro h lo v r hp; cases hp
  | succ k ih =>
    intro h lo v r hp
    unfold purF at hp
    split at hp
    · rename_i hl; cases hp; exact .low _ (lowF_sound _ _ _ hl)
    · split at hp
      · rename_i id n sz off len _
        split at hp
        · rename_i s ver c hid
          split at hp
          · rename_i hq
            obtain ⟨q1, rfl, rfl, q4, q5⟩ := hq
            have hcl : ∀ i, i < len → (c.get (off + i)).cells.length = s := fun i hi => by
              have := List.all_eq_true.1 q5 i (List.mem_range.2 hi); simpa using this
            split at hp
            · rename_i hall
              cases hp
              refine .row id n s off len n c _ (fun i j => ((c.get (off + i)).cells).getD j .any) q1 hid rfl q4 hcl (fun i j hi hj => ?_) (fun i j a hi ha => ?_)
              · rw [List.getD_eq_getElem?_getD, List.getElem?_eq_getElem (by rw [hcl i hi]; exact hj)]; rfl
              · rw [List.getD_eq_getElem?_getD, ha]
                exact .low _ (Low.cells (lowF_sound _ _ _ (List.all_eq_true.1 hall i (List.mem_range.2 hi))) a (List.mem_of_getElem? ha))
            · split at hp
              · rename_i hall
                obtain ⟨rfl, hall⟩ := hall
                cases hp
                have key : ∀ i, i < len → ∃ w, purF k h lo (c.get (off + i)) = some w ∧ w.cells = [w] ∧ (c.get (off + i)).cells = [c.get (off + i)] := by
                  intro i hi
                  have := List.all_eq_true.1 hall i (List.mem_range.2 hi)
                  cases hq : purF k h lo (c.get (off + i)) with
                  | none => rw [hq] at this; cases this
                  | some w =>
                    rw [hq] at this
                    simp only [Bool.and_eq_true] at this
                    refine ⟨w, rfl, ?_, ?_⟩
                    · cases w <;> first | rfl | (exact absurd this.2 (by simp))
                    · cases hg : c.get (off + i) <;> first | rfl | (rw [hg] at this; exact absurd this.1.2 (by simp))
                refine .row id n 1 off len n c _ (fun i _ => c.get (off + i)) q1 hid rfl q4 (fun i hi => ?_) (fun i j hi hj => ?_) (fun i j a hi ha => ?_)
                · obtain ⟨w, h1, h2, h3⟩ := key i hi
                  simp only [h1, Option.getD_some, h2, List.length_singleton]
                · obtain ⟨w, h1, h2, h3⟩ := key i hi
                  obtain rfl : j = 0 := by omega
                  rw [h3]; rfl
                · obtain ⟨w, h1, h2, h3⟩ := key i hi
                  simp only [h1, Option.getD_some, h2] at ha
                  cases j with
                  | zero => simp at ha; subst ha; exact ih _ _ _ _ h1
                  | succ j => simp at ha
              · cases hp
          · cases hp
        · cases hp
      · rename_i cs _
        simp only [Option.map_eq_some_iff] at hp
        obtain ⟨ds, hds, rfl⟩ := hp
        obtain ⟨h1, h2⟩ := mapM_get cs ds hds
        exact .agg cs ds h1 fun i a b ha hb => ih _ _ _ _ (h2 i a b ha hb)
      · rename_i cs _
        simp only [Option.map_eq_some_iff] at hp
        obtain ⟨ds, hds, rfl⟩ := hp
        obtain ⟨h1, h2⟩ := mapM_get cs ds hds
        exact .tup cs ds h1 fun i a b ha hb => ih _ _ _ _ (h2 i a b ha hb)
      · cases hp

theorem Cnd.b_ok {c : Cnd} (h : c.b = true) : c.ok := by
  cases c with
  | none => trivial
  | some d => exact @of_decide_eq_true d.p d.d h

end
end Go.Proofs.Ytjdakdjgkpfjkaa
