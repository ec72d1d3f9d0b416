/- Contracts out of runs over the empty heap; loops. Conditions: none. -/
import Derived.Test.YtjdakdjgkpfjkaaA19
namespace Go.Proofs.Ytjdakdjgkpfjkaa
set_option linter.unusedVariables false
set_option linter.unusedSimpArgs false

def offGet (c : Col) : Nat → Nat → AV
  | 0, i => c.get i
  | k + 1, i => c.get (k + 1 + i)

theorem offGet_eq (c : Col) (off i : Nat) : offGet c off i = c.get (off + i) := by
  cases off with
  | zero => simp [offGet]
  | succ k => rfl

/-- Cells of a struct that are rows of the function's own. -/
def froL (h1 : AHeap) : List AV → Prop
  | .ms id n sz off len :: xs => (match h1[id]? with
    | some (.row s k c) => n = k ∧ sz = s ∧ off + len ≤ c.len
    | _ => False) ∧ froL h1 xs
  | _ :: xs => froL h1 xs
  | [] => True
def fro1 (h1 : AHeap) : AV → AV
  | .ms id _ sz off len => match h1[id]? with
    | some (.row _ _ c) => .sl sz len (offGet c off)
    | _ => .any
  | x => x

/-- What is handed back reads as v: rows of the function's own as plain slices. -/
def purEq (h1 : AHeap) : AV → AV → Prop
  | .agg cs, v => froL h1 cs ∧ AV.agg (cs.map (fro1 h1)) = v
  | .ms id n sz off len, v =>
    match h1[id]? with
    | some (.row s k c) => n = k ∧ sz = s ∧ off + len ≤ c.len ∧ AV.sl sz len (offGet c off) = v
    | _ => False
  | .snil, .sl sz 0 f => AV.sl sz 0 f = AV.sl sz 0 f
  | x, v => x = v

def purEqL (h1 : AHeap) : List AV → List AV → Prop
  | [], [] => True
  | x :: xs, v :: vs => purEq h1 x v ∧ purEqL h1 xs vs
  | _, _ => False

def RetV (P : Program) (fn : Func) (T : List AV) (h1 : AHeap) (v : List AV) : Prop :=
  match aresL P T h1 fn.results.toList with
  | some ([], vs) => purEqL h1 vs v
  | _ => False

section
variable {P : Program}

theorem row_pur {h1 : AHeap} {id n sz off len s k : Nat} {c : Col} (hid : h1[id]? = some (.row s k c)) (hn : n = k) (hs : sz = s) (hl : off + len ≤ c.len) (hv : Low 0 (AV.sl sz len (offGet c off))) {m : IdMap} {Mut : Mu} {w : World} (H : RelH m Mut h1 w) : Pur h1 0 (.ms id n sz off len) (.sl sz len (offGet c off)) := by
  subst hn; subst hs
  have hcl : ∀ i, i < len → (c.get (off + i)).cells.length = sz := fun i hi => by
    obtain ⟨b, o, C, cc, t, h1, h2, h3, h4, h5, h6, h7⟩ := (H.obj id _ hid).rowIn (i := off + i) (by omega)
    exact h6 _ (by omega)
  refine .row id n sz off len n c _ (fun i j => ((c.get (off + i)).cells).getD j .any) (Nat.zero_le _) hid rfl hl (fun i hi => by rw [offGet_eq]; exact hcl i hi) (fun i j hi hj => ?_) (fun i j a hi ha => ?_)
  · rw [List.getD_eq_getElem?_getD, List.getElem?_eq_getElem (by rw [hcl i hi]; exact hj)]; rfl
  · rw [offGet_eq] at ha
    rw [List.getD_eq_getElem?_getD, ha]
    cases hv with
    | sl _ _ _ hv =>
      have := hv i hi
      rw [offGet_eq] at this
      exact .low _ (Low.cells this a (List.mem_of_getElem? ha))

theorem froL_pur {h1 : AHeap} {m : IdMap} {Mut : Mu} {w : World} (H : RelH m Mut h1 w) : ∀ cs : List AV, froL h1 cs → (∀ v ∈ cs.map (fro1 h1), Low 0 v) → ∀ (i : Nat) a b, cs[i]? = some a → (cs.map (fro1 h1))[i]? = some b → Pur h1 0 a b := by
  intro cs
  induction cs with
  | nil => intro _ _ i a b ha; simp at ha
  | cons x xs ih =>
    intro hf hv i a b ha hb
    have hx : froL h1 xs := by
      cases x
      case ms => exact hf.2
      all_goals exact hf
    cases i with
    | zero =>
      simp at ha hb
      subst ha; subst hb
      have hl := hv (fro1 h1 x) (by simp)
      cases x
      case ms id n sz off len =>
        have h0 := hf.1
        unfold fro1 at hl ⊢
        dsimp only at h0 hl ⊢
        split at h0
        · rename_i s k c hid
          simp only [hid] at hl ⊢
          exact row_pur hid h0.1 h0.2.1 h0.2.2 hl H
        · exact h0.elim
      all_goals exact .low _ hl
    | succ i => exact ih hx (fun v hv' => hv v (by simp only [List.map_cons, List.mem_cons]; exact .inr hv')) i a b (by simpa using ha) (by simpa using hb)

theorem purEq_pur {h1 : AHeap} {x v : AV} (h : purEq h1 x v) (hv : Low 0 v) {m : IdMap} {Mut : Mu} {w : World} (H : RelH m Mut h1 w) : Pur h1 0 x v := by
  unfold purEq at h
  split at h
  · obtain ⟨hf, rfl⟩ := h
    refine .agg _ _ (by simp) fun i a b ha hb => froL_pur H _ hf (fun v hv' => ?_) i a b ha hb
    cases hv with
    | agg _ hv => exact hv v hv'
  · split at h
    · rename_i s k c hid
      obtain ⟨e1, e2, hl, rfl⟩ := h
      exact row_pur hid e1 e2 hl hv H
    · exact h.elim
  · exact .snil _ _
  · subst h; exact .low _ hv

theorem purEqL_get {h1 : AHeap} : ∀ (xs vs : List AV), purEqL h1 xs vs → xs.length = vs.length ∧ ∀ (i : Nat) a b, xs[i]? = some a → vs[i]? = some b → purEq h1 a b := by
  intro xs
  induction xs with
  | nil => intro vs h; cases vs with
    | nil => exact ⟨rfl, fun i a b h => by simp at h⟩
    | cons v vs => exact h.elim
  | cons x xs ih => intro vs h; cases vs with
    | nil => exact h.elim
    | cons v vs =>
      obtain ⟨h1, h2⟩ := ih vs h.2
      refine ⟨by simp [h1], fun i a b ha hb => ?_⟩
      cases i with
      | zero => simp at ha hb; subst ha; subst hb; exact h.1
      | succ i => exact h2 i a b (by simpa using ha) (by simpa using hb)

/-- A contract over the empty heap, out of a run. -/
theorem Ret.of_run0 (hmix : P.follows .mixedOrders = true) {f : FuncId} {fn : Func} {c : Code} {args : List AV} (vs : List AV) (hf : P.funcs[f]? = some fn) (hb : fn.body = some c) (ds : List Dec) (hlow : ∀ v ∈ vs, Low 0 v)
    (hr : run P c (initT fn args) [] ds fun e T h1 _ => match e with | .normal => RetV P fn T h1 vs | .ret => RetV P fn T h1 vs | _ => False) : Ret P f args [] (oneOf vs) [] := by
  intro m Mut w us H hargs
  refine calls_of_wp hf hb ?_
  have hT : RelT m Mut w (initT fn args) { tmps := us ++ Array.replicate (fn.ntmps - us.size) Go.undef, defers := [] } := by
    refine ⟨by simp [initT, hargs.1], fun i x v hx hv => ?_, rfl⟩
    simp only [initT, List.getElem?_append] at hx
    simp only [Array.getElem?_append] at hv
    by_cases hi : i < us.size
    · rw [if_pos (by rw [hargs.1]; exact hi)] at hx
      rw [if_pos hi] at hv
      exact hargs.2 i x v hx hv
    · rw [if_neg (by rw [hargs.1]; exact hi)] at hx
      rw [if_neg hi] at hv
      rw [List.getElem?_replicate] at hx
      rw [Array.getElem?_replicate] at hv
      split at hx
      · split at hv
        · cases hx; cases hv; exact .undef
        · cases hv
      · cases hx
  refine wp_mono (run_sound hmix c _ [] ds _ hr m Mut w m Mut w _ (.refl _ _ _) H hT) fun e a w1 ⟨m1, Mut1, T1, h1, ⟨ds', hk⟩, E1, H1, hT1⟩ => ?_
  have fin : RetV P fn T1 h1 vs → a.defers = [] ∧ ∃ v, (results fn a.tmps).run P w1 = .ok v w1 ∧ ∃ x v2 h2 m' Mut', Ending.returned v = .returned x ∧ (v2 = oneOf vs ∧ h2 = []) ∧ Ext m Mut w m' Mut' w1 ∧ RelH m' Mut' h2 w1 ∧ RelV m' Mut' w1 v2 x := by
    intro hk
    refine ⟨hT1.defers, ?_⟩
    unfold RetV at hk
    split at hk
    · rename_i xs hres
      obtain ⟨x, hx, hrx⟩ := results_run (P := P) H1 hT1 hres (fun c hc => by simp at hc)
      have hp : Pur h1 0 (oneOf xs) (oneOf vs) := by
        obtain ⟨hl, hall⟩ := purEqL_get xs vs hk
        have each : ∀ (i : Nat) a b, xs[i]? = some a → vs[i]? = some b → Pur h1 0 a b := fun i a b ha hb => purEq_pur (hall i a b ha hb) (hlow b (List.mem_of_getElem? hb)) H1
        cases xs with
        | nil => cases vs with
          | nil => exact .low _ (.tup _ fun c hc => by simp at hc)
          | cons v vs => simp at hl
        | cons x xs => cases vs with
          | nil => simp at hl
          | cons v vs => cases xs with
            | nil => cases vs with
              | nil => exact each 0 x v rfl rfl
              | cons v' vs => simp at hl
            | cons x' xs => cases vs with
              | nil => simp at hl
              | cons v' vs => exact .tup _ _ hl each
      obtain ⟨m', Mut', p1, p2, p3⟩ := exit_sound (h := []) (h' := []) (.pop hp (by simp) rfl fun id o ho => by simp at ho) H E1 H1 hrx
      exact ⟨x, hx, x, oneOf vs, [], m', Mut', rfl, ⟨rfl, rfl⟩, p1, p2, p3⟩
    · exact hk.elim
  cases e with
  | normal => exact fin hk
  | ret => exact fin hk
  | _ => exact hk.elim

/-- The same over every heap. -/
theorem Ret.of_run1 (hmix : P.follows .mixedOrders = true) {f : FuncId} {fn : Func} {c : Code} {args : List AV} (vs : List AV) (hf : P.funcs[f]? = some fn) (hb : fn.body = some c) (ds : List Dec) (hlow : ∀ v ∈ vs, Low 0 v) (hargs : ∀ v ∈ args, Low 0 v)
    (hr : run P c (initT fn args) [] ds fun e T h1 _ => match e with | .normal => RetV P fn T h1 vs | .ret => RetV P fn T h1 vs | _ => False) (h : AHeap) : Ret P f args h (oneOf vs) h :=
  (Ret.of_run0 hmix vs hf hb ds hlow hr).frame hargs h

/-! ### Loops -/
/-- The loop number n of a text, in its order. -/
def loopsOf : Code → List Code
  | .seq x y => loopsOf x ++ loopsOf y
  | .cond _ x y => loopsOf x ++ loopsOf y
  | .block _ c => loopsOf c
  | .loop c => c :: loopsOf c
  | .scope c => loopsOf c
  | _ => []
def bodyOf (fn : Func) : Code := match fn.body with | some c => c | none => .skip
def loopN (fn : Func) (n : Nat) : Code := (loopsOf (bodyOf fn)).getD n .skip

theorem WPC.post {c : Code} {T : List AV} {h : AHeap} {R Q : Exit → List AV → AHeap → Prop} (hc : WPC P c T h R) (hq : ∀ e T h, R e T h → ∃ T', leT T T' ∧ Q e T' h) : WPC P c T h Q :=
  fun m0 Mut0 w0 m Mut w a E H hT => wp_mono (hc m0 Mut0 w0 m Mut w a E H hT) fun e a w ⟨m, Mut, T, h, hr, E, H, hT⟩ => by
    obtain ⟨T', hle, hq⟩ := hq e T h hr
    refine ⟨m, Mut, T', h, hq, E, H, ?_⟩
    obtain ⟨h1, h2⟩ := leT_spec (m := m) (Mut := Mut) (w := w) T T' hle
    refine ⟨by rw [← h1]; exact hT.len, fun i x v hx hv => ?_, hT.defers⟩
    rcases h2 i x hx with e | e
    · subst e; exact .any v
    · exact hT.val i x v e hv

/-- A loop, out of runs of its body. σ: what the temporaries are told by; `I n s`: the state s with n rounds at most to come. -/
theorem LoopTo.of_runs (hmix : P.follows .mixedOrders = true) {c : Code} {σ : Type} (Tm : σ → List AV) (Hp : σ → AHeap) (e : Exit) (T' : List AV) (h' : AHeap) (I : Nat → σ → Prop)
    (round : ∀ n s, I n s → ∃ ds, run P c (Tm s) (Hp s) ds fun e2 T2 h2 _ => match e2 with
      | .normal => ∃ n' s', n' < n ∧ I n' s' ∧ leT T2 (Tm s') ∧ h2 = Hp s'
      | e2 => e2 = e ∧ leT T2 T' ∧ h2 = h') (hne : e ≠ .normal) {n : Nat} {s : σ} (h0 : I n s) : LoopTo P c (Tm s) (Hp s) e T' h' := by
  refine WPC.loop (fun n T h => ∃ s, I n s ∧ T = Tm s ∧ h = Hp s) (fun n T h ⟨s, hI, hT, hh⟩ => ?_) (n := n) ⟨s, h0, rfl, rfl⟩
  subst hT; subst hh
  obtain ⟨ds, hr⟩ := round n s hI
  refine (run_sound hmix c _ _ ds _ hr).post fun e2 T2 h2 ⟨ds', hk⟩ => ?_
  cases e2 with
  | normal =>
    obtain ⟨n', s', hlt, hI', hle, hh⟩ := hk
    exact ⟨Tm s', hle, n', hlt, s', hI', rfl, hh⟩
  | _ =>
    obtain ⟨he, hle, hh⟩ := hk
    exact ⟨T', hle, he, rfl, hh⟩

end

/-! ### Plain values -/
@[simp] theorem low_int (lo : Nat) (k : IntKind) (n : Int) : Low lo (.int k n) = True := eq_true (.int k n)
@[simp] theorem low_bool (lo : Nat) (b : Bool) : Low lo (.bool b) = True := eq_true (.bool b)
@[simp] theorem low_str (lo : Nat) (s : ByteArray) : Low lo (.str s) = True := eq_true (.str s)
@[simp] theorem low_snil (lo : Nat) : Low lo .snil = True := eq_true .snil
@[simp] theorem low_any (lo : Nat) : Low lo .any = True := eq_true .any
@[simp] theorem low_nilf (lo : Nat) : Low lo .nilf = True := eq_true .nilf
@[simp] theorem low_agg (lo : Nat) (cs : List AV) : Low lo (.agg cs) = ∀ c ∈ cs, Low lo c := propext ⟨fun h => by cases h; assumption, .agg cs⟩
@[simp] theorem low_tup (lo : Nat) (cs : List AV) : Low lo (.tup cs) = ∀ c ∈ cs, Low lo c := propext ⟨fun h => by cases h; assumption, .tup cs⟩
@[simp] theorem low_fn (lo : Nat) (g : FuncId) (cs : List AV) : Low lo (.fn g cs) = ∀ c ∈ cs, Low lo c := propext ⟨fun h => by cases h; assumption, .fn g cs⟩
@[simp] theorem low_sl (lo sz n : Nat) (f : Nat → AV) : Low lo (.sl sz n f) = ∀ i, i < n → Low lo (f i) := propext ⟨fun h => by cases h; assumption, .sl sz n f⟩

end Go.Proofs.Ytjdakdjgkpfjkaa
