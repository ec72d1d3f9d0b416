/- Loops whose rounds make objects that nobody names behind the round. Conditions: none. -/
import Derived.Test.YtgmppoappaolkaaA29
namespace Go.Proofs.Ytgmppoappaolkaa

/-- What a piece of code made is forgotten. -/
inductive PopOk (h h1 : AHeap) (T' : List AV) : AHeap → Prop
  | same : PopOk h h1 T' h1
  | pop (ht : h1.take h.length = h) (hT : ∀ t ∈ T', Low h.length t) : PopOk h h1 T' h
  | popLow (h' : AHeap) (ht : h1.take h.length = h') (hl : h'.length = h.length) (ho : ∀ o ∈ h', o.Low h.length) (hT : ∀ t ∈ T', Low h.length t) : PopOk h h1 T' h'

section
variable {P : Program}

theorem RelT.tup {m : IdMap} {Mut : Mu} {w : World} {T : List AV} {a : Act} (h : RelT m Mut w T a) : RelV m Mut w (.tup T) (.tuple a.tmps) := .tup _ _ h.len h.val

theorem WPC.pop {c : Code} {T : List AV} {h : AHeap} {R Q : Exit → List AV → AHeap → Prop} (hc : WPC P c T h R) (hq : ∀ e T1 h1, R e T1 h1 → ∃ T' h', leT T1 T' ∧ Q e T' h' ∧ PopOk h h1 T' h') : WPC P c T h Q :=
  fun m0 Mut0 w0 m Mut w a E H hT => wp_mono (hc m Mut w m Mut w a (.refl _ _ _) H hT) fun e a1 w1 ⟨m1, Mut1, T1, h1, hr, E1, H1, hT1⟩ => by
    obtain ⟨T', h', hle, hq, hp⟩ := hq e T1 h1 hr
    have hT2 : RelT m1 Mut1 w1 T' a1 := by
      obtain ⟨g1, g2⟩ := leT_spec (m := m1) (Mut := Mut1) (w := w1) T1 T' hle
      refine ⟨by rw [← g1]; exact hT1.len, fun i x v hx hv => ?_, hT1.defers⟩
      rcases g2 i x hx with e | e
      · subst e; exact .any v
      · exact hT1.val i x v e hv
    have fin : ∀ {h' : AHeap}, ExitTo h h1 (.tup T') (.tup T') h' → Q e T' h' → APost Q m0 Mut0 w0 e a1 w1 := fun hx hq => by
      obtain ⟨m', Mut', p1, p2, p3⟩ := exit_sound hx H E1 H1 hT2.tup
      refine ⟨m', Mut', T', _, hq, E.trans p1, p2, ?_⟩
      cases p3 with
      | tup _ _ hl hv => exact ⟨hl, hv, hT1.defers⟩
    cases hp with
    | same => exact ⟨m1, Mut1, T', h1, hq, E.trans E1, H1, hT2⟩
    | pop ht hTl => exact fin (.pop (.low _ (.tup _ hTl)) ht rfl fun id o ho => .inl ho) hq
    | popLow _ ht hl ho hTl => exact fin (.pop (.low _ (.tup _ hTl)) ht hl fun id o hid => .inr (ho o (List.mem_of_getElem? hid))) hq

variable {σ ο : Type}

def LNextP (Tm : σ → List AV) (Hp : σ → AHeap) (inv : σ → Prop) (mu : σ → Nat) (l : Nat → σ → ο) (n : Nat) (s : σ) (T : List AV) (h : AHeap) : Prop :=
  ∃ s', inv s' ∧ mu s' < mu s ∧ l n s' = l (n + 1) s ∧ T = Tm s' ∧ PopOk (Hp s) h (Tm s') (Hp s')
def LEndP (Hp : σ → AHeap) (l : Nat → σ → ο) (oE : ο → Exit) (oT : ο → List AV) (oH : ο → AHeap) (n : Nat) (s : σ) (e : Exit) (T : List AV) (h : AHeap) : Prop :=
  ∃ o, l (n + 1) s = o ∧ e = oE o ∧ T = oT o ∧ PopOk (Hp s) h (oT o) (oH o)

theorem LNextP.mk {Tm : σ → List AV} {Hp : σ → AHeap} {inv : σ → Prop} {mu : σ → Nat} {l : Nat → σ → ο} {n : Nat} {s : σ} {h : AHeap} (s' : σ) (h1 : inv s') (h2 : mu s' < mu s) (h3 : l n s' = l (n + 1) s) (h4 : PopOk (Hp s) h (Tm s') (Hp s')) : LNextP Tm Hp inv mu l n s (Tm s') h := ⟨s', h1, h2, h3, rfl, h4⟩
theorem LEndP.mk {Hp : σ → AHeap} {l : Nat → σ → ο} {oE : ο → Exit} {oT : ο → List AV} {oH : ο → AHeap} {n : Nat} {s : σ} {hh : AHeap} (o : ο) (h : l (n + 1) s = o) (h4 : PopOk (Hp s) hh (oT o) (oH o)) : LEndP Hp l oE oT oH n s (oE o) (oT o) hh := ⟨o, h, rfl, rfl, h4⟩

def LRoundP (Tm : σ → List AV) (Hp : σ → AHeap) (inv : σ → Prop) (mu : σ → Nat) (l : Nat → σ → ο) (oE : ο → Exit) (oT : ο → List AV) (oH : ο → AHeap) (ks kr kx : List Nat) (n : Nat) (s : σ) : Exit → List AV → AHeap → List Dec → Prop :=
  fun e T h _ => match e with
    | .normal => LNextP Tm Hp inv mu l n s (mask ks T) h
    | .ret => LEndP Hp l oE oT oH n s .ret (mask kr T) h
    | e => LEndP Hp l oE oT oH n s e (mask kx T) h

theorem LoopTo.fuelP (hmix : P.follows .mixedOrders = true) {c : Code} (Tm : σ → List AV) (Hp : σ → AHeap) (inv : σ → Prop) (mu : σ → Nat) (l : Nat → σ → ο) (oE : ο → Exit) (oT : ο → List AV) (oH : ο → AHeap) (ks kr kx : List Nat)
    (round : ∀ n s, inv s → mu s < n + 1 → ∃ ds, run P c (Tm s) (Hp s) ds (LRoundP Tm Hp inv mu l oE oT oH ks kr kx n s)) (n : Nat) (s : σ) (hi : inv s) (hm : mu s < n) : LoopTo P c (Tm s) (Hp s) (oE (l n s)) (oT (l n s)) (oH (l n s)) := by
  refine WPC.loop (fun k T h => ∃ s', inv s' ∧ mu s' < k ∧ l k s' = l n s ∧ T = Tm s' ∧ h = Hp s') (fun k T h ⟨s', hi', hm', hl, hT, hh⟩ => ?_) (n := n) ⟨s, hi, hm, rfl, rfl, rfl⟩
  subst hT; subst hh
  cases k with
  | zero => exact absurd hm' (Nat.not_lt_zero _)
  | succ k =>
    obtain ⟨ds, hr⟩ := round k s' hi' hm'
    refine (run_sound hmix c _ _ ds _ hr).pop fun e2 T2 h2 ⟨ds', hk⟩ => ?_
    cases e2 with
    | normal =>
      obtain ⟨s2, a1, a2, a3, a4, a5⟩ := hk
      exact ⟨_, _, a4 ▸ leT_mask ks T2, ⟨k, Nat.lt_succ_self k, s2, a1, by omega, a3.trans hl, rfl, rfl⟩, a5⟩
    | ret =>
      obtain ⟨o, a1, a2, a3, a4⟩ := hk
      exact ⟨_, _, leT_mask kr T2, ⟨by rw [← hl, a1]; exact a2, by rw [← hl, a1]; exact a3, by rw [← hl, a1]⟩, a3 ▸ a4⟩
    | _ =>
      obtain ⟨o, a1, a2, a3, a4⟩ := hk
      exact ⟨_, _, leT_mask kx T2, ⟨by rw [← hl, a1]; exact a2, by rw [← hl, a1]; exact a3, by rw [← hl, a1]⟩, a3 ▸ a4⟩

end

@[simp] theorem low_ovar (lo : Nat) (v : AV) : (AObj.var v).Low lo = Low lo v := rfl
@[simp] theorem low_orowi (lo sz n : Nat) (k : IntKind) (xs : List Int) : (AObj.row sz n (.ints k xs)).Low lo = True := eq_true fun _ _ => .int _ _
@[simp] theorem low_orows (lo sz n : Nat) (xs : List ByteArray) : (AObj.row sz n (.strs xs)).Low lo = True := eq_true fun _ _ => .str _
@[simp] theorem low_orowb (lo sz n : Nat) (xs : List Bool) : (AObj.row sz n (.bools xs)).Low lo = True := eq_true fun _ _ => .bool _
@[simp] theorem low_odead (lo : Nat) : AObj.dead.Low lo = True := rfl
@[simp] theorem low_oiter (lo : Nat) (s : ByteArray) (p : Nat) : (AObj.iter s p).Low lo = True := rfl
@[simp] theorem low_ptr (lo id n sz i off : Nat) : Low lo (.ptr id n sz i off) = (id < lo) := propext ⟨fun h => by cases h; assumption, fun h => .ptr _ _ _ _ _ h⟩
@[simp] theorem low_ms (lo id n sz off len : Nat) : Low lo (.ms id n sz off len) = (id < lo) := propext ⟨fun h => by cases h; assumption, fun h => .ms _ _ _ _ _ h⟩
@[simp] theorem low_undef (lo : Nat) : Low lo .undef = True := eq_true .undef
@[simp] theorem low_nilp (lo : Nat) : Low lo .nilp = True := eq_true .nilp
end Go.Proofs.Ytgmppoappaolkaa
