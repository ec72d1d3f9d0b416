/- Rows of one's own, read as memory that nobody writes any more. Conditions: none. -/
import Derived.Test.YtjdakdjgkpfjkaaA26
namespace Go.Proofs.Ytjdakdjgkpfjkaa
set_option linter.unusedVariables false
set_option linter.unusedSimpArgs false

def frz1 (id n sz : Nat) (c : Col) (a a' : AV) : Prop :=
  a' = a ∨ ∃ off len f, a = .ms id n sz off len ∧ off + len ≤ c.len ∧ a' = .sl sz len f ∧ ∀ i, i < len → f i = c.get (off + i)
def frz1L (id n sz : Nat) (c : Col) : List AV → List AV → Prop
  | [], [] => True
  | a :: as, b :: bs => frz1 id n sz c a b ∧ frz1L id n sz c as bs
  | _, _ => False
/-- The same, in a struct's cells too. -/
def frz (id n sz : Nat) (c : Col) (a a' : AV) : Prop :=
  frz1 id n sz c a a' ∨ ∃ cs ds, a = .agg cs ∧ a' = .agg ds ∧ frz1L id n sz c cs ds

theorem frz1L_get {id n sz : Nat} {c : Col} : ∀ (as bs : List AV), frz1L id n sz c as bs → as.length = bs.length ∧ ∀ (i : Nat) a b, as[i]? = some a → bs[i]? = some b → frz1 id n sz c a b := by
  intro as
  induction as with
  | nil => intro bs h; cases bs with
    | nil => exact ⟨rfl, fun i a b h => by simp at h⟩
    | cons b bs => exact h.elim
  | cons a as ih => intro bs h; cases bs with
    | nil => exact h.elim
    | cons b bs =>
      obtain ⟨h1, h2⟩ := ih bs h.2
      refine ⟨by simp [h1], fun i x y hx hy => ?_⟩
      cases i with
      | zero => simp at hx hy; subst hx; subst hy; exact h.1
      | succ i => exact h2 i x y (by simpa using hx) (by simpa using hy)

/-- From one element to structs of them. -/
theorem frz_lift {id n sz : Nat} {c : Col} {m : IdMap} {Mut Mu1 : Mu} {w : World} (one : ∀ {a a' : AV} {v : Value}, frz1 id n sz c a a' → RelV m Mut w a v → RelV m Mu1 w a' v) {a a' : AV} {v : Value} (h : frz id n sz c a a') (hr : RelV m Mut w a v) : RelV m Mu1 w a' v := by
  rcases h with h | ⟨cs, ds, rfl, rfl, h⟩
  · exact one h hr
  · obtain ⟨hl, hf⟩ := frz1L_get cs ds h
    cases hr with
    | agg _ vs hl2 h2 =>
      refine .agg _ vs (hl ▸ hl2) fun i b v hb hv => ?_
      have hlt : i < cs.length := by rw [hl]; exact (List.getElem?_eq_some_iff.1 hb).1
      exact one (hf i cs[i] b (List.getElem?_eq_getElem hlt) hb) (h2 i cs[i] v (List.getElem?_eq_getElem hlt) hv)

def frzL (id n sz : Nat) (c : Col) : List AV → List AV → Prop
  | [], [] => True
  | a :: as, b :: bs => frz id n sz c a b ∧ frzL id n sz c as bs
  | _, _ => False

theorem frzL_get {id n sz : Nat} {c : Col} : ∀ (as bs : List AV), frzL id n sz c as bs → as.length = bs.length ∧ ∀ (i : Nat) a b, as[i]? = some a → bs[i]? = some b → frz id n sz c a b := by
  intro as
  induction as with
  | nil => intro bs h; cases bs with
    | nil => exact ⟨rfl, fun i a b h => by simp at h⟩
    | cons b bs => exact h.elim
  | cons a as ih => intro bs h; cases bs with
    | nil => exact h.elim
    | cons b bs =>
      obtain ⟨h1, h2⟩ := ih bs h.2
      refine ⟨by simp [h1], fun i x y hx hy => ?_⟩
      cases i with
      | zero => simp at hx hy; subst hx; subst hy; exact h.1
      | succ i => exact h2 i x y (by simpa using hx) (by simpa using hy)

theorem Weak.frz {h : AHeap} {vs vs' : List AV} {id n sz : Nat} {c : Col} (ho : h[id]? = some (.row sz n c)) (hf : frzL id n sz c vs vs') :
    Weak h.length vs h vs' (h.set id (.frow sz n c.len c.get)) := by
  obtain ⟨hl, hf⟩ := frzL_get vs vs' hf
  intro m Mut w us H hr
  have hold : ∀ (i : Nat) (x : AObj), (h.set id (.frow sz n c.len c.get))[i]? = some x → (i = id ∧ x = .frow sz n c.len c.get) ∨ (i ≠ id ∧ h[i]? = some x) := by
    intro i x hx
    rw [List.getElem?_set] at hx
    by_cases e : id = i
    · rw [if_pos e, if_pos (List.getElem?_eq_some_iff.1 ho).1] at hx; cases hx; exact .inl ⟨e.symm, rfl⟩
    · rw [if_neg e] at hx; exact .inr ⟨fun h => e h.symm, hx⟩
  rcases H.obj id _ ho with ⟨rfl, q2, y, q3⟩ | ⟨hn0, b, o, C, cc, t, h1, h2, h3, h4, h5, h6, h7⟩
  · have H1 : RelH m Mut (h.set id (.frow sz 0 c.len c.get)) w := by
      refine ⟨fun i x hx => ?_, fun i i' x x' bb C1 C2 hx hx' hxl hxl' hm hm' => ?_, fun i k x hx => by rw [List.length_set]; exact H.dom i k x hx, H.lt, fun i x k y hx hxl hy => ?_⟩
      · rcases hold i x hx with ⟨rfl, rfl⟩ | ⟨hne, hx⟩
        · exact .inl ⟨q2, _, q3⟩
        · exact H.obj i x hx
      · rcases hold i x hx with ⟨rfl, rfl⟩ | ⟨_, hx⟩
        · cases hxl
        · rcases hold i' x' hx' with ⟨rfl, rfl⟩ | ⟨_, hx'⟩
          · cases hxl'
          · exact H.inj i i' x x' bb C1 C2 hx hx' hxl hxl' hm hm'
      · rcases hold i x hx with ⟨rfl, rfl⟩ | ⟨_, hx⟩
        · cases hxl
        · exact H.top i x k y hx hxl hy
    refine ⟨m, Mut, fun _ _ _ _ hx => hx, fun x hx => hx, fun x hx => hx, fun x hi _ => hi, H1, ⟨hl ▸ hr.1, fun i a' v ha' hv => ?_⟩⟩
    have hlt : i < vs.length := by rw [hl]; exact (List.getElem?_eq_some_iff.1 ha').1
    have hv1 := hr.2 i _ v (List.getElem?_eq_getElem hlt) hv
    refine frz_lift (fun {a a' v} hz hv1 => ?_) (hf i vs[i] a' (List.getElem?_eq_getElem hlt) ha') hv1
    rcases hz with e | ⟨off, len, f, e1, e2, e3, e4⟩
    · rw [e]; exact hv1
    · rw [e1] at hv1
      subst e3
      obtain rfl : len = 0 := by omega
      cases hv1 with
      | ms _ _ _ _ _ b' o' C' hm hc => exact .sl0 _ _ _ _
      | ms0 _ _ _ _ _ _ _ _ _ => exact .sl0 _ _ _ _
  have hlive : (AObj.row sz n c).live = true := decide_eq_true hn0
  have hbs : b < w.heap.size := H.wr b h2
  let Mu1 : Mu := ⟨fun x => Mut.im x ∧ x ≠ b, fun x => Mut.wr x ∧ x ≠ b, fun x hx => ⟨Mut.le x hx.1, hx.2⟩⟩
  have mono : ∀ {a : AV} {v : Value}, RelV m Mut w a v → RelV m Mu1 w a v := fun h => h.mono (fun _ _ _ h => h) (Nat.le_refl _) (fun x _ hn (hx : Mut.im x ∧ x ≠ b) => hn hx.1) fun _ _ _ => rfl
  have hid : id < h.length := (List.getElem?_eq_some_iff.1 ho).1
  have hcell : ∀ k, w.cell? ⟨b, k, none⟩ = cc[k]? := fun k => by simp [World.cell?, h3]
  have H1 : RelH m Mu1 (h.set id (.frow sz n c.len c.get)) w := by
    have old : ∀ (i : Nat) (x : AObj), (h.set id (.frow sz n c.len c.get))[i]? = some x → (i = id ∧ x = .frow sz n c.len c.get) ∨ (i ≠ id ∧ h[i]? = some x) := by
      intro i x hx
      rw [List.getElem?_set] at hx
      by_cases e : id = i
      · rw [if_pos e, if_pos hid] at hx; cases hx; exact .inl ⟨e.symm, rfl⟩
      · rw [if_neg e] at hx; exact .inr ⟨fun h => e h.symm, hx⟩
    refine ⟨fun i x hx => ?_, fun i i' x x' bb C1 C2 hx hx' hxl hxl' hm hm' => ?_, fun i k x hx => by rw [List.length_set]; exact H.dom i k x hx, fun x hx => H.lt x hx.1, fun i x k y hx hxl hy => ?_⟩
    · rcases old i x hx with ⟨rfl, rfl⟩ | ⟨hne, hx⟩
      · exact .inr ⟨b, o, C, cc, t, h1, hbs, fun hx => hx.2 rfl, h3, h5, h6, fun i j a hi ha => by
          obtain ⟨v, hv, hrv⟩ := h7 i j a hi ha
          exact ⟨v, hv, mono hrv⟩⟩
      · have E : Ext m Mut w m Mu1 w := ⟨rfl, rfl, rfl, Nat.le_refl _, fun _ _ _ => rfl, fun x _ hn hx => hn hx.1, fun x _ hn hx => hn hx.1, fun x _ hi hn => ⟨hi, fun e => hn (e ▸ h2)⟩, fun _ _ _ h => h⟩
        refine (H.obj i x hx).mono E fun bb C1 hxl hm => ⟨rfl, (H.obj i x hx).wr hxl bb C1 hm, fun e => ?_⟩
        subst e
        exact hne (H.inj i id x _ bb C1 (o, C) hx ho hxl hlive hm h1)
    · rcases old i x hx with ⟨rfl, rfl⟩ | ⟨_, hx⟩
      · cases hxl
      · rcases old i' x' hx' with ⟨rfl, rfl⟩ | ⟨_, hx'⟩
        · cases hxl'
        · exact H.inj i i' x x' bb C1 C2 hx hx' hxl hxl' hm hm'
    · rcases old i x hx with ⟨rfl, rfl⟩ | ⟨_, hx⟩
      · cases hxl
      · exact H.top i x k y hx hxl hy
  refine ⟨m, Mu1, fun _ _ _ _ hx => hx, fun x hx => hx.1, fun x hx => hx.1, fun x hi hn => ⟨hi, fun e => hn (e ▸ h2)⟩, H1, ⟨hl ▸ hr.1, fun i a' v ha' hv => ?_⟩⟩
  have hlt : i < vs.length := by rw [hl]; exact (List.getElem?_eq_some_iff.1 ha').1
  refine frz_lift (fun {a a' v} hz hv1 => ?_) (hf i vs[i] a' (List.getElem?_eq_getElem hlt) ha') (hr.2 i _ v (List.getElem?_eq_getElem hlt) hv)
  rcases hz with e | ⟨off, len, f, e1, e2, e3, e4⟩
  · rw [e]; exact mono hv1
  · rw [e1] at hv1
    subst e3
    cases hv1 with
    | ms _ _ _ _ _ b' o' C' hm hc =>
      rw [h1] at hm
      cases hm
      rcases Nat.eq_zero_or_pos len with e0 | e0
      · subst e0; exact .sl0 _ _ _ _
      · refine .sl sz len f b (o + off * sz) (C - off) (fun i j => cc.getD (o + (off + i) * sz + j) Go.undef) e0 (by omega) hbs (fun hx => hx.2 rfl) (fun i hi => by rw [e4 i hi]; exact h6 _ (by omega)) (fun i j hi hj => ?_) (fun i j a hi ha => ?_)
        · rw [show o + off * sz + i * sz + j = o + (off + i) * sz + j by rw [Nat.add_mul]; omega, hcell]
          have hlt2 : (off + i) * sz + sz ≤ C * sz := by
            have : (off + i + 1) * sz ≤ C * sz := Nat.mul_le_mul_right _ (by omega)
            rwa [Nat.add_mul, Nat.one_mul] at this
          rw [Array.getD_eq_getD_getElem?, Array.getElem?_eq_getElem (by rw [h4]; omega)]
          rfl
        · rw [e4 i hi] at ha
          obtain ⟨x, hx, hrx⟩ := h7 (off + i) j a (by omega) ha
          rw [Array.getD_eq_getD_getElem?, hx]
          exact mono hrx
    | ms0 _ _ _ _ _ _ _ _ _ => exact .sl0 _ _ _ _

theorem Weak.frw {h : AHeap} {vs vs' : List AV} {id n sz L : Nat} {f : Nat → AV} (ho : h[id]? = some (.frow sz n L f)) (hf : frzL id n sz (.gen L f) vs vs') :
    Weak h.length vs h vs' h := by
  obtain ⟨hl, hf⟩ := frzL_get vs vs' hf
  intro m Mut w us H hr
  rcases H.obj id _ ho with ⟨q2, y, q3⟩ | ⟨b, o, C, cc, t, h1, hbs, h2, h3, h5, h6, h7⟩
  · refine ⟨m, Mut, fun _ _ _ _ hx => hx, fun x hx => hx, fun x hx => hx, fun x hi hn => hi, H, ⟨hl ▸ hr.1, fun i a' v ha' hv => ?_⟩⟩
    have hlt : i < vs.length := by rw [hl]; exact (List.getElem?_eq_some_iff.1 ha').1
    have hv1 := hr.2 i _ v (List.getElem?_eq_getElem hlt) hv
    refine frz_lift (fun {a a' v} hz hv1 => ?_) (hf i vs[i] a' (List.getElem?_eq_getElem hlt) ha') hv1
    rcases hz with e | ⟨off, len, f, e1, e2, e3, e4⟩
    · rw [e]; exact hv1
    · rw [e1] at hv1
      subst e3
      simp only [Col.len] at e2
      obtain rfl : len = 0 := by omega
      cases hv1 with
      | ms _ _ _ _ _ b' o' C' hm hc => exact .sl0 _ _ _ _
      | ms0 _ _ _ _ _ _ _ _ _ => exact .sl0 _ _ _ _
  have hcell : ∀ k, k < cc.size → w.cell? ⟨b, k, none⟩ = some (cc.getD k Go.undef) := fun k hk => by
    simp [World.cell?, h3, Array.getD_eq_getD_getElem?, Array.getElem?_eq_getElem hk]
  refine ⟨m, Mut, fun _ _ _ _ hx => hx, fun x hx => hx, fun x hx => hx, fun x hi hn => hi, H, ⟨hl ▸ hr.1, fun i a' v ha' hv => ?_⟩⟩
  have hlt : i < vs.length := by rw [hl]; exact (List.getElem?_eq_some_iff.1 ha').1
  refine frz_lift (fun {a a' v} hz hv1 => ?_) (hf i vs[i] a' (List.getElem?_eq_getElem hlt) ha') (hr.2 i _ v (List.getElem?_eq_getElem hlt) hv)
  rcases hz with e | ⟨off, len, f', e1, e2, e3, e4⟩
  · rw [e]; exact hv1
  · rw [e1] at hv1
    subst e3
    cases hv1 with
    | ms _ _ _ _ _ b' o' C' hm hc =>
      rw [h1] at hm
      cases hm
      rcases Nat.eq_zero_or_pos len with e0 | e0
      · subst e0; exact .sl0 _ _ _ _
      · have hin : ∀ i j, i < len → j < sz → ∃ v, cc[o + (off + i) * sz + j]? = some v := fun i j hi hj => by
          have hcl := h6 (off + i) (Nat.lt_of_lt_of_le (Nat.add_lt_add_left hi off) e2)
          obtain ⟨v, hv, _⟩ := h7 (off + i) j _ (Nat.lt_of_lt_of_le (Nat.add_lt_add_left hi off) e2) (List.getElem?_eq_getElem (hcl ▸ hj))
          exact ⟨v, hv⟩
        refine .sl sz len f' b (o + off * sz) (C - off) (fun i j => cc.getD (o + (off + i) * sz + j) Go.undef) e0 (by omega) hbs h2 (fun i hi => by rw [e4 i hi]; exact h6 _ (Nat.lt_of_lt_of_le (Nat.add_lt_add_left hi off) e2)) (fun i j hi hj => ?_) (fun i j a hi ha => ?_)
        · obtain ⟨v, hv⟩ := hin i j hi hj
          rw [show o + off * sz + i * sz + j = o + (off + i) * sz + j by rw [Nat.add_mul]; omega]
          exact hcell _ (Array.getElem?_eq_some_iff.1 hv).1
        · rw [e4 i hi] at ha
          obtain ⟨x, hx, hrx⟩ := h7 (off + i) j a (Nat.lt_of_lt_of_le (Nat.add_lt_add_left hi off) e2) ha
          show RelV m Mut w a (cc.getD (o + (off + i) * sz + j) Go.undef)
          rw [Array.getD_eq_getD_getElem?, hx]
          exact hrx
    | ms0 _ _ _ _ _ _ _ _ _ => exact .sl0 _ _ _ _

theorem Weak.trans {lo : Nat} {vs vs1 vs2 : List AV} {h h1 h2 : AHeap} (a : Weak lo vs h vs1 h1) (b : Weak lo vs1 h1 vs2 h2) : Weak lo vs h vs2 h2 := by
  intro m Mut w us H hr
  obtain ⟨m1, M1, a1, a2, a3, a4, a5, a6⟩ := a m Mut w us H hr
  obtain ⟨m2, M2, b1, b2, b3, b4, b5, b6⟩ := b m1 M1 w us a5 a6
  refine ⟨m2, M2, fun id n x hl hx => b1 id n x hl (a1 id n x hl hx), fun x hx => a2 x (b2 x hx), fun x hx => a3 x (b3 x hx), fun x hi hn => b4 x (a4 x hi hn) fun hw => hn (a3 x hw), b5, b6⟩

theorem frz_one {id n sz : Nat} {c : Col} {off : Nat} (h : off + 1 ≤ c.len) {x : AV} (hx : x = c.get off) : frz1 id n sz c (.ms id n sz off 1) (.sl sz 1 fun _ => x) :=
  .inr ⟨off, 1, _, rfl, h, rfl, fun i hi => by
    have e : i = 0 := Nat.lt_one_iff.1 hi
    rw [e]
    exact hx⟩
theorem frz_all {id n sz : Nat} {c : Col} {off len : Nat} (h : off + len ≤ c.len) : frz1 id n sz c (.ms id n sz off len) (.sl sz len (offGet c off)) :=
  .inr ⟨off, len, _, rfl, h, rfl, fun i _ => offGet_eq c off i⟩
/-- A whole row of records. -/
theorem frz_recs {D : Type} [Inhabited D] {id n sz : Nat} {av : D → AV} {L : List D} {len : Nat} (hl : len = L.length) : frz1 id n sz (.recs (L.map av)) (.ms id n sz 0 len) (.sl sz L.length fun i => av (rget L i)) := by
  subst hl
  refine .inr ⟨0, L.length, _, rfl, by simp [Col.len], rfl, fun i hi => ?_⟩
  rw [Nat.zero_add]
  simp only [Col.get, List.length_map]
  rw [if_pos hi]
  unfold rget
  rw [List.getD_eq_getElem?_getD, List.getD_eq_getElem?_getD, List.getElem?_map, List.getElem?_eq_getElem (show L.length - 1 - i < L.length by omega)]
  rfl
theorem frz_same {id n sz : Nat} {c : Col} (a : AV) : frz1 id n sz c a a := .inl rfl

end Go.Proofs.Ytjdakdjgkpfjkaa
