/- Leaving a function: what it made is forgotten, or read as plain data. Conditions: none. -/
import Derived.Test.YtjdakdjgkpfjkaaA14
namespace Go.Proofs.Ytjdakdjgkpfjkaa
set_option linter.unusedVariables false
set_option linter.unusedSimpArgs false

/-- No abstract object from number lo on is named. -/
inductive Low (lo : Nat) : AV → Prop
  | any : Low lo .any
  | undef : Low lo .undef
  | int (k n) : Low lo (.int k n)
  | bool (b) : Low lo (.bool b)
  | str (s) : Low lo (.str s)
  | snil : Low lo .snil
  | nilp : Low lo .nilp
  | nilf : Low lo .nilf
  | nilm : Low lo .nilm
  | agg (cs : List AV) (h : ∀ c, c ∈ cs → Low lo c) : Low lo (.agg cs)
  | tup (cs : List AV) (h : ∀ c, c ∈ cs → Low lo c) : Low lo (.tup cs)
  | sl (sz n : Nat) (f : Nat → AV) (h : ∀ i, i < n → Low lo (f i)) : Low lo (.sl sz n f)
  | pp (cs : List AV) (h : ∀ c, c ∈ cs → Low lo c) : Low lo (.pp cs)
  | ptr (id n sz i off : Nat) (h : id < lo) : Low lo (.ptr id n sz i off)
  | ms (id n sz off len : Nat) (h : id < lo) : Low lo (.ms id n sz off len)
  | mp (id : Nat) (h : id < lo) : Low lo (.mp id)
  | fn (g : FuncId) (cs : List AV) (h : ∀ c, c ∈ cs → Low lo c) : Low lo (.fn g cs)

def AObj.Low (lo : Nat) : AObj → Prop
  | .var v => Go.Proofs.Ytjdakdjgkpfjkaa.Low lo v
  | .row _ _ c => ∀ i, i < c.len → Go.Proofs.Ytjdakdjgkpfjkaa.Low lo (c.get i)
  | .frow _ _ len f => ∀ i, i < len → Go.Proofs.Ytjdakdjgkpfjkaa.Low lo (f i)
  | .map es _ => ∀ e, e ∈ es → Go.Proofs.Ytjdakdjgkpfjkaa.Low lo e.1 ∧ Go.Proofs.Ytjdakdjgkpfjkaa.Low lo e.2.1
  | .iter _ _ => True
  | .dead => True

section
variable {m : IdMap} {Mut : Mu} {w : World} {P : Program} {h : AHeap}

theorem Low.cells {lo : Nat} {a : AV} (h : Low lo a) : ∀ c ∈ a.cells, Low lo c := by
  intro c hc
  cases h <;> simp only [AV.cells, List.mem_singleton] at hc <;> first | (subst hc; constructor <;> assumption) | (rename_i hh; exact hh c hc)

theorem low_of_cells {lo : Nat} {a : AV} (h : ∀ c ∈ a.cells, Low lo c) : Low lo a := by
  cases a <;> first | exact h _ (List.mem_singleton.2 rfl) | exact .agg _ h

theorem low_of_rel {lo : Nat} (hd : ∀ id n x, m id n = some x → id < lo) {v : AV} {x : Value} (hr : RelV m Mut w v x) : Low lo v := by
  induction hr with
  | any v => exact .any
  | undef => exact .undef
  | int k n => exact .int k n
  | bool b => exact .bool b
  | str s => exact .str s
  | agg cs vs hl h ih =>
    refine .agg _ fun c hc => ?_
    obtain ⟨i, hi⟩ := List.getElem?_of_mem hc
    have hlt : i < vs.size := by rw [← hl]; exact (List.getElem?_eq_some_iff.1 hi).1
    exact ih i c vs[i] hi (Array.getElem?_eq_getElem hlt)
  | tup cs vs hl h ih =>
    refine .tup _ fun c hc => ?_
    obtain ⟨i, hi⟩ := List.getElem?_of_mem hc
    have hlt : i < vs.size := by rw [← hl]; exact (List.getElem?_eq_some_iff.1 hi).1
    exact ih i c vs[i] hi (Array.getElem?_eq_getElem hlt)
  | sl sz n f b o cap val hn hc hbs hmu hsz hv hr ih =>
    refine .sl _ _ _ fun i hi => low_of_cells fun c hc => ?_
    obtain ⟨j, hj⟩ := List.getElem?_of_mem hc
    exact ih i j c hi hj
  | sl0 sz f a cap => exact .sl _ _ _ fun i hi => absurd hi (Nat.not_lt_zero _)
  | snil a => exact .snil
  | pp cs b o val hbs hmu hv hr ih =>
    refine .pp _ fun c hc => ?_
    obtain ⟨j, hj⟩ := List.getElem?_of_mem hc
    exact ih j c hj
  | ptr id n sz i off b o C h => exact .ptr _ _ _ _ _ (hd _ _ _ h)
  | ms id n sz off len b o C h hc => exact .ms _ _ _ _ _ (hd _ _ _ h)
  | ms0 id n sz off b o C a h => exact .ms _ _ _ _ _ (hd _ _ _ h)
  | mp id b o C h => exact .mp _ (hd _ _ _ h)
  | fn g cs vs hl h ih =>
    refine .fn _ _ fun c hc => ?_
    obtain ⟨i, hi⟩ := List.getElem?_of_mem hc
    have hlt : i < vs.size := by rw [← hl]; exact (List.getElem?_eq_some_iff.1 hi).1
    exact ih i c vs[i] hi (Array.getElem?_eq_getElem hlt)
  | nilp => exact .nilp
  | nilf => exact .nilf
  | nilm => exact .nilm

theorem lowO_of_rel {lo : Nat} (hd : ∀ id n x, m id n = some x → id < lo) {id : Nat} {o : AObj} (hr : RelO m Mut w id o) : o.Low lo := by
  cases o with
  | var v =>
    obtain ⟨b, c, t, h1, h2, h3, h4⟩ := hr
    refine low_of_cells fun a ha => ?_
    obtain ⟨j, hj⟩ := List.getElem?_of_mem ha
    obtain ⟨x, hx, hrx⟩ := h4.get hj
    exact low_of_rel hd hrx
  | row sz n col =>
    intro i hi
    obtain ⟨b, o, C, c, t, h1, h2, h3, h4, h5, h6, h7⟩ := hr.rowIn hi
    refine low_of_cells fun a ha => ?_
    obtain ⟨j, hj⟩ := List.getElem?_of_mem ha
    obtain ⟨x, hx, hrx⟩ := h7 i j a hi hj
    exact low_of_rel hd hrx
  | frow sz n len f =>
    intro i hi
    obtain ⟨b, o, C, c, t, h1, h2, h3, h4, h5, h6, h7⟩ := hr.frowIn hi
    refine low_of_cells fun a ha => ?_
    obtain ⟨j, hj⟩ := List.getElem?_of_mem ha
    obtain ⟨x, hx, hrx⟩ := h7 i j a hi hj
    exact low_of_rel hd hrx
  | map es clock =>
    obtain ⟨b, ents, h1, h2, h3, h4, h5⟩ := hr
    intro e he
    obtain ⟨i, hi⟩ := List.getElem?_of_mem he
    obtain ⟨k, v, born⟩ := e
    obtain ⟨x, hx, h6, h7, h8⟩ := h5 i k v born hi
    exact ⟨low_of_rel hd h6, low_of_rel hd h7⟩
  | iter s pos => trivial
  | dead => trivial

def cutM (m : IdMap) (lo : Nat) : IdMap := fun id n => if id < lo then m id n else none

theorem cut_rel {lo : Nat} {Mut' : Mu} (hM : ∀ b, Mut'.im b → Mut.im b) {v : AV} {x : Value} (hr : RelV m Mut w v x) : Low lo v → RelV (cutM m lo) Mut' w v x := by
  have hc : ∀ id n y, id < lo → m id n = some y → cutM m lo id n = some y := fun id n y hi h => by unfold cutM; rw [if_pos hi]; exact h
  induction hr with
  | any v => exact fun _ => .any v
  | undef => exact fun _ => .undef
  | int k n => exact fun _ => .int k n
  | bool b => exact fun _ => .bool b
  | str s => exact fun _ => .str s
  | agg cs vs hl h ih =>
    intro hL; cases hL with
    | agg _ hL => exact .agg cs vs hl fun i a v ha hv => ih i a v ha hv (hL a (List.mem_of_getElem? ha))
  | tup cs vs hl h ih =>
    intro hL; cases hL with
    | tup _ hL => exact .tup cs vs hl fun i a v ha hv => ih i a v ha hv (hL a (List.mem_of_getElem? ha))
  | sl sz n f b o cap val hn hcap hbs hmu hsz hv hr ih =>
    intro hL; cases hL with
    | sl _ _ _ hL => exact .sl sz n f b o cap val hn hcap hbs (fun hh => hmu (hM b hh)) hsz hv fun i j a hi ha => ih i j a hi ha ((hL i hi).cells a (List.mem_of_getElem? ha))
  | sl0 sz f a cap => exact fun _ => .sl0 sz f a cap
  | snil a => exact fun _ => .snil a
  | pp cs b o val hbs hmu hv hr ih =>
    intro hL; cases hL with
    | pp _ hL => exact .pp cs b o val hbs (fun hh => hmu (hM b hh)) hv fun j a ha => ih j a ha (hL a (List.mem_of_getElem? ha))
  | ptr id n sz i off b o C h => intro hL; cases hL with | ptr _ _ _ _ _ hL => exact .ptr id n sz i off b o C (hc _ _ _ hL h)
  | ms id n sz off len b o C h hcap => intro hL; cases hL with | ms _ _ _ _ _ hL => exact .ms id n sz off len b o C (hc _ _ _ hL h) hcap
  | ms0 id n sz off b o C a h => intro hL; cases hL with | ms _ _ _ _ _ hL => exact .ms0 id n sz off b o C a (hc _ _ _ hL h)
  | mp id b o C h => intro hL; cases hL with | mp _ hL => exact .mp id b o C (hc _ _ _ hL h)
  | fn g cs vs hl h ih =>
    intro hL; cases hL with
    | fn _ _ hL => exact .fn g cs vs hl fun i a v ha hv => ih i a v ha hv (hL a (List.mem_of_getElem? ha))
  | nilp => exact fun _ => .nilp
  | nilf => exact fun _ => .nilf
  | nilm => exact fun _ => .nilm

/-- What a function made, read as plain data. -/
inductive Pur (h1 : AHeap) (lo : Nat) : AV → AV → Prop
  | low (v : AV) (h : Low lo v) : Pur h1 lo v v
  | any (v : AV) : Pur h1 lo v .any
  | snil (sz : Nat) (f : Nat → AV) : Pur h1 lo .snil (.sl sz 0 f)
  | row (id n sz off len k : Nat) (c : Col) (f : Nat → AV) (g : Nat → Nat → AV) (hid : lo ≤ id) (ho : h1[id]? = some (.row sz k c)) (hn : n = k) (hl : off + len ≤ c.len)
      (hs : ∀ i, i < len → (f i).cells.length = sz) (hg : ∀ i j, i < len → j < sz → (c.get (off + i)).cells[j]? = some (g i j))
      (hr : ∀ i j a, i < len → (f i).cells[j]? = some a → Pur h1 lo (g i j) a) : Pur h1 lo (.ms id n sz off len) (.sl sz len f)
  | agg (cs ds : List AV) (hl : cs.length = ds.length) (h : ∀ (i : Nat) a b, cs[i]? = some a → ds[i]? = some b → Pur h1 lo a b) : Pur h1 lo (.agg cs) (.agg ds)
  | tup (cs ds : List AV) (hl : cs.length = ds.length) (h : ∀ (i : Nat) a b, cs[i]? = some a → ds[i]? = some b → Pur h1 lo a b) : Pur h1 lo (.tup cs) (.tup ds)

theorem pur_rel {h1 : AHeap} {lo : Nat} {Mut' : Mu} (H : RelH m Mut h1 w) (hM : ∀ b, Mut'.im b → Mut.im b) (hN : ∀ id o b C, lo ≤ id → h1[id]? = some o → o.live = true → m id o.ver = some (b, C) → ¬ Mut'.im b)
    {v r : AV} (hp : Pur h1 lo v r) : ∀ {x : Value}, RelV m Mut w v x → RelV (cutM m lo) Mut' w r x := by
  induction hp with
  | low v h => exact fun hr => cut_rel hM hr h
  | any v => exact fun {x} _ => .any x
  | snil sz f => intro x hr; cases hr with | snil a => exact .sl0 _ _ _ _
  | row id n sz off len k c f g hid ho hn hl hs hg hr ih =>
    subst hn
    intro x hx
    rcases Nat.eq_zero_or_pos len with q0 | q0
    · subst q0
      cases hx with
      | ms _ _ _ _ _ b' o' C' hm hcap => exact .sl0 _ _ _ _
      | ms0 _ _ _ _ b' o' C' a hm => exact .sl0 _ _ _ _
    have hO := H.obj id _ ho
    have hlive : (AObj.row sz n c).live = true := by
      rcases hO with ⟨_, q, _⟩ | ⟨q, _⟩
      · omega
      · exact decide_eq_true q
    obtain ⟨b, o, C, cc, t, h1, h2, h3, h4, h5, h6, h7⟩ := hO.rowIn (i := off) (by omega)
    cases hx with
    | ms _ _ _ _ _ b' o' C' hm hcap =>
      rw [h1] at hm; cases hm
      rcases Nat.eq_zero_or_pos len with q | q
      · subst q; exact .sl0 _ _ _ _
      · have hval : ∀ i j, i < len → j < sz → ∃ u, cc[o + (off + i) * sz + j]? = some u ∧ RelV m Mut w (g i j) u := fun i j hi hj => h7 (off + i) j (g i j) (by omega) (hg i j hi hj)
        refine .sl sz len f b _ _ (fun i j => cc.getD (o + (off + i) * sz + j) default) q (by omega) (H.wr b h2) (hN id _ b _ hid ho hlive h1) hs (fun i j hi hj => ?_) (fun i j a hi ha => ?_)
        · obtain ⟨u, hu, _⟩ := hval i j hi hj
          rw [cell?_at h3, Array.getD_eq_getD_getElem?, hu, show o + off * sz + i * sz + j = o + (off + i) * sz + j by rw [Nat.add_mul]; omega, hu]
          rfl
        · have hj : j < sz := by
            rcases Nat.lt_or_ge j sz with z | z
            · exact z
            · rw [List.getElem?_eq_none (by rw [hs i hi]; exact z)] at ha; cases ha
          obtain ⟨u, hu, hru⟩ := hval i j hi hj
          have : cc.getD (o + (off + i) * sz + j) default = u := by rw [Array.getD_eq_getD_getElem?, hu]; rfl
          rw [this]
          exact ih i j a hi ha hru
    | ms0 _ _ _ _ b' o' C' a hm => exact .sl0 _ _ _ _
  | agg cs ds hl h ih =>
    intro x hx
    cases hx with
    | agg _ vs hl2 h2 =>
      refine .agg _ _ (by rw [← hl]; exact hl2) fun i a u ha hu => ?_
      have hlt : i < cs.length := by rw [hl]; exact (List.getElem?_eq_some_iff.1 ha).1
      exact ih i cs[i] a (List.getElem?_eq_getElem hlt) ha (h2 i cs[i] u (List.getElem?_eq_getElem hlt) hu)
  | tup cs ds hl h ih =>
    intro x hx
    cases hx with
    | tup _ vs hl2 h2 =>
      refine .tup _ _ (by rw [← hl]; exact hl2) fun i a u ha hu => ?_
      have hlt : i < cs.length := by rw [hl]; exact (List.getElem?_eq_some_iff.1 ha).1
      exact ih i cs[i] a (List.getElem?_eq_getElem hlt) ha (h2 i cs[i] u (List.getElem?_eq_getElem hlt) hu)

/-- How a function is left: from the heap h that it began with, at the heap h1, with the value v, which the caller has as r over h'. -/
inductive ExitTo (h h1 : AHeap) (v r : AV) (h' : AHeap) : Prop
  | keep (hv : v = r) (hh : h1 = h')
  | pop (hp : Pur h1 h.length v r) (ht : h1.take h.length = h') (hl : h'.length = h.length) (hlow : ∀ (id : Nat) o, h'[id]? = some o → h[id]? = some o ∨ o.Low h.length)

theorem ExitTo.same {h news : AHeap} {v r : AV} (hp : Pur (h ++ news) h.length v r) : ExitTo h (h ++ news) v r h :=
  .pop hp (by simp) rfl fun id o ho => .inl ho

theorem exit_sound {h h1 h' : AHeap} {v r : AV} {x : Value} {m0 : IdMap} {Mut0 : Mu} {w0 : World} (he : ExitTo h h1 v r h') (H0 : RelH m0 Mut0 h w0) (E : Ext m0 Mut0 w0 m Mut w) (H : RelH m Mut h1 w) (hr : RelV m Mut w v x) :
    ∃ m' Mut', Ext m0 Mut0 w0 m' Mut' w ∧ RelH m' Mut' h' w ∧ RelV m' Mut' w r x := by
  cases he with
  | keep hv hh => subst hv; subst hh; exact ⟨m, Mut, E, H, hr⟩
  | pop hp ht hl hlow =>
    have hget : ∀ (id : Nat) o, h'[id]? = some o → id < h.length ∧ h1[id]? = some o := by
      intro id o ho
      have hlt : id < h.length := by rw [← hl]; exact (List.getElem?_eq_some_iff.1 ho).1
      rw [← ht, List.getElem?_take_of_lt hlt] at ho
      exact ⟨hlt, ho⟩
    let own : Nat → Prop := fun b => ∃ id o C, h'[id]? = some o ∧ o.live = true ∧ m id o.ver = some (b, C)
    let Mut' : Mu := ⟨fun b => Mut.im b ∧ (own b ∨ (Mut0.im b ∧ ¬ Mut0.wr b)), fun b => Mut.wr b ∧ own b, fun b hb => ⟨Mut.le b hb.1, .inl hb.2⟩⟩
    have hM : ∀ b, Mut'.im b → Mut.im b := fun b hb => hb.1
    have hN : ∀ id o b C, h.length ≤ id → h1[id]? = some o → o.live = true → m id o.ver = some (b, C) → ¬ Mut'.im b := by
      rintro id o b C hid ho hlo hm ⟨_, ⟨id', o', C', ho', hlo', hm'⟩ | ⟨hi0, hw0⟩⟩
      · have := H.inj id id' o o' b C C' ho (hget id' o' ho').2 hlo hlo' hm hm'
        have := (hget id' o' ho').1
        omega
      · exact E.nwr b (H0.lt b hi0) hw0 ((H.obj id o ho).wr hlo b C hm)
    have hcut : ∀ id n y, id < h.length → m id n = some y → cutM m h.length id n = some y := fun id n y hi h => by unfold cutM; rw [if_pos hi]; exact h
    have hback : ∀ id n y, cutM m h.length id n = some y → id < h.length ∧ m id n = some y := by
      intro id n y hy
      unfold cutM at hy
      split at hy
      · exact ⟨by assumption, hy⟩
      · cases hy
    refine ⟨cutM m h.length, Mut', ⟨E.os, E.tape, E.output, E.size, E.block, fun b hb hn hM' => E.nmut b hb hn hM'.1, fun b hb hn hM' => E.nwr b hb hn hM'.1, fun b hb hi hw => ⟨E.keep b hb hi hw, .inr ⟨hi, hw⟩⟩, fun id n y hy => hcut id n y (H0.dom id n y hy) (E.ids id n y hy)⟩, ?_, pur_rel H hM hN hp hr⟩
    constructor
    · intro id o ho
      obtain ⟨hlt, ho1⟩ := hget id o ho
      have hL : o.Low h.length := by
        rcases hlow id o ho with q | q
        · exact lowO_of_rel H0.dom (H0.obj id o q)
        · exact q
      have hO := H.obj id o ho1
      have hmut : ∀ b C, o.live = true → m id o.ver = some (b, C) → Mut'.wr b := fun b C hlo hm => ⟨hO.wr hlo b C hm, id, o, C, ho, hlo, hm⟩
      cases o with
      | var v =>
        obtain ⟨b, c, t, p1, p2, p3, p4⟩ := hO
        refine ⟨b, c, t, hcut _ _ _ hlt p1, hmut b _ rfl p1, p3, p4.1, fun i a u ha hu => cut_rel hM (p4.2 i a u ha hu) (Low.cells hL a (List.mem_of_getElem? ha))⟩
      | row sz n col =>
        rcases hO with ⟨q1, q2, x, q3⟩ | ⟨q, b, o, C, c, t, p1, p2, p3, p4, p5, p6, p7⟩
        · exact .inl ⟨q1, q2, x, hcut _ _ _ hlt q3⟩
        exact .inr ⟨q, b, o, C, c, t, hcut _ _ _ hlt p1, hmut b _ (decide_eq_true q) p1, p3, p4, p5, p6, fun i j a hi ha => by
          obtain ⟨u, hu, hru⟩ := p7 i j a hi ha
          exact ⟨u, hu, cut_rel hM hru (Low.cells (hL i hi) a (List.mem_of_getElem? ha))⟩⟩
      | frow sz n len f =>
        rcases hO with ⟨q2, x, q3⟩ | ⟨b, o, C, c, t, p1, p2, p3, p4, p5, p6, p7⟩
        · exact .inl ⟨q2, x, hcut _ _ _ hlt q3⟩
        exact .inr ⟨b, o, C, c, t, hcut _ _ _ hlt p1, p2, fun hh => p3 (hM b hh), p4, p5, p6, fun i j a hi ha => by
          obtain ⟨u, hu, hru⟩ := p7 i j a hi ha
          exact ⟨u, hu, cut_rel hM hru (Low.cells (hL i hi) a (List.mem_of_getElem? ha))⟩⟩
      | map es clock =>
        obtain ⟨b, ents, p1, p2, p3, p4, p5⟩ := hO
        exact ⟨b, ents, hcut _ _ _ hlt p1, hmut b _ rfl p1, p3, p4, fun i k v born hi => by
          obtain ⟨e, he, q1, q2, q3⟩ := p5 i k v born hi
          have := hL _ (List.mem_of_getElem? hi)
          exact ⟨e, he, cut_rel hM q1 this.1, cut_rel hM q2 this.2, q3⟩⟩
      | iter s pos =>
        obtain ⟨b, p1, p2, p3⟩ := hO
        exact ⟨b, hcut _ _ _ hlt p1, hmut b _ rfl p1, p3⟩
      | dead => trivial
    · intro id id' o o' b C C' ho ho' hlo hlo' hm hm'
      exact H.inj id id' o o' b C C' (hget id o ho).2 (hget id' o' ho').2 hlo hlo' (hback _ _ _ hm).2 (hback _ _ _ hm').2
    · intro id n y hy
      rw [hl]; exact (hback _ _ _ hy).1
    · intro b hb; exact H.lt b hb.1
    · intro id o n y ho hlo hy
      exact H.top id o n y (hget id o ho).2 hlo (hback _ _ _ hy).2

end
end Go.Proofs.Ytjdakdjgkpfjkaa
