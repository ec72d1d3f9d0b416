/- The quiet operations, proved against the model (continued). Conditions: none. -/
import Derived.Test.YtjdakdjgkpfjkaaA4
namespace Go.Proofs.Ytjdakdjgkpfjkaa
set_option linter.unusedVariables false
set_option linter.unusedSimpArgs false

section
variable {m : IdMap} {Mut : Mu} {w : World} {P : Program} {h : AHeap}

theorem seqOf_slice {t e : TypeId} (hs : seqOf P t = .slice e) : P.underlying t = some (.slice e) := by
  unfold seqOf at hs
  split at hs <;> first | (cases hs; assumption) | cases hs
theorem seqOf_array {t e : TypeId} {n : Nat} (hs : seqOf P t = .array n e) : P.underlying t = some (.array n e) := by
  unfold seqOf at hs
  split at hs <;> first | (cases hs; assumption) | cases hs
theorem seqOf_string {t : TypeId} (hs : seqOf P t = .string) : P.underlying t = some .string := by
  unfold seqOf at hs
  split at hs <;> first | (cases hs; assumption) | cases hs
theorem seqOf_map {t k e : TypeId} (hs : seqOf P t = .map k e) : P.underlying t = some (.map k e) := by
  unfold seqOf at hs
  split at hs <;> first | (cases hs; assumption) | cases hs
theorem structOf_some {t : TypeId} {fs : Array Field} (hs : structOf P t = some fs) : P.underlying t = some (.struct fs) := by
  unfold structOf at hs
  split at hs
  · cases hs; assumption
  · cases hs

theorem addr_add' (a : Addr) (ha : a.spot = none) (n : Nat) : a.add n = ⟨a.block, a.off + n, none⟩ := by
  obtain ⟨b, o, s⟩ := a
  simp only at ha
  subst ha
  exact addr_add b o n

theorem aslice_sound {t : TypeId} {x : AV} {u : Value} {lo hi : Option AV} {ulo uhi : Option Value} {c : Cnd} {r : AV} (hb : aslice P t x lo hi = some (c, r)) (hC : c.ok)
    (hx : RelV m Mut w x u) (hlo : RelOpt m Mut w lo ulo) (hhi : RelOpt m Mut w hi uhi) :
    ∃ z, (Instr.sliceAt t u ulo uhi none).run P w = .ok z w ∧ RelV m Mut w r z := by
  unfold aslice at hb
  split at hb
  · rename_i s _
    rw [hx.inv_str]
    have hu := seqOf_string (t := t) (by assumption)
    simp only [Option.map_eq_some_iff, Prod.mk.injEq, Prod.exists] at hb
    obtain ⟨c', l, e, hbd, rfl, rfl⟩ := hb
    obtain ⟨hr, h1, h2⟩ := abounds_sound (P := P) (w := w) (m := m) (Mut := Mut) (isSlice := false) hbd hC (Nat.le_refl _) hlo hhi
    refine ⟨.string (s.extract l e), ?_, .str _⟩
    simp only [Instr.sliceAt, Instr.slice, Sem.run_bind, run_underlying_some hu, Result.andThen_ok, Option.isSome_none, Bool.false_eq_true, if_false, hr, Sem.run_pure]
  · rename_i e sz n f _
    split at hb
    · rename_i hh
      obtain ⟨hh, rfl⟩ := hh
      have hu := seqOf_slice (t := t) (by assumption)
      simp only [Option.map_eq_some_iff, Prod.mk.injEq, Prod.exists] at hb
      obtain ⟨c', l, hi', hbd, rfl, rfl⟩ := hb
      cases hx with
      | sl _ _ _ b o cap val hn hc hbs hmu hsz hv hr =>
        obtain ⟨hrun, h1, h2⟩ := abounds_sound (P := P) (w := w) (m := m) (Mut := Mut) (isSlice := true) hbd hC hc hlo hhi
        refine ⟨.slice (if cap = l then some ⟨b, o, none⟩ else some ⟨b, o + l * szOf P e, none⟩) (hi' - l) (cap - l), ?_, ?_⟩
        · simp only [Instr.sliceAt, Instr.slice, Sem.run_bind, run_underlying_some hu, Result.andThen_ok, hrun, run_sizeOf_has hh, Sem.run_pure]
          split <;> simp [addr_add]
        · by_cases hz : hi' - l = 0
          · rw [hz]; exact .sl0 _ _ _ _
          · rw [if_neg (by omega)]
            refine .sl _ _ _ b _ _ (fun i j => val (l + i) j) (by omega) (by omega) hbs hmu (fun i hi => hsz _ (by omega)) (fun i j hi hj => ?_) (fun i j a hi ha => hr _ _ _ (by omega) ha)
            rw [← hv (l + i) j (by omega) hj]
            congr 2
            rw [Nat.add_mul]
            omega
      | sl0 _ _ a cap =>
        obtain ⟨hrun, h1, h2⟩ := abounds_sound (P := P) (w := w) (m := m) (Mut := Mut) (isSlice := true) hbd hC (Nat.zero_le cap) hlo hhi
        obtain rfl : hi' = 0 := by omega
        obtain rfl : l = 0 := by omega
        refine ⟨.slice (if cap = 0 then a else a.map (·.add (0 * szOf P e))) (0 - 0) (cap - 0), ?_, .sl0 _ _ _ _⟩
        simp only [Instr.sliceAt, Instr.slice, Sem.run_bind, run_underlying_some hu, Result.andThen_ok, hrun, run_sizeOf_has hh, Sem.run_pure]
    · cases hb
  · rename_i e id v sz off len _
    split at hb
    · rename_i hh
      obtain ⟨hh, rfl⟩ := hh
      have hu := seqOf_slice (t := t) (by assumption)
      simp only [Option.map_eq_some_iff, Prod.mk.injEq, Prod.exists] at hb
      obtain ⟨c', l, hi', hbd, rfl, rfl⟩ := hb
      cases hx with
      | ms _ _ _ _ _ b o C hm hc =>
        obtain ⟨hrun, h1, h2⟩ := abounds_sound (P := P) (w := w) (m := m) (Mut := Mut) (isSlice := true) hbd hC (show len ≤ C - off by omega) hlo hhi
        refine ⟨.slice (if C - off = l then some ⟨b, o + off * szOf P e, none⟩ else some ⟨b, o + off * szOf P e + l * szOf P e, none⟩) (hi' - l) (C - off - l), ?_, ?_⟩
        · simp only [Instr.sliceAt, Instr.slice, Sem.run_bind, run_underlying_some hu, Result.andThen_ok, hrun, run_sizeOf_has hh, Sem.run_pure]
          split <;> simp [addr_add]
        · by_cases hz : C - off = l
          · rw [if_pos hz]
            obtain rfl : hi' = l := by omega
            rw [show hi' - hi' = 0 by omega, show C - off - hi' = 0 by omega]
            exact .ms0 _ _ _ _ b o C _ hm
          · rw [if_neg hz, show o + off * szOf P e + l * szOf P e = o + (off + l) * szOf P e by rw [Nat.add_mul]; omega, show C - off - l = C - (off + l) by omega]
            exact .ms _ _ _ _ _ b o C hm (by omega)
      | ms0 _ _ _ _ b o C a hm =>
        obtain ⟨hrun, h1, h2⟩ := abounds_sound (P := P) (w := w) (m := m) (Mut := Mut) (isSlice := true) hbd hC (Nat.zero_le 0) hlo hhi
        obtain rfl : hi' = 0 := by omega
        obtain rfl : l = 0 := by omega
        refine ⟨.slice a 0 0, ?_, .ms0 _ _ _ _ b o C _ hm⟩
        cases a <;> simp only [Instr.sliceAt, Instr.slice, Sem.run_bind, run_underlying_some hu, Result.andThen_ok, hrun, run_sizeOf_has hh, Sem.run_pure, if_true, Nat.sub_zero]
    · cases hb
  · cases hb

theorem aindexAddr_sound {t : TypeId} {x ix : AV} {u v : Value} {c : Cnd} {r : AV} (hb : aindexAddr P t x ix = some (c, r)) (hC : c.ok) (hx : RelV m Mut w x u) (hi : RelV m Mut w ix v) :
    ∃ z, (Instr.indexAt t u v).run P w = .ok z w ∧ RelV m Mut w r z := by
  unfold aindexAddr at hb
  split at hb
  · rename_i k i
    rw [hi.inv_int]
    split at hb
    · rename_i e sz n f _
      have hu := seqOf_slice (t := t) (by assumption)
      split at hb
      · rename_i hh
        obtain ⟨hh, rfl⟩ := hh
        cases hb
        obtain ⟨h0, h1⟩ := hC
        cases hx with
        | sl _ _ _ b o cap val hn hc hbs hmu hsz hv hr =>
          have hlt : i.toNat < n := by omega
          refine ⟨.pointer (some ⟨b, o + i.toNat * szOf P e, none⟩), ?_, ?_⟩
          · simp [Instr.indexAt, asIntOf, run_underlying_some hu, h0, h1, run_sizeOf_has hh, addr_add]
          · refine .pp _ b _ (fun j => val i.toNat j) hbs hmu (fun j hj => hv _ _ hlt (by rw [hsz _ hlt] at hj; exact hj)) (fun j a ha => hr _ _ _ hlt ha)
        | sl0 _ _ a cap => exact absurd h1 (by omega)
      · cases hb
    · rename_i e id n sz off len hs
      have hu := seqOf_slice (t := t) (by assumption)
      split at hb
      · rename_i hh
        obtain ⟨hh, rfl⟩ := hh
        cases hb
        obtain ⟨h0, h1⟩ := hC
        cases hx with
        | ms _ _ _ _ _ b o C hm hc =>
          refine ⟨.pointer (some ⟨b, o + off * szOf P e + i.toNat * szOf P e, none⟩), ?_, ?_⟩
          · simp [Instr.indexAt, asIntOf, run_underlying_some hu, h0, h1, run_sizeOf_has hh, addr_add]
          · rw [show o + off * szOf P e + i.toNat * szOf P e = o + (off + i.toNat) * szOf P e + 0 by rw [Nat.add_mul]; omega]
            exact .ptr _ _ _ _ _ b o C hm
        | ms0 _ _ _ _ b o C a hm => exact absurd h1 (by omega)
      · cases hb
    · rename_i n e x hs
      have hu := seqOf_array (t := t) (by assumption)
      split at hb
      · rename_i hh
        simp only [Option.map_eq_some_iff, Prod.mk.injEq] at hb
        obtain ⟨y, hy, rfl, rfl⟩ := hb
        obtain ⟨h0, h1⟩ := hC
        obtain ⟨b, o, rfl, hr⟩ := aplace_sound hx hy
        refine ⟨_, ?_, hr⟩
        simp [Instr.indexAt, asIntOf, run_underlying_some hu, h0, h1, run_sizeOf_has hh, Instr.sureAddr, addr_add]
      · cases hb
    · cases hb
  · cases hb

theorem Col.ofList_go_get (k : IntKind) : ∀ (l : List AV) (xs : List Int), Col.ofList.go k l = some xs → xs.length = l.length ∧ ∀ i, i < l.length → l[i]? = some (.int k (xs.getD i 0)) := by
  intro l
  induction l with
  | nil => intro xs h; cases h; exact ⟨rfl, fun i hi => by simp at hi⟩
  | cons a l ih =>
    intro xs h
    cases a <;> simp only [Col.ofList.go, reduceCtorEq] at h
    split at h
    · rename_i hk
      subst hk
      simp only [Option.map_eq_some_iff] at h
      obtain ⟨ys, hy, rfl⟩ := h
      obtain ⟨h1, h2⟩ := ih ys hy
      refine ⟨by simp [h1], fun i hi => ?_⟩
      cases i with
      | zero => simp
      | succ i => simpa using h2 i (by simpa using hi)
    · cases h
theorem Col.ofList_gos_get : ∀ (l : List AV) (xs : List ByteArray), Col.ofList.gos l = some xs → xs.length = l.length ∧ ∀ i, i < l.length → l[i]? = some (.str (xs.getD i ByteArray.empty)) := by
  intro l
  induction l with
  | nil => intro xs h; cases h; exact ⟨rfl, fun i hi => by simp at hi⟩
  | cons a l ih =>
    intro xs h
    cases a <;> simp only [Col.ofList.gos, reduceCtorEq] at h
    simp only [Option.map_eq_some_iff] at h
    obtain ⟨ys, hy, rfl⟩ := h
    obtain ⟨h1, h2⟩ := ih ys hy
    refine ⟨by simp [h1], fun i hi => ?_⟩
    cases i with
    | zero => simp
    | succ i => simpa using h2 i (by simpa using hi)
theorem Col.ofList_gob_get : ∀ (l : List AV) (xs : List Bool), Col.ofList.gob l = some xs → xs.length = l.length ∧ ∀ i, i < l.length → l[i]? = some (.bool (xs.getD i false)) := by
  intro l
  induction l with
  | nil => intro xs h; cases h; exact ⟨rfl, fun i hi => by simp at hi⟩
  | cons a l ih =>
    intro xs h
    cases a <;> simp only [Col.ofList.gob, reduceCtorEq] at h
    simp only [Option.map_eq_some_iff] at h
    obtain ⟨ys, hy, rfl⟩ := h
    obtain ⟨h1, h2⟩ := ih ys hy
    refine ⟨by simp [h1], fun i hi => ?_⟩
    cases i with
    | zero => simp
    | succ i => simpa using h2 i (by simpa using hi)

theorem Col.ofList_get (l : List AV) : (Col.ofList l).len = l.length ∧ ∀ i, i < l.length → l[i]? = some ((Col.ofList l).get i) := by
  have gen : ∀ (l : List AV), ∀ i, i < l.length → l[i]? = some ((Col.gen l.length fun i => l.getD i .any).get i) := by
    intro l i hi
    simp [Col.get, List.getD, List.getElem?_eq_getElem hi]
  unfold Col.ofList
  split
  · exact ⟨rfl, fun i hi => by simp at hi⟩
  · rename_i k x r
    split
    · rename_i xs hx
      obtain ⟨h1, h2⟩ := Col.ofList_go_get k r xs hx
      refine ⟨by simp [Col.len, h1], fun i hi => ?_⟩
      cases i with
      | zero => simp [Col.get]
      | succ i => simpa [Col.get] using h2 i (by simpa using hi)
    · exact ⟨rfl, gen _⟩
  · rename_i x r
    split
    · rename_i xs hx
      obtain ⟨h1, h2⟩ := Col.ofList_gos_get r xs hx
      refine ⟨by simp [Col.len, h1], fun i hi => ?_⟩
      cases i with
      | zero => simp [Col.get]
      | succ i => simpa [Col.get] using h2 i (by simpa using hi)
    · exact ⟨rfl, gen _⟩
  · rename_i x r
    split
    · rename_i xs hx
      obtain ⟨h1, h2⟩ := Col.ofList_gob_get r xs hx
      refine ⟨by simp [Col.len, h1], fun i hi => ?_⟩
      cases i with
      | zero => simp [Col.get]
      | succ i => simpa [Col.get] using h2 i (by simpa using hi)
    · exact ⟨rfl, gen _⟩
  · rename_i v r _ _ _
    refine ⟨by simp [Col.len], fun i hi => ?_⟩
    simp only [Col.get, List.length_reverse]
    rw [if_pos hi, List.getD_eq_getElem?_getD, List.getElem?_reverse (by omega), show (v :: r).length - 1 - ((v :: r).length - 1 - i) = i by omega, List.getElem?_eq_getElem hi]
    rfl

theorem aindex_sound {t : TypeId} {x ix : AV} {u v : Value} {c : Cnd} {r : AV} (hb : aindex P t x ix = some (c, r)) (hC : c.ok) (hx : RelV m Mut w x u) (hi : RelV m Mut w ix v) :
    ∃ z, (Instr.index t u v).run P w = .ok z w ∧ RelV m Mut w r z := by
  unfold aindex at hb
  split at hb
  · rename_i k i
    rw [hi.inv_int]
    split at hb
    · rename_i s hs
      cases hb
      obtain ⟨h0, h1⟩ := hC
      rw [hx.inv_str, run_index_string w t s k i (seqOf_string (t := t) (by assumption)), dif_pos ⟨h0, h1⟩]
      refine ⟨_, rfl, ?_⟩
      have : sbyte s i.toNat = ((s[i.toNat]'(by omega)).toNat : Int) := by
        unfold sbyte
        have hlt : i.toNat < s.data.size := by have : s.size = s.data.size := rfl; omega
        rw [show s.data.getD i.toNat 0 = s.data[i.toNat] by simp only [Array.getD, hlt, dif_pos]; rfl]
        rfl
      rw [this]
      exact .int _ _
    · rename_i n e cs hs
      split at hb
      · rename_i hue
        split at hb
        · simp only [Option.map_eq_some_iff, Prod.mk.injEq] at hb
          obtain ⟨y, hy, rfl, rfl⟩ := hb
          obtain ⟨h0, h1⟩ := hC
          obtain ⟨us, rfl, hxl⟩ := hx.inv_agg
          obtain ⟨z, hz, hr⟩ := part_sound hxl hy hue
          refine ⟨z, ?_, hr⟩
          simp [Instr.index, asIntOf, run_underlying_some (seqOf_array (t := t) (by assumption)), h0, h1, run_sizeOf_has (takeT_has hy), hz]
        · rename_i hna
          split at hb
          · rename_i hq
            obtain ⟨hh, hsz, rfl⟩ := hq
            cases hb
            obtain ⟨h0, h1⟩ := hC
            obtain ⟨us, rfl, hxl⟩ := hx.inv_agg
            have hget := (Col.ofList_get cs).2 i.toNat (by omega)
            obtain ⟨z, hz, hr⟩ := hxl.get hget
            refine ⟨z, ?_, hr⟩
            have hpart : (part e us (i.toNat * szOf P e)).run P w = .ok z w := by
              simp only [part, Sem.run_bind, run_isAgg_has hue, Result.andThen_ok, hna, if_false, hsz, Nat.mul_one, Bool.false_eq_true, hz, Sem.run_pure]
            simp [Instr.index, asIntOf, run_underlying_some (seqOf_array (t := t) (by assumption)), h0, h1, run_sizeOf_has hh, hpart]
          · cases hb
      · cases hb
    · cases hb
  · cases hb

theorem alen_sound {t : TypeId} {x : AV} {u : Value} {ts : Array TypeId} {us : Array Value} {ty : TypeId} {r : AV} (H : RelH m Mut h w) (hb : alen P h t x = some r) (hts : ts[0]? = some t) (hus : us[0]? = some u) (hx : RelV m Mut w x u) :
    ∃ z, (Builtin.len_ ts ty us).run P w = .ok z w ∧ RelV m Mut w r z := by
  unfold alen at hb
  split at hb
  · rename_i s hs
    cases hb; rw [hx.inv_str] at hus
    exact ⟨_, by simp [Builtin.len_, hts, hus, run_underlying_some (seqOf_string (t := t) (by assumption))]; rfl, .int _ _⟩
  · rename_i e sz n f _
    cases hb
    have hu := seqOf_slice (t := t) (by assumption)
    cases hx with
    | sl _ _ _ b o cap val hn hc hbs hmu hsz hv hr => exact ⟨_, by simp [Builtin.len_, hts, hus, run_underlying_some hu]; rfl, .int _ _⟩
    | sl0 _ _ a cap => exact ⟨_, by simp [Builtin.len_, hts, hus, run_underlying_some hu]; rfl, .int _ _⟩
  · rename_i hs
    cases hb
    have hu := seqOf_slice (t := t) (by assumption)
    cases hx with
    | ms _ _ _ _ _ b o C hm hc => exact ⟨_, by simp [Builtin.len_, hts, hus, run_underlying_some hu]; rfl, .int _ _⟩
    | ms0 _ _ _ _ b o C a hm => exact ⟨_, by simp [Builtin.len_, hts, hus, run_underlying_some hu]; rfl, .int _ _⟩
  · rename_i hs
    cases hb
    have hu := seqOf_slice (t := t) (by assumption)
    cases hx with
    | snil a => exact ⟨_, by simp [Builtin.len_, hts, hus, run_underlying_some hu]; rfl, .int _ _⟩
  · rename_i n e x hs
    cases hb
    exact ⟨_, by simp [Builtin.len_, hts, hus, run_underlying_some (seqOf_array (t := t) (by assumption))]; rfl, .int _ _⟩
  · rename_i hs
    cases hb
    cases hx with
    | nilm => exact ⟨_, by simp [Builtin.len_, hts, hus, run_underlying_some (seqOf_map (t := t) (by assumption))]; rfl, .int _ _⟩
  · rename_i k e id hs
    split at hb
    · rename_i es cl hid
      cases hb
      obtain ⟨b, ents, h1, h2, h3, h4, h5⟩ := H.obj id _ hid
      cases hx with
      | mp _ b' o C hm =>
        rw [h1] at hm; cases hm
        refine ⟨_, ?_, .int _ _⟩
        rw [← h4]
        simp [Builtin.len_, hts, hus, run_underlying_some (seqOf_map (t := t) (by assumption)), getObj, Sem.run, h3]
        rfl
    · cases hb
  · cases hb


theorem list_toArray_get {fs : Array Field} {f : Nat} {fl : Field} (hf : fs.toList[f]? = some fl) : fs[f]? = some fl := by
  rw [← hf, Array.getElem?_toList]

theorem afield_sound {s : TypeId} {x : AV} {f : Nat} {u : Value} {r : AV} (hb : afield P s x f = some r) (hx : RelV m Mut w x u) : ∃ z, (Instr.field s u f).run P w = .ok z w ∧ RelV m Mut w r z := by
  unfold afield at hb
  split at hb
  · rename_i fs hs
    split at hb
    · rename_i fl hf
      split at hb
      · split at hb
        · rename_i hq
          obtain ⟨us, rfl, hxl⟩ := hx.inv_agg
          obtain ⟨z, hz, hr⟩ := part_sound hxl hb hq
          refine ⟨z, ?_, hr⟩
          simp [Instr.field, run_underlying_some (structOf_some hs), list_toArray_get hf, asAgg, hz]
        · cases hb
      · cases hb
    · cases hb
  · cases hb

theorem afieldAddr_sound {s : TypeId} {x : AV} {f : Nat} {u : Value} {r : AV} (hb : afieldAddr P s x f = some r) (hx : RelV m Mut w x u) : ∃ z, (Instr.fieldAt s u f).run P w = .ok z w ∧ RelV m Mut w r z := by
  unfold afieldAddr at hb
  split at hb
  · rename_i fs hs
    split at hb
    · rename_i fl hf
      split at hb
      · rename_i hh
        obtain ⟨b, o, rfl, hr⟩ := aplace_sound hx hb
        refine ⟨_, ?_, hr⟩
        simp [Instr.fieldAt, run_underlying_some (structOf_some hs), list_toArray_get hf, Instr.sureAddr, fieldPlace, run_sizeOf_has hh.1, hh.2, addr_add]
      · cases hb
    · cases hb
  · cases hb

theorem run_zeroValue {t : TypeId} {z : AV} (hz : zeroV P t = some z) : ∃ v, (zeroValue t).run P w = .ok v w ∧ z = ofV v ∧ ∃ i, P.info? t = some i ∧ i.zero = some v := by
  unfold zeroV at hz
  split at hz
  · rename_i i hi
    simp only [Option.map_eq_some_iff] at hz
    obtain ⟨v, hv, rfl⟩ := hz
    exact ⟨v, by simp [zeroValue, typeInfo, hi, hv], rfl, i, hi, hv⟩
  · cases hz

theorem splice_length : ∀ (cs : List AV) (i : Nat) (vs : List AV), (splice cs i vs).length = cs.length := by
  intro cs
  induction cs with
  | nil => intro i vs; cases vs <;> simp [splice]
  | cons c cs ih => intro i vs; cases vs with
    | nil => simp [splice]
    | cons v vs => cases i <;> simp [splice, ih]

theorem splice_get : ∀ (cs : List AV) (i : Nat) (vs : List AV) (j : Nat), (splice cs i vs)[j]? = if i ≤ j ∧ j < i + vs.length ∧ j < cs.length then vs[j - i]? else cs[j]? := by
  intro cs
  induction cs with
  | nil => intro i vs j; cases vs <;> simp [splice]
  | cons c cs ih =>
    intro i vs j
    cases vs with
    | nil => simp [splice]; omega
    | cons v vs =>
      cases i with
      | zero =>
        cases j with
        | zero => simp [splice]
        | succ j => simp [splice, ih]
      | succ i =>
        cases j with
        | zero => simp [splice]
        | succ j => simp [splice, ih]; congr 1; simp; omega

theorem foldl_set_get (vs : List Value) : ∀ (cs : Array Value) (off k : Nat) (j : Nat),
    ((vs.zipIdx k).foldl (fun cs (x : Value × Nat) => cs.setIfInBounds (off + x.2) x.1) cs)[j]? = if off + k ≤ j ∧ j < off + k + vs.length ∧ j < cs.size then vs[j - (off + k)]? else cs[j]? := by
  induction vs with
  | nil => intro cs off k j; simp; omega
  | cons v vs ih =>
    intro cs off k j
    simp only [List.zipIdx_cons, List.foldl_cons]
    rw [ih]
    simp only [Array.size_setIfInBounds, List.length_cons]
    by_cases h : off + k = j
    · subst h
      rw [if_neg (by omega)]
      by_cases hs : off + k < cs.size
      · rw [if_pos (by omega)]; simp [Array.getElem?_setIfInBounds, hs]
      · rw [if_neg (by omega)]; simp [Array.getElem?_setIfInBounds, hs]
    · by_cases h2 : off + (k + 1) ≤ j ∧ j < off + (k + 1) + vs.length ∧ j < cs.size
      · rw [if_pos h2, if_pos (by omega), show j - (off + k) = (j - (off + (k + 1))) + 1 by omega, List.getElem?_cons_succ]
      · rw [if_neg h2, if_neg (by omega), Array.getElem?_setIfInBounds, if_neg h]

theorem foldl_set_size (vs : List Value) : ∀ (cs : Array Value) (off k : Nat), ((vs.zipIdx k).foldl (fun cs (x : Value × Nat) => cs.setIfInBounds (off + x.2) x.1) cs).size = cs.size := by
  induction vs with
  | nil => intro cs off k; simp
  | cons v vs ih => intro cs off k; simp only [List.zipIdx_cons, List.foldl_cons]; rw [ih]; simp

theorem relL_splice {cs vs : List AV} {us xs : Array Value} {off : Nat} (hc : RelL m Mut w cs us) (hv : RelL m Mut w vs xs) :
    RelL m Mut w (splice cs off vs) (xs.zipIdx.foldl (fun cs (x : Value × Nat) => cs.setIfInBounds (off + x.2) x.1) us) := by
  have e : xs.zipIdx.foldl (fun cs (x : Value × Nat) => cs.setIfInBounds (off + x.2) x.1) us = (xs.toList.zipIdx 0).foldl (fun cs (x : Value × Nat) => cs.setIfInBounds (off + x.2) x.1) us := by
    rw [← Array.foldl_toList, Array.toList_zipIdx]
  rw [e]
  refine ⟨by rw [splice_length, foldl_set_size, hc.1], fun i a v ha hv' => ?_⟩
  rw [splice_get] at ha
  rw [foldl_set_get] at hv'
  have hl : vs.length = xs.toList.length := by have := hv.1; simpa using this
  have hl2 := hc.1
  by_cases h : off ≤ i ∧ i < off + vs.length ∧ i < cs.length
  · rw [if_pos h] at ha
    rw [if_pos (by omega)] at hv'
    exact hv.2 _ _ _ ha (by rw [← Array.getElem?_toList]; exact hv')
  · rw [if_neg h] at ha
    rw [if_neg (by omega)] at hv'
    exact hc.2 _ _ _ ha hv'

theorem buildCells_sound {place : Nat → Option (Nat × Nat)} : ∀ (parts : List (Nat × AV)) (uparts : List (Nat × Value)) (cs : List AV) (us : Array Value) (rs : List AV),
    buildCells parts place cs = some rs → RelL m Mut w cs us →
    (parts.length = uparts.length ∧ ∀ (i : Nat) p u, parts[i]? = some p → uparts[i]? = some u → p.1 = u.1 ∧ RelV m Mut w p.2 u.2 ∧ p.2 ≠ .any) →
    ∃ vs, Instr.fill place us uparts = some vs ∧ RelL m Mut w rs vs := by
  intro parts
  induction parts with
  | nil =>
    intro uparts cs us rs hb hr hp
    cases uparts with
    | nil => cases hb; exact ⟨us, rfl, hr⟩
    | cons u uparts => simp at hp
  | cons p parts ih =>
    intro uparts cs us rs hb hr hp
    cases uparts with
    | nil => simp at hp
    | cons u uparts =>
      obtain ⟨i, a⟩ := p
      obtain ⟨i', x⟩ := u
      obtain ⟨e1, e2, e3⟩ := hp.2 0 (i, a) (i', x) rfl rfl
      simp only at e1 e2 e3
      subst e1
      unfold buildCells at hb
      unfold Instr.fill
      cases hpl : place i with
      | none => rw [hpl] at hb; cases hb
      | some q =>
        obtain ⟨off, size⟩ := q
        rw [hpl] at hb
        simp only at hb ⊢
        split at hb
        · rename_i hh
          have hcells := relV_cells e2 e3
          have hl1 := hcells.1
          have hl2 := hr.1
          rw [if_neg (by simp; omega)]
          exact ih uparts _ _ rs hb (relL_splice hr hcells) ⟨by have := hp.1; simpa using this, fun j p u hj hu => hp.2 (j + 1) p u (by simpa using hj) (by simpa using hu)⟩
        · cases hb


theorem isAny_ne {a : AV} (h : a.isAny = false) : a ≠ .any := by rintro rfl; cases h

/-- The parts of a literal, abstract and concrete. -/
def RelP (m : IdMap) (Mut : Mu) (w : World) (ps : List (Nat × AV)) (us : List (Nat × Value)) : Prop :=
  ps.length = us.length ∧ ∀ (i : Nat) p u, ps[i]? = some p → us[i]? = some u → p.1 = u.1 ∧ RelV m Mut w p.2 u.2

theorem RelP.strict {ps : List (Nat × AV)} {us : List (Nat × Value)} (h : RelP m Mut w ps us) (ha : (ps.all fun p => !p.2.isAny) = true) :
    ps.length = us.length ∧ ∀ (i : Nat) p u, ps[i]? = some p → us[i]? = some u → p.1 = u.1 ∧ RelV m Mut w p.2 u.2 ∧ p.2 ≠ .any :=
  ⟨h.1, fun i p u hp hu => ⟨(h.2 i p u hp hu).1, (h.2 i p u hp hu).2, isAny_ne (by
    have := List.all_eq_true.1 ha p (List.mem_of_getElem? hp)
    simpa using this)⟩⟩

theorem run_mapM_places {fs : Array Field} (hh : ∀ f ∈ fs.toList, hasT P f.type = true) :
    (fs.mapM fun f => do pure (f.offset, ← sizeOf f.type) : Sem (Array (Nat × Nat))).run P w = .ok (fs.map fun f => (f.offset, szOf P f.type)) w := by
  rw [Array.mapM_eq_mapM_toList]
  have key : ∀ l : List Field, (∀ f ∈ l, hasT P f.type = true) → (l.mapM fun f => do pure (f.offset, ← sizeOf f.type) : Sem (List (Nat × Nat))).run P w = .ok (l.map fun f => (f.offset, szOf P f.type)) w := by
    intro l
    induction l with
    | nil => intro _; rfl
    | cons f l ih =>
      intro hl
      simp only [List.mapM_cons, Sem.run_bind, run_sizeOf_has (hl f (List.mem_cons_self ..)), Result.andThen_ok, Sem.run_pure, ih fun g hg => hl g (List.mem_cons_of_mem _ hg), List.map_cons]
  simp only [Sem.run_map, key _ hh, Result.andThen_ok]
  congr 1
  apply Array.ext'
  simp

theorem abuild_sound {t : TypeId} {ps : List (Nat × AV)} {us : Array (Nat × Value)} {r : AV} (hb : abuild P t ps = some r) (hp : RelP m Mut w ps us.toList) :
    ∃ z, (Instr.build t us).run P w = .ok z w ∧ RelV m Mut w r z := by
  unfold abuild at hb
  split at hb
  · rename_i fs hs
    split at hb
    · rename_i hh
      split at hb
      · rename_i z hz
        split at hb
        · cases hb
        · rename_i hna
          simp only [Option.map_eq_some_iff] at hb
          obtain ⟨rs, hrs, rfl⟩ := hb
          obtain ⟨v, hv, rfl, _⟩ := run_zeroValue (w := w) hz
          have hzr := relV_cells (ofV_rel (m := m) (Mut := Mut) (w := w) v) (isAny_ne (by simpa using hna))
          obtain ⟨vs, hfill, hrel⟩ := buildCells_sound _ _ _ _ _ hrs hzr (hp.strict hh.2)
          refine ⟨.agg vs, ?_, .agg _ _ hrel.1 hrel.2⟩
          simp only [Instr.build, Sem.run_bind, hv, Result.andThen_ok, run_underlying_some (structOf_some hs), run_mapM_places (fun f hf => List.all_eq_true.1 hh.1 f hf)]
          have hpl : (fun i : Nat => (fs.toList[i]?).map fun (f : Field) => (f.offset, szOf P f.type)) = fun i : Nat => (fs.map fun (f : Field) => (f.offset, szOf P f.type))[i]? := by
            funext i
            rw [Array.getElem?_map, Array.getElem?_toList]
          rw [hpl] at hfill
          simp only [hfill, Sem.run_pure]
      · cases hb
    · cases hb
  · split at hb
    · rename_i n e hs
      split at hb
      · rename_i hh
        split at hb
        · rename_i z hz
          split at hb
          · cases hb
          · rename_i hna
            simp only [Option.map_eq_some_iff] at hb
            obtain ⟨rs, hrs, rfl⟩ := hb
            obtain ⟨v, hv, rfl, _⟩ := run_zeroValue (w := w) hz
            have hzr := relV_cells (ofV_rel (m := m) (Mut := Mut) (w := w) v) (isAny_ne (by simpa using hna))
            obtain ⟨vs, hfill, hrel⟩ := buildCells_sound _ _ _ _ _ hrs hzr (hp.strict hh.2)
            refine ⟨.agg vs, ?_, .agg _ _ hrel.1 hrel.2⟩
            simp only [Instr.build, Sem.run_bind, hv, Result.andThen_ok, run_underlying_some (seqOf_array (t := t) (by assumption)), run_sizeOf_has hh.1, hfill, Sem.run_pure]
        · cases hb
      · cases hb
    · cases hb

theorem fill_inOrder {size : Nat} : ∀ (ps : List (Nat × AV)) (us : List (Nat × Value)) (vs : List AV) (k : Nat) (cs : Array Value),
    inOrder ps k = some vs → RelP m Mut w ps us → (vs.all fun v => v.cells.length == size && !v.isAny) = true → (k + vs.length) * size ≤ cs.size →
    ∃ cs', Instr.fill (fun i => some (i * size, size)) cs us = some cs' ∧ cs'.size = cs.size ∧ (∀ j, j < k * size → cs'[j]? = cs[j]?) ∧
      ∀ (i j : Nat) (v a : AV), vs[i]? = some v → v.cells[j]? = some a → ∃ x, cs'[(k + i) * size + j]? = some x ∧ RelV m Mut w a x := by
  intro ps
  induction ps with
  | nil =>
    intro us vs k cs hi hr hall hs
    cases us with
    | nil => cases hi; exact ⟨cs, rfl, rfl, fun _ _ => rfl, fun i j v a hv => by simp at hv⟩
    | cons u us => have := hr.1; simp at this
  | cons p ps ih =>
    intro us vs k cs hi hr hall hs
    cases us with
    | nil => have := hr.1; simp at this
    | cons u us =>
      obtain ⟨i0, a0⟩ := p
      obtain ⟨i1, x0⟩ := u
      obtain ⟨e1, e2⟩ := hr.2 0 (i0, a0) (i1, x0) rfl rfl
      simp only at e1 e2
      subst e1
      unfold inOrder at hi
      split at hi
      · rename_i hk
        subst hk
        simp only [Option.map_eq_some_iff] at hi
        obtain ⟨vs', hvs, rfl⟩ := hi
        simp only [List.all_cons, Bool.and_eq_true, beq_iff_eq, Bool.not_eq_true'] at hall
        obtain ⟨⟨hl, hna⟩, hall⟩ := hall
        have hcells := relV_cells e2 (isAny_ne hna)
        simp only [List.length_cons] at hs
        have hs' : (i0 + 1 + vs'.length) * size ≤ cs.size := by rw [show i0 + 1 + vs'.length = i0 + (vs'.length + 1) by omega]; exact hs
        have hsz : i0 * size + size ≤ cs.size := by
          have : (i0 + 1) * size ≤ (i0 + 1 + vs'.length) * size := Nat.mul_le_mul_right _ (by omega)
          rw [Nat.succ_mul] at this
          omega
        unfold Instr.fill
        have hl1 := hcells.1
        simp only
        rw [if_neg (by simp; omega)]
        have e : x0.cells.zipIdx.foldl (fun cs (x : Value × Nat) => cs.setIfInBounds (i0 * size + x.2) x.1) cs = (x0.cells.toList.zipIdx 0).foldl (fun cs (x : Value × Nat) => cs.setIfInBounds (i0 * size + x.2) x.1) cs := by
          rw [← Array.foldl_toList, Array.toList_zipIdx]
        obtain ⟨cs', h1, h2, h3, h4⟩ := ih us vs' (i0 + 1) (x0.cells.zipIdx.foldl (fun cs (x : Value × Nat) => cs.setIfInBounds (i0 * size + x.2) x.1) cs) hvs
          ⟨by have := hr.1; simpa using this, fun j p u hj hu => hr.2 (j + 1) p u (by simpa using hj) (by simpa using hu)⟩ hall (by rw [e, foldl_set_size]; exact hs')
        rw [e, foldl_set_size] at h2
        refine ⟨cs', h1, h2, fun j hj => ?_, fun i j v a hv ha => ?_⟩
        · rw [h3 j (by rw [Nat.succ_mul]; omega), e, foldl_set_get, if_neg (by omega)]
        · cases i with
          | zero =>
            simp only [List.getElem?_cons_zero, Option.some.injEq] at hv
            subst hv
            have hj : j < a0.cells.length := by
              rcases Nat.lt_or_ge j a0.cells.length with q | q
              · exact q
              · rw [List.getElem?_eq_none q] at ha; cases ha
            obtain ⟨x, hx, hrx⟩ := hcells.get ha
            refine ⟨x, ?_, hrx⟩
            simp only [Nat.add_zero]
            rw [h3 _ (by rw [Nat.succ_mul]; omega), e, foldl_set_get, if_pos ⟨by omega, by simp; omega, by omega⟩, ← hx, ← Array.getElem?_toList]
            congr 1
            omega
          | succ i =>
            obtain ⟨x, hx, hrx⟩ := h4 i j v a (by simpa using hv) ha
            refine ⟨x, ?_, hrx⟩
            rw [← hx]
            congr 2
            rw [show i0 + 1 + i = i0 + (i + 1) by omega]
      · cases hi

end
end Go.Proofs.Ytjdakdjgkpfjkaa
