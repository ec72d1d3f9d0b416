/- One operation, any: run over abstract values, proved against the model. Conditions: none. -/
import Derived.Test.YtjdakdjgkpfjkaaA10
namespace Go.Proofs.Ytjdakdjgkpfjkaa
set_option linter.unusedVariables false
set_option linter.unusedSimpArgs false

section
variable {m : IdMap} {Mut : Mu} {w : World} {P : Program} {h : AHeap}

theorem drop_zero_col (c : Col) : c.drop 0 = c := by
  cases c with
  | ints k xs => simp [Col.drop]
  | bools xs => simp [Col.drop]
  | strs xs => simp [Col.drop]
  | recs xs => simp [Col.drop]
  | gen n f => simp [Col.drop]

theorem append_none_sound {t : TypeId} {s ux us : Value} {n sz : Nat} {f : Nat → AV} {news : List Value} {ty : TypeId} {e : TypeId} (hs : seqOf P t = .slice e) (hh : hasT P e = true) (S : Src m Mut w ux sz n f news) (hn : n = 0)
    {a : Option Addr} {l c : Nat} (hus : us = .slice a l c) (hlc : l ≤ c) : (Builtin.append_ #[t, t] ty #[us, ux]).run P w = .ok us w := by
  subst hn; subst hus
  obtain ⟨ax, capx, rfl, _⟩ := S.val
  have hu := seqOf_slice hs
  unfold hasT at hh
  obtain ⟨i, hi⟩ := Option.isSome_iff_exists.1 hh
  have hf : (Builtin.firstCells i.size 0 (.slice ax 0 capx)).run P w = .ok #[] w := by
    cases ax <;> simp [Builtin.firstCells, loadCells, loadCellsFrom]
  cases a <;> simp [Builtin.append_, run_underlying_some hu, sizeOf, typeInfo, hi, Builtin.lenOf, hlc, hf, storeCells]

theorem append_zero_sound {t e : TypeId} {us ux : Value} {id k len n sz s : Nat} {f : Nat → AV} {news : List Value} {cl c' : Col} {ty : TypeId} (H : RelH m Mut h w) (hs : seqOf P t = .slice e) (hh : hasT P e = true)
    (hid : h[id]? = some (.row s k cl)) (hus : RelV m Mut w (.ms id k s 0 len) us) (S : Src m Mut w ux sz n f news) (hn : n = 0) (hj : Joined cl c' n f) :
    ∃ y m' Mut' w', (Builtin.append_ #[t, t] ty #[us, ux]).run P w = .ok y w' ∧ Ext m Mut w m' Mut' w' ∧ RelH m' Mut' (h.set id (.row s (k + n) c')) w' ∧ RelV m' Mut' w' (.ms id (k + n) s 0 (len + n)) y := by
  subst hn
  have hH := H.recol (c' := c') hid (by rw [hj.len]; rfl) hj.old
  cases hus with
  | ms _ _ _ _ _ b o C hm hc => exact ⟨_, m, Mut, w, append_none_sound (s := ux) hs hh S rfl rfl (by omega), .refl _ _ _, hH, .ms _ _ _ _ _ b o C hm hc⟩
  | ms0 _ _ _ _ b o C a hm => exact ⟨_, m, Mut, w, append_none_sound (s := ux) hs hh S rfl rfl (Nat.le_refl _), .refl _ _ _, hH, .ms0 _ _ _ _ b o C a hm⟩

theorem aapp_sound {t : TypeId} {s x v : AV} {us ux : Value} {mode : AppMode} {shift : Bool} {c : Cnd} {h' : AHeap} {ty : TypeId} (H : RelH m Mut h w) (hb : aapp P h t s x mode shift = some (c, v, h')) (hC : c.ok)
    (hs : RelV m Mut w s us) (hx : RelV m Mut w x ux) :
    ∃ y m' Mut' w', (Builtin.append_ #[t, t] ty #[us, ux]).run P w = .ok y w' ∧ Ext m Mut w m' Mut' w' ∧ RelH m' Mut' h' w' ∧ RelV m' Mut' w' v y := by
  unfold aapp at hb
  split at hb
  · rename_i e _
    split at hb
    · rename_i hzs
      have hzs' := hzs
      unfold zeroSized at hzs'
      split at hzs'
      · rename_i z hz
        have hh : hasT P e = true := by
          obtain ⟨_, _, _, i, hi, _⟩ := run_zeroValue (w := w) hz
          unfold hasT; rw [hi]; rfl
        split at hb
        · rename_i cx sz n f hsrc
          split at hb
          · cases hb
            obtain ⟨c1, c2⟩ := Cnd.and_ok hC
            obtain ⟨news, S⟩ := asrc_sound H hsrc c1 hx
            cases hs with
            | snil a => exact ⟨_, m, Mut, w, append_none_sound (s := ux) (by assumption) hh S c2 rfl (Nat.le_refl _), .refl _ _ _, H, .snil _⟩
          · cases hb
            obtain ⟨c1, c2⟩ := Cnd.and_ok hC
            obtain ⟨news, S⟩ := asrc_sound H hsrc c1 hx
            cases hs with
            | ms _ _ _ _ _ b o C hm hc => exact ⟨_, m, Mut, w, append_none_sound (s := ux) (by assumption) hh S c2 rfl (by omega), .refl _ _ _, H, .ms _ _ _ _ _ b o C hm hc⟩
            | ms0 _ _ _ _ b o C a hm => exact ⟨_, m, Mut, w, append_none_sound (s := ux) (by assumption) hh S c2 rfl (Nat.le_refl _), .refl _ _ _, H, .ms0 _ _ _ _ b o C a hm⟩
          · rename_i hmode
            cases hb
            obtain ⟨c1, rfl, c3, c4⟩ := Cnd.and_ok hC
            obtain ⟨news, S⟩ := asrc_sound H hsrc c1 hx
            obtain ⟨e1, _⟩ := AppMode.needs_num c3
            rw [e1]
            obtain ⟨f1, f2⟩ := Col.first_sound c3
            cases hs with
            | snil a =>
              rcases Nat.eq_zero_or_pos n with hn | hn
              · subst hn
                obtain ⟨H', E'⟩ := H.virt (szOf P e) (Col.first mode 0 f) f1
                exact ⟨_, _, _, w, append_none_sound (s := ux) (by assumption) hh S rfl rfl (Nat.le_refl _), E', H', .ms0 _ _ _ _ _ _ _ _ (IdMap.put_same _ _ _ _)⟩
              exact append_new_sound H (by assumption) hz hzs rfl rfl S hn c4 (Col.first_sound c3)
          · split at hb
            · rename_i s'' k cl hid
              split at hb
              · rename_i hq
                obtain ⟨rfl, rfl⟩ := hq
                split at hb
                · cases hb
                  obtain ⟨c1, rfl, c3, c4, rfl, rfl, c7⟩ := Cnd.and_ok hC
                  obtain ⟨news, S⟩ := asrc_sound H hsrc c1 hx
                  obtain ⟨e1, e2⟩ := AppMode.needs_num c3
                  rw [(Col.join_sound c3).len, e1, ← c7]
                  rcases Nat.eq_zero_or_pos n with hn | hn
                  · exact append_zero_sound H (by assumption) hh hid hs S hn (Col.join_sound c3)
                  exact append_row_sound H (by assumption) hz hzs rfl hid hs S hn e2 c4 (by omega) (by rw [drop_zero_col]; exact Col.join_sound c3)
                · cases hb
                  obtain ⟨c1, rfl, c3, c4, rfl, c7, hn⟩ := Cnd.and_ok hC
                  obtain ⟨news, S⟩ := asrc_sound H hsrc c1 hx
                  obtain ⟨e1, e2⟩ := AppMode.needs_num c3
                  rw [e1]
                  exact append_row_sound H (by assumption) hz hzs rfl hid hs S hn e2 c4 c7 (Col.join_sound c3)
              · cases hb
            · cases hb
          · cases hb
        · cases hb
      · cases hzs'
    · cases hb
  · cases hb

end
end Go.Proofs.Ytjdakdjgkpfjkaa
