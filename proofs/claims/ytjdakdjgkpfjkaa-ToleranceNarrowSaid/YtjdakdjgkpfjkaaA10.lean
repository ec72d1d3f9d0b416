/- append to an abstract row. Conditions: none. -/
import Derived.Test.YtjdakdjgkpfjkaaA9
namespace Go.Proofs.Ytjdakdjgkpfjkaa
set_option linter.unusedVariables false
set_option linter.unusedSimpArgs false

section
variable {m : IdMap} {Mut : Mu} {w : World} {P : Program} {h : AHeap}

/-- append within the room that there is. -/
theorem run_append_inplace {t ty e e' : TypeId} {i : TypeInfo} (ht : P.underlying t = some (.slice e)) (hi : P.info? e = some i)
    {g o sLen sCap : Nat} {cur : Array Value} (hg : w.heap[g]? = some (.cells cur e' (0, 0))) {b : Addr} {n c : Nat} {news : List Value} (hl : news.length = n * i.size)
    (hnews : ∀ (j : Nat) u, news[j]? = some u → w.cell? (b.add j) = some u) (h1 : ∀ u ∈ news, u.oneCell' = true) (hroom : sLen + n ≤ sCap) (hfit : o + sLen * i.size + news.length ≤ cur.size) :
    ∃ c' w', (Builtin.append_ #[t, t] ty #[.slice (some ⟨g, o, none⟩) sLen sCap, .slice (some b) n c]).run P w = .ok (.slice (some ⟨g, o, none⟩) (sLen + n) sCap) w' ∧
      w'.heap[g]? = some (.cells c' e' (0, 0)) ∧ c'.size = cur.size ∧
      (∀ j, c'[j]? = if o + sLen * i.size ≤ j ∧ j < o + sLen * i.size + news.length then news[j - (o + sLen * i.size)]? else cur[j]?) ∧
      w'.os = w.os ∧ w'.tape = w.tape ∧ w'.output = w.output ∧ w'.heap.size = w.heap.size ∧ ∀ b', b' ≠ g → w'.heap[b']? = w.heap[b']? := by
  have hf := run_firstCells_some (P := P) w i.size n b n c news hl hnews
  obtain ⟨c', w', hrun, g1, g2, g3, g4, g5, g6, g7, g8⟩ := run_storeCells_block P g (o + sLen * i.size) e' news 0 cur w hg (by simpa using hfit) h1
  refine ⟨c', w', ?_, g1, g2, by simpa using g3, g4, g5, g6, g7, g8⟩
  simp [Builtin.append_, run_underlying ht, sizeOf, typeInfo, hi, Builtin.lenOf, hroom, hf, addr_add, hrun]

theorem append_row_sound {t e : TypeId} {z : AV} {us ux : Value} {id v off len n sz : Nat} {f : Nat → AV} {news : List Value} {c0 c' : Col} {ty : TypeId}
    (H : RelH m Mut h w) (hs : seqOf P t = .slice e) (hz : zeroV P e = some z) (hzs : zeroSized P e = true) (hsz : sz = szOf P e)
    (hid : h[id]? = some (.row sz v c0)) (hus : RelV m Mut w (.ms id v sz off len) us) (S : Src m Mut w ux sz n f news) (hn : 0 < n) (hall : ∀ i, i < n → (f i).cells.all AV.isCell = true)
    (hb : (len + n) * bytesT P e ≤ 140737488355328) (hlen : off + len = c0.len) (hj : Joined (c0.drop off) c' n f) :
    ∃ x m' Mut' w', (Builtin.append_ #[t, t] ty #[us, ux]).run P w = .ok x w' ∧ Ext m Mut w m' Mut' w' ∧ RelH m' Mut' (h.set id (.row sz (v + n) c')) w' ∧ RelV m' Mut' w' (.ms id (v + n) sz 0 (len + n)) x := by
  have hu := seqOf_slice hs
  obtain ⟨k1, k2, k3, k4⟩ := zeroSized_spec hz hzs
  obtain ⟨zc, hzr, rfl, i, hi, hzi⟩ := run_zeroValue (w := w) hz
  have hby : bytesT P e = i.bytes := by simp [bytesT, hi]
  have hisz : szOf P e = i.size := by simp [szOf, hi]
  have hzl := (relV_cells (ofV_rel (m := m) (Mut := Mut) (w := w) zc) (isAny_ne k1)).1
  obtain ⟨ax, capx, rfl, hax⟩ := S.val
  obtain ⟨bx, rfl, hcells⟩ := hax hn
  rw [hby] at hb k4
  have h63 : len + n ≤ 9223372036854775807 := by
    have : (len + n) * 1 ≤ (len + n) * i.bytes := Nat.mul_le_mul_left _ k4
    omega
  obtain ⟨d1, d2⟩ := Col.drop_sound c0 off
  have hlen' : (c0.drop off).len = len := by omega
  have hnl : news.length = n * i.size := by rw [S.len, hsz, hisz]
  have hsi : sz = i.size := by rw [hsz, hisz]
  rcases H.obj id _ hid with ⟨rfl, q2, y, q3⟩ | ⟨hv0, b, o, C, cc, tt, p1, p2, p3, p4, p5, p6, p7⟩
  · -- a row without a block
    obtain rfl : len = 0 := by omega
    obtain rfl : off = 0 := by omega
    rw [Nat.zero_add] at hb
    have hnl : news.length = n * i.size := by rw [S.len, hsz, hisz]
    have hnew : ∀ q, q < n → c'.get q = f q := fun q hq => by have := hj.new q hq; rwa [show (c0.drop 0).len + q = q by rw [d1]; omega] at this
    have hcl : c'.len = n := by rw [hj.len, d1]; omega
    have fin : ∀ (CC : Nat) (rest : Array Value), n ≤ CC → rest.size = (CC - n) * i.size →
        ∃ m' Mut', Ext m Mut w m' Mut' (w.drew.alloc (.cells (([] : List Value).toArray ++ news.toArray ++ rest) e)) ∧ RelH m' Mut' (h.set id (.row sz (0 + n) c')) (w.drew.alloc (.cells (([] : List Value).toArray ++ news.toArray ++ rest) e)) ∧ RelV m' Mut' (w.drew.alloc (.cells (([] : List Value).toArray ++ news.toArray ++ rest) e)) (.ms id (0 + n) sz 0 (0 + n)) (.slice (some ⟨w.heap.size, 0, none⟩) n CC) := by
      intro CC rest hC hrest
      have M := H.fill (w0 := w.drew) (C := (0, CC)) (o' := .row sz (0 + n) c') (.cells (([] : List Value).toArray ++ news.toArray ++ rest) e) hid rfl (decide_eq_true (by omega)) (by simp [AObj.ver]; omega) ⟨rfl, rfl, rfl, rfl⟩
        (fun E => .inr ⟨by omega, w.heap.size, 0, CC, _, e, IdMap.put_same _ _ _ _, .inr rfl, heap_alloc_self w.drew _, by
          simp only [Array.size_append, List.size_toArray, List.length_nil, hnl, hrest, hsz, hisz]
          rw [Nat.zero_add, Nat.zero_add, ← Nat.add_mul]; congr 1; omega, by omega, fun q hq => by rw [hnew q (by omega)]; exact S.size q (by omega), fun q j a hq ha => by
            rw [hnew q (by omega)] at ha
            obtain ⟨x, hx, hr⟩ := S.rel q j a (by omega) ha
            have hj2 : j < sz := by
              rcases Nat.lt_or_ge j sz with y | y
              · exact y
              · rw [List.getElem?_eq_none (by rw [S.size q (by omega)]; exact y)] at ha; cases ha
            refine ⟨x, ?_, E.relV hr⟩
            have g := (grown_row (olds := []) (rest := rest) (len := 0) (sz := sz) (by simp) S.len q j hj2).2 (by omega)
            rw [Nat.zero_add q] at g
            rw [g, hx]⟩)
      refine ⟨_, _, M.2, M.1, ?_⟩
      have := RelV.ms (m := m.put id (0 + n) (w.heap.size, 0, CC)) (Mut := Mut.add w.heap.size) (w := w.drew.alloc (.cells (([] : List Value).toArray ++ news.toArray ++ rest) e)) id (0 + n) sz 0 (0 + n) w.heap.size 0 CC (IdMap.put_same _ _ _ _) (by omega)
      simp only [Nat.zero_mul, Nat.add_zero, Nat.sub_zero, Nat.zero_add] at this ⊢
      exact this
    have key : ∀ a, us = .slice a 0 0 → ∃ x m' Mut' w', (Builtin.append_ #[t, t] ty #[us, .slice (some bx) n capx]).run P w = .ok x w' ∧ Ext m Mut w m' Mut' w' ∧ RelH m' Mut' (h.set id (.row sz (0 + n) c')) w' ∧ RelV m' Mut' w' (.ms id (0 + n) sz 0 (0 + n)) x := by
      intro a ha
      subst ha
      cases a with
      | none =>
        have hrun := run_append_nil (P := P) w t ty e i zc hu hi hzi bx n capx news hnl (by simpa using hcells) hn (by omega) (by omega)
        obtain ⟨m', Mut', g1, g2, g3⟩ := fin (grownCap w n 0 e) (Builtin.zeroCells zc.cells (grownCap w n 0 e - n)) (grownCap_ge w n 0 e) (by rw [zeroCells_size, ← hzl, k2, hisz])
        exact ⟨_, m', Mut', _, by rw [hrun]; simp, g1, g2, g3⟩
      | some b =>
        have hrun := run_append_grow (P := P) w t ty e i zc hu hi hzi b 0 0 [] (by simp) (by simp) bx n capx news hnl (by simpa using hcells) (by omega) (by simp; omega) (by rw [Nat.zero_add, nextslicecap_zero hn]; omega)
        simp only [Nat.zero_add] at hrun
        obtain ⟨m', Mut', g1, g2, g3⟩ := fin (grownCap w n 0 e) (Builtin.zeroCells zc.cells (grownCap w n 0 e - n)) (grownCap_ge w n 0 e) (by rw [zeroCells_size, ← hzl, k2, hisz])
        exact ⟨_, m', Mut', _, hrun, g1, g2, g3⟩
    cases hus with
    | ms _ _ _ _ _ b' o' C' hm hc =>
      rw [q3] at hm; cases hm
      exact key _ rfl
    | ms0 _ _ _ _ b' o' C' a hm => exact key _ rfl
  have htop : m id (v + n) = none := by
    cases hq : m id (v + n) with
    | none => rfl
    | some x => have := H.top id _ (v + n) x hid rfl hq; simp only [AObj.ver] at this; omega
  -- the old elements, as they lie
  have hold : ∀ (i' j : Nat) (a : AV), i' < len → ((c0.drop off).get i').cells[j]? = some a → ∃ x, cc[o + (off + i') * sz + j]? = some x ∧ RelV m Mut w a x := fun i' j a hi' ha => by
    rw [d2] at ha
    exact p7 (off + i') j a (by omega) ha
  have hjlt : ∀ (i' j : Nat) (a : AV), i' < len → ((c0.drop off).get i').cells[j]? = some a → j < sz := fun i' j a hi' ha => by
    rcases Nat.lt_or_ge j sz with y | y
    · exact y
    · rw [List.getElem?_eq_none (by rw [d2, p6 _ (by omega)]; exact y)] at ha; cases ha
  have hjlt2 : ∀ (i' j : Nat) (a : AV), i' < n → (f i').cells[j]? = some a → j < sz := fun i' j a hi' ha => by
    rcases Nat.lt_or_ge j sz with y | y
    · exact y
    · rw [List.getElem?_eq_none (by rw [S.size _ (by omega)]; exact y)] at ha; cases ha
  have hsizes : ∀ q, q < c'.len → (c'.get q).cells.length = sz := fun q hq => by
    rw [hj.len, hlen'] at hq
    rcases Nat.lt_or_ge q len with y | y
    · rw [hj.old q (by omega), d2]; exact p6 _ (by omega)
    · have := hj.new (q - len) (by omega)
      rw [hlen', show len + (q - len) = q by omega] at this
      rw [this]; exact S.size _ (by omega)
  -- the grown row
  have growC : ∀ (CC : Nat) (rest : Array Value) (olds : List Value), (Builtin.append_ #[t, t] ty #[us, .slice (some bx) n capx]).run P w = .ok (.slice (some ⟨w.heap.size, 0, none⟩) (len + n) CC) (w.drew.alloc (.cells (olds.toArray ++ news.toArray ++ rest) e)) →
      len + n ≤ CC → rest.size = (CC - (len + n)) * sz → olds.length = len * sz →
      (∀ (i' j : Nat) (a : AV), i' < len → ((c0.drop off).get i').cells[j]? = some a → ∃ x, olds[i' * sz + j]? = some x ∧ RelV m Mut w a x) →
      ∃ x m' Mut' w', (Builtin.append_ #[t, t] ty #[us, .slice (some bx) n capx]).run P w = .ok x w' ∧ Ext m Mut w m' Mut' w' ∧ RelH m' Mut' (h.set id (.row sz (v + n) c')) w' ∧ RelV m' Mut' w' (.ms id (v + n) sz 0 (len + n)) x := by
    intro CC rest olds hrun hC hrest hol hrel
    have M := H.move (w' := w.drew.alloc (.cells (olds.toArray ++ news.toArray ++ rest) e)) (b' := w.heap.size) (C' := (0, CC)) (o' := .row sz (v + n) c') hid (decide_eq_true hv0) (decide_eq_true (by omega)) (by simp [AObj.ver]) p1 (.inl htop) (.inr rfl) rfl rfl rfl (by simp) (by simp)
      (fun k _ hk => Go.RowKit.Below.heap_alloc w.drew _ k hk)
      (fun E => .inr ⟨by omega, w.heap.size, 0, CC, _, e, IdMap.put_same _ _ _ _, .inr rfl, heap_alloc_self w.drew _, by
        simp only [Array.size_append, List.size_toArray, hol, S.len, hrest]
        rw [Nat.zero_add, ← Nat.add_mul, ← Nat.add_mul]; congr 1; omega, by rw [hj.len, hlen']; exact hC, hsizes, fun q j a hq ha => by
          rw [hj.len, hlen'] at hq
          rcases Nat.lt_or_ge q len with y | y
          · rw [hj.old q (by omega)] at ha
            obtain ⟨x, hx, hr⟩ := hrel q j a y ha
            exact ⟨x, by rw [(grown_row (rest := rest) hol S.len q j (hjlt q j a y ha)).1 y, hx], E.relV hr⟩
          · have e1 := hj.new (q - len) (by omega)
            rw [hlen', show len + (q - len) = q by omega] at e1
            rw [e1] at ha
            obtain ⟨x, hx, hr⟩ := S.rel (q - len) j a (by omega) ha
            refine ⟨x, ?_, E.relV hr⟩
            have g := (grown_row (rest := rest) hol S.len (q - len) j (hjlt2 (q - len) j a (by omega) ha)).2 (by omega)
            rw [show len + (q - len) = q by omega] at g
            rw [g, hx]⟩)
    refine ⟨_, _, _, _, hrun, M.2, M.1, ?_⟩
    have := RelV.ms (m := m.put id (v + n) (w.heap.size, 0, CC)) (Mut := Mut.add w.heap.size) (w := w.drew.alloc (.cells (olds.toArray ++ news.toArray ++ rest) e)) id (v + n) sz 0 (len + n) w.heap.size 0 CC (IdMap.put_same _ _ _ _) (by omega)
    simp only [Nat.zero_mul, Nat.add_zero, Nat.sub_zero] at this
    exact this
  have grow : ∀ (b0 : Addr) (cap : Nat) (olds : List Value), us = .slice (some b0) len cap → cap < len + n → olds.length = len * sz → (∀ (j : Nat) x, olds[j]? = some x → w.cell? (b0.add j) = some x) →
      (∀ (i' j : Nat) (a : AV), i' < len → ((c0.drop off).get i').cells[j]? = some a → ∃ x, olds[i' * sz + j]? = some x ∧ RelV m Mut w a x) →
      ∃ x m' Mut' w', (Builtin.append_ #[t, t] ty #[us, .slice (some bx) n capx]).run P w = .ok x w' ∧ Ext m Mut w m' Mut' w' ∧ RelH m' Mut' (h.set id (.row sz (v + n) c')) w' ∧ RelV m' Mut' w' (.ms id (v + n) sz 0 (len + n)) x := by
    intro b0 cap olds e0 hcap hol holds hrel
    subst e0
    exact growC _ _ olds (run_append_grow (P := P) w t ty e i zc hu hi hzi b0 len cap olds (by rw [hol, hsi]) holds bx n capx news hnl hcells hcap (by omega) (growslice_fits (by omega) hb))
      (grownCap_ge w (len + n) cap e) (by rw [zeroCells_size, ← hzl, k2, ← hsz]) hol hrel
  cases hus with
  | ms _ _ _ _ _ b' o' C' hm hc =>
    rw [p1] at hm; cases hm
    rcases Nat.lt_or_ge (C - off) (len + n) with hlt | hroom
    · -- grow
      obtain ⟨olds, So⟩ := src_of_cells (m := m) (Mut := Mut) (w := w) (u := .slice (some ⟨b, o + off * sz, none⟩) len (C - off)) (f := (c0.drop off).get) rfl (fun i' hi' => by rw [d2]; exact p6 _ (by omega)) (fun i' j hi' hj' => by
        obtain ⟨a, ha⟩ : ∃ a, ((c0.drop off).get i').cells[j]? = some a := ⟨_, List.getElem?_eq_getElem (by rw [d2, p6 _ (by omega)]; exact hj')⟩
        obtain ⟨x, hx, hr⟩ := hold i' j a hi' ha
        refine ⟨x, ?_, fun a' ha' => by rw [ha] at ha'; cases ha'; exact hr⟩
        rw [cell?_at p3, ← hx]; congr 1; rw [Nat.add_mul]; omega)
      obtain ⟨a0, cap0, e0, hc0⟩ := So.val
      cases e0
      by_cases hl0 : 0 < len
      · obtain ⟨b1, e1, hcell⟩ := hc0 hl0
        cases e1
        exact grow _ _ olds rfl hlt So.len hcell So.rel
      · obtain rfl : len = 0 := by omega
        have hol : olds = [] := List.eq_nil_of_length_eq_zero (by rw [So.len]; simp)
        subst hol
        exact grow _ _ [] rfl hlt (by simp) (fun j x hx => by simp at hx) So.rel
    · -- in place
      have hcs : cc.size = o + off * sz + (C - off) * sz := by
        rw [p4, Nat.add_assoc, ← Nat.add_mul]; congr 2; omega
      have hfit : o + off * sz + len * i.size + news.length ≤ cc.size := by
        rw [hnl, ← hsi, hcs, Nat.add_assoc, ← Nat.add_mul]
        exact Nat.add_le_add_left (Nat.mul_le_mul_right _ hroom) _
      obtain ⟨c2, w', hrun, g1, g2, g3, g4, g5, g6, g7, g8⟩ := run_append_inplace (P := P) (w := w) (ty := ty) hu hi p3 hnl hcells (news_one S hall) hroom hfit
      have M := H.move (w' := w') (b' := b) (C' := (o + off * sz, C - off)) (o' := .row sz (v + n) c') hid (decide_eq_true hv0) (decide_eq_true (by omega)) (by simp [AObj.ver]) p1 (.inl htop) (.inl rfl) g4 g5 g6 (by omega) (by have := H.wr b p2; omega) (fun k hk _ => g8 k hk)
        (fun E => .inr ⟨by omega, b, o + off * sz, C - off, c2, tt, IdMap.put_same _ _ _ _, .inl p2, g1, by rw [g2, hcs], by rw [hj.len, hlen']; exact hroom, hsizes, fun q j a hq ha => by
          rw [hj.len, hlen'] at hq
          have hqj : j < sz := by
            rcases Nat.lt_or_ge j sz with y | y
            · exact y
            · rw [List.getElem?_eq_none (by rw [hsizes q (by rw [hj.len, hlen']; exact hq)]; exact y)] at ha; cases ha
          rw [g3, ← hsi]
          rcases Nat.lt_or_ge q len with y | y
          · rw [hj.old q (by omega)] at ha
            obtain ⟨x, hx, hr⟩ := hold q j a y ha
            refine ⟨x, ?_, E.relV hr⟩
            have : (q + 1) * sz ≤ len * sz := Nat.mul_le_mul_right _ y
            rw [Nat.succ_mul] at this
            rw [if_neg (by omega), ← hx]
            congr 1
            rw [Nat.add_mul]; omega
          · have e1 := hj.new (q - len) (by omega)
            rw [hlen', show len + (q - len) = q by omega] at e1
            rw [e1] at ha
            obtain ⟨x, hx, hr⟩ := S.rel (q - len) j a (by omega) ha
            refine ⟨x, ?_, E.relV hr⟩
            have a1 : (q + 1) * sz ≤ (len + n) * sz := Nat.mul_le_mul_right _ hq
            rw [Nat.succ_mul, Nat.add_mul] at a1
            have a2 : len * sz ≤ q * sz := Nat.mul_le_mul_right _ y
            rw [if_pos ⟨by omega, by rw [S.len]; omega⟩, ← hx]
            congr 1
            rw [Nat.sub_mul]; omega⟩)
      refine ⟨_, _, _, _, hrun, M.2, M.1, ?_⟩
      have := RelV.ms (m := m.put id (v + n) (b, o + off * sz, C - off)) (Mut := Mut.add b) (w := w') id (v + n) sz 0 (len + n) b (o + off * sz) (C - off) (IdMap.put_same _ _ _ _) (by omega)
      simp only [Nat.zero_mul, Nat.add_zero, Nat.sub_zero] at this
      exact this
  | ms0 _ _ _ _ b' o' C' a hm =>
    cases a with
    | some a => exact grow _ 0 [] rfl (by omega) (by simp) (fun j x hx => by simp at hx) (fun i' j a hi' => absurd hi' (Nat.not_lt_zero _))
    | none =>
      rw [Nat.zero_add] at hb
      have hrun := run_append_nil (P := P) w t ty e i zc hu hi hzi bx n capx news hnl (by simpa using hcells) hn (by omega) (by omega)
      refine growC (grownCap w n 0 e) (Builtin.zeroCells zc.cells (grownCap w n 0 e - n)) [] (by rw [hrun]; simp) (by have := grownCap_ge w n 0 e; omega) (by rw [zeroCells_size, ← hzl, k2, ← hsz]; simp) (by simp) (fun i' j a hi' => absurd hi' (Nat.not_lt_zero _))

end
end Go.Proofs.Ytjdakdjgkpfjkaa
