/- The quiet operations, all together. Conditions: none. -/
import Derived.Test.YtjdakdjgkpfjkaaA5
namespace Go.Proofs.Ytjdakdjgkpfjkaa
set_option linter.unusedVariables false
set_option linter.unusedSimpArgs false

section
variable {m : IdMap} {Mut : Mu} {w : World} {P : Program} {h : AHeap}

theorem heap_alloc_self (w : World) (o : Obj) : (w.alloc o).heap[w.heap.size]? = some o := by
  show (w.heap.push o)[w.heap.size]? = _
  simp

theorem abuildSlice_sound {t : TypeId} {len : Nat} {ps : List (Nat × AV)} {us : Array (Nat × Value)} {r : AV} (H : RelH m Mut h w) (hb : abuildSlice P t len ps = some r) (hp : RelP m Mut w ps us.toList) :
    ∃ z w', (Instr.buildSlice t len us).run P w = .ok z w' ∧ Ext m Mut w m Mut w' ∧ RelH m Mut h w' ∧ RelV m Mut w' r z := by
  unfold abuildSlice at hb
  split at hb
  · rename_i e _
    have hu := seqOf_slice (t := t) (by assumption)
    split at hb
    · rename_i hh
      split at hb
      · rename_i hz
        obtain ⟨rfl, rfl⟩ := hz
        cases hb
        have hus : us = #[] := Array.eq_empty_of_size_eq_zero (by have := hp.1; simp at this; exact this.symm)
        subst hus
        refine ⟨.slice (some ⟨w.heap.size, 0, none⟩) 0 0, w.alloc (.cells #[] e), ?_, .alloc _ _ _ _, H.alloc _, .snil _⟩
        simp [Instr.buildSlice, run_underlying_some hu, run_sizeOf_has hh, Instr.fill, newRow]
        rw [show Array.range 0 = #[] by apply Array.ext'; simp]; simp
      · split at hb
        · rename_i vs hvs
          split at hb
          · rename_i hc
            obtain ⟨rfl, hpos, hsz, hbig, hall, hzs⟩ := hc
            cases hb
            obtain ⟨zv, hz⟩ := Option.isSome_iff_exists.1 hzs
            obtain ⟨zc, hzr, _, _⟩ := run_zeroValue (w := w) hz
            have hb2 : ¬ (vs.length * szOf P e > 2 ^ 24) := by omega
            have hne : vs.length * szOf P e ≠ 0 := Nat.ne_of_gt (Nat.mul_pos hpos hsz)
            obtain ⟨cs', hf, hsize, _, hcells⟩ := fill_inOrder (size := szOf P e) ps us.toList vs 0 ((Array.range (vs.length * szOf P e)).map (zc.cells[· % zc.cells.size]!)) hvs hp hall (by simp)
            have hsize' : cs'.size = vs.length * szOf P e := by simpa using hsize
            refine ⟨.slice (some ⟨w.heap.size, 0, none⟩) vs.length vs.length, w.alloc (.cells cs' e), ?_, .alloc _ _ _ _, H.alloc _, ?_⟩
            · simp only [Instr.buildSlice, Sem.run_bind, run_underlying_some hu, Result.andThen_ok, run_sizeOf_has hh, if_neg hb2, if_neg hne, hzr, Sem.run_pure, hf, newRow, run_newObj, World.alloc_eq]
            · obtain ⟨hlen, hget⟩ := Col.ofList_get vs
              have hcl : ∀ i, i < vs.length → ((Col.ofList vs).get i).cells.length = szOf P e := fun i hi => by
                have := List.all_eq_true.1 hall _ (List.mem_of_getElem? (hget i hi))
                simp only [Bool.and_eq_true, beq_iff_eq] at this
                exact this.1
              refine .sl _ _ _ w.heap.size 0 _ (fun i j => cs'.getD (i * szOf P e + j) default) hpos (Nat.le_refl _) (by simp) (fun hM => absurd (H.lt _ hM) (Nat.lt_irrefl _)) hcl (fun i j hi hj => ?_) (fun i j a hi ha => ?_)
              · rw [cell?_at (heap_alloc_self w _), Nat.zero_add]
                have hlt : i * szOf P e + j < cs'.size := by
                  rw [hsize']
                  have : (i + 1) * szOf P e ≤ vs.length * szOf P e := Nat.mul_le_mul_right _ hi
                  rw [Nat.succ_mul] at this
                  omega
                simp [Array.getD, hlt]
              · obtain ⟨x, hx, hrx⟩ := hcells i j _ a (hget i hi) ha
                rw [Nat.zero_add] at hx
                have : cs'.getD (i * szOf P e + j) default = x := by
                  rw [Array.getD_eq_getD_getElem?, hx]; rfl
                rw [this]
                exact (Ext.alloc m Mut w _).relV hrx
          · cases hb
        · cases hb
    · cases hb
  · cases hb

theorem aconv_sound {src dst : TypeId} {x : AV} {u : Value} {c : Cnd} {r : AV} (hb : aconv P src dst x = some (c, r)) (hC : c.ok) (hx : RelV m Mut w x u) :
    ∃ z, (convert src dst u).run P w = .ok z w ∧ RelV m Mut w r z := by
  unfold aconv at hb
  split at hb
  · rename_i d k k0 n hs hd
    cases hb
    rw [hx.inv_int]
    exact ⟨.int k (k.wrap n), by simp [convert, run_underlying_some hs, run_underlying_some hd, Conv.intToInt], .int _ _⟩
  · rename_i d s hs hd
    cases hb
    rw [hx.inv_str]
    exact ⟨.string s, by simp [convert, run_underlying_some hs, run_underlying_some hd], .str _⟩
  · rename_i e sz n f hs hd
    split at hb
    · rename_i he
      cases hb
      obtain ⟨rfl, hn, hall⟩ := hC
      cases hx with
      | sl _ _ _ b o cap val hn' hc hbs hmu hsz hv hr =>
        refine ⟨.string (strBytes (bytesOf n f)), ?_, .str _⟩
        rw [run_convert_bytes_string w src dst e _ _ _ hs he hd]
        refine run_bytesToString w _ n cap (bytesOf n f) ?_
        have hlen : (bytesOf n f).length = n := by simp [bytesOf]
        have hall : ∀ i, i < n → f i = .int .u8 ((bytesOf n f).getD i 0) := fun i hi => by
          have h1 := hall i hi
          simp only [bytesOf, List.getD_eq_getElem?_getD, List.getElem?_map, List.getElem?_range hi, Option.map_some, Option.getD_some]
          cases hq : f i with
          | int k x => cases k <;> first | rfl | (rw [hq] at h1; cases h1)
          | _ => rw [hq] at h1; cases h1
        have hcell : ∀ j, j < n → w.cell? ((⟨b, o, none⟩ : Addr).add j) = some (.int .u8 ((bytesOf n f).getD j 0)) := fun j hj => by
          rw [addr_add]
          have h1 := hv j 0 hj (by omega)
          simp only [Nat.mul_one, Nat.add_zero] at h1
          rw [h1]
          have h2 : RelV m Mut w (f j) (val j 0) := hr j 0 (f j) hj (by rw [hall j hj]; rfl)
          rw [hall j hj] at h2
          rw [h2.inv_int]
        rw [run_loadCells w _ n (fun j => .int .u8 ((bytesOf n f).getD j 0)) hcell]
        congr 1
        apply Array.ext'
        simp only [List.map_toArray]
        apply List.ext_getElem?
        intro j
        by_cases hj : j < n
        · simp [hj, hlen, List.getD]
        · simp [hj, hlen]
      | sl0 _ _ a cap => exact absurd hn (Nat.lt_irrefl _)
    · cases hb
  · cases hb
  · cases hb


theorem relL_nil : RelL m Mut w [] #[] := ⟨rfl, fun i a v h => by simp at h⟩

theorem abuiltin_sound {b : Builtin} {ts : Array TypeId} {xs : List AV} {us : Array Value} {ty : TypeId} {cb : Array Bool} {c : Cnd} {r : AV} (H : RelH m Mut h w) (hb : abuiltin P h b ts.toList xs = some (c, r)) (hx : RelL m Mut w xs us) :
    ∃ z, (builtin b ts ty cb us).run P w = .ok (.value z) w ∧ RelV m Mut w r z := by
  unfold abuiltin at hb
  split at hb
  · rename_i t ts' x xs' e1
    simp only [Option.map_eq_some_iff, Prod.mk.injEq] at hb
    obtain ⟨y, hy, rfl, rfl⟩ := hb
    obtain ⟨u, hu, hr⟩ := hx.get (i := 0) (a := x) rfl
    obtain ⟨z, hz, hrz⟩ := alen_sound (ts := ts) (us := us) (ty := ty) H hy (by rw [← Array.getElem?_toList, e1]; rfl) hu hr
    exact ⟨z, by simp [builtin, hz], hrz⟩
  · rename_i x y
    simp only [Option.map_eq_some_iff, Prod.mk.injEq] at hb
    obtain ⟨q, hq, rfl, rfl⟩ := hb
    have hlen := hx.1
    obtain ⟨u, hu, hru⟩ := hx.get (i := 0) (a := x) rfl
    obtain ⟨v, hv, hrv⟩ := hx.get (i := 1) (a := y) rfl
    have hus : us = #[u, v] := by
      apply Array.ext (by simpa using hlen.symm)
      intro i h1 h2
      simp at h2
      have : i = 0 ∨ i = 1 := by omega
      rcases this with rfl | rfl
      · rw [Array.getElem?_eq_getElem h1] at hu; simpa using hu
      · rw [Array.getElem?_eq_getElem h1] at hv; simpa using hv
    subst hus
    unfold avmin at hq
    split at hq
    · cases hq
      rw [hru.inv_int, hrv.inv_int]
      exact ⟨_, by simp only [builtin, Sem.run_bind, run_min_int2, Result.andThen_ok]; rfl, .int _ _⟩
    · cases hq
  · rename_i x y
    simp only [Option.map_eq_some_iff, Prod.mk.injEq] at hb
    obtain ⟨q, hq, rfl, rfl⟩ := hb
    have hlen := hx.1
    obtain ⟨u, hu, hru⟩ := hx.get (i := 0) (a := x) rfl
    obtain ⟨v, hv, hrv⟩ := hx.get (i := 1) (a := y) rfl
    have hus : us = #[u, v] := by
      apply Array.ext (by simpa using hlen.symm)
      intro i h1 h2
      simp at h2
      have : i = 0 ∨ i = 1 := by omega
      rcases this with rfl | rfl
      · rw [Array.getElem?_eq_getElem h1] at hu; simpa using hu
      · rw [Array.getElem?_eq_getElem h1] at hv; simpa using hv
    subst hus
    unfold avmax at hq
    split at hq
    · cases hq
      rw [hru.inv_int, hrv.inv_int]
      exact ⟨_, by simp only [builtin, Sem.run_bind, run_max_int2, Result.andThen_ok]; rfl, .int _ _⟩
    · cases hq
  · cases hb

/-- Operands' values. -/
def RelE (m : IdMap) (Mut : Mu) (w : World) (ρ : Operand → AV) (σ : Operand → Value) : Prop := ∀ x, RelV m Mut w (ρ x) (σ x)

theorem RelE.list {ρ : Operand → AV} {σ : Operand → Value} (h : RelE m Mut w ρ σ) (xs : Array Operand) : RelL m Mut w (xs.toList.map ρ) (xs.map σ) :=
  ⟨by simp, fun i a v ha hv => by
    rw [List.getElem?_map, Array.getElem?_toList] at ha
    rw [Array.getElem?_map] at hv
    cases hx : xs[i]? with
    | none => rw [hx] at ha; cases ha
    | some x => rw [hx] at ha hv; cases ha; cases hv; exact h x⟩

theorem RelE.parts {ρ : Operand → AV} {σ : Operand → Value} (h : RelE m Mut w ρ σ) (ps : Array (Nat × Operand)) : RelP m Mut w (ps.toList.map fun p => (p.1, ρ p.2)) (ps.map fun (i, x) => (i, σ x)).toList :=
  ⟨by simp, fun i p u hp hu => by
    rw [List.getElem?_map] at hp
    rw [Array.toList_map, List.getElem?_map] at hu
    cases hx : ps.toList[i]? with
    | none => rw [hx] at hp; cases hp
    | some x => rw [hx] at hp hu; cases hp; cases hu; exact ⟨rfl, h _⟩⟩

theorem RelE.opt {ρ : Operand → AV} {σ : Operand → Value} (h : RelE m Mut w ρ σ) (x : Option Operand) : RelOpt m Mut w (x.map ρ) (x.map σ) := by
  cases x with
  | none => trivial
  | some x => exact h x

theorem aopQ_sound {ρ : Operand → AV} {σ : Operand → Value} {o : Oper} {c : Cnd} {r : AV} (H : RelH m Mut h w) (hρ : RelE m Mut w ρ σ) (hb : aopQ P h ρ o = some (c, r)) (hC : c.ok) :
    OpR P σ o m Mut h w r := by
  unfold aopQ at hb
  split at hb
  · rename_i x ho
    cases hb
    exact .same H (σ x) (by simp [execOp, ho]) (hρ x)
  · rename_i x ho
    cases hb
    exact .same H (σ x) (by simp [execOp, ho]) (hρ x)
  · rename_i t a ho
    split at hb
    · rename_i c' cs hcs
      split at hb
      · rename_i hu
        simp only [Option.map_eq_some_iff, Prod.mk.injEq] at hb
        obtain ⟨v, hv, rfl, rfl⟩ := hb
        obtain ⟨b, o', ha, hlt, hcells⟩ := cellsAt_sound H (hρ a) hcs hC
        obtain ⟨z, hz, hr⟩ := load_sound (P := P) hcells hv hu
        exact .same H z (by simp [execOp, ho, Instr.loadAt, ha, Instr.sureAddr, hz]) hr
      · cases hb
    · cases hb
  · rename_i x ho
    have hx := hρ x
    split at hb
    · rename_i e
      cases hb
      rw [e] at hx
      cases hs : σ x with
      | pointer a =>
        rw [hs] at hx
        cases a with
        | none => cases hx
        | some a => exact .same H (.pointer (some a)) (by simp [execOp, ho, hs]) hx
      | _ => rw [hs] at hx; cases hx
    · rename_i e
      cases hb
      rw [e] at hx
      cases hs : σ x with
      | pointer a =>
        rw [hs] at hx
        cases a with
        | none => cases hx
        | some a => exact .same H (.pointer (some a)) (by simp [execOp, ho, hs]) hx
      | _ => rw [hs] at hx; cases hx
    · rename_i g cs e
      cases hb
      rw [e] at hx
      cases hs : σ x with
      | func fn first cap =>
        have hx2 := hx
        rw [hs] at hx2
        cases hx2
        exact .same H (σ x) (by simp [execOp, ho, hs]) hx
      | _ => rw [hs] at hx; cases hx
    · cases hb
  · rename_i op t x y yt ho
    obtain ⟨z, hz, hr⟩ := abinT_sound (P := P) (ox := x) (oy := y) hb hC (hρ x) (hρ y)
    exact .same H z (by simp only [execOp, ho, Sem.run_bind] at hz ⊢; rw [hz]; rfl) hr
  · rename_i op t x ho
    simp only [Option.map_eq_some_iff, Prod.mk.injEq] at hb
    obtain ⟨v, hv, rfl, rfl⟩ := hb
    obtain ⟨z, hz, hr⟩ := aun_sound (P := P) hv (hρ x)
    exact .same H z (by simp [execOp, ho, hz]) hr
  · rename_i src dst x ho
    obtain ⟨z, hz, hr⟩ := aconv_sound (P := P) hb hC (hρ x)
    exact .same H z (by simp [execOp, ho, hz]) hr
  · rename_i g first cs ho
    split at hb
    · rename_i hl
      cases hb
      have hf : first = #[] := Array.eq_empty_of_size_eq_zero (by simpa using hl)
      subst hf
      have hr := hρ.list cs
      exact .same H (.func (.func g) #[] (cs.map σ)) (by simp [execOp, ho, Instr.makeFunc]) (.fn _ _ _ hr.1 hr.2)
    · cases hb
  · rename_i t x lo hi ho
    obtain ⟨z, hz, hr⟩ := aslice_sound (P := P) hb hC (hρ x) (hρ.opt lo) (hρ.opt hi)
    exact .same H z (by simp [execOp, ho, hz]) hr
  · rename_i s x f ho
    simp only [Option.map_eq_some_iff, Prod.mk.injEq] at hb
    obtain ⟨v, hv, rfl, rfl⟩ := hb
    obtain ⟨z, hz, hr⟩ := afieldAddr_sound (P := P) hv (hρ x)
    exact .same H z (by simp [execOp, ho, hz]) hr
  · rename_i s x f ho
    simp only [Option.map_eq_some_iff, Prod.mk.injEq] at hb
    obtain ⟨v, hv, rfl, rfl⟩ := hb
    obtain ⟨z, hz, hr⟩ := afield_sound (P := P) hv (hρ x)
    exact .same H z (by simp [execOp, ho, hz]) hr
  · rename_i t x ix ho
    obtain ⟨z, hz, hr⟩ := aindexAddr_sound (P := P) hb hC (hρ x) (hρ ix)
    exact .same H z (by simp [execOp, ho, hz]) hr
  · rename_i t x ix ho
    obtain ⟨z, hz, hr⟩ := aindex_sound (P := P) hb hC (hρ x) (hρ ix)
    exact .same H z (by simp [execOp, ho, hz]) hr
  · rename_i x i ho
    have hx := hρ x
    split at hb
    · rename_i vs e
      simp only [Option.map_eq_some_iff, Prod.mk.injEq] at hb
      obtain ⟨v, hv, rfl, rfl⟩ := hb
      rw [e] at hx
      obtain ⟨us, hus, hl⟩ := hx.inv_tup
      obtain ⟨z, hz, hr⟩ := hl.get hv
      exact .same H z (by simp [execOp, ho, hus, Instr.extract, hz]) hr
    · cases hb
  · rename_i t ps ho
    simp only [Option.map_eq_some_iff, Prod.mk.injEq] at hb
    obtain ⟨v, hv, rfl, rfl⟩ := hb
    obtain ⟨z, hz, hr⟩ := abuild_sound (P := P) hv (hρ.parts ps)
    exact .same H z (by simp only [execOp, ho, Sem.run_bind, hz, Result.andThen_ok]; rfl) hr
  · rename_i t len ps ho
    simp only [Option.map_eq_some_iff, Prod.mk.injEq] at hb
    obtain ⟨v, hv, rfl, rfl⟩ := hb
    obtain ⟨z, w', hz, hE, hH, hr⟩ := abuildSlice_sound (P := P) H hv (hρ.parts ps)
    exact ⟨z, w', by simp only [execOp, ho, Sem.run_bind, hz, Result.andThen_ok]; rfl, hE, hH, hr⟩
  · rename_i cl ho
    split at hb
    · rename_i b hcal
      obtain ⟨z, hz, hr⟩ := abuiltin_sound (P := P) (ty := o.type) (cb := cl.args.map fun | .const _ => true | _ => false) H hb (hρ.list cl.args)
      refine .same H z ?_ hr
      simp only [execOp, ho, resolve, hcal, Sem.run_bind, Sem.run_pure, Result.andThen_ok, invoke]
      exact hz
    · cases hb
  · cases hb

end
end Go.Proofs.Ytjdakdjgkpfjkaa
