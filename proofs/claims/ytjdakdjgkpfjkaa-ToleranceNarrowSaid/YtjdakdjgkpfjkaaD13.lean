/- Lists grown one by one, read from their first on; the conversions. Conditions: none. -/
import Derived.Test.YtjdakdjgkpfjkaaD12
open Go
namespace Go.Proofs.Ytjdakdjgkpfjkaa
set_option linter.unusedVariables false
set_option linter.unusedSimpArgs false

theorem rget_last {D : Type} [Inhabited D] (x : D) (L : List D) : rget (x :: L) L.length = x := by
  unfold rget; simp
theorem rget_init {D : Type} [Inhabited D] (x : D) (L : List D) {i : Nat} (h : i < L.length) : rget (x :: L) i = rget L i := by
  unfold rget
  rw [show (x :: L).length - 1 - i = (L.length - 1 - i) + 1 by simp; omega]
  rfl
theorem grow_spec {D O : Type} [Inhabited D] {N : Nat → Nat → Nat → List D → O} {out : Nat → List D → O} (n : Nat) (F : Nat → D)
    (step : ∀ m c v al, c < n → N (m + 1) c v al = N m (c + 1) (v + 1) (F c :: al)) (stop : ∀ m v al, N (m + 1) n v al = out v al) :
    ∀ m c v al, c ≤ n → n - c < m → al.length = c → (∀ i, i < c → rget al i = F i) → ∃ v' L, N m c v al = out v' L ∧ L.length = n ∧ ∀ i, i < n → rget L i = F i := by
  intro m
  induction m with
  | zero => intro c v al _ h; omega
  | succ m ih =>
    intro c v al hc hm hl hf
    by_cases e : c = n
    · subst e
      exact ⟨v, al, stop m v al, hl, hf⟩
    · rw [step m c v al (by omega)]
      refine ih (c + 1) (v + 1) (F c :: al) (by omega) (by omega) (by simp [hl]) fun i hi => ?_
      by_cases e2 : i = c
      · subst e2; rw [← hl]; exact rget_last _ _
      · rw [rget_init _ _ (by omega)]; exact hf i (by omega)

theorem r28_eq (k : Nat) (p : Nat → PD) (hk : k ≤ 9223372036854775807) : (r28.v k p).length = k ∧ ∀ i, i < k → rget (r28.v k p) i = p i := by
  obtain ⟨v', L, h1, h2, h3⟩ := grow_spec (N := fun m c v al => L28a.N k p m v al c) (out := fun v L => L28a.O.e0 v L) k p
    (fun m c v al h => by simp only [L28a.N, wrap_succ hk h, Int.toNat_natCast]; rw [decide_eq_true (by omega)]; rfl)
    (fun m v al => by simp [L28a.N]) (((((k : Int) - 0)).toNat) + 1) 0 0 [] (by omega) (by omega) rfl (fun i h => by omega)
  have : r28.v k p = L := by
    unfold r28.v L28a.run
    have e : L28a.N k p ((((k : Int) - 0).toNat) + 1) 0 [] 0 = .e0 v' L := h1
    rw [e]
  rw [this]
  exact ⟨h2, h3⟩

theorem L27_eq (m : Nat) (f : Nat → Int) (t : Int) (hm : m ≤ 9223372036854775807) : ∃ v L, L27ab.run m f t 0 0 [] = .e0 v L ∧ L.length = m ∧ ∀ i, i < m → rget L i = ⟨IntKind.i64.wrap (f i - t), IntKind.i64.wrap (f i + t)⟩ := by
  exact grow_spec (N := fun q c v al => L27ab.N m f t q c v al) (out := fun v L => L27ab.O.e0 v L) m (fun i => ⟨IntKind.i64.wrap (f i - t), IntKind.i64.wrap (f i + t)⟩)
    (fun q c v al h => by simp only [L27ab.N, wrap_succ hm h, Int.toNat_natCast]; rw [decide_eq_true (by omega)]; rfl)
    (fun q v al => by simp [L27ab.N]) (((((m : Int) - 0)).toNat) + 1) 0 0 [] (by omega) (by omega) rfl (fun i h => by omega)

theorem r52_eq (m : Nat) (f : Nat → Int) (t : Int) (hm : m ≤ 9223372036854775807) : (r52.v0 m f t).length = m ∧ ∀ i, i < m → rget (r52.v0 m f t) i = (⟨IntKind.i64.wrap (f i - t), IntKind.i64.wrap (f i + t)⟩ : PD) := by
  obtain ⟨v', L, h1, h2, h3⟩ := grow_spec (N := fun q c v al => L52a.N m f t q c v al) (out := fun v L => L52a.O.e0 v L) m (fun i => ⟨IntKind.i64.wrap (f i - t), IntKind.i64.wrap (f i + t)⟩)
    (fun q c v al h => by simp only [L52a.N, wrap_succ hm h, Int.toNat_natCast]; rw [decide_eq_true (by omega)]; rfl)
    (fun q v al => by simp [L52a.N]) (((((m : Int) - 0)).toNat) + 1) 0 0 [] (by omega) (by omega) rfl (fun i h => by omega)
  have : r52.v0 m f t = L := by
    unfold r52.v0 L52a.run
    have e : L52a.N m f t ((((m : Int) - 0).toNat) + 1) 0 0 [] = .e0 v' L := h1
    rw [e]
  rw [this]
  exact ⟨h2, h3⟩
theorem bd52 {m : Nat} (f : Nat → Int) (t : Int) (hm : m ≤ 9223372036854775807) : (r52.v0 m f t).length ≤ 9223372036854775807 := by rw [(r52_eq m f t hm).1]; exact hm

/-- A grown list of pairs, told by what it holds. -/
theorem recL_imp {L : List PD} {n : Nat} {F : Nat → PD} (hl : L.length = n) (hf : ∀ i, i < n → rget L i = F i) : Imp (recL 2 PD.av L) (prs n F) := by
  subst hl
  unfold recL prs
  refine Imp.sl fun i hi => ?_
  rw [hf i hi]
  exact ImpL.refl _

theorem r52_v1 (m : Nat) (f : Nat → Int) (j t : Int) (hm : m ≤ 9223372036854775807) : r52.v1 m f j t = j ∧ r52.v2 m f j t = j := by
  unfold r52.v1 r52.v2; cases L52a.run m f t 0 0 []; exact ⟨rfl, rfl⟩
theorem r52_v3 (m : Nat) (f : Nat → Int) (k : Nat) (t : Int) : r52.v3 m f k t = k := by
  unfold r52.v3; cases L52a.run m f t 0 0 []; rfl
def wid (f : Nat → Int) (t : Int) (i : Nat) : PD := ⟨IntKind.i64.wrap (f i - t), IntKind.i64.wrap (f i + t)⟩
theorem c52 (m : Nat) (f : Nat → Int) (hm : m ≤ 512) (j1 j2 : Int) (k : Nat) (p : Nat → PD) (t : Int) (h : AHeap) : Ret Try.prog 52 ([ivs' m f, AV.agg [AV.int IntKind.i64 j1, AV.int IntKind.i64 j2], prs k p, AV.int IntKind.i64 t]) h (rn m (wid f t) j1 j2 k p) h := by
  refine (r52 m f hm j1 j2 k p t h).out (.agg (.cons (recL_imp (r52_eq m f t (by omega)).1 (r52_eq m f t (by omega)).2) ?_))
  rw [(r52_v1 m f j1 t (by omega)).1, (r52_v1 m f j2 t (by omega)).2, r52_v3]
  exact ImpL.refl _
/-- The lengths at a tolerance, told past the end too. -/
def W (m : Nat) (f : Nat → Int) (t : Int) (i : Nat) : PD := wid f t (if i < m then i else m - 1)
theorem W_eq {m : Nat} {f : Nat → Int} {t : Int} {L : List PD} (h0 : 0 < m) (hl : L.length = m) (hf : ∀ i, i < m → rget L i = wid f t i) : rget L = W m f t := by
  funext i
  unfold W
  by_cases h : i < m
  · rw [if_pos h]; exact hf i h
  · rw [if_neg h, ← hf (m - 1) (by omega)]
    unfold rget
    rw [show L.length - 1 - i = L.length - 1 - (m - 1) by omega]
theorem c52w (m : Nat) (f : Nat → Int) (hm : m ≤ 512) (j1 j2 : Int) (k : Nat) (p : Nat → PD) (t : Int) (h : AHeap) : Ret Try.prog 52 ([ivs' m f, AV.agg [AV.int IntKind.i64 j1, AV.int IntKind.i64 j2], prs k p, AV.int IntKind.i64 t]) h (rn m (W m f t) j1 j2 k p) h := by
  refine (c52 m f hm j1 j2 k p t h).out (.agg (.cons (Imp.sl fun i hi => ?_) (ImpL.refl _)))
  unfold W
  rw [if_pos hi]
  exact ImpL.refl _
def three (t : Int) : PD := ⟨IntKind.i64.wrap (300 - t), IntKind.i64.wrap (300 + t)⟩
theorem c31 (t e : Int) (h : AHeap) : Ret Try.prog 31 ([AV.int IntKind.i64 t, AV.int IntKind.i64 e]) h (rn 3 (fun _ => three t) 5 10 1 (fun _ => ⟨3, e⟩)) h := by
  refine (r31 t e h).out (.agg (.cons (Imp.sl fun i hi => ?_) (.cons (.refl _) (.cons (.refl _) (.cons (Imp.sl fun i hi => ?_) .nil)))))
  · rcases i with _ | _ | _ | i
    · exact ImpL.refl _
    · exact ImpL.refl _
    · exact ImpL.refl _
    · omega
  · rcases i with _ | i
    · exact ImpL.refl _
    · omega

theorem c14 (n : Nat) (g : Nat → PD) (j1 : Int) (j2 : Int) (k : Nat) (p : Nat → PD) (hk : k ≤ 30) (h : AHeap) : Ret Try.prog 14 ([rn n g j1 j2 k p]) h (rn n g j1 j2 k p) h :=
  (r14 n g j1 j2 k p hk h).out (.agg (.cons (.refl _) (.cons (.refl _) (.cons (.refl _) (.cons (recL_imp (r28_eq k p (by omega)).1 (r28_eq k p (by omega)).2) .nil)))))
theorem ok15 {n : Nat} {g : Nat → PD} {j1 j2 : Int} {k : Nat} {p : Nat → PD} (h : (r15.v n g j1 j2 k p == 0) = true) (hn : n ≤ 9223372036854775807) (hk : k ≤ 9223372036854775807) : ROk n g j1 j2 k p :=
  checked hn hk (by rw [← check_same hn hk]; exact eq_of_beq h)
theorem c28 (k : Nat) (p : Nat → PD) (hk : k ≤ 30) (h : AHeap) : Ret Try.prog 28 ([prs k p]) h (prs k p) h :=
  (r28 k p hk h).out (recL_imp (r28_eq k p (by omega)).1 (r28_eq k p (by omega)).2)
theorem bd12 {n k : Nat} (h : r12.v n k = true) : n ≤ 30 ∧ k ≤ 30 := by
  unfold r12.v at h
  by_cases h1 : (n : Int) ≤ 30
  · rw [decide_eq_true h1] at h
    have := of_decide_eq_true h
    omega
  · rw [decide_eq_false h1] at h
    cases h
end Go.Proofs.Ytjdakdjgkpfjkaa
