/- The cells of a type, told one by one. Conditions: none. -/
import Derived.Test.YtjdakdjgkpfjkaaA23
namespace Go.Proofs.Ytjdakdjgkpfjkaa
set_option linter.unusedVariables false
set_option linter.unusedSimpArgs false

inductive Lf where
  | bool
  | int (k : IntKind)
  | str
  | sl (k : Nat) (e : TypeId) (sz : Nat)

def flatL (F : TypeId → Option (List Lf)) : List Field → Option (List Lf)
  | [] => some []
  | f :: fs => match F f.type, flatL F fs with
    | some a, some b => some (a ++ b)
    | _, _ => none

def flat (P : Program) : Nat → TypeId → Option (List Lf)
  | 0, _ => none
  | k + 1, t => match P.underlying t with
    | some .bool => some [.bool]
    | some (.int kd) => some [.int kd]
    | some .string => some [.str]
    | some (.slice e) => some [.sl k e (P.cellsOf e)]
    | some (.struct fs) => flatL (flat P k) fs.toList
    | _ => none

def LfFits (P : Program) : List Lf → List AV → Prop
  | [], avs => avs = []
  | .bool :: ls, avs => ∃ b r, avs = .bool b :: r ∧ LfFits P ls r
  | .int k :: ls, avs => ∃ n r, avs = .int k n :: r ∧ (Lit.int k n).wf = true ∧ LfFits P ls r
  | .str :: ls, avs => ∃ s r, avs = .str s :: r ∧ s.size ≤ maxLen ∧ LfFits P ls r
  | .sl k e sz :: ls, avs => ∃ n f r, avs = .sl sz n f :: r ∧ n ≤ maxLen ∧ (∀ i, i < n → Fits P k e (f i).cells) ∧ LfFits P ls r

section
variable {P : Program}

theorem LfFits.append : ∀ (ls ks : List Lf) (as bs : List AV), LfFits P ls as → LfFits P ks bs → LfFits P (ls ++ ks) (as ++ bs) := by
  intro ls
  induction ls with
  | nil => intro ks as bs h k; cases h; exact k
  | cons l ls ih =>
    intro ks as bs h k
    cases l with
    | bool => obtain ⟨b, r, rfl, h⟩ := h; exact ⟨b, r ++ bs, rfl, ih ks r bs h k⟩
    | int kd => obtain ⟨n, r, rfl, w, h⟩ := h; exact ⟨n, r ++ bs, rfl, w, ih ks r bs h k⟩
    | str => obtain ⟨s, r, rfl, w, h⟩ := h; exact ⟨s, r ++ bs, rfl, w, ih ks r bs h k⟩
    | sl kk e sz => obtain ⟨n, f, r, rfl, w, w2, h⟩ := h; exact ⟨n, f, r ++ bs, rfl, w, w2, ih ks r bs h k⟩

theorem flat_fits : ∀ (K : Nat) (t : TypeId) (ls : List Lf) (avs : List AV), flat P K t = some ls → Fits P K t avs → LfFits P ls avs := by
  intro K
  induction K with
  | zero => intro t ls avs h; cases h
  | succ K ih =>
    intro t ls avs h hf
    unfold flat at h
    unfold Fits at hf
    split at h
    · rename_i ht; simp only [ht] at hf; cases h; obtain ⟨b, rfl⟩ := hf; exact ⟨b, [], rfl, rfl⟩
    · rename_i ht; simp only [ht] at hf; cases h; obtain ⟨n, rfl, w⟩ := hf; exact ⟨n, [], rfl, w, rfl⟩
    · rename_i ht; simp only [ht] at hf; cases h; obtain ⟨s, rfl, w⟩ := hf; exact ⟨s, [], rfl, w, rfl⟩
    · rename_i e ht; simp only [ht] at hf; cases h; obtain ⟨n, f, rfl, w, w2⟩ := hf; exact ⟨n, f, [], rfl, w, w2, rfl⟩
    · rename_i fs ht
      simp only [ht] at hf
      have aux : ∀ (fs : List Field) (ls : List Lf) (avs : List AV), flatL (flat P K) fs = some ls → FitsS (Fits P K) fs avs → LfFits P ls avs := by
        intro fs
        induction fs with
        | nil => intro ls avs h hf; cases h; cases hf; rfl
        | cons f fs ihf =>
          intro ls avs h hf
          unfold flatL at h
          obtain ⟨a, b, rfl, h1, h2⟩ := hf
          split at h
          · rename_i x y hx hy
            cases h
            exact LfFits.append _ _ _ _ (ih _ _ _ hx h1) (ihf _ _ hy h2)
          · cases h
      exact aux _ _ _ h hf
    · cases h

/-- An argument that is a struct. -/
theorem fitsV_struct {K : Nat} {t : TypeId} {a : AV} {ls : List Lf} (hs : (match P.underlying t with | some (.struct _) => true | _ => false) = true) (hf : flat P K t = some ls) (h : FitsV P K t a) : ∃ cs, a = .agg cs ∧ LfFits P ls cs := by
  unfold FitsV at h
  split at h
  · obtain ⟨cs, rfl, h⟩ := h; exact ⟨cs, rfl, flat_fits _ _ _ _ hf h⟩
  · rename_i hn
    split at hs
    · rename_i fs ht; exact absurd ht (hn fs)
    · cases hs

/-- An argument of one cell. -/
theorem fitsV_one {K : Nat} {t : TypeId} {a : AV} {ls : List Lf} (hs : (match P.underlying t with | some (.struct _) => true | _ => false) = false) (hf : flat P K t = some ls) (h : FitsV P K t a) : LfFits P ls [a] := by
  unfold FitsV at h
  split at h
  · rename_i fs ht; rw [ht] at hs; cases hs
  · exact flat_fits _ _ _ _ hf h
end
theorem fitsA1 {P : Program} {K : Nat} {t0 : TypeId} {xs : List AV} (h : FitsA P K [t0] xs) : ∃ a0, xs = [a0] ∧ FitsV P K t0 a0 := by
  cases xs with
  | nil => exact h.elim
  | cons a0 xs =>
    obtain ⟨h0, h⟩ := h
    cases xs with
    | nil => exact ⟨a0, rfl, h0⟩
    | cons _ _ => exact h.elim
theorem fitsA2 {P : Program} {K : Nat} {t0 t1 : TypeId} {xs : List AV} (h : FitsA P K [t0, t1] xs) : ∃ a0 a1, xs = [a0, a1] ∧ FitsV P K t0 a0 ∧ FitsV P K t1 a1 := by
  cases xs with
  | nil => exact h.elim
  | cons a0 xs =>
    obtain ⟨h0, h⟩ := h
    cases xs with
    | nil => exact h.elim
    | cons a1 xs =>
      obtain ⟨h1, h⟩ := h
      cases xs with
      | nil => exact ⟨a0, a1, rfl, h0, h1⟩
      | cons _ _ => exact h.elim
theorem fitsA3 {P : Program} {K : Nat} {t0 t1 t2 : TypeId} {xs : List AV} (h : FitsA P K [t0, t1, t2] xs) : ∃ a0 a1 a2, xs = [a0, a1, a2] ∧ FitsV P K t0 a0 ∧ FitsV P K t1 a1 ∧ FitsV P K t2 a2 := by
  cases xs with
  | nil => exact h.elim
  | cons a0 xs =>
    obtain ⟨h0, h⟩ := h
    cases xs with
    | nil => exact h.elim
    | cons a1 xs =>
      obtain ⟨h1, h⟩ := h
      cases xs with
      | nil => exact h.elim
      | cons a2 xs =>
        obtain ⟨h2, h⟩ := h
        cases xs with
        | nil => exact ⟨a0, a1, a2, rfl, h0, h1, h2⟩
        | cons _ _ => exact h.elim
theorem fitsA4 {P : Program} {K : Nat} {t0 t1 t2 t3 : TypeId} {xs : List AV} (h : FitsA P K [t0, t1, t2, t3] xs) : ∃ a0 a1 a2 a3, xs = [a0, a1, a2, a3] ∧ FitsV P K t0 a0 ∧ FitsV P K t1 a1 ∧ FitsV P K t2 a2 ∧ FitsV P K t3 a3 := by
  cases xs with
  | nil => exact h.elim
  | cons a0 xs =>
    obtain ⟨h0, h⟩ := h
    cases xs with
    | nil => exact h.elim
    | cons a1 xs =>
      obtain ⟨h1, h⟩ := h
      cases xs with
      | nil => exact h.elim
      | cons a2 xs =>
        obtain ⟨h2, h⟩ := h
        cases xs with
        | nil => exact h.elim
        | cons a3 xs =>
          obtain ⟨h3, h⟩ := h
          cases xs with
          | nil => exact ⟨a0, a1, a2, a3, rfl, h0, h1, h2, h3⟩
          | cons _ _ => exact h.elim
theorem fitsA5 {P : Program} {K : Nat} {t0 t1 t2 t3 t4 : TypeId} {xs : List AV} (h : FitsA P K [t0, t1, t2, t3, t4] xs) : ∃ a0 a1 a2 a3 a4, xs = [a0, a1, a2, a3, a4] ∧ FitsV P K t0 a0 ∧ FitsV P K t1 a1 ∧ FitsV P K t2 a2 ∧ FitsV P K t3 a3 ∧ FitsV P K t4 a4 := by
  cases xs with
  | nil => exact h.elim
  | cons a0 xs =>
    obtain ⟨h0, h⟩ := h
    cases xs with
    | nil => exact h.elim
    | cons a1 xs =>
      obtain ⟨h1, h⟩ := h
      cases xs with
      | nil => exact h.elim
      | cons a2 xs =>
        obtain ⟨h2, h⟩ := h
        cases xs with
        | nil => exact h.elim
        | cons a3 xs =>
          obtain ⟨h3, h⟩ := h
          cases xs with
          | nil => exact h.elim
          | cons a4 xs =>
            obtain ⟨h4, h⟩ := h
            cases xs with
            | nil => exact ⟨a0, a1, a2, a3, a4, rfl, h0, h1, h2, h3, h4⟩
            | cons _ _ => exact h.elim
theorem fitsA6 {P : Program} {K : Nat} {t0 t1 t2 t3 t4 t5 : TypeId} {xs : List AV} (h : FitsA P K [t0, t1, t2, t3, t4, t5] xs) : ∃ a0 a1 a2 a3 a4 a5, xs = [a0, a1, a2, a3, a4, a5] ∧ FitsV P K t0 a0 ∧ FitsV P K t1 a1 ∧ FitsV P K t2 a2 ∧ FitsV P K t3 a3 ∧ FitsV P K t4 a4 ∧ FitsV P K t5 a5 := by
  cases xs with
  | nil => exact h.elim
  | cons a0 xs =>
    obtain ⟨h0, h⟩ := h
    cases xs with
    | nil => exact h.elim
    | cons a1 xs =>
      obtain ⟨h1, h⟩ := h
      cases xs with
      | nil => exact h.elim
      | cons a2 xs =>
        obtain ⟨h2, h⟩ := h
        cases xs with
        | nil => exact h.elim
        | cons a3 xs =>
          obtain ⟨h3, h⟩ := h
          cases xs with
          | nil => exact h.elim
          | cons a4 xs =>
            obtain ⟨h4, h⟩ := h
            cases xs with
            | nil => exact h.elim
            | cons a5 xs =>
              obtain ⟨h5, h⟩ := h
              cases xs with
              | nil => exact ⟨a0, a1, a2, a3, a4, a5, rfl, h0, h1, h2, h3, h4, h5⟩
              | cons _ _ => exact h.elim
end Go.Proofs.Ytjdakdjgkpfjkaa
