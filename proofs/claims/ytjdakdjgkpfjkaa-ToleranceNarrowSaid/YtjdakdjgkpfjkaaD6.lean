/- Plain laws: the first part that fails. Conditions: none. -/
import Derived.Test.YtjdakdjgkpfjkaaD5
open Go
namespace Go.Proofs.Ytjdakdjgkpfjkaa
set_option linter.unusedVariables false
set_option linter.unusedSimpArgs false
variable {n k : Nat} {g p : Nat → PD} {m j1 j2 : Int}

def pa (p : Nat → PD) (i : Nat) : Nat := if i = 0 then 0 else (p (i - 1)).lo.toNat
def pb (p : Nat → PD) (i : Nat) : Nat := (p i).lo.toNat
def prm (p : Nat → PD) (i : Nat) : Int := (p i).hi - (if i = 0 then 0 else (p (i - 1)).hi)

theorem pa_eq (h : PlOk n k p) {i : Nat} (hi : i < k) : (ptB p i).a = pa p i := by
  unfold ptB pa
  by_cases e : i = 0
  · simp [e]
  · have := h.lo (i - 1) (by omega)
    simp only [if_neg e]; omega
theorem pb_eq (h : PlOk n k p) {i : Nat} (hi : i < k) : (ptB p i).b = pb p i := by
  unfold ptB pb
  have := h.lo i hi
  simp only; omega
theorem pab (h : PlOk n k p) {i : Nat} (hi : i < k) : pa p i < pb p i ∧ pb p i ≤ n := by
  have := pt_bd h hi
  rw [pa_eq h hi, pb_eq h hi] at this
  omega

theorem sLo_bd (h : ROk n g j1 j2 k p) {u w : Nat} (hu : u ≤ w) (hw : w ≤ n) : 0 ≤ sLo g u w ∧ sLo g u w ≤ 512000000 := by
  have := sumB_bd (f := fun i => (g i).lo) (u := u) (b := 1000000) (w - u) fun i a b => by have := h.l1 i (by omega); have := h.l2 i (by omega); have := h.l3 i (by omega); omega
  have := h.le
  unfold sLo; omega
theorem sHi_bd (h : ROk n g j1 j2 k p) {u w : Nat} (hu : u ≤ w) (hw : w ≤ n) : 0 ≤ sHi g u w ∧ sHi g u w ≤ 512000000 := by
  have := sumB_bd (f := fun i => (g i).hi) (u := u) (b := 1000000) (w - u) fun i a b => by have := h.l1 i (by omega); have := h.l2 i (by omega); have := h.l3 i (by omega); omega
  have := h.le
  unfold sHi; omega
theorem jn_bd {u w : Nat} (hu : u < w) (hw : w ≤ n) (hn : n ≤ 512) : 0 ≤ jn n u w ∧ jn n u w ≤ 512 := by
  unfold jn; split <;> omega
theorem jn_mul {u w : Nat} {j : Int} (hu : u < w) (hw : w ≤ n) (hn : n ≤ 512) (h0 : 0 ≤ j) (h1 : j ≤ 1000) : 0 ≤ jn n u w * j ∧ jn n u w * j ≤ 512000 := by
  obtain ⟨a, b⟩ := jn_bd hu hw hn
  have c := Int.mul_nonneg a h0
  have d : jn n u w * j ≤ 512 * 1000 := Int.mul_le_mul b h1 h0 (by omega)
  omega

def long (n : Nat) (g : Nat → PD) (j1 : Int) (p : Nat → PD) (i : Nat) : Bool := decide (sHi g (pa p i) (pb p i) + jn n (pa p i) (pb p i) * j1 > prm p i)
def short (n : Nat) (g : Nat → PD) (j2 : Int) (p : Nat → PD) (i : Nat) : Bool := decide (sLo g (pa p i) (pb p i) + jn n (pa p i) (pb p i) * j2 < prm p i)

theorem r33_part (h : ROk n g j1 j2 k p) (hk : k ≤ 30) {i : Nat} (hi : i < k) :
    r33.v0 n g (rget (r42.v k p) i).a (rget (r42.v k p) i).b = sLo g (pa p i) (pb p i) ∧
    r33.v1 n g (rget (r42.v k p) i).a (rget (r42.v k p) i).b = sHi g (pa p i) (pb p i) ∧
    r33.v2 n g (rget (r42.v k p) i).a (rget (r42.v k p) i).b = jn n (pa p i) (pb p i) := by
  rw [part_get h hk hi, pa_eq h.pl hi, pb_eq h.pl hi]
  have := pab h.pl hi
  exact r33_eq h (by omega) (by omega)

theorem L41_run (h : ROk n g j1 j2 k p) (hk : k ≤ 30) : L41a.run n g j1 j2 k p 0 = srch (fun i => long n g j1 p i || short n g j2 p i) (fun i => bif long n g j1 p i then .e0 i else .e1 i) .e2 0 k := by
  have := search_eq (n := k) (fun i => long n g j1 p i || short n g j2 p i) (fun i => bif long n g j1 p i then L41a.O.e0 i else .e1 i) .e2 (N := L41a.N n g j1 j2 k p) (fun k' i hi => by
    obtain ⟨e1, e2, e3⟩ := r33_part h hk hi
    rw [part_get h hk hi] at e1 e2 e3
    simp only [L41a.N, wrap_succ (n := k) (by omega) hi, Int.toNat_natCast, e1, e2, e3, part_get h hk hi, part_len h hk]
    rw [decide_eq_true (show (i : Int) < k by omega)]
    have hab := pab h.pl hi
    have hn := h.le
    have m1 := jn_mul (n := n) (j := j1) hab.1 hab.2 hn h.ja (by have := h.jb; have := h.jc; omega)
    have m2 := jn_mul (n := n) (j := j2) hab.1 hab.2 hn (by have := h.ja; have := h.jb; omega) h.jc
    have b1 := sLo_bd h (Nat.le_of_lt hab.1) hab.2
    have b2 := sHi_bd h (Nat.le_of_lt hab.1) hab.2

    simp only [i64_small (x := jn n (pa p i) (pb p i) * j1) (by omega), i64_small (x := jn n (pa p i) (pb p i) * j2) (by omega)]

    simp only [i64_small (x := sHi g (pa p i) (pb p i) + jn n (pa p i) (pb p i) * j1) (by omega), i64_small (x := sLo g (pa p i) (pb p i) + jn n (pa p i) (pb p i) * j2) (by omega)]
    show (bif true then (bif long n g j1 p i then _ else (bif short n g j2 p i then _ else _)) else _) = _
    cases long n g j1 p i <;> cases short n g j2 p i <;> rfl) (fun k' => by simp only [L41a.N]; rw [part_len h hk]; simp) (k + 1) 0 (Nat.zero_le _) (by omega)
  rw [← part_len h hk] at this
  simpa [L41a.run, L41a.mu, part_len h hk] using this

/-- What `failing` hands back. -/
theorem r41_cases (h : ROk n g j1 j2 k p) (hk : k ≤ 30) :
    ((∀ i, i < k → long n g j1 p i = false ∧ short n g j2 p i = false) ∧ r41.v0 n g j1 j2 k p = -1 ∧ r41.v1 n g j1 j2 k p = false) ∨
    ∃ i, i < k ∧ (long n g j1 p i || short n g j2 p i) = true ∧ (∀ l, l < i → long n g j1 p l = false ∧ short n g j2 p l = false) ∧ r41.v0 n g j1 j2 k p = i ∧ r41.v1 n g j1 j2 k p = long n g j1 p i := by
  unfold r41.v0 r41.v1
  rw [L41_run h hk]
  rcases srch_cases (fun i => long n g j1 p i || short n g j2 p i) (fun i => bif long n g j1 p i then L41a.O.e0 i else .e1 i) .e2 k 0 with ⟨a1, a2⟩ | ⟨i, a1, a2, a3, a4, a5⟩
  · rw [a2]
    exact .inl ⟨fun i hi => by simpa using a1 i (Nat.zero_le _) (by omega), rfl, rfl⟩
  · rw [a5]
    refine .inr ⟨i, by omega, a3, fun l hl => by simpa using a4 l (Nat.zero_le _) hl, ?_, ?_⟩ <;> cases long n g j1 p i <;> rfl

theorem ok_of (hn : n ≤ 9223372036854775807) (hk : k ≤ 9223372036854775807) (h : (r16.v n g j1 j2 k p == 0) = true) : ROk n g j1 j2 k p := checked hn hk (eq_of_beq h)
theorem bd_first (h : ROk n g j1 j2 k p) (hk : k ≤ 30) : r41.v0 n g j1 j2 k p < (r42.v k p).length := by
  rw [part_len h hk]
  rcases r41_cases h hk with ⟨_, e, _⟩ | ⟨i, hi, _, _, e, _⟩ <;> omega
theorem bd_failed (h : ROk n g j1 j2 k p) (hk : k ≤ 30) (h0 : ¬ (r41.v0 n g j1 j2 k p < 0)) : r41.v0 n g j1 j2 k p < (r42.v k p).length ∧ 0 ≤ (rget (r42.v k p) (r41.v0 n g j1 j2 k p).toNat).a ∧ (rget (r42.v k p) (r41.v0 n g j1 j2 k p).toNat).a ≤ (rget (r42.v k p) (r41.v0 n g j1 j2 k p).toNat).b ∧ (rget (r42.v k p) (r41.v0 n g j1 j2 k p).toNat).b ≤ n ∧ (rget (r42.v k p) (r41.v0 n g j1 j2 k p).toNat).b ≤ 512 := by
  have hb := bd_first h hk
  have hi : (r41.v0 n g j1 j2 k p).toNat < (r42.v k p).length := by omega
  have := hint_a h hk hi; have := hint_b h hk hi; have := hint_c h hk hi; have := h.le; omega
theorem bd_failed2 (h : (r16.v n g j1 j2 k p == 0) = true) (hn : n ≤ 9223372036854775807) (hk : k ≤ 30) (h0 : ¬ (r41.v0 n g j1 j2 k p < 0)) : r41.v0 n g j1 j2 k p < (r42.v k p).length ∧ 0 ≤ (rget (r42.v k p) (r41.v0 n g j1 j2 k p).toNat).a ∧ (rget (r42.v k p) (r41.v0 n g j1 j2 k p).toNat).a ≤ (rget (r42.v k p) (r41.v0 n g j1 j2 k p).toNat).b ∧ (rget (r42.v k p) (r41.v0 n g j1 j2 k p).toNat).b ≤ n ∧ (rget (r42.v k p) (r41.v0 n g j1 j2 k p).toNat).b ≤ 512 :=
  bd_failed (ok_of hn (by omega) h) hk h0
end Go.Proofs.Ytjdakdjgkpfjkaa
