/- Plain laws: the reference's parts and sums; the lengths of a part that fails. Conditions: none. -/
import Derived.Test.YtjdakdjgkpfjkaaD7
open Go
namespace Go.Proofs.Ytjdakdjgkpfjkaa
set_option linter.unusedVariables false
set_option linter.unusedSimpArgs false
variable {n k : Nat} {g p : Nat → PD} {m j1 j2 : Int}

theorem r43_eq (h : ROk n g j1 j2 k p) (hk : k ≤ 30) {i : Nat} (hi : i < k) :
    r43.v0 p i = pa p i ∧ r43.v1 p i = pb p i ∧ r43.v2 n p i = jn n (pa p i) (pb p i) ∧ r43.v3 p i = prm p i := by
  have hb := pb_eq h.pl hi
  have hab := pab h.pl hi
  have ha := pa_eq h.pl hi
  have h1 := h.pl.at1 i hi
  have h2 := h.pl.at2 i hi
  have hn := h.le
  have hb' : (p i).lo = pb p i := hb
  unfold r43.v0 r43.v1 r43.v2 r43.v3
  simp only [Int.toNat_natCast, hb']
  have heq : ∀ x : Int, (bif ((pb p i : Nat) : Int) == (n : Int) then x - 1 else x) = x - (if pb p i = n then 1 else 0) := fun x => by
    by_cases e : pb p i = n
    · rw [if_pos e, e]; simp
    · rw [if_neg e, show (((pb p i : Nat) : Int) == (n : Int)) = false by simpa using fun e' => e (by omega)]; simp
  by_cases e : i = 0
  · subst e
    have e0 : pa p 0 = 0 := rfl
    have ep : prm p 0 = (p 0).hi := by unfold prm; simp
    rw [decide_eq_false (by omega)]
    simp only [cond_false, e0, ep]
    refine ⟨rfl, trivial, ?_, by rw [i64_small (by omega)]; omega⟩
    rw [i64_small (x := (pb p 0 : Int) - 0) (by omega), i64_small (x := (pb p 0 : Int) - 0 - 1) (by omega), heq]
    unfold jn; simp
  · have hlt : i - 1 < k := by omega
    have h3 := h.pl.lo (i - 1) hlt
    have h5 := h.pl.at1 (i - 1) hlt
    have h6 := h.pl.at2 (i - 1) hlt
    have ea : (p (i - 1)).lo = pa p i := by rw [← ha]; unfold ptB; simp [e]
    have ep : prm p i = (p i).hi - (p (i - 1)).hi := by unfold prm; simp [e]
    rw [decide_eq_true (show (i : Int) > 0 by omega), pred_idx (n := k) (by omega) hi (by omega)]
    simp only [cond_true, ea, ep]
    refine ⟨trivial, trivial, ?_, by rw [i64_small (by omega)]⟩
    rw [i64_small (x := (pb p i : Int) - (pa p i : Nat)) (by omega), i64_small (x := (pb p i : Int) - (pa p i : Nat) - 1) (by omega), heq]
    unfold jn; rfl

theorem L44_run {w : Nat} (hw : w ≤ 512) (hg : ∀ i, i < w → 0 ≤ (g i).lo ∧ (g i).lo ≤ 1000000 ∧ 0 ≤ (g i).hi ∧ (g i).hi ≤ 1000000) (u : Nat) :
    ∀ m c, u + c ≤ w → w - (u + c) < m → L44a.N g w m (sumB (fun i => (g i).lo) u c) (sumB (fun i => (g i).hi) u c) ((u + c : Nat) : Int) = .e0 (sumB (fun i => (g i).lo) u (w - u)) (sumB (fun i => (g i).hi) u (w - u)) := by
  intro m
  induction m with
  | zero => intro c _ h; omega
  | succ m ih =>
    intro c hc hm
    simp only [L44a.N, Int.toNat_natCast]
    by_cases h : u + c < w
    · rw [decide_eq_true (show ((u + c : Nat) : Int) < (w : Int) by omega), wrap_succ (n := w) (by omega) h]
      simp only [cond_true]
      have b1 := sumB_bd (f := fun i => (g i).lo) (u := u) (b := 1000000) c fun i a b => ⟨(hg i (by omega)).1, (hg i (by omega)).2.1⟩
      have b2 := sumB_bd (f := fun i => (g i).hi) (u := u) (b := 1000000) c fun i a b => ⟨(hg i (by omega)).2.2.1, (hg i (by omega)).2.2.2⟩
      have b3 := hg (u + c) h
      rw [i64_small (by omega), i64_small (by omega)]
      exact ih (c + 1) h (by omega)
    · obtain rfl : w = u + c := by omega
      rw [decide_eq_false (by omega), Nat.add_sub_cancel_left]; rfl

theorem r44_eq (h : ROk n g j1 j2 k p) {u w : Nat} (hu : u ≤ w) (hw : w ≤ n) : r44.v0 g u w = sLo g u w ∧ r44.v1 g u w = sHi g u w := by
  have hn := h.le
  have e := L44_run (g := g) (w := w) (by omega) (fun i hi => by
    have := h.l1 i (by omega); have := h.l2 i (by omega); have := h.l3 i (by omega); omega) u (w - u + 1) 0 (by omega) (by omega)
  have e' : L44a.run g w 0 0 u = .e0 (sumB (fun i => (g i).lo) u (w - u)) (sumB (fun i => (g i).hi) u (w - u)) := by
    simpa [L44a.run, L44a.mu, sumB] using e
  unfold r44.v0 r44.v1 sLo sHi
  rw [e']
  exact ⟨rfl, rfl⟩

theorem hint43 (h : ROk n g j1 j2 k p) (hk : k ≤ 30) {i : Int} (h0 : 0 ≤ i) (h1 : i < k) : 0 ≤ r43.v0 p i ∧ r43.v0 p i ≤ r43.v1 p i ∧ r43.v1 p i ≤ n ∧ r43.v1 p i ≤ 512 := by
  obtain ⟨j, rfl⟩ := Int.eq_ofNat_of_zero_le h0
  have hj : j < k := by omega
  obtain ⟨e1, e2, _, _⟩ := r43_eq h hk hj
  have := pab h.pl hj
  have := h.le
  rw [e1, e2]; omega
theorem hint43a (h : ROk n g j1 j2 k p) (hk : k ≤ 30) {i : Int} (h0 : 0 ≤ i) (h1 : i < k) : 0 ≤ r43.v0 p i := (hint43 h hk h0 h1).1
theorem hint43b (h : ROk n g j1 j2 k p) (hk : k ≤ 30) {i : Int} (h0 : 0 ≤ i) (h1 : i < k) : r43.v0 p i ≤ r43.v1 p i := (hint43 h hk h0 h1).2.1
theorem hint43c (h : ROk n g j1 j2 k p) (hk : k ≤ 30) {i : Int} (h0 : 0 ≤ i) (h1 : i < k) : r43.v1 p i ≤ n := (hint43 h hk h0 h1).2.2.1
theorem hint43d (h : ROk n g j1 j2 k p) (hk : k ≤ 30) {i : Int} (h0 : 0 ≤ i) (h1 : i < k) : r43.v1 p i ≤ 9223372036854775807 := by
  have := (hint43 h hk h0 h1).2.2.2; omega

theorem bd43 (h : ROk n g j1 j2 k p) (hk : k ≤ 30) {i : Int} (h1 : i < k) (h0 : 0 ≤ i) : 0 ≤ r43.v0 p i ∧ r43.v0 p i < r43.v1 p i ∧ r43.v1 p i ≤ n ∧ r43.v1 p i ≤ 512 ∧
    0 ≤ r43.v2 n p i ∧ r43.v2 n p i ≤ 512 ∧ r43.v0 p i + r43.v2 n p i ≤ r43.v1 p i ∧ r43.v0 p i + r43.v2 n p i ≤ n - 1 ∧ IntKind.i64.wrap (r43.v0 p i + r43.v2 n p i) = r43.v0 p i + r43.v2 n p i := by
  obtain ⟨j, rfl⟩ := Int.eq_ofNat_of_zero_le h0
  have hj : j < k := by omega
  obtain ⟨e1, e2, e3, _⟩ := r43_eq h hk hj
  have := pab h.pl hj
  have := h.le
  rw [e1, e2, e3]
  unfold jn
  split <;> (rw [i64_small (by omega)]; omega)
theorem bd22 (h : (r16.v n g j1 j2 k p == 0) = true) (hn : n ≤ 9223372036854775807) (hk : k ≤ 30) {i : Int} (h1 : i < (r42.v k p).length) (h0 : 0 ≤ i) :
    0 ≤ (rget (r42.v k p) i.toNat).a ∧ (rget (r42.v k p) i.toNat).a < (rget (r42.v k p) i.toNat).b ∧ (rget (r42.v k p) i.toNat).b ≤ n ∧ (rget (r42.v k p) i.toNat).b ≤ 512 ∧
    0 ≤ r33.v2 n g (rget (r42.v k p) i.toNat).a (rget (r42.v k p) i.toNat).b ∧ r33.v2 n g (rget (r42.v k p) i.toNat).a (rget (r42.v k p) i.toNat).b ≤ 512 := by
  have hr := ok_of hn (by omega) h
  obtain ⟨j, rfl⟩ := Int.eq_ofNat_of_zero_le h0
  simp only [Int.toNat_natCast]
  have hj : j < k := by rw [part_len hr hk] at h1; omega
  have e := (r33_part hr hk hj).2.2
  have hab := pab hr.pl hj
  have hle := hr.le
  have hb := jn_bd hab.1 hab.2 hle
  rw [e, part_get hr hk hj, pa_eq hr.pl hj, pb_eq hr.pl hj]
  omega
theorem bd_m2 {m2 : Nat} (h : (m2 : Int) = IntKind.i64.wrap ((n : Int) - 1)) (hn : n ≤ 9223372036854775807) : (m2 : Int) = n - 1 := by
  rw [h, i64_small (by omega)]
theorem bd42 (h : (r16.v n g j1 j2 k p == 0) = true) (hn : n ≤ 9223372036854775807) (hk : k ≤ 30) : (r42.v k p).length ≤ 30 := by
  rw [part_len (ok_of hn (by omega) h) hk]; exact hk
/-- The lengths of a part that fails. -/
def outL (b : Bool) (g : Nat → PD) (u w : Nat) : List Int := (List.range' u (w - u)).map fun i => bif b then (g i).hi else (g i).lo

theorem L19_run (h : ROk n g j1 j2 k p) (hk : k ≤ 30) {i : Nat} (hi : i < k) (e0 : r41.v0 n g j1 j2 k p = i) :
    ∀ m c v l, c ≤ pb p i - pa p i → pb p i - pa p i - c < m → ∃ v', L19a.N n g j1 j2 k p m v l (c : Int) = .e0 v' (l ++ outL (r41.v1 n g j1 j2 k p) g (pa p i + c) (pb p i)) := by
  have ha := pa_eq h.pl hi
  have hb := pb_eq h.pl hi
  have hab := pab h.pl hi
  have hn := h.le
  intro m
  induction m with
  | zero => intro c v l _ h; omega
  | succ m ih =>
    intro c v l hc hm
    simp only [L19a.N, e0, Int.toNat_natCast, part_get h hk hi, ha, hb]
    by_cases hlt : c < pb p i - pa p i
    · rw [decide_eq_true (show (c : Int) < ((pb p i - pa p i : Nat) : Int) by omega), wrap_succ (n := pb p i - pa p i) (by omega) hlt]
      simp only [cond_true]
      have hout : outL (r41.v1 n g j1 j2 k p) g (pa p i + c) (pb p i) = (bif r41.v1 n g j1 j2 k p then (g (pa p i + c)).hi else (g (pa p i + c)).lo) :: outL (r41.v1 n g j1 j2 k p) g (pa p i + (c + 1)) (pb p i) := by
        unfold outL
        rw [show pb p i - (pa p i + c) = (pb p i - (pa p i + (c + 1))) + 1 by omega, List.range'_succ]; rfl
      cases hv : r41.v1 n g j1 j2 k p with
      | true =>
        rw [hv] at hout ih
        simp only [cond_true] at hout ⊢
        obtain ⟨v', e⟩ := ih (c + 1) (v + 1) (l ++ [(g (pa p i + c)).hi]) hlt (by omega)
        exact ⟨v', by rw [e, hout, List.append_assoc]; rfl⟩
      | false =>
        rw [hv] at hout ih
        simp only [cond_false] at hout ⊢
        obtain ⟨v', e⟩ := ih (c + 1) (v + 1) (l ++ [(g (pa p i + c)).lo]) hlt (by omega)
        exact ⟨v', by rw [e, hout, List.append_assoc]; rfl⟩
    · obtain rfl : c = pb p i - pa p i := by omega
      rw [decide_eq_false (by omega)]
      refine ⟨v, ?_⟩
      unfold outL
      rw [show pb p i - (pa p i + (pb p i - pa p i)) = 0 by omega]
      simp

/-- Failing, of a valid run. -/
theorem r19_cases (h : ROk n g j1 j2 k p) (hk : k ≤ 30) (hz : r16.v n g j1 j2 k p = 0) :
    ((∀ i, i < k → long n g j1 p i = false ∧ short n g j2 p i = false) ∧ r19.v0 n g j1 j2 k p = 0 ∧ r19.v1 n g j1 j2 k p = [] ∧ r19.v2 n g j1 j2 k p = 9) ∨
    ∃ i, i < k ∧ (long n g j1 p i || short n g j2 p i) = true ∧ (∀ l, l < i → long n g j1 p l = false ∧ short n g j2 p l = false) ∧
      r19.v0 n g j1 j2 k p = i ∧ r19.v1 n g j1 j2 k p = outL (long n g j1 p i) g (pa p i) (pb p i) ∧ r19.v2 n g j1 j2 k p = 0 := by
  unfold r19.v0 r19.v1 r19.v2
  rw [hz]
  simp only [beq_self_eq_true, cond_true]
  rcases r41_cases h hk with ⟨a1, a2, _⟩ | ⟨i, hi, a1, a2, a3, a4⟩
  · rw [a2]
    exact .inl ⟨a1, rfl, rfl, rfl⟩
  · right
    refine ⟨i, hi, a1, a2, ?_⟩
    have hab := pab h.pl hi
    obtain ⟨v', e⟩ := L19_run h hk hi a3 (pb p i - pa p i + 1) 0 0 [] (Nat.zero_le _) (by omega)
    have e' : L19a.run n g j1 j2 k p 0 [] 0 = .e0 v' (outL (r41.v1 n g j1 j2 k p) g (pa p i) (pb p i)) := by
      have ha := pa_eq h.pl hi
      have hb := pb_eq h.pl hi
      simpa [L19a.run, L19a.mu, a3, part_get h hk hi, ha, hb] using e
    rw [e', a3, decide_eq_false (by omega), a4]
    exact ⟨rfl, rfl, rfl⟩
end Go.Proofs.Ytjdakdjgkpfjkaa
