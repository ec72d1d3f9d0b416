/- Plain laws: what Joints and Meets hand back. Conditions: none. -/
import Derived.Test.YtjdakdjgkpfjkaaD10
open Go
namespace Go.Proofs.Ytjdakdjgkpfjkaa
set_option linter.unusedVariables false
set_option linter.unusedSimpArgs false
variable {n k : Nat} {g p : Nat → PD} {j1 j2 : Int} {f f2 : Nat → Int}

/-- What is left of a part's room. -/
def lft (p : Nat → PD) (f : Nat → Int) (i : Nat) : Int := prm p i - sumB f (pa p i) (pb p i - pa p i)
def jb (n : Nat) (p : Nat → PD) (i : Nat) : Int := jn n (pa p i) (pb p i)
def badJ (n : Nat) (j1 j2 : Int) (p : Nat → PD) (f : Nat → Int) (i : Nat) : Bool := decide (lft p f i < jb n p i * j1) || decide (lft p f i > jb n p i * j2)
/-- The widths of a part. -/
def wdt (q j : Int) (x : Nat) : Int := if (x : Int) < q.tmod j then q.tdiv j + 1 else q.tdiv j
def wL (n : Nat) (p : Nat → PD) (f : Nat → Int) (i : Nat) : List Int := (List.range' 0 (jb n p i).toNat).map (wdt (lft p f i) (jb n p i))
def wLs (n : Nat) (p : Nat → PD) (f : Nat → Int) (u : Nat) : Nat → List Int
  | 0 => []
  | c + 1 => wL n p f u ++ wLs n p f (u + 1) c

theorem sumB_shift (f : Nat → Int) (u : Nat) : ∀ c, sumB (fun i => f (u + i)) 0 c = sumB f u c := by
  intro c
  induction c with
  | zero => rfl
  | succ c ih => simp only [sumB, ih, Nat.zero_add]

theorem sumB_abs {f : Nat → Int} {u : Nat} {b : Int} : ∀ c, (∀ i, u ≤ i → i < u + c → 0 ≤ f i ∧ f i ≤ b) → c ≤ 512 → b ≤ 1000000 → 0 ≤ sumB f u c ∧ sumB f u c ≤ 512000000 := by
  intro c h hc hb
  have := sumB_bd (f := f) (u := u) (b := 1000000) c fun i a d => by have := h i a d; omega
  omega

theorem r47_eq {f : Nat → Int} {m : Nat} (hm : m ≤ 512) (hf : ∀ i, i < m → 0 ≤ f i ∧ f i ≤ 1000000) : r47.v m f = sumB f 0 m := by
  have key : ∀ q c, c ≤ m → m - c < q → L47a.N m f q (sumB f 0 c) (c : Int) = .e0 (sumB f 0 m) := by
    intro q
    induction q with
    | zero => intro c _ h; omega
    | succ q ih =>
      intro c hc hq
      simp only [L47a.N, Int.toNat_natCast]
      by_cases h : c < m
      · rw [decide_eq_true (show (c : Int) < (m : Int) by omega), wrap_succ (n := m) (by omega) h]
        simp only [cond_true]
        have b1 := sumB_abs (f := f) (u := 0) (b := 1000000) c (fun i a b => hf i (by omega)) (by omega) (by omega)
        have b3 := hf c h
        rw [i64_small (by omega)]
        have := ih (c + 1) h (by omega)
        simp only [sumB, Nat.zero_add] at this
        exact this
      · obtain rfl : c = m := by omega
        rw [decide_eq_false (by omega)]; rfl
  have e := key (m + 1) 0 (Nat.zero_le _) (by omega)
  have e' : L47a.run m f 0 0 = .e0 (sumB f 0 m) := by simpa [L47a.run, L47a.mu, sumB] using e
  unfold r47.v
  rw [e']

theorem prm_bd (h : ROk n g j1 j2 k p) {i : Nat} (hi : i < k) : -1000000000 ≤ prm p i ∧ prm p i ≤ 1000000000 := by
  have h1 := h.pl.at1 i hi
  have h2 := h.pl.at2 i hi
  unfold prm
  by_cases e : i = 0
  · simp only [e, if_true] at *; omega
  · have h3 := h.pl.at1 (i - 1) (by omega)
    have h4 := h.pl.at2 (i - 1) (by omega)
    rw [if_neg e]; omega

theorem sum_part (h : ROk n g j1 j2 k p) {i : Nat} (hi : i < k) (hf : ∀ i, i < n → 0 ≤ f i ∧ f i ≤ 1000000) : 0 ≤ sumB f (pa p i) (pb p i - pa p i) ∧ sumB f (pa p i) (pb p i - pa p i) ≤ 512000000 := by
  have hab := pab h.pl hi
  have hn := h.le
  exact sumB_abs (b := 1000000) _ (fun j a b => hf j (by omega)) (by omega) (by omega)

theorem lft_bd (h : ROk n g j1 j2 k p) {i : Nat} (hi : i < k) (hf : ∀ i, i < n → 0 ≤ f i ∧ f i ≤ 1000000) : -2000000000 ≤ lft p f i ∧ lft p f i ≤ 1000000000 := by
  have h1 := prm_bd h hi
  have h2 := sum_part h hi hf
  unfold lft; omega

/-- The left-over of a part as the program reckons it. -/
theorem left_eq (h : ROk n g j1 j2 k p) (hk : k ≤ 30) {i : Nat} (hi : i < k) (hf : ∀ i, i < n → 0 ≤ f i ∧ f i ≤ 1000000) :
    IntKind.i64.wrap ((rget (r42.v k p) i).room - r47.v ((rget (r42.v k p) i).b.toNat - (rget (r42.v k p) i).a.toNat) fun (i_1 : Nat) => f ((rget (r42.v k p) i).a.toNat + i_1)) = lft p f i := by
  have ha := pa_eq h.pl hi
  have hb := pb_eq h.pl hi
  have hab := pab h.pl hi
  have hn := h.le
  have hl := lft_bd h hi hf
  rw [part_get h hk hi, ha, hb]
  simp only [Int.toNat_natCast]
  rw [r47_eq (by omega) (fun j hj => hf _ (by omega)), sumB_shift]
  show IntKind.i64.wrap (prm p i - sumB f (pa p i) (pb p i - pa p i)) = _
  unfold lft at hl ⊢
  rw [i64_small (by omega)]

theorem wdt_wrap {q j : Int} (h0 : 0 ≤ q) (h1 : q ≤ 2000000000) (hj : 0 ≤ j) : IntKind.i64.wrap (q.tdiv j) = q.tdiv j ∧ IntKind.i64.wrap (q.tdiv j + 1) = q.tdiv j + 1 := by
  have a : 0 ≤ q.tdiv j := Int.tdiv_nonneg h0 hj
  have b : q.tdiv j ≤ q := by
    rw [Int.tdiv_eq_ediv_of_nonneg h0]
    exact Int.ediv_le_self _ h0
  exact ⟨i64_small (by omega), i64_small (by omega)⟩

theorem range_step {α : Type} (w : Nat → α) {c J : Nat} (h : c < J) : (List.range' c (J - c)).map w = w c :: (List.range' (c + 1) (J - (c + 1))).map w := by
  rw [show J - c = (J - (c + 1)) + 1 by omega, List.range'_succ]; rfl

theorem bad_mul (h : ROk n g j1 j2 k p) {i : Nat} (hi : i < k) : 0 ≤ jb n p i ∧ jb n p i ≤ 512 ∧ 0 ≤ jb n p i * j1 ∧ jb n p i * j1 ≤ 512000 ∧ 0 ≤ jb n p i * j2 ∧ jb n p i * j2 ≤ 512000 := by
  have hab := pab h.pl hi
  have hn := h.le
  have m1 := jn_mul (n := n) (j := j1) hab.1 hab.2 hn h.ja (by have := h.jb; have := h.jc; omega)
  have m2 := jn_mul (n := n) (j := j2) hab.1 hab.2 hn (by have := h.ja; have := h.jb; omega) h.jc
  have m3 := jn_bd hab.1 hab.2 hn
  unfold jb
  omega

/-! ### Joints -/
theorem L22b_run (h : ROk n g j1 j2 k p) (hk : k ≤ 30) {i : Nat} (hi : i < k) (hf : ∀ i, i < n → 0 ≤ f i ∧ f i ≤ 1000000) (h0 : 0 ≤ lft p f i) :
    ∀ m c v l, c ≤ (jb n p i).toNat → (jb n p i).toNat - c < m → ∃ v', L22ab.N n g k p f (i : Int) m v l (c : Int) = .e0 v' (l ++ (List.range' c ((jb n p i).toNat - c)).map (wdt (lft p f i) (jb n p i))) := by
  have hb := bad_mul h hi
  have hl := lft_bd h hi hf
  intro m
  induction m with
  | zero => intro c v l _ h; omega
  | succ m ih =>
    intro c v l hc hm
    have e : r33.v2 n g (rget (r42.v k p) i).a (rget (r42.v k p) i).b = jb n p i := (r33_part h hk hi).2.2
    have e2 := left_eq h hk hi hf
    obtain ⟨w1, w2⟩ := wdt_wrap h0 (by omega) hb.1
    simp only [L22ab.N, Int.toNat_natCast, e, e2, w1, w2]
    by_cases hlt : c < (jb n p i).toNat
    · rw [decide_eq_true (show (c : Int) < jb n p i by omega), wrap_succ (n := (jb n p i).toNat) (by omega) hlt, range_step _ hlt]
      simp only [cond_true]
      by_cases hx : (c : Int) < (lft p f i).tmod (jb n p i)
      · rw [decide_eq_true hx]
        obtain ⟨v', q⟩ := ih (c + 1) (v + 1) (l ++ [(lft p f i).tdiv (jb n p i) + 1]) hlt (by omega)
        refine ⟨v', ?_⟩
        simp only [cond_true]
        rw [q, List.append_assoc]
        simp only [wdt, if_pos hx]; rfl
      · rw [decide_eq_false hx]
        obtain ⟨v', q⟩ := ih (c + 1) (v + 1) (l ++ [(lft p f i).tdiv (jb n p i)]) hlt (by omega)
        refine ⟨v', ?_⟩
        simp only [cond_false]
        rw [q, List.append_assoc]
        simp only [wdt, if_neg hx]; rfl
    · rw [decide_eq_false (by omega), show (jb n p i).toNat - c = 0 by omega]
      exact ⟨v, by simp⟩

theorem L22_run (h : ROk n g j1 j2 k p) (hk : k ≤ 30) (hf : ∀ i, i < n → 0 ≤ f i ∧ f i ≤ 1000000) :
    ∀ m i v l, i ≤ k → k - i < m → ((∃ t, i ≤ t ∧ t < k ∧ badJ n j1 j2 p f t = true) ∧ ∃ a b, L22a.N n g j1 j2 k p f m v l (i : Int) = .e0 a b) ∨
      ((∀ t, i ≤ t → t < k → badJ n j1 j2 p f t = false) ∧ ∃ a, L22a.N n g j1 j2 k p f m v l (i : Int) = .e1 a (l ++ wLs n p f i (k - i))) := by
  intro m
  induction m with
  | zero => intro i v l _ h; omega
  | succ m ih =>
    intro i v l hi hm
    simp only [L22a.N, Int.toNat_natCast, part_len h hk]
    by_cases hlt : i < k
    · have e : r33.v2 n g (rget (r42.v k p) i).a (rget (r42.v k p) i).b = jb n p i := (r33_part h hk hlt).2.2
      have e2 := left_eq h hk hlt hf
      have hb := bad_mul h hlt
      simp only [e, e2]
      rw [decide_eq_true (show (i : Int) < (k : Int) by omega), i64_small (x := jb n p i * j1) (by omega), i64_small (x := jb n p i * j2) (by omega), wrap_succ (n := k) (by omega) hlt]
      simp only [cond_true]
      by_cases c1 : lft p f i < jb n p i * j1
      · simp only [decide_eq_true c1, cond_true]
        exact .inl ⟨⟨i, Nat.le_refl _, hlt, by unfold badJ; simp [c1]⟩, _, _, rfl⟩
      · by_cases c2 : lft p f i > jb n p i * j2
        · simp only [decide_eq_true c2, decide_eq_false c1, cond_true, cond_false]
          exact .inl ⟨⟨i, Nat.le_refl _, hlt, by unfold badJ; simp [c2]⟩, _, _, rfl⟩
        · simp only [decide_eq_false c2, decide_eq_false c1, cond_false]
          obtain ⟨v', q⟩ := L22b_run h hk hlt hf (by omega) ((jb n p i).toNat + 1) 0 v l (Nat.zero_le _) (by omega)
          have q' : L22ab.run n g k p f (i : Int) v l 0 = .e0 v' (l ++ wL n p f i) := by
            simp only [L22ab.run, Int.toNat_natCast, e]
            rw [show (jb n p i - 0).toNat = (jb n p i).toNat by simp]
            exact q
          rw [q']
          have hbf : badJ n j1 j2 p f i = false := by unfold badJ; simp [c1, c2]
          rcases ih (i + 1) v' (l ++ wL n p f i) hlt (by omega) with ⟨⟨t, t1, t2, t3⟩, a, b, q2⟩ | ⟨t1, a, q2⟩
          · exact .inl ⟨⟨t, by omega, t2, t3⟩, a, b, q2⟩
          · refine .inr ⟨fun t a1 a2 => ?_, a, ?_⟩
            · by_cases e4 : t = i
              · rw [e4]; exact hbf
              · exact t1 t (by omega) a2
            · refine q2.trans ?_
              rw [show k - i = (k - (i + 1)) + 1 by omega, wLs, List.append_assoc]
    · rw [decide_eq_false (by omega), show k - i = 0 by omega]
      exact .inr ⟨fun t a1 a2 => by omega, v, by simp [wLs]⟩

/-! ### Lengths within their intervals -/
def okL (g : Nat → PD) (m : Nat) (f : Nat → Int) : Bool := !anyN m fun i => decide (f i < (g i).lo) || decide (f i > (g i).hi)

theorem r45a_eq {m : Nat} (hm : m ≤ 9223372036854775807) : r45a.v g m f = okL g m f := by
  have := search_eq (n := m) (fun i => decide (f i < (g i).lo) || decide (f i > (g i).hi)) (fun _ => L45aa.O.e0) .e1 (N := L45aa.N g m f) (fun k' i h => by
    simp only [L45aa.N, wrap_succ hm h]
    rw [decide_eq_true (show (i : Int) < m by omega)]
    change (bif true then (bif decide (f i < (g i).lo) then L45aa.O.e0 else (bif decide (f i > (g i).hi) then L45aa.O.e0 else L45aa.N g m f k' ((i + 1 : Nat) : Int))) else L45aa.O.e1) = _
    cases decide (f i < (g i).lo) <;> cases decide (f i > (g i).hi) <;> rfl) (fun k => by simp [L45aa.N]) (m + 1) 0 (Nat.zero_le _) (by omega)
  rw [srch_any] at this
  have e : L45aa.run g m f 0 = bif anyN m (fun i => decide (f i < (g i).lo) || decide (f i > (g i).hi)) then .e0 else .e1 := by simpa [L45aa.run, L45aa.mu] using this
  unfold r45a.v okL
  rw [e]
  cases anyN m (fun i => decide (f i < (g i).lo) || decide (f i > (g i).hi)) <;> rfl

theorem r45b_eq {m : Nat} (hm : m ≤ 9223372036854775807) : r45b.v g m f = okL g m f := by
  have := search_eq (n := m) (fun i => decide (f i < (g i).lo) || decide (f i > (g i).hi)) (fun _ => L45ba.O.e0) .e1 (N := L45ba.N g m f) (fun k' i h => by
    simp only [L45ba.N, wrap_succ hm h]
    rw [decide_eq_true (show (i : Int) < m by omega)]
    change (bif true then (bif decide (f i < (g i).lo) then L45ba.O.e0 else (bif decide (f i > (g i).hi) then L45ba.O.e0 else L45ba.N g m f k' ((i + 1 : Nat) : Int))) else L45ba.O.e1) = _
    cases decide (f i < (g i).lo) <;> cases decide (f i > (g i).hi) <;> rfl) (fun k => by simp [L45ba.N]) (m + 1) 0 (Nat.zero_le _) (by omega)
  rw [srch_any] at this
  have e : L45ba.run g m f 0 = bif anyN m (fun i => decide (f i < (g i).lo) || decide (f i > (g i).hi)) then .e0 else .e1 := by simpa [L45ba.run, L45ba.mu] using this
  unfold r45b.v okL
  rw [e]
  cases anyN m (fun i => decide (f i < (g i).lo) || decide (f i > (g i).hi)) <;> rfl

theorem ok_bd (h : ROk n g j1 j2 k p) (ho : okL g n f = true) : ∀ i, i < n → 0 ≤ f i ∧ f i ≤ 1000000 := by
  intro i hi
  have h1 := h.l1 i hi
  have h3 := h.l3 i hi
  have := anyN_false.1 (by simpa [okL] using ho) i hi
  simp only [Bool.or_eq_false_iff, decide_eq_false_iff_not] at this
  omega

/-- What Joints hands back, of a valid run and as many lengths. -/
theorem r22_cases (h : ROk n g j1 j2 k p) (hk : k ≤ 30) (hz : r16.v n g j1 j2 k p = 0) :
    (okL g n f = false ∧ r22.v0 n g j1 j2 k p n f = [] ∧ r22.v1 n g j1 j2 k p n f = 6) ∨
    (okL g n f = true ∧ (∃ t, t < k ∧ badJ n j1 j2 p f t = true) ∧ r22.v0 n g j1 j2 k p n f = [] ∧ r22.v1 n g j1 j2 k p n f = 10) ∨
    (okL g n f = true ∧ (∀ t, t < k → badJ n j1 j2 p f t = false) ∧ r22.v0 n g j1 j2 k p n f = wLs n p f 0 k ∧ r22.v1 n g j1 j2 k p n f = 0) := by
  have hn := h.le
  unfold r22.v0 r22.v1
  rw [hz, r45a_eq (by omega)]
  simp only [beq_self_eq_true, cond_true]
  cases ho : okL g n f with
  | false => exact .inl ⟨rfl, rfl, rfl⟩
  | true =>
    right
    rcases L22_run h hk (ok_bd h ho) (k + 1) 0 0 [] (Nat.zero_le _) (by omega) with ⟨⟨t, t1, t2, t3⟩, a, b, q⟩ | ⟨t1, a, q⟩
    · have q' : L22a.run n g j1 j2 k p f 0 [] 0 = .e0 a b := by simpa [L22a.run, part_len h hk] using q
      rw [q']
      exact .inl ⟨rfl, ⟨t, t2, t3⟩, rfl, rfl⟩
    · have q' : L22a.run n g j1 j2 k p f 0 [] 0 = .e1 a (wLs n p f 0 k) := by simpa [L22a.run, part_len h hk] using q
      rw [q']
      exact .inr ⟨rfl, fun t ht => t1 t (Nat.zero_le _) ht, rfl, rfl⟩

theorem wL_len (h : ROk n g j1 j2 k p) {i : Nat} (hi : i < k) : (wL n p f i).length = (jb n p i).toNat := by
  unfold wL; simp
theorem jb_eq (i : Nat) : jb n p i = (pb p i : Int) - pa p i - (if pb p i = n then 1 else 0) := rfl
/-- One part follows the other. -/
theorem pa_succ (h : ROk n g j1 j2 k p) {i : Nat} (hi : i + 1 < k) : pa p (i + 1) = pb p i := by
  unfold pa pb; simp
theorem pb_last (h : ROk n g j1 j2 k p) {i : Nat} (hi : i < k) : pb p i = n ↔ i + 1 = k := by
  have h1 := h.pl.lo i hi
  constructor
  · intro e
    by_cases hk : i + 1 = k
    · exact hk
    · have h2 := h.pl.inc i (by omega)
      have h3 := h.pl.hi (i + 1) (by omega)
      unfold pb at e
      omega
  · intro e
    have h2 := h.pl.last
    rw [show k - 1 = i by omega] at h2
    unfold pb
    omega
theorem wLs_len (h : ROk n g j1 j2 k p) : ∀ c i, i + c = k → 0 < c → (wLs n p f i c).length + pa p i + 1 = n := by
  intro c
  induction c with
  | zero => intro i _ h0; omega
  | succ c ih =>
    intro i hi _
    have hik : i < k := by omega
    have hb := bad_mul h hik
    have hab := pab h.pl hik
    have hl := pb_last h hik
    have hj := jb_eq (n := n) (p := p) i
    simp only [wLs, List.length_append, wL_len h hik]
    by_cases hc : c = 0
    · subst hc
      have e : pb p i = n := hl.2 (by omega)
      rw [if_pos e] at hj
      simp only [wLs, List.length_nil]
      omega
    · have e : pb p i ≠ n := fun e => hc (by have := hl.1 e; omega)
      rw [if_neg e] at hj
      have := ih (i + 1) (by omega) (by omega)
      rw [pa_succ h (by omega)] at this
      omega
theorem wLs_len0 (h : ROk n g j1 j2 k p) : (wLs n p f 0 k).length + 1 = n := by
  have := wLs_len (f := f) h k 0 (by omega) h.pl.pos
  have e : pa p 0 = 0 := rfl
  omega
theorem bd22len {m : Nat} (h0 : (r22.v1 n g j1 j2 k p m f == 0) = true) (hn : n ≤ 9223372036854775807) (hk : k ≤ 30) : (r22.v0 n g j1 j2 k p m f).length ≤ 512 ∧ (r22.v0 n g j1 j2 k p m f).length + 1 = n ∧ m = n := by
  have h1 := eq_of_beq h0
  cases hz : (r16.v n g j1 j2 k p == 0) with
  | false =>
    have e1 : r22.v1 n g j1 j2 k p m f = r16.v n g j1 j2 k p := by unfold r22.v1; rw [hz]; rfl
    rw [e1] at h1
    rw [h1] at hz; cases hz
  | true =>
    by_cases hmn : m = n
    · subst hmn
      have h := ok_of hn (by omega) hz
      have hl := h.le
      rcases r22_cases (f := f) h hk (eq_of_beq hz) with ⟨_, _, e⟩ | ⟨_, _, _, e⟩ | ⟨_, _, e, _⟩
      · omega
      · omega
      · rw [e]; have := wLs_len0 (f := f) h; omega
    · have hne : ((m : Int) == (n : Int)) = false := beq_eq_false_iff_ne.2 (by omega)
      have e1 : r22.v1 n g j1 j2 k p m f = 1 := by unfold r22.v1; rw [hz, hne]; rfl
      omega

/-! ### Meets -/
def okJ (j1 j2 : Int) (m : Nat) (f : Nat → Int) : Bool := !anyN m fun i => decide (f i < j1) || decide (f i > j2)
def mtB (n : Nat) (p : Nat → PD) (f f2 : Nat → Int) (i : Nat) : Bool := decide (lft p f i = sumB f2 (pa p i) (jb n p i).toNat)

theorem r45c_eq {m : Nat} (hm : m ≤ 9223372036854775807) : r45c.v j1 j2 m f = okJ j1 j2 m f := by
  have := search_eq (n := m) (fun i => decide (f i < j1) || decide (f i > j2)) (fun _ => L45ca.O.e0) .e1 (N := L45ca.N j1 j2 m f) (fun k' i h => by
    simp only [L45ca.N, wrap_succ hm h, Int.toNat_natCast]
    rw [decide_eq_true (show (i : Int) < m by omega)]
    cases decide (f i < j1) <;> cases decide (f i > j2) <;> rfl) (fun k => by simp [L45ca.N]) (m + 1) 0 (Nat.zero_le _) (by omega)
  rw [srch_any] at this
  have e : L45ca.run j1 j2 m f 0 = bif anyN m (fun i => decide (f i < j1) || decide (f i > j2)) then .e0 else .e1 := by simpa [L45ca.run, L45ca.mu] using this
  unfold r45c.v okJ
  rw [e]
  cases anyN m (fun i => decide (f i < j1) || decide (f i > j2)) <;> rfl

theorem okJ_bd (h : ROk n g j1 j2 k p) {m : Nat} (ho : okJ j1 j2 m f = true) : ∀ i, i < m → 0 ≤ f i ∧ f i ≤ 1000000 := by
  intro i hi
  have h1 := h.ja
  have h3 := h.jc
  have := anyN_false.1 (by simpa [okJ] using ho) i hi
  simp only [Bool.or_eq_false_iff, decide_eq_false_iff_not] at this
  omega

theorem jb_fit (h : ROk n g j1 j2 k p) {i : Nat} (hi : i < k) : pa p i + (jb n p i).toNat ≤ n - 1 ∧ ((jb n p i).toNat : Int) = jb n p i ∧ (if pb p i = n then n - 1 else pb p i) = pa p i + (jb n p i).toNat := by
  have hb := bad_mul h hi
  have hab := pab h.pl hi
  have hj := jb_eq (n := n) (p := p) i
  split at hj
  · rw [if_pos (by assumption)]; omega
  · rw [if_neg (by assumption)]; omega

theorem L23_run (h : ROk n g j1 j2 k p) (hk : k ≤ 30) (hf : ∀ i, i < n → 0 ≤ f i ∧ f i ≤ 1000000) (hf2 : ∀ i, i < n - 1 → 0 ≤ f2 i ∧ f2 i ≤ 1000000) : L23a.run k p f (n - 1) f2 0 = bif anyN k (fun i => !mtB n p f f2 i) then .e0 else .e1 := by
  have := search_eq (n := k) (fun i => !mtB n p f f2 i) (fun _ => L23a.O.e0) .e1 (N := L23a.N k p f (n - 1) f2) (fun k' i hi => by
    have hab := pab h.pl hi
    have hn := h.le
    have hjf := jb_fit h hi
    have hb := bad_mul h hi
    have ha := pa_eq h.pl hi
    have hb' := pb_eq h.pl hi
    have hs := sum_part h hi hf
    have hs2 := sumB_abs (f := f2) (u := pa p i) (b := 1000000) (jb n p i).toNat (fun j a b => hf2 j (by omega)) (by omega) (by omega)
    simp only [L23a.N, wrap_succ (n := k) (by omega) hi, Int.toNat_natCast, part_get h hk hi, part_len h hk]
    rw [decide_eq_true (show (i : Int) < k by omega), ha, hb']
    simp only [Int.toNat_natCast, cond_true]
    have hmin : (if ((n - 1 : Nat) : Int) < ((pb p i : Nat) : Int) then ((n - 1 : Nat) : Int) else ((pb p i : Nat) : Int)).toNat - pa p i = (jb n p i).toNat := by
      have h3 := hjf.2.2
      split at h3 <;> split <;> omega
    rw [hmin, r47_eq (by omega) (fun j hj => hf _ (by omega)), r47_eq (by omega) (fun j hj => hf2 _ (by omega)), sumB_shift, sumB_shift, i64_small (by omega)]
    have e : (sumB f (pa p i) (pb p i - pa p i) + sumB f2 (pa p i) (jb n p i).toNat == (ptB p i).room) = mtB n p f f2 i := by
      unfold mtB lft
      show decide (_ = prm p i) = _
      exact decide_eq_decide.2 ⟨fun a => by omega, fun a => by omega⟩
    rw [e]
    cases mtB n p f f2 i <;> rfl) (fun k' => by simp only [L23a.N]; rw [part_len h hk]; simp) (k + 1) 0 (Nat.zero_le _) (by omega)
  rw [srch_any] at this
  simpa [L23a.run, L23a.mu, part_len h hk] using this

def meets (n : Nat) (g : Nat → PD) (j1 j2 : Int) (k : Nat) (p : Nat → PD) (f f2 : Nat → Int) : Bool := okL g n f && (okJ j1 j2 (n - 1) f2 && !anyN k fun i => !mtB n p f f2 i)

theorem r23_eq (h : ROk n g j1 j2 k p) (hk : k ≤ 30) (hz : r16.v n g j1 j2 k p = 0) : r23.v0 n g j1 j2 k p n f (n - 1) f2 = meets n g j1 j2 k p f f2 ∧ r23.v1 n g j1 j2 k p n (n - 1) = 0 := by
  have hn := h.le
  have hp := h.pos
  have e : (((n - 1 : Nat) : Int) == IntKind.i64.wrap ((n : Int) - 1)) = true := by
    rw [i64_small (by omega)]; exact beq_iff_eq.2 (by omega)
  unfold r23.v0 r23.v1 meets
  rw [hz, e, r45b_eq (by omega), r45c_eq (by omega)]
  simp only [beq_self_eq_true, cond_true]
  refine ⟨?_, trivial⟩
  cases ho : okL g n f with
  | false => rfl
  | true =>
    cases hj : okJ j1 j2 (n - 1) f2 with
    | false => rfl
    | true =>
      rw [L23_run h hk (ok_bd h ho) (okJ_bd h hj)]
      cases anyN k (fun i => !mtB n p f f2 i) <;> rfl

end Go.Proofs.Ytjdakdjgkpfjkaa
