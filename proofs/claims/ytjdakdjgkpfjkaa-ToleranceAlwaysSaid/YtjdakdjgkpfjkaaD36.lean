/- The law of widths for all lengths, in plain words. Conditions: none. -/
import Derived.Test.YtjdakdjgkpfjkaaD34
open Go
namespace Go.Proofs.Ytjdakdjgkpfjkaa
set_option linter.unusedVariables false
set_option linter.unusedSimpArgs false
variable {n : Nat} {g : Nat → PD} {j1 j2 : Int} {k : Nat} {p : Nat → PD} {m : Nat} {f F : Nat → Int}

theorem wdt_bd {q j : Int} (h0 : 0 ≤ q) (h1 : q ≤ 2000000000) (hj : 0 ≤ j) (x : Nat) : 0 ≤ wdt q j x ∧ wdt q j x ≤ 2000000001 := by
  have a : 0 ≤ q.tdiv j := Int.tdiv_nonneg h0 hj
  have b : q.tdiv j ≤ q := by
    rw [Int.tdiv_eq_ediv_of_nonneg h0]
    exact Int.ediv_le_self _ h0
  unfold wdt
  split <;> omega

theorem L7b_run {J : Nat → Int} {u t : Nat} {q j : Int} (hJ : ∀ x, x < t → J (u + x) = wdt q j x) (hu : u + t ≤ 512) (h0 : 0 ≤ q) (h1 : q ≤ 2000000000) (hj : 0 ≤ j) :
    ∀ m x, 1 ≤ x → t - x < m → L7ab.N J (u : Int) ((u + t : Nat) : Int) m ((u + x : Nat) : Int) = .e1 := by
  intro m
  induction m with
  | zero => intro x _ h; omega
  | succ m ih =>
    intro x hx hm
    simp only [L7ab.N]
    by_cases hlt : x < t
    · have e1 := hJ x hlt
      have e2 := hJ (x - 1) (by omega)
      have e3 := hJ 0 (by omega)
      have b := wdt_bd h0 h1 hj x
      have m1 : wdt q j x ≤ wdt q j (x - 1) := by
        unfold wdt; split <;> split <;> omega
      have m2 : wdt q j 0 ≤ wdt q j x + 1 := by
        unfold wdt; split <;> split <;> omega
      have ei : (IntKind.i64.wrap (((u + x : Nat) : Int) - 1)).toNat = u + (x - 1) := by
        rw [i64_small (by omega)]; omega
      rw [decide_eq_true (show ((u + x : Nat) : Int) < ((u + t : Nat) : Int) by omega), wrap_succ (n := 512) (by omega) (by omega)]
      simp only [ei, Int.toNat_natCast, e1, e2]
      rw [Nat.add_zero] at e3
      rw [e3, decide_eq_false (show ¬ wdt q j (x - 1) < wdt q j x by omega)]
      simp only [i64_small (x := wdt q j x + 1) (by omega)]
      rw [decide_eq_false (show ¬ wdt q j 0 > wdt q j x + 1 by omega)]
      exact ih (x + 1) (by omega) (by omega)
    · rw [decide_eq_false (by omega)]; rfl

theorem L7_run (h : ROk n g j1 j2 k p) (hk : k ≤ 30) (ho : okL g n F = true) (hb : ∀ t, t < k → badJ n j1 j2 p F t = false) :
    ∀ q (i : Nat) (u : Int), i ≤ k → k - i < q → (i < k → u = pa p i) → L7a.N k p (n - 1) (fun x => (wLs n p F 0 k).getD x 0) q u (i : Int) = .e1 := by
  have hn := h.le
  intro q
  induction q with
  | zero => intro i u _ h; omega
  | succ q ih =>
    intro i u hi hq hu
    simp only [L7a.N, Int.toNat_natCast]
    by_cases hlt : i < k
    · have hab := pab h.pl hlt
      have hm := bad_mul h hlt
      have hjf := jb_fit h hlt
      have hlo := h.pl.lo i hlt
      have hpb : (p i).lo = (pb p i : Int) := by unfold pb; omega
      have hbt := hb i hlt
      have hl := lft_bd h hlt (ok_bd h ho)
      unfold badJ at hbt
      simp only [decide_eq_false_iff_not, Bool.or_eq_false_iff] at hbt
      have ev : (if (if ((n - 1 : Nat) : Int) < (p i).lo then ((n - 1 : Nat) : Int) else (p i).lo) > u then (if ((n - 1 : Nat) : Int) < (p i).lo then ((n - 1 : Nat) : Int) else (p i).lo) else u) = ((pa p i + (jb n p i).toNat : Nat) : Int) := by
        rw [hu hlt, hpb]
        have h3 := hjf.2.2
        split at h3 <;> split <;> split <;> omega
      rw [decide_eq_true (show (i : Int) < (k : Int) by omega), ev, wrap_succ (n := k) (by omega) hlt, hu hlt]
      simp only [cond_true]
      have e := L7b_run (J := fun x => (wLs n p F 0 k).getD x 0) (u := pa p i) (t := (jb n p i).toNat) (q := lft p F i) (j := jb n p i) (fun x hx => wLs_at h hlt hx) (by omega) (by omega) (by omega) hm.1 (((((pa p i + (jb n p i).toNat : Nat) : Int)) - (((pa p i : Nat) : Int) + 1)).toNat + 1) 1 (Nat.le_refl _) (by omega)
      have e' : L7ab.run (fun x => (wLs n p F 0 k).getD x 0) (pa p i : Int) ((pa p i + (jb n p i).toNat : Nat) : Int) (IntKind.i64.wrap ((pa p i : Int) + 1)) = .e1 := by
        unfold L7ab.run
        rw [i64_small (by omega)]
        exact e
      rw [e']
      refine ih (i + 1) _ hlt (by omega) fun hk1 => ?_
      have e1 : pb p i ≠ n := fun e => by have := (pb_last h hlt).1 e; omega
      have hj := jb_eq (n := n) (p := p) i
      rw [if_neg e1] at hj
      rw [pa_succ h hk1]
      omega
    · rw [decide_eq_false (by omega)]; rfl

theorem r7_true (hn : n ≤ 9223372036854775807) : r7.v n g j1 j2 k p m f = true := by
  unfold r7.v
  cases h12 : r12.v n k with
  | false => rfl
  | true =>
    simp only [cond_true]
    have hk := (bd12 h12).2
    rcases r18_cases (n := n) (g := g) (j1 := j1) (j2 := j2) (p := p) hn hk with ⟨a, b, _⟩ | ⟨hr, hz, b, c⟩
    · rw [show (r18.v1 n g j1 j2 k p == 0) = false from beq_eq_false_iff_ne.2 b, a]; rfl
    · rw [b]
      simp only [beq_self_eq_true, cond_true, r30_len hr]
      have ho := pick_ok (m := m) (f := f) hr
      have hpos := hr.pos
      generalize (fun i => (r30.v n g m f).getD i 0) = F at ho ⊢
      rcases r22_cases (f := F) hr hk hz with ⟨a1, _⟩ | ⟨_, ⟨t, t1, t2⟩, a3, a4⟩ | ⟨_, a2, a3, a4⟩
      · rw [ho] at a1; cases a1
      · rw [a3, a4, c]
        have : anyN k (fun i => long n g j1 p i || short n g j2 p i) = true := by
          cases hc : anyN k (fun i => long n g j1 p i || short n g j2 p i) with
          | true => rfl
          | false =>
            have := anyN_false.1 hc t t1
            simp only [Bool.or_eq_false_iff] at this
            rw [closes_fit hr ho t1 this.1 this.2] at t2; cases t2
        rw [this]; rfl
      · have hl := wLs_len0 (f := F) hr
        have e1 : (wLs n p F 0 k).length = n - 1 := by omega
        rw [a4, a3, e1]
        obtain ⟨q1, q2⟩ := r23_eq (f := F) (f2 := fun i => (wLs n p F 0 k).getD i 0) hr hk hz
        rw [q1, q2, wLs_meets hr ho a2, i64_small (by have := hr.le; omega)]
        rw [show ((((n - 1 : Nat) : Int)) == (n : Int) - 1) = true from beq_iff_eq.2 (by omega)]
        have e2 := L7_run hr hk ho a2 (((k : Int) - 0).toNat + 1) 0 0 (Nat.zero_le _) (by omega) (fun _ => rfl)
        have e3 : L7a.run k p (n - 1) (fun x => (wLs n p F 0 k).getD x 0) 0 0 = .e1 := e2
        rw [e3]; rfl
end Go.Proofs.Ytjdakdjgkpfjkaa
