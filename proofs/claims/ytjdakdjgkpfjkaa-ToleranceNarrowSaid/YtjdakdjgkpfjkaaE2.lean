/- The wall of the chapter's examples. Conditions: none. -/
import Derived.Test.YtjdakdjgkpfjkaaD13
open Go
namespace Go.Proofs.Ytjdakdjgkpfjkaa
set_option linter.unusedVariables false
set_option linter.unusedSimpArgs false
def tabL : List Int :=
  List.replicate 40 0 ++ [4, 4, 0, 4, 4, 0, 0, 4] ++ List.replicate 10 2 ++ [4, 0, 4, 4, 4, 0, 0] ++ List.replicate 26 1 ++ [0, 0, 0, 0, 3, 0] ++ List.replicate 26 1 ++ List.replicate 133 0
def tab : AV := .agg (tabL.map (.int .u8))
set_option maxHeartbeats 0
theorem r96 (h : AHeap) : Ret Try.prog 96 [] h tab h :=
  (interp_sound mix (c0 := fun _ _ _ => none) (fun _ _ _ _ _ h => by cases h) 300 96 [] [] tab [] (by kernel_rfl)).frame (by simp) h

def c96 : CallF := fun g args h => match Nat.beq g 96, args with
  | true, [] => some (tab, h)
  | _, _ => none
theorem c96_ok : CallOk Try.prog c96 := by
  intro g args h r h' hc
  unfold c96 at hc
  split at hc
  · rename_i hg
    cases Nat.eq_of_beq_eq_true hg
    cases hc
    exact r96 h
  · cases hc
def stone (s : UInt8) (x w t b : Int) : List AV := [.str (ByteArray.mk #[s]), .int .i64 x, .int .i64 0, .int .i64 w, .int .i64 t, .int .i64 b, .int .i64 0, .int .i64 0, .int .i64 0, .int .i64 0, .str (ByteArray.mk #[]), .int .i64 0, .str (ByteArray.mk #[]), .snil]
def wallA : AV := .agg [.str (ByteArray.mk #[119]), .sl 14 2 (fun a => (Col.ofList [.agg (stone 97 300 200 1 0), .agg (stone 98 290 200 2 310)]).get a), .int .i64 0, .int .i64 5, .int .i64 10, .int .i64 600]
def eqI (a : AV) (x : Int) : Bool := match a with | .int .i64 y => decide (y = x) | _ => false
def eqP (a : AV) (x y : Int) : Bool := match a with | .agg [p, q] => eqI p x && eqI q y | _ => false
def isRun (r : AV × AHeap) : Bool :=
  match r with
  | (.tup [.agg [.sl 2 2 f, a, b, .sl 2 1 g], e], []) => eqP (f 0) 299 301 && (eqP (f 1) 288 292 && (eqI a 5 && (eqI b 10 && (eqP (g 0) 2 600 && eqI e 0))))
  | _ => false
theorem eqI_eq {a : AV} {x : Int} (h : eqI a x = true) : a = .int .i64 x := by
  unfold eqI at h
  split at h
  · rw [of_decide_eq_true h]
  · cases h
theorem eqP_eq {a : AV} {x y : Int} (h : eqP a x y = true) : a = (PD.mk x y).av := by
  unfold eqP at h
  split at h
  · rw [Bool.and_eq_true] at h
    rw [eqI_eq h.1, eqI_eq h.2]
    rfl
  · cases h
def ofG (i : Nat) : PD := [PD.mk 299 301, PD.mk 288 292].getD i default
theorem isRun_imp {r : AV × AHeap} (h : isRun r = true) : Imp r.1 (.tup [rn 2 ofG 5 10 1 (fun _ => ⟨2, 600⟩), .int .i64 0]) ∧ r.2 = [] := by
  unfold isRun at h
  split at h
  · rename_i f a b g e
    simp only [Bool.and_eq_true] at h
    obtain ⟨h1, h2, h3, h4, h5, h6⟩ := h
    rw [eqI_eq h3, eqI_eq h4, eqI_eq h6]
    refine ⟨.tup (.cons (.agg (.cons (Imp.sl fun i hi => ?_) (.cons (.refl _) (.cons (.refl _) (.cons (Imp.sl fun i hi => ?_) .nil))))) (.cons (.refl _) .nil)), rfl⟩
    · rcases i with _ | _ | i
      · rw [eqP_eq h1]; exact ImpL.refl _
      · rw [eqP_eq h2]; exact ImpL.refl _
      · omega
    · rcases i with _ | i
      · rw [eqP_eq h5]; exact ImpL.refl _
      · omega
  · cases h
theorem run32 : (interp Try.prog c96 300 32 [wallA, .int .i64 0] []).map isRun = some true := by kernel_rfl
theorem c32 (h : AHeap) : Ret Try.prog 32 [wallA, .int .i64 0] h (.tup [rn 2 ofG 5 10 1 (fun _ => ⟨2, 600⟩), .int .i64 0]) h := by
  have h0 := run32
  cases hx : interp Try.prog c96 300 32 [wallA, .int .i64 0] [] with
  | none => rw [hx] at h0; cases h0
  | some x =>
    rw [hx] at h0
    obtain ⟨h1, h2⟩ := isRun_imp (r := x) (by simpa using h0)
    have := interp_sound mix c96_ok 300 32 [wallA, .int .i64 0] [] x.1 x.2 hx
    rw [h2] at this
    refine (this.out h1).frame ?_ h
    simp [wallA, stone]
end Go.Proofs.Ytjdakdjgkpfjkaa
