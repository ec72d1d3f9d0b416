/- The examples of the chapter: awake() hands back true. Conditions: none. -/
import Derived.Test.YtgmppoappaolkaaC0
open Go
namespace Go.Proofs.Ytgmppoappaolkaa
def tabL : List Int :=
  List.replicate 40 0 ++ [4, 4, 0, 4, 4, 0, 0, 4] ++ List.replicate 10 2 ++ [4, 0, 4, 4, 4, 0, 0] ++ List.replicate 26 1 ++ [0, 0, 0, 0, 3, 0] ++ List.replicate 26 1 ++ List.replicate 133 0
def tab : AV := .agg (tabL.map (.int .u8))
set_option maxHeartbeats 0
theorem r81 (h : AHeap) : Ret Try.prog 81 [] h tab h :=
  (interp_sound mix (c0 := fun _ _ _ => none) (fun _ _ _ _ _ h => by cases h) 300 81 [] [] tab [] (by kernel_rfl)).frame (by simp) h

def c81 : CallF := fun g args h => match Nat.beq g 81, args with
  | true, [] => some (tab, h)
  | _, _ => none
theorem c81_ok : CallOk Try.prog c81 := by
  intro g args h r h' hc
  unfold c81 at hc
  split at hc
  · rename_i hg
    cases Nat.eq_of_beq_eq_true hg
    cases hc
    exact r81 h
  · cases hc
theorem r11 (h : AHeap) : Ret Try.prog 11 [] h (.bool true) h :=
  (interp_sound mix c81_ok 300 11 [] [] (.bool true) [] (by kernel_rfl)).frame (by simp) h
end Go.Proofs.Ytgmppoappaolkaa
