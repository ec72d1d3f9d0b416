/- A span's value, kept shut while a law is walked. Conditions: none. -/
import Derived.Test.YtjdakdjgkpfjkaaD18
open Go
namespace Go.Proofs.Ytjdakdjgkpfjkaa
/-- The same value, which nothing unfolds. -/
noncomputable def hid {α : Type} (x : α) : α := Classical.choose (⟨x, rfl⟩ : ∃ y, y = x)
theorem hid_eq {α : Type} (x : α) : hid x = x := Classical.choose_spec (⟨x, rfl⟩ : ∃ y, y = x)
theorem c13 (n : Nat) (g : Nat → PD) (hn : n ≤ 9223372036854775807) (j1 : Int) (j2 : Int) (k : Nat) (p : Nat → PD) (hk : k ≤ 9223372036854775807) (u : Int) (w : Int) (h : AHeap) : Ret Try.prog 13 ([rn n g j1 j2 k p, AV.int IntKind.i64 u, AV.int IntKind.i64 w]) h (AV.tup [(AV.agg ((AV.int IntKind.i64 (hid (r13.v0 n g j1 j2 k p u w))) :: ((AV.int IntKind.i64 (hid (r13.v1 n g j1 j2 k p u w))) :: []))), (AV.int IntKind.i64 (hid (r13.v2 n g j1 j2 k p u w)))]) h := by
  rw [hid_eq, hid_eq, hid_eq]
  exact r13 n g hn j1 j2 k p hk u w h
end Go.Proofs.Ytjdakdjgkpfjkaa
