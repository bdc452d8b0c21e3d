/- chrysalislaw07: answers. -/
import Derived.Test.YtgcokdcdpdndjaaLit
namespace Go.Proofs.Ytgcokdcdpdndjaa
open Go.RowKit Go.Proofs.YtgcokdcdpdndjaaW.PrintWords
set_option linter.unusedVariables false
set_option linter.unusedSimpArgs false

theorem modAt_nil (w : World) : ModAt w ⟨[], [], [], [], []⟩ ⟨none, 0, none, 0, none, 0, none, 0, none, 0⟩ :=
  ⟨C_nil _ _, Nat.le_refl _, C_nil _ _, Nat.le_refl _, C_nil _ _, Nat.le_refl _, C_nil _ _, Nat.le_refl _, C_nil _ _, Nat.le_refl _⟩
set_option maxHeartbeats 1600000 in
theorem answers07 (w : World) :
    Calls Try.prog 6 #[] w fun e w' => e = .returned (.bool true) ∧ Below w.heap.size w w' := by
  go_enter Try.func6, Try.ntmps6
  go_wp2_with fail
  refine (saneCheck ⟨[], [⟨[], ⟨1, 0⟩, [], [⟨0, 0, 0⟩]⟩], [], [], []⟩ ⟨none, 0, some ⟨w.heap.size + 1, 0, none⟩, 1, none, 0, none, 0, none, 0⟩ _ ?hm ?hok).mono ?_
  case hm =>
    refine ⟨C_nil _ _, Nat.le_refl _, ?_, Nat.le_refl _, C_nil _ _, Nat.le_refl _, C_nil _ _, Nat.le_refl _, C_nil _ _, Nat.le_refl _⟩
    refine C_one kFn _ _ _ _ _ _ (at3_1 _ _ _ _) ?_
    refine kFn_mk (h := ⟨none, 0, none, 0, some ⟨w.heap.size, 0, none⟩, 1⟩) ⟨C_nil _ _, Nat.le_refl _, C_nil _ _, Nat.le_refl _, ?_, Nat.le_refl _⟩
    refine C_one kIns _ _ _ _ _ _ (at3_0 _ _ _ _) ?_
    exact kIns_mk
  case hok => intro x hx; simp at hx
  rintro e w1 ⟨rfl, hb1⟩
  rw [show sane ⟨[], [⟨[], ⟨1, 0⟩, [], [⟨0, 0, 0⟩]⟩], [], [], []⟩ = 1 by decide +kernel]
  go_wp2_with fail
  refine (saneCheck ⟨[], [], [], [], []⟩ ⟨none, 0, none, 0, none, 0, none, 0, none, 0⟩ _ (modAt_nil _) ?hok).mono ?_
  case hok => intro x hx; simp at hx
  rintro e w2 ⟨rfl, hb2⟩
  rw [show sane ⟨[], [], [], [], []⟩ = 2 by decide +kernel]
  go_wp2
  go_ret
  exact ⟨rfl, blt (blt (bAl3 _ _ _ _) hb1) hb2⟩
end Go.Proofs.Ytgcokdcdpdndjaa
