/- kind.Good, kind.Ref, kind.Sub, kind.Join; sane.below, sane.host; inst.Args, inst.may. -/
import Derived.Test.YtgcokdcdpdndjaaDoorIdx
import Derived.Deep.QuietTactic
import Derived.BigQuiet
import Derived.Deep.Light
namespace Go.Proofs.YtgcokdcdpdndjaaDoor
open Go.RowKit Go.Proofs.YtgcokdcdpdndjaaDoorW.PrintWords
set_option linter.unusedVariables false
set_option linter.unusedSimpArgs false

def goodTy (t : Ty) (r : Int) : Bool :=
  if t.kind = 1 ∨ t.kind = 2 ∨ t.kind = 3 ∨ t.kind = 7 then decide (t.n = 0)
  else if t.kind = 4 then decide (0 ≤ t.n) && decide (t.n < r)
  else if t.kind = 5 then decide (0 ≤ t.n) && decide (t.n < 4) else false

theorem bAl (w : World) (o : Obj) : Below w.heap.size w (w.alloc o) := (Below.refl _ _).alloc (Nat.le_refl _) o
theorem bAl2 (w : World) (o o' : Obj) : Below w.heap.size w ((w.alloc o).alloc o') := (bAl w o).alloc (by simp) o'

set_option maxHeartbeats 400000 in
theorem kindGood (k n r : Int) (w : World) :
    Calls Tryd.prog 102 #[.agg #[.int .i64 k, .int .i64 n], .int .i64 r] w fun e w' => e = .returned (.bool (goodTy ⟨k, n⟩ r)) ∧ Below w.heap.size w w' := by
  go_enter Tryd.func102, Tryd.ntmps102
  go_wp2
  all_goals
    go_ret
    refine ⟨ret_bool ?_, bAl _ _⟩
    go_light
    first | (simp_all [goodTy]; done) | (simp_all [goodTy]; omega) | (rw [Bool.eq_iff_iff]; simp_all [goodTy])

theorem saneBelow (a b : Int) (w : World) :
    Calls Tryd.prog 81 #[.int .i64 a, .int .i64 b] w fun e w' => e = .returned (.bool (decide (a < b))) ∧ Below w.heap.size w w' := by
  go_enter Tryd.func81, Tryd.ntmps81
  go_wp2
  go_ret
  exact ⟨rfl, Below.refl _ _⟩

def hostTy (t : Ty) : Bool := decide (t.kind = 1) || decide (t.kind = 5)
theorem saneHost (k n : Int) (w : World) :
    Calls Tryd.prog 53 #[.agg #[.int .i64 k, .int .i64 n]] w fun e w' => e = .returned (.bool (hostTy ⟨k, n⟩)) ∧ Below w.heap.size w w' := by
  go_enter Tryd.func53, Tryd.ntmps53
  go_wp2
  all_goals
    go_ret
    refine ⟨ret_bool ?_, bAl _ _⟩
    go_light
    rw [Bool.eq_iff_iff]; simp_all [hostTy]

def isRef (t : Ty) : Bool := decide (t.kind = 2 ∨ t.kind = 3 ∨ t.kind = 4 ∨ t.kind = 6 ∨ t.kind = 7)
set_option maxHeartbeats 400000 in
theorem kindRef (k n : Int) (w : World) :
    Calls Tryd.prog 88 #[.agg #[.int .i64 k, .int .i64 n]] w fun e w' => e = .returned (.bool (isRef ⟨k, n⟩)) ∧ Below w.heap.size w w' := by
  go_enter Tryd.func88, Tryd.ntmps88
  go_wp2
  all_goals
    go_ret
    refine ⟨ret_bool ?_, bAl _ _⟩
    go_light
    rw [Bool.eq_iff_iff]; simp_all [isRef]
end Go.Proofs.YtgcokdcdpdndjaaDoor
