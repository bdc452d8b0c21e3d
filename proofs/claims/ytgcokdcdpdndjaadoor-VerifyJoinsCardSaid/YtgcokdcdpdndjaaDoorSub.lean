/- kind.Sub, kind.Join; flow.next; slices.Clip. -/
import Derived.Test.YtgcokdcdpdndjaaDoorOf
namespace Go.Proofs.YtgcokdcdpdndjaaDoor
open Go.RowKit Go.Proofs.YtgcokdcdpdndjaaDoorW.PrintWords
set_option linter.unusedVariables false
set_option linter.unusedSimpArgs false

def subTy (a b : Ty) : Bool := decide (a = b) || decide (b.kind = 8) || (isRef a && isRef b && (decide (a.kind = 6) || decide (b.kind = 7)))
set_option maxHeartbeats 3200000 in
theorem kindSub (k n k' n' : Int) (w : World) :
    Calls Tryd.prog 57 #[.agg #[.int .i64 k, .int .i64 n], .agg #[.int .i64 k', .int .i64 n']] w fun e w' => e = .returned (.bool (subTy ⟨k, n⟩ ⟨k', n'⟩)) ∧ Below w.heap.size w w' := by
  go_enter Tryd.func57, Tryd.ntmps57
  go_wp2_with fail
  all_goals try (
    refine (kindRef _ _ _).mono ?_
    rintro e w1 ⟨rfl, hb1⟩
    obtain ⟨hc1, hf1, _⟩ := bcell hb1
    have hz0 : w.heap.size < w1.heap.size := by have := hb1.size; simp at this; omega
    have hz1 : w.heap.size + 1 < w1.heap.size := by have := hb1.size; simp at this; omega
    generalize hg1 : isRef _ = g1
    have hB1 := blt (bAl2 _ _ _) hb1
    clear hb1
    cases g1 <;> go_wp2_with fail)
  all_goals try (
    refine (kindRef _ _ _).mono ?_
    rintro e w2 ⟨rfl, hb2⟩
    obtain ⟨hc2, hf2, _⟩ := bcell hb2
    have hy0 : w.heap.size < w2.heap.size := by have := hb2.size; omega
    have hy1 : w.heap.size + 1 < w2.heap.size := by have := hb2.size; omega
    generalize hg2 : isRef _ = g2
    have hB2 := blt hB1 hb2
    clear hb2
    cases g2 <;> go_wp2_with fail)
  all_goals
    go_ret
    refine ⟨ret_bool ?_, by first | assumption | exact bAl2 _ _ _⟩
    go_light
    first | (simp_all [subTy]; done) | (rw [Bool.eq_iff_iff]; simp_all [subTy]; done) | (simp_all [subTy]; rw [Bool.eq_iff_iff]; simp_all)
/-- where an instruction leads -/
def nextI (op a pc : Int) : List Int := if op = 26 then [] else if op = 23 then [a] else if op = 24 then [pc + 1, a] else [pc + 1]
/-- a row of ints of the call's own -/
@[reducible] def OI (w : World) (base : Nat) (v : Value) (xs : List Int) : Prop := (Kd.int .i64).R 3 w base (fun _ => True) v xs
theorem oi_blk (W : World) (base g : Nat) (xs : List Int) (hh : W.heap[g]? = some (.cells (xs.map (Value.int .i64)).toArray 3 (0, 0))) (hb : base ≤ g) (hl : xs.length ≤ 1000) : OI W base (.slice (some ⟨g, 0, none⟩) xs.length xs.length) xs :=
  ⟨fun _ _ => trivial, xs.map (Value.int .i64), ⟨by simp [Kd.int, Kd.scalar], .inr ⟨g, xs.length, _, rfl, hb, hh, Nat.le_refl _, by simp [maxLen]; omega, by simp [Kd.int, Kd.scalar], by simp only [Kd.int, Kd.scalar, Nat.mul_one]; exact List.take_of_length_le (by simp)⟩⟩, Kd.reps_scalar (enc := Value.int .i64) xs⟩
/-- a row of ints that is handed back -/
def IntsRet (w : World) (xs : List Int) (e : Ending) (w' : World) : Prop :=
  ∃ A c, e = .returned (.slice A xs.length c) ∧ Hid (OI w' w.heap.size (.slice A xs.length c) xs) ∧ Below w.heap.size w w'
set_option maxHeartbeats 3200000 in
theorem flowNext (op a b pc : Int) (w : World) (h0 : 0 ≤ pc) (h1 : pc < 1000000) :
    Calls Tryd.prog 58 #[.agg #[.int .i64 op, .int .i64 a, .int .i64 b], .int .i64 pc] w (IntsRet w (nextI op a pc)) := by
  have e1 : IntKind.i64.wrap (pc + 1) = pc + 1 := wrapi _ (by omega) (by omega)
  go_enter Tryd.func58, Tryd.ntmps58
  go_wp2_with fail
  all_goals go_ret
  · have e : nextI op a pc = [] := by simp_all [nextI]
    rw [e]
    exact ⟨_, _, rfl, Lib.hid (Kd.R_nil _ _ _ _ _), bAl _ _⟩
  · have e : nextI op a pc = [a] := by simp_all [nextI]
    rw [e]
    exact ⟨_, _, rfl, Lib.hid (oi_blk _ _ _ _ (at2_1 _ _ _) (by omega) (by simp)), bAl2 _ _ _⟩
  · have e : nextI op a pc = [pc + 1, a] := by simp_all [nextI]
    rw [e]
    exact ⟨_, _, rfl, Lib.hid (oi_blk _ _ _ _ (at2_1 _ _ _) (by omega) (by simp)), bAl2 _ _ _⟩
  · have e : nextI op a pc = [pc + 1] := by simp_all [nextI]
    rw [e]
    exact ⟨_, _, rfl, Lib.hid (oi_blk _ _ _ _ (at2_1 _ _ _) (by omega) (by simp)), bAl2 _ _ _⟩
theorem slicesClip (A : Option Addr) (n c : Nat) (w : World) (hn : n ≤ c) :
    Calls Tryd.prog 59 #[.slice A n c] w fun e w' => e = .returned (.slice A n n) ∧ w' = w := by
  go_enter Tryd.func59, Tryd.ntmps59
  go_wp2_with fail
  go_ret
  exact ⟨rfl, rfl⟩
end Go.Proofs.YtgcokdcdpdndjaaDoor
