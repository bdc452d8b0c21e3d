/- flow.plain. -/
import Derived.Test.YtgcokdcdpdndjaaDoorFlow
import Derived.Deep.RegionLaw
import Derived.BigRegion
namespace Go.Proofs.YtgcokdcdpdndjaaDoor
open Go.RowKit Go.Proofs.YtgcokdcdpdndjaaDoorW.PrintWords
set_option linter.unusedVariables false
set_option linter.unusedSimpArgs false

theorem flowTypes (A : Option Addr) (n c : Nat) (w : World) :
    Calls Tryd.prog 111 #[.slice A n c] w fun e w' => e = .returned (.slice A n c) ∧ w' = w := by
  go_enter Tryd.func111, Tryd.ntmps111
  go_wp2
  go_ret
  exact ⟨rfl, rfl⟩
/-- a rule that is handed back, and whether it fits -/
def RuleRet (w : World) (r : Rul) (ok : Bool) (e : Ending) (w' : World) : Prop :=
  ∃ h : RulH, e = .returned (.tuple #[.agg #[.slice h.A0 r.inn.length h.c0, .slice h.A1 r.out.length h.c1], .bool ok]) ∧ Hid (RulAt w' r h) ∧ Below w.heap.size w w'
theorem C_two (W : World) (g : Nat) (x y : Ty) (T : TypeId) (fr : Nat × Nat) (hh : W.heap[g]? = some (.cells #[.int .i64 x.kind, .int .i64 x.n, .int .i64 y.kind, .int .i64 y.n] T fr)) : kTy.C W (some ⟨g, 0, none⟩) 2 [x, y] :=
  C_block kTy W g _ T fr [x, y] 2 hh rfl (by omega) (fun j z hz => by
    rcases j with _ | _ | j
    · simp at hz; subst hz; exact ⟨_, rfl, kTy_mk, fun i u hi => by rcases i with _ | _ | i <;> simp_all [kTy, Kd.iso, Kd.pair, Kd.int, Kd.scalar]⟩
    · simp at hz; subst hz; exact ⟨_, rfl, kTy_mk, fun i u hi => by rcases i with _ | _ | i <;> simp_all [kTy, Kd.iso, Kd.pair, Kd.int, Kd.scalar]⟩
    · simp at hz)
theorem C_three (W : World) (g : Nat) (x y z : Ty) (T : TypeId) (fr : Nat × Nat) (hh : W.heap[g]? = some (.cells #[.int .i64 x.kind, .int .i64 x.n, .int .i64 y.kind, .int .i64 y.n, .int .i64 z.kind, .int .i64 z.n] T fr)) : kTy.C W (some ⟨g, 0, none⟩) 3 [x, y, z] :=
  C_block kTy W g _ T fr [x, y, z] 3 hh rfl (by omega) (fun j t hz => by
    rcases j with _ | _ | _ | j
    · simp at hz; subst hz; exact ⟨_, rfl, kTy_mk, fun i u hi => by rcases i with _ | _ | i <;> simp_all [kTy, Kd.iso, Kd.pair, Kd.int, Kd.scalar]⟩
    · simp at hz; subst hz; exact ⟨_, rfl, kTy_mk, fun i u hi => by rcases i with _ | _ | i <;> simp_all [kTy, Kd.iso, Kd.pair, Kd.int, Kd.scalar]⟩
    · simp at hz; subst hz; exact ⟨_, rfl, kTy_mk, fun i u hi => by rcases i with _ | _ | i <;> simp_all [kTy, Kd.iso, Kd.pair, Kd.int, Kd.scalar]⟩
    · simp at hz)

set_option maxHeartbeats 1600000 in
theorem plain2 (w : World) (hgl : Gl w) : Calls Tryd.prog 86 #[.int .i64 2] w (RuleRet w ⟨[], [⟨6, 0⟩]⟩ true) := by
  obtain ⟨s0, s1, s2, s3, s4⟩ := hgl.size
  obtain ⟨g0, g1, g2, g3, g4, g5, g6, g7, g8, g9⟩ := hgl
  go_enter Tryd.func86, Tryd.ntmps86
  go_wp2_with (go_at_call 111; refine (flowTypes _ _ _ _).mono ?_; rintro e w' ⟨rfl, rfl⟩)
  all_goals (try go_wp2)
  all_goals
    refine bodyPost_ret (by simp [results, Tryd.results86, go_sem]; rfl) rfl ?_
    refine ⟨⟨_, _, _, _⟩, rfl, Lib.hid ⟨?_, Nat.le_refl _, ?_, Nat.le_refl _⟩, by repeat (first | exact Below.refl _ _ | apply below_alloc | apply below_drew)⟩
    all_goals first | exact C_nil _ _ | (refine C_one kTy _ _ _ _ _ _ (by first | exact at2_1 _ _ _ | exact at3_1 _ _ _ _ | exact at3_2 _ _ _ _) ?_; exact kTy_mk) | exact C_two _ _ _ _ _ _ (by first | exact at2_1 _ _ _ | exact at3_1 _ _ _ _ | exact at3_2 _ _ _ _) | exact C_three _ _ _ _ _ _ _ (by first | exact at2_1 _ _ _ | exact at3_1 _ _ _ _ | exact at3_2 _ _ _ _)
set_option maxHeartbeats 1600000 in
theorem plain5 (w : World) (hgl : Gl w) : Calls Tryd.prog 86 #[.int .i64 5] w (RuleRet w ⟨[⟨8, 0⟩], []⟩ true) := by
  obtain ⟨s0, s1, s2, s3, s4⟩ := hgl.size
  obtain ⟨g0, g1, g2, g3, g4, g5, g6, g7, g8, g9⟩ := hgl
  go_enter Tryd.func86, Tryd.ntmps86
  go_wp2_with (go_at_call 111; refine (flowTypes _ _ _ _).mono ?_; rintro e w' ⟨rfl, rfl⟩)
  all_goals (try go_wp2)
  all_goals
    refine bodyPost_ret (by simp [results, Tryd.results86, go_sem]; rfl) rfl ?_
    refine ⟨⟨_, _, _, _⟩, rfl, Lib.hid ⟨?_, Nat.le_refl _, ?_, Nat.le_refl _⟩, by repeat (first | exact Below.refl _ _ | apply below_alloc | apply below_drew)⟩
    all_goals first | exact C_nil _ _ | (refine C_one kTy _ _ _ _ _ _ (by first | exact at2_1 _ _ _ | exact at3_1 _ _ _ _ | exact at3_2 _ _ _ _) ?_; exact kTy_mk) | exact C_two _ _ _ _ _ _ (by first | exact at2_1 _ _ _ | exact at3_1 _ _ _ _ | exact at3_2 _ _ _ _) | exact C_three _ _ _ _ _ _ _ (by first | exact at2_1 _ _ _ | exact at3_1 _ _ _ _ | exact at3_2 _ _ _ _)
set_option maxHeartbeats 1600000 in
theorem plain22 (w : World) (hgl : Gl w) : Calls Tryd.prog 86 #[.int .i64 22] w (RuleRet w ⟨[⟨1, 0⟩, ⟨1, 0⟩], [⟨1, 0⟩, ⟨1, 0⟩]⟩ true) := by
  obtain ⟨s0, s1, s2, s3, s4⟩ := hgl.size
  obtain ⟨g0, g1, g2, g3, g4, g5, g6, g7, g8, g9⟩ := hgl
  have n1 : ¬ 1 = w.heap.size := by omega
  go_enter Tryd.func86, Tryd.ntmps86
  go_wp2_with fail
  go_region_held3 (fun w' => w'.cell? ⟨1, 0, none⟩ = some (.int .i64 1) ∧ w'.cell? ⟨1, 1, none⟩ = some (.int .i64 0))
    ((refine ⟨?_, ?_⟩ <;> (refine pw_cell_below (w := w) ?_ (by assumption); repeat (first | exact Below.refl _ _ | apply below_alloc | apply below_drew))))
    ((first | (go_at_call 111; with_reducible refine (flowTypes _ _ _ _).mono ?_; intro e w1 hr; obtain ⟨rfl, rfl⟩ := hr)))
  all_goals (try go_wp2)
  all_goals
    refine bodyPost_ret (by simp [results, Tryd.results86, go_sem]; rfl) rfl ?_
    refine ⟨⟨_, _, _, _⟩, rfl, Lib.hid ⟨?_, Nat.le_refl _, ?_, Nat.le_refl _⟩, by repeat (first | exact Below.refl _ _ | apply below_alloc | apply below_drew)⟩
    all_goals first | exact C_nil _ _ | (refine C_one kTy _ _ _ _ _ _ (by first | exact at2_1 _ _ _ | exact at3_1 _ _ _ _ | exact at3_2 _ _ _ _) ?_; exact kTy_mk) | exact C_two _ _ _ _ _ _ (by first | exact at2_1 _ _ _ | exact at3_1 _ _ _ _ | exact at3_2 _ _ _ _) | exact C_three _ _ _ _ _ _ _ (by first | exact at2_1 _ _ _ | exact at3_1 _ _ _ _ | exact at3_2 _ _ _ _)
set_option maxHeartbeats 1600000 in
theorem plain23 (w : World) (hgl : Gl w) : Calls Tryd.prog 86 #[.int .i64 23] w (RuleRet w ⟨[], []⟩ true) := by
  obtain ⟨s0, s1, s2, s3, s4⟩ := hgl.size
  obtain ⟨g0, g1, g2, g3, g4, g5, g6, g7, g8, g9⟩ := hgl
  go_enter Tryd.func86, Tryd.ntmps86
  go_wp2_with (go_at_call 111; refine (flowTypes _ _ _ _).mono ?_; rintro e w' ⟨rfl, rfl⟩)
  all_goals (try go_wp2)
  all_goals
    refine bodyPost_ret (by simp [results, Tryd.results86, go_sem]; rfl) rfl ?_
    refine ⟨⟨_, _, _, _⟩, rfl, Lib.hid ⟨?_, Nat.le_refl _, ?_, Nat.le_refl _⟩, by repeat (first | exact Below.refl _ _ | apply below_alloc | apply below_drew)⟩
    all_goals first | exact C_nil _ _ | (refine C_one kTy _ _ _ _ _ _ (by first | exact at2_1 _ _ _ | exact at3_1 _ _ _ _ | exact at3_2 _ _ _ _) ?_; exact kTy_mk) | exact C_two _ _ _ _ _ _ (by first | exact at2_1 _ _ _ | exact at3_1 _ _ _ _ | exact at3_2 _ _ _ _) | exact C_three _ _ _ _ _ _ _ (by first | exact at2_1 _ _ _ | exact at3_1 _ _ _ _ | exact at3_2 _ _ _ _)
set_option maxHeartbeats 1600000 in
theorem plain24 (w : World) (hgl : Gl w) : Calls Tryd.prog 86 #[.int .i64 24] w (RuleRet w ⟨[⟨1, 0⟩], []⟩ true) := by
  obtain ⟨s0, s1, s2, s3, s4⟩ := hgl.size
  obtain ⟨g0, g1, g2, g3, g4, g5, g6, g7, g8, g9⟩ := hgl
  have n1 : ¬ 1 = w.heap.size := by omega
  go_enter Tryd.func86, Tryd.ntmps86
  go_wp2_with (go_at_call 111; refine (flowTypes _ _ _ _).mono ?_; rintro e w' ⟨rfl, rfl⟩)
  all_goals (try go_wp2)
  all_goals
    refine bodyPost_ret (by simp [results, Tryd.results86, go_sem]; rfl) rfl ?_
    refine ⟨⟨_, _, _, _⟩, rfl, Lib.hid ⟨?_, Nat.le_refl _, ?_, Nat.le_refl _⟩, by repeat (first | exact Below.refl _ _ | apply below_alloc | apply below_drew)⟩
    all_goals first | exact C_nil _ _ | (refine C_one kTy _ _ _ _ _ _ (by first | exact at2_1 _ _ _ | exact at3_1 _ _ _ _ | exact at3_2 _ _ _ _) ?_; exact kTy_mk) | exact C_two _ _ _ _ _ _ (by first | exact at2_1 _ _ _ | exact at3_1 _ _ _ _ | exact at3_2 _ _ _ _) | exact C_three _ _ _ _ _ _ _ (by first | exact at2_1 _ _ _ | exact at3_1 _ _ _ _ | exact at3_2 _ _ _ _)
set_option maxHeartbeats 1600000 in
theorem plain31 (w : World) (hgl : Gl w) : Calls Tryd.prog 86 #[.int .i64 31] w (RuleRet w ⟨[⟨1, 0⟩], [⟨3, 0⟩]⟩ true) := by
  obtain ⟨s0, s1, s2, s3, s4⟩ := hgl.size
  obtain ⟨g0, g1, g2, g3, g4, g5, g6, g7, g8, g9⟩ := hgl
  have n1 : ¬ 1 = w.heap.size := by omega
  have n2 : ¬ 2 = w.heap.size := by omega
  go_enter Tryd.func86, Tryd.ntmps86
  go_wp2_with fail
  go_region_held3 (fun w' => w'.cell? ⟨1, 0, none⟩ = some (.int .i64 1) ∧ w'.cell? ⟨1, 1, none⟩ = some (.int .i64 0) ∧ w'.cell? ⟨2, 0, none⟩ = some (.int .i64 3) ∧ w'.cell? ⟨2, 1, none⟩ = some (.int .i64 0))
    ((refine ⟨?_, ?_, ?_, ?_⟩ <;> (refine pw_cell_below (w := w) ?_ (by assumption); repeat (first | exact Below.refl _ _ | apply below_alloc | apply below_drew))))
    ((first | (go_at_call 111; with_reducible refine (flowTypes _ _ _ _).mono ?_; intro e w1 hr; obtain ⟨rfl, rfl⟩ := hr)))
  all_goals (try go_wp2)
  all_goals
    refine bodyPost_ret (by simp [results, Tryd.results86, go_sem]; rfl) rfl ?_
    refine ⟨⟨_, _, _, _⟩, rfl, Lib.hid ⟨?_, Nat.le_refl _, ?_, Nat.le_refl _⟩, by repeat (first | exact Below.refl _ _ | apply below_alloc | apply below_drew)⟩
    all_goals first | exact C_nil _ _ | (refine C_one kTy _ _ _ _ _ _ (by first | exact at2_1 _ _ _ | exact at3_1 _ _ _ _ | exact at3_2 _ _ _ _) ?_; exact kTy_mk) | exact C_two _ _ _ _ _ _ (by first | exact at2_1 _ _ _ | exact at3_1 _ _ _ _ | exact at3_2 _ _ _ _) | exact C_three _ _ _ _ _ _ _ (by first | exact at2_1 _ _ _ | exact at3_1 _ _ _ _ | exact at3_2 _ _ _ _)
set_option maxHeartbeats 1600000 in
theorem plain32 (w : World) (hgl : Gl w) : Calls Tryd.prog 86 #[.int .i64 32] w (RuleRet w ⟨[⟨3, 0⟩, ⟨1, 0⟩], [⟨1, 0⟩]⟩ true) := by
  obtain ⟨s0, s1, s2, s3, s4⟩ := hgl.size
  obtain ⟨g0, g1, g2, g3, g4, g5, g6, g7, g8, g9⟩ := hgl
  have n1 : ¬ 1 = w.heap.size := by omega
  have n2 : ¬ 2 = w.heap.size := by omega
  go_enter Tryd.func86, Tryd.ntmps86
  go_wp2_with fail
  go_region_held3 (fun w' => w'.cell? ⟨1, 0, none⟩ = some (.int .i64 1) ∧ w'.cell? ⟨1, 1, none⟩ = some (.int .i64 0) ∧ w'.cell? ⟨2, 0, none⟩ = some (.int .i64 3) ∧ w'.cell? ⟨2, 1, none⟩ = some (.int .i64 0))
    ((refine ⟨?_, ?_, ?_, ?_⟩ <;> (refine pw_cell_below (w := w) ?_ (by assumption); repeat (first | exact Below.refl _ _ | apply below_alloc | apply below_drew))))
    ((first | (go_at_call 111; with_reducible refine (flowTypes _ _ _ _).mono ?_; intro e w1 hr; obtain ⟨rfl, rfl⟩ := hr)))
  all_goals (try go_wp2)
  all_goals
    refine bodyPost_ret (by simp [results, Tryd.results86, go_sem]; rfl) rfl ?_
    refine ⟨⟨_, _, _, _⟩, rfl, Lib.hid ⟨?_, Nat.le_refl _, ?_, Nat.le_refl _⟩, by repeat (first | exact Below.refl _ _ | apply below_alloc | apply below_drew)⟩
    all_goals first | exact C_nil _ _ | (refine C_one kTy _ _ _ _ _ _ (by first | exact at2_1 _ _ _ | exact at3_1 _ _ _ _ | exact at3_2 _ _ _ _) ?_; exact kTy_mk) | exact C_two _ _ _ _ _ _ (by first | exact at2_1 _ _ _ | exact at3_1 _ _ _ _ | exact at3_2 _ _ _ _) | exact C_three _ _ _ _ _ _ _ (by first | exact at2_1 _ _ _ | exact at3_1 _ _ _ _ | exact at3_2 _ _ _ _)
set_option maxHeartbeats 1600000 in
theorem plain33 (w : World) (hgl : Gl w) : Calls Tryd.prog 86 #[.int .i64 33] w (RuleRet w ⟨[⟨3, 0⟩, ⟨1, 0⟩, ⟨1, 0⟩], []⟩ true) := by
  obtain ⟨s0, s1, s2, s3, s4⟩ := hgl.size
  obtain ⟨g0, g1, g2, g3, g4, g5, g6, g7, g8, g9⟩ := hgl
  have n1 : ¬ 1 = w.heap.size := by omega
  have n2 : ¬ 2 = w.heap.size := by omega
  go_enter Tryd.func86, Tryd.ntmps86
  go_wp2_with (go_at_call 111; refine (flowTypes _ _ _ _).mono ?_; rintro e w' ⟨rfl, rfl⟩)
  all_goals (try go_wp2)
  all_goals
    refine bodyPost_ret (by simp [results, Tryd.results86, go_sem]; rfl) rfl ?_
    refine ⟨⟨_, _, _, _⟩, rfl, Lib.hid ⟨?_, Nat.le_refl _, ?_, Nat.le_refl _⟩, by repeat (first | exact Below.refl _ _ | apply below_alloc | apply below_drew)⟩
    all_goals first | exact C_nil _ _ | (refine C_one kTy _ _ _ _ _ _ (by first | exact at2_1 _ _ _ | exact at3_1 _ _ _ _ | exact at3_2 _ _ _ _) ?_; exact kTy_mk) | exact C_two _ _ _ _ _ _ (by first | exact at2_1 _ _ _ | exact at3_1 _ _ _ _ | exact at3_2 _ _ _ _) | exact C_three _ _ _ _ _ _ _ (by first | exact at2_1 _ _ _ | exact at3_1 _ _ _ _ | exact at3_2 _ _ _ _)
set_option maxHeartbeats 1600000 in
theorem plain34 (w : World) (hgl : Gl w) : Calls Tryd.prog 86 #[.int .i64 34] w (RuleRet w ⟨[⟨3, 0⟩], [⟨1, 0⟩]⟩ true) := by
  obtain ⟨s0, s1, s2, s3, s4⟩ := hgl.size
  obtain ⟨g0, g1, g2, g3, g4, g5, g6, g7, g8, g9⟩ := hgl
  have n1 : ¬ 1 = w.heap.size := by omega
  have n2 : ¬ 2 = w.heap.size := by omega
  go_enter Tryd.func86, Tryd.ntmps86
  go_wp2_with fail
  go_region_held3 (fun w' => w'.cell? ⟨1, 0, none⟩ = some (.int .i64 1) ∧ w'.cell? ⟨1, 1, none⟩ = some (.int .i64 0) ∧ w'.cell? ⟨2, 0, none⟩ = some (.int .i64 3) ∧ w'.cell? ⟨2, 1, none⟩ = some (.int .i64 0))
    ((refine ⟨?_, ?_, ?_, ?_⟩ <;> (refine pw_cell_below (w := w) ?_ (by assumption); repeat (first | exact Below.refl _ _ | apply below_alloc | apply below_drew))))
    ((first | (go_at_call 111; with_reducible refine (flowTypes _ _ _ _).mono ?_; intro e w1 hr; obtain ⟨rfl, rfl⟩ := hr)))
  all_goals (try go_wp2)
  all_goals
    refine bodyPost_ret (by simp [results, Tryd.results86, go_sem]; rfl) rfl ?_
    refine ⟨⟨_, _, _, _⟩, rfl, Lib.hid ⟨?_, Nat.le_refl _, ?_, Nat.le_refl _⟩, by repeat (first | exact Below.refl _ _ | apply below_alloc | apply below_drew)⟩
    all_goals first | exact C_nil _ _ | (refine C_one kTy _ _ _ _ _ _ (by first | exact at2_1 _ _ _ | exact at3_1 _ _ _ _ | exact at3_2 _ _ _ _) ?_; exact kTy_mk) | exact C_two _ _ _ _ _ _ (by first | exact at2_1 _ _ _ | exact at3_1 _ _ _ _ | exact at3_2 _ _ _ _) | exact C_three _ _ _ _ _ _ _ (by first | exact at2_1 _ _ _ | exact at3_1 _ _ _ _ | exact at3_2 _ _ _ _)
set_option maxHeartbeats 1600000 in
theorem plain35 (w : World) (hgl : Gl w) : Calls Tryd.prog 86 #[.int .i64 35] w (RuleRet w ⟨[⟨1, 0⟩], [⟨2, 0⟩]⟩ true) := by
  obtain ⟨s0, s1, s2, s3, s4⟩ := hgl.size
  obtain ⟨g0, g1, g2, g3, g4, g5, g6, g7, g8, g9⟩ := hgl
  have n1 : ¬ 1 = w.heap.size := by omega
  have n3 : ¬ 3 = w.heap.size := by omega
  go_enter Tryd.func86, Tryd.ntmps86
  go_wp2_with fail
  go_region_held3 (fun w' => w'.cell? ⟨1, 0, none⟩ = some (.int .i64 1) ∧ w'.cell? ⟨1, 1, none⟩ = some (.int .i64 0) ∧ w'.cell? ⟨3, 0, none⟩ = some (.int .i64 2) ∧ w'.cell? ⟨3, 1, none⟩ = some (.int .i64 0))
    ((refine ⟨?_, ?_, ?_, ?_⟩ <;> (refine pw_cell_below (w := w) ?_ (by assumption); repeat (first | exact Below.refl _ _ | apply below_alloc | apply below_drew))))
    ((first | (go_at_call 111; with_reducible refine (flowTypes _ _ _ _).mono ?_; intro e w1 hr; obtain ⟨rfl, rfl⟩ := hr)))
  all_goals (try go_wp2)
  all_goals
    refine bodyPost_ret (by simp [results, Tryd.results86, go_sem]; rfl) rfl ?_
    refine ⟨⟨_, _, _, _⟩, rfl, Lib.hid ⟨?_, Nat.le_refl _, ?_, Nat.le_refl _⟩, by repeat (first | exact Below.refl _ _ | apply below_alloc | apply below_drew)⟩
    all_goals first | exact C_nil _ _ | (refine C_one kTy _ _ _ _ _ _ (by first | exact at2_1 _ _ _ | exact at3_1 _ _ _ _ | exact at3_2 _ _ _ _) ?_; exact kTy_mk) | exact C_two _ _ _ _ _ _ (by first | exact at2_1 _ _ _ | exact at3_1 _ _ _ _ | exact at3_2 _ _ _ _) | exact C_three _ _ _ _ _ _ _ (by first | exact at2_1 _ _ _ | exact at3_1 _ _ _ _ | exact at3_2 _ _ _ _)
set_option maxHeartbeats 1600000 in
theorem plain36 (w : World) (hgl : Gl w) : Calls Tryd.prog 86 #[.int .i64 36] w (RuleRet w ⟨[⟨2, 0⟩, ⟨1, 0⟩], [⟨1, 0⟩]⟩ true) := by
  obtain ⟨s0, s1, s2, s3, s4⟩ := hgl.size
  obtain ⟨g0, g1, g2, g3, g4, g5, g6, g7, g8, g9⟩ := hgl
  have n1 : ¬ 1 = w.heap.size := by omega
  have n3 : ¬ 3 = w.heap.size := by omega
  go_enter Tryd.func86, Tryd.ntmps86
  go_wp2_with fail
  go_region_held3 (fun w' => w'.cell? ⟨1, 0, none⟩ = some (.int .i64 1) ∧ w'.cell? ⟨1, 1, none⟩ = some (.int .i64 0) ∧ w'.cell? ⟨3, 0, none⟩ = some (.int .i64 2) ∧ w'.cell? ⟨3, 1, none⟩ = some (.int .i64 0))
    ((refine ⟨?_, ?_, ?_, ?_⟩ <;> (refine pw_cell_below (w := w) ?_ (by assumption); repeat (first | exact Below.refl _ _ | apply below_alloc | apply below_drew))))
    ((first | (go_at_call 111; with_reducible refine (flowTypes _ _ _ _).mono ?_; intro e w1 hr; obtain ⟨rfl, rfl⟩ := hr)))
  all_goals (try go_wp2)
  all_goals
    refine bodyPost_ret (by simp [results, Tryd.results86, go_sem]; rfl) rfl ?_
    refine ⟨⟨_, _, _, _⟩, rfl, Lib.hid ⟨?_, Nat.le_refl _, ?_, Nat.le_refl _⟩, by repeat (first | exact Below.refl _ _ | apply below_alloc | apply below_drew)⟩
    all_goals first | exact C_nil _ _ | (refine C_one kTy _ _ _ _ _ _ (by first | exact at2_1 _ _ _ | exact at3_1 _ _ _ _ | exact at3_2 _ _ _ _) ?_; exact kTy_mk) | exact C_two _ _ _ _ _ _ (by first | exact at2_1 _ _ _ | exact at3_1 _ _ _ _ | exact at3_2 _ _ _ _) | exact C_three _ _ _ _ _ _ _ (by first | exact at2_1 _ _ _ | exact at3_1 _ _ _ _ | exact at3_2 _ _ _ _)
set_option maxHeartbeats 1600000 in
theorem plain37 (w : World) (hgl : Gl w) : Calls Tryd.prog 86 #[.int .i64 37] w (RuleRet w ⟨[⟨2, 0⟩, ⟨1, 0⟩, ⟨1, 0⟩], []⟩ true) := by
  obtain ⟨s0, s1, s2, s3, s4⟩ := hgl.size
  obtain ⟨g0, g1, g2, g3, g4, g5, g6, g7, g8, g9⟩ := hgl
  have n1 : ¬ 1 = w.heap.size := by omega
  have n3 : ¬ 3 = w.heap.size := by omega
  go_enter Tryd.func86, Tryd.ntmps86
  go_wp2_with (go_at_call 111; refine (flowTypes _ _ _ _).mono ?_; rintro e w' ⟨rfl, rfl⟩)
  all_goals (try go_wp2)
  all_goals
    refine bodyPost_ret (by simp [results, Tryd.results86, go_sem]; rfl) rfl ?_
    refine ⟨⟨_, _, _, _⟩, rfl, Lib.hid ⟨?_, Nat.le_refl _, ?_, Nat.le_refl _⟩, by repeat (first | exact Below.refl _ _ | apply below_alloc | apply below_drew)⟩
    all_goals first | exact C_nil _ _ | (refine C_one kTy _ _ _ _ _ _ (by first | exact at2_1 _ _ _ | exact at3_1 _ _ _ _ | exact at3_2 _ _ _ _) ?_; exact kTy_mk) | exact C_two _ _ _ _ _ _ (by first | exact at2_1 _ _ _ | exact at3_1 _ _ _ _ | exact at3_2 _ _ _ _) | exact C_three _ _ _ _ _ _ _ (by first | exact at2_1 _ _ _ | exact at3_1 _ _ _ _ | exact at3_2 _ _ _ _)
set_option maxHeartbeats 1600000 in
theorem plain38 (w : World) (hgl : Gl w) : Calls Tryd.prog 86 #[.int .i64 38] w (RuleRet w ⟨[⟨2, 0⟩], [⟨1, 0⟩]⟩ true) := by
  obtain ⟨s0, s1, s2, s3, s4⟩ := hgl.size
  obtain ⟨g0, g1, g2, g3, g4, g5, g6, g7, g8, g9⟩ := hgl
  have n1 : ¬ 1 = w.heap.size := by omega
  have n3 : ¬ 3 = w.heap.size := by omega
  go_enter Tryd.func86, Tryd.ntmps86
  go_wp2_with fail
  go_region_held3 (fun w' => w'.cell? ⟨1, 0, none⟩ = some (.int .i64 1) ∧ w'.cell? ⟨1, 1, none⟩ = some (.int .i64 0) ∧ w'.cell? ⟨3, 0, none⟩ = some (.int .i64 2) ∧ w'.cell? ⟨3, 1, none⟩ = some (.int .i64 0))
    ((refine ⟨?_, ?_, ?_, ?_⟩ <;> (refine pw_cell_below (w := w) ?_ (by assumption); repeat (first | exact Below.refl _ _ | apply below_alloc | apply below_drew))))
    ((first | (go_at_call 111; with_reducible refine (flowTypes _ _ _ _).mono ?_; intro e w1 hr; obtain ⟨rfl, rfl⟩ := hr)))
  all_goals (try go_wp2)
  all_goals
    refine bodyPost_ret (by simp [results, Tryd.results86, go_sem]; rfl) rfl ?_
    refine ⟨⟨_, _, _, _⟩, rfl, Lib.hid ⟨?_, Nat.le_refl _, ?_, Nat.le_refl _⟩, by repeat (first | exact Below.refl _ _ | apply below_alloc | apply below_drew)⟩
    all_goals first | exact C_nil _ _ | (refine C_one kTy _ _ _ _ _ _ (by first | exact at2_1 _ _ _ | exact at3_1 _ _ _ _ | exact at3_2 _ _ _ _) ?_; exact kTy_mk) | exact C_two _ _ _ _ _ _ (by first | exact at2_1 _ _ _ | exact at3_1 _ _ _ _ | exact at3_2 _ _ _ _) | exact C_three _ _ _ _ _ _ _ (by first | exact at2_1 _ _ _ | exact at3_1 _ _ _ _ | exact at3_2 _ _ _ _)
set_option maxHeartbeats 1600000 in
theorem plain39 (w : World) (hgl : Gl w) : Calls Tryd.prog 86 #[.int .i64 39] w (RuleRet w ⟨[⟨7, 0⟩], [⟨1, 0⟩]⟩ true) := by
  obtain ⟨s0, s1, s2, s3, s4⟩ := hgl.size
  obtain ⟨g0, g1, g2, g3, g4, g5, g6, g7, g8, g9⟩ := hgl
  have n1 : ¬ 1 = w.heap.size := by omega
  have n4 : ¬ 4 = w.heap.size := by omega
  go_enter Tryd.func86, Tryd.ntmps86
  go_wp2_with fail
  go_region_held3 (fun w' => w'.cell? ⟨1, 0, none⟩ = some (.int .i64 1) ∧ w'.cell? ⟨1, 1, none⟩ = some (.int .i64 0) ∧ w'.cell? ⟨4, 0, none⟩ = some (.int .i64 7) ∧ w'.cell? ⟨4, 1, none⟩ = some (.int .i64 0))
    ((refine ⟨?_, ?_, ?_, ?_⟩ <;> (refine pw_cell_below (w := w) ?_ (by assumption); repeat (first | exact Below.refl _ _ | apply below_alloc | apply below_drew))))
    ((first | (go_at_call 111; with_reducible refine (flowTypes _ _ _ _).mono ?_; intro e w1 hr; obtain ⟨rfl, rfl⟩ := hr)))
  all_goals (try go_wp2)
  all_goals
    refine bodyPost_ret (by simp [results, Tryd.results86, go_sem]; rfl) rfl ?_
    refine ⟨⟨_, _, _, _⟩, rfl, Lib.hid ⟨?_, Nat.le_refl _, ?_, Nat.le_refl _⟩, by repeat (first | exact Below.refl _ _ | apply below_alloc | apply below_drew)⟩
    all_goals first | exact C_nil _ _ | (refine C_one kTy _ _ _ _ _ _ (by first | exact at2_1 _ _ _ | exact at3_1 _ _ _ _ | exact at3_2 _ _ _ _) ?_; exact kTy_mk) | exact C_two _ _ _ _ _ _ (by first | exact at2_1 _ _ _ | exact at3_1 _ _ _ _ | exact at3_2 _ _ _ _) | exact C_three _ _ _ _ _ _ _ (by first | exact at2_1 _ _ _ | exact at3_1 _ _ _ _ | exact at3_2 _ _ _ _)
set_option maxHeartbeats 1600000 in
theorem plain40 (w : World) (hgl : Gl w) : Calls Tryd.prog 86 #[.int .i64 40] w (RuleRet w ⟨[⟨7, 0⟩, ⟨7, 0⟩], [⟨1, 0⟩]⟩ true) := by
  obtain ⟨s0, s1, s2, s3, s4⟩ := hgl.size
  obtain ⟨g0, g1, g2, g3, g4, g5, g6, g7, g8, g9⟩ := hgl
  have n1 : ¬ 1 = w.heap.size := by omega
  have n4 : ¬ 4 = w.heap.size := by omega
  go_enter Tryd.func86, Tryd.ntmps86
  go_wp2_with fail
  go_region_held3 (fun w' => w'.cell? ⟨1, 0, none⟩ = some (.int .i64 1) ∧ w'.cell? ⟨1, 1, none⟩ = some (.int .i64 0) ∧ w'.cell? ⟨4, 0, none⟩ = some (.int .i64 7) ∧ w'.cell? ⟨4, 1, none⟩ = some (.int .i64 0))
    ((refine ⟨?_, ?_, ?_, ?_⟩ <;> (refine pw_cell_below (w := w) ?_ (by assumption); repeat (first | exact Below.refl _ _ | apply below_alloc | apply below_drew))))
    ((first | (go_at_call 111; with_reducible refine (flowTypes _ _ _ _).mono ?_; intro e w1 hr; obtain ⟨rfl, rfl⟩ := hr)))
  all_goals (try go_wp2)
  all_goals
    refine bodyPost_ret (by simp [results, Tryd.results86, go_sem]; rfl) rfl ?_
    refine ⟨⟨_, _, _, _⟩, rfl, Lib.hid ⟨?_, Nat.le_refl _, ?_, Nat.le_refl _⟩, by repeat (first | exact Below.refl _ _ | apply below_alloc | apply below_drew)⟩
    all_goals first | exact C_nil _ _ | (refine C_one kTy _ _ _ _ _ _ (by first | exact at2_1 _ _ _ | exact at3_1 _ _ _ _ | exact at3_2 _ _ _ _) ?_; exact kTy_mk) | exact C_two _ _ _ _ _ _ (by first | exact at2_1 _ _ _ | exact at3_1 _ _ _ _ | exact at3_2 _ _ _ _) | exact C_three _ _ _ _ _ _ _ (by first | exact at2_1 _ _ _ | exact at3_1 _ _ _ _ | exact at3_2 _ _ _ _)
def plainR (op : Int) : Option Rul :=
  if op = 2 then some ⟨[], [⟨6, 0⟩]⟩ else
  if op = 5 then some ⟨[⟨8, 0⟩], []⟩ else
  if op = 22 then some ⟨[⟨1, 0⟩, ⟨1, 0⟩], [⟨1, 0⟩, ⟨1, 0⟩]⟩ else
  if op = 23 then some ⟨[], []⟩ else
  if op = 24 then some ⟨[⟨1, 0⟩], []⟩ else
  if op = 31 then some ⟨[⟨1, 0⟩], [⟨3, 0⟩]⟩ else
  if op = 32 then some ⟨[⟨3, 0⟩, ⟨1, 0⟩], [⟨1, 0⟩]⟩ else
  if op = 33 then some ⟨[⟨3, 0⟩, ⟨1, 0⟩, ⟨1, 0⟩], []⟩ else
  if op = 34 then some ⟨[⟨3, 0⟩], [⟨1, 0⟩]⟩ else
  if op = 35 then some ⟨[⟨1, 0⟩], [⟨2, 0⟩]⟩ else
  if op = 36 then some ⟨[⟨2, 0⟩, ⟨1, 0⟩], [⟨1, 0⟩]⟩ else
  if op = 37 then some ⟨[⟨2, 0⟩, ⟨1, 0⟩, ⟨1, 0⟩], []⟩ else
  if op = 38 then some ⟨[⟨2, 0⟩], [⟨1, 0⟩]⟩ else
  if op = 39 then some ⟨[⟨7, 0⟩], [⟨1, 0⟩]⟩ else
  if op = 40 then some ⟨[⟨7, 0⟩, ⟨7, 0⟩], [⟨1, 0⟩]⟩ else
  if 8 ≤ op ∧ op ≤ 21 then some ⟨[⟨1, 0⟩, ⟨1, 0⟩], [⟨1, 0⟩]⟩ else none
set_option maxHeartbeats 1600000 in
theorem plainT (op : Int) (w : World) (hgl : Gl w) (h2 : ¬ op = 2) (h5 : ¬ op = 5) (h22 : ¬ op = 22) (h23 : ¬ op = 23) (h24 : ¬ op = 24) (h31 : ¬ op = 31) (h32 : ¬ op = 32) (h33 : ¬ op = 33) (h34 : ¬ op = 34) (h35 : ¬ op = 35) (h36 : ¬ op = 36) (h37 : ¬ op = 37) (h38 : ¬ op = 38) (h39 : ¬ op = 39) (h40 : ¬ op = 40) (h8 : decide (8 ≤ op) = true) (h21 : decide (op ≤ 21) = true) : Calls Tryd.prog 86 #[.int .i64 op] w (RuleRet w ⟨[⟨1, 0⟩, ⟨1, 0⟩], [⟨1, 0⟩]⟩ true) := by
  obtain ⟨s0, s1, s2, s3, s4⟩ := hgl.size
  obtain ⟨g0, g1, g2, g3, g4, g5, g6, g7, g8, g9⟩ := hgl
  have n1 : ¬ 1 = w.heap.size := by omega
  go_enter Tryd.func86, Tryd.ntmps86
  go_wp2_with (go_at_call 111; refine (flowTypes _ _ _ _).mono ?_; rintro e w' ⟨rfl, rfl⟩)
  go_region_held3 (fun w' => w'.cell? ⟨1, 0, none⟩ = some (.int .i64 1) ∧ w'.cell? ⟨1, 1, none⟩ = some (.int .i64 0))
    ((refine ⟨?_, ?_⟩ <;> (refine pw_cell_below (w := w) ?_ (by assumption); repeat (first | exact Below.refl _ _ | apply below_alloc | apply below_drew))))
    ((first | (go_at_call 111; with_reducible refine (flowTypes _ _ _ _).mono ?_; intro e w1 hr; obtain ⟨rfl, rfl⟩ := hr)))
  all_goals (try go_wp2)
  all_goals
    refine bodyPost_ret (by simp [results, Tryd.results86, go_sem]; rfl) rfl ?_
    refine ⟨⟨_, _, _, _⟩, rfl, Lib.hid ⟨?_, Nat.le_refl _, ?_, Nat.le_refl _⟩, by repeat (first | exact Below.refl _ _ | apply below_alloc | apply below_drew)⟩
    all_goals first | exact C_nil _ _ | (refine C_one kTy _ _ _ _ _ _ (by first | exact at2_1 _ _ _ | exact at3_1 _ _ _ _ | exact at3_2 _ _ _ _) ?_; exact kTy_mk) | exact C_two _ _ _ _ _ _ (by first | exact at2_1 _ _ _ | exact at3_1 _ _ _ _ | exact at3_2 _ _ _ _) | exact C_three _ _ _ _ _ _ _ (by first | exact at2_1 _ _ _ | exact at3_1 _ _ _ _ | exact at3_2 _ _ _ _)
set_option maxHeartbeats 1600000 in
theorem plainF (op : Int) (w : World) (hgl : Gl w) (h2 : ¬ op = 2) (h5 : ¬ op = 5) (h22 : ¬ op = 22) (h23 : ¬ op = 23) (h24 : ¬ op = 24) (h31 : ¬ op = 31) (h32 : ¬ op = 32) (h33 : ¬ op = 33) (h34 : ¬ op = 34) (h35 : ¬ op = 35) (h36 : ¬ op = 36) (h37 : ¬ op = 37) (h38 : ¬ op = 38) (h39 : ¬ op = 39) (h40 : ¬ op = 40) (h8 : decide (8 ≤ op) = true) (h21 : decide (op ≤ 21) = false) : Calls Tryd.prog 86 #[.int .i64 op] w (RuleRet w ⟨[⟨1, 0⟩, ⟨1, 0⟩], [⟨1, 0⟩]⟩ false) := by
  obtain ⟨s0, s1, s2, s3, s4⟩ := hgl.size
  obtain ⟨g0, g1, g2, g3, g4, g5, g6, g7, g8, g9⟩ := hgl
  have n1 : ¬ 1 = w.heap.size := by omega
  go_enter Tryd.func86, Tryd.ntmps86
  go_wp2_with (go_at_call 111; refine (flowTypes _ _ _ _).mono ?_; rintro e w' ⟨rfl, rfl⟩)
  go_region_held3 (fun w' => w'.cell? ⟨1, 0, none⟩ = some (.int .i64 1) ∧ w'.cell? ⟨1, 1, none⟩ = some (.int .i64 0))
    ((refine ⟨?_, ?_⟩ <;> (refine pw_cell_below (w := w) ?_ (by assumption); repeat (first | exact Below.refl _ _ | apply below_alloc | apply below_drew))))
    ((first | (go_at_call 111; with_reducible refine (flowTypes _ _ _ _).mono ?_; intro e w1 hr; obtain ⟨rfl, rfl⟩ := hr)))
  all_goals (try go_wp2)
  all_goals
    refine bodyPost_ret (by simp [results, Tryd.results86, go_sem]; rfl) rfl ?_
    refine ⟨⟨_, _, _, _⟩, rfl, Lib.hid ⟨?_, Nat.le_refl _, ?_, Nat.le_refl _⟩, by repeat (first | exact Below.refl _ _ | apply below_alloc | apply below_drew)⟩
    all_goals first | exact C_nil _ _ | (refine C_one kTy _ _ _ _ _ _ (by first | exact at2_1 _ _ _ | exact at3_1 _ _ _ _ | exact at3_2 _ _ _ _) ?_; exact kTy_mk) | exact C_two _ _ _ _ _ _ (by first | exact at2_1 _ _ _ | exact at3_1 _ _ _ _ | exact at3_2 _ _ _ _) | exact C_three _ _ _ _ _ _ _ (by first | exact at2_1 _ _ _ | exact at3_1 _ _ _ _ | exact at3_2 _ _ _ _)
end Go.Proofs.YtgcokdcdpdndjaaDoor
