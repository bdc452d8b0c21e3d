/- flow.plain, below the sums. -/
import Derived.Test.YtgcokdcdpdndjaaDoorPlain
namespace Go.Proofs.YtgcokdcdpdndjaaDoor
open Go.RowKit Go.Proofs.YtgcokdcdpdndjaaDoorW.PrintWords
set_option linter.unusedVariables false
set_option linter.unusedSimpArgs false
set_option maxRecDepth 100000 in
set_option maxHeartbeats 1600000 in
theorem plainL (op : Int) (w : World) (hgl : Gl w) (h2 : ¬ op = 2) (h5 : ¬ op = 5) (h22 : ¬ op = 22) (h23 : ¬ op = 23) (h24 : ¬ op = 24) (h31 : ¬ op = 31) (h32 : ¬ op = 32) (h33 : ¬ op = 33) (h34 : ¬ op = 34) (h35 : ¬ op = 35) (h36 : ¬ op = 36) (h37 : ¬ op = 37) (h38 : ¬ op = 38) (h39 : ¬ op = 39) (h40 : ¬ op = 40) (h8 : decide (8 ≤ op) = false) : Calls Tryd.prog 86 #[.int .i64 op] w (RuleRet w ⟨[⟨1, 0⟩, ⟨1, 0⟩], [⟨1, 0⟩]⟩ false) := by
  obtain ⟨s0, s1, s2, s3, s4⟩ := hgl.size
  obtain ⟨g0, g1, g2, g3, g4, g5, g6, g7, g8, g9⟩ := hgl
  have n1 : ¬ 1 = w.heap.size := by omega
  go_enter Tryd.func86, Tryd.ntmps86
  go_wp2_with (go_at_call 111; refine (flowTypes _ _ _ _).mono ?_; rintro e w' ⟨rfl, rfl⟩)
  refine wp_region_held_drew (S := fun w' => w'.cell? ⟨1, 0, none⟩ = some (.int .i64 1) ∧ w'.cell? ⟨1, 1, none⟩ = some (.int .i64 0)) (by kernel_rfl) ?_ (fun hHeld => ?_)
  · (try dsimp only)
    (refine ⟨?_, ?_⟩ <;> (refine pw_cell_below (w := w) ?_ (by assumption); repeat (first | exact Below.refl _ _ | apply below_alloc | apply below_drew)))
  refine wpAnyH_take (i := 0) (v := ?v1) rfl (by kernel_rfl) (by kernel_rfl) (by kernel_rfl) (fun _ _ _ h => h) (Or.inl ⟨by rfl, ?y1⟩) (by assumption) ?r1
  case y1 => (intro w hSw; (try dsimp only at hSw); go_simp; try with_reducible rfl)
  (try simp only [Act.put, List.setIfInBounds_toArray, List.set_cons_zero, List.set_cons_succ, List.getElem_toArray, List.getElem_cons_zero, List.getElem_cons_succ])
  refine wpAnyH_take (i := 1) (v := ?v2) rfl (by kernel_rfl) (by kernel_rfl) (by kernel_rfl) (fun _ _ _ h => h) (Or.inl ⟨by rfl, ?y2⟩) (by assumption) ?r2
  case y2 => (intro w hSw; (try dsimp only at hSw); go_simp; try with_reducible rfl)
  (try simp only [Act.put, List.setIfInBounds_toArray, List.set_cons_zero, List.set_cons_succ, List.getElem_toArray, List.getElem_cons_zero, List.getElem_cons_succ])
  refine wpAnyH_take (i := 4) (v := ?v3) rfl (by kernel_rfl) (by kernel_rfl) (by kernel_rfl) (fun _ _ _ h => h) (Or.inl ⟨by rfl, ?y3⟩) (by assumption) ?r3
  case y3 => (intro w hSw; (try dsimp only at hSw); go_simp; try with_reducible rfl)
  (try simp only [Act.put, List.setIfInBounds_toArray, List.set_cons_zero, List.set_cons_succ, List.getElem_toArray, List.getElem_cons_zero, List.getElem_cons_succ])
  refine wpAnyH_take (i := 8) (v := ?v4) rfl (by kernel_rfl) (by kernel_rfl) (by kernel_rfl) (fun _ _ _ h => h) (Or.inl ⟨by rfl, ?y4⟩) (by assumption) ?r4
  case y4 => (intro w hSw; (try dsimp only at hSw); go_simp; try with_reducible rfl)
  (try simp only [Act.put, List.setIfInBounds_toArray, List.set_cons_zero, List.set_cons_succ, List.getElem_toArray, List.getElem_cons_zero, List.getElem_cons_succ])
  refine wpAnyH_take (i := 9) (v := ?v5) rfl (by kernel_rfl) (by kernel_rfl) (by kernel_rfl) (fun _ _ _ h => h) (Or.inl ⟨by rfl, ?y5⟩) (by assumption) ?r5
  case y5 => (intro w hSw; (try dsimp only at hSw); go_simp; try with_reducible rfl)
  (try simp only [Act.put, List.setIfInBounds_toArray, List.set_cons_zero, List.set_cons_succ, List.getElem_toArray, List.getElem_cons_zero, List.getElem_cons_succ])
  refine wpAnyH_ready (rs := [2, 5]) (by kernel_rfl) (by simp) ?_
  refine AllReadyH.cons rfl (fun K hK => ?_) ?_
  · go_simp
    refine hK.out _ _ ?_ (fun hHeld => ?_)
    · (try dsimp only)
      (refine ⟨?_, ?_⟩ <;> (refine pw_cell_below (w := w) ?_ (by assumption); repeat (first | exact Below.refl _ _ | apply below_alloc | apply below_drew)))
    clear hK K
    (try simp only [Act.put, List.setIfInBounds_toArray, List.set_cons_zero, List.set_cons_succ, List.getElem_toArray, List.getElem_cons_zero, List.getElem_cons_succ])
    refine wpAnyH_ready (rs := [3, 5]) (by kernel_rfl) (by simp) ?_
    refine AllReadyH.cons rfl (fun K hK => ?_) ?_
    · go_simp
      go_at_call 111
      with_reducible refine (flowTypes _ _ _ _).mono ?_
      intro e w1 hr
      obtain ⟨rfl, rfl⟩ := hr
      try dsimp only
      refine hK.out _ _ ?_ (fun hHeld => ?_)
      · (try dsimp only)
        (refine ⟨?_, ?_⟩ <;> (refine pw_cell_below (w := w) ?_ (by assumption); repeat (first | exact Below.refl _ _ | apply below_alloc | apply below_drew)))
      clear hK K
      (try simp only [Act.put, List.setIfInBounds_toArray, List.set_cons_zero, List.set_cons_succ, List.getElem_toArray, List.getElem_cons_zero, List.getElem_cons_succ])
      refine wpAnyH_ready (rs := [5]) (by kernel_rfl) (by simp) ?_
      refine AllReadyH.cons rfl (fun K hK => ?_) ?_
      · go_simp
        refine hK.out _ _ ?_ (fun hHeld => ?_)
        · (try dsimp only)
          (refine ⟨?_, ?_⟩ <;> (refine pw_cell_below (w := w) ?_ (by assumption); repeat (first | exact Below.refl _ _ | apply below_alloc | apply below_drew)))
        clear hK K
        (try simp only [Act.put, List.setIfInBounds_toArray, List.set_cons_zero, List.set_cons_succ, List.getElem_toArray, List.getElem_cons_zero, List.getElem_cons_succ])
        refine wpAnyH_ready (rs := [6]) (by kernel_rfl) (by simp) ?_
        refine AllReadyH.cons rfl (fun K hK => ?_) ?_
        · go_simp
          go_at_call 111
          with_reducible refine (flowTypes _ _ _ _).mono ?_
          intro e w1 hr
          obtain ⟨rfl, rfl⟩ := hr
          try dsimp only
          refine hK.out _ _ ?_ (fun hHeld => ?_)
          · (try dsimp only)
            (refine ⟨?_, ?_⟩ <;> (refine pw_cell_below (w := w) ?_ (by assumption); repeat (first | exact Below.refl _ _ | apply below_alloc | apply below_drew)))
          clear hK K
          (try simp only [Act.put, List.setIfInBounds_toArray, List.set_cons_zero, List.set_cons_succ, List.getElem_toArray, List.getElem_cons_zero, List.getElem_cons_succ])
          refine wpAnyH_take (i := 7) (v := ?v6) rfl (by kernel_rfl) (by kernel_rfl) (by kernel_rfl) (fun _ _ _ h => h) (Or.inl ⟨by rfl, ?y6⟩) (by assumption) ?r6
          case y6 => (intro w hSw; (try dsimp only at hSw); go_simp; try with_reducible rfl)
          (try simp only [Act.put, List.setIfInBounds_toArray, List.set_cons_zero, List.set_cons_succ, List.getElem_toArray, List.getElem_cons_zero, List.getElem_cons_succ])
          refine wpAnyH_take (i := 10) (v := ?v7) rfl (by kernel_rfl) (by kernel_rfl) (by kernel_rfl) (fun _ _ _ h => h) (Or.inl ⟨by rfl, ?y7⟩) (by assumption) ?r7
          case y7 => (intro w hSw; (try dsimp only at hSw); go_simp; try with_reducible rfl)
          (try simp only [Act.put, List.setIfInBounds_toArray, List.set_cons_zero, List.set_cons_succ, List.getElem_toArray, List.getElem_cons_zero, List.getElem_cons_succ])
          refine wpAnyH_take (i := 11) (v := undef) rfl (by kernel_rfl) (by kernel_rfl) (by kernel_rfl) (fun _ _ _ h => h) (Or.inr ⟨by rfl, rfl⟩) (by assumption) ?_
          (try simp only [Act.put, List.setIfInBounds_toArray, List.set_cons_zero, List.set_cons_succ, List.getElem_toArray, List.getElem_cons_zero, List.getElem_cons_succ])
          refine wpAnyH_take (i := 12) (v := undef) rfl (by kernel_rfl) (by kernel_rfl) (by kernel_rfl) (fun _ _ _ h => h) (Or.inr ⟨by rfl, rfl⟩) (by assumption) ?_
          (try simp only [Act.put, List.setIfInBounds_toArray, List.set_cons_zero, List.set_cons_succ, List.getElem_toArray, List.getElem_cons_zero, List.getElem_cons_succ])
          refine wpAnyH_take (i := 13) (v := ?v10) rfl (by kernel_rfl) (by kernel_rfl) (by kernel_rfl) (fun _ _ _ h => h) (Or.inl ⟨by rfl, ?y10⟩) (by assumption) ?r10
          case y10 => (intro w hSw; (try dsimp only at hSw); go_simp; try with_reducible rfl)
          (try simp only [Act.put, List.setIfInBounds_toArray, List.set_cons_zero, List.set_cons_succ, List.getElem_toArray, List.getElem_cons_zero, List.getElem_cons_succ])
          refine wpAnyH_ready (rs := [14]) (by kernel_rfl) (by simp) ?_
          refine AllReadyH.cons rfl (fun K hK => ?_) ?_
          · go_simp
            refine hK.out _ _ ?_ (fun hHeld => ?_)
            · (try dsimp only)
              (refine ⟨?_, ?_⟩ <;> (refine pw_cell_below (w := w) ?_ (by assumption); repeat (first | exact Below.refl _ _ | apply below_alloc | apply below_drew)))
            clear hK K
            (try simp only [Act.put, List.setIfInBounds_toArray, List.set_cons_zero, List.set_cons_succ, List.getElem_toArray, List.getElem_cons_zero, List.getElem_cons_succ])
            refine wpAnyH_take (i := 15) (v := ?v11) rfl (by kernel_rfl) (by kernel_rfl) (by kernel_rfl) (fun _ _ _ h => h) (Or.inl ⟨by rfl, ?y11⟩) (by assumption) ?r11
            case y11 => (intro w hSw; (try dsimp only at hSw); go_simp; try with_reducible rfl)
            (try simp only [Act.put, List.setIfInBounds_toArray, List.set_cons_zero, List.set_cons_succ, List.getElem_toArray, List.getElem_cons_zero, List.getElem_cons_succ])
            refine wpAnyH_done (by kernel_rfl) ?_ _
            all_goals (try go_wp2)
            all_goals
              refine bodyPost_ret (by simp [results, Tryd.results86, go_sem]; rfl) rfl ?_
              refine ⟨⟨_, _, _, _⟩, rfl, Lib.hid ⟨?_, Nat.le_refl _, ?_, Nat.le_refl _⟩, by repeat (first | exact Below.refl _ _ | apply below_alloc | apply below_drew)⟩
              all_goals first | exact C_nil _ _ | (refine C_one kTy _ _ _ _ _ _ (by first | exact at2_1 _ _ _ | exact at3_1 _ _ _ _ | exact at3_2 _ _ _ _) ?_; exact kTy_mk) | exact C_two _ _ _ _ _ _ (by first | exact at2_1 _ _ _ | exact at3_1 _ _ _ _ | exact at3_2 _ _ _ _) | exact C_three _ _ _ _ _ _ _ (by first | exact at2_1 _ _ _ | exact at3_1 _ _ _ _ | exact at3_2 _ _ _ _)
          exact AllReadyH.nil
        exact AllReadyH.nil
      exact AllReadyH.nil
    refine AllReadyH.cons rfl (fun K hK => ?_) ?_
    · go_simp
      refine hK.out _ _ ?_ (fun hHeld => ?_)
      · (try dsimp only)
        (refine ⟨?_, ?_⟩ <;> (refine pw_cell_below (w := w) ?_ (by assumption); repeat (first | exact Below.refl _ _ | apply below_alloc | apply below_drew)))
      clear hK K
      (try simp only [Act.put, List.setIfInBounds_toArray, List.set_cons_zero, List.set_cons_succ, List.getElem_toArray, List.getElem_cons_zero, List.getElem_cons_succ])
      refine wpAnyH_ready (rs := [3]) (by kernel_rfl) (by simp) ?_
      refine AllReadyH.cons rfl (fun K hK => ?_) ?_
      · go_simp
        go_at_call 111
        with_reducible refine (flowTypes _ _ _ _).mono ?_
        intro e w1 hr
        obtain ⟨rfl, rfl⟩ := hr
        try dsimp only
        refine hK.out _ _ ?_ (fun hHeld => ?_)
        · (try dsimp only)
          (refine ⟨?_, ?_⟩ <;> (refine pw_cell_below (w := w) ?_ (by assumption); repeat (first | exact Below.refl _ _ | apply below_alloc | apply below_drew)))
        clear hK K
        (try simp only [Act.put, List.setIfInBounds_toArray, List.set_cons_zero, List.set_cons_succ, List.getElem_toArray, List.getElem_cons_zero, List.getElem_cons_succ])
        refine wpAnyH_ready (rs := [6]) (by kernel_rfl) (by simp) ?_
        refine AllReadyH.cons rfl (fun K hK => ?_) ?_
        · go_simp
          go_at_call 111
          with_reducible refine (flowTypes _ _ _ _).mono ?_
          intro e w1 hr
          obtain ⟨rfl, rfl⟩ := hr
          try dsimp only
          refine hK.out _ _ ?_ (fun hHeld => ?_)
          · (try dsimp only)
            (refine ⟨?_, ?_⟩ <;> (refine pw_cell_below (w := w) ?_ (by assumption); repeat (first | exact Below.refl _ _ | apply below_alloc | apply below_drew)))
          clear hK K
          (try simp only [Act.put, List.setIfInBounds_toArray, List.set_cons_zero, List.set_cons_succ, List.getElem_toArray, List.getElem_cons_zero, List.getElem_cons_succ])
          refine wpAnyH_take (i := 7) (v := ?v12) rfl (by kernel_rfl) (by kernel_rfl) (by kernel_rfl) (fun _ _ _ h => h) (Or.inl ⟨by rfl, ?y12⟩) (by assumption) ?r12
          case y12 => (intro w hSw; (try dsimp only at hSw); go_simp; try with_reducible rfl)
          (try simp only [Act.put, List.setIfInBounds_toArray, List.set_cons_zero, List.set_cons_succ, List.getElem_toArray, List.getElem_cons_zero, List.getElem_cons_succ])
          refine wpAnyH_take (i := 10) (v := ?v13) rfl (by kernel_rfl) (by kernel_rfl) (by kernel_rfl) (fun _ _ _ h => h) (Or.inl ⟨by rfl, ?y13⟩) (by assumption) ?r13
          case y13 => (intro w hSw; (try dsimp only at hSw); go_simp; try with_reducible rfl)
          (try simp only [Act.put, List.setIfInBounds_toArray, List.set_cons_zero, List.set_cons_succ, List.getElem_toArray, List.getElem_cons_zero, List.getElem_cons_succ])
          refine wpAnyH_take (i := 11) (v := undef) rfl (by kernel_rfl) (by kernel_rfl) (by kernel_rfl) (fun _ _ _ h => h) (Or.inr ⟨by rfl, rfl⟩) (by assumption) ?_
          (try simp only [Act.put, List.setIfInBounds_toArray, List.set_cons_zero, List.set_cons_succ, List.getElem_toArray, List.getElem_cons_zero, List.getElem_cons_succ])
          refine wpAnyH_take (i := 12) (v := undef) rfl (by kernel_rfl) (by kernel_rfl) (by kernel_rfl) (fun _ _ _ h => h) (Or.inr ⟨by rfl, rfl⟩) (by assumption) ?_
          (try simp only [Act.put, List.setIfInBounds_toArray, List.set_cons_zero, List.set_cons_succ, List.getElem_toArray, List.getElem_cons_zero, List.getElem_cons_succ])
          refine wpAnyH_take (i := 13) (v := ?v16) rfl (by kernel_rfl) (by kernel_rfl) (by kernel_rfl) (fun _ _ _ h => h) (Or.inl ⟨by rfl, ?y16⟩) (by assumption) ?r16
          case y16 => (intro w hSw; (try dsimp only at hSw); go_simp; try with_reducible rfl)
          (try simp only [Act.put, List.setIfInBounds_toArray, List.set_cons_zero, List.set_cons_succ, List.getElem_toArray, List.getElem_cons_zero, List.getElem_cons_succ])
          refine wpAnyH_ready (rs := [14]) (by kernel_rfl) (by simp) ?_
          refine AllReadyH.cons rfl (fun K hK => ?_) ?_
          · go_simp
            refine hK.out _ _ ?_ (fun hHeld => ?_)
            · (try dsimp only)
              (refine ⟨?_, ?_⟩ <;> (refine pw_cell_below (w := w) ?_ (by assumption); repeat (first | exact Below.refl _ _ | apply below_alloc | apply below_drew)))
            clear hK K
            (try simp only [Act.put, List.setIfInBounds_toArray, List.set_cons_zero, List.set_cons_succ, List.getElem_toArray, List.getElem_cons_zero, List.getElem_cons_succ])
            refine wpAnyH_take (i := 15) (v := ?v17) rfl (by kernel_rfl) (by kernel_rfl) (by kernel_rfl) (fun _ _ _ h => h) (Or.inl ⟨by rfl, ?y17⟩) (by assumption) ?r17
            case y17 => (intro w hSw; (try dsimp only at hSw); go_simp; try with_reducible rfl)
            (try simp only [Act.put, List.setIfInBounds_toArray, List.set_cons_zero, List.set_cons_succ, List.getElem_toArray, List.getElem_cons_zero, List.getElem_cons_succ])
            refine wpAnyH_done (by kernel_rfl) ?_ _
            all_goals (try go_wp2)
            all_goals
              refine bodyPost_ret (by simp [results, Tryd.results86, go_sem]; rfl) rfl ?_
              refine ⟨⟨_, _, _, _⟩, rfl, Lib.hid ⟨?_, Nat.le_refl _, ?_, Nat.le_refl _⟩, by repeat (first | exact Below.refl _ _ | apply below_alloc | apply below_drew)⟩
              all_goals first | exact C_nil _ _ | (refine C_one kTy _ _ _ _ _ _ (by first | exact at2_1 _ _ _ | exact at3_1 _ _ _ _ | exact at3_2 _ _ _ _) ?_; exact kTy_mk) | exact C_two _ _ _ _ _ _ (by first | exact at2_1 _ _ _ | exact at3_1 _ _ _ _ | exact at3_2 _ _ _ _) | exact C_three _ _ _ _ _ _ _ (by first | exact at2_1 _ _ _ | exact at3_1 _ _ _ _ | exact at3_2 _ _ _ _)
          exact AllReadyH.nil
        exact AllReadyH.nil
      exact AllReadyH.nil
    exact AllReadyH.nil
  refine AllReadyH.cons rfl (fun K hK => ?_) ?_
  · go_simp
    refine hK.out _ _ ?_ (fun hHeld => ?_)
    · (try dsimp only)
      (refine ⟨?_, ?_⟩ <;> (refine pw_cell_below (w := w) ?_ (by assumption); repeat (first | exact Below.refl _ _ | apply below_alloc | apply below_drew)))
    clear hK K
    (try simp only [Act.put, List.setIfInBounds_toArray, List.set_cons_zero, List.set_cons_succ, List.getElem_toArray, List.getElem_cons_zero, List.getElem_cons_succ])
    refine wpAnyH_ready (rs := [2]) (by kernel_rfl) (by simp) ?_
    refine AllReadyH.cons rfl (fun K hK => ?_) ?_
    · go_simp
      refine hK.out _ _ ?_ (fun hHeld => ?_)
      · (try dsimp only)
        (refine ⟨?_, ?_⟩ <;> (refine pw_cell_below (w := w) ?_ (by assumption); repeat (first | exact Below.refl _ _ | apply below_alloc | apply below_drew)))
      clear hK K
      (try simp only [Act.put, List.setIfInBounds_toArray, List.set_cons_zero, List.set_cons_succ, List.getElem_toArray, List.getElem_cons_zero, List.getElem_cons_succ])
      refine wpAnyH_ready (rs := [3]) (by kernel_rfl) (by simp) ?_
      refine AllReadyH.cons rfl (fun K hK => ?_) ?_
      · go_simp
        go_at_call 111
        with_reducible refine (flowTypes _ _ _ _).mono ?_
        intro e w1 hr
        obtain ⟨rfl, rfl⟩ := hr
        try dsimp only
        refine hK.out _ _ ?_ (fun hHeld => ?_)
        · (try dsimp only)
          (refine ⟨?_, ?_⟩ <;> (refine pw_cell_below (w := w) ?_ (by assumption); repeat (first | exact Below.refl _ _ | apply below_alloc | apply below_drew)))
        clear hK K
        (try simp only [Act.put, List.setIfInBounds_toArray, List.set_cons_zero, List.set_cons_succ, List.getElem_toArray, List.getElem_cons_zero, List.getElem_cons_succ])
        refine wpAnyH_ready (rs := [6]) (by kernel_rfl) (by simp) ?_
        refine AllReadyH.cons rfl (fun K hK => ?_) ?_
        · go_simp
          go_at_call 111
          with_reducible refine (flowTypes _ _ _ _).mono ?_
          intro e w1 hr
          obtain ⟨rfl, rfl⟩ := hr
          try dsimp only
          refine hK.out _ _ ?_ (fun hHeld => ?_)
          · (try dsimp only)
            (refine ⟨?_, ?_⟩ <;> (refine pw_cell_below (w := w) ?_ (by assumption); repeat (first | exact Below.refl _ _ | apply below_alloc | apply below_drew)))
          clear hK K
          (try simp only [Act.put, List.setIfInBounds_toArray, List.set_cons_zero, List.set_cons_succ, List.getElem_toArray, List.getElem_cons_zero, List.getElem_cons_succ])
          refine wpAnyH_take (i := 7) (v := ?v18) rfl (by kernel_rfl) (by kernel_rfl) (by kernel_rfl) (fun _ _ _ h => h) (Or.inl ⟨by rfl, ?y18⟩) (by assumption) ?r18
          case y18 => (intro w hSw; (try dsimp only at hSw); go_simp; try with_reducible rfl)
          (try simp only [Act.put, List.setIfInBounds_toArray, List.set_cons_zero, List.set_cons_succ, List.getElem_toArray, List.getElem_cons_zero, List.getElem_cons_succ])
          refine wpAnyH_take (i := 10) (v := ?v19) rfl (by kernel_rfl) (by kernel_rfl) (by kernel_rfl) (fun _ _ _ h => h) (Or.inl ⟨by rfl, ?y19⟩) (by assumption) ?r19
          case y19 => (intro w hSw; (try dsimp only at hSw); go_simp; try with_reducible rfl)
          (try simp only [Act.put, List.setIfInBounds_toArray, List.set_cons_zero, List.set_cons_succ, List.getElem_toArray, List.getElem_cons_zero, List.getElem_cons_succ])
          refine wpAnyH_take (i := 11) (v := undef) rfl (by kernel_rfl) (by kernel_rfl) (by kernel_rfl) (fun _ _ _ h => h) (Or.inr ⟨by rfl, rfl⟩) (by assumption) ?_
          (try simp only [Act.put, List.setIfInBounds_toArray, List.set_cons_zero, List.set_cons_succ, List.getElem_toArray, List.getElem_cons_zero, List.getElem_cons_succ])
          refine wpAnyH_take (i := 12) (v := undef) rfl (by kernel_rfl) (by kernel_rfl) (by kernel_rfl) (fun _ _ _ h => h) (Or.inr ⟨by rfl, rfl⟩) (by assumption) ?_
          (try simp only [Act.put, List.setIfInBounds_toArray, List.set_cons_zero, List.set_cons_succ, List.getElem_toArray, List.getElem_cons_zero, List.getElem_cons_succ])
          refine wpAnyH_take (i := 13) (v := ?v22) rfl (by kernel_rfl) (by kernel_rfl) (by kernel_rfl) (fun _ _ _ h => h) (Or.inl ⟨by rfl, ?y22⟩) (by assumption) ?r22
          case y22 => (intro w hSw; (try dsimp only at hSw); go_simp; try with_reducible rfl)
          (try simp only [Act.put, List.setIfInBounds_toArray, List.set_cons_zero, List.set_cons_succ, List.getElem_toArray, List.getElem_cons_zero, List.getElem_cons_succ])
          refine wpAnyH_ready (rs := [14]) (by kernel_rfl) (by simp) ?_
          refine AllReadyH.cons rfl (fun K hK => ?_) ?_
          · go_simp
            refine hK.out _ _ ?_ (fun hHeld => ?_)
            · (try dsimp only)
              (refine ⟨?_, ?_⟩ <;> (refine pw_cell_below (w := w) ?_ (by assumption); repeat (first | exact Below.refl _ _ | apply below_alloc | apply below_drew)))
            clear hK K
            (try simp only [Act.put, List.setIfInBounds_toArray, List.set_cons_zero, List.set_cons_succ, List.getElem_toArray, List.getElem_cons_zero, List.getElem_cons_succ])
            refine wpAnyH_take (i := 15) (v := ?v23) rfl (by kernel_rfl) (by kernel_rfl) (by kernel_rfl) (fun _ _ _ h => h) (Or.inl ⟨by rfl, ?y23⟩) (by assumption) ?r23
            case y23 => (intro w hSw; (try dsimp only at hSw); go_simp; try with_reducible rfl)
            (try simp only [Act.put, List.setIfInBounds_toArray, List.set_cons_zero, List.set_cons_succ, List.getElem_toArray, List.getElem_cons_zero, List.getElem_cons_succ])
            refine wpAnyH_done (by kernel_rfl) ?_ _
            all_goals (try go_wp2)
            all_goals
              refine bodyPost_ret (by simp [results, Tryd.results86, go_sem]; rfl) rfl ?_
              refine ⟨⟨_, _, _, _⟩, rfl, Lib.hid ⟨?_, Nat.le_refl _, ?_, Nat.le_refl _⟩, by repeat (first | exact Below.refl _ _ | apply below_alloc | apply below_drew)⟩
              all_goals first | exact C_nil _ _ | (refine C_one kTy _ _ _ _ _ _ (by first | exact at2_1 _ _ _ | exact at3_1 _ _ _ _ | exact at3_2 _ _ _ _) ?_; exact kTy_mk) | exact C_two _ _ _ _ _ _ (by first | exact at2_1 _ _ _ | exact at3_1 _ _ _ _ | exact at3_2 _ _ _ _) | exact C_three _ _ _ _ _ _ _ (by first | exact at2_1 _ _ _ | exact at3_1 _ _ _ _ | exact at3_2 _ _ _ _)
          exact AllReadyH.nil
        exact AllReadyH.nil
      exact AllReadyH.nil
    exact AllReadyH.nil
  exact AllReadyH.nil
end Go.Proofs.YtgcokdcdpdndjaaDoor
