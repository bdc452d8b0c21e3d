/- law SaneNames: the walk. -/
import Derived.Test.YtgcokdcdpdndjaaNameSt
import Derived.Deep.RegionLaw
import Derived.BigRegion
import Derived.Deep.DeepCutAuto
namespace Go.Proofs.Ytgcokdcdpdndjaa
open Go.RowKit Go.Proofs.YtgcokdcdpdndjaaW.PrintWords
set_option linter.unusedVariables false
set_option linter.unusedSimpArgs false

theorem pickOp (x : Int) (h0 : 0 ≤ x) : ∃ op ∈ opsOf, (#[Value.int .i64 0, .int .i64 1, .int .i64 3, .int .i64 25, .int .i64 27, .int .i64 28] : Array Value)[(x % 6).toNat]? = some (.int .i64 op) := by
  obtain ⟨j, hj, hj6⟩ : ∃ j : Nat, (x % 6).toNat = j ∧ j < 6 := ⟨_, rfl, by omega⟩
  rw [hj]
  revert j
  intro j hj h
  rcases j with _ | _ | _ | _ | _ | _ | j
  all_goals first | (exfalso; omega) | exact ⟨_, by decide, rfl⟩
theorem MSt.init (w : World) (o3 : Obj) : MSt (w.alloc (.cells #[.int .i64 1, .int .i64 0] 23))
    ((((w.alloc (.cells #[.int .i64 1, .int .i64 0] 23)).alloc (.cells #[.slice none 0 0, .int .i64 1, .int .i64 0, .slice none 0 0, .slice none 0 0] 27)).alloc
      (.cells #[.slice none 0 0, .slice (some ⟨w.heap.size + 1, 0, none⟩) 1 1, .slice none 0 0, .slice none 0 0, .slice none 0 0] 34)).alloc o3)
    (w.heap.size + 1) (w.heap.size + 1 + 1) (.slice none 0 0) (.slice none 0 0) (.slice none 0 0) (.slice none 0 0) (.slice none 0 0) (w.heap.size + 1) 1 (.slice none 0 0) 0 0 0 0 0 0 := by
  have e1 : (w.alloc (.cells #[.int .i64 1, .int .i64 0] 23)).heap.size = w.heap.size + 1 := by simp
  refine ⟨?_, by simp, by omega, ?_, Kd.R_nil _ _ _ _ _, Kd.R_nil _ _ _ _ _, Kd.R_nil _ _ _ _ _, Kd.R_nil _ _ _ _ _, Kd.R_nil _ _ _ _ _, [], ?_, Reps.none _ _⟩
  · have := bA3 (w.alloc (.cells #[.int .i64 1, .int .i64 0] 23)) (.cells #[.slice none 0 0, .int .i64 1, .int .i64 0, .slice none 0 0, .slice none 0 0] 27) (.cells #[.slice none 0 0, .slice (some ⟨w.heap.size + 1, 0, none⟩) 1 1, .slice none 0 0, .slice none 0 0, .slice none 0 0] 34) o3
    rwa [e1] at this
  · have := at3_1 (w.alloc (.cells #[.int .i64 1, .int .i64 0] 23)) (.cells #[.slice none 0 0, .int .i64 1, .int .i64 0, .slice none 0 0, .slice none 0 0] 27) (.cells #[.slice none 0 0, .slice (some ⟨w.heap.size + 1, 0, none⟩) 1 1, .slice none 0 0, .slice none 0 0, .slice none 0 0] 34) o3
    rwa [e1] at this
  · have := World.ownsRow_lit (base := w.heap.size + 1) (e := 27) (size := 5) (w.alloc (.cells #[.int .i64 1, .int .i64 0] 23)) #[.slice none 0 0, .int .i64 1, .int .i64 0, .slice none 0 0, .slice none 0 0] 1 (by simp) (by simp [maxLen]) (by simp)
    rw [e1] at this
    exact own_alloc (own_alloc this _) _
set_option maxRecDepth 100000 in
set_option maxHeartbeats 3200000 in
theorem saneNamesLaw (a0 : Int) (a1 : Int) (h00 : 0 ≤ a0) (h01 : a0 ≤ 255) (h10 : 0 ≤ a1) (h11 : a1 ≤ 255) (w : World) :
    Calls Try.prog 3 #[.int .u8 a0, .int .u8 a1] w fun e w' => e = .returned (.bool true) ∧ Below w.heap.size w w' := by
  obtain ⟨op, hopm, hop⟩ := pickOp a0 h00
  have hk0 : 0 ≤ a1 % 8 := by omega
  have hk7 : a1 % 8 ≤ 7 := by omega
  go_enter Try.func3, Try.ntmps3
  go_wp2_with fail
  go_loopw [9] (fun i W => ∃ j : Nat, (j : Int) ≤ a1 % 8 + 1 ∧ i = .int .i64 j ∧ Hid (∃ vR vI vN vT vL gF cF, MSt (w.alloc (.cells #[.int .i64 1, .int .i64 0] 23)) W (w.heap.size + 1) (w.heap.size + 1 + 1) vR vI vN vT vL gF cF (.slice none 0 0) j (j - 1) j j j j)) (fun i _ => (a1 % 8).toNat + 1 - (intOf i).toNat)
  case atStart => exact ⟨0, by omega, rfl, Lib.hid ⟨_, _, _, _, _, _, _, MSt.init w _⟩⟩
  case round =>
    obtain ⟨j, hj, rfl, HM⟩ := hrel
    obtain ⟨vR, vI, vN, vT, vL, gF, cF, hM⟩ := HM.out
    clear HM
    by_cases hlt : (j : Int) ≤ a1 % 8
    · obtain ⟨m0, m1, m2, m3, m4⟩ := hM.cells
      have mf := hM.frozen
      have n0 : wr.cell? ⟨w.heap.size, 0, none⟩ = some (.int .i64 1) := by
        rw [hM.fr.cell (p := ⟨w.heap.size, 0, none⟩) (by simp)]; simp [World.cell?, hpush]
      have n1 : wr.cell? ⟨w.heap.size, 1, none⟩ = some (.int .i64 0) := by
        rw [hM.fr.cell (p := ⟨w.heap.size, 1, none⟩) (by simp)]; simp [World.cell?, hpush]
      have HM := Lib.hid hM
      clear hM
      have q0 : (w.alloc (.cells #[.int .i64 1, .int .i64 0] 23)).cell? ⟨w.heap.size, 0, none⟩ = some (.int .i64 1) := by simp [World.cell?, hpush]
      have q1 : (w.alloc (.cells #[.int .i64 1, .int .i64 0] 23)).cell? ⟨w.heap.size, 1, none⟩ = some (.int .i64 0) := by simp [World.cell?, hpush]
      have Q0 := Lib.hid q0
      have Q1 := Lib.hid q1
      clear q0 q1
      go_upto_region 12 with (first
        | ((with_reducible refine g_app (.tmp 31) (.tmp 34) rfl ?_); refine aR (.tmp 31) (.tmp 34) HM.out (by omega) rfl rfl rfl rfl ?_; intro A2 c2 w2 HM2 ⟨r0, r1, r2, r3, r4, rf⟩ hB2; have n02 := below_num hB2 w.heap.size 0 (by omega) Q0.out; have n12 := below_num hB2 w.heap.size 1 (by omega) Q1.out)
        | ((with_reducible refine g_app (.tmp 38) (.tmp 39) rfl ?_); refine aN (.tmp 38) (.tmp 39) _ (by simp [World.setCell]) HM2.out (by omega) rfl rfl rfl rfl ?_; intro A3 c3 w3 HM3 ⟨s0, s1, s2, s3, s4, sf⟩ hB3; have n03 := below_num hB3 w.heap.size 0 (by omega) Q0.out; have n13 := below_num hB3 w.heap.size 1 (by omega) Q1.out)
        | ((with_reducible refine g_app (.tmp 43) (.tmp 44) rfl ?_); refine aT (.tmp 43) (.tmp 44) _ (by simp [World.setCell]) HM3.out (by omega) rfl rfl rfl rfl ?_; intro A4 c4 w4 HM4 ⟨t0, t1, t2, t3, t4, tf⟩ hB4; have n04 := below_num hB4 w.heap.size 0 (by omega) Q0.out; have n14 := below_num hB4 w.heap.size 1 (by omega) Q1.out)
        | ((with_reducible refine g_app (.tmp 48) (.tmp 51) rfl ?_); refine aI (.tmp 48) (.tmp 51) _ (by simp [World.setCell]) HM4.out (by omega) rfl rfl rfl rfl ?_; intro A5 c5 w5 HM5 ⟨u0, u1, u2, u3, u4, uf⟩ hB5; have n05 := below_num hB5 w.heap.size 0 (by omega) Q0.out; have n15 := below_num hB5 w.heap.size 1 (by omega) Q1.out)
        | fail)
      obtain ⟨W5, hW5⟩ : ∃ W, W = w5.setCell ⟨w.heap.size + 1 + 1, 2, none⟩ (.slice A5 (j + 1) c5) := ⟨_, rfl⟩
      rw [← hW5] at HM5 ⊢
      clear r0 r1 r2 r3 r4 rf s0 s1 s2 s3 s4 sf t0 t1 t2 t3 t4 tf u0 u1 u2 u3 u4 uf n02 n12 n03 n13 n04 n14 n05 n15 m0 m1 m2 m3 m4 mf n0 n1
      have HW5 := Lib.hid hW5
      clear hW5
      obtain ⟨m0, m1, m2, m3, m4⟩ := HM5.out.cells
      have mf := HM5.out.frozen
      obtain ⟨l0, -, l1, -⟩ := HM5.out.cellF
      have n0 := below_num HM5.out.fr w.heap.size 0 (by omega) Q0.out
      have n1 := below_num HM5.out.fr w.heap.size 1 (by omega) Q1.out
      have hca : ∀ o, (W5.alloc o).cell? ⟨w.heap.size + 1 + 1, 1, none⟩ = some (.slice (some ⟨gF, 0, none⟩) (j - 1 + 1) cF) := fun o => pw_cell_below (bAl W5 o) m1
      have hcb : ∀ o, (W5.alloc o).cell? ⟨gF, 3, none⟩ = some vL := fun o => pw_cell_below (bAl W5 o) l0
      have hcc : ∀ o, (W5.alloc o).cell? ⟨w.heap.size, 0, none⟩ = some (.int .i64 1) := fun o => pw_cell_below (bAl W5 o) n0
      have hcd : ∀ o, (W5.alloc o).cell? ⟨w.heap.size, 1, none⟩ = some (.int .i64 0) := fun o => pw_cell_below (bAl W5 o) n1
      go_cut [] (fun wx => Hid (∃ vL', MSt (w.alloc (.cells #[.int .i64 1, .int .i64 0] 23)) wx (w.heap.size + 1) (w.heap.size + 1 + 1) (.slice A2 (j + 1) c2) (.slice A5 (j + 1) c5) (.slice A3 (j + 1) c3) (.slice A4 (j + 1) c4) vL' gF cF (.slice none 0 0) (j + 1) (j - 1) (j + 1) (j + 1) (j + 1) (j + 1)))
      case first =>
        go_region_law ((with_reducible refine gs_app (.tmp 60) (.tmp 62) rfl ?_); refine aLs (.tmp 60) (.tmp 62) _ (by simp) (HM5.out.below (below_drew (Below.refl _ _))) (by omega) rfl rfl rfl rfl ?_; intro A6 c6 w6 HM6 ⟨r0, r1, r2, r3, r4, rf⟩ hB6 v0 v1)
        all_goals (go_wp2_with fail; go_meet; exact Lib.hid ⟨_, HM6.out⟩)
      case rest =>
        obtain ⟨vL', hM7⟩ := hcut.out
        clear hcut m0 m1 m2 m3 m4 mf n0 n1 l0 l1 hca hcb hcc hcd
        obtain ⟨m0, m1, m2, m3, m4⟩ := hM7.cells
        have mf := hM7.frozen
        have n0 := below_num hM7.fr w.heap.size 0 (by omega) Q0.out
        have n1 := below_num hM7.fr w.heap.size 1 (by omega) Q1.out
        have HM7 := Lib.hid hM7
        clear hM7
        by_cases h0 : 0 < j
        · have h0' : (0 : Int) < (j : Int) := by omega
          go_wp2_with (first
            | ((with_reducible refine g_app (.tmp 69) (.tmp 74) rfl ?_); refine aF (.tmp 69) (.tmp 74) _ (by simp) HM7.out (by omega) rfl rfl rfl rfl ?_; intro gF' cF' w8 HM8 ⟨r0, r1, r2, r3, r4, rf⟩ hB8)
            | fail)
          go_roundw
          case rel => exact ⟨j + 1, by omega, by go_num, Lib.hid ⟨_, _, _, _, _, _, _, HM8.out.nF_eq (by omega)⟩⟩
          case measure => simp [intOf]; omega
        · obtain rfl : j = 0 := by omega
          go_wp2_with fail
          go_roundw
          case rel => exact ⟨1, by omega, by go_num, Lib.hid ⟨_, _, _, _, _, _, _, HM7.out⟩⟩
          case measure => simp [intOf]
    · obtain ⟨k, hk, hk8⟩ : ∃ k : Nat, a1 % 8 = (k : Int) ∧ k < 8 := ⟨(a1 % 8).toNat, by omega, by omega⟩
      rw [hk] at hlt hj ⊢
      have HK := Lib.hid hk
      clear hk hk0 hk7
      obtain rfl : j = k + 1 := by omega
      obtain ⟨m0, m1, m2, m3, m4⟩ := hM.cells
      have mf := hM.frozen
      obtain ⟨l0, l1, l2, l3⟩ := hM.cellF
      have hca : ∀ o, (wr.alloc o).cell? ⟨w.heap.size + 1 + 1, 1, none⟩ = some (.slice (some ⟨gF, 0, none⟩) (k + 1 - 1 + 1) cF) := fun o => pw_cell_below (bAl wr o) m1
      have hcb : ∀ o, (wr.alloc o).cell? ⟨gF, 4, none⟩ = some (.slice none 0 0) := fun o => pw_cell_below (bAl wr o) l1
      have hcc : ∀ o, (wr.alloc o).frozen? ⟨gF, 4, none⟩ = false := fun o => (hM.below (bAl wr o)).cellF.2.2.2
      have HM := Lib.hid (hM.nF_eq (n := k) (by omega))
      clear hM
      go_upto_region 16 with fail
      have hst := HM.out.lt
      have hC1 := ins_at (W := wr) op k hst (.slice (some ⟨wr.heap.size, 0, none⟩) 1 1)
      have hM1 := (HM.out.below (bAl wr (.cells #[.int .i64 op, .int .i64 k, .int .i64 0] 40))).storeC (.slice (some ⟨wr.heap.size, 0, none⟩) 1 1)
      clear m0 m1 m2 m3 m4 mf l0 l1 l2 l3 hca hcb hcc
      obtain ⟨Wc, hWc⟩ : ∃ W, W = (wr.alloc (.cells #[.int .i64 op, .int .i64 k, .int .i64 0] 40)).setCell ⟨gF, 4, none⟩ (.slice (some ⟨wr.heap.size, 0, none⟩) 1 1) := ⟨_, rfl⟩
      rw [← hWc] at hM1 hC1 ⊢
      clear hWc HM
      obtain ⟨m0, m1, m2, m3, m4⟩ := hM1.cells
      have mf := hM1.frozen
      obtain ⟨hh, hat, hv⟩ := hM1.modAt hC1
      have HM1 := Lib.hid hM1
      have HV := Lib.hid hv
      have HAT := Lib.hid hat
      clear hM1 hC1 hv hat
      go_wp2_with fail
      refine (saneCheckV _ hh _ HV.out _ HAT.out (modA_ok _ _ _)).mono ?_
      rintro e w1 ⟨rfl, hb1⟩
      obtain ⟨t0, t1⟩ := saneTab ⟨k, hk8⟩ op hopm
      simp only at t0 t1
      rw [t0]
      have hM2 := HM1.out.below hb1
      clear HM1 m0 m1 m2 m3 m4 mf HV HAT
      have T1 := Lib.hid t1
      clear t0 t1
      obtain ⟨m0, m1, m2, m3, m4⟩ := hM2.cells
      have mf := hM2.frozen
      obtain ⟨l0, l1, l2, l3⟩ := hM2.cellF
      have hca : ∀ o, (w1.alloc o).cell? ⟨w.heap.size + 1 + 1, 1, none⟩ = some (.slice (some ⟨gF, 0, none⟩) (k + 1) cF) := fun o => pw_cell_below (bAl w1 o) m1
      have hcb : ∀ o, (w1.alloc o).cell? ⟨gF, 4, none⟩ = some (.slice (some ⟨wr.heap.size, 0, none⟩) 1 1) := fun o => pw_cell_below (bAl w1 o) l1
      have hcc : ∀ o, (w1.alloc o).frozen? ⟨gF, 4, none⟩ = false := fun o => (hM2.below (bAl w1 o)).cellF.2.2.2
      have HM2 := Lib.hid hM2
      clear hM2
      go_upto_region 18 with fail
      have hC3 := ins_at (W := w1) op (k + 1) HM2.out.lt (.slice (some ⟨w1.heap.size, 0, none⟩) 1 1)
      have hM3 := (HM2.out.below (bAl w1 (.cells #[.int .i64 op, .int .i64 (k + 1), .int .i64 0] 40))).storeC (.slice (some ⟨w1.heap.size, 0, none⟩) 1 1)
      clear m0 m1 m2 m3 m4 mf l0 l1 l2 l3 hca hcb hcc
      obtain ⟨Wd, hWd⟩ : ∃ W, W = (w1.alloc (.cells #[.int .i64 op, .int .i64 (k + 1), .int .i64 0] 40)).setCell ⟨gF, 4, none⟩ (.slice (some ⟨w1.heap.size, 0, none⟩) 1 1) := ⟨_, rfl⟩
      rw [← hWd] at hM3 hC3 ⊢
      clear hWd HM2
      obtain ⟨m0, m1, m2, m3, m4⟩ := hM3.cells
      have mf := hM3.frozen
      obtain ⟨hh, hat, hv⟩ := hM3.modAt hC3
      have HB := Lib.hid (below_pre hM3.fr)
      have HV := Lib.hid hv
      have HAT := Lib.hid hat
      clear hM3 hC3 hv hat
      go_wp2_with fail
      refine (saneCheckV _ hh _ HV.out _ HAT.out (modA_ok _ _ _)).mono ?_
      rintro e w2 ⟨rfl, hb2⟩
      rw [T1.out]
      go_wp2_with fail
      refine (answers07 _).mono ?_
      rintro e w3 ⟨rfl, hb3⟩
      go_wp2_with fail
      go_ret
      exact ⟨rfl, blt (blt HB.out hb2) hb3⟩
end Go.Proofs.Ytgcokdcdpdndjaa
