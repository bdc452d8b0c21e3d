/- kind.Join, slices.Clone. -/
import Derived.Test.YtgcokdcdpdndjaaDoorLeast2
import Derived.Test.YtgcokdcdpdndjaaDoorOwn08W
namespace Go.Proofs.YtgcokdcdpdndjaaDoor
open Go.RowKit Go.Proofs.YtgcokdcdpdndjaaDoorW.PrintWords
set_option linter.unusedVariables false
set_option linter.unusedSimpArgs false

set_option maxHeartbeats 3200000 in
theorem kindJoin (k n k' n' : Int) (w : World) :
    Calls Tryd.prog 93 #[.agg #[.int .i64 k, .int .i64 n], .agg #[.int .i64 k', .int .i64 n']] w fun e w' => e = .returned (.agg #[.int .i64 (joinTy ⟨k, n⟩ ⟨k', n'⟩).kind, .int .i64 (joinTy ⟨k, n⟩ ⟨k', n'⟩).n]) ∧ Below w.heap.size w w' := by
  generalize hJ : joinTy ⟨k, n⟩ ⟨k', n'⟩ = J
  have HJ := Lib.hid hJ
  clear hJ
  go_enter Tryd.func93, Tryd.ntmps93
  go_wp2_with fail
  refine (kindSub _ _ _ _ _).mono ?_
  rintro e w1 ⟨rfl, hb1⟩
  obtain ⟨hc1, hf1, _⟩ := bcell hb1
  have hz0 : w.heap.size < w1.heap.size := by have := hb1.size; simp at this; omega
  have hz1 : w.heap.size + 1 < w1.heap.size := by have := hb1.size; simp at this; omega
  have hz2 : w.heap.size + 1 + 1 < w1.heap.size := by have := hb1.size; simp at this; omega
  have hB1 := Lib.hid (blt (bA3 _ _ _ _) hb1)
  clear hb1
  generalize hg1 : subTy ⟨k, n⟩ ⟨k', n'⟩ = b1
  have G1 := Lib.hid hg1
  clear hg1
  cases b1 with
  | true =>
    have e1 : J = ⟨k', n'⟩ := by rw [← HJ.out, joinTy, if_pos G1.out]
    subst e1
    go_wp2_with fail
    refine bodyPost_ret (v := .agg #[.int .i64 k', .int .i64 n']) (by simp [results, Tryd.results93, go_sem, hc1, hf1, hz0, hz1, hz2]) rfl ?_
    exact ⟨rfl, (hB1.out.setCell (by simp only; omega) _).setCell (by simp only; omega) _⟩
  | false =>
    go_wp2_with fail
    refine (kindSub _ _ _ _ _).mono ?_
    rintro e w2 ⟨rfl, hb2⟩
    obtain ⟨hc2, hf2, _⟩ := bcell hb2
    have hy0 : w.heap.size < w2.heap.size := by have := hb2.size; omega
    have hy1 : w.heap.size + 1 < w2.heap.size := by have := hb2.size; omega
    have hy2 : w.heap.size + 1 + 1 < w2.heap.size := by have := hb2.size; omega
    have hB2 := Lib.hid (blt hB1.out hb2)
    clear hb2
    generalize hg2 : subTy ⟨k', n'⟩ ⟨k, n⟩ = b2
    have G2 := Lib.hid hg2
    clear hg2
    cases b2 with
    | true =>
      have e1 : J = ⟨k, n⟩ := by rw [← HJ.out, joinTy, if_neg (by rw [G1.out]; simp), if_pos G2.out]
      subst e1
      go_wp2_with fail
      refine bodyPost_ret (v := .agg #[.int .i64 k, .int .i64 n]) (by simp [results, Tryd.results93, go_sem, hc1, hf1, hz0, hz1, hz2, hc2, hf2, hy0, hy1, hy2]) rfl ?_
      exact ⟨rfl, (hB2.out.setCell (by simp only; omega) _).setCell (by simp only; omega) _⟩
    | false =>
      go_wp2_with fail
      refine (kindRef _ _ _).mono ?_
      rintro e w3 ⟨rfl, hb3⟩
      obtain ⟨hc3, hf3, _⟩ := bcell hb3
      have hx0 : w.heap.size < w3.heap.size := by have := hb3.size; omega
      have hx1 : w.heap.size + 1 < w3.heap.size := by have := hb3.size; omega
      have hx2 : w.heap.size + 1 + 1 < w3.heap.size := by have := hb3.size; omega
      have hB3 := Lib.hid (blt hB2.out hb3)
      clear hb3
      generalize hg3 : isRef ⟨k, n⟩ = b3
      have G3 := Lib.hid hg3
      clear hg3
      cases b3 with
      | false =>
        have e1 : J = ⟨8, 0⟩ := by rw [← HJ.out, joinTy, if_neg (by rw [G1.out]; simp), if_neg (by rw [G2.out]; simp), if_neg (by rw [G3.out]; simp)]
        subst e1
        go_wp2_with fail
        refine bodyPost_ret (v := .agg #[.int .i64 8, .int .i64 0]) (by simp [results, Tryd.results93, go_sem, hc1, hf1, hz0, hz1, hz2, hc2, hf2, hy0, hy1, hy2, hc3, hf3, hx0, hx1, hx2]) rfl ?_
        exact ⟨rfl, (hB3.out.setCell (by simp only; omega) _).setCell (by simp only; omega) _⟩
      | true =>
        go_wp2_with fail
        refine (kindRef _ _ _).mono ?_
        rintro e w4 ⟨rfl, hb4⟩
        obtain ⟨hc4, hf4, _⟩ := bcell hb4
        have hu0 : w.heap.size < w4.heap.size := by have := hb4.size; omega
        have hu1 : w.heap.size + 1 < w4.heap.size := by have := hb4.size; omega
        have hu2 : w.heap.size + 1 + 1 < w4.heap.size := by have := hb4.size; omega
        have hB4 := Lib.hid (blt hB3.out hb4)
        clear hb4
        generalize hg4 : isRef ⟨k', n'⟩ = b4
        have G4 := Lib.hid hg4
        clear hg4
        cases b4 with
        | false =>
          have e1 : J = ⟨8, 0⟩ := by rw [← HJ.out, joinTy, if_neg (by rw [G1.out]; simp), if_neg (by rw [G2.out]; simp), if_neg (by rw [G4.out]; simp)]
          subst e1
          go_wp2_with fail
          refine bodyPost_ret (v := .agg #[.int .i64 8, .int .i64 0]) (by simp [results, Tryd.results93, go_sem, hc1, hf1, hz0, hz1, hz2, hc2, hf2, hy0, hy1, hy2, hc3, hf3, hx0, hx1, hx2, hc4, hf4, hu0, hu1, hu2]) rfl ?_
          exact ⟨rfl, (hB4.out.setCell (by simp only; omega) _).setCell (by simp only; omega) _⟩
        | true =>
          have e1 : J = ⟨7, 0⟩ := by rw [← HJ.out, joinTy, if_neg (by rw [G1.out]; simp), if_neg (by rw [G2.out]; simp), if_pos (by rw [G3.out, G4.out]; simp)]
          subst e1
          go_wp2_with fail
          refine bodyPost_ret (v := .agg #[.int .i64 7, .int .i64 0]) (by simp [results, Tryd.results93, go_sem, hc1, hf1, hz0, hz1, hz2, hc2, hf2, hy0, hy1, hy2, hc3, hf3, hx0, hx1, hx2, hc4, hf4, hu0, hu1, hu2]) rfl ?_
          exact ⟨rfl, (hB4.out.setCell (by simp only; omega) _).setCell (by simp only; omega) _⟩
@[go_sem] theorem eqlNilT (n c : Nat) (w : World) : (binOp .eql 29 (.slice none n c) (.slice none 0 0)).run Tryd.prog w = .ok (.bool true) w := by kernel_rfl
@[go_sem] theorem eqlSomeT (ad : Addr) (n c : Nat) (w : World) : (binOp .eql 29 (.slice (some ad) n c) (.slice none 0 0)).run Tryd.prog w = .ok (.bool false) w := by kernel_rfl
set_option maxRecDepth 100000 in
set_option maxHeartbeats 1600000 in
theorem slicesClone (A : Option Addr) (c : Nat) (st : List Ty) (w : World) (hC : kTy.C w A st.length st) (hl : st.length ≤ 1000000) :
    Calls Tryd.prog 92 #[.slice A st.length c] w (TysRet w st) := by
  have HC := Lib.hid hC
  cases A with
  | none =>
    have h0 : st.length = 0 := by
      rcases Nat.eq_zero_or_pos st.length with h | h
      · exact h
      · obtain ⟨_, e, _⟩ := hC.2.2 h; cases e
    obtain rfl : st = [] := List.eq_nil_of_length_eq_zero h0
    clear hC h0
    go_enter Tryd.func92, Tryd.ntmps92
    go_wp2_with fail
    go_ret
    exact ⟨none, 0, rfl, Lib.hid (Kd.R_nil _ _ _ _ _), Below.refl _ _⟩
  | some ad =>
    clear hC
    go_enter Tryd.func92, Tryd.ntmps92
    go_wp2_with (first | ((with_reducible refine g_app (.tmp 5) (.tmp 6) rfl ?_); refine appT _ _ w.heap.size _ [] st (some ad) st.length c (ot_empty w) (Kd.C_below HC.out (bAl _ _)) (by simp) (by simp; omega) rfl rfl rfl rfl ?_; intro vi w2 HOi hb2 hg2 hat2; obtain ⟨Ai, ci, rfl, -, -⟩ := Kd.R_reads HOi.out; have hb2' : Below w.heap.size w w2 := (bAl w _).trans hb2) | fail)
    go_ret
    exact ⟨Ai, ci, rfl, HOi, hb2'⟩
end Go.Proofs.YtgcokdcdpdndjaaDoor
