/- flow: Local, plain, named, free, of. -/
import Derived.Test.YtgcokdcdpdndjaaDoorLit
namespace Go.Proofs.YtgcokdcdpdndjaaDoor
open Go.RowKit Go.Proofs.YtgcokdcdpdndjaaDoorW.PrintWords
set_option linter.unusedVariables false
set_option linter.unusedSimpArgs false

/-- the package's types -/
structure Gl (w : World) : Prop where
  u0 : w.cell? ⟨0, 0, none⟩ = some (.int .i64 8)
  u1 : w.cell? ⟨0, 1, none⟩ = some (.int .i64 0)
  n0 : w.cell? ⟨1, 0, none⟩ = some (.int .i64 1)
  n1 : w.cell? ⟨1, 1, none⟩ = some (.int .i64 0)
  w0 : w.cell? ⟨2, 0, none⟩ = some (.int .i64 3)
  w1 : w.cell? ⟨2, 1, none⟩ = some (.int .i64 0)
  o0 : w.cell? ⟨3, 0, none⟩ = some (.int .i64 2)
  o1 : w.cell? ⟨3, 1, none⟩ = some (.int .i64 0)
  r0 : w.cell? ⟨4, 0, none⟩ = some (.int .i64 7)
  r1 : w.cell? ⟨4, 1, none⟩ = some (.int .i64 0)
theorem Gl.below {w W : World} (h : Gl w) (hb : Below w.heap.size w W) : Gl W :=
  ⟨pw_cell_below hb h.u0, pw_cell_below hb h.u1, pw_cell_below hb h.n0, pw_cell_below hb h.n1, pw_cell_below hb h.w0, pw_cell_below hb h.w1, pw_cell_below hb h.o0, pw_cell_below hb h.o1, pw_cell_below hb h.r0, pw_cell_below hb h.r1⟩
theorem Gl.size {w : World} (h : Gl w) : 0 < w.heap.size ∧ 1 < w.heap.size ∧ 2 < w.heap.size ∧ 3 < w.heap.size ∧ 4 < w.heap.size := by
  have h0 := World.block_lt_of_cell? _ _ h.u0
  have h1 := World.block_lt_of_cell? _ _ h.n0
  have h2 := World.block_lt_of_cell? _ _ h.w0
  have h3 := World.block_lt_of_cell? _ _ h.o0
  have h4 := World.block_lt_of_cell? _ _ h.r0
  simp only at *
  omega

def localTy (f : Fn) (n : Int) : Ty := if n < 0 then ⟨8, 0⟩ else ((f.args ++ f.locals)[n.toNat]?).getD ⟨8, 0⟩

set_option maxHeartbeats 1600000 in
theorem flowLocal (f : Fn) (h : FnH) (n : Int) (w : World) (hgl : Gl w) (hf : FnAt w f h) (h1 : f.args.length ≤ 100) (h2 : f.locals.length ≤ 100) :
    Calls Tryd.prog 112 #[f.v h, .int .i64 n] w fun e w' => e = .returned (.agg #[.int .i64 (localTy f n).kind, .int .i64 (localTy f n).n]) ∧ Below w.heap.size w w' := by
  have HF := Lib.hid hf
  obtain ⟨s0, s1, s2, s3, s4⟩ := hgl.size
  obtain ⟨gu0, gu1, -, -, -, -, -, -, -, -⟩ := hgl
  have m0 := C_len hf.r0
  have m1 := C_len hf.r1
  clear hf
  obtain ⟨A0, c0, A1, c1, A2, c2⟩ := h
  unfold Fn.v
  simp only
  by_cases h0 : n < 0
  · have hfin : localTy f n = ⟨8, 0⟩ := by simp [localTy, h0]
    rw [hfin]
    go_enter Tryd.func112, Tryd.ntmps112
    go_wp2
    exact bodyPost_ret (v := .agg #[.int .i64 8, .int .i64 0]) (by simp [results, Tryd.results112, go_sem]) rfl ⟨rfl, bA2 _ _ _⟩
  · obtain ⟨n, rfl⟩ := Int.eq_ofNat_of_zero_le (show 0 ≤ n by omega)
    clear h0
    by_cases h3 : n < f.args.length
    · obtain ⟨ad, x, hA0, hx, hy0, hy1⟩ := at_Ty HF.out.r0 n h3
      simp only at hA0
      subst hA0
      have hfin : localTy f n = x := by
        have : ¬ (n : Int) < 0 := by omega
        simp [localTy, this, List.getElem?_append_left h3, hx]
      rw [hfin]
      have hz0 := fun o o' => pw_cell_below (bAl2 w o o') hy0
      have hz1 := fun o o' => pw_cell_below (bAl2 w o o') hy1
      clear hfin hx hy0 hy1
      have h3' : (n : Int) < f.args.length := by omega
      go_enter Tryd.func112, Tryd.ntmps112
      go_wp2
      exact bodyPost_ret (v := .agg #[.int .i64 x.kind, .int .i64 x.n]) (by simp [results, Tryd.results112, go_sem]) rfl ⟨rfl, bA2 _ _ _⟩
    · have h3' : ¬ (n : Int) < f.args.length := by omega
      by_cases h4 : n < f.args.length + f.locals.length
      · obtain ⟨ad, x, hA1, hx, hy0, hy1⟩ := at_Ty HF.out.r1 (n - f.args.length) (by omega)
        simp only at hA1
        subst hA1
        have hfin : localTy f n = x := by
          have : ¬ (n : Int) < 0 := by omega
          simp [localTy, this, List.getElem?_append_right (show f.args.length ≤ n by omega), hx]
        rw [hfin]
        have hz0 := fun o o' => pw_cell_below (bAl2 w o o') hy0
        have hz1 := fun o o' => pw_cell_below (bAl2 w o o') hy1
        clear hfin hx hy0 hy1
        have h4' : (n : Int) < f.args.length + f.locals.length := by omega
        have e : (n : Int) - f.args.length = ((n - f.args.length : Nat) : Int) := by omega
        have l5 : n - f.args.length < f.locals.length := by omega
        generalize n - f.args.length = k at *
        go_enter Tryd.func112, Tryd.ntmps112
        go_wp2

        exact bodyPost_ret (v := .agg #[.int .i64 x.kind, .int .i64 x.n]) (by simp [results, Tryd.results112, go_sem]) rfl ⟨rfl, bA2 _ _ _⟩
      · have hfin : localTy f n = ⟨8, 0⟩ := by
          have : ¬ (n : Int) < 0 := by omega
          simp only [localTy, if_neg this]
          rw [List.getElem?_eq_none (by simp; omega)]; rfl
        rw [hfin]
        have h4' : ¬ (n : Int) < f.args.length + f.locals.length := by omega
        go_enter Tryd.func112, Tryd.ntmps112
        go_wp2
        exact bodyPost_ret (v := .agg #[.int .i64 8, .int .i64 0]) (by simp [results, Tryd.results112, go_sem]) rfl ⟨rfl, bA2 _ _ _⟩
end Go.Proofs.YtgcokdcdpdndjaaDoor
