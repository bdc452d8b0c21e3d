/- law VerifyJoins: the walk. -/
import Derived.Test.YtgcokdcdpdndjaaDoorRef
namespace Go.Proofs.YtgcokdcdpdndjaaDoor
open Go.RowKit Go.Proofs.YtgcokdcdpdndjaaDoorW.PrintWords
set_option linter.unusedVariables false
set_option linter.unusedSimpArgs false

def insJ : List Ins := [⟨0, 0, 0⟩, ⟨1, 0, 0⟩, ⟨2, 0, 0⟩, ⟨28, 0, 0⟩, ⟨28, 1, 0⟩]
def tyJ : List Ty := [⟨1, 0⟩, ⟨2, 0⟩, ⟨6, 0⟩, ⟨4, 0⟩, ⟨4, 1⟩]
def codeJ (ix iy : Ins) : List Ins := [⟨0, 0, 0⟩, ⟨24, 4, 0⟩, ix, ⟨23, 5, 0⟩, iy, ⟨5, 0, 0⟩, ⟨0, 0, 0⟩, ⟨26, 0, 0⟩, ⟨8, 0, 0⟩]
def modJ (ix iy : Ins) : Mod := ⟨[[], []], [⟨[], ⟨1, 0⟩, [], codeJ ix iy⟩], [], [1], [⟨#[]⟩]⟩
def chkJ (m : Mod) (J : Ty) : Bool := match checkR m with
  | .ok [Z] => decide (Z.length = 9) && (match Z[5]? with | some s => decide (s.stack = [J]) | none => false) && (match Z[8]? with | some s => !s.seen && decide (s.stack = []) | none => false)
  | _ => false
theorem tabJ : ∀ x y : Fin 5, chkJ (modJ (insJ.getD x default) (insJ.getD y default)) (joinTy (tyJ.getD x default) (tyJ.getD y default)) = true := by decide +kernel
theorem chkJ_ok {m : Mod} {J : Ty} (h : chkJ m J = true) : ∃ Z b, checkR m = .ok [Z] ∧ Z.length = 9 ∧ Z[5]? = some ⟨b, [J]⟩ ∧ Z[8]? = some ⟨false, []⟩ := by
  unfold chkJ at h
  split at h
  · rename_i Z hZ
    simp only [Bool.and_eq_true, decide_eq_true_eq] at h
    obtain ⟨⟨h1, h2⟩, h3⟩ := h
    cases h5 : Z[5]? with
    | none => rw [h5] at h2; cases h2
    | some s5 =>
      cases h8 : Z[8]? with
      | none => rw [h8] at h3; cases h3
      | some s8 =>
        rw [h5] at h2; rw [h8] at h3
        simp at h2 h3
        obtain ⟨b5, st5⟩ := s5
        obtain ⟨b8, st8⟩ := s8
        simp only at h2 h3
        refine ⟨Z, b5, hZ, h1, by rw [h5, h2], by rw [h8, h3.1, h3.2]⟩
  · cases h
set_option maxRecDepth 100000 in
set_option maxHeartbeats 6400000 in
theorem verifyJoinsLaw (a0 : Int) (a1 : Int) (h00 : 0 ≤ a0) (h01 : a0 ≤ 255) (h10 : 0 ≤ a1) (h11 : a1 ≤ 255) (w : World) (hgl : Gl w) :
    Calls Tryd.prog 9 #[.int .u8 a0, .int .u8 a1] w fun e w' => e = .returned (.bool true) ∧ Below w.heap.size w w' := by
  obtain ⟨x, hx, hx5⟩ : ∃ x : Nat, a0 % 5 = x ∧ x < 5 := ⟨(a0 % 5).toNat, by omega, by omega⟩
  obtain ⟨y, hy, hy5⟩ : ∃ y : Nat, a1 % 5 = y ∧ y < 5 := ⟨(a1 % 5).toNat, by omega, by omega⟩
  have HG := Lib.hid hgl
  clear hgl
  go_enter Tryd.func9, Tryd.ntmps9
  go_wp2_with fail
  have hI := C_inss ((w.alloc (.cells #[.int .i64 0, .int .i64 0, .int .i64 0, .int .i64 1, .int .i64 0, .int .i64 0, .int .i64 2, .int .i64 0, .int .i64 0, .int .i64 28, .int .i64 0, .int .i64 0, .int .i64 28, .int .i64 1, .int .i64 0] 56)).alloc (.cells #[.int .i64 1, .int .i64 0, .int .i64 2, .int .i64 0, .int .i64 6, .int .i64 0, .int .i64 4, .int .i64 0, .int .i64 4, .int .i64 1] 37)) _ _ _ _ insJ 5 rfl (at2_0 w _ _) rfl (by omega)
  have hT := C_flat kTy tyc (fun _ => rfl) (fun _ _ => kTy_mk) ((w.alloc (.cells #[.int .i64 0, .int .i64 0, .int .i64 0, .int .i64 1, .int .i64 0, .int .i64 0, .int .i64 2, .int .i64 0, .int .i64 0, .int .i64 28, .int .i64 0, .int .i64 0, .int .i64 28, .int .i64 1, .int .i64 0] 56)).alloc (.cells #[.int .i64 1, .int .i64 0, .int .i64 2, .int .i64 0, .int .i64 6, .int .i64 0, .int .i64 4, .int .i64 0, .int .i64 4, .int .i64 1] 37)) _ _ _ _ tyJ 5 rfl (at2_1 w _ _) rfl (by omega)
  have hb1 := bA2 w (.cells #[.int .i64 0, .int .i64 0, .int .i64 0, .int .i64 1, .int .i64 0, .int .i64 0, .int .i64 2, .int .i64 0, .int .i64 0, .int .i64 28, .int .i64 0, .int .i64 0, .int .i64 28, .int .i64 1, .int .i64 0] 56) (.cells #[.int .i64 1, .int .i64 0, .int .i64 2, .int .i64 0, .int .i64 6, .int .i64 0, .int .i64 4, .int .i64 0, .int .i64 4, .int .i64 1] 37)
  generalize ((w.alloc (.cells #[.int .i64 0, .int .i64 0, .int .i64 0, .int .i64 1, .int .i64 0, .int .i64 0, .int .i64 2, .int .i64 0, .int .i64 0, .int .i64 28, .int .i64 0, .int .i64 0, .int .i64 28, .int .i64 1, .int .i64 0] 56)).alloc (.cells #[.int .i64 1, .int .i64 0, .int .i64 2, .int .i64 0, .int .i64 6, .int .i64 0, .int .i64 4, .int .i64 0, .int .i64 4, .int .i64 1] 37)) = W1 at hI hT hb1 ⊢
  have h0 := hb1.size
  obtain ⟨ad, ix, e, hix, i0, i1, i2⟩ := at_Ins hI x hx5
  injection e with e; subst e
  obtain ⟨ad, iy, e, hiy, j0, j1, j2⟩ := at_Ins hI y hy5
  injection e with e; subst e
  have ha : ∀ k, (⟨w.heap.size, 0, none⟩ : Addr).add k = ⟨w.heap.size, k, none⟩ := fun k => by simp [Addr.add]; try (intro h; exact h.symm)
  simp only [ha] at i0 i1 i2 j0 j1 j2
  clear ha
  have HT := Lib.hid hT
  have HB1 := Lib.hid hb1
  have hx5' : (x : Int) < 5 := by omega
  have hy5' : (y : Int) < 5 := by omega
  obtain ⟨ad, ty0, e, hty0, t0, t1⟩ := at_Ty hT 0 (by omega)
  injection e with e; subst e
  obtain rfl : (⟨1, 0⟩ : Ty) = ty0 := by simpa [tyJ] using hty0
  have hat : ∀ k, (⟨w.heap.size + 1, 0, none⟩ : Addr).add k = ⟨w.heap.size + 1, k, none⟩ := fun k => by simp [Addr.add]; try (intro h; exact h.symm)
  simp only [hat] at t0 t1
  clear hI hT hb1 hty0 hat
  go_region
  have c9 : (W1.alloc (.cells #[.int .i64 0, .int .i64 0, .int .i64 0, .int .i64 24, .int .i64 4, .int .i64 0, .int .i64 ix.op, .int .i64 ix.a, .int .i64 ix.b, .int .i64 23, .int .i64 5, .int .i64 0, .int .i64 iy.op, .int .i64 iy.a, .int .i64 iy.b, .int .i64 5, .int .i64 0, .int .i64 0, .int .i64 0, .int .i64 0, .int .i64 0, .int .i64 26, .int .i64 0, .int .i64 0, .int .i64 8, .int .i64 0, .int .i64 0] 56)).drew.heap[W1.heap.size]? = some (.cells #[.int .i64 0, .int .i64 0, .int .i64 0, .int .i64 24, .int .i64 4, .int .i64 0, .int .i64 ix.op, .int .i64 ix.a, .int .i64 ix.b, .int .i64 23, .int .i64 5, .int .i64 0, .int .i64 iy.op, .int .i64 iy.a, .int .i64 iy.b, .int .i64 5, .int .i64 0, .int .i64 0, .int .i64 0, .int .i64 0, .int .i64 0, .int .i64 26, .int .i64 0, .int .i64 0, .int .i64 8, .int .i64 0, .int .i64 0] 56 (0, 0)) := heap_alloc_new W1 _
  have hb2 := below_drew (bAl W1 (.cells #[.int .i64 0, .int .i64 0, .int .i64 0, .int .i64 24, .int .i64 4, .int .i64 0, .int .i64 ix.op, .int .i64 ix.a, .int .i64 ix.b, .int .i64 23, .int .i64 5, .int .i64 0, .int .i64 iy.op, .int .i64 iy.a, .int .i64 iy.b, .int .i64 5, .int .i64 0, .int .i64 0, .int .i64 0, .int .i64 0, .int .i64 0, .int .i64 26, .int .i64 0, .int .i64 0, .int .i64 8, .int .i64 0, .int .i64 0] 56))
  generalize hW2 : (W1.alloc _).drew = W2 at c9 hb2 ⊢
  clear hW2
  have s0 := pw_cell_below hb2 t0
  have s1 := pw_cell_below hb2 t1
  have hs2 := hb2.size
  have hl2 := blk_lt c9
  have ht2 := World.block_lt_of_cell? _ _ s0
  simp only at ht2
  clear i0 i1 i2 j0 j1 j2 t0 t1
  have HT2 := Lib.hid (Kd.C_below HT.out hb2)
  have HB2 := Lib.hid (blt HB1.out hb2)
  clear hb2 HT HB1
  generalize W1.heap.size = g9 at *
  have r0 := fun o p q => pw_cell_below (bA3 W2 o p q) s0
  have r1 := fun o p q => pw_cell_below (bA3 W2 o p q) s1
  clear s0 s1 ht2
  go_wp2_with fail
  obtain ⟨Z, b, hZ, hZl, h5, h8⟩ : ∃ Z b, checkR (modJ ix iy) = .ok [Z] ∧ Z.length = 9 ∧ Z[5]? = some ⟨b, [joinTy (tyJ.getD x default) (tyJ.getD y default)]⟩ ∧ Z[8]? = some ⟨false, []⟩ := by
    have htab := tabJ ⟨x, hx5⟩ ⟨y, hy5⟩
    simp only at htab
    rw [getD_of hix, getD_of hiy] at htab
    exact chkJ_ok htab
  refine (verifyCheckV (modJ ix iy) ⟨some ⟨W2.heap.size, 0, none⟩, 2, some ⟨W2.heap.size + 1 + 1 + 1, 0, none⟩, 1, none, 0, some ⟨W2.heap.size + 1, 0, none⟩, 1, some ⟨W2.heap.size + 1 + 1, 0, none⟩, 1⟩ _ rfl _ (HG.out.below (blt HB2.out (bA5 _ _ _ _ _ _))) ?hm ?hok).mono ?_
  case hm =>
    refine ⟨?_, Nat.le_refl _, ?_, Nat.le_refl _, C_nil _ _, Nat.le_refl _, C_ints _ _ _ _ _ [1] 1 rfl (at5_1 _ _ _ _ _ _) rfl (by omega), Nat.le_refl _, C_flat Kd.string (fun s => [.string s]) (fun _ => rfl) (fun _ _ => rfl) _ _ _ _ _ [⟨#[]⟩] 1 rfl (at5_2 _ _ _ _ _ _) rfl (by omega), Nat.le_refl _⟩
    · exact kTys_two' _ _ none none 0 0 0 0 [] [] _ _ (C_nil _ _) (Nat.le_refl _) (C_nil _ _) (Nat.le_refl _) (at5_0 _ _ _ _ _ _)
    · refine C_one kFn _ _ _ _ _ _ (at5_3 _ _ _ _ _ _) ?_
      refine kFn_mk (h := ⟨none, 0, none, 0, some ⟨g9, 0, none⟩, 9⟩) ⟨C_nil _ _, Nat.le_refl _, C_nil _ _, Nat.le_refl _, ?_, Nat.le_refl _⟩
      exact C_inss _ _ _ _ _ (codeJ ix iy) 9 rfl (((bA5 _ _ _ _ _ _).block g9 hl2).trans c9) rfl (by omega)
  case hok => intro x hx; simp [modJ] at hx; subst hx; omega
  rintro e w1 hr
  rw [hZ] at hr
  obtain ⟨A, c, hd, rfl, HR, HS, hb1⟩ := hr
  obtain ⟨gM, gS, A', c', rfl, k0, k1, k2, hO5⟩ := maps_at (f := 0) (pc := 5) HR.out HS.out rfl h5
  obtain ⟨gM', gS', A8, c8, e, k0', k3, k4, -⟩ := maps_at (f := 0) (pc := 8) HR.out HS.out rfl h8
  injection e with e; injection e with e _ _; subst e
  rw [k0] at k0'
  simp only [Option.some.injEq, Value.slice.injEq, Addr.mk.injEq, and_true, true_and] at k0'
  subst k0'
  rw [hZl] at k0
  simp only [List.length_cons, List.length_nil] at k0 k1 k2 k3 k4 hO5
  obtain ⟨gs, rfl, -, -⟩ := ot_form hO5 (by simp)
  obtain ⟨n0, -⟩ := ot_cell hO5 0 _ rfl
  obtain ⟨n1, -⟩ := ot_cell2 hO5 0 _ rfl
  have hb := blt HB2.out (blt (bA5 _ _ _ _ _ _) hb1)
  have hT1 := Kd.C_below HT2.out (blt (bA5 _ _ _ _ _ _) hb1)
  obtain ⟨ad, tx, e, htx, u0, u1⟩ := at_Ty hT1 x hx5
  injection e with e; subst e
  obtain ⟨ad, ty, e, hty, v0, v1⟩ := at_Ty hT1 y hy5
  injection e with e; subst e
  have hat : ∀ k, (⟨w.heap.size + 1, 0, none⟩ : Addr).add k = ⟨w.heap.size + 1, k, none⟩ := fun k => by simp [Addr.add]; try (intro h; exact h.symm)
  simp only [hat] at u0 u1 v0 v1
  rw [getD_of htx, getD_of hty] at n0 n1
  simp only [Nat.reduceMul, Nat.reduceAdd, Nat.zero_add, Nat.zero_mul] at k0 k2 k3 k4 n0 n1
  have KS : ∀ W : World, Below w1.heap.size w1 W → (fun w' : World => Below w1.heap.size w1 w' ∧ w'.cell? ⟨gM, 0, none⟩ = some (.slice (some ⟨gS, 0, none⟩) 9 9) ∧ w'.cell? ⟨gS, 11, none⟩ = some (.slice (some ⟨gs, 0, none⟩) 1 1) ∧ w'.cell? ⟨gS, 16, none⟩ = some (.bool false) ∧ w'.cell? ⟨gS, 17, none⟩ = some (.slice A8 0 0) ∧ w'.cell? ⟨gs, 0, none⟩ = some (.int .i64 (joinTy tx ty).kind) ∧ w'.cell? ⟨gs, 1, none⟩ = some (.int .i64 (joinTy tx ty).n) ∧ w'.cell? ⟨w.heap.size + 1, x * 2, none⟩ = some (.int .i64 tx.kind) ∧ w'.cell? ⟨w.heap.size + 1, x * 2 + 1, none⟩ = some (.int .i64 tx.n) ∧ w'.cell? ⟨w.heap.size + 1, y * 2, none⟩ = some (.int .i64 ty.kind) ∧ w'.cell? ⟨w.heap.size + 1, y * 2 + 1, none⟩ = some (.int .i64 ty.n)) W := fun W hb => ⟨hb, pw_cell_below hb k0, pw_cell_below hb k2, pw_cell_below hb k3, pw_cell_below hb k4, pw_cell_below hb n0, pw_cell_below hb n1, pw_cell_below hb u0, pw_cell_below hb u1, pw_cell_below hb v0, pw_cell_below hb v1⟩
  have KS := Lib.hid KS
  have HB := Lib.hid hb
  clear hb hat k0 k1 k2 k3 k4 n0 n1 u0 u1 v0 v1 HR HS hb1 hT1 hO5 htx hty h5 h8 hZ HT2 HB2 r0 r1 c9 hs2 hl2 hix hiy
  go_wp2_with fail
  simp only [List.append_eq, List.cons_append, List.nil_append]
  go_region_held3 (fun w' => Below w1.heap.size w1 w' ∧ w'.cell? ⟨gM, 0, none⟩ = some (.slice (some ⟨gS, 0, none⟩) 9 9) ∧ w'.cell? ⟨gS, 11, none⟩ = some (.slice (some ⟨gs, 0, none⟩) 1 1) ∧ w'.cell? ⟨gS, 16, none⟩ = some (.bool false) ∧ w'.cell? ⟨gS, 17, none⟩ = some (.slice A8 0 0) ∧ w'.cell? ⟨gs, 0, none⟩ = some (.int .i64 (joinTy tx ty).kind) ∧ w'.cell? ⟨gs, 1, none⟩ = some (.int .i64 (joinTy tx ty).n) ∧ w'.cell? ⟨w.heap.size + 1, x * 2, none⟩ = some (.int .i64 tx.kind) ∧ w'.cell? ⟨w.heap.size + 1, x * 2 + 1, none⟩ = some (.int .i64 tx.n) ∧ w'.cell? ⟨w.heap.size + 1, y * 2, none⟩ = some (.int .i64 ty.kind) ∧ w'.cell? ⟨w.heap.size + 1, y * 2 + 1, none⟩ = some (.int .i64 ty.n))
    ((refine KS.out _ ?_; first | exact below_drew (Below.refl _ _) | exact hbw | exact hbw2 | (trace_state; fail)))
    ((first
      | (go_at_call 21; with_reducible refine (answers09 _ (HG.out.below (blt HB.out (show Below w1.heap.size w1 _ by go_split_ands; assumption)))).mono ?_; intro e w5 hr; obtain ⟨rfl, hb5⟩ := hr; have hbw := blt (show Below w1.heap.size w1 _ by go_split_ands; assumption) hb5)
      | (go_at_call 27; with_reducible refine (ref01Join2 _ _ _ _ _).mono ?_; intro e w6 hr; obtain ⟨rfl, hb6⟩ := hr; have hbw2 := blt (show Below w1.heap.size w1 _ by go_split_ands; assumption) hb6)))
  all_goals (go_wp2_with fail; go_ret; exact ⟨rfl, blt HB.out (by first | exact hbw2 | exact hbw)⟩)
end Go.Proofs.YtgcokdcdpdndjaaDoor
