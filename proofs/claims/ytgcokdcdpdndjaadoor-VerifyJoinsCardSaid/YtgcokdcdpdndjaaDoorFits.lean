/- module.good, module.fitFunc, module.fits. -/
import Derived.Test.YtgcokdcdpdndjaaDoorPuts
namespace Go.Proofs.YtgcokdcdpdndjaaDoor
open Go.RowKit Go.Proofs.YtgcokdcdpdndjaaDoorW.PrintWords
set_option linter.unusedVariables false
set_option linter.unusedSimpArgs false

theorem moduleGood1 (k n r : Int) (a : Addr) (w : World) (hr : w.cell? a = some (.int .i64 r)) :
    Calls Tryd.prog 114 #[.agg #[.int .i64 k, .int .i64 n], .pointer (some a)] w fun e w' => e = .returned (.bool (!goodTy ⟨k, n⟩ r)) ∧ Below w.heap.size w w' := by
  have hr' : ∀ o, (w.alloc o).cell? a = some (.int .i64 r) := fun o => pw_cell_below (bAl w o) hr
  go_enter Tryd.func114, Tryd.ntmps114
  go_wp2_with fail
  refine (kindGood _ _ _ _).mono ?_
  rintro e W ⟨rfl, hb⟩
  go_wp2
  go_ret
  exact ⟨rfl, blt (bAl _ _) hb⟩

def goodL (l : List Ty) (r most : Int) : Bool := decide ((l.length : Int) ≤ most) && !(l.any fun t => !goodTy t r)

theorem moduleGood (A : Option Addr) (c : Nat) (l : List Ty) (r most : Int) (w : World) (hl : kTy.C w A l.length l) :
    Calls Tryd.prog 97 #[.slice A l.length c, .int .i64 r, .int .i64 most] w fun e w' => e = .returned (.bool (goodL l r most)) ∧ Below w.heap.size w w' := by
  have HL := Lib.hid hl
  have hm := C_len hl
  clear hl
  go_enter Tryd.func97, Tryd.ntmps97
  by_cases h : (l.length : Int) ≤ most
  · go_wp2_with fail
    refine (ContainsFuncTy A c l 114 _ (fun t => !goodTy t r) _ (Kd.C_below HL.out (bAl _ _)) Tryd.call114 ?hp).mono ?_
    case hp =>
      intro x hx W hb
      exact moduleGood1 _ _ _ _ _ (pw_cell_below hb (World.cell?_alloc_at _ _ _ _ rfl))
    rintro e W ⟨rfl, hb⟩
    go_wp2
    go_ret
    exact ⟨ret_bool (by simp [goodL, h]), blt (bAl _ _) hb⟩
  · go_wp2
    go_ret
    exact ⟨ret_bool (by simp [goodL]; intro; omega), bAl _ _⟩

theorem fitFunc1 (op a b : Int) (w : World) :
    Calls Tryd.prog 116 #[.agg #[.int .i64 op, .int .i64 a, .int .i64 b]] w fun e w' => e = .returned (.bool (decide ((insPut ⟨op, a, b⟩).length = 0))) ∧ Below w.heap.size w w' := by
  go_enter Tryd.func116, Tryd.ntmps116
  go_wp2_with fail
  refine (instPut _ _ _ _).mono ?_
  rintro e W ⟨A, c, rfl, hO, hb⟩
  have HO := Lib.hid hO
  clear hO
  generalize hn : (insPut ⟨op, a, b⟩).length = n
  go_wp2
  go_ret
  exact ⟨ret_bool (by rw [Bool.eq_iff_iff]; simp [← hn]), blt (bAl _ _) hb⟩

def fitFn (f : Fn) (r : Int) : Bool :=
  goodL f.args r 4 && (goodTy f.ret r && (goodL f.locals r (8 - f.args.length) && (decide (1 ≤ f.code.length) && (decide (f.code.length ≤ 64) && !(f.code.any fun i => decide ((insPut i).length = 0))))))

set_option maxHeartbeats 3200000 in
theorem fitFunc_calls (f : Fn) (h : FnH) (r : Int) (w : World) (hf : FnAt w f h) :
    Calls Tryd.prog 100 #[f.v h, .int .i64 r] w fun e w' => e = .returned (.bool (fitFn f r)) ∧ Below w.heap.size w w' := by
  obtain ⟨args, ⟨rk, rn⟩, locals, code⟩ := f
  obtain ⟨A0, c0, A1, c1, A2, c2⟩ := h
  obtain ⟨r0, l0, r1, l1, r2, l2⟩ := hf
  simp only at r0 l0 r1 l1 r2 l2
  have m0 := C_len r0
  have m1 := C_len r1
  have m2 := C_len r2
  have R0 := Lib.hid r0
  have R1 := Lib.hid r1
  have R2 := Lib.hid r2
  clear r0 r1 r2
  unfold Fn.v
  simp only
  go_enter Tryd.func100, Tryd.ntmps100
  go_wp2_with fail
  refine (moduleGood A0 c0 args r _ _ (Kd.C_below R0.out (bAl _ _))).mono ?_
  rintro e w1 ⟨rfl, hb1⟩
  obtain ⟨hc1, hf1, _⟩ := bcell hb1
  have hz1 : w.heap.size < w1.heap.size := by have := hb1.size; simp at this; omega
  have B1 := blt (bAl _ _) hb1
  cases g1 : goodL args r 4
  · go_wp2
    go_ret
    exact ⟨ret_bool (by simp [fitFn, g1]), B1⟩
  go_wp2_with fail
  refine (kindGood rk rn r _).mono ?_
  rintro e w2 ⟨rfl, hb2⟩
  obtain ⟨hc2, hf2, _⟩ := bcell hb2
  have hz2 : w.heap.size < w2.heap.size := by have := hb2.size; omega
  have B2 := blt B1 hb2
  cases g2 : goodTy ⟨rk, rn⟩ r
  · go_wp2
    go_ret
    exact ⟨ret_bool (by simp [fitFn, g1, g2]), B2⟩
  go_wp2_with fail
  refine (moduleGood A1 c1 locals r _ _ (Kd.C_below R1.out B2)).mono ?_
  rintro e w3 ⟨rfl, hb3⟩
  obtain ⟨hc3, hf3, _⟩ := bcell hb3
  have hz3 : w.heap.size < w3.heap.size := by have := hb3.size; omega
  have B3 := blt B2 hb3
  cases g3 : goodL locals r (8 - args.length)
  · go_wp2
    go_ret
    exact ⟨ret_bool (by simp [fitFn, g1, g2, g3]), B3⟩
  by_cases g4 : 1 ≤ code.length
  rotate_left
  · go_wp2
    go_ret
    exact ⟨ret_bool (by simp [fitFn, g1, g2, g3]; omega), B3⟩
  by_cases g5 : code.length ≤ 64
  rotate_left
  · go_wp2
    go_ret
    exact ⟨ret_bool (by simp [fitFn, g1, g2, g3]; omega), B3⟩
  go_wp2_with fail
  refine (ContainsFuncIns A2 c2 code 116 #[] (fun i => decide ((insPut i).length = 0)) _ (Kd.C_below R2.out B3) Tryd.call116 ?hp).mono ?_
  case hp =>
    intro x hx W hb
    exact fitFunc1 _ _ _ _
  rintro e w4 ⟨rfl, hb4⟩
  go_wp2
  go_ret
  exact ⟨ret_bool (by simp [fitFn, g1, g2, g3, g4, g5]), blt B3 hb4⟩

theorem fits1 (A : Option Addr) (c : Nat) (l : List Ty) (r : Int) (a : Addr) (w : World) (hr : w.cell? a = some (.int .i64 r)) (hl : kTy.C w A l.length l) :
    Calls Tryd.prog 96 #[.slice A l.length c, .pointer (some a)] w fun e w' => e = .returned (.bool (!goodL l r 6)) ∧ Below w.heap.size w w' := by
  have HL := Lib.hid hl
  clear hl
  go_enter Tryd.func96, Tryd.ntmps96
  go_wp2_with fail
  refine (moduleGood A c l r _ _ HL.out).mono ?_
  rintro e W ⟨rfl, hb⟩
  go_wp2
  go_ret
  exact ⟨rfl, hb⟩
theorem fits2 (f : Fn) (h : FnH) (r : Int) (a : Addr) (w : World) (hr : w.cell? a = some (.int .i64 r)) (hf : FnAt w f h) :
    Calls Tryd.prog 99 #[f.v h, .pointer (some a)] w fun e w' => e = .returned (.bool (!fitFn f r)) ∧ Below w.heap.size w w' := by
  have HL := Lib.hid hf
  clear hf
  have hr' : ∀ o, (w.alloc o).cell? a = some (.int .i64 r) := fun o => pw_cell_below (bAl w o) hr
  unfold Fn.v
  go_enter Tryd.func99, Tryd.ntmps99
  go_wp2_with fail
  refine (fitFunc_calls f h r _ (HL.out.below (bAl _ _))).mono ?_
  rintro e W ⟨rfl, hb⟩
  go_wp2
  go_ret
  exact ⟨rfl, blt (bAl _ _) hb⟩
def badImp (i : Imp) (r : Int) : Bool := !goodL i.args r 4 || !goodTy i.ret r
theorem fits3 (i : Imp) (h : ImpH) (r : Int) (a : Addr) (w : World) (hr : w.cell? a = some (.int .i64 r)) (hf : ImpAt w i h) :
    Calls Tryd.prog 101 #[i.v h, .pointer (some a)] w fun e w' => e = .returned (.bool (badImp i r)) ∧ Below w.heap.size w w' := by
  obtain ⟨args, ⟨rk, rn⟩⟩ := i
  obtain ⟨A0, c0⟩ := h
  obtain ⟨r0, l0⟩ := hf
  simp only at r0 l0
  have R0 := Lib.hid r0
  clear r0
  have hr' : ∀ o, (w.alloc o).cell? a = some (.int .i64 r) := fun o => pw_cell_below (bAl w o) hr
  unfold Imp.v
  simp only
  go_enter Tryd.func101, Tryd.ntmps101
  go_wp2_with fail
  refine (moduleGood A0 c0 args r _ _ (Kd.C_below R0.out (bAl _ _))).mono ?_
  rintro e w1 ⟨rfl, hb1⟩
  have hr1 := pw_cell_below hb1 (hr' _)
  obtain ⟨hc1, hf1, _⟩ := bcell hb1
  cases g1 : goodL args r 4
  · go_wp2
    go_ret
    exact ⟨ret_bool (by simp [badImp, g1]), blt (bAl _ _) hb1⟩
  go_wp2_with fail
  refine (kindGood rk rn r _).mono ?_
  rintro e w2 ⟨rfl, hb2⟩
  go_wp2
  go_ret
  exact ⟨ret_bool (by simp [badImp, g1]), blt (blt (bAl _ _) hb1) hb2⟩
theorem fits4 (s : ByteArray) (w : World) :
    Calls Tryd.prog 104 #[.string s] w fun e w' => e = .returned (.bool (decide (32 < s.size))) ∧ Below w.heap.size w w' := by
  go_enter Tryd.func104, Tryd.ntmps104
  go_wp2
  go_ret
  exact ⟨ret_bool (by simp; omega), Below.refl _ _⟩

def fitMod (m : Mod) : Bool :=
  decide (m.recs.length ≤ 8) && (!(m.recs.any fun l => !goodL l m.recs.length 6) && (decide (1 ≤ m.funcs.length) && (decide (m.funcs.length ≤ 8) &&
  (!(m.funcs.any fun f => !fitFn f m.recs.length) && (decide (m.imports.length ≤ 8) && (!(m.imports.any fun i => badImp i m.recs.length) && (decide (m.ints.length ≤ 16) &&
  (decide (m.texts.length ≤ 16) && !(m.texts.any fun s => decide (32 < s.size))))))))))

set_option maxHeartbeats 6400000 in
theorem moduleFits (m : Mod) (h : ModH) (w : World) (hm : ModAt w m h) :
    Calls Tryd.prog 74 #[m.v h] w fun e w' => e = .returned (.bool (fitMod m)) ∧ Below w.heap.size w w' := by
  obtain ⟨recs, funcs, imports, ints, texts⟩ := m
  obtain ⟨A0, c0, A1, c1, A2, c2, A3, c3, A4, c4⟩ := h
  obtain ⟨r0, l0, r1, l1, r2, l2, r3, l3, r4, l4⟩ := hm
  simp only at r0 l0 r1 l1 r2 l2 r3 l3 r4 l4
  have m0 := C_len r0
  have m1 := C_len r1
  have m2 := C_len r2
  have m3 := C_len r3
  have m4 := C_len r4
  have R0 := Lib.hid r0
  have R1 := Lib.hid r1
  have R2 := Lib.hid r2
  have R4 := Lib.hid r4
  clear r0 r1 r2 r3 r4
  unfold Mod.v
  simp only
  have HF : fitMod ⟨recs, funcs, imports, ints, texts⟩ = fitMod ⟨recs, funcs, imports, ints, texts⟩ := rfl
  go_enter Tryd.func74, Tryd.ntmps74
  by_cases g1 : recs.length ≤ 8
  rotate_left
  · go_wp2
    go_ret
    exact ⟨ret_bool (by simp [fitMod]; omega), bAl2 _ _ _⟩
  go_wp2_with fail
  refine (ContainsFuncTys A0 c0 recs 96 #[.pointer (some ⟨w.heap.size + 1, 0, none⟩)] (fun l => !goodL l recs.length 6) _ (Kd.C_below R0.out (bAl2 _ _ _)) Tryd.call96 ?hp).mono ?_
  case hp =>
    intro x A c hx W hb hC hl
    exact fits1 A c x recs.length _ W (pw_cell_below hb (World.cell?_alloc_at _ _ _ _ (by simp))) hC
  rintro e w1 ⟨rfl, hb1⟩
  obtain ⟨hc1, hf1, _⟩ := bcell hb1
  have hz1 : w.heap.size + 1 < w1.heap.size := by have := hb1.size; simp at this; omega
  have hy1 : w.heap.size < w1.heap.size := by omega
  have B1 := blt (bAl2 _ _ _) hb1
  cases g2 : recs.any fun l => !goodL l recs.length 6
  rotate_left
  · go_wp2
    go_ret
    exact ⟨ret_bool (by simp only [fitMod, g2]; simp), B1⟩
  by_cases g3 : 1 ≤ funcs.length
  rotate_left
  · go_wp2
    go_ret
    exact ⟨ret_bool (by simp [fitMod, g3]), B1⟩
  by_cases g4 : funcs.length ≤ 8
  rotate_left
  · go_wp2
    go_ret
    exact ⟨ret_bool (by simp [fitMod, g4]), B1⟩
  go_wp2_with fail
  refine (ContainsFuncFn A1 c1 funcs 99 #[.pointer (some ⟨w.heap.size + 1, 0, none⟩)] (fun f => !fitFn f recs.length) _ (Kd.C_below R1.out B1) Tryd.call99 ?hp).mono ?_
  case hp =>
    intro x h hx W hb hC
    exact fits2 x h recs.length _ W (pw_cell_below hb ((hc1 _ _ (by simp)).trans (World.cell?_alloc_at _ _ _ _ (by simp)))) hC
  rintro e w2 ⟨rfl, hb2⟩
  obtain ⟨hc2, hf2, _⟩ := bcell hb2
  have hz2 : w.heap.size + 1 < w2.heap.size := by have := hb2.size; omega
  have hy2 : w.heap.size < w2.heap.size := by omega
  have B2 := blt B1 hb2
  have F2 : w2.cell? ⟨w.heap.size + 1, 0, none⟩ = some (.int .i64 recs.length) := (hc2 _ _ (by omega)).trans ((hc1 _ _ (by simp)).trans (World.cell?_alloc_at _ _ _ _ (by simp)))
  cases g5 : funcs.any fun f => !fitFn f recs.length
  rotate_left
  · go_wp2
    go_ret
    exact ⟨ret_bool (by simp only [fitMod, g5]; simp), B2⟩
  by_cases g6 : imports.length ≤ 8
  rotate_left
  · go_wp2
    go_ret
    exact ⟨ret_bool (by simp [fitMod, g6]), B2⟩
  go_wp2_with fail
  refine (ContainsFuncImp A2 c2 imports 101 #[.pointer (some ⟨w.heap.size + 1, 0, none⟩)] (fun i => badImp i recs.length) _ (Kd.C_below R2.out B2) Tryd.call101 ?hp).mono ?_
  case hp =>
    intro x h hx W hb hC
    exact fits3 x h recs.length _ W (pw_cell_below hb F2) hC
  rintro e w3 ⟨rfl, hb3⟩
  obtain ⟨hc3, hf3, _⟩ := bcell hb3
  have hz3 : w.heap.size + 1 < w3.heap.size := by have := hb3.size; omega
  have hy3 : w.heap.size < w3.heap.size := by omega
  have B3 := blt B2 hb3
  cases g7 : imports.any fun i => badImp i recs.length
  rotate_left
  · go_wp2
    go_ret
    exact ⟨ret_bool (by simp only [fitMod, g7]; simp), B3⟩
  by_cases g8 : ints.length ≤ 16
  rotate_left
  · go_wp2
    go_ret
    exact ⟨ret_bool (by simp [fitMod, g8]), B3⟩
  by_cases g9 : texts.length ≤ 16
  rotate_left
  · go_wp2
    go_ret
    exact ⟨ret_bool (by simp [fitMod, g9]), B3⟩
  go_wp2_with fail
  refine (ContainsFuncStr A4 c4 texts 104 #[] (fun s => decide (32 < s.size)) _ (Kd.C_below R4.out B3) Tryd.call104 ?hp).mono ?_
  case hp =>
    intro x hx W hb
    exact fits4 x W
  rintro e w4 ⟨rfl, hb4⟩
  go_wp2
  go_ret
  exact ⟨ret_bool (by simp only [fitMod, g2, g5, g7, g1, g3, g4, g6, g8, g9]; simp), blt B3 hb4⟩
end Go.Proofs.YtgcokdcdpdndjaaDoor
