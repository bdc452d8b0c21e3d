/- flow.named. -/
import Derived.Test.YtgcokdcdpdndjaaDoorPlain
namespace Go.Proofs.YtgcokdcdpdndjaaDoor
open Go.RowKit Go.Proofs.YtgcokdcdpdndjaaDoorW.PrintWords
set_option linter.unusedVariables false
set_option linter.unusedSimpArgs false

/-- a rule that is handed back -/
def RulRet (w : World) (r : Rul) (e : Ending) (w' : World) : Prop :=
  ∃ h : RulH, e = .returned (.agg #[.slice h.A0 r.inn.length h.c0, .slice h.A1 r.out.length h.c1]) ∧ Hid (RulAt w' r h) ∧ Below w.heap.size w w'
theorem set2 {w1 : World} {r : Nat} {p q : Value} {T : TypeId} {fr : Nat × Nat} (h : w1.heap[r]? = some (.cells #[p, q] T fr)) (x y : Value) (o : Obj) :
    (((w1.setCell ⟨r, 0, none⟩ x).setCell ⟨r, 1, none⟩ y).alloc o).cell? ⟨r, 0, none⟩ = some x ∧ (((w1.setCell ⟨r, 0, none⟩ x).setCell ⟨r, 1, none⟩ y).alloc o).cell? ⟨r, 1, none⟩ = some y := by
  obtain ⟨hlt, he⟩ := Array.getElem?_eq_some_iff.1 h
  have e : ((w1.setCell ⟨r, 0, none⟩ x).setCell ⟨r, 1, none⟩ y).heap[r]? = some (.cells #[x, y] T fr) := by
    simp [World.setCell, Array.getElem?_modify, h]
  exact ⟨pw_cell_below (bAl _ o) (by simp [World.cell?, e]), pw_cell_below (bAl _ o) (by simp [World.cell?, e])⟩
theorem set2n (w1 : World) (r : Nat) (x y : Value) (o : Obj) : (((w1.setCell ⟨r, 0, none⟩ x).setCell ⟨r, 1, none⟩ y).alloc o).heap[w1.heap.size]? = some o := by
  have e : ((w1.setCell ⟨r, 0, none⟩ x).setCell ⟨r, 1, none⟩ y).heap.size = w1.heap.size := by simp [World.setCell]
  rw [← e]; exact heap_alloc_new _ _

set_option maxHeartbeats 3200000 in
theorem named0 (m : Mod) (h : ModH) (f : Fn) (hf : FnH) (a b : Int) (w : World) (hm : ModAt w m h) (hF : FnAt w f hf) (hgl : Gl w) :
    Calls Tryd.prog 87 #[m.v h, f.v hf, .agg #[.int .i64 0, .int .i64 a, .int .i64 b]] w (RulRet w ⟨[], [⟨1, 0⟩]⟩) := by
  obtain ⟨s0, s1, s2, s3, s4⟩ := hgl.size
  obtain ⟨g0, g1, g2, g3, g4, g5, g6, g7, g8, g9⟩ := hgl
  clear hm hF
  obtain ⟨q0, cc0, q1, cc1, q2, cc2, q3, cc3, q4, cc4⟩ := h
  have z0 := fun o0 o1 o2 o3 => pw_cell_below (bA4 w o0 o1 o2 o3) g2
  have z1 := fun o0 o1 o2 o3 => pw_cell_below (bA4 w o0 o1 o2 o3) g3
  clear g0 g1 g2 g3 g4 g5 g6 g7 g8 g9 s0 s1 s2 s3 s4
  unfold Mod.v Fn.v
  simp only
  go_enter Tryd.func87, Tryd.ntmps87
  go_wp2_with (go_at_call 111; refine (flowTypes _ _ _ _).mono ?_; rintro e w' ⟨rfl, rfl⟩)
  refine bodyPost_ret (by simp [results, Tryd.results87, go_sem]; rfl) rfl ?_
  refine ⟨⟨_, _, _, _⟩, rfl, Lib.hid ⟨?a0, ?l0, ?a1, ?l1⟩, by repeat (first | exact Below.refl _ _ | apply below_alloc | apply below_drew)⟩
  case a0 => exact C_nil _ _
  case l0 => exact Nat.le_refl _
  case a1 => exact C_one kTy _ _ _ _ _ _ (at5_4 _ _ _ _ _ _) kTy_mk
  case l1 => exact Nat.le_refl _

set_option maxHeartbeats 3200000 in
theorem named1 (m : Mod) (h : ModH) (f : Fn) (hf : FnH) (a b : Int) (w : World) (hm : ModAt w m h) (hF : FnAt w f hf) (hgl : Gl w) :
    Calls Tryd.prog 87 #[m.v h, f.v hf, .agg #[.int .i64 1, .int .i64 a, .int .i64 b]] w (RulRet w ⟨[], [⟨2, 0⟩]⟩) := by
  obtain ⟨s0, s1, s2, s3, s4⟩ := hgl.size
  obtain ⟨g0, g1, g2, g3, g4, g5, g6, g7, g8, g9⟩ := hgl
  clear hm hF
  obtain ⟨q0, cc0, q1, cc1, q2, cc2, q3, cc3, q4, cc4⟩ := h
  have z0 := fun o0 o1 o2 o3 => pw_cell_below (bA4 w o0 o1 o2 o3) g6
  have z1 := fun o0 o1 o2 o3 => pw_cell_below (bA4 w o0 o1 o2 o3) g7
  clear g0 g1 g2 g3 g4 g5 g6 g7 g8 g9 s0 s1 s2 s3 s4
  unfold Mod.v Fn.v
  simp only
  go_enter Tryd.func87, Tryd.ntmps87
  go_wp2_with (go_at_call 111; refine (flowTypes _ _ _ _).mono ?_; rintro e w' ⟨rfl, rfl⟩)
  refine bodyPost_ret (by simp [results, Tryd.results87, go_sem]; rfl) rfl ?_
  refine ⟨⟨_, _, _, _⟩, rfl, Lib.hid ⟨?a0, ?l0, ?a1, ?l1⟩, by repeat (first | exact Below.refl _ _ | apply below_alloc | apply below_drew)⟩
  case a0 => exact C_nil _ _
  case l0 => exact Nat.le_refl _
  case a1 => exact C_one kTy _ _ _ _ _ _ (at5_4 _ _ _ _ _ _) kTy_mk
  case l1 => exact Nat.le_refl _

set_option maxHeartbeats 3200000 in
theorem named26 (m : Mod) (h : ModH) (f : Fn) (hf : FnH) (a b : Int) (w : World) (hm : ModAt w m h) (hF : FnAt w f hf)  :
    Calls Tryd.prog 87 #[m.v h, f.v hf, .agg #[.int .i64 26, .int .i64 a, .int .i64 b]] w (RulRet w ⟨[f.ret], []⟩) := by
  clear hm hF
  obtain ⟨q0, cc0, q1, cc1, q2, cc2, q3, cc3, q4, cc4⟩ := h
  unfold Mod.v Fn.v
  simp only
  go_enter Tryd.func87, Tryd.ntmps87
  go_wp2_with (go_at_call 111; refine (flowTypes _ _ _ _).mono ?_; rintro e w' ⟨rfl, rfl⟩)
  refine bodyPost_ret (by simp [results, Tryd.results87, go_sem]; rfl) rfl ?_
  refine ⟨⟨_, _, _, _⟩, rfl, Lib.hid ⟨?a0, ?l0, ?a1, ?l1⟩, by repeat (first | exact Below.refl _ _ | apply below_alloc | apply below_drew)⟩
  case a0 => exact C_one kTy _ _ _ _ _ _ (at5_4 _ _ _ _ _ _) kTy_mk
  case l0 => exact Nat.le_refl _
  case a1 => exact C_nil _ _
  case l1 => exact Nat.le_refl _

set_option maxHeartbeats 3200000 in
theorem named3 (m : Mod) (h : ModH) (f : Fn) (hf : FnH) (a b : Int) (w : World) (hm : ModAt w m h) (hF : FnAt w f hf) (hgl : Gl w) (hal : f.args.length ≤ 100) (hll : f.locals.length ≤ 100) :
    Calls Tryd.prog 87 #[m.v h, f.v hf, .agg #[.int .i64 3, .int .i64 a, .int .i64 b]] w (RulRet w ⟨[], [localTy f a]⟩) := by
  have HF := Lib.hid hF
  have C := Lib.hid (fun (W : World) (hb : Below w.heap.size w W) => flowLocal f hf a W (hgl.below hb) (hF.below hb) hal hll)
  clear hm hF hgl
  obtain ⟨q0, cc0, q1, cc1, q2, cc2, q3, cc3, q4, cc4⟩ := h
  unfold Mod.v Fn.v
  simp only
  go_enter Tryd.func87, Tryd.ntmps87
  go_wp2_with fail
  refine (C.out _ (bA4 _ _ _ _ _)).mono ?_
  rintro e w1 ⟨rfl, hb1⟩
  obtain ⟨hc1, hf1, _⟩ := bcell hb1
  have hz1 : w.heap.size + 1 + 1 + 1 < w1.heap.size := by have := hb1.size; simp at this; omega
  have hz2 : w.heap.size + 1 + 1 < w1.heap.size := by omega
  have hz3 : w.heap.size + 1 < w1.heap.size := by omega
  have hz4 : w.heap.size < w1.heap.size := by omega
  have hr : w1.heap[w.heap.size + 1 + 1 + 1]? = some (.cells #[.slice none 0 0, .slice none 0 0] 95 (0, 0)) := (hb1.block _ (by simp)).trans (at4_3 _ _ _ _ _)
  have hs2 := fun x y o => set2 hr x y o
  go_wp2_with (go_at_call 111; refine (flowTypes _ _ _ _).mono ?_; rintro e w' ⟨rfl, rfl⟩)
  refine bodyPost_ret (by simp [results, Tryd.results87, go_sem, fun x y o => (hs2 x y o).1, fun x y o => (hs2 x y o).2]; rfl) rfl ?_
  refine ⟨⟨_, _, _, _⟩, rfl, Lib.hid ⟨?a0, ?l0, ?a1, ?l1⟩, ?b⟩
  case b => exact (((blt (bA4 _ _ _ _ _) hb1).setCell (by simp; omega) _).setCell (by simp; omega) _).alloc (by simp [World.setCell]; omega) _
  case a0 => exact C_nil _ _
  case l0 => exact Nat.le_refl _
  case a1 => exact C_one kTy _ _ _ _ _ _ (set2n _ _ _ _ _) kTy_mk
  case l1 => exact Nat.le_refl _

set_option maxHeartbeats 3200000 in
theorem named4 (m : Mod) (h : ModH) (f : Fn) (hf : FnH) (a b : Int) (w : World) (hm : ModAt w m h) (hF : FnAt w f hf) (hgl : Gl w) (hal : f.args.length ≤ 100) (hll : f.locals.length ≤ 100) :
    Calls Tryd.prog 87 #[m.v h, f.v hf, .agg #[.int .i64 4, .int .i64 a, .int .i64 b]] w (RulRet w ⟨[localTy f a], []⟩) := by
  have HF := Lib.hid hF
  have C := Lib.hid (fun (W : World) (hb : Below w.heap.size w W) => flowLocal f hf a W (hgl.below hb) (hF.below hb) hal hll)
  clear hm hF hgl
  obtain ⟨q0, cc0, q1, cc1, q2, cc2, q3, cc3, q4, cc4⟩ := h
  unfold Mod.v Fn.v
  simp only
  go_enter Tryd.func87, Tryd.ntmps87
  go_wp2_with fail
  refine (C.out _ (bA4 _ _ _ _ _)).mono ?_
  rintro e w1 ⟨rfl, hb1⟩
  obtain ⟨hc1, hf1, _⟩ := bcell hb1
  have hz1 : w.heap.size + 1 + 1 + 1 < w1.heap.size := by have := hb1.size; simp at this; omega
  have hz2 : w.heap.size + 1 + 1 < w1.heap.size := by omega
  have hz3 : w.heap.size + 1 < w1.heap.size := by omega
  have hz4 : w.heap.size < w1.heap.size := by omega
  have hr : w1.heap[w.heap.size + 1 + 1 + 1]? = some (.cells #[.slice none 0 0, .slice none 0 0] 95 (0, 0)) := (hb1.block _ (by simp)).trans (at4_3 _ _ _ _ _)
  have hs2 := fun x y o => set2 hr x y o
  go_wp2_with (go_at_call 111; refine (flowTypes _ _ _ _).mono ?_; rintro e w' ⟨rfl, rfl⟩)
  refine bodyPost_ret (by simp [results, Tryd.results87, go_sem, fun x y o => (hs2 x y o).1, fun x y o => (hs2 x y o).2]; rfl) rfl ?_
  refine ⟨⟨_, _, _, _⟩, rfl, Lib.hid ⟨?a0, ?l0, ?a1, ?l1⟩, ?b⟩
  case b => exact (((blt (bA4 _ _ _ _ _) hb1).setCell (by simp; omega) _).setCell (by simp; omega) _).alloc (by simp [World.setCell]; omega) _
  case a0 => exact C_one kTy _ _ _ _ _ _ (set2n _ _ _ _ _) kTy_mk
  case l0 => exact Nat.le_refl _
  case a1 => exact C_nil _ _
  case l1 => exact Nat.le_refl _

set_option maxHeartbeats 3200000 in
theorem named25 (m : Mod) (h : ModH) (f : Fn) (hf : FnH) (k : Nat) (b : Int) (g : Fn) (w : World) (hm : ModAt w m h) (hF : FnAt w f hf) (hx : m.funcs[k]? = some g) :
    Calls Tryd.prog 87 #[m.v h, f.v hf, .agg #[.int .i64 25, .int .i64 k, .int .i64 b]] w (RulRet w ⟨g.args, [g.ret]⟩) := by
  have hlt : k < m.funcs.length := (List.getElem?_eq_some_iff.1 hx).1
  obtain ⟨ad, x, hg, hA1, hx', hG, hy0, hy1, hy2, -, -⟩ := at_Fn hm.r1 k hlt
  obtain rfl : g = x := by rw [hx] at hx'; injection hx'
  have m1 := C_len hm.r1
  have HG := Lib.hid hG
  clear hm hF hx hx' hG
  obtain ⟨q0, cc0, q1, cc1, q2, cc2, q3, cc3, q4, cc4⟩ := h
  simp only at hA1
  subst hA1
  have hlt' : (k : Int) < m.funcs.length := by omega
  unfold Mod.v Fn.v
  simp only
  go_enter Tryd.func87, Tryd.ntmps87
  go_wp2_with fail
  go_region_held3 (fun w' => w'.cell? ⟨w.heap.size, 1, none⟩ = some (.slice (some ad) m.funcs.length cc1) ∧ w'.cell? ⟨w.heap.size + 1 + 1, 1, none⟩ = some (.int .i64 k) ∧ w'.cell? (ad.add (k * 5)) = some (.slice hg.A0 g.args.length hg.c0) ∧ w'.cell? ⟨(ad.add (k * 5)).block, (ad.add (k * 5)).off + 1, none⟩ = some (.int .i64 g.ret.kind) ∧ w'.cell? ⟨(ad.add (k * 5)).block, (ad.add (k * 5)).off + 2, none⟩ = some (.int .i64 g.ret.n))
    ((refine ⟨?_, ?_, ?_, ?_, ?_⟩ <;> (first | (refine pw_cell_below (w := w) ?_ (by assumption); repeat (first | exact Below.refl _ _ | apply below_alloc | apply below_drew)) | go_simp)))
    ((first | (go_at_call 111; with_reducible refine (flowTypes _ _ _ _).mono ?_; intro e w1 hr; obtain ⟨rfl, rfl⟩ := hr)))
  all_goals
    go_wp2
    refine bodyPost_ret (by simp [results, Tryd.results87, go_sem]; rfl) rfl ?_
    refine ⟨⟨_, _, _, _⟩, rfl, Lib.hid ⟨?a0, ?l0, ?a1, ?l1⟩, by repeat (first | exact Below.refl _ _ | apply below_alloc | apply below_drew)⟩
    case a0 => exact Kd.C_below HG.out.r0 (by repeat (first | exact Below.refl _ _ | apply below_alloc | apply below_drew))
    case l0 => exact HG.out.l0
    case a1 => exact C_one kTy _ _ _ _ _ _ (at5_4 _ _ _ _ _ _) kTy_mk
    case l1 => exact Nat.le_refl _

set_option maxHeartbeats 3200000 in
theorem named27 (m : Mod) (h : ModH) (f : Fn) (hf : FnH) (k : Nat) (b : Int) (g : Imp) (w : World) (hm : ModAt w m h) (hF : FnAt w f hf) (hx : m.imports[k]? = some g) :
    Calls Tryd.prog 87 #[m.v h, f.v hf, .agg #[.int .i64 27, .int .i64 k, .int .i64 b]] w (RulRet w ⟨g.args, [g.ret]⟩) := by
  have hlt : k < m.imports.length := (List.getElem?_eq_some_iff.1 hx).1
  obtain ⟨ad, x, hg, hA1, hx', hG, hy0, hy1, hy2⟩ := at_Imp hm.r2 k hlt
  obtain rfl : g = x := by rw [hx] at hx'; injection hx'
  have m1 := C_len hm.r2
  have HG := Lib.hid hG
  clear hm hF hx hx' hG
  obtain ⟨q0, cc0, q1, cc1, q2, cc2, q3, cc3, q4, cc4⟩ := h
  simp only at hA1
  subst hA1
  have hlt' : (k : Int) < m.imports.length := by omega
  unfold Mod.v Fn.v
  simp only
  go_enter Tryd.func87, Tryd.ntmps87
  go_wp2_with fail
  go_region_held3 (fun w' => w'.cell? ⟨w.heap.size, 2, none⟩ = some (.slice (some ad) m.imports.length cc2) ∧ w'.cell? ⟨w.heap.size + 1 + 1, 1, none⟩ = some (.int .i64 k) ∧ w'.cell? (ad.add (k * 3)) = some (.slice hg.A0 g.args.length hg.c0) ∧ w'.cell? ⟨(ad.add (k * 3)).block, (ad.add (k * 3)).off + 1, none⟩ = some (.int .i64 g.ret.kind) ∧ w'.cell? ⟨(ad.add (k * 3)).block, (ad.add (k * 3)).off + 2, none⟩ = some (.int .i64 g.ret.n))
    ((refine ⟨?_, ?_, ?_, ?_, ?_⟩ <;> (first | (refine pw_cell_below (w := w) ?_ (by assumption); repeat (first | exact Below.refl _ _ | apply below_alloc | apply below_drew)) | go_simp)))
    ((first | (go_at_call 111; with_reducible refine (flowTypes _ _ _ _).mono ?_; intro e w1 hr; obtain ⟨rfl, rfl⟩ := hr)))
  all_goals
    go_wp2
    refine bodyPost_ret (by simp [results, Tryd.results87, go_sem]; rfl) rfl ?_
    refine ⟨⟨_, _, _, _⟩, rfl, Lib.hid ⟨?a0, ?l0, ?a1, ?l1⟩, by repeat (first | exact Below.refl _ _ | apply below_alloc | apply below_drew)⟩
    case a0 => exact Kd.C_below HG.out.r0 (by repeat (first | exact Below.refl _ _ | apply below_alloc | apply below_drew))
    case l0 => exact HG.out.l0
    case a1 => exact C_one kTy _ _ _ _ _ _ (at5_4 _ _ _ _ _ _) kTy_mk
    case l1 => exact Nat.le_refl _

set_option maxHeartbeats 3200000 in
theorem named28 (m : Mod) (h : ModH) (f : Fn) (hf : FnH) (k : Nat) (b : Int) (g : List Ty) (w : World) (hm : ModAt w m h) (hF : FnAt w f hf) (hx : m.recs[k]? = some g) :
    Calls Tryd.prog 87 #[m.v h, f.v hf, .agg #[.int .i64 28, .int .i64 k, .int .i64 b]] w (RulRet w ⟨g, [⟨4, k⟩]⟩) := by
  have hlt : k < m.recs.length := (List.getElem?_eq_some_iff.1 hx).1
  obtain ⟨ad, x, Ag, cg, hA1, hx', hG, hGl, hy0⟩ := at_Tys hm.r0 k hlt
  obtain rfl : g = x := by rw [hx] at hx'; injection hx'
  have m1 := C_len hm.r0
  have HG := Lib.hid hG
  clear hm hF hx hx' hG
  obtain ⟨q0, cc0, q1, cc1, q2, cc2, q3, cc3, q4, cc4⟩ := h
  simp only at hA1
  subst hA1
  have hlt' : (k : Int) < m.recs.length := by omega
  unfold Mod.v Fn.v
  simp only
  go_enter Tryd.func87, Tryd.ntmps87
  go_wp2_with fail
  go_region_held3 (fun w' => w'.cell? ⟨w.heap.size, 0, none⟩ = some (.slice (some ad) m.recs.length cc0) ∧ w'.cell? ⟨w.heap.size + 1 + 1, 1, none⟩ = some (.int .i64 k) ∧ w'.cell? ⟨w.heap.size + 1 + 1 + 1 + 1, 0, none⟩ = some (.int .i64 4) ∧ w'.cell? ⟨w.heap.size + 1 + 1 + 1 + 1, 1, none⟩ = some (.int .i64 k) ∧ w'.cell? (ad.add k) = some (.slice Ag g.length cg))
    ((refine ⟨?_, ?_, ?_, ?_, ?_⟩ <;> (first | (refine pw_cell_below (w := w) ?_ (by assumption); repeat (first | exact Below.refl _ _ | apply below_alloc | apply below_drew)) | go_simp)))
    ((first | (go_at_call 111; with_reducible refine (flowTypes _ _ _ _).mono ?_; intro e w1 hr; obtain ⟨rfl, rfl⟩ := hr)))
  all_goals
    go_wp2
    refine bodyPost_ret (by simp [results, Tryd.results87, go_sem]; rfl) rfl ?_
    refine ⟨⟨_, _, _, _⟩, rfl, Lib.hid ⟨?a0, ?l0, ?a1, ?l1⟩, by repeat (first | exact Below.refl _ _ | apply below_alloc | apply below_drew)⟩
    case a0 => exact Kd.C_below HG.out (by repeat (first | exact Below.refl _ _ | apply below_alloc | apply below_drew))
    case l0 => exact hGl
    case a1 => exact C_one kTy _ _ _ _ _ _ (at6_5 _ _ _ _ _ _ _) kTy_mk
    case l1 => exact Nat.le_refl _

set_option maxHeartbeats 3200000 in
theorem named29 (m : Mod) (h : ModH) (f : Fn) (hf : FnH) (k j : Nat) (g : List Ty) (t : Ty) (w : World) (hm : ModAt w m h) (hF : FnAt w f hf) (hx : m.recs[k]? = some g) (hz : g[j]? = some t) :
    Calls Tryd.prog 87 #[m.v h, f.v hf, .agg #[.int .i64 29, .int .i64 k, .int .i64 j]] w (RulRet w ⟨[⟨4, k⟩], [t]⟩) := by
  have hlt : k < m.recs.length := (List.getElem?_eq_some_iff.1 hx).1
  obtain ⟨ad, x, Ag, cg, hA1, hx', hG, hGl, hy0⟩ := at_Tys hm.r0 k hlt
  obtain rfl : g = x := by rw [hx] at hx'; injection hx'
  have m1 := C_len hm.r0
  have HG := Lib.hid hG
  clear hm hF hx hx' hG
  obtain ⟨q0, cc0, q1, cc1, q2, cc2, q3, cc3, q4, cc4⟩ := h
  simp only at hA1
  subst hA1
  have hlt' : (k : Int) < m.recs.length := by omega
  obtain ⟨ae, y, rfl, hy', hz0, hz1⟩ := at_Ty HG.out j (List.getElem?_eq_some_iff.1 hz).1
  obtain rfl : t = y := by rw [hz] at hy'; injection hy'
  have hjl : j < g.length := (List.getElem?_eq_some_iff.1 hz).1
  have hjl' : (j : Int) < g.length := by omega
  have m2 := C_len HG.out
  clear hz hy' HG hGl
  unfold Mod.v Fn.v
  simp only
  go_enter Tryd.func87, Tryd.ntmps87
  go_wp2_with fail
  go_region_held3 (fun w' => w'.cell? ⟨w.heap.size, 0, none⟩ = some (.slice (some ad) m.recs.length cc0) ∧ w'.cell? ⟨w.heap.size + 1 + 1, 1, none⟩ = some (.int .i64 k) ∧ w'.cell? ⟨w.heap.size + 1 + 1 + 1 + 1, 0, none⟩ = some (.int .i64 4) ∧ w'.cell? ⟨w.heap.size + 1 + 1 + 1 + 1, 1, none⟩ = some (.int .i64 k) ∧ w'.cell? (ad.add k) = some (.slice (some ae) g.length cg) ∧ w'.cell? ⟨w.heap.size + 1 + 1, 2, none⟩ = some (.int .i64 j) ∧ w'.cell? (ae.add (j * 2)) = some (.int .i64 t.kind) ∧ w'.cell? ⟨(ae.add (j * 2)).block, (ae.add (j * 2)).off + 1, none⟩ = some (.int .i64 t.n))
    ((refine ⟨?_, ?_, ?_, ?_, ?_, ?_, ?_, ?_⟩ <;> (first | (refine pw_cell_below (w := w) ?_ (by assumption); repeat (first | exact Below.refl _ _ | apply below_alloc | apply below_drew)) | go_simp)))
    ((first | (go_at_call 111; with_reducible refine (flowTypes _ _ _ _).mono ?_; intro e w1 hr; obtain ⟨rfl, rfl⟩ := hr)))
  all_goals
    go_wp2
    refine bodyPost_ret (by simp [results, Tryd.results87, go_sem]; rfl) rfl ?_
    refine ⟨⟨_, _, _, _⟩, rfl, Lib.hid ⟨?a0, ?l0, ?a1, ?l1⟩, by repeat (first | exact Below.refl _ _ | apply below_alloc | apply below_drew)⟩
    case a0 => exact C_one kTy _ _ _ _ _ _ (by first | exact at7_5 _ _ _ _ _ _ _ _ | exact at7_6 _ _ _ _ _ _ _ _) kTy_mk
    case l0 => exact Nat.le_refl _
    case a1 => exact C_one kTy _ _ _ _ _ _ (by first | exact at7_5 _ _ _ _ _ _ _ _ | exact at7_6 _ _ _ _ _ _ _ _) kTy_mk
    case l1 => exact Nat.le_refl _

set_option maxHeartbeats 3200000 in
theorem named30 (m : Mod) (h : ModH) (f : Fn) (hf : FnH) (k j : Nat) (g : List Ty) (t : Ty) (w : World) (hm : ModAt w m h) (hF : FnAt w f hf) (hx : m.recs[k]? = some g) (hz : g[j]? = some t) :
    Calls Tryd.prog 87 #[m.v h, f.v hf, .agg #[.int .i64 30, .int .i64 k, .int .i64 j]] w (RulRet w ⟨[⟨4, k⟩, t], []⟩) := by
  have hlt : k < m.recs.length := (List.getElem?_eq_some_iff.1 hx).1
  obtain ⟨ad, x, Ag, cg, hA1, hx', hG, hGl, hy0⟩ := at_Tys hm.r0 k hlt
  obtain rfl : g = x := by rw [hx] at hx'; injection hx'
  have m1 := C_len hm.r0
  have HG := Lib.hid hG
  clear hm hF hx hx' hG
  obtain ⟨q0, cc0, q1, cc1, q2, cc2, q3, cc3, q4, cc4⟩ := h
  simp only at hA1
  subst hA1
  have hlt' : (k : Int) < m.recs.length := by omega
  obtain ⟨ae, y, rfl, hy', hz0, hz1⟩ := at_Ty HG.out j (List.getElem?_eq_some_iff.1 hz).1
  obtain rfl : t = y := by rw [hz] at hy'; injection hy'
  have hjl : j < g.length := (List.getElem?_eq_some_iff.1 hz).1
  have hjl' : (j : Int) < g.length := by omega
  have m2 := C_len HG.out
  clear hz hy' HG hGl
  unfold Mod.v Fn.v
  simp only
  go_enter Tryd.func87, Tryd.ntmps87
  go_wp2_with fail
  go_region_held3 (fun w' => w'.cell? ⟨w.heap.size, 0, none⟩ = some (.slice (some ad) m.recs.length cc0) ∧ w'.cell? ⟨w.heap.size + 1 + 1, 1, none⟩ = some (.int .i64 k) ∧ w'.cell? ⟨w.heap.size + 1 + 1 + 1 + 1, 0, none⟩ = some (.int .i64 4) ∧ w'.cell? ⟨w.heap.size + 1 + 1 + 1 + 1, 1, none⟩ = some (.int .i64 k) ∧ w'.cell? (ad.add k) = some (.slice (some ae) g.length cg) ∧ w'.cell? ⟨w.heap.size + 1 + 1, 2, none⟩ = some (.int .i64 j) ∧ w'.cell? (ae.add (j * 2)) = some (.int .i64 t.kind) ∧ w'.cell? ⟨(ae.add (j * 2)).block, (ae.add (j * 2)).off + 1, none⟩ = some (.int .i64 t.n))
    ((refine ⟨?_, ?_, ?_, ?_, ?_, ?_, ?_, ?_⟩ <;> (first | (refine pw_cell_below (w := w) ?_ (by assumption); repeat (first | exact Below.refl _ _ | apply below_alloc | apply below_drew)) | go_simp)))
    ((first | (go_at_call 111; with_reducible refine (flowTypes _ _ _ _).mono ?_; intro e w1 hr; obtain ⟨rfl, rfl⟩ := hr)))
  all_goals
    go_wp2
    refine bodyPost_ret (by simp [results, Tryd.results87, go_sem]; rfl) rfl ?_
    refine ⟨⟨_, _, _, _⟩, rfl, Lib.hid ⟨?a0, ?l0, ?a1, ?l1⟩, by repeat (first | exact Below.refl _ _ | apply below_alloc | apply below_drew)⟩
    case a0 => exact C_two _ _ ⟨4, k⟩ t _ _ (at6_5 _ _ _ _ _ _ _)
    case l0 => exact Nat.le_refl _
    case a1 => exact C_nil _ _
    case l1 => exact Nat.le_refl _
end Go.Proofs.YtgcokdcdpdndjaaDoor
