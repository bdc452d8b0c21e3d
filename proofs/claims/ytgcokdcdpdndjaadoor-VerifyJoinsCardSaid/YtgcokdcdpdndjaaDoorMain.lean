/- sane.Main. -/
import Derived.Test.YtgcokdcdpdndjaaDoorFunc
namespace Go.Proofs.YtgcokdcdpdndjaaDoor
open Go.RowKit Go.Proofs.YtgcokdcdpdndjaaDoorW.PrintWords
set_option linter.unusedVariables false
set_option linter.unusedSimpArgs false

/-- can it begin? -/
def mainB (m : Mod) : Bool := match m.funcs with | [] => false | fn :: _ => decide (sane m = 0) && (decide (fn.args.length = 0) && decide (fn.ret.kind = 1))
theorem sane_some {m : Mod} (hs : sane m = 0) : ∃ fn l, m.funcs = fn :: l := by
  have h := (sane_fit hs).1
  cases hf : m.funcs with
  | nil =>
    unfold fitMod at h
    rw [hf] at h
    simp at h
  | cons fn l => exact ⟨fn, l, rfl⟩
set_option maxRecDepth 100000 in
set_option maxHeartbeats 3200000 in
theorem saneMain (m : Mod) (h : ModH) (w : World) (hm : ModAt w m h) (hok : ModOk m) (hs : sane m = 0) :
    Calls Tryd.prog 35 #[m.v h] w fun e w' => e = .returned (.bool (mainB m)) ∧ Below w.heap.size w w' := by
  obtain ⟨fn, l, hfl⟩ := sane_some hs
  have hlt : 0 < m.funcs.length := by rw [hfl]; simp
  obtain ⟨ad, x, hg, hA1, hx', hG, hy0, hy1, hy2, hy3, hy4⟩ := at_Fn hm.r1 0 hlt
  obtain rfl : fn = x := by rw [hfl] at hx'; simpa using hx'
  have hmn : mainB m = (decide (fn.args.length = 0) && decide (fn.ret.kind = 1)) := by simp [mainB, hfl, hs]
  rw [hmn]
  have S := Lib.hid (saneCheck m h (w.alloc (.cells #[.slice h.A0 m.recs.length h.c0, .slice h.A1 m.funcs.length h.c1, .slice h.A2 m.imports.length h.c2, .slice h.A3 m.ints.length h.c3, .slice h.A4 m.texts.length h.c4] 28)) (hm.below (bAl w _)) hok)
  rw [hs] at S
  have y0 := fun o => pw_cell_below (bAl w o) hy0
  have y1 := fun o => pw_cell_below (bAl w o) hy1
  clear hy2 hy3 hy4 hG hx' hm hs hmn hfl
  obtain ⟨a0, cc0, a1, cc1, a2, cc2, a3, cc3, a4, cc4⟩ := h
  simp only at hA1
  subst hA1
  unfold Mod.v at *
  simp only at *
  simp only [Nat.zero_mul] at y0 y1
  go_enter Tryd.func35, Tryd.ntmps35
  go_wp2_with fail
  refine S.out.mono ?_
  rintro e w1 ⟨rfl, hb1⟩
  obtain ⟨hc1, hf1, _⟩ := bcell hb1
  have hz1 : w.heap.size < w1.heap.size := by have := hb1.size; simp at this; omega
  have z0 := pw_cell_below hb1 (y0 _)
  have z1 := pw_cell_below hb1 (y1 _)
  have B1 := Lib.hid (blt (bAl _ _) hb1)
  clear hb1 y0 y1
  have hz0 : ad.add 0 = ad := by simp [Addr.add]; try (rcases ad with ⟨b, o, _ | s⟩ <;> simp)
  rw [hz0] at z0 z1
  clear hz0
  have hp : (0 : Int) < m.funcs.length := by omega
  by_cases ha : fn.args.length = 0
  · rw [ha] at z0
    by_cases hr : fn.ret.kind = 1
    · rw [hr] at z1
      go_wp2_with fail
      go_ret
      exact ⟨ret_bool (by simp [ha, hr]), B1.out⟩
    · go_wp2_with fail
      go_ret
      exact ⟨ret_bool (by simp [hr]), B1.out⟩
  · have ha' : (fn.args.length : Int) ≠ 0 := by omega
    go_wp2_with fail
    go_ret
    exact ⟨ret_bool (by simp [ha]), B1.out⟩
end Go.Proofs.YtgcokdcdpdndjaaDoor
