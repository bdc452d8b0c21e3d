/- sane.names, sane.Check. -/
import Derived.Test.YtgcokdcdpdndjaaDoorEncode
namespace Go.Proofs.YtgcokdcdpdndjaaDoor
open Go.RowKit Go.Proofs.YtgcokdcdpdndjaaDoorW.PrintWords
set_option linter.unusedVariables false
set_option linter.unusedSimpArgs false

theorem saneBelowQ (a b : Int) (w : World) :
    Calls Tryd.prog 81 #[.int .i64 a, .int .i64 b] w fun e w' => e = .returned (.bool (decide (a < b))) ∧ w' = w := by
  go_enter Tryd.func81, Tryd.ntmps81
  go_wp2
  go_ret
  exact ⟨rfl, rfl⟩
theorem saneBelowF (a b : Int) (h : ¬ a < b) (w : World) :
    Calls Tryd.prog 81 #[.int .i64 a, .int .i64 b] w fun e w' => e = .returned (.bool false) ∧ w' = w := by
  have := saneBelowQ a b w
  rwa [decide_eq_false h] at this
def namesOk (m : Mod) (f : Fn) (i : Ins) : Bool :=
  if i.op = 0 then decide (i.a < m.ints.length)
  else if i.op = 1 then decide (i.a < m.texts.length)
  else if i.op = 3 ∨ i.op = 4 then decide (i.a < f.args.length + f.locals.length)
  else if i.op = 23 ∨ i.op = 24 then decide (i.a < f.code.length)
  else if i.op = 25 then decide (i.a < m.funcs.length)
  else if i.op = 27 then decide (i.a < m.imports.length)
  else if i.op = 28 then decide (i.a < m.recs.length)
  else if i.op = 29 ∨ i.op = 30 then decide (i.a < m.recs.length) && decide (i.b < ((m.recs[i.a.toNat]?).getD []).length)
  else true
theorem bAl3 (w : World) (o o' o'' : Obj) : Below w.heap.size w (((w.alloc o).alloc o').alloc o'') := (bAl2 w o o').alloc (by simp; omega) o''

set_option maxHeartbeats 3200000 in
theorem saneNames (m : Mod) (h : ModH) (f : Fn) (hf : FnH) (op a b : Int) (w : World) (hm : ModAt w m h) (hF : FnAt w f hf) (ha : 0 ≤ a) (hfl : f.args.length ≤ 100) (hfl2 : f.locals.length ≤ 100) :
    Calls Tryd.prog 48 #[m.v h, f.v hf, .agg #[.int .i64 op, .int .i64 a, .int .i64 b]] w fun e w' => e = .returned (.bool (namesOk m f ⟨op, a, b⟩)) ∧ Below w.heap.size w w' := by
  have HM := Lib.hid hm
  have m1 := C_len hm.r0
  clear hm hF
  unfold Mod.v Fn.v
  by_cases h2 : op = 29 ∨ op = 30
  · obtain ⟨k, rfl⟩ := Int.eq_ofNat_of_zero_le ha
    by_cases hlt : k < m.recs.length
    · obtain ⟨ad, x, Ax, cx, hA0, hx, -, -, hy⟩ := at_Tys HM.out.r0 k hlt
      have HX := Lib.hid hx
      have hb1 := fun o => pw_cell_below (bAl w o) hy
      have hb2 := fun o o' => pw_cell_below (bAl2 w o o') hy
      have hb3 := fun o o' o'' => pw_cell_below (bAl3 w o o' o'') hy
      clear hx hy
      obtain ⟨q0, cc0, q1, cc1, q2, cc2, q3, cc3, q4, cc4⟩ := h
      simp only at hA0 ⊢
      subst hA0
      have hlt' : (k : Int) < m.recs.length := by omega
      have hfin : namesOk m f ⟨op, k, b⟩ = decide (b < x.length) := by
        obtain ⟨hk, rfl⟩ := List.getElem?_eq_some_iff.1 HX.out
        rcases h2 with rfl | rfl <;> simp [namesOk, hlt]
      rw [hfin]
      clear hfin HM
      rcases h2 with rfl | rfl
      all_goals
        go_enter Tryd.func48, Tryd.ntmps48
        go_wp2_with fail
        go_quiet ((go_at_call 81; exact Calls.quiet_of_same (saneBelowQ _ _ _)))
        go_wp2
        go_ret
        exact ⟨rfl, pw_below_drewN (bAl3 _ _ _ _) _⟩
    · have hd : ¬ (k : Int) < m.recs.length := by omega
      have hfin : namesOk m f ⟨op, k, b⟩ = false := by
        rcases h2 with rfl | rfl <;> simp [namesOk, hlt]
      rw [hfin]
      clear hfin HM
      rcases h2 with rfl | rfl
      all_goals
        go_enter Tryd.func48, Tryd.ntmps48
        go_wp2_with fail
        go_quiet ((go_at_call 81; exact Calls.quiet_of_same (saneBelowF _ _ (by omega) _)))
        go_wp2
        go_ret
        exact ⟨rfl, pw_below_drewN (bAl3 _ _ _ _) _⟩
  · have h29 : ¬ op = 29 := fun e => h2 (.inl e)
    have h30 : ¬ op = 30 := fun e => h2 (.inr e)
    clear h2
    go_enter Tryd.func48, Tryd.ntmps48
    go_wp2_with (go_at_call 81; refine (saneBelowQ _ _ _).mono ?_; rintro e w' ⟨rfl, rfl⟩)
    all_goals
      go_ret
      refine ⟨ret_bool ?_, bAl3 _ _ _ _⟩
      go_light
      simp_all [namesOk]

theorem saneCheck1 (m : Mod) (h : ModH) (f : Fn) (hf : FnH) (op a b : Int) (g1 g2 : Nat) (w : World) (hm : ModAt w m h) (hF : FnAt w f hf) (ha : 0 ≤ a) (hfl : f.args.length ≤ 100) (hfl2 : f.locals.length ≤ 100)
    (hg1 : ∃ q, w.heap[g1]? = some (.cells #[.slice h.A0 m.recs.length h.c0, .slice h.A1 m.funcs.length h.c1, .slice h.A2 m.imports.length h.c2, .slice h.A3 m.ints.length h.c3, .slice h.A4 m.texts.length h.c4] q (0, 0)))
    (hg2 : ∃ q, w.heap[g2]? = some (.cells #[.slice hf.A0 f.args.length hf.c0, .int .i64 f.ret.kind, .int .i64 f.ret.n, .slice hf.A1 f.locals.length hf.c1, .slice hf.A2 f.code.length hf.c2] q (0, 0))) :
    Calls Tryd.prog 47 #[.agg #[.int .i64 op, .int .i64 a, .int .i64 b], .pointer (some ⟨g1, 0, none⟩), .pointer (some ⟨g2, 0, none⟩)] w fun e w' => e = .returned (.bool (!namesOk m f ⟨op, a, b⟩)) ∧ Below w.heap.size w w' := by
  have HM := Lib.hid hm
  have HF := Lib.hid hF
  clear hm hF
  obtain ⟨q1, hg1⟩ := hg1
  obtain ⟨q2, hg2⟩ := hg2
  have l1 := heap_lt hg1
  have l2 := heap_lt hg2
  have a0 : ∀ o, (w.alloc o).cell? ⟨g1, 0, none⟩ = some (.slice h.A0 m.recs.length h.c0) := fun o => pw_cell_below (bAl w o) (by simp [World.cell?, hg1])
  have a1 : ∀ o, (w.alloc o).cell? ⟨g1, 1, none⟩ = some (.slice h.A1 m.funcs.length h.c1) := fun o => pw_cell_below (bAl w o) (by simp [World.cell?, hg1])
  have a2 : ∀ o, (w.alloc o).cell? ⟨g1, 2, none⟩ = some (.slice h.A2 m.imports.length h.c2) := fun o => pw_cell_below (bAl w o) (by simp [World.cell?, hg1])
  have a3 : ∀ o, (w.alloc o).cell? ⟨g1, 3, none⟩ = some (.slice h.A3 m.ints.length h.c3) := fun o => pw_cell_below (bAl w o) (by simp [World.cell?, hg1])
  have a4 : ∀ o, (w.alloc o).cell? ⟨g1, 4, none⟩ = some (.slice h.A4 m.texts.length h.c4) := fun o => pw_cell_below (bAl w o) (by simp [World.cell?, hg1])
  have b0 : ∀ o, (w.alloc o).cell? ⟨g2, 0, none⟩ = some (.slice hf.A0 f.args.length hf.c0) := fun o => pw_cell_below (bAl w o) (by simp [World.cell?, hg2])
  have b1 : ∀ o, (w.alloc o).cell? ⟨g2, 1, none⟩ = some (.int .i64 f.ret.kind) := fun o => pw_cell_below (bAl w o) (by simp [World.cell?, hg2])
  have b2 : ∀ o, (w.alloc o).cell? ⟨g2, 2, none⟩ = some (.int .i64 f.ret.n) := fun o => pw_cell_below (bAl w o) (by simp [World.cell?, hg2])
  have b3 : ∀ o, (w.alloc o).cell? ⟨g2, 3, none⟩ = some (.slice hf.A1 f.locals.length hf.c1) := fun o => pw_cell_below (bAl w o) (by simp [World.cell?, hg2])
  have b4 : ∀ o, (w.alloc o).cell? ⟨g2, 4, none⟩ = some (.slice hf.A2 f.code.length hf.c2) := fun o => pw_cell_below (bAl w o) (by simp [World.cell?, hg2])
  clear hg1 hg2
  go_enter Tryd.func47, Tryd.ntmps47
  go_wp2_with fail
  refine (saneNames m h f hf op a b _ (HM.out.below (bAl _ _)) (HF.out.below (bAl _ _)) ha hfl hfl2).mono ?_
  rintro e W ⟨rfl, hb⟩
  go_wp2
  go_ret
  exact ⟨rfl, blt (bAl _ _) hb⟩
theorem saneCheck2 (k n : Int) (w : World) :
    Calls Tryd.prog 51 #[.agg #[.int .i64 k, .int .i64 n]] w fun e w' => e = .returned (.bool (decide (k = 5))) ∧ Below w.heap.size w w' := by
  go_enter Tryd.func51, Tryd.ntmps51
  go_wp2
  go_ret
  exact ⟨ret_bool (by rw [Bool.eq_iff_iff]; simp), bAl _ _⟩
theorem saneCheck31 (k n : Int) (w : World) :
    Calls Tryd.prog 54 #[.agg #[.int .i64 k, .int .i64 n]] w fun e w' => e = .returned (.bool (!hostTy ⟨k, n⟩)) ∧ Below w.heap.size w w' := by
  go_enter Tryd.func54, Tryd.ntmps54
  go_wp2_with fail
  refine (saneHost _ _ _).mono ?_
  rintro e W ⟨rfl, hb⟩
  go_wp2
  go_ret
  exact ⟨rfl, blt (bAl _ _) hb⟩
def badHost (i : Imp) : Bool := !hostTy i.ret || i.args.any fun t => !hostTy t
theorem saneCheck3 (i : Imp) (h : ImpH) (w : World) (hi : ImpAt w i h) :
    Calls Tryd.prog 52 #[i.v h] w fun e w' => e = .returned (.bool (badHost i)) ∧ Below w.heap.size w w' := by
  obtain ⟨args, ⟨rk, rn⟩⟩ := i
  obtain ⟨A0, c0⟩ := h
  obtain ⟨r0, l0⟩ := hi
  simp only at r0 l0
  have R0 := Lib.hid r0
  clear r0
  unfold Imp.v
  simp only
  go_enter Tryd.func52, Tryd.ntmps52
  go_wp2_with fail
  refine (saneHost _ _ _).mono ?_
  rintro e w1 ⟨rfl, hb1⟩
  obtain ⟨hc1, hf1, _⟩ := bcell hb1
  cases g1 : hostTy ⟨rk, rn⟩
  · go_wp2
    go_ret
    exact ⟨ret_bool (by simp [badHost, g1]), blt (bAl _ _) hb1⟩
  go_wp2_with fail
  refine (ContainsFuncTy A0 c0 args 54 #[] (fun t => !hostTy t) _ (Kd.C_below R0.out (blt (bAl _ _) hb1)) Tryd.call54 ?hp).mono ?_
  case hp =>
    intro x hx W hb
    exact saneCheck31 _ _ _
  rintro e w2 ⟨rfl, hb2⟩
  go_wp2
  go_ret
  exact ⟨ret_bool (by simp [badHost, g1]), blt (blt (bAl _ _) hb1) hb2⟩

def badFn (m : Mod) (f : Fn) : Bool := (f.code.any fun i => !namesOk m f i) || f.locals.any fun t => decide (t.kind = 5)
def sane (m : Mod) : Int := if fitMod m = false then 2 else if m.funcs.any (badFn m) then 1 else if m.imports.any badHost then 1 else 0
theorem insPut_a (i : Ins) (h : (insPut i).length ≠ 0) : 0 ≤ i.a ∧ i.a ≤ 255 ∧ 0 ≤ i.b ∧ i.b ≤ 255 ∧ 0 ≤ i.op ∧ i.op < 42 := by
  have hr := (instArgs_range i.op).2
  unfold insPut at h
  split at h
  · simp at h
  · rename_i hn
    simp only [not_or, Bool.not_eq_false] at hn
    obtain ⟨q1, q2, q3⟩ := hn
    have := instMay_bd q2
    have := instMay_bd q3
    omega
theorem fitFn_a {f : Fn} {r : Int} (h : fitFn f r = true) : ∀ i ∈ f.code, 0 ≤ i.a ∧ i.a ≤ 255 ∧ 0 ≤ i.b ∧ i.b ≤ 255 ∧ 0 ≤ i.op ∧ i.op < 42 := by
  simp only [fitFn, Bool.and_eq_true, Bool.not_eq_true', List.any_eq_false, decide_eq_true_eq] at h
  exact fun i hi => insPut_a i (h.2.2.2.2.2 i hi)
theorem fitMod_fn {m : Mod} (h : fitMod m = true) : ∀ f ∈ m.funcs, fitFn f m.recs.length = true := by
  simp only [fitMod, Bool.and_eq_true, Bool.not_eq_true', List.any_eq_false] at h
  exact fun f hf => by simpa using h.2.2.2.2.1 f hf

theorem sane_bad {m : Mod} {k : Nat} {x : Fn} (hg : fitMod m = true) (hx : m.funcs[k]? = some x) (hb : badFn m x = true) : sane m = 1 := by
  have : m.funcs.any (badFn m) = true := List.any_eq_true.2 ⟨x, List.mem_of_getElem? hx, hb⟩
  simp [sane, hg, this]
theorem take_any {α : Type} {p : α → Bool} {xs : List α} {k : Nat} {x : α} (h : (xs.take k).any p = false) (hx : xs[k]? = some x) (hp : p x = false) : (xs.take (k + 1)).any p = false := by
  obtain ⟨hk, rfl⟩ := List.getElem?_eq_some_iff.1 hx
  rw [List.take_succ_eq_append_getElem hk, List.any_append, h]; simp [hp]

set_option maxHeartbeats 6400000 in
theorem saneCheck (m : Mod) (h : ModH) (w : World) (hm : ModAt w m h) (hok : ModOk m) :
    Calls Tryd.prog 32 #[m.v h] w fun e w' => e = .returned (.int .i64 (sane m)) ∧ Below w.heap.size w w' := by
  have HM := Lib.hid hm
  have HK := Lib.hid hok
  have m1 := C_len hm.r1
  clear hm hok
  unfold Mod.v
  go_enter Tryd.func32, Tryd.ntmps32
  go_wp2_with fail
  refine (moduleEncode m h _ (HM.out.below (bAl _ _)) HK.out).mono ?_
  rintro e w1 ⟨A, n, c, rfl, -, -, hb1⟩
  obtain ⟨hc1, hf1, _⟩ := bcell hb1
  have hz1 : w.heap.size < w1.heap.size := by have := hb1.size; simp at this; omega
  have B1 := blt (bAl _ _) hb1
  cases g1 : fitMod m
  · have e1 : encE m = 2 := by simp [encE, g1]
    rw [e1]
    go_wp2
    go_ret
    exact ⟨ret_int (by simp [sane, g1]), B1⟩
  have e1 : encE m = 0 := by simp [encE, g1]
  rw [e1]
  have HG1 := Lib.hid g1
  clear g1 e1
  have HX1 := Lib.hid (show ∃ q, w1.heap[w.heap.size]? = some (.cells #[.slice h.A0 m.recs.length h.c0, .slice h.A1 m.funcs.length h.c1, .slice h.A2 m.imports.length h.c2, .slice h.A3 m.ints.length h.c3, .slice h.A4 m.texts.length h.c4] q (0, 0)) from ⟨_, (hb1.block _ (by simp)).trans (heap_alloc_new w _)⟩)
  go_wp2_with fail
  clear hc1 hf1
  go_loopw [20] (fun i W => ∃ k : Nat, k ≤ m.funcs.length ∧ i = .int .i64 k ∧ Hid ((m.funcs.take k).any (badFn m) = false) ∧ Below w1.heap.size w1 W) (fun i _ => m.funcs.length - (intOf i).toNat)
  case atStart => exact ⟨0, Nat.zero_le _, rfl, Lib.hid (by simp), Below.refl _ _⟩
  case round =>
    obtain ⟨k, hk, rfl, HT, hbr⟩ := hrel
    have BR := blt B1 hbr
    by_cases hlt : k < m.funcs.length
    · obtain ⟨ad, x, ⟨Ax, cx, Ay, cy, Az, cz⟩, hA1, hx, hF, hy0, hy1, hy2, hy3, hy4⟩ := at_Fn (HM.out.below BR).r1 k hlt
      have HX := Lib.hid hx
      have HF := Lib.hid hF
      clear hx hF
      have hxm := List.mem_of_getElem? HX.out
      have hfit := fitMod_fn HG1.out x hxm
      have hsf := (fitMod_sm HG1.out).funcs x hxm
      have hia := Lib.hid (fitFn_a hfit)
      have hal := hsf.1.1
      have hll := hsf.2.2.1.1
      clear hsf hfit hxm
      have hzr := hbr.size
      obtain ⟨hc1, hf1, _⟩ := bcell hbr
      rw [hA1]
      go_wp2_with fail
      refine (ContainsFuncIns Az cz x.code 47 #[.pointer (some ⟨w.heap.size, 0, none⟩), .pointer (some ⟨wr.heap.size, 0, none⟩)] (fun i => !namesOk m x i) _ (Kd.C_below HF.out.r2 (bAl _ _)) Tryd.call47 ?hp).mono ?_
      case hp =>
        intro i hi W hb
        have ha := hia.out i hi
        have hb' := blt (bAl wr _) hb
        have hA1' : h = ⟨h.A0, h.c0, some ad, h.c1, h.A2, h.c2, h.A3, h.c3, h.A4, h.c4⟩ := by rw [← hA1]
        refine saneCheck1 m h x ⟨Ax, cx, Ay, cy, Az, cz⟩ i.op i.a i.b w.heap.size wr.heap.size W (HM.out.below (blt BR hb')) (HF.out.below hb') ha.1 (by omega) (by omega) ?_ ?_
        · obtain ⟨q, hq⟩ := HX1.out
          exact ⟨q, (hb'.block _ (by omega)).trans ((hbr.block _ (by omega)).trans hq)⟩
        · exact ⟨_, (hb.block _ (by simp)).trans (heap_alloc_new wr _)⟩
      rintro e w2 ⟨rfl, hb2⟩
      obtain ⟨hc2, hf2, _⟩ := bcell hb2
      have hz2 : wr.heap.size < w2.heap.size := by have := hb2.size; simp at this; omega
      have hb2' := blt (bAl wr _) hb2
      cases g2 : x.code.any fun i => !namesOk m x i
      rotate_left
      · have G2 := Lib.hid g2
        go_wp2
        go_ret
        exact ⟨ret_int (sane_bad HG1.out HX.out (by simp only [badFn, G2.out, Bool.true_or])).symm, blt BR hb2'⟩
      have G2 := Lib.hid g2
      clear g2
      go_wp2_with fail
      refine (ContainsFuncTy Ay cy x.locals 51 #[] (fun t => decide (t.kind = 5)) _ (Kd.C_below HF.out.r1 hb2') Tryd.call51 ?hp).mono ?_
      case hp =>
        intro x hx W hb
        exact saneCheck2 _ _ _
      rintro e w3 ⟨rfl, hb3⟩
      cases g3 : x.locals.any fun t => decide (t.kind = 5)
      rotate_left
      · have G3 := Lib.hid g3
        go_wp2
        go_ret
        exact ⟨ret_int (sane_bad HG1.out HX.out (by simp only [badFn, G3.out, Bool.or_true])).symm, blt (blt BR hb2') hb3⟩
      have G3 := Lib.hid g3
      clear g3
      go_wp2
      go_roundw
      case rel => exact ⟨k + 1, by omega, by go_num, Lib.hid (take_any HT.out HX.out (by simp only [badFn, G2.out, G3.out, Bool.or_self])), blt (blt hbr hb2') hb3⟩
      case measure => simp [intOf]; omega
    · obtain rfl : k = m.funcs.length := by omega
      have hm2 : wr.cell? ⟨w.heap.size, 2, none⟩ = some (.slice h.A2 m.imports.length h.c2) := by
        obtain ⟨q, hq⟩ := HX1.out
        exact pw_cell_below hbr (by simp [World.cell?, hq])
      have HT2 : m.funcs.any (badFn m) = false := by have := HT.out; rwa [List.take_length] at this
      have HT2 := Lib.hid HT2
      go_wp2_with fail
      refine (ContainsFuncImp h.A2 h.c2 m.imports 52 #[] badHost _ (HM.out.below BR).r2 Tryd.call52 ?hp).mono ?_
      case hp =>
        intro x hx' _ W hb hi
        exact saneCheck3 _ _ _ hi
      rintro e w2 ⟨rfl, hb2⟩
      cases g2 : m.imports.any badHost
      · have G2 := Lib.hid g2
        clear g2
        go_wp2
        go_ret
        exact ⟨ret_int (by simp [sane, HG1.out, HT2.out, G2.out]), blt BR hb2⟩
      · have G2 := Lib.hid g2
        clear g2
        go_wp2
        go_ret
        exact ⟨ret_int (by simp [sane, HG1.out, HT2.out, G2.out]), blt BR hb2⟩
end Go.Proofs.YtgcokdcdpdndjaaDoor
