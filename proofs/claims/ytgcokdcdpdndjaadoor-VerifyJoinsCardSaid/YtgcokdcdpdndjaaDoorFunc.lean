/- verify.checker.function. -/
import Derived.Test.YtgcokdcdpdndjaaDoorOne
import Derived.WalkMore
import Derived.ScopeJumps
import Derived.Deep.OwnRows
namespace Go.Proofs.YtgcokdcdpdndjaaDoor
open Go.RowKit Go.Proofs.YtgcokdcdpdndjaaDoorW.PrintWords
set_option linter.unusedVariables false
set_option linter.unusedSimpArgs false

theorem least_of {p : Nat → Prop} : ∀ n, p n → ∃ k, p k ∧ ∀ j, p j → k ≤ j := by
  intro n
  induction n using Nat.strongRecOn with
  | _ n ih =>
    intro h
    by_cases hx : ∃ j, p j ∧ j < n
    · obtain ⟨j, hj, hl⟩ := hx
      exact ih j hl hj
    · exact ⟨n, h, fun j hj => Nat.le_of_not_lt fun hl => hx ⟨j, hj, hl⟩⟩
theorem jump_mono {l : Nat} {J J' : Act → World → Prop} {Q : Exit → Act → World → Prop} {P : Program} {c : Code} {a : Act} {w : World} (h : c.wp P (Exit.jump l J Q) a w) (hj : ∀ a w, J a w → J' a w) : c.wp P (Exit.jump l J' Q) a w := by
  intro b k cs
  obtain ⟨e, a', w', hq, har⟩ := h b k cs
  refine ⟨e, a', w', ?_, har⟩
  cases e <;> first | exact hq | exact ⟨hq.1, hj _ _ hq.2⟩
open Classical in
/-- a scope that is jumped back in, what lessens being no part of the state -/
theorem scope_ghost {P : Program} {a : Act} {w : World} {Q : Exit → Act → World → Prop} {c rest : Code} (l : Nat) (J : Nat → Act → World → Prop) (hf : findLabel c l = some rest)
    (first : c.wp P (Exit.jump l (fun a' w' => ∃ n, J n a' w') Q) a w)
    (pass : ∀ n a w, J n a w → rest.wp P (Exit.jump l (fun a' w' => ∃ n', n' < n ∧ J n' a' w') Q) a w) : (Code.scope c).wp P Q a w := by
  have lst : ∀ (a : Act) (w : World), (∃ n, J n a w) → ∃ k, J k a w ∧ ∀ j, J j a w → k ≤ j := fun a w ⟨n, hn⟩ => least_of (p := fun n => J n a w) n hn
  refine wp_scope_jumps l (fun a w => ∃ n, J n a w) (fun a w => if h : ∃ n, J n a w then Classical.choose (lst a w h) else 0) hf first ?_
  intro a w hJ
  obtain ⟨h1, h2⟩ := Classical.choose_spec (lst a w hJ)
  refine jump_mono (pass _ a w h1) ?_
  rintro a' w' ⟨n', hn', hJ'⟩
  refine ⟨⟨n', hJ'⟩, ?_⟩
  have hJ2 : ∃ n, J n a' w' := ⟨n', hJ'⟩
  rw [dif_pos hJ, dif_pos hJ2]
  exact Nat.lt_of_le_of_lt ((Classical.choose_spec (lst a' w' hJ2)).2 n' hJ') hn'
theorem made_shcs (n : Nat) : madeCells #[.bool false, .slice none 0 0] (n * 2) = (shcs (List.replicate n ⟨false, []⟩) (List.replicate n (none, 0))).toArray := by
  apply Array.toList_inj.1
  apply List.ext_getElem?
  intro i
  have hl : (shcs (List.replicate n ⟨false, []⟩) (List.replicate n ((none : Option Addr), 0))).length = n * 2 := by rw [shcs_len _ _ (by simp)]; simp
  rcases Nat.lt_or_ge i (n * 2) with hi | hi
  · have hx : (List.replicate n (⟨false, []⟩ : Shp))[i / 2]? = some ⟨false, []⟩ := by rw [List.getElem?_replicate, if_pos (by omega)]
    have ha : (List.replicate n ((none : Option Addr), (0 : Nat)))[i / 2]? = some (none, 0) := by rw [List.getElem?_replicate, if_pos (by omega)]
    obtain ⟨h1, h2⟩ := shcs_at _ _ (i / 2) _ _ hx ha
    rcases Nat.mod_two_eq_zero_or_one i with e | e
    · rw [show i / 2 * 2 = i by omega] at h1
      simp only [h1]
      simp [madeCells, hi, e]
    · rw [show i / 2 * 2 + 1 = i by omega] at h2
      simp only [h2]
      simp [madeCells, hi, e]
  · rw [List.getElem?_eq_none (by simp [madeCells]; omega), List.getElem?_eq_none (by rw [hl]; exact hi)]
theorem work_oneR {m : Mod} {fn : Fn} {k : Nat} {X : List Shp} {pc : Nat} {todo : List Nat} : work (stepN m fn) (k + 1) X (pc :: todo) = (match oneR m fn X pc with | none => some (.error pc) | some (X', t) => work (stepN m fn) k X' (todo ++ t)) := by
  simp only [work, oneR]
  cases stepN m fn pc (X.getD pc default).stack with
  | none => rfl
  | some r =>
    simp only
    cases meets r.1 r.2 X with
    | none => rfl
    | some z => rfl
theorem stepN_two {m : Mod} {fn : Fn} {pc : Nat} {st : List Ty} {r : List Ty × List Nat} (h : stepN m fn pc st = some r) : r.2.length ≤ 2 ∧ r.1.length ≤ 8 := by
  unfold stepN at h
  cases hi : fn.code[pc]? with
  | none => rw [hi] at h; cases h
  | some i =>
    rw [hi] at h
    simp only at h
    split at h
    · rename_i h0
      injection h with h; subst h
      obtain ⟨r, h1, h2, h3, h4, h5, e⟩ := stepR_ok h0
      rw [e]
      refine ⟨?_, by simp only [List.length_append, List.length_take]; omega⟩
      simp only [List.length_map]
      unfold nextI; (repeat' split) <;> simp
    · cases h
theorem oneR_spec {m : Mod} {fn : Fn} {X X' : List Shp} {pc : Nat} {t : List Nat} (hs : sane m = 0) (hf : fn ∈ m.funcs) (hX : stkB X) (h : oneR m fn X pc = some (X', t)) : X'.length = X.length ∧ stkB X' ∧ t.length ≤ 2 ∧ ∀ q ∈ t, q < fn.code.length := by
  unfold oneR at h
  split at h
  · cases h
  · rename_i r hr
    obtain ⟨h2, h8⟩ := stepN_two hr
    have hin := stepN_in hs hf pc _ r hr
    obtain ⟨-, -, -, hsub, -⟩ := meets_spec h
    exact ⟨meets_len h, meets_stk h8 hX h, Nat.le_trans (meets_tlen h) h2, fun q hq => hin q (hsub q hq)⟩
theorem CS.init {w0 w : World} {gc : Nat} {q0 q1 q2 q3 q4 : Value} {f : Nat} (n : Nat) (hfr : Below w0.heap.size w0 w) (hgc : w0.heap.size ≤ gc) (hc : w.heap[gc]? = some (.cells #[q0, q1, q2, q3, q4, .int .i64 f, .slice none 0 0, .slice none 0 0] 75 (0, 0))) :
    CS w0 ((w.alloc (.cells (shcs (List.replicate n ⟨false, []⟩) (List.replicate n (none, 0))).toArray 45)).setCell ⟨gc, 6, none⟩ (.slice (some ⟨w.heap.size, 0, none⟩) n n)).drew w0.heap.size gc w.heap.size q0 q1 q2 q3 q4 f (List.replicate n ⟨false, []⟩) (List.replicate n (none, 0)) [] (fun _ => False) (.slice none 0 0) := by
  have hlt := blk_lt hc
  have b1 := bAl w (.cells (shcs (List.replicate n ⟨false, []⟩) (List.replicate n (none, 0))).toArray 45)
  have hc1 := (b1.block gc hlt).trans hc
  have hs1 : (w.alloc (.cells (shcs (List.replicate n ⟨false, []⟩) (List.replicate n (none, 0))).toArray 45)).heap[w.heap.size]? = some (.cells (shcs (List.replicate n ⟨false, []⟩) (List.replicate n (none, 0))).toArray 45 (0, 0)) := heap_alloc_new w _
  have hf1 : Below w0.heap.size w0 (w.alloc (.cells (shcs (List.replicate n ⟨false, []⟩) (List.replicate n (none, 0))).toArray 45)) := hfr.trans (b1.mono hfr.size)
  generalize (w.alloc (.cells (shcs (List.replicate n ⟨false, []⟩) (List.replicate n (none, 0))).toArray 45)) = W at b1 hc1 hs1 hf1 ⊢
  have h2 : CS w0 (W.setCell ⟨gc, 6, none⟩ (.slice (some ⟨w.heap.size, 0, none⟩) n n)) w0.heap.size gc w.heap.size q0 q1 q2 q3 q4 f (List.replicate n ⟨false, []⟩) (List.replicate n (none, 0)) [] (fun _ => False) (.slice none 0 0) := by
    refine ⟨hf1.setCell hgc _, by have := b1.size; have := hfr.size; simp [World.setCell]; omega, hgc, ?_, ⟨hfr.size, by simp, ?_, ?_, ?_, ?_⟩, Kd.Q_nil _ _ _ _ _, fun _ _ h => h, fun _ h => h.elim⟩
    · have := blk_put hc1 6 (.slice (some ⟨w.heap.size, 0, none⟩) n n) rfl
      simpa using this
    · exact (Below.heap_setCell W ⟨gc, 6, none⟩ _ w.heap.size (by simp only; omega)).trans hs1
    · intro k s a hs ha
      rw [List.getElem?_replicate] at hs ha
      split at hs
      · injection hs with hs; subst hs
        rename_i hk
        rw [if_pos hk] at ha; injection ha with ha; subst ha
        exact Kd.R_nil _ _ _ _ _
      · cases hs
    · intro j k a b g _ ha _ hg
      rw [List.getElem?_replicate] at ha
      split at ha
      · injection ha with ha; subst ha; simp [blk] at hg
      · cases ha
    · intro _ _ _ _ _ h; exact h
  exact h2.below (below_drew (Below.refl _ _))
theorem meet_first {n : Nat} (hn : 0 < n) : meetR (List.replicate n ⟨false, []⟩) 0 [] = some (X0 n, true) := by
  unfold meetR
  rw [List.getElem?_replicate, if_pos hn]
  rfl
def FunRet (w0 : World) (gc : Nat) (q0 q1 q2 q3 q4 : Value) (f : Nat) (r : Except Nat (List Shp)) (e : Ending) (W : World) : Prop :=
  match r with
  | .error pc => e = .returned (.tuple #[.int .i64 pc, .int .i64 4]) ∧ Below w0.heap.size w0 W
  | .ok Z => ∃ gS L vT, e = .returned (.tuple #[.int .i64 0, .int .i64 0]) ∧ Hid (CS w0 W w0.heap.size gc gS q0 q1 q2 q3 q4 f Z L [] (fun _ => False) vT)
theorem infoShp : (Tryd.prog.info? 45).map (fun i => (i.zero, i.size, i.bytes)) = some (some (.agg #[.bool false, .slice none 0 0]), 2, 32) := by kernel_rfl
theorem makeShp (n : Nat) (hn : n ≤ 1000) (w : World) : (Instr.makeSlice 43 (.int .i64 (n : Int)) (.int .i64 (n : Int))).run Tryd.prog w = .ok (.slice (some ⟨w.heap.size, 0, none⟩) n n) (w.alloc (.cells (shcs (List.replicate n ⟨false, []⟩) (List.replicate n (none, 0))).toArray 45)) := by
  obtain ⟨i, hi, hzz⟩ := Option.map_eq_some_iff.1 infoShp
  simp only [Prod.mk.injEq] at hzz
  obtain ⟨hz, hs, hb⟩ := hzz
  have hr := run_make (P := Tryd.prog) w 43 45 i _ Tryd.underlying43 hi hz .i64 .i64 n n (by omega) (Int.le_refl _) (by rw [hb]; omega) (by omega)
  rw [hs] at hr
  simp only [Int.toNat_natCast] at hr
  rw [hr, ← made_shcs]
  rfl
set_option maxRecDepth 100000 in
set_option maxHeartbeats 6400000 in
theorem verifyFunction (m : Mod) (h : ModH) (fn : Fn) {w0 : World} {gc : Nat} {f : Nat} (w : World) (hgl : Gl w0) (hm : ModAt w0 m h) (hs : sane m = 0) (hf : m.funcs[f]? = some fn) (hfr : Below w0.heap.size w0 w) (hgc : w0.heap.size ≤ gc)
    (hc : w.heap[gc]? = some (.cells #[.slice h.A0 m.recs.length h.c0, .slice h.A1 m.funcs.length h.c1, .slice h.A2 m.imports.length h.c2, .slice h.A3 m.ints.length h.c3, .slice h.A4 m.texts.length h.c4, .int .i64 f, .slice none 0 0, .slice none 0 0] 75 (0, 0))) :
    Calls Tryd.prog 37 #[.pointer (some ⟨gc, 0, none⟩)] w (FunRet w0 gc (.slice h.A0 m.recs.length h.c0) (.slice h.A1 m.funcs.length h.c1) (.slice h.A2 m.imports.length h.c2) (.slice h.A3 m.ints.length h.c3) (.slice h.A4 m.texts.length h.c4) f (workF (stepN m fn) fn.code.length)) := by
  have hlt : f < m.funcs.length := (List.getElem?_eq_some_iff.1 hf).1
  obtain ⟨ad, x, hg, hA1, hx', hG, -, -, -, -, hy4⟩ := at_Fn hm.r1 f hlt
  obtain rfl : fn = x := by rw [hf] at hx'; injection hx'
  have hfit := fitMod_fn (sane_fit hs).1 fn (List.mem_of_getElem? hf)
  have hnn : 1 ≤ fn.code.length ∧ fn.code.length ≤ 64 := by
    unfold fitFn at hfit
    simp only [Bool.and_eq_true, decide_eq_true_eq] at hfit
    exact ⟨hfit.2.2.2.1, hfit.2.2.2.2.1⟩
  have hm1 := C_len hm.r1
  have hmk := makeShp fn.code.length (by omega)
  have y4 := pw_cell_below hfr hy4
  have hlt' : (f : Int) < m.funcs.length := by omega
  obtain ⟨R', hR'⟩ := work_total (n := fn.code.length) (stepN_prp hs (List.mem_of_getElem? hf)) FUEL (X0 fn.code.length) [0] (by simp [X0]) (X0_prp _) (by simp [FUEL]; omega)
  have hR : workF (stepN m fn) fn.code.length = R' := by simp [workF, hR']
  rw [hR]
  have HW := Lib.hid hR'
  have HG := Lib.hid hgl
  have HM := Lib.hid hm
  have HF := Lib.hid hf
  have HS := Lib.hid hs
  have HFR := Lib.hid hfr
  have HC := Lib.hid hc
  clear hR' hR hgl hm hf hs hfr hfit hG hy4 hx'
  obtain ⟨a0, cc0, a1, cc1, a2, cc2, a3, cc3, a4, cc4⟩ := h
  simp only at hA1 hc HC y4 hm1 ⊢
  subst hA1
  go_enter Tryd.func37, Tryd.ntmps37
  go_wp2_with fail
  refine scope_ghost 0 (fun n a' w' => ∃ (X : List Shp) (L : List (Option Addr × Nat)) (todo : List Nat) (vT : Value) (gS : Nat), Hid (CS w0 w' w0.heap.size gc gS (.slice a0 m.recs.length cc0) (.slice (some ad) m.funcs.length cc1) (.slice a2 m.imports.length cc2) (.slice a3 m.ints.length cc3) (.slice a4 m.texts.length cc4) f X L todo (fun _ => False) vT) ∧ Hid (work (stepN m fn) n X todo = some R') ∧ n ≤ FUEL ∧ stkB X ∧ X.length = fn.code.length ∧ (∀ q ∈ todo, q < fn.code.length) ∧ todo.length + 2 * n ≤ 2 * FUEL + 1 ∧
    ∃ u1 u4 u5 u6 u7 u8 u9 u10 u11 u12 u13 u14 u15 u16 u17 u18 u19 u20 u21 u22 u23 u24 u25 u26 u27 u28 u29 u30 u31 u32 u33 u34 u35 u36 u37 u38 u39 : Value, a' = { tmps := #[Value.pointer (some ⟨gc, 0, none⟩), u1, Value.int .i64 0, Value.int .i64 0, u4, u5, u6, u7, u8, u9, u10, u11, u12, u13, u14, u15, u16, u17, u18, u19, u20, u21, u22, u23, u24, u25, u26, u27, u28, u29, u30, u31, u32, u33, u34, u35, u36, u37, u38, u39], defers := [] }) rfl ?_ ?_
  · have hc1 : ∀ j, w.frozen? ⟨gc, j, none⟩ = false := blk_frozen hc
    have c0 : w.cell? ⟨gc, 1, none⟩ = some (.slice (some ad) m.funcs.length cc1) := by rw [blk_cell hc]; rfl
    have c5 : w.cell? ⟨gc, 5, none⟩ = some (.int .i64 f) := by rw [blk_cell hc]; rfl
    have c6 : ∀ o, (w.alloc o).cell? ⟨gc, 6, none⟩ = some (.slice none 0 0) := fun o => pw_cell_below (bAl w o) (by rw [blk_cell hc]; rfl)
    have hfz : ∀ o, (w.alloc o).frozen? ⟨gc, 6, none⟩ = false := fun o => blk_frozen ((bAl w o).block gc (blk_lt hc) ▸ hc) 6
    go_wp2_with fail
    go_region
    go_wp2_with fail
    have hM1 := CS.init fn.code.length HFR.out hgc HC.out
    refine (verifyMeet 0 none 0 [] _ hM1 (Kd.R_nil _ _ _ _ _) (fun k hk => by cases hk) (by simp; omega) (by simp; omega) (by simp) (by simp) (fun s hs => by rw [List.mem_replicate] at hs; rw [hs.2]; simp)).mono ?_
    rintro e w2 hr
    rw [meet_first (by omega)] at hr
    obtain ⟨L2, vT2, rfl, HM2, -⟩ := hr
    simp only [List.nil_append, if_true] at HM2
    go_wp2_with fail
    go_step3
    have hst : ∃ (n : Nat) (X : List Shp) (L : List (Option Addr × Nat)) (todo : List Nat) (vT : Value) (gS : Nat), Hid (CS w0 w2 w0.heap.size gc gS (.slice a0 m.recs.length cc0) (.slice (some ad) m.funcs.length cc1) (.slice a2 m.imports.length cc2) (.slice a3 m.ints.length cc3) (.slice a4 m.texts.length cc4) f X L todo (fun _ => False) vT) ∧ Hid (work (stepN m fn) n X todo = some R') ∧ n ≤ FUEL ∧ stkB X ∧ X.length = fn.code.length ∧ (∀ q ∈ todo, q < fn.code.length) ∧ todo.length + 2 * n ≤ 2 * FUEL + 1 := by
      refine ⟨FUEL, X0 fn.code.length, L2, [0], vT2, _, HM2, HW, Nat.le_refl _, ?_, by simp [X0], fun q hq => by simp at hq; omega, by simp; omega⟩
      unfold X0
      exact stkB_set (fun s hs => by rw [List.mem_replicate] at hs; rw [hs.2]; simp) 0 (by simp)
    clear HM2 hM1 hc1 c0 c5 c6 hfz HW
    obtain ⟨n, X, L, todo, vT, gS, HM3, HWK, hnF, hstk, hXl, hin, htl⟩ := hst
    obtain ⟨m0, m1, m2, m3, m4, m5, m6, m7, mf⟩ := HM3.out.cells
    obtain ⟨T, cT, rfl, hcT⟩ := Kd.Q_slice HM3.out.td
    have hiT : (ints todo).length = todo.length := by simp [ints]
    rw [hiT] at m7 HM3 hcT
    obtain ⟨n, rfl⟩ : ∃ n', n = n' + 1 := by
      cases n with
      | zero => have := HWK.out; simp [work] at this
      | succ n => exact ⟨n, rfl⟩
    cases todo with
    | nil =>
      have e1 : R' = .ok X := by have := HWK.out; simp [work] at this; exact this.symm
      subst e1
      simp only [List.length_nil] at m7 HM3
      go_wp2_with fail
      simp only [Exit.jump]
      refine bodyPost_ret (by simp [results, Tryd.results37, go_sem]; rfl) rfl ?_
      exact ⟨gS, L, _, rfl, HM3⟩
    | cons pc todo =>
      have hpc := hin pc (by simp)
      have hOne := Lib.hid (fun (_ : Unit) => verifyOne m ⟨a0, cc0, some ad, cc1, a2, cc2, a3, cc3, a4, cc4⟩ fn pc w2 HG.out HM.out rfl HS.out HF.out HM3.out (hXl) (by omega) (by simp only [FUEL, List.length_cons] at htl; omega) hstk)
      have hwk := HWK.out
      rw [work_oneR] at hwk
      have hspec := fun X' t => oneR_spec (X := X) (X' := X') (pc := pc) (t := t) HS.out (List.mem_of_getElem? HF.out) hstk
      simp only [List.length_cons] at m7
      have h0 : ((todo.length + 1 : Nat) : Int) ≠ 0 := by omega
      generalize hr0 : oneR m fn X pc = r0 at hwk hspec hOne
      have HWK2 := Lib.hid hwk
      have HSP := Lib.hid hspec
      clear hwk hspec hr0
      go_wp2_with fail
      refine (hOne.out ()).mono ?_
      rintro e w5 hr
      cases r0 with
      | none =>
        obtain ⟨rfl, hb5⟩ := hr
        have e1 : R' = .error pc := by have := HWK2.out; simp at this; exact this.symm
        subst e1
        go_wp2_with fail
        simp only [Exit.jump]
        refine bodyPost_ret (by simp [results, Tryd.results37, go_sem]; rfl) rfl ?_
        exact ⟨rfl, hb5⟩
      | some z =>
        obtain ⟨X', t⟩ := z
        obtain ⟨L', vT', rfl, HM6⟩ := hr
        obtain ⟨p1, p2, p3, p4⟩ := HSP.out X' t rfl
        have hin2 : ∀ q ∈ todo ++ t, q < fn.code.length := fun q hq => by
          rcases List.mem_append.1 hq with hq | hq
          · exact hin q (by simp [hq])
          · exact p4 q hq
        go_wp2_with fail
        go_step3
        refine ⟨rfl, n, X', L', todo ++ t, vT', gS, HM6, HWK2, by omega, p2, p1.trans hXl, hin2, by simp only [List.length_append, List.length_cons] at htl ⊢; omega, ?_⟩
        exact ⟨_, _, _, _, _, _, _, _, _, _, _, _, _, _, _, _, _, _, _, _, _, _, _, _, _, _, _, _, _, _, _, _, _, _, _, _, _, rfl⟩
  · rintro n a' wr ⟨X, L, todo, vT, gS, HM3, HWK, hnF, hstk, hXl, hin, htl, u1, u4, u5, u6, u7, u8, u9, u10, u11, u12, u13, u14, u15, u16, u17, u18, u19, u20, u21, u22, u23, u24, u25, u26, u27, u28, u29, u30, u31, u32, u33, u34, u35, u36, u37, u38, u39, rfl⟩
    clear HW
    obtain ⟨m0, m1, m2, m3, m4, m5, m6, m7, mf⟩ := HM3.out.cells
    obtain ⟨T, cT, rfl, hcT⟩ := Kd.Q_slice HM3.out.td
    have hiT : (ints todo).length = todo.length := by simp [ints]
    rw [hiT] at m7 HM3 hcT
    obtain ⟨n, rfl⟩ : ∃ n', n = n' + 1 := by
      cases n with
      | zero => have := HWK.out; simp [work] at this
      | succ n => exact ⟨n, rfl⟩
    cases todo with
    | nil =>
      have e1 : R' = .ok X := by have := HWK.out; simp [work] at this; exact this.symm
      subst e1
      simp only [List.length_nil] at m7 HM3
      go_wp2_with fail
      simp only [Exit.jump]
      refine bodyPost_ret (by simp [results, Tryd.results37, go_sem]; rfl) rfl ?_
      exact ⟨gS, L, _, rfl, HM3⟩
    | cons pc todo =>
      have hpc := hin pc (by simp)
      have hOne := Lib.hid (fun (_ : Unit) => verifyOne m ⟨a0, cc0, some ad, cc1, a2, cc2, a3, cc3, a4, cc4⟩ fn pc wr HG.out HM.out rfl HS.out HF.out HM3.out (hXl) (by omega) (by simp only [FUEL, List.length_cons] at htl; omega) hstk)
      have hwk := HWK.out
      rw [work_oneR] at hwk
      have hspec := fun X' t => oneR_spec (X := X) (X' := X') (pc := pc) (t := t) HS.out (List.mem_of_getElem? HF.out) hstk
      simp only [List.length_cons] at m7
      have h0 : ((todo.length + 1 : Nat) : Int) ≠ 0 := by omega
      generalize hr0 : oneR m fn X pc = r0 at hwk hspec hOne
      have HWK2 := Lib.hid hwk
      have HSP := Lib.hid hspec
      clear hwk hspec hr0
      go_wp2_with fail
      refine (hOne.out ()).mono ?_
      rintro e w5 hr
      cases r0 with
      | none =>
        obtain ⟨rfl, hb5⟩ := hr
        have e1 : R' = .error pc := by have := HWK2.out; simp at this; exact this.symm
        subst e1
        go_wp2_with fail
        simp only [Exit.jump]
        refine bodyPost_ret (by simp [results, Tryd.results37, go_sem]; rfl) rfl ?_
        exact ⟨rfl, hb5⟩
      | some z =>
        obtain ⟨X', t⟩ := z
        obtain ⟨L', vT', rfl, HM6⟩ := hr
        obtain ⟨p1, p2, p3, p4⟩ := HSP.out X' t rfl
        have hin2 : ∀ q ∈ todo ++ t, q < fn.code.length := fun q hq => by
          rcases List.mem_append.1 hq with hq | hq
          · exact hin q (by simp [hq])
          · exact p4 q hq
        go_wp2_with fail
        go_step3
        refine ⟨rfl, n, by omega, X', L', todo ++ t, vT', gS, HM6, HWK2, by omega, p2, p1.trans hXl, hin2, by simp only [List.length_append, List.length_cons] at htl ⊢; omega, ?_⟩
        exact ⟨_, _, _, _, _, _, _, _, _, _, _, _, _, _, _, _, _, _, _, _, _, _, _, _, _, _, _, _, _, _, _, _, _, _, _, _, _, rfl⟩
end Go.Proofs.YtgcokdcdpdndjaaDoor
