/- flow.Step. -/
import Derived.Test.YtgcokdcdpdndjaaDoorStepA
namespace Go.Proofs.YtgcokdcdpdndjaaDoor
open Go.RowKit Go.Proofs.YtgcokdcdpdndjaaDoorW.PrintWords
set_option linter.unusedVariables false
set_option linter.unusedSimpArgs false

/-- an instruction on a stack: the error, the stack behind it, where it leads -/
def stepR (m : Mod) (f : Fn) (i : Ins) (pc : Nat) (st : List Ty) : Int × List Ty × List Int :=
  match ofR m f i st with
  | none => (4, [], [])
  | some r =>
    if st.length < r.inn.length ∨ 8 < st.length - r.inn.length + r.out.length then (4, [], [])
    else if (List.range r.inn.length).all (fun k => subTy (st.getD (st.length - r.inn.length + k) default) (r.inn.getD k default)) = true then
      (if (match nextI i.op i.a pc with | [] => false | t :: _ => decide ((f.code.length : Int) ≤ t)) = true then (1, [], [])
       else (0, st.take (st.length - r.inn.length) ++ r.out, nextI i.op i.a pc))
    else (4, [], [])
def StepRet (w : World) (r : Int × List Ty × List Int) (e : Ending) (w' : World) : Prop :=
  ∃ A c B d, e = .returned (.tuple #[.slice A r.2.1.length r.2.1.length, .slice B r.2.2.length d, .int .i64 r.1]) ∧ Hid (OT w' w.heap.size (.slice A r.2.1.length c) r.2.1) ∧ Hid (OI w' w.heap.size (.slice B r.2.2.length d) r.2.2) ∧ Below w.heap.size w w'

theorem all_succ (p : Nat → Bool) (k : Nat) (h : (List.range k).all p = true) (hp : p k = true) : (List.range (k + 1)).all p = true := by
  rw [List.range_succ, List.all_append, h]; simp [hp]
theorem all_fail (p : Nat → Bool) (n k : Nat) (hk : k < n) (hp : p k = false) : ¬ (List.range n).all p = true := by
  intro h
  have := (List.all_eq_true.1 h) k (List.mem_range.2 hk)
  rw [hp] at this; exact absurd this (by simp)
theorem getD_of {α : Type} [Inhabited α] {l : List α} {k : Nat} {x : α} (h : l[k]? = some x) : l.getD k default = x := by
  rw [List.getD_eq_getElem?_getD, h]; rfl
set_option maxRecDepth 100000 in
set_option maxHeartbeats 6400000 in
theorem flowStep (m : Mod) (h : ModH) (f : Nat) (fn : Fn) (i : Ins) (pc : Nat) (A : Option Addr) (c : Nat) (st : List Ty) (w : World) (hgl : Gl w) (hm : ModAt w m h) (hf : m.funcs[f]? = some fn) (hi : fn.code[pc]? = some i)
    (hal : fn.args.length ≤ 100) (hll : fn.locals.length ≤ 100) (hcl : fn.code.length ≤ 1000) (hC : kTy.C w A st.length st) (hsl : st.length ≤ 1000) (hsc : st.length ≤ c)
    (h0 : 0 ≤ i.op) (h1 : i.op < 42) (ha : 0 ≤ i.a) (hb : 0 ≤ i.b) (hn : namesOk m fn i = true) (hrl : ∀ r, ofR m fn i st = some r → r.inn.length ≤ 1000 ∧ r.out.length ≤ 1000) :
    Calls Tryd.prog 33 #[m.v h, .int .i64 f, .int .i64 pc, .slice A st.length c] w (StepRet w (stepR m fn i pc st)) := by
  have hlt : f < m.funcs.length := (List.getElem?_eq_some_iff.1 hf).1
  have hlp : pc < fn.code.length := (List.getElem?_eq_some_iff.1 hi).1
  obtain ⟨ad, x, hg, hA1, hx', hG, hy0, hy1, hy2, hy3, hy4⟩ := at_Fn hm.r1 f hlt
  obtain rfl : fn = x := by rw [hf] at hx'; injection hx'
  obtain ⟨ad2, x, hA2, hx', hi0, hi1, hi2⟩ := at_Ins hG.r2 pc hlp
  obtain rfl : i = x := by rw [hi] at hx'; injection hx'
  have m1 := C_len hm.r1
  have D := Lib.hid (fun (W : World) (hw : Below w.heap.size w W) => flowOf m h fn hg i.op i.a i.b A c st W (hgl.below hw) (hm.below hw) (hG.below hw) hal hll (Kd.C_below hC hw) h0 h1 ha hb hn)
  have HC := Lib.hid hC
  generalize hR : stepR m fn i pc st = R
  unfold stepR at hR
  generalize hof : ofR m fn i st = o at hR hrl
  rw [show ofR m fn ⟨i.op, i.a, i.b⟩ st = o from hof] at D
  have HR0 := Lib.hid hR
  have HL := Lib.hid hrl
  clear hR hof hrl
  clear hgl hm hf hi hG hC hx' h0 h1 ha hb hn
  obtain ⟨q0, cc0, q1, cc1, q2, cc2, q3, cc3, q4, cc4⟩ := h
  obtain ⟨z0, zc0, z1, zc1, z2, zc2⟩ := hg
  simp only at hA1 hA2
  subst hA1 hA2
  have hlt' : (f : Int) < m.funcs.length := by omega
  have hlp' : (pc : Int) < fn.code.length := by omega
  unfold Mod.v Fn.v at *
  simp only at *
  have y0 := fun o => pw_cell_below (bAl w o) hy0
  have y1 := fun o => pw_cell_below (bAl w o) hy1
  have y2 := fun o => pw_cell_below (bAl w o) hy2
  have y3 := fun o => pw_cell_below (bAl w o) hy3
  have y4 := fun o => pw_cell_below (bAl w o) hy4
  clear hy0 hy1 hy2 hy3 hy4
  go_enter Tryd.func33, Tryd.ntmps33
  go_wp2_with fail
  clear y0 y1 y2 y3 y4
  have hB := bAl2 w (.cells #[.slice q0 m.recs.length cc0, .slice (some ad) m.funcs.length cc1, .slice q2 m.imports.length cc2, .slice q3 m.ints.length cc3, .slice q4 m.texts.length cc4] 28) (.cells #[.slice z0 fn.args.length zc0, .int .i64 fn.ret.kind, .int .i64 fn.ret.n, .slice z1 fn.locals.length zc1, .slice (some ad2) fn.code.length zc2] 53)
  have K : (fun w' : World => w'.cell? ⟨w.heap.size, 0, none⟩ = some (.slice q0 m.recs.length cc0) ∧ w'.cell? ⟨w.heap.size, 1, none⟩ = some (.slice (some ad) m.funcs.length cc1) ∧ w'.cell? ⟨w.heap.size, 2, none⟩ = some (.slice q2 m.imports.length cc2) ∧ w'.cell? ⟨w.heap.size, 3, none⟩ = some (.slice q3 m.ints.length cc3) ∧ w'.cell? ⟨w.heap.size, 4, none⟩ = some (.slice q4 m.texts.length cc4)
      ∧ w'.cell? ⟨w.heap.size + 1, 0, none⟩ = some (.slice z0 fn.args.length zc0) ∧ w'.cell? ⟨w.heap.size + 1, 1, none⟩ = some (.int .i64 fn.ret.kind) ∧ w'.cell? ⟨w.heap.size + 1, 2, none⟩ = some (.int .i64 fn.ret.n) ∧ w'.cell? ⟨w.heap.size + 1, 3, none⟩ = some (.slice z1 fn.locals.length zc1) ∧ w'.cell? ⟨w.heap.size + 1, 4, none⟩ = some (.slice (some ad2) fn.code.length zc2)
      ∧ w'.cell? (ad2.add (pc * 3)) = some (.int .i64 i.op) ∧ w'.cell? ⟨(ad2.add (pc * 3)).block, (ad2.add (pc * 3)).off + 1, none⟩ = some (.int .i64 i.a) ∧ w'.cell? ⟨(ad2.add (pc * 3)).block, (ad2.add (pc * 3)).off + 2, none⟩ = some (.int .i64 i.b))
      ((w.alloc (.cells #[.slice q0 m.recs.length cc0, .slice (some ad) m.funcs.length cc1, .slice q2 m.imports.length cc2, .slice q3 m.ints.length cc3, .slice q4 m.texts.length cc4] 28)).alloc (.cells #[.slice z0 fn.args.length zc0, .int .i64 fn.ret.kind, .int .i64 fn.ret.n, .slice z1 fn.locals.length zc1, .slice (some ad2) fn.code.length zc2] 53)) := by
    refine ⟨?_, ?_, ?_, ?_, ?_, ?_, ?_, ?_, ?_, ?_, ?_, ?_, ?_⟩ <;> (first | (refine pw_cell_below hB ?_; assumption) | go_simp)
  have hw2 : w.heap.size + 1 < ((w.alloc (.cells #[.slice q0 m.recs.length cc0, .slice (some ad) m.funcs.length cc1, .slice q2 m.imports.length cc2, .slice q3 m.ints.length cc3, .slice q4 m.texts.length cc4] 28)).alloc (.cells #[.slice z0 fn.args.length zc0, .int .i64 fn.ret.kind, .int .i64 fn.ret.n, .slice z1 fn.locals.length zc1, .slice (some ad2) fn.code.length zc2] 53)).heap.size := by simp
  generalize ((w.alloc (.cells #[.slice q0 m.recs.length cc0, .slice (some ad) m.funcs.length cc1, .slice q2 m.imports.length cc2, .slice q3 m.ints.length cc3, .slice q4 m.texts.length cc4] 28)).alloc (.cells #[.slice z0 fn.args.length zc0, .int .i64 fn.ret.kind, .int .i64 fn.ret.n, .slice z1 fn.locals.length zc1, .slice (some ad2) fn.code.length zc2] 53)) = w2 at K hB hw2 ⊢
  have KS : ∀ W : World, Below w2.heap.size w2 W → (fun w' : World => Below w2.heap.size w2 w' ∧ w'.cell? ⟨w.heap.size, 0, none⟩ = some (.slice q0 m.recs.length cc0) ∧ w'.cell? ⟨w.heap.size, 1, none⟩ = some (.slice (some ad) m.funcs.length cc1) ∧ w'.cell? ⟨w.heap.size, 2, none⟩ = some (.slice q2 m.imports.length cc2) ∧ w'.cell? ⟨w.heap.size, 3, none⟩ = some (.slice q3 m.ints.length cc3) ∧ w'.cell? ⟨w.heap.size, 4, none⟩ = some (.slice q4 m.texts.length cc4)
      ∧ w'.cell? ⟨w.heap.size + 1, 0, none⟩ = some (.slice z0 fn.args.length zc0) ∧ w'.cell? ⟨w.heap.size + 1, 1, none⟩ = some (.int .i64 fn.ret.kind) ∧ w'.cell? ⟨w.heap.size + 1, 2, none⟩ = some (.int .i64 fn.ret.n) ∧ w'.cell? ⟨w.heap.size + 1, 3, none⟩ = some (.slice z1 fn.locals.length zc1) ∧ w'.cell? ⟨w.heap.size + 1, 4, none⟩ = some (.slice (some ad2) fn.code.length zc2)
      ∧ w'.cell? (ad2.add (pc * 3)) = some (.int .i64 i.op) ∧ w'.cell? ⟨(ad2.add (pc * 3)).block, (ad2.add (pc * 3)).off + 1, none⟩ = some (.int .i64 i.a) ∧ w'.cell? ⟨(ad2.add (pc * 3)).block, (ad2.add (pc * 3)).off + 2, none⟩ = some (.int .i64 i.b)) W := by
    intro W hb
    obtain ⟨k0, k1, k2, k3, k4, k5, k6, k7, k8, k9, k10, k11, k12⟩ := K
    exact ⟨hb, pw_cell_below hb k0, pw_cell_below hb k1, pw_cell_below hb k2, pw_cell_below hb k3, pw_cell_below hb k4, pw_cell_below hb k5, pw_cell_below hb k6, pw_cell_below hb k7, pw_cell_below hb k8, pw_cell_below hb k9, pw_cell_below hb k10, pw_cell_below hb k11, pw_cell_below hb k12⟩
  have KS := Lib.hid KS
  have hBh := Lib.hid hB
  clear K hB
  go_region_held3 (fun w' => Below w2.heap.size w2 w' ∧ w'.cell? ⟨w.heap.size, 0, none⟩ = some (.slice q0 m.recs.length cc0) ∧ w'.cell? ⟨w.heap.size, 1, none⟩ = some (.slice (some ad) m.funcs.length cc1) ∧ w'.cell? ⟨w.heap.size, 2, none⟩ = some (.slice q2 m.imports.length cc2) ∧ w'.cell? ⟨w.heap.size, 3, none⟩ = some (.slice q3 m.ints.length cc3) ∧ w'.cell? ⟨w.heap.size, 4, none⟩ = some (.slice q4 m.texts.length cc4)
      ∧ w'.cell? ⟨w.heap.size + 1, 0, none⟩ = some (.slice z0 fn.args.length zc0) ∧ w'.cell? ⟨w.heap.size + 1, 1, none⟩ = some (.int .i64 fn.ret.kind) ∧ w'.cell? ⟨w.heap.size + 1, 2, none⟩ = some (.int .i64 fn.ret.n) ∧ w'.cell? ⟨w.heap.size + 1, 3, none⟩ = some (.slice z1 fn.locals.length zc1) ∧ w'.cell? ⟨w.heap.size + 1, 4, none⟩ = some (.slice (some ad2) fn.code.length zc2)
      ∧ w'.cell? (ad2.add (pc * 3)) = some (.int .i64 i.op) ∧ w'.cell? ⟨(ad2.add (pc * 3)).block, (ad2.add (pc * 3)).off + 1, none⟩ = some (.int .i64 i.a) ∧ w'.cell? ⟨(ad2.add (pc * 3)).block, (ad2.add (pc * 3)).off + 2, none⟩ = some (.int .i64 i.b))
    ((refine KS.out _ ?_; first | exact below_drew (Below.refl _ _) | exact hbw | exact hbw.alloc hbw.size _ | exact below_set2 hbw (Nat.le_refl _) _ _ | exact Below.alloc (by go_split_ands; assumption) (Below.size (by go_split_ands; assumption)) _ | (trace_state; fail)))
    ((first | (go_at_call 56; with_reducible refine (D.out _ (blt hBh.out (by go_split_ands; assumption))).mono ?_; intro e w1 hr; unfold RuleRet at hr; obtain ⟨hr, rfl, HR, hb1⟩ := hr; have hbw := blt (show Below w2.heap.size w2 _ by go_split_ands; assumption) hb1; obtain ⟨hc1, hf1, hz1⟩ := bcell hb1)))
  all_goals first
    | (have hq4 : w1.heap[w2.heap.size]? = some (.cells #[.slice none 0 0, .slice none 0 0] 95 (0, 0)) := (hb1.block _ (by simp)).trans (heap_alloc_new w2.drew _)
       have kg0 := (set2' hq4 (.slice hr.A0 (o.getD ⟨[], []⟩).inn.length hr.c0) (.slice hr.A1 (o.getD ⟨[], []⟩).out.length hr.c1)).1
       have kg1 := (set2' hq4 (.slice hr.A0 (o.getD ⟨[], []⟩).inn.length hr.c0) (.slice hr.A1 (o.getD ⟨[], []⟩).out.length hr.c1)).2
       have kb := below_set2 hbw (Nat.le_refl _) (.slice hr.A0 (o.getD ⟨[], []⟩).inn.length hr.c0) (.slice hr.A1 (o.getD ⟨[], []⟩).out.length hr.c1)
       have HR1 := Lib.hid (HR.out.far hq4 (.slice hr.A0 (o.getD ⟨[], []⟩).inn.length hr.c0) (.slice hr.A1 (o.getD ⟨[], []⟩).out.length hr.c1))
       clear hq4 HR hb1 hbw hc1 hf1 hz1
       generalize ((w1.setCell _ _).setCell _ _) = W at kg0 kg1 kb HR1 ⊢
       generalize w2.heap.size = g at kg0 kg1 ⊢)
    | (have kg0 : (w1.alloc (.cells #[.slice hr.A0 (o.getD ⟨[], []⟩).inn.length hr.c0, .slice hr.A1 (o.getD ⟨[], []⟩).out.length hr.c1] 95)).cell? ⟨w1.heap.size, 0, none⟩ = some (.slice hr.A0 (o.getD ⟨[], []⟩).inn.length hr.c0) := by go_simp
       have kg1 : (w1.alloc (.cells #[.slice hr.A0 (o.getD ⟨[], []⟩).inn.length hr.c0, .slice hr.A1 (o.getD ⟨[], []⟩).out.length hr.c1] 95)).cell? ⟨w1.heap.size, 1, none⟩ = some (.slice hr.A1 (o.getD ⟨[], []⟩).out.length hr.c1) := by go_simp
       have kb := hbw.alloc hbw.size (.cells #[.slice hr.A0 (o.getD ⟨[], []⟩).inn.length hr.c0, .slice hr.A1 (o.getD ⟨[], []⟩).out.length hr.c1] 95)
       have HR1 := Lib.hid (HR.out.below (bAl w1 (.cells #[.slice hr.A0 (o.getD ⟨[], []⟩).inn.length hr.c0, .slice hr.A1 (o.getD ⟨[], []⟩).out.length hr.c1] 95)))
       clear HR hb1 hbw hc1 hf1 hz1
       generalize (w1.alloc _) = W at kg0 kg1 kb HR1 ⊢
       generalize w1.heap.size = g at kg0 kg1 ⊢)
  all_goals
    have hg := World.block_lt_of_cell? _ _ kg0
    simp only at hg
    obtain ⟨_, k0, k1, k2, k3, k4, k5, k6, k7, k8, k9, k10, k11, k12⟩ := KS.out W kb
    have hW := Lib.hid (blt hBh.out kb)
    have HCW := Lib.hid (Kd.C_below HC.out hW.out)
    clear kb
    cases o with
    | none =>
      simp only [Option.getD_none, Option.isSome_none, List.length_nil] at kg0 kg1 HR1 ⊢
      have hRR := HR0.out
      simp only at hRR
      subst hRR
      have e1 : IntKind.i64.wrap ((st.length : Int) - ((0 : Nat) : Int)) = st.length := by rw [wrapi _ (by omega) (by omega)]; omega
      have e2 : IntKind.i64.wrap (st.length : Int) = st.length := wrapi _ (by omega) (by omega)
      go_wp2_with fail
      refine bodyPost_ret (by simp [results, Tryd.results33, go_sem]; rfl) rfl ?_
      exact ⟨none, 0, none, 0, rfl, Lib.hid (Kd.R_nil _ _ _ _ _), Lib.hid (Kd.R_nil _ _ _ _ _), hW.out⟩
    | some r =>
      simp only [Option.getD_some, Option.isSome_some] at kg0 kg1 HR1 ⊢
      have hRR := HR0.out
      simp only at hRR
      obtain ⟨hl1, hl2⟩ := HL.out r rfl
      by_cases hlt2 : st.length < r.inn.length
      · rw [if_pos (.inl hlt2)] at hRR
        subst hRR
        have e1 : IntKind.i64.wrap ((st.length : Int) - (r.inn.length : Int)) = (st.length : Int) - r.inn.length := wrapi _ (by omega) (by omega)
        have e2 : (st.length : Int) - r.inn.length < 0 := by omega
        go_wp2_with fail
        refine bodyPost_ret (by simp [results, Tryd.results33, go_sem]; rfl) rfl ?_
        exact ⟨none, 0, none, 0, rfl, Lib.hid (Kd.R_nil _ _ _ _ _), Lib.hid (Kd.R_nil _ _ _ _ _), hW.out⟩
      · obtain ⟨n, hn⟩ : ∃ n, st.length = n + r.inn.length := ⟨st.length - r.inn.length, by omega⟩
        have e1 : IntKind.i64.wrap ((st.length : Int) - (r.inn.length : Int)) = n := by rw [wrapi _ (by omega) (by omega)]; omega
        have e0 : (st.length : Int) - (r.inn.length : Int) = n := by omega
        have e2 : ¬ (n : Int) < 0 := by omega
        have e3 : IntKind.i64.wrap ((n : Int) + (r.out.length : Int)) = (n : Int) + (r.out.length : Int) := wrapi _ (by omega) (by omega)
        have e4 : st.length - r.inn.length = n := by omega
        rw [e4] at hRR
        by_cases hlt3 : 8 < n + r.out.length
        · rw [if_pos (.inr hlt3)] at hRR
          subst hRR
          have e5 : (8 : Int) < (n : Int) + (r.out.length : Int) := by omega
          go_wp2_with fail
          refine bodyPost_ret (by simp [results, Tryd.results33, go_sem]; rfl) rfl ?_
          exact ⟨none, 0, none, 0, rfl, Lib.hid (Kd.R_nil _ _ _ _ _), Lib.hid (Kd.R_nil _ _ _ _ _), hW.out⟩
        · rw [if_neg (by omega)] at hRR
          have HRR := Lib.hid hRR
          clear hRR HR0
          have e5 : ¬ (8 : Int) < (n : Int) + (r.out.length : Int) := by omega
          go_wp2_with fail
          obtain ⟨B0, d0, B1, d1⟩ := hr
          simp only at kg0 kg1 HR1 ⊢
          obtain ⟨wo, rfl⟩ : ∃ wo : World, wo = w := ⟨_, rfl⟩
          go_loopw [57] (fun v X => ∃ k : Nat, k ≤ r.inn.length ∧ v = .int .i64 k ∧ Hid ((List.range k).all (fun j => subTy (st.getD (n + j) default) (r.inn.getD j default)) = true) ∧ Below W.heap.size W X) (fun v _ => r.inn.length - (intOf v).toNat)
          case atStart => exact ⟨0, Nat.zero_le _, rfl, Lib.hid rfl, Below.refl _ _⟩
          case round =>
            obtain ⟨k, hk, rfl, HALL, hbW⟩ := hrel
            by_cases hltk : k < r.inn.length
            · obtain ⟨s, hs⟩ : ∃ s : Nat, s = n + k := ⟨_, rfl⟩
              obtain ⟨a1, x, hA, hx, u0, u1⟩ := at_Ty HR1.out.r0 k hltk
              simp only at hA
              subst hA
              obtain ⟨a2, y, rfl, hy, v0, v1⟩ := at_Ty HCW.out s (by omega)
              have u0' := pw_cell_below hbW u0
              have u1' := pw_cell_below hbW u1
              have v0' := fun o => pw_cell_below (hbW.alloc hbW.size o) v0
              have v1' := fun o => pw_cell_below (hbW.alloc hbW.size o) v1
              have HX := Lib.hid hx
              have HY := Lib.hid hy
              clear u0 u1 v0 v1 hx hy
              have hsl2 : s < st.length := by omega
              have HS := Lib.hid hs
              clear hs
              go_wp2_with fail
              have KS2 : ∀ X : World, Below (wr.alloc (.cells #[.int .i64 x.kind, .int .i64 x.n] 37)).heap.size (wr.alloc (.cells #[.int .i64 x.kind, .int .i64 x.n] 37)) X → (fun w' : World => w'.cell? (a2.add (s * 2)) = some (.int .i64 y.kind) ∧ w'.cell? ⟨(a2.add (s * 2)).block, (a2.add (s * 2)).off + 1, none⟩ = some (.int .i64 y.n) ∧ w'.cell? ⟨wr.heap.size, 0, none⟩ = some (.int .i64 x.kind) ∧ w'.cell? ⟨wr.heap.size, 1, none⟩ = some (.int .i64 x.n)) X := fun X hb =>
                ⟨pw_cell_below hb (v0' _), pw_cell_below hb (v1' _), pw_cell_below hb (by go_simp), pw_cell_below hb (by go_simp)⟩
              have KS2 := Lib.hid KS2
              have HB3 := Lib.hid (hbW.alloc hbW.size (.cells #[.int .i64 x.kind, .int .i64 x.n] 37))
              clear v0' v1' u0' u1'
              generalize (wr.alloc (.cells #[.int .i64 x.kind, .int .i64 x.n] 37)) = w3 at KS2 HB3 ⊢
              have hs := HS.out
              have f1 : IntKind.i64.wrap ((n : Int) + (k : Int)) = (s : Int) := by rw [wrapi _ (by omega) (by omega)]; omega
              have f4 : IntKind.i64.wrap (s : Int) = (s : Int) := wrapi _ (by omega) (by omega)
              have f5 : (0 : Int) ≤ (s : Int) := by omega
              have f6 : (s : Int) < (st.length : Int) := by omega
              have f7 : (s : Int) < (n : Int) + (r.inn.length : Int) := by omega
              clear hs
              go_region_held3 (fun w' => w'.cell? (a2.add (s * 2)) = some (.int .i64 y.kind) ∧ w'.cell? ⟨(a2.add (s * 2)).block, (a2.add (s * 2)).off + 1, none⟩ = some (.int .i64 y.n) ∧ w'.cell? ⟨wr.heap.size, 0, none⟩ = some (.int .i64 x.kind) ∧ w'.cell? ⟨wr.heap.size, 1, none⟩ = some (.int .i64 x.n))
                ((refine KS2.out _ ?_; first | exact below_drew (Below.refl _ _) | exact hb1 | (trace_state; fail)))
                ((first | (go_at_call 57; with_reducible refine (kindSub _ _ _ _ _).mono ?_; intro e w1 hr; obtain ⟨rfl, hb1⟩ := hr; have hb1 := blt (below_drew (Below.refl w3.heap.size w3)) hb1)))
              all_goals
                have hb4 := Lib.hid (blt HB3.out hb1)
                clear hb1
                have hsub : subTy ⟨y.kind, y.n⟩ ⟨x.kind, x.n⟩ = subTy (st.getD (n + k) default) (r.inn.getD k default) := by rw [← HS.out, getD_of HX.out, getD_of HY.out]
                have HSUB := Lib.hid hsub
                clear hsub
                generalize subTy ⟨y.kind, y.n⟩ ⟨x.kind, x.n⟩ = b at HSUB ⊢
                cases b with
                | false =>
                  have hRR := HRR.out
                  rw [if_neg (all_fail _ _ k hltk HSUB.out.symm)] at hRR
                  subst hRR
                  go_wp2_with fail
                  refine bodyPost_ret (by simp [results, Tryd.results33, go_sem]; rfl) rfl ?_
                  exact ⟨none, 0, none, 0, rfl, Lib.hid (Kd.R_nil _ _ _ _ _), Lib.hid (Kd.R_nil _ _ _ _ _), blt hW.out hb4.out⟩
                | true =>
                  go_wp2_with fail
                  go_roundw
                  case rel => exact ⟨k + 1, by omega, by go_num, Lib.hid (all_succ _ k HALL.out HSUB.out.symm), hb4.out⟩
                  case measure => simp [intOf]; omega
            · obtain rfl : k = r.inn.length := by omega
              have hRR := HRR.out
              rw [if_pos HALL.out] at hRR
              have HRR2 := Lib.hid hRR
              clear hRR
              have l9 := pw_cell_below hbW k9
              have l10 := pw_cell_below hbW k10
              have l11 := pw_cell_below hbW k11
              have l12 := pw_cell_below hbW k12
              have lg1 := pw_cell_below hbW kg1
              have HR3 := Lib.hid (HR1.out.below hbW)
              have hW3 := Lib.hid (blt hW.out hbW)
              clear hbW k0 k1 k2 k3 k4 k5 k6 k7 k8 k9 k10 k11 k12 kg0 kg1 KS HR1 hW
              go_wp2_with fail
              refine (flowNext i.op i.a i.b pc wr (by omega) (by omega)).mono ?_
              rintro e w4 ⟨T, ct, rfl, HT, hb4⟩
              have HTX := Lib.hid (Kd.R_reads HT.out)
              have m9 := pw_cell_below hb4 l9
              have mg1 := pw_cell_below hb4 lg1
              go_wp2_with fail
              have B5 := Lib.hid (fun n => pw_below_drewN (Below.refl w4.heap.size w4) n)
              have hnl : (nextI i.op i.a pc).length ≤ 2 := by unfold nextI; (repeat' split) <;> simp
              generalize nextI i.op i.a pc = L at HT HTX HRR2 hnl ⊢
              cases L with
              | nil =>
                simp only [List.length_nil] at HT HTX ⊢
                go_quiet (fail)
                go_wp2_with fail
                have hb5 := blt (pw_below_drewN (Below.refl w4.heap.size w4) nq) (Below.refl _ _)
                have HT5 := Lib.hid (Kd.R_below HT.out hb5)
                have n1 := pw_cell_below hb5 mg1
                have HST := Lib.hid (C_take (Kd.C_below HC.out (blt hW3.out (blt hb4 hb5))) n (by omega))
                have HO5 := Lib.hid (HR3.out.below (blt hb4 hb5))
                have hB5 := Lib.hid (blt hW3.out (blt hb4 hb5))
                have hlt5 : (st.take n).length = n := by rw [List.length_take]; omega
                have hnc : (n : Int) ≤ (c : Int) := by omega
                generalize w4.drewN nq = w5 at *
                go_region_held3 (fun w' => w'.cell? ⟨g, 1, none⟩ = some (.slice B1 r.out.length d1))
                  ((first | go_keep | exact pw_cell_below (below_drew (Below.refl _ _)) n1 | exact pw_cell_below (below_alloc (below_drew (Below.refl _ _)) _) n1 | exact pw_cell_below hbC n1 | (trace_state; fail)))
                  ((first
                    | (go_at_call 60; refine (slicesConcat2 _ _ (st.take n) r.out _ ?hC ?hl).mono ?_; (case hC => exact kTys_two' _ _ A B1 n c r.out.length d1 _ _ 29 (0, 0) (Kd.C_below HST.out (below_drew (bAl w5 _))) (by omega) (Kd.C_below HO5.out.r1 (below_drew (bAl w5 _))) HO5.out.l1 (heap_alloc_new w5 _)); (case hl => rw [hlt5]; omega); intro e w6 hr; unfold TysRet at hr; obtain ⟨Az, cz, rfl, HO, hb6⟩ := hr; have HOc := Lib.hid (show n + r.out.length ≤ cz by have := ot_le HO.out; rw [List.length_append, hlt5] at this; exact this); have hbC := blt (below_alloc (below_drew (Below.refl w5.heap.size w5)) _) hb6)
                    | (go_at_call 59; with_reducible refine (slicesClip _ _ _ _ HOc.out).mono ?_; intro e w7 hr; obtain ⟨rfl, rfl⟩ := hr)))
                go_wp2_with fail
                have hRR := HRR2.out
                simp only [Bool.false_eq_true, if_false] at hRR
                subst hRR
                refine bodyPost_ret (by simp [results, Tryd.results33, go_sem]; rfl) rfl ?_
                have hsz := hB5.out.size
                have hsz3 := hW3.out.size
                exact ⟨Az, cz, T, ct, by simp [List.length_append, hlt5], Lib.hid (Kd.R_lower (Kd.R_below HO.out (Below.refl _ _)) (by simp; omega)), Lib.hid (Kd.R_lower (Kd.R_below HT5.out hbC) hsz3), blt hB5.out hbC⟩
              | cons t0 L =>
                obtain ⟨Tx, cx, eT, lT, hCT⟩ := HTX.out
                injection eT with eT1 eT2 eT3
                subst eT1
                subst eT3
                obtain ⟨tb, eb, hcell⟩ := hCT.2.2 (by simp)
                subst eb
                obtain ⟨cs, _, hcs, hcc⟩ := hcell 0 t0 rfl
                subst hcs
                have t00 := hcc 0 _ rfl
                have t01 : w4.cell? tb = some (.int .i64 t0) := by
                  have : tb.add (0 * (Kd.int .i64).sz + 0) = tb := by simp [Addr.add]; try (rcases tb with ⟨b, o, _ | s⟩ <;> simp)
                  rw [this] at t00; exact t00
                clear t00 hcell hCT hcc
                have hpos : (0 : Int) < ((t0 :: L).length : Nat) := by simp
                simp only [List.length_cons] at hpos HT lT hnl ⊢
                by_cases hlc : (fn.code.length : Int) ≤ t0
                · go_quiet (fail)
                  go_wp2_with fail
                  have hRR := HRR2.out
                  simp only [decide_eq_true_eq, hlc, if_true] at hRR
                  subst hRR
                  refine bodyPost_ret (by simp [results, Tryd.results33, go_sem]; rfl) rfl ?_
                  exact ⟨none, 0, none, 0, rfl, Lib.hid (Kd.R_nil _ _ _ _ _), Lib.hid (Kd.R_nil _ _ _ _ _), blt hW3.out (pw_below_drewN hb4 _)⟩
                · go_quiet (fail)
                  go_wp2_with fail
                  have hb5 := blt (pw_below_drewN (Below.refl w4.heap.size w4) nq) (Below.refl _ _)
                  have HT5 := Lib.hid (Kd.R_below HT.out hb5)
                  have n1 := pw_cell_below hb5 mg1
                  have HST := Lib.hid (C_take (Kd.C_below HC.out (blt hW3.out (blt hb4 hb5))) n (by omega))
                  have HO5 := Lib.hid (HR3.out.below (blt hb4 hb5))
                  have hB5 := Lib.hid (blt hW3.out (blt hb4 hb5))
                  have hlt5 : (st.take n).length = n := by rw [List.length_take]; omega
                  have hnc : (n : Int) ≤ (c : Int) := by omega
                  generalize w4.drewN nq = w5 at *
                  go_region_held3 (fun w' => w'.cell? ⟨g, 1, none⟩ = some (.slice B1 r.out.length d1))
                    ((first | go_keep | exact pw_cell_below (below_drew (Below.refl _ _)) n1 | exact pw_cell_below (below_alloc (below_drew (Below.refl _ _)) _) n1 | exact pw_cell_below hbC n1 | (trace_state; fail)))
                    ((first
                      | (go_at_call 60; refine (slicesConcat2 _ _ (st.take n) r.out _ ?hC ?hl).mono ?_; (case hC => exact kTys_two' _ _ A B1 n c r.out.length d1 _ _ 29 (0, 0) (Kd.C_below HST.out (below_drew (bAl w5 _))) (by omega) (Kd.C_below HO5.out.r1 (below_drew (bAl w5 _))) HO5.out.l1 (heap_alloc_new w5 _)); (case hl => rw [hlt5]; omega); intro e w6 hr; unfold TysRet at hr; obtain ⟨Az, cz, rfl, HO, hb6⟩ := hr; have HOc := Lib.hid (show n + r.out.length ≤ cz by have := ot_le HO.out; rw [List.length_append, hlt5] at this; exact this); have hbC := blt (below_alloc (below_drew (Below.refl w5.heap.size w5)) _) hb6)
                      | (go_at_call 59; with_reducible refine (slicesClip _ _ _ _ HOc.out).mono ?_; intro e w7 hr; obtain ⟨rfl, rfl⟩ := hr)))
                  go_wp2_with fail
                  have hRR := HRR2.out
                  have hlc' : ¬ (fn.code.length : Int) ≤ t0 := by omega
                  simp only [hlc', decide_false, Bool.false_eq_true, if_false] at hRR
                  subst hRR
                  refine bodyPost_ret (by simp [results, Tryd.results33, go_sem]; rfl) rfl ?_
                  have hsz := hB5.out.size
                  have hsz3 := hW3.out.size
                  exact ⟨Az, cz, some tb, ct, by simp [List.length_append, hlt5], Lib.hid (Kd.R_lower (Kd.R_below HO.out (Below.refl _ _)) (by simp; omega)), Lib.hid (Kd.R_lower (Kd.R_below HT5.out hbC) hsz3), blt hB5.out hbC⟩
end Go.Proofs.YtgcokdcdpdndjaaDoor
