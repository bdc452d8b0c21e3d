/- flow.Flow. -/
import Derived.Test.YtgcokdcdpdndjaaDoorStep
namespace Go.Proofs.YtgcokdcdpdndjaaDoor
open Go.RowKit Go.Proofs.YtgcokdcdpdndjaaDoorW.PrintWords
set_option linter.unusedVariables false
set_option linter.unusedSimpArgs false

structure Known (m : Mod) (fn : Fn) (i : Ins) : Prop where
  hal : fn.args.length ≤ 8
  hll : fn.locals.length ≤ 8
  hcl : fn.code.length ≤ 100
  h0 : 0 ≤ i.op
  h1 : i.op < 42
  ha : 0 ≤ i.a
  hb : 0 ≤ i.b
  hn : namesOk m fn i = true
theorem sane_fit {m : Mod} (hs : sane m = 0) : fitMod m = true ∧ m.funcs.any (badFn m) = false ∧ m.imports.any badHost = false := by
  unfold sane at hs
  split at hs
  · simp at hs
  · split at hs
    · simp at hs
    · split at hs
      · simp at hs
      · simp_all
theorem sane_known {m : Mod} {fn : Fn} {i : Ins} (hs : sane m = 0) (hf : fn ∈ m.funcs) (hi : i ∈ fn.code) : Known m fn i := by
  obtain ⟨h1, h2, _⟩ := sane_fit hs
  have hF := (fitMod_sm h1).funcs fn hf
  have hfit := fitMod_fn h1 fn hf
  obtain ⟨a1, a2, a3, a4, a5, a6⟩ := fitFn_a hfit i hi
  have hb : badFn m fn = false := by
    have := List.any_eq_false.1 h2 fn hf
    simpa using this
  refine ⟨hF.1.1, hF.2.2.1.1, hF.2.2.2, a5, a6, a1, a3, ?_⟩
  simp only [badFn, Bool.or_eq_false_iff] at hb
  have := List.any_eq_false.1 hb.1 i hi
  simpa using this
theorem getD_len {α : Type} {l : List α} {k : Nat} (f : α → Nat) (d : α) (B : Nat) (h : ∀ x ∈ l, f x ≤ B) (hd : f d ≤ B) : f ((l[k]?).getD d) ≤ B := by
  cases e : l[k]? with
  | none => simpa using hd
  | some x => simpa using h x (List.mem_of_getElem? e)
theorem ite_some {c : Prop} [Decidable c] {a b : Option Rul} {r : Rul} {P : Rul → Prop} (h : (if c then a else b) = some r) (ha : a = some r → P r) (hb : b = some r → P r) : P r := by
  by_cases hc : c
  · rw [if_pos hc] at h; exact ha h
  · rw [if_neg hc] at h; exact hb h
theorem plainR_len {op : Int} {r : Rul} (h : plainR op = some r) : r.inn.length ≤ 8 ∧ r.out.length ≤ 8 := by
  unfold plainR at h
  revert h
  repeat (intro h; refine ite_some (P := fun r => r.inn.length ≤ 8 ∧ r.out.length ≤ 8) h (fun h => by injection h with h; subst h; simp) ?_; clear h)
  intro h
  cases h
theorem ofR_len {m : Mod} {fn : Fn} {i : Ins} {st : List Ty} {r : Rul} (hs : sane m = 0) (h : ofR m fn i st = some r) : r.inn.length ≤ 8 ∧ r.out.length ≤ 8 := by
  have hm := fitMod_sm (sane_fit hs).1
  unfold ofR at h
  split at h
  · unfold freeR at h
    split at h
    · cases h
    · split at h
      · cases h; simp
      · split at h
        · split at h
          · cases h
          · cases h; simp
        · split at h
          · split at h
            · cases h; simp
            · cases h
          · cases h
  · injection h with h
    cases hp : plainR i.op with
    | some q =>
      rw [hp] at h
      simp only [Option.getD_some] at h
      subst h
      exact plainR_len hp
    | none =>
      rw [hp] at h
      simp only [Option.getD_none] at h
      subst h
      have e1 : ∀ a : Int, (rec0 m a).length ≤ 8 := fun a => getD_len List.length [] 8 (fun l hl => (hm.recs l hl).1) (by simp)
      have e2 := getD_len (l := m.funcs) (k := i.a.toNat) (fun f => f.args.length) default 8 (fun f hf => (hm.funcs f hf).1.1) (by simp [default, instInhabitedFn.default])
      have e3 := getD_len (l := m.imports) (k := i.a.toNat) (fun f => f.args.length) default 8 (fun f hf => (hm.imports f hf).1.1) (by simp [default, instInhabitedImp.default])
      unfold named
      repeat' split
      all_goals (first | exact ⟨e2, by simp⟩ | exact ⟨e3, by simp⟩ | exact ⟨e1 _, by simp⟩ | simp)
/-- flow.Flow's answer -/
def flowR (m : Mod) (f pc : Int) (st : List Ty) : Int × List Ty × List Int :=
  if sane m = 0 ∧ 0 ≤ f ∧ 0 ≤ pc then
    (match m.funcs[f.toNat]? with
     | none => (1, [], [])
     | some fn => match fn.code[pc.toNat]? with
       | none => (1, [], [])
       | some i => stepR m fn i pc.toNat st)
  else (1, [], [])
theorem step_ret1 {w W : World} (hb : Below w.heap.size w W) : StepRet w (1, [], []) (.returned (.tuple #[.slice none 0 0, .slice none 0 0, .int .i64 1])) W :=
  ⟨none, 0, none, 0, rfl, Lib.hid (Kd.R_nil _ _ _ _ _), Lib.hid (Kd.R_nil _ _ _ _ _), hb⟩
theorem StepRet.lower {w w1 : World} {r : Int × List Ty × List Int} {e : Ending} {W : World} (h : StepRet w1 r e W) (hb : Below w.heap.size w w1) : StepRet w r e W := by
  obtain ⟨A, c, B, d, h1, h2, h3, h4⟩ := h
  exact ⟨A, c, B, d, h1, Lib.hid (Kd.R_lower h2.out hb.size), Lib.hid (Kd.R_lower h3.out hb.size), blt hb h4⟩
set_option maxHeartbeats 3200000 in
theorem flowFlow (m : Mod) (h : ModH) (f pc : Int) (A : Option Addr) (c : Nat) (st : List Ty) (w : World) (hgl : Gl w) (hm : ModAt w m h) (hok : ModOk m) (hC : kTy.C w A st.length st) (hsl : st.length ≤ 1000) (hsc : st.length ≤ c) :
    Calls Tryd.prog 15 #[m.v h, .int .i64 f, .int .i64 pc, .slice A st.length c] w (StepRet w (flowR m f pc st)) := by
  have HM := Lib.hid hm
  have HG := Lib.hid hgl
  have HC := Lib.hid hC
  have hl1 := C_len hm.r1
  generalize hR : flowR m f pc st = R
  have HR := Lib.hid hR
  clear hR hm hgl hC
  have HS := Lib.hid (fun (W : World) (hb : Below w.heap.size w W) => saneCheck m h W (HM.out.below hb) hok)
  have HT := Lib.hid (fun (f : Nat) (fn : Fn) (i : Ins) (pc : Nat) (W : World) (hb : Below w.heap.size w W) (hs : sane m = 0) (hf : m.funcs[f]? = some fn) (hi : fn.code[pc]? = some i) =>
    have K := sane_known hs (List.mem_of_getElem? hf) (List.mem_of_getElem? hi)
    flowStep m h f fn i pc A c st W (HG.out.below hb) (HM.out.below hb) hf hi (Nat.le_trans K.hal (by omega)) (Nat.le_trans K.hll (by omega)) (Nat.le_trans K.hcl (by omega)) (Kd.C_below HC.out hb) hsl hsc K.h0 K.h1 K.ha K.hb K.hn (fun r hr => ⟨Nat.le_trans (ofR_len hs hr).1 (by omega), Nat.le_trans (ofR_len hs hr).2 (by omega)⟩))
  obtain ⟨q0, cc0, q1, cc1, q2, cc2, q3, cc3, q4, cc4⟩ := h
  unfold Mod.v at *
  simp only at *
  go_enter Tryd.func15, Tryd.ntmps15
  go_wp2_with fail
  refine (HS.out _ (bAl _ _)).mono ?_
  rintro e w1 ⟨rfl, hb1⟩
  obtain ⟨hc1, hf1, _⟩ := bcell hb1
  have hz1 : w.heap.size < w1.heap.size := by have := hb1.size; simp at this; omega
  have B1 := Lib.hid (blt (bAl _ _) hb1)
  generalize hs : sane m = s
  have HS0 := Lib.hid hs
  clear hs
  by_cases h0 : s = 0
  rotate_left
  · have hs' := HS0.out
    have e1 : R = (1, [], []) := by rw [← HR.out]; unfold flowR; rw [if_neg (by rw [hs']; exact fun h => h0 h.1)]
    subst e1
    go_wp2_with fail
    refine bodyPost_ret (by simp [results, Tryd.results15, go_sem]; rfl) rfl ?_
    exact step_ret1 B1.out
  subst h0
  by_cases hf0 : f < 0
  · have e1 : R = (1, [], []) := by rw [← HR.out]; unfold flowR; rw [if_neg (fun h => by omega)]
    subst e1
    go_wp2_with fail
    refine bodyPost_ret (by simp [results, Tryd.results15, go_sem]; rfl) rfl ?_
    exact step_ret1 B1.out
  obtain ⟨fk, rfl⟩ : ∃ k : Nat, f = k := ⟨f.toNat, by omega⟩
  by_cases hf1' : (fk : Int) < m.funcs.length
  rotate_left
  · have e1 : R = (1, [], []) := by
      rw [← HR.out]; unfold flowR
      split
      · rw [Int.toNat_natCast, List.getElem?_eq_none (by omega)]
      · rfl
    subst e1
    go_wp2_with fail
    refine bodyPost_ret (by simp [results, Tryd.results15, go_sem]; rfl) rfl ?_
    exact step_ret1 B1.out
  by_cases hp0 : pc < 0
  · have e1 : R = (1, [], []) := by rw [← HR.out]; unfold flowR; rw [if_neg (fun h => by omega)]
    subst e1
    go_wp2_with fail
    refine bodyPost_ret (by simp [results, Tryd.results15, go_sem]; rfl) rfl ?_
    exact step_ret1 B1.out
  obtain ⟨pk, rfl⟩ : ∃ k : Nat, pc = k := ⟨pc.toNat, by omega⟩
  obtain ⟨ad, fn, hg, hA1, hx, hF, -, -, -, -, hy4⟩ := at_Fn (HM.out.below B1.out).r1 fk (by omega)
  simp only at hA1
  subst hA1
  have hl4 := C_len hF.r2
  have HX := Lib.hid hx
  clear hx hF
  by_cases hp1 : (pk : Int) < fn.code.length
  rotate_left
  · have e1 : R = (1, [], []) := by
      have hx := HX.out
      rw [← HR.out]; unfold flowR
      split
      · rw [Int.toNat_natCast, Int.toNat_natCast, hx]
        simp only
        rw [List.getElem?_eq_none (by omega)]
      · rfl
    subst e1
    go_wp2_with fail
    refine bodyPost_ret (by simp [results, Tryd.results15, go_sem]; rfl) rfl ?_
    exact step_ret1 B1.out
  obtain ⟨i, hi⟩ : ∃ i, fn.code[pk]? = some i := ⟨_, List.getElem?_eq_getElem (by omega)⟩
  have HI := Lib.hid hi
  clear hi
  go_wp2_with fail
  refine (HT.out fk fn i pk _ B1.out HS0.out HX.out HI.out).mono ?_
  rintro e w2 hr
  have e1 : R = stepR m fn i pk st := by
    have hx := HX.out
    have hi := HI.out
    rw [← HR.out]; unfold flowR
    rw [if_pos ⟨HS0.out, by omega, by omega⟩, Int.toNat_natCast, Int.toNat_natCast, hx]
    simp only
    rw [hi]
  subst e1
  obtain ⟨Az, cz, Bz, dz, rfl, HO1, HO2, hb2⟩ := hr
  generalize stepR m fn i pk st = R at *
  go_wp2_with fail
  refine bodyPost_ret (by simp [results, Tryd.results15, go_sem]; rfl) rfl ?_
  exact ⟨Az, cz, Bz, dz, rfl, Lib.hid (Kd.R_lower HO1.out B1.out.size), Lib.hid (Kd.R_lower HO2.out B1.out.size), blt B1.out hb2⟩
end Go.Proofs.YtgcokdcdpdndjaaDoor
