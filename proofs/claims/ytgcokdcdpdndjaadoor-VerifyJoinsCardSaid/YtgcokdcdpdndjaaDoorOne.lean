/- verify.checker.one. -/
import Derived.Test.YtgcokdcdpdndjaaDoorMeet
import Derived.Deep.Slices
namespace Go.Proofs.YtgcokdcdpdndjaaDoor
open Go.RowKit Go.Proofs.YtgcokdcdpdndjaaDoorW.PrintWords
set_option linter.unusedVariables false
set_option linter.unusedSimpArgs false

theorem meets_app {a : List Ty} : ∀ (l1 l2 : List Nat) (X : List Shp), meets a (l1 ++ l2) X = (match meets a l1 X with | none => none | some (X1, t1) => match meets a l2 X1 with | none => none | some (X2, t2) => some (X2, t1 ++ t2))
  | [], l2, X => by
    simp only [List.nil_append, meets]
    cases meets a l2 X with
    | none => rfl
    | some z => rfl
  | q :: l1, l2, X => by
    simp only [List.cons_append, meets]
    cases meetR X q a with
    | none => rfl
    | some z =>
      obtain ⟨X1, b⟩ := z
      simp only [meets_app l1 l2 X1]
      cases meets a l1 X1 with
      | none => rfl
      | some z =>
        obtain ⟨X2, t2⟩ := z
        simp only
        cases meets a l2 X2 with
        | none => rfl
        | some z => cases b <;> rfl
theorem meets_one {a : List Ty} (q : Nat) (X : List Shp) : meets a [q] X = (match meetR X q a with | none => none | some (X1, b) => some (X1, if b = true then [q] else [])) := by
  simp only [meets]
  cases meetR X q a with
  | none => rfl
  | some z => rfl
def stkB (X : List Shp) : Prop := ∀ s ∈ X, s.stack.length ≤ 8
theorem stkB_set {X : List Shp} (h : stkB X) (q : Nat) {s : Shp} (hs : s.stack.length ≤ 8) : stkB (X.set q s) := fun x hx => by
  rcases List.mem_or_eq_of_mem_set hx with hx | rfl
  · exact h x hx
  · exact hs
theorem meet_stk {X X' : List Shp} {q : Nat} {a : List Ty} {b : Bool} (hX : stkB X) (ha : a.length ≤ 8) (h : meetR X q a = some (X', b)) : stkB X' := by
  unfold meetR at h
  split at h
  · cases h
  · rename_i s hs
    have hm := hX s (List.mem_of_getElem? hs)
    split at h
    · split at h
      · rename_i hl
        split at h
        · injection h with h; injection h with h _; rw [← h]; exact hX
        · injection h with h; injection h with h _; rw [← h]; exact stkB_set hX q (by simp only [joinL_len hl]; exact hm)
      · cases h
    · injection h with h; injection h with h _; rw [← h]; exact stkB_set hX q ha
theorem meets_stk {a : List Ty} (ha : a.length ≤ 8) : ∀ {qs : List Nat} {X X' : List Shp} {t : List Nat}, stkB X → meets a qs X = some (X', t) → stkB X'
  | [], X, X', t, hX, h => by simp only [meets, Option.some.injEq, Prod.mk.injEq] at h; rw [← h.1]; exact hX
  | q :: qs, X, X', t, hX, h => by
    simp only [meets] at h
    split at h
    · cases h
    · rename_i X1 b h1
      split at h
      · cases h
      · rename_i X2 t2 h2
        injection h with h; injection h with h _
        subst h
        exact meets_stk ha (meet_stk hX ha h1) h2
theorem meets_tlen {a : List Ty} : ∀ {qs : List Nat} {X X' : List Shp} {t : List Nat}, meets a qs X = some (X', t) → t.length ≤ qs.length
  | [], X, X', t, h => by simp only [meets, Option.some.injEq, Prod.mk.injEq] at h; rw [← h.2]; simp
  | q :: qs, X, X', t, h => by
    simp only [meets] at h
    split at h
    · cases h
    · rename_i X1 b h1
      split at h
      · cases h
      · rename_i X2 t2 h2
        injection h with h; injection h with _ h
        have := meets_tlen h2
        cases b <;> simp at h <;> subst h <;> simp <;> omega
/-- one instruction of the list: the shapes behind it, and what is to be done -/
def oneR (m : Mod) (fn : Fn) (X : List Shp) (pc : Nat) : Option (List Shp × List Nat) := match stepN m fn pc (X.getD pc default).stack with | none => none | some r => meets r.1 r.2 X
def OneRet (w0 : World) (base gc gS : Nat) (q0 q1 q2 q3 q4 : Value) (f : Nat) (todo : List Nat) (pc : Nat) (r : Option (List Shp × List Nat)) (e : Ending) (W : World) : Prop :=
  match r with
  | none => e = .returned (.tuple #[.int .i64 pc, .int .i64 4]) ∧ Below base w0 W
  | some (X', t) => ∃ L' vT', e = .returned (.tuple #[.int .i64 0, .int .i64 0]) ∧ Hid (CS w0 W base gc gS q0 q1 q2 q3 q4 f X' L' (todo ++ t) (fun _ => False) vT')
theorem oi_move {W W' : World} {base : Nat} {v : Value} {S : List Int} (h : OI W base v S) (hm : ∀ k, v.ownBlock = some k → W'.heap[k]? = W.heap[k]?) : OI W' base v S := by
  obtain ⟨h0, inner, ho, hr⟩ := h
  exact ⟨h0, inner, own_move ho hm, hr⟩
/-- a prefix that fails fails the whole -/
theorem meets_pre {a : List Ty} {qs : List Nat} {X X1 : List Shp} {t : List Nat} {k q : Nat} (h : meets a (qs.take k) X = some (X1, t)) (hq : qs[k]? = some q) :
    meets a (qs.take (k + 1)) X = (match meetR X1 q a with | none => none | some (X2, b) => some (X2, t ++ if b = true then [q] else [])) := by
  rw [List.take_add_one, hq, Option.toList_some, meets_app, h]
  simp only
  rw [meets_one]
  cases meetR X1 q a with
  | none => rfl
  | some z => rfl
theorem meets_stop {a : List Ty} {qs : List Nat} {X : List Shp} {k : Nat} (h : meets a (qs.take k) X = none) : meets a qs X = none := by
  rw [← List.take_append_drop k qs, meets_app, h]
theorem todo_first {w : World} {base : Nat} {T : Option Addr} {n c : Nat} {pc : Nat} {todo : List Nat} (h : QI w base (.slice T n c) (ints (pc :: todo))) : ∃ tb, T = some tb ∧ w.cell? tb = some (.int .i64 pc) := by
  obtain ⟨hn, _, hC⟩ := Kd.Q_reads' h
  obtain ⟨tb, eb, hcell⟩ := hC.2.2 (by simp [ints])
  obtain ⟨cs, _, hcs, hcc⟩ := hcell 0 (pc : Int) rfl
  subst hcs
  have t00 := hcc 0 _ rfl
  refine ⟨tb, eb, ?_⟩
  have : tb.add (0 * (Kd.int .i64).sz + 0) = tb := by simp [Addr.add]; try (rcases tb with ⟨b, o, _ | s⟩ <;> simp)
  rw [this] at t00; exact t00
set_option maxRecDepth 100000 in
set_option maxHeartbeats 6400000 in
theorem verifyOne (m : Mod) (h : ModH) (fn : Fn) {w0 : World} {gc gS : Nat} {q0 q1 q2 q3 q4 : Value} {f : Nat} {X : List Shp} {L : List (Option Addr × Nat)} {todo : List Nat} {vT : Value} (pc : Nat) (w : World) (hgl : Gl w0) (hm : ModAt w0 m h) (hv : m.v h = .agg #[q0, q1, q2, q3, q4]) (hs : sane m = 0) (hf : m.funcs[f]? = some fn)
    (hM : CS w0 w w0.heap.size gc gS q0 q1 q2 q3 q4 f X L (pc :: todo) (fun _ => False) vT) (hX : X.length = fn.code.length) (hpc : pc < X.length) (ht : todo.length ≤ 50000) (hS : stkB X) :
    Calls Tryd.prog 65 #[.pointer (some ⟨gc, 0, none⟩)] w (OneRet w0 w0.heap.size gc gS q0 q1 q2 q3 q4 f todo pc (oneR m fn X pc)) := by
  obtain ⟨i, hi⟩ : ∃ i, fn.code[pc]? = some i := ⟨_, List.getElem?_eq_getElem (by omega)⟩
  have K := sane_known hs (List.mem_of_getElem? hf) (List.mem_of_getElem? hi)
  obtain ⟨s, hsx⟩ : ∃ s, X[pc]? = some s := ⟨_, List.getElem?_eq_getElem hpc⟩
  have hsl := hS s (List.mem_of_getElem? hsx)
  obtain ⟨pA, pk, hL, hrow⟩ := hM.row hsx
  have D := Lib.hid (fun (W : World) (hb : Below w0.heap.size w0 W) (hC : kTy.C W pA s.stack.length s.stack) =>
    hv ▸ flowStep m h f fn i pc pA s.stack.length s.stack W (hgl.below hb) (hm.below hb) hf hi (Nat.le_trans K.hal (by omega)) (Nat.le_trans K.hll (by omega)) (Nat.le_trans K.hcl (by omega)) hC (by omega) (Nat.le_refl _) K.h0 K.h1 K.ha K.hb K.hn (fun r hr => ⟨Nat.le_trans (ofR_len hs hr).1 (by omega), Nat.le_trans (ofR_len hs hr).2 (by omega)⟩))
  have hsX : (X.getD pc default).stack = s.stack := by rw [List.getD_eq_getElem?_getD, hsx]; rfl
  have hin := stepN_in hs (List.mem_of_getElem? hf) pc s.stack
  have hsn : stepN m fn pc s.stack = if (stepR m fn i pc s.stack).1 = 0 then some ((stepR m fn i pc s.stack).2.1, (stepR m fn i pc s.stack).2.2.map Int.toNat) else none := by unfold stepN; rw [hi]
  generalize hR : oneR m fn X pc = R
  have HR := Lib.hid hR
  have h8 : (stepR m fn i pc s.stack).1 = 0 → (stepR m fn i pc s.stack).2.1.length ≤ 8 ∧ (stepR m fn i pc s.stack).2.2.length ≤ 2 ∧ ∀ t ∈ (stepR m fn i pc s.stack).2.2, 0 ≤ t := fun h0 => by
    obtain ⟨r, h1, h2, h3, h4, h5, e⟩ := stepR_ok h0
    rw [e]
    refine ⟨by simp only [List.length_append, List.length_take]; omega, ?_, fun t htm => next_nonneg K.ha htm⟩
    unfold nextI; (repeat' split) <;> simp
  generalize stepR m fn i pc s.stack = r at D hsn h8
  have HSN := Lib.hid hsn
  have H8 := Lib.hid h8
  have HIN := Lib.hid hin
  have HSX := Lib.hid hsX
  obtain ⟨T, cT, rfl, hcT⟩ := Kd.Q_slice hM.td
  have hnT : (ints (pc :: todo)).length = todo.length + 1 := by simp [ints]
  rw [hnT] at hM hcT
  obtain ⟨tb, rfl, t0⟩ := todo_first hM.td
  have hdrop := Kd.Q_drop (k := 1) hM.td (by rw [hnT]; omega)
  obtain ⟨m0, m1, m2, m3, m4, m5, m6, m7, mf⟩ := hM.cells
  obtain ⟨s0, s1, sf⟩ := hM.ss.cell hsx hL
  have HM := Lib.hid hM
  have HROW := Lib.hid hrow
  have HDROP := Lib.hid hdrop
  have HSS := Lib.hid hS
  have HXS := Lib.hid hsx
  have HCLN := Lib.hid K.hcl
  have HL := Lib.hid hL
  clear hM hrow hdrop hR hsn h8 hin hsX hgl hm hv hs hf hL hsx hS hi K
  have hpcI : (pc : Int) < (X.length : Int) := by omega
  have hpcJ : (pc : Int) < (fn.code.length : Int) := by omega
  go_enter Tryd.func65, Tryd.ntmps65
  go_upto_region 3 with fail
  obtain ⟨v2, hv2⟩ : ∃ v, v = Value.slice (if cT = 1 then some tb else some ⟨tb.block, tb.off + 1, none⟩) todo.length (cT - 1) := ⟨_, rfl⟩
  have hq2 : QI w w0.heap.size v2 (ints todo) := by
    rw [hv2]
    have := HDROP.out
    have e : (ints (pc :: todo)).drop 1 = ints todo := by simp [ints]
    rw [e] at this
    exact this
  have hM2 := HM.out.setT (w2 := w) hq2 HM.out.fr (World.grownBy.refl _ _) (fun _ _ h => h)
  rw [← hv2]
  clear m0 m1 m2 m3 m4 m5 m6 m7 mf s0 s1 sf hq2 hv2 t0
  clear HM HROW HDROP
  generalize w.setCell ⟨gc, 7, none⟩ v2 = W2 at hM2 ⊢
  obtain ⟨m0, m1, m2, m3, m4, m5, m6, m7, mf⟩ := hM2.cells
  obtain ⟨s0, s1, sf⟩ := hM2.ss.cell HXS.out HL.out
  have hrow := hM2.ss.row pc s _ HXS.out HL.out
  have KS : ∀ W : World, Below W2.heap.size W2 W → (fun w' : World => Below W2.heap.size W2 w' ∧ w'.cell? ⟨gc, 0, none⟩ = some q0 ∧ w'.cell? ⟨gc, 1, none⟩ = some q1 ∧ w'.cell? ⟨gc, 2, none⟩ = some q2 ∧ w'.cell? ⟨gc, 3, none⟩ = some q3 ∧ w'.cell? ⟨gc, 4, none⟩ = some q4 ∧ w'.cell? ⟨gc, 5, none⟩ = some (.int .i64 f) ∧ w'.cell? ⟨gc, 6, none⟩ = some (.slice (some ⟨gS, 0, none⟩) X.length X.length) ∧ w'.cell? ⟨gS, pc * 2 + 1, none⟩ = some (.slice pA s.stack.length s.stack.length)) W := fun W hb => ⟨hb, pw_cell_below hb m0, pw_cell_below hb m1, pw_cell_below hb m2, pw_cell_below hb m3, pw_cell_below hb m4, pw_cell_below hb m5, pw_cell_below hb m6, pw_cell_below hb s1⟩
  have KS := Lib.hid KS
  have HCS := Lib.hid (Kd.R_reads' hrow).2.2
  have HM2 := Lib.hid hM2
  clear hM2 hrow m0 m1 m2 m3 m4 m5 m6 m7 mf s0 s1 sf
  go_region_held3 (fun w' => Below W2.heap.size W2 w' ∧ w'.cell? ⟨gc, 0, none⟩ = some q0 ∧ w'.cell? ⟨gc, 1, none⟩ = some q1 ∧ w'.cell? ⟨gc, 2, none⟩ = some q2 ∧ w'.cell? ⟨gc, 3, none⟩ = some q3 ∧ w'.cell? ⟨gc, 4, none⟩ = some q4 ∧ w'.cell? ⟨gc, 5, none⟩ = some (.int .i64 f) ∧ w'.cell? ⟨gc, 6, none⟩ = some (.slice (some ⟨gS, 0, none⟩) X.length X.length) ∧ w'.cell? ⟨gS, pc * 2 + 1, none⟩ = some (.slice pA s.stack.length s.stack.length))
    ((refine KS.out _ ?_; first | exact below_drew (Below.refl _ _) | exact hbw | exact hbw.alloc hbw.size _ | (trace_state; fail)))
    ((first | (go_at_call 33; with_reducible refine (D.out _ (HM2.out.fr.trans ((show Below W2.heap.size W2 _ by go_split_ands; assumption).mono HM2.out.hb)) (Kd.C_below HCS.out (show Below W2.heap.size W2 _ by go_split_ands; assumption))).mono ?_; intro e w1 hr; unfold StepRet at hr; obtain ⟨B, cB, C, cC, rfl, HB, HC, hb1⟩ := hr; have hbw := blt (show Below W2.heap.size W2 _ by go_split_ands; assumption) hb1)))
  obtain ⟨er, st', ts⟩ := r
  simp only at HSN H8 HB HC ⊢
  have hsz : W2.drew.heap.size = W2.heap.size := by simp
  rw [hsz] at HB HC

  by_cases her : er = 0
  rotate_left
  · have e1 : R = none := by rw [← HR.out]; unfold oneR; rw [HSX.out, HSN.out, if_neg her]
    subst e1
    have hb := HM2.out.fr.trans (hbw.mono HM2.out.hb)
    go_wp2_with fail
    refine bodyPost_ret (by simp [results, Tryd.results65, go_sem]; rfl) rfl ?_
    exact ⟨rfl, hb⟩
  subst her
  obtain ⟨hl8, hl2, hnn⟩ := H8.out rfl
  have hRR : R = meets st' (ts.map Int.toNat) X := by rw [← HR.out]; unfold oneR; rw [HSX.out, HSN.out, if_pos rfl]
  have hqs : ∀ q ∈ ts.map Int.toNat, q < fn.code.length := HIN.out _ (by rw [HSN.out, if_pos rfl])
  obtain ⟨P, hP⟩ : ∃ P : Nat → Prop, P = fun k => (Value.slice B st'.length cB).ownBlock = some k ∨ (Value.slice C ts.length cC).ownBlock = some k := ⟨_, rfl⟩
  have hPge : ∀ k, P k → W2.heap.size ≤ k ∧ k < w1.heap.size := fun k hk => by
    rw [hP] at hk
    rcases hk with hk | hk
    · exact ⟨Kd.R_base HB.out k hk, Kd.R_lt HB.out k hk⟩
    · exact ⟨Kd.R_base HC.out k hk, Kd.R_lt HC.out k hk⟩
  have hPB : ∀ k, (Value.slice B st'.length cB).ownBlock = some k → P k := fun k hk => by rw [hP]; exact .inl hk
  have hPC : ∀ k, (Value.slice C ts.length cC).ownBlock = some k → P k := fun k hk => by rw [hP]; exact .inr hk
  have hM3 := (HM2.out.below hbw).protect P
    (fun k a g ha hg hp => by have := (HM2.out.ss.lt ha hg).2.1; have := (hPge g hp).1; omega)
    (fun k hk hp => by have := Kd.Q_lt HM2.out.td k hk; have := (hPge k hp).1; omega)
    (fun k hp => by have h1 := blk_lt HM2.out.hc; have h2 := blk_lt HM2.out.ss.hg; have h3 := hPge k hp; exact ⟨h3.2, by omega, by omega⟩)
  have hB0 := Kd.R_lower HB.out HM2.out.hb
  have hC0 := HC.out
  have HM3 := Lib.hid hM3
  have HPB := Lib.hid hPB
  have HPC := Lib.hid hPC
  have HQS := Lib.hid hqs
  have HNN := Lib.hid hnn
  have HRR := Lib.hid hRR
  have HB0 := Lib.hid hB0
  have hcl := HCLN.out
  clear hM3 hPB hPC hqs hnn hRR hB0 hC0 hPge hP hbw hb1 hsz
  go_wp2_with fail
  go_loopw [51] (fun i W => ∃ (k : Nat) (X' : List Shp) (t : List Nat) (L' : List (Option Addr × Nat)) (vT' : Value), k ≤ ts.length ∧ i = .int .i64 k ∧ Hid (meets st' ((ts.map Int.toNat).take k) X = some (X', t)) ∧ Hid (CS w0 W w0.heap.size gc gS q0 q1 q2 q3 q4 f X' L' (todo ++ t) P vT') ∧ Hid (∀ k, P k → W.heap[k]? = w1.heap[k]?)) (fun i _ => ts.length - (intOf i).toNat)
  case atStart => exact ⟨0, X, [], _, _, Nat.zero_le _, rfl, Lib.hid rfl, by rw [List.append_nil]; exact HM3, Lib.hid fun _ _ => rfl⟩
  case round =>
    obtain ⟨k, X', t, L', vT', hk, rfl, HME, HM4, HK4⟩ := hrel
    have hlx := meets_len HME.out
    have hsx := meets_stk hl8 HSS.out HME.out
    have htl := meets_tlen HME.out
    rw [List.length_take, List.length_map] at htl
    by_cases hlt : k < ts.length
    · have hOB := ot_move HB0.out (fun b hb => HK4.out b (HPB.out b hb))
      have hOC := oi_move HC.out (fun b hb => HK4.out b (HPC.out b hb))
      obtain ⟨x, hx⟩ : ∃ x, ts[k]? = some x := ⟨_, List.getElem?_eq_getElem hlt⟩
      obtain ⟨q, rfl⟩ : ∃ q : Nat, x = q := ⟨x.toNat, by have := HNN.out x (List.mem_of_getElem? hx); omega⟩
      have hqk : (ts.map Int.toNat)[k]? = some q := by rw [List.getElem?_map, hx]; simp
      have hqn := HQS.out q (List.mem_of_getElem? hqk)
      obtain ⟨gC, rfl, -, -⟩ := oi_form hOC (by omega)
      obtain ⟨c0, cf0⟩ := oi_cell hOC k q hx
      have hpre := meets_pre HME.out hqk
      have HMC := Lib.hid (fun (_ : Unit) => verifyMeet q B cB st' wr HM4.out hOB HPB.out (by rw [hlx]; omega) (by rw [hlx]; omega) (by rw [List.length_append]; omega) (by omega) (fun s hs => by have := hsx s hs; omega))
      clear hOB hOC hx hqk hsx
      have HPRE := Lib.hid hpre
      clear hpre
      go_wp2_with fail
      refine (HMC.out ()).mono ?_
      rintro e w5 hr
      generalize hmr : meetR X' q st' = mr at hr HPRE
      cases mr with
      | none =>
        obtain ⟨rfl, hb5⟩ := hr
        have e1 : R = none := by rw [HRR.out]; exact meets_stop HPRE.out
        subst e1
        go_wp2_with fail
        refine bodyPost_ret (by simp [results, Tryd.results65, go_sem]; rfl) rfl ?_
        exact ⟨rfl, hb5⟩
      | some z =>
        obtain ⟨X2, b⟩ := z
        obtain ⟨L2, vT2, rfl, HM5, HK5⟩ := hr
        rw [List.append_assoc] at HM5
        go_wp2_with fail
        go_roundw
        case rel => exact ⟨k + 1, X2, _, L2, vT2, by omega, by go_num, HPRE, HM5, Lib.hid fun b hb => (HK5.out b hb).trans (HK4.out b hb)⟩
        case measure => simp [intOf]; omega
    · obtain rfl : k = ts.length := by omega
      have e1 : R = some (X', t) := by
        have := HME.out
        rw [List.take_of_length_le (by simp)] at this
        rw [HRR.out, this]
      subst e1
      go_wp2_with fail
      refine bodyPost_ret (by simp [results, Tryd.results65, go_sem]; rfl) rfl ?_
      exact ⟨L', vT', rfl, Lib.hid (HM4.out.protect (fun _ => False) (fun _ _ _ _ _ h => h) (fun _ _ h => h) (fun _ h => h.elim))⟩
end Go.Proofs.YtgcokdcdpdndjaaDoor
