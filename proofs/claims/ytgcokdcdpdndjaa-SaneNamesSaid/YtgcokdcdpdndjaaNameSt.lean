/- law SaneNames: the module that the law makes, row by row. -/
import Derived.Test.YtgcokdcdpdndjaaLaw07
import Derived.Deep.RegionLaw
import Derived.BigRegion
namespace Go.Proofs.Ytgcokdcdpdndjaa
open Go.RowKit Go.Proofs.YtgcokdcdpdndjaaW.PrintWords
set_option linter.unusedVariables false
set_option linter.unusedSimpArgs false

def num1 : Ty := ⟨1, 0⟩
def fnT : Fn := ⟨[], ⟨1, 0⟩, [], [⟨26, 0, 0⟩]⟩
def imp1 : Imp := ⟨[], ⟨1, 0⟩⟩
def txt1 : ByteArray := ⟨#[120]⟩
def fnA (n : Nat) (code : List Ins) : Fn := ⟨[], ⟨1, 0⟩, List.replicate n num1, code⟩
def modA (n nF : Nat) (code : List Ins) : Mod := ⟨List.replicate n [num1], fnA n code :: List.replicate nF fnT, List.replicate n imp1, List.replicate n 7, List.replicate n txt1⟩
theorem own_store_raw {W : World} {base g n cap : Nat} {e : TypeId} {size : Nat} {xs : List Value} (h : W.ownsRow base e size (.slice (some ⟨g, 0, none⟩) n cap) n xs) (j : Nat) (u : Value) :
    (W.setCell ⟨g, j, none⟩ u).ownsRow base e size (.slice (some ⟨g, 0, none⟩) n cap) n (xs.set j u) := by
  obtain ⟨h1, h2⟩ := h
  refine ⟨by rw [List.length_set]; exact h1, ?_⟩
  rcases h2 with ⟨he, _⟩ | ⟨g', cap', cur, he, hb, hh, hnc, hcm, hcs, ht⟩
  · cases he
  · injection he with ha _ hc
    injection ha with ha
    injection ha with ha
    subst ha; subst hc
    refine .inr ⟨g, cap, cur.setIfInBounds j u, rfl, hb, blk_set hh j u, hnc, hcm, by simp [hcs], ?_⟩
    rw [Array.toList_setIfInBounds, List.take_set, ht]
theorem own_cell_raw {W : World} {base g n cap : Nat} {e : TypeId} {size : Nat} {xs : List Value} (h : W.ownsRow base e size (.slice (some ⟨g, 0, none⟩) n cap) n xs) (j : Nat) (u : Value) (hj : xs[j]? = some u) :
    W.cell? ⟨g, j, none⟩ = some u ∧ W.frozen? ⟨g, j, none⟩ = false := by
  obtain ⟨h1, h2⟩ := h
  rcases h2 with ⟨he, _⟩ | ⟨g', cap', cur, he, hb, hh, hnc, hcm, hcs, ht⟩
  · cases he
  · injection he with ha _ hc
    injection ha with ha
    injection ha with ha
    subst ha; subst hc
    refine ⟨?_, blk_frozen hh j⟩
    rw [blk_cell hh, ← Array.getElem?_toList]
    rw [← ht, List.getElem?_take] at hj
    split at hj
    · exact hj
    · cases hj

/-- The module under way: g its block, base the first block of the law's own rows. -/
structure MSt (wn W : World) (base g : Nat) (vR vI vN vT vL : Value) (gF cF : Nat) (code : Value) (nR nF nI nN nT nL : Nat) : Prop where
  fr : Below base wn W
  hb : base ≤ W.heap.size
  bg : base ≤ g
  hg : W.heap[g]? = some (.cells #[vR, .slice (some ⟨gF, 0, none⟩) (nF + 1) cF, vI, vN, vT] 34 (0, 0))
  rR : kTys.R 24 W base (fun k => True ∧ some k ≠ vL.ownBlock) vR (List.replicate nR [num1])
  rI : kImp.R 38 W base (fun k => True ∧ some k ≠ vL.ownBlock) vI (List.replicate nI imp1)
  rN : (Kd.int .u64).R 36 W base (fun _ => True) vN (List.replicate nN 7)
  rT : Kd.string.R 9 W base (fun _ => True) vT (List.replicate nT txt1)
  rL : kTy.R 23 W base (fun _ => True) vL (List.replicate nL num1)
  rF : ∃ inner, W.ownsRow base 27 5 (.slice (some ⟨gF, 0, none⟩) (nF + 1) cF) (nF + 1) ([.slice none 0 0, .int .i64 1, .int .i64 0, vL, code] ++ inner) ∧
    Reps (kFn.M W base (fun k => True ∧ some k ≠ vL.ownBlock)) 5 (List.replicate nF fnT) inner

theorem rep_snoc {α : Type} (n : Nat) (x : α) : List.replicate n x ++ [x] = List.replicate (n + 1) x := by rw [List.replicate_succ']
theorem E_Tys : ∀ q, q ∈ 24 :: kTys.E ↔ q = 24 ∨ q = 23 := by
  intro q; simp [kTys, kTy, Kd.slice, Kd.iso, Kd.pair, Kd.int, Kd.scalar]
theorem E_Ty : ∀ q, q ∈ 23 :: kTy.E ↔ q = 23 := by
  intro q; simp [kTys, kTy, Kd.slice, Kd.iso, Kd.pair, Kd.int, Kd.scalar]
theorem E_Imp : ∀ q, q ∈ 38 :: kImp.E ↔ q = 38 ∨ q = 23 := by
  intro q; simp [kImp, kTy, Kd.slice, Kd.iso, Kd.pair, Kd.int, Kd.scalar]
theorem E_FnE : ∀ q, q ∈ kFn.E ↔ q = 23 ∨ q = 40 := by
  intro q; simp [kFn, kIns, kTy, Kd.slice, Kd.iso, Kd.pair, Kd.int, Kd.scalar]
theorem E_u64 : ∀ q, q ∈ 36 :: (Kd.int .u64).E ↔ q = 36 := by
  intro q; simp [Kd.int, Kd.scalar]
theorem E_str : ∀ q, q ∈ 9 :: Kd.string.E ↔ q = 9 := by
  intro q; simp [Kd.string, Kd.scalar]

section
variable {wn W : World} {base g : Nat} {vR vI vN vT vL : Value} {gF cF : Nat} {code : Value} {nR nF nI nN nT nL : Nat}
theorem MSt.below (h : MSt wn W base g vR vI vN vT vL gF cF code nR nF nI nN nT nL) {W' : World} (b : Below W.heap.size W W') : MSt wn W' base g vR vI vN vT vL gF cF code nR nF nI nN nT nL := by
  obtain ⟨inner, hF, hT⟩ := h.rF
  exact ⟨h.fr.trans (b.mono h.hb), Nat.le_trans h.hb b.size, h.bg, (b.block g (blk_lt h.hg)).trans h.hg, Kd.R_below h.rR b, Kd.R_below h.rI b, Kd.R_below h.rN b, Kd.R_below h.rT b, Kd.R_below h.rL b,
    inner, pw_own_below hF b, hT.imp_ (fun _ _ hp => Kd.M_below hp b)⟩
theorem MSt.nF_eq (h : MSt wn W base g vR vI vN vT vL gF cF code nR nF nI nN nT nL) {n : Nat} (e : nF = n) : MSt wn W base g vR vI vN vT vL gF cF code nR n nI nN nT nL := e ▸ h
theorem MSt.cells (h : MSt wn W base g vR vI vN vT vL gF cF code nR nF nI nN nT nL) :
    W.cell? ⟨g, 0, none⟩ = some vR ∧ W.cell? ⟨g, 1, none⟩ = some (.slice (some ⟨gF, 0, none⟩) (nF + 1) cF) ∧ W.cell? ⟨g, 2, none⟩ = some vI ∧ W.cell? ⟨g, 3, none⟩ = some vN ∧ W.cell? ⟨g, 4, none⟩ = some vT :=
  ⟨by rw [blk_cell h.hg]; rfl, by rw [blk_cell h.hg]; rfl, by rw [blk_cell h.hg]; rfl, by rw [blk_cell h.hg]; rfl, by rw [blk_cell h.hg]; rfl⟩
theorem MSt.frozen (h : MSt wn W base g vR vI vN vT vL gF cF code nR nF nI nN nT nL) (j : Nat) : W.frozen? ⟨g, j, none⟩ = false := blk_frozen h.hg j
theorem MSt.cellF (h : MSt wn W base g vR vI vN vT vL gF cF code nR nF nI nN nT nL) : W.cell? ⟨gF, 3, none⟩ = some vL ∧ W.cell? ⟨gF, 4, none⟩ = some code ∧ W.frozen? ⟨gF, 3, none⟩ = false ∧ W.frozen? ⟨gF, 4, none⟩ = false := by
  obtain ⟨inner, hF, hT⟩ := h.rF
  exact ⟨(own_cell_raw hF 3 vL (by simp)).1, (own_cell_raw hF 4 code (by simp)).1, (own_cell_raw hF 3 vL (by simp)).2, (own_cell_raw hF 4 code (by simp)).2⟩
theorem MSt.ne (h : MSt wn W base g vR vI vN vT vL gF cF code nR nF nI nN nT nL) : gF ≠ g := by
  obtain ⟨inner, hF, hT⟩ := h.rF
  intro e
  obtain ⟨c, hc⟩ := own_typed hF gF (by simp [Value.ownBlock])
  have := h.hg
  rw [← e, hc] at this
  injection this with this
  injection this with _ this
  exact absurd this (by decide)
end
/-- what a row of another type leaves -/
structure Upto (wn w2 : World) (base g : Nat) (cs : Array Value) : Prop where
  fr : Below base wn w2
  hb : base ≤ w2.heap.size
  bg : base ≤ g
  hg : w2.heap[g]? = some (.cells cs 34 (0, 0))
theorem Upto.put {wn w2 : World} {base g : Nat} {cs cs' : Array Value} (h : Upto wn w2 base g cs) (j : Nat) (u : Value) (e : cs.setIfInBounds j u = cs') : Upto wn (w2.setCell ⟨g, j, none⟩ u) base g cs' :=
  ⟨h.fr.setCell h.bg _, by simpa [World.setCell] using h.hb, h.bg, blk_put h.hg j u e⟩
section
variable {wn W w2 : World} {base g : Nat} {vR vI vN vT vL : Value} {gF cF : Nat} {code : Value} {nR nF nI nN nT nL : Nat}
theorem MSt.upto (h : MSt wn W base g vR vI vN vT vL gF cF code nR nF nI nN nT nL) {v : Value} {e' : Nat} (hty : ∀ k, v.ownBlock = some k → ∃ cells, W.heap[k]? = some (.cells cells e' (0, 0))) (ht : 34 ≠ e') (hf : Below base wn w2) (hgw : W.grownBy w2 v.ownBlock) :
    Upto wn w2 base g #[vR, .slice (some ⟨gF, 0, none⟩) (nF + 1) cF, vI, vN, vT] := by
  refine ⟨hf, Nat.le_trans h.hb hgw.size, h.bg, blk_grown h.hg hgw (fun he => ?_)⟩
  obtain ⟨c, hc⟩ := hty g he.symm
  rw [h.hg] at hc
  injection hc with hc
  injection hc with _ hc
  exact ht hc
theorem rF_over {ok : Nat → Prop} {v : Value} {e' n : Nat} {vF : Value} {cs : List Value} {fs : List Fn} {inner : List Value} (h1 : W.ownsRow base 27 5 vF n cs) (h2 : Reps (kFn.M W base ok) 5 fs inner)
    (hty : ∀ k, v.ownBlock = some k → ∃ cells, W.heap[k]? = some (.cells cells e' (0, 0))) (t1 : 27 ≠ e') (t2 : ∀ q, q ∈ kFn.E → q ≠ e') (hgw : W.grownBy w2 v.ownBlock) :
    w2.ownsRow base 27 5 vF n cs ∧ Reps (kFn.M w2 base ok) 5 fs inner := by
  constructor
  · refine own_other h1 hgw ?_
    rcases hv : vF.ownBlock with _ | k
    · exact .inl rfl
    · refine .inr fun he => ?_
      obtain ⟨c, hc⟩ := hty k he.symm
      obtain ⟨c', hc'⟩ := own_typed h1 k hv
      rw [hc] at hc'
      injection hc' with hc'
      injection hc' with _ hc'
      exact t1 hc'.symm
  · refine h2.imp_ (fun p c hp => kFn.M_mono (fun _ hk => hk.1) (kFn.M_move (fun k hk => hgw.block k hk.2.2.1 (fun he => ?_)) (kFn.M_bound hp)))
    obtain ⟨_, _, _, q, hq, cells, hc⟩ := hk
    obtain ⟨cells', hc'⟩ := hty k he.symm
    rw [hc] at hc'
    injection hc' with hc'
    injection hc' with _ hc'
    exact t2 q hq hc'
theorem rF_set {ok : Nat → Prop} {n : Nat} {vF : Value} {cs : List Value} {fs : List Fn} {inner : List Value} {ms : Array Value} (h1 : W.ownsRow base 27 5 vF n cs) (h2 : Reps (kFn.M W base ok) 5 fs inner)
    (hg : W.heap[g]? = some (.cells ms 34 (0, 0))) (j : Nat) (u : Value) :
    (W.setCell ⟨g, j, none⟩ u).ownsRow base 27 5 vF n cs ∧ Reps (kFn.M (W.setCell ⟨g, j, none⟩ u) base ok) 5 fs inner := by
  constructor
  · exact own_setCell h1 (own_ne h1 hg (by decide)) u
  · exact h2.imp_ (fun p c hp => kFn.M_mono (fun _ hk => hk.1) (Kd.M_far (p := ⟨g, j, none⟩) (Kd.M_types hp hg (by intro q hq; rw [E_FnE] at hq; omega)) (fun _ hk => hk.2) u))
/-- m.Recs = append(m.Recs, ..) -/
theorem MSt.upR (h : MSt wn W base g vR vI vN vT vL gF cF code nR nF nI nN nT nL) {v1 : Value} (h1 : kTys.R 24 w2 base (fun k => True ∧ some k ≠ vL.ownBlock) v1 (List.replicate nR [num1] ++ [[num1]]))
    (hf : Below base wn w2) (hgw : W.grownBy w2 vR.ownBlock) : MSt wn (w2.setCell ⟨g, 0, none⟩ v1) base g v1 vI vN vT vL gF cF code (nR + 1) nF nI nN nT nL := by
  have hty := Kd.R_typed h.rR
  have U := h.upto hty (by decide) hf hgw
  have V := U.put 0 v1 rfl
  obtain ⟨inner, hF, hT⟩ := h.rF
  obtain ⟨hF2, hT2⟩ := rF_over hF hT hty (by decide) (by intro q hq; rw [E_FnE] at hq; omega) hgw
  obtain ⟨hF3, hT3⟩ := rF_set hF2 hT2 U.hg 0 v1
  rw [rep_snoc] at h1
  exact ⟨V.fr, V.hb, V.bg, V.hg, Kd.R_set h1 U.hg (by intro q hq; rw [E_Tys] at hq; omega) 0 v1,
    Kd.R_set (Kd.R_over' h.rI hty (by intro q hq; rw [E_Imp] at hq; omega) hgw) U.hg (by intro q hq; rw [E_Imp] at hq; omega) 0 v1,
    Kd.R_set (Kd.R_over' h.rN hty (by intro q hq; rw [E_u64] at hq; omega) hgw) U.hg (by intro q hq; rw [E_u64] at hq; omega) 0 v1,
    Kd.R_set (Kd.R_over' h.rT hty (by intro q hq; rw [E_str] at hq; omega) hgw) U.hg (by intro q hq; rw [E_str] at hq; omega) 0 v1,
    Kd.R_set (Kd.R_over' h.rL hty (by intro q hq; rw [E_Ty] at hq; omega) hgw) U.hg (by intro q hq; rw [E_Ty] at hq; omega) 0 v1,
    inner, hF3, hT3⟩
/-- m.Ints -/
theorem MSt.upN (h : MSt wn W base g vR vI vN vT vL gF cF code nR nF nI nN nT nL) {v1 : Value} (h1 : (Kd.int .u64).R 36 w2 base (fun _ => True) v1 (List.replicate nN 7 ++ [7]))
    (hf : Below base wn w2) (hgw : W.grownBy w2 vN.ownBlock) : MSt wn (w2.setCell ⟨g, 3, none⟩ v1) base g vR vI v1 vT vL gF cF code nR nF nI (nN + 1) nT nL := by
  have hty := Kd.R_typed h.rN
  have U := h.upto hty (by decide) hf hgw
  have V := U.put 3 v1 rfl
  obtain ⟨inner, hF, hT⟩ := h.rF
  obtain ⟨hF2, hT2⟩ := rF_over hF hT hty (by decide) (by intro q hq; rw [E_FnE] at hq; omega) hgw
  obtain ⟨hF3, hT3⟩ := rF_set hF2 hT2 U.hg 3 v1
  rw [rep_snoc] at h1
  exact ⟨V.fr, V.hb, V.bg, V.hg, 
    Kd.R_set (Kd.R_over' h.rR hty (by intro q hq; rw [E_Tys] at hq; omega) hgw) U.hg (by intro q hq; rw [E_Tys] at hq; omega) 3 v1,
    Kd.R_set (Kd.R_over' h.rI hty (by intro q hq; rw [E_Imp] at hq; omega) hgw) U.hg (by intro q hq; rw [E_Imp] at hq; omega) 3 v1,
    Kd.R_set h1 U.hg (by intro q hq; rw [E_u64] at hq; omega) 3 v1,
    Kd.R_set (Kd.R_over' h.rT hty (by intro q hq; rw [E_str] at hq; omega) hgw) U.hg (by intro q hq; rw [E_str] at hq; omega) 3 v1,
    Kd.R_set (Kd.R_over' h.rL hty (by intro q hq; rw [E_Ty] at hq; omega) hgw) U.hg (by intro q hq; rw [E_Ty] at hq; omega) 3 v1,
    inner, hF3, hT3⟩
/-- m.Texts -/
theorem MSt.upT (h : MSt wn W base g vR vI vN vT vL gF cF code nR nF nI nN nT nL) {v1 : Value} (h1 : Kd.string.R 9 w2 base (fun _ => True) v1 (List.replicate nT txt1 ++ [txt1]))
    (hf : Below base wn w2) (hgw : W.grownBy w2 vT.ownBlock) : MSt wn (w2.setCell ⟨g, 4, none⟩ v1) base g vR vI vN v1 vL gF cF code nR nF nI nN (nT + 1) nL := by
  have hty := Kd.R_typed h.rT
  have U := h.upto hty (by decide) hf hgw
  have V := U.put 4 v1 rfl
  obtain ⟨inner, hF, hT⟩ := h.rF
  obtain ⟨hF2, hT2⟩ := rF_over hF hT hty (by decide) (by intro q hq; rw [E_FnE] at hq; omega) hgw
  obtain ⟨hF3, hT3⟩ := rF_set hF2 hT2 U.hg 4 v1
  rw [rep_snoc] at h1
  exact ⟨V.fr, V.hb, V.bg, V.hg, 
    Kd.R_set (Kd.R_over' h.rR hty (by intro q hq; rw [E_Tys] at hq; omega) hgw) U.hg (by intro q hq; rw [E_Tys] at hq; omega) 4 v1,
    Kd.R_set (Kd.R_over' h.rI hty (by intro q hq; rw [E_Imp] at hq; omega) hgw) U.hg (by intro q hq; rw [E_Imp] at hq; omega) 4 v1,
    Kd.R_set (Kd.R_over' h.rN hty (by intro q hq; rw [E_u64] at hq; omega) hgw) U.hg (by intro q hq; rw [E_u64] at hq; omega) 4 v1,
    Kd.R_set h1 U.hg (by intro q hq; rw [E_str] at hq; omega) 4 v1,
    Kd.R_set (Kd.R_over' h.rL hty (by intro q hq; rw [E_Ty] at hq; omega) hgw) U.hg (by intro q hq; rw [E_Ty] at hq; omega) 4 v1,
    inner, hF3, hT3⟩
/-- m.Imports -/
theorem MSt.upI (h : MSt wn W base g vR vI vN vT vL gF cF code nR nF nI nN nT nL) {v1 : Value} (h1 : kImp.R 38 w2 base (fun k => True ∧ some k ≠ vL.ownBlock) v1 (List.replicate nI imp1 ++ [imp1]))
    (hf : Below base wn w2) (hgw : W.grownBy w2 vI.ownBlock) : MSt wn (w2.setCell ⟨g, 2, none⟩ v1) base g vR v1 vN vT vL gF cF code nR nF (nI + 1) nN nT nL := by
  have hty := Kd.R_typed h.rI
  have U := h.upto hty (by decide) hf hgw
  have V := U.put 2 v1 rfl
  obtain ⟨inner, hF, hT⟩ := h.rF
  obtain ⟨hF2, hT2⟩ := rF_over hF hT hty (by decide) (by intro q hq; rw [E_FnE] at hq; omega) hgw
  obtain ⟨hF3, hT3⟩ := rF_set hF2 hT2 U.hg 2 v1
  rw [rep_snoc] at h1
  exact ⟨V.fr, V.hb, V.bg, V.hg, 
    Kd.R_set (Kd.R_over' h.rR hty (by intro q hq; rw [E_Tys] at hq; omega) hgw) U.hg (by intro q hq; rw [E_Tys] at hq; omega) 2 v1,
    Kd.R_set h1 U.hg (by intro q hq; rw [E_Imp] at hq; omega) 2 v1,
    Kd.R_set (Kd.R_over' h.rN hty (by intro q hq; rw [E_u64] at hq; omega) hgw) U.hg (by intro q hq; rw [E_u64] at hq; omega) 2 v1,
    Kd.R_set (Kd.R_over' h.rT hty (by intro q hq; rw [E_str] at hq; omega) hgw) U.hg (by intro q hq; rw [E_str] at hq; omega) 2 v1,
    Kd.R_set (Kd.R_over' h.rL hty (by intro q hq; rw [E_Ty] at hq; omega) hgw) U.hg (by intro q hq; rw [E_Ty] at hq; omega) 2 v1,
    inner, hF3, hT3⟩
/-- m.Funcs -/
theorem MSt.upF (h : MSt wn W base g vR vI vN vT vL gF cF code nR nF nI nN nT nL) {v1 : Value} {cs : List Value} (h1 : ∀ inner, W.ownsRow base 27 5 (.slice (some ⟨gF, 0, none⟩) (nF + 1) cF) (nF + 1) ([.slice none 0 0, .int .i64 1, .int .i64 0, vL, code] ++ inner) → w2.ownsRow base 27 5 v1 (nF + 1 + 1) (([.slice none 0 0, .int .i64 1, .int .i64 0, vL, code] ++ inner) ++ cs))
    (hc : kFn.M W base (fun k => True ∧ some k ≠ vL.ownBlock) fnT cs) (hcl : cs.length = 5)
    (hf : Below base wn w2) (hgw : W.grownBy w2 (Value.slice (some ⟨gF, 0, none⟩) (nF + 1) cF).ownBlock) : ∃ gF' cF', v1 = .slice (some ⟨gF', 0, none⟩) (nF + 1 + 1) cF' ∧ MSt wn (w2.setCell ⟨g, 1, none⟩ v1) base g vR vI vN vT vL gF' cF' code nR (nF + 1) nI nN nT nL := by
  obtain ⟨inner, hF, hT⟩ := h.rF
  have hty : ∀ k, (Value.slice (some ⟨gF, 0, none⟩) (nF + 1) cF).ownBlock = some k → ∃ cells, W.heap[k]? = some (.cells cells 27 (0, 0)) := own_typed hF
  have U := h.upto hty (by decide) hf hgw
  have hF2 := h1 inner hF
  obtain ⟨gF', cF', hv, _, _⟩ := hF2.form (by omega)
  subst hv
  have V := U.put 1 (.slice (some ⟨gF', 0, none⟩) (nF + 1 + 1) cF') rfl
  have hT1 := hT.snoc hc hcl
  have hT2 : Reps (kFn.M w2 base (fun k => True ∧ some k ≠ vL.ownBlock)) 5 (List.replicate nF fnT ++ [fnT]) (inner ++ cs) := by
    refine hT1.imp_ (fun p c hp => kFn.M_mono (fun _ hk => hk.1) (kFn.M_move (fun k hk => hgw.block k hk.2.2.1 (fun he => ?_)) (kFn.M_bound hp)))
    obtain ⟨_, _, _, q, hq, cells, hcc⟩ := hk
    obtain ⟨cells', hc'⟩ := hty k he.symm
    rw [hcc] at hc'
    injection hc' with hc'
    injection hc' with _ hc'
    rw [E_FnE] at hq
    rcases hq with rfl | rfl <;> exact absurd hc' (by decide)
  rw [List.append_assoc] at hF2
  obtain ⟨hF3, hT3⟩ := rF_set hF2 hT2 U.hg 1 (.slice (some ⟨gF', 0, none⟩) (nF + 1 + 1) cF')
  rw [rep_snoc] at hT3
  exact ⟨gF', cF', rfl, V.fr, V.hb, V.bg, V.hg, 
    Kd.R_set (Kd.R_over' h.rR hty (by intro q hq; rw [E_Tys] at hq; omega) hgw) U.hg (by intro q hq; rw [E_Tys] at hq; omega) 1 _,
    Kd.R_set (Kd.R_over' h.rI hty (by intro q hq; rw [E_Imp] at hq; omega) hgw) U.hg (by intro q hq; rw [E_Imp] at hq; omega) 1 _,
    Kd.R_set (Kd.R_over' h.rN hty (by intro q hq; rw [E_u64] at hq; omega) hgw) U.hg (by intro q hq; rw [E_u64] at hq; omega) 1 _,
    Kd.R_set (Kd.R_over' h.rT hty (by intro q hq; rw [E_str] at hq; omega) hgw) U.hg (by intro q hq; rw [E_str] at hq; omega) 1 _,
    Kd.R_set (Kd.R_over' h.rL hty (by intro q hq; rw [E_Ty] at hq; omega) hgw) U.hg (by intro q hq; rw [E_Ty] at hq; omega) 1 _,
    inner ++ cs, hF3, hT3⟩
/-- m.Funcs[0].Locals: the append -/
structure MLo (wn w2 : World) (base g : Nat) (vR vI vN vT vL : Value) (gF cF : Nat) (v1 code : Value) (nR nF nI nN nT nL : Nat) : Prop where
  U : Upto wn w2 base g #[vR, .slice (some ⟨gF, 0, none⟩) (nF + 1) cF, vI, vN, vT]
  rR : kTys.R 24 w2 base (fun k => True ∧ some k ≠ v1.ownBlock) vR (List.replicate nR [num1])
  rI : kImp.R 38 w2 base (fun k => True ∧ some k ≠ v1.ownBlock) vI (List.replicate nI imp1)
  rN : (Kd.int .u64).R 36 w2 base (fun _ => True) vN (List.replicate nN 7)
  rT : Kd.string.R 9 w2 base (fun _ => True) vT (List.replicate nT txt1)
  rL : kTy.R 23 w2 base (fun _ => True) v1 (List.replicate nL num1)
  rF : ∃ inner, w2.ownsRow base 27 5 (.slice (some ⟨gF, 0, none⟩) (nF + 1) cF) (nF + 1) ([.slice none 0 0, .int .i64 1, .int .i64 0, vL, code] ++ inner) ∧
    Reps (kFn.M w2 base (fun k => True ∧ some k ≠ v1.ownBlock)) 5 (List.replicate nF fnT) inner
theorem MSt.upL (h : MSt wn W base g vR vI vN vT vL gF cF code nR nF nI nN nT nL) {v1 : Value} (h1 : kTy.R 23 w2 base (fun _ => True) v1 (List.replicate nL num1 ++ [num1]))
    (hf : Below base wn w2) (hgw : W.grownBy w2 vL.ownBlock) (hat : v1.ownBlock = vL.ownBlock ∨ ∃ b, v1.ownBlock = some b ∧ W.heap.size ≤ b) : MLo wn w2 base g vR vI vN vT vL gF cF v1 code nR nF nI nN nT (nL + 1) := by
  have hty := Kd.R_typed h.rL
  have U := h.upto hty (by decide) hf hgw
  obtain ⟨inner, hF, hT⟩ := h.rF
  rw [rep_snoc] at h1
  refine ⟨U, Kd.R_after h.rR hgw hat, Kd.R_after h.rI hgw hat, Kd.R_over' h.rN hty (by intro q hq; rw [E_u64] at hq; omega) hgw, Kd.R_over' h.rT hty (by intro q hq; rw [E_str] at hq; omega) hgw, h1, inner, ?_, hT.imp_ (fun p c hp => Kd.M_after hp hgw hat)⟩
  refine own_other hF hgw (.inr fun he => ?_)
  obtain ⟨c, hc⟩ := hty gF (by rw [← he]; simp [Value.ownBlock])
  obtain ⟨c', hc'⟩ := own_typed hF gF (by simp [Value.ownBlock])
  rw [hc] at hc'
  injection hc' with hc'
  injection hc' with _ hc'
  exact absurd hc' (by decide)
/-- a cell of the first function is stored -/
theorem MLo.put {v1 : Value} (h : MLo wn w2 base g vR vI vN vT vL gF cF v1 code nR nF nI nN nT nL) (j : Nat) (u : Value) (vL' code' : Value) (hL : vL' = v1) (hj : ([.slice none 0 0, .int .i64 1, .int .i64 0, vL, code] : List Value).set j u = [.slice none 0 0, .int .i64 1, .int .i64 0, vL', code']) (hj5 : j < 5) :
    MSt wn (w2.setCell ⟨gF, j, none⟩ u) base g vR vI vN vT vL' gF cF code' nR nF nI nN nT nL := by
  subst hL
  obtain ⟨inner, hF, hT⟩ := h.rF
  obtain ⟨c, hc⟩ := own_typed hF gF (by simp [Value.ownBlock])
  have hbF : base ≤ gF := own_base hF gF (by simp [Value.ownBlock])
  have hne : gF ≠ g := by
    intro e
    have := h.U.hg
    rw [← e, hc] at this
    injection this with this
    injection this with _ this
    exact absurd this (by decide)
  refine ⟨h.U.fr.setCell hbF _, by simpa [World.setCell] using h.U.hb, h.U.bg, blk_far h.U.hg (by simp only; exact fun e => hne e.symm) u,
    Kd.R_set h.rR hc (by intro q hq; rw [E_Tys] at hq; omega) j u, Kd.R_set h.rI hc (by intro q hq; rw [E_Imp] at hq; omega) j u, Kd.R_set h.rN hc (by intro q hq; rw [E_u64] at hq; omega) j u, Kd.R_set h.rT hc (by intro q hq; rw [E_str] at hq; omega) j u, Kd.R_set h.rL hc (by intro q hq; rw [E_Ty] at hq; omega) j u,
    inner, ?_, hT.imp_ (fun p c' hp => kFn.M_mono (fun _ hk => hk.1) (Kd.M_far (p := ⟨gF, j, none⟩) (Kd.M_types hp hc (by intro q hq; rw [E_FnE] at hq; omega)) (fun _ hk => hk.2) u))⟩
  have := own_store_raw hF j u
  rw [List.set_append_left _ _ (by simpa using hj5), hj] at this
  exact this
theorem MSt.lo (h : MSt wn W base g vR vI vN vT vL gF cF code nR nF nI nN nT nL) : MLo wn W base g vR vI vN vT vL gF cF vL code nR nF nI nN nT nL :=
  ⟨⟨h.fr, h.hb, h.bg, h.hg⟩, h.rR, h.rI, h.rN, h.rT, h.rL, h.rF⟩
/-- m.Funcs[0].Code -/
theorem MSt.storeC (h : MSt wn W base g vR vI vN vT vL gF cF code nR nF nI nN nT nL) (u : Value) : MSt wn (W.setCell ⟨gF, 4, none⟩ u) base g vR vI vN vT vL gF cF u nR nF nI nN nT nL := h.lo.put 4 u vL u rfl rfl (by omega)
/-- the module that lies there -/
theorem MSt.modAt {A : Option Addr} {ins : Ins} {n : Nat} (h : MSt wn W base g vR vI vN vT vL gF cF (.slice A 1 1) n nF n n n n) (hc : kIns.C W A 1 [ins]) :
    ∃ hh : ModH, ModAt W (modA n nF [ins]) hh ∧ .agg #[vR, .slice (some ⟨gF, 0, none⟩) (nF + 1) cF, vI, vN, vT] = Mod.v (modA n nF [ins]) hh := by
  obtain ⟨A0, c0, rfl, l0, r0⟩ := Kd.R_reads h.rR
  obtain ⟨A2, c2, rfl, l2, r2⟩ := Kd.R_reads h.rI
  obtain ⟨A3, c3, rfl, l3, r3⟩ := Kd.R_reads h.rN
  obtain ⟨A4, c4, rfl, l4, r4⟩ := Kd.R_reads h.rT
  obtain ⟨AL, cL, rfl, lL, rL⟩ := Kd.R_reads h.rL
  obtain ⟨inner, hF, hT⟩ := h.rF
  have hcap := own_cap hF
  have hR : Reps (kFn.K W) 5 (fnA n [ins] :: List.replicate nF fnT) ([.slice none 0 0, .int .i64 1, .int .i64 0, .slice AL (List.replicate n num1).length cL, .slice A 1 1] ++ inner) := by
    refine ⟨by rw [List.length_append, hT.1]; simp; omega, fun j p hj => ?_⟩
    rcases j with _ | j
    · simp only [List.getElem?_cons_zero, Option.some.injEq] at hj
      subst hj
      exact kFn_mk (h := ⟨none, 0, AL, cL, A, 1⟩) ⟨C_nil _ _, Nat.le_refl _, rL, lL, hc, Nat.le_refl _⟩
    · simp only [List.getElem?_cons_succ] at hj
      have h2 := kFn.K_of_M (hT.2 j p hj)
      have e : (([.slice none 0 0, .int .i64 1, .int .i64 0, .slice AL (List.replicate n num1).length cL, .slice A 1 1] : List Value) ++ inner).drop ((j + 1) * 5) = inner.drop (j * 5) := by
        rw [List.drop_append, List.drop_eq_nil_of_le (by simp; omega), List.nil_append]
        congr 1
        simp; omega
      rw [e]
      exact h2
  obtain ⟨A1, c1, he, r1⟩ := own_reads_row hF hR (by simp)
  injection he with e1 e2 e3
  subst e1 e3
  refine ⟨⟨A0, c0, some ⟨gF, 0, none⟩, cF, A2, c2, A3, c3, A4, c4⟩, ⟨r0, l0, ?_, ?_, r2, l2, r3, l3, r4, l4⟩, by simp [Mod.v, modA]⟩
  · simp only [modA, List.length_cons, List.length_replicate]
    exact r1
  · simp only [modA, List.length_cons, List.length_replicate]
    exact hcap
end

/-- what the walk reads of the module's block -/
structure Cel (W : World) (g : Nat) (vR vF vI vN vT : Value) : Prop where
  c0 : W.cell? ⟨g, 0, none⟩ = some vR
  c1 : W.cell? ⟨g, 1, none⟩ = some vF
  c2 : W.cell? ⟨g, 2, none⟩ = some vI
  c3 : W.cell? ⟨g, 3, none⟩ = some vN
  c4 : W.cell? ⟨g, 4, none⟩ = some vT
  fz : ∀ j, W.frozen? ⟨g, j, none⟩ = false
theorem Upto.cel {wn w2 : World} {base g : Nat} {a b c d e : Value} (h : Upto wn w2 base g #[a, b, c, d, e]) : Cel w2 g a b c d e :=
  ⟨by rw [blk_cell h.hg]; rfl, by rw [blk_cell h.hg]; rfl, by rw [blk_cell h.hg]; rfl, by rw [blk_cell h.hg]; rfl, by rw [blk_cell h.hg]; rfl, blk_frozen h.hg⟩
theorem infoTys : (Try.prog.info? 24).map (fun i => (i.zero, i.size, i.bytes)) = some (some (.slice none 0 0), kTys.sz, 24) := by kernel_rfl
theorem infoTy : (Try.prog.info? 23).map (fun i => (i.zero, i.size, i.bytes)) = some (some (.agg #[.int .i64 0, .int .i64 0]), kTy.sz, 16) := by kernel_rfl
theorem infoU64 : (Try.prog.info? 36).map (fun i => (i.zero, i.size, i.bytes)) = some (some (.int .u64 0), (Kd.int .u64).sz, 8) := by kernel_rfl
theorem infoStr : (Try.prog.info? 9).map (fun i => (i.zero, i.size, i.bytes)) = some (some (.string ⟨#[]⟩), Kd.string.sz, 16) := by kernel_rfl
theorem infoImp : (Try.prog.info? 38).map (fun i => (i.zero, i.size, i.bytes)) = some (some (.agg #[.slice none 0 0, .int .i64 0, .int .i64 0]), kImp.sz, 40) := by kernel_rfl
theorem infoFn : (Try.prog.info? 27).map (fun i => (i.zero, i.size, i.bytes)) = some (some (.agg #[.slice none 0 0, .int .i64 0, .int .i64 0, .slice none 0 0, .slice none 0 0]), 5, 88) := by kernel_rfl
section
variable {ops : Array Oper} {rest : List Oper} {o : Oper} {a : Act} {Q : Exit → Act → World → Prop}
variable {wn W w2 : World} {base g : Nat} {vR vI vN vT vL : Value} {gF cF : Nat} {code : Value} {nR nF nI nN nT nL : Nat}
theorem below_num {w2 : World} {base : Nat} (h : Below base wn w2) (b i : Nat) (hb : b < base) {u : Value} (hu : wn.cell? ⟨b, i, none⟩ = some u) : w2.cell? ⟨b, i, none⟩ = some u := (h.cell (p := ⟨b, i, none⟩) hb).trans hu
theorem slice_n {α : Type} {d : Kd α} {e : Nat} {w : World} {base : Nat} {ok : Nat → Prop} {v : Value} {n : Nat} {x y : α} (h : d.R e w base ok v (List.replicate n x ++ [y])) : ∃ A c, v = .slice A (n + 1) c := by
  obtain ⟨A, c, h⟩ := Kd.R_slice h
  exact ⟨A, c, by simpa using h⟩
theorem aR (s x : Operand) (hM : MSt wn W base g vR vI vN vT vL gF cF code nR nF nI nN nT nL) (hn : nR ≤ 100)
    (hgd : o.guard = none) (ho : o.op = .call { callee := .builtin .append, args := #[s, x], argTypes := #[29, 29] })
    (hs : a.eval s = vR) (hx : a.eval x = .slice (some ⟨W.heap.size + 1, 0, none⟩) 1 1)
    (h : ∀ A1 c1 w2, Hid (MSt wn (w2.setCell ⟨g, 0, none⟩ (.slice A1 (nR + 1) c1)) base g (.slice A1 (nR + 1) c1) vI vN vT vL gF cF code (nR + 1) nF nI nN nT nL) → Cel w2 g vR (.slice (some ⟨gF, 0, none⟩) (nF + 1) cF) vI vN vT → Below base wn w2 → wpList Try.prog ops Q rest (a.put o.dst (.slice A1 (nR + 1) c1)) w2) :
    wpList Try.prog ops Q (o :: rest) a ((W.alloc (.cells #[.int .i64 1, .int .i64 0] 23)).alloc (.cells #[.slice (some ⟨W.heap.size, 0, none⟩) 1 1] 24)) := by
  have b1 := bAl W (.cells #[.int .i64 1, .int .i64 0] 23)
  have hM1 := hM.below b1
  have hlL := Kd.R_lt hM.rL
  have hlR := Kd.R_lt hM.rR
  refine Kd.R_append kTys (w0 := wn) (W := W.alloc (.cells #[.int .i64 1, .int .i64 0] 23)) base hgd s x 29 24 (.slice none 0 0) 24 ho Try.underlying29 infoTys rfl (by decide) (by omega) vR (List.replicate nR [num1]) [num1] [.slice (some ⟨W.heap.size, 0, none⟩) 1 1] (fun k => True ∧ some k ≠ vL.ownBlock) (fun k => k = W.heap.size) hs (by rw [hx]; simp) ?_ ?_ ?_ hM1.rR hM1.fr hM1.hb (by simp; omega) ?_
  · refine ⟨_, rfl, fun k hk => ?_, ?_⟩
    · simp [Value.ownBlock] at hk; exact hk.symm
    · refine ⟨[.int .i64 1, .int .i64 0], ?_, ?_⟩
      · exact World.ownsRow_lit (base := base) (e := 23) (size := 2) W #[.int .i64 1, .int .i64 0] 1 hM.hb (by simp [maxLen]) (by simp)
      · exact (Reps.none _ _).snoc (p := num1) (c := [.int .i64 1, .int .i64 0]) ⟨_, _, rfl, rfl, rfl⟩ rfl
  · rintro k rfl
    exact ⟨⟨trivial, fun e => by have := hlL _ e.symm; omega⟩, fun e => by have := hlR _ e.symm; omega⟩
  · intro k hk
    exact ⟨trivial, fun e => by have := hlL _ e.symm; simp at hk; omega⟩
  · intro v1 w1 h1 hf hg hat
    obtain ⟨A1, c1, rfl⟩ := slice_n h1
    exact h A1 c1 w1 (Lib.hid (hM1.upR h1 hf hg)) (hM1.upto (Kd.R_typed hM1.rR) (by decide) hf hg).cel hf
theorem aN (s x : Operand) (z : Nat) (hz : z = W.heap.size) (hM : MSt wn W base g vR vI vN vT vL gF cF code nR nF nI nN nT nL) (hn : nN ≤ 100)
    (hgd : o.guard = none) (ho : o.op = .call { callee := .builtin .append, args := #[s, x], argTypes := #[31, 31] })
    (hs : a.eval s = vN) (hx : a.eval x = .slice (some ⟨z, 0, none⟩) 1 1)
    (h : ∀ A1 c1 w2, Hid (MSt wn (w2.setCell ⟨g, 3, none⟩ (.slice A1 (nN + 1) c1)) base g vR vI (.slice A1 (nN + 1) c1) vT vL gF cF code nR nF nI (nN + 1) nT nL) → Cel w2 g vR (.slice (some ⟨gF, 0, none⟩) (nF + 1) cF) vI vN vT → Below base wn w2 → wpList Try.prog ops Q rest (a.put o.dst (.slice A1 (nN + 1) c1)) w2) :
    wpList Try.prog ops Q (o :: rest) a (W.alloc (.cells #[.int .u64 7] 36)) := by
  subst hz
  refine Kd.R_append (Kd.int .u64) (w0 := wn) (W := W) base hgd s x 31 36 (.int .u64 0) 8 ho Try.underlying31 infoU64 rfl (by decide) (by omega) vN (List.replicate nN 7) 7 [.int .u64 7] (fun k => True) (fun k => False) hs hx rfl (fun _ hk => hk.elim) (fun _ _ => trivial) hM.rN hM.fr hM.hb (by simp; omega) ?_
  intro v1 w1 h1 hf hg hat
  obtain ⟨A1, c1, rfl⟩ := slice_n h1
  exact h A1 c1 w1 (Lib.hid (hM.upN h1 hf hg)) (hM.upto (Kd.R_typed hM.rN) (by decide) hf hg).cel hf
theorem aT (s x : Operand) (z : Nat) (hz : z = W.heap.size) (hM : MSt wn W base g vR vI vN vT vL gF cF code nR nF nI nN nT nL) (hn : nT ≤ 100)
    (hgd : o.guard = none) (ho : o.op = .call { callee := .builtin .append, args := #[s, x], argTypes := #[32, 32] })
    (hs : a.eval s = vT) (hx : a.eval x = .slice (some ⟨z, 0, none⟩) 1 1)
    (h : ∀ A1 c1 w2, Hid (MSt wn (w2.setCell ⟨g, 4, none⟩ (.slice A1 (nT + 1) c1)) base g vR vI vN (.slice A1 (nT + 1) c1) vL gF cF code nR nF nI nN (nT + 1) nL) → Cel w2 g vR (.slice (some ⟨gF, 0, none⟩) (nF + 1) cF) vI vN vT → Below base wn w2 → wpList Try.prog ops Q rest (a.put o.dst (.slice A1 (nT + 1) c1)) w2) :
    wpList Try.prog ops Q (o :: rest) a (W.alloc (.cells #[.string ⟨#[120]⟩] 9)) := by
  subst hz
  refine Kd.R_append Kd.string (w0 := wn) (W := W) base hgd s x 32 9 (.string ⟨#[]⟩) 16 ho Try.underlying32 infoStr rfl (by decide) (by omega) vT (List.replicate nT txt1) txt1 [.string ⟨#[120]⟩] (fun k => True) (fun k => False) hs hx rfl (fun _ hk => hk.elim) (fun _ _ => trivial) hM.rT hM.fr hM.hb (by simp; omega) ?_
  intro v1 w1 h1 hf hg hat
  obtain ⟨A1, c1, rfl⟩ := slice_n h1
  exact h A1 c1 w1 (Lib.hid (hM.upT h1 hf hg)) (hM.upto (Kd.R_typed hM.rT) (by decide) hf hg).cel hf
theorem aI (s x : Operand) (z : Nat) (hz : z = W.heap.size) (hM : MSt wn W base g vR vI vN vT vL gF cF code nR nF nI nN nT nL) (hn : nI ≤ 100)
    (hgd : o.guard = none) (ho : o.op = .call { callee := .builtin .append, args := #[s, x], argTypes := #[30, 30] })
    (hs : a.eval s = vI) (hx : a.eval x = .slice (some ⟨z, 0, none⟩) 1 1)
    (h : ∀ A1 c1 w2, Hid (MSt wn (w2.setCell ⟨g, 2, none⟩ (.slice A1 (nI + 1) c1)) base g vR (.slice A1 (nI + 1) c1) vN vT vL gF cF code nR nF (nI + 1) nN nT nL) → Cel w2 g vR (.slice (some ⟨gF, 0, none⟩) (nF + 1) cF) vI vN vT → Below base wn w2 → wpList Try.prog ops Q rest (a.put o.dst (.slice A1 (nI + 1) c1)) w2) :
    wpList Try.prog ops Q (o :: rest) a (W.alloc (.cells #[.slice none 0 0, .int .i64 1, .int .i64 0] 38)) := by
  subst hz
  have hlL := Kd.R_lt hM.rL
  refine Kd.R_append kImp (w0 := wn) (W := W) base hgd s x 30 38 (.agg #[.slice none 0 0, .int .i64 0, .int .i64 0]) 40 ho Try.underlying30 infoImp rfl (by decide) (by omega) vI (List.replicate nI imp1) imp1 [.slice none 0 0, .int .i64 1, .int .i64 0] (fun k => True ∧ some k ≠ vL.ownBlock) (fun k => False) hs hx ?_ (fun _ hk => hk.elim) ?_ hM.rI hM.fr hM.hb (by simp; omega) ?_
  · exact ⟨[_], [_, _], rfl, ⟨_, rfl, Kd.R_nil _ _ _ _ _⟩, _, _, rfl, rfl, rfl⟩
  · intro k hk
    exact ⟨trivial, fun e => by have := hlL _ e.symm; omega⟩
  intro v1 w1 h1 hf hg hat
  obtain ⟨A1, c1, rfl⟩ := slice_n h1
  exact h A1 c1 w1 (Lib.hid (hM.upI h1 hf hg)) (hM.upto (Kd.R_typed hM.rI) (by decide) hf hg).cel hf
theorem aF (s x : Operand) (z : Nat) (hz : z = W.heap.size) (hM : MSt wn W base g vR vI vN vT vL gF cF code nR nF nI nN nT nL) (hn : nF ≤ 100)
    (hgd : o.guard = none) (ho : o.op = .call { callee := .builtin .append, args := #[s, x], argTypes := #[28, 28] })
    (hs : a.eval s = .slice (some ⟨gF, 0, none⟩) (nF + 1) cF) (hx : a.eval x = .slice (some ⟨z + 1, 0, none⟩) 1 1)
    (h : ∀ gF' cF' w2, Hid (MSt wn (w2.setCell ⟨g, 1, none⟩ (.slice (some ⟨gF', 0, none⟩) (nF + 1 + 1) cF')) base g vR vI vN vT vL gF' cF' code nR (nF + 1) nI nN nT nL) → Cel w2 g vR (.slice (some ⟨gF, 0, none⟩) (nF + 1) cF) vI vN vT → Below base wn w2 → wpList Try.prog ops Q rest (a.put o.dst (.slice (some ⟨gF', 0, none⟩) (nF + 1 + 1) cF')) w2) :
    wpList Try.prog ops Q (o :: rest) a ((W.alloc (.cells #[.int .i64 26, .int .i64 0, .int .i64 0] 40)).alloc (.cells #[.slice none 0 0, .int .i64 1, .int .i64 0, .slice none 0 0, .slice (some ⟨z, 0, none⟩) 1 1] 27)) := by
  subst hz
  have b1 := bAl W (.cells #[.int .i64 26, .int .i64 0, .int .i64 0] 40)
  have hM1 := hM.below b1
  have hlL := Kd.R_lt hM.rL
  obtain ⟨inner, hF, hT⟩ := hM1.rF
  refine print_append_cells (w0 := wn) (W := W.alloc (.cells #[.int .i64 26, .int .i64 0, .int .i64 0] 40)) base hgd s x 28 27 (.agg #[.slice none 0 0, .int .i64 0, .int .i64 0, .slice none 0 0, .slice none 0 0]) 5 88 ho Try.underlying28 infoFn rfl (by omega) (by omega) _ (nF + 1) _ [.slice none 0 0, .int .i64 1, .int .i64 0, .slice none 0 0, .slice (some ⟨W.heap.size, 0, none⟩) 1 1] hs (by rw [hx]; simp) rfl (by simp [Value.oneCell']) hF hM1.fr hM1.hb (by omega) ?_
  intro v1 w1 h1 hf hg hat
  have hty : ∀ k, (Value.slice (some ⟨gF, 0, none⟩) (nF + 1) cF).ownBlock = some k → ∃ cells, (W.alloc (.cells #[.int .i64 26, .int .i64 0, .int .i64 0] 40)).heap[k]? = some (.cells cells 27 (0, 0)) := own_typed hF
  obtain ⟨gF', cF', rfl, hM2⟩ := hM1.upF (w2 := w1) (v1 := v1) (cs := [.slice none 0 0, .int .i64 1, .int .i64 0, .slice none 0 0, .slice (some ⟨W.heap.size, 0, none⟩) 1 1]) (fun inner' hF' => by
      have : inner' = inner := by
        obtain ⟨l1, q1⟩ := hF
        obtain ⟨l2, q2⟩ := hF'
        rcases q1 with ⟨q1, _⟩ | ⟨g1, p1, cur1, q1, _, hh1, _, _, _, t1⟩
        · cases q1
        rcases q2 with ⟨q2, _⟩ | ⟨g2, p2, cur2, q2, _, hh2, _, _, _, t2⟩
        · cases q2
        injection q1 with q1 _ _; injection q1 with q1; injection q1 with q1; subst q1
        injection q2 with q2 _ _; injection q2 with q2; injection q2 with q2; subst q2
        rw [hh1] at hh2
        injection hh2 with hh2; injection hh2 with hh2 _ _; subst hh2
        rw [t1] at t2
        exact (List.append_cancel_left t2).symm
      subst this
      exact h1)
    (by
      refine ⟨[_], [_, _, _, _], rfl, ⟨_, rfl, Kd.R_nil _ _ _ _ _⟩, [_, _], [_, _], rfl, ⟨_, _, rfl, rfl, rfl⟩, [_], [_], rfl, ⟨_, rfl, Kd.R_nil _ _ _ _ _⟩, ⟨_, rfl, fun k hk => ?_, [.int .i64 26, .int .i64 0, .int .i64 0], ?_, ?_⟩⟩
      · have : W.heap.size = k := by simpa [Value.ownBlock] using hk
        subst this
        exact ⟨trivial, fun e => by have := hlL _ e.symm; omega⟩
      · exact World.ownsRow_lit (base := base) (e := 40) (size := 3) W #[.int .i64 26, .int .i64 0, .int .i64 0] 1 hM.hb (by simp [maxLen]) (by simp)
      · refine Reps.snoc (ps := []) (cs := []) (p := (⟨26, 0, 0⟩ : Ins)) (c := [.int .i64 26, .int .i64 0, .int .i64 0]) (Reps.none _ _) ?_ rfl
        exact ⟨[_], [_, _], rfl, rfl, [_], [_], rfl, rfl, rfl⟩) rfl hf hg
  exact h gF' cF' w1 (Lib.hid hM2) (hM1.upto hty (by decide) hf hg).cel hf
theorem aLs {K : Act → World → Prop} (s x : Operand) (z : Nat) (hz : z = W.heap.size) (hM : MSt wn W base g vR vI vN vT vL gF cF code nR nF nI nN nT nL) (hn : nL ≤ 100)
    (hw : Region.wanted o (yielded ops a.tmps) = true) (ho : o.op = .call { callee := .builtin .append, args := #[s, x], argTypes := #[24, 24] })
    (hs : a.eval s = vL) (hx : a.eval x = .slice (some ⟨z, 0, none⟩) 1 1)
    (h : ∀ A1 c1 w2, Hid (MSt wn (w2.setCell ⟨gF, 3, none⟩ (.slice A1 (nL + 1) c1)) base g vR vI vN vT (.slice A1 (nL + 1) c1) gF cF code nR nF nI nN nT (nL + 1)) → Cel w2 g vR (.slice (some ⟨gF, 0, none⟩) (nF + 1) cF) vI vN vT → Below base wn w2 → w2.cell? ⟨gF, 3, none⟩ = some vL → w2.frozen? ⟨gF, 3, none⟩ = false → K (a.put o.dst (.slice A1 (nL + 1) c1)) w2) :
    if Region.wanted o (yielded ops a.tmps) = true then Oper.wp Try.prog o a (W.alloc (.cells #[.int .i64 1, .int .i64 0] 23)) K Q else K (a.put o.dst undef) (W.alloc (.cells #[.int .i64 1, .int .i64 0] 23)) := by
  subst hz
  refine Kd.R_append_step kTy (w0 := wn) (W := W) base hw s x 24 23 (.agg #[.int .i64 0, .int .i64 0]) 16 ho Try.underlying24 infoTy rfl (by decide) (by omega) vL (List.replicate nL num1) num1 [.int .i64 1, .int .i64 0] (fun k => True) (fun k => False) hs hx ⟨_, _, rfl, rfl, rfl⟩ (fun _ hk => hk.elim) (fun _ _ => trivial) hM.rL hM.fr hM.hb (by simp; omega) ?_
  intro v1 w1 h1 hf hg hat
  obtain ⟨A1, c1, rfl⟩ := slice_n h1
  have L := hM.upL h1 hf hg hat
  obtain ⟨inner, hF, hT⟩ := L.rF
  exact h A1 c1 w1 (Lib.hid (L.put 3 (.slice A1 (nL + 1) c1) _ code rfl rfl (by omega))) L.U.cel hf (own_cell_raw hF 3 vL (by simp)).1 (own_cell_raw hF 3 vL (by simp)).2
end
theorem saneCheckV (m : Mod) (h : ModH) (v : Value) (hv : v = m.v h) (w : World) (hm : ModAt w m h) (hok : ModOk m) :
    Calls Try.prog 5 #[v] w fun e w' => e = .returned (.int .i64 (sane m)) ∧ Below w.heap.size w w' := by
  subst hv
  exact saneCheck m h w hm hok
def opsOf : List Int := [0, 1, 3, 25, 27, 28]
theorem saneTab : ∀ k : Fin 8, ∀ op ∈ opsOf, sane (modA (k.val + 1) k.val [⟨op, k.val, 0⟩]) = 0 ∧ sane (modA (k.val + 1) k.val [⟨op, k.val + 1, 0⟩]) = 1 := by decide +kernel
theorem modA_ok (n nF : Nat) (code : List Ins) : ModOk (modA n nF code) := by
  intro x hx
  simp only [modA, List.mem_replicate] at hx
  omega
/-- the one instruction that was just laid -/
theorem ins_at {W : World} {gF : Nat} (op a : Int) (h : gF < W.heap.size) (u : Value) : kIns.C ((W.alloc (.cells #[.int .i64 op, .int .i64 a, .int .i64 0] 40)).setCell ⟨gF, 4, none⟩ u) (some ⟨W.heap.size, 0, none⟩) 1 [⟨op, a, 0⟩] :=
  C_one kIns _ _ _ _ _ _ (blk_far (heap_alloc_new W _) (by simp only; omega) u) kIns_mk
theorem MSt.lt {wn W : World} {base g : Nat} {vR vI vN vT vL : Value} {gF cF : Nat} {code : Value} {nR nF nI nN nT nL : Nat} (h : MSt wn W base g vR vI vN vT vL gF cF code nR nF nI nN nT nL) : gF < W.heap.size := by
  obtain ⟨inner, hF, hT⟩ := h.rF
  exact own_lt hF gF (by simp [Value.ownBlock])
theorem below_pre {w W : World} {o : Obj} (h : Below (w.heap.size + 1) (w.alloc o) W) : Below w.heap.size w W := (bAl w o).trans (h.mono (by omega))
end Go.Proofs.Ytgcokdcdpdndjaa
