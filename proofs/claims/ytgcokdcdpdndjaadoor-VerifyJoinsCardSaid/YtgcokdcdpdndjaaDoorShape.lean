/- verify's shapes in memory. -/
import Derived.Test.YtgcokdcdpdndjaaDoorJoin
namespace Go.Proofs.YtgcokdcdpdndjaaDoor
open Go.RowKit Go.Proofs.YtgcokdcdpdndjaaDoorW.PrintWords
set_option linter.unusedVariables false
set_option linter.unusedSimpArgs false

def blk (a : Option Addr × Nat) : Option Nat := a.1.map (·.block)
theorem ownBlock_slice (A : Option Addr) (n c : Nat) : (Value.slice A n c).ownBlock = A.map (·.block) := by cases A <;> rfl
/-- the cells of a shape whose stack lies at a -/
def shc (s : Shp) (a : Option Addr × Nat) : List Value := [.bool s.seen, .slice a.1 s.stack.length s.stack.length]
def shcs : List Shp → List (Option Addr × Nat) → List Value
  | s :: X, a :: L => shc s a ++ shcs X L
  | _, _ => []
theorem shcs_at : ∀ (X : List Shp) (L : List (Option Addr × Nat)) (k : Nat) (s : Shp) (a : Option Addr × Nat), X[k]? = some s → L[k]? = some a → (shcs X L)[k * 2]? = some (.bool s.seen) ∧ (shcs X L)[k * 2 + 1]? = some (.slice a.1 s.stack.length s.stack.length)
  | [], L, k, s, a, h, _ => by simp at h
  | x :: X, [], k, s, a, _, h => by simp at h
  | x :: X, b :: L, 0, s, a, h, h' => by simp at h h'; subst h h'; exact ⟨rfl, rfl⟩
  | x :: X, b :: L, k + 1, s, a, h, h' => by
    simp at h h'
    obtain ⟨h1, h2⟩ := shcs_at X L k s a h h'
    simp only [shcs, shc]
    rw [show (k + 1) * 2 = k * 2 + 1 + 1 by omega]
    exact ⟨by simpa using h1, by simpa using h2⟩
theorem shcs_set : ∀ (X : List Shp) (L : List (Option Addr × Nat)) (k : Nat) (s' : Shp) (a' : Option Addr × Nat), k < X.length → L.length = X.length → ((shcs X L).set (k * 2) (.bool s'.seen)).set (k * 2 + 1) (.slice a'.1 s'.stack.length s'.stack.length) = shcs (X.set k s') (L.set k a')
  | [], L, k, s', a', h, _ => by simp at h
  | x :: X, [], k, s', a', _, h => by simp at h
  | x :: X, b :: L, 0, s', a', h, _ => rfl
  | x :: X, b :: L, k + 1, s', a', h, hl => by
    have := shcs_set X L k s' a' (by simpa using h) (by simpa using hl)
    rw [show (k + 1) * 2 = k * 2 + 1 + 1 by omega]
    simp only [shcs, shc, List.set_cons_succ, List.cons_append, List.nil_append]
    rw [this]
theorem shcs_same : ∀ (X : List Shp) (L : List (Option Addr × Nat)) (k : Nat) (s s' : Shp), X[k]? = some s → s'.seen = s.seen → s'.stack.length = s.stack.length → L.length = X.length → shcs (X.set k s') L = shcs X L
  | [], L, k, s, s', h, _, _, _ => by simp at h
  | x :: X, [], k, s, s', _, _, _, h => by simp at h
  | x :: X, b :: L, 0, s, s', h, h1, h2, _ => by simp at h; subst h; simp [shcs, shc, h1, h2]
  | x :: X, b :: L, k + 1, s, s', h, h1, h2, hl => by
    have := shcs_same X L k s s' (by simpa using h) h1 h2 (by simpa using hl)
    simp only [List.set_cons_succ, shcs]; rw [this]
theorem shcs_len : ∀ (X : List Shp) (L : List (Option Addr × Nat)), L.length = X.length → (shcs X L).length = X.length * 2
  | [], L, _ => by simp [shcs]
  | x :: X, [], h => by simp at h
  | x :: X, b :: L, h => by
    have := shcs_len X L (by simpa using h)
    simp only [shcs, List.length_append, this, shc, List.length_cons, List.length_nil]; omega

theorem ot_move {W W' : World} {base : Nat} {v : Value} {S : List Ty} (h : OT W base v S) (hm : ∀ k, v.ownBlock = some k → W'.heap[k]? = W.heap[k]?) : OT W' base v S := own_ot (own_move (ot_own h) hm)
theorem flat_set2 : ∀ (S : List Ty) (j : Nat) (t : Ty), j < S.length → ((S.flatMap tyc).set (j * 2) (.int .i64 t.kind)).set (j * 2 + 1) (.int .i64 t.n) = (S.set j t).flatMap tyc
  | [], j, t, h => by simp at h
  | x :: S, 0, t, h => rfl
  | x :: S, j + 1, t, h => by
    have := flat_set2 S j t (by simpa using h)
    rw [show (j + 1) * 2 = j * 2 + 1 + 1 by omega]
    simp only [List.flatMap_cons, tyc, List.cons_append, List.nil_append, List.set_cons_succ] at this ⊢
    rw [this]
theorem ot_put2 {W : World} {base g n c : Nat} {S : List Ty} (h : OT W base (.slice (some ⟨g, 0, none⟩) n c) S) (j : Nat) (t : Ty) (hj : j < S.length) :
    OT ((W.setCell ⟨g, j * 2, none⟩ (.int .i64 t.kind)).setCell ⟨g, j * 2 + 1, none⟩ (.int .i64 t.n)) base (.slice (some ⟨g, 0, none⟩) n c) (S.set j t) := by
  have hn : n = S.length := (Kd.R_reads' h).1
  subst hn
  refine own_ot ?_
  rw [List.length_set, ← flat_set2 S j t hj]
  exact own_store_raw (own_store_raw (ot_own h) (j * 2) _) (j * 2 + 1) _
theorem ot_cell2 {W : World} {base g n c : Nat} {S : List Ty} (h : OT W base (.slice (some ⟨g, 0, none⟩) n c) S) (k : Nat) (t : Ty) (hk : S[k]? = some t) :
    W.cell? ⟨g, k * 2 + 1, none⟩ = some (.int .i64 t.n) ∧ W.frozen? ⟨g, k * 2 + 1, none⟩ = false := by
  have hn : n = S.length := (Kd.R_reads' h).1
  subst hn
  refine own_cell_raw (ot_own h) (k * 2 + 1) _ ?_
  exact flat_at tyc 2 (fun _ => rfl) S k t 1 (.int .i64 t.n) hk rfl
theorem set2_far {W : World} {g a b : Nat} {u v : Value} (k : Nat) (h : k ≠ g) : ((W.setCell ⟨g, a, none⟩ u).setCell ⟨g, b, none⟩ v).heap[k]? = W.heap[k]? :=
  (Below.heap_setCell _ ⟨g, b, none⟩ v k h).trans (Below.heap_setCell W ⟨g, a, none⟩ u k h)

/-- the shapes X at block gS, their stacks at L, each in a block of its own, none of them prot -/
structure SS (W : World) (base gS : Nat) (X : List Shp) (L : List (Option Addr × Nat)) (prot : Nat → Prop) : Prop where
  bg : base ≤ gS
  len : L.length = X.length
  hg : W.heap[gS]? = some (.cells (shcs X L).toArray 45 (0, 0))
  row : ∀ (k : Nat) (s : Shp) (a : Option Addr × Nat), X[k]? = some s → L[k]? = some a → OT W base (.slice a.1 s.stack.length a.2) s.stack
  sep : ∀ (j k : Nat) (a b : Option Addr × Nat) (g : Nat), j ≠ k → L[j]? = some a → L[k]? = some b → blk a = some g → blk b ≠ some g
  prt : ∀ (k : Nat) (a : Option Addr × Nat) (g : Nat), L[k]? = some a → blk a = some g → ¬ prot g
section
variable {W W' : World} {base gS : Nat} {X : List Shp} {L : List (Option Addr × Nat)} {prot : Nat → Prop}
theorem SS.lt (h : SS W base gS X L prot) {k : Nat} {a : Option Addr × Nat} {g : Nat} (ha : L[k]? = some a) (hb : blk a = some g) : base ≤ g ∧ g < W.heap.size ∧ g ≠ gS := by
  obtain ⟨s, hs⟩ : ∃ s, X[k]? = some s := ⟨_, List.getElem?_eq_getElem (by rw [← h.len]; exact (List.getElem?_eq_some_iff.1 ha).1)⟩
  have hr := h.row k s a hs ha
  have hv : (Value.slice a.1 s.stack.length a.2).ownBlock = some g := by rw [ownBlock_slice]; exact hb
  refine ⟨Kd.R_base hr g hv, Kd.R_lt hr g hv, fun e => ?_⟩
  subst e
  obtain ⟨cells, hc⟩ := Kd.R_typed hr g hv
  rw [h.hg] at hc
  injection hc with hc; injection hc with _ hc
  exact absurd hc (by decide)
theorem SS.below (h : SS W base gS X L prot) (hb : Below W.heap.size W W') : SS W' base gS X L prot :=
  ⟨h.bg, h.len, (hb.block gS (blk_lt h.hg)).trans h.hg, fun k s a hs ha => Kd.R_below (h.row k s a hs ha) hb, h.sep, h.prt⟩
/-- another block is protected: one that is none of theirs -/
theorem SS.protect (h : SS W base gS X L prot) (p : Nat → Prop) (hp : ∀ (k : Nat) (a : Option Addr × Nat) (g : Nat), L[k]? = some a → blk a = some g → ¬ p g) : SS W base gS X L p := ⟨h.bg, h.len, h.hg, h.row, h.sep, hp⟩
theorem SS.cell (h : SS W base gS X L prot) {k : Nat} {s : Shp} {a : Option Addr × Nat} (hs : X[k]? = some s) (ha : L[k]? = some a) :
    W.cell? ⟨gS, k * 2, none⟩ = some (.bool s.seen) ∧ W.cell? ⟨gS, k * 2 + 1, none⟩ = some (.slice a.1 s.stack.length s.stack.length) ∧ (∀ j, W.frozen? ⟨gS, j, none⟩ = false) := by
  obtain ⟨h1, h2⟩ := shcs_at X L k s a hs ha
  exact ⟨by rw [blk_cell h.hg]; simpa using h1, by rw [blk_cell h.hg]; simpa using h2, blk_frozen h.hg⟩
/-- a block that is none of the shapes' was written -/
theorem SS.far (h : SS W base gS X L prot) (hg : W'.heap[gS]? = W.heap[gS]?) (hm : ∀ (k : Nat) (a : Option Addr × Nat) (g : Nat), L[k]? = some a → blk a = some g → W'.heap[g]? = W.heap[g]?) : SS W' base gS X L prot :=
  ⟨h.bg, h.len, hg.trans h.hg, fun k s a hs ha => ot_move (h.row k s a hs ha) (fun g hk => hm k a g ha (by rw [ownBlock_slice] at hk; exact hk)), h.sep, h.prt⟩
/-- s.Seen, s.Stack = true, a stack of its own -/
theorem SS.new (h : SS W base gS X L prot) {k : Nat} (hk : k < X.length) {A : Option Addr} {c b2 : Nat} {st : List Ty} (hb : Below W.heap.size W W') (hO : OT W' b2 (.slice A st.length c) st) (hb2 : W.heap.size ≤ b2) (hbb : base ≤ b2) (hp : ∀ g, prot g → g < b2) :
    SS ((W'.setCell ⟨gS, k * 2, none⟩ (.bool true)).setCell ⟨gS, k * 2 + 1, none⟩ (.slice A st.length st.length)) base gS (X.set k ⟨true, st⟩) (L.set k (A, c)) prot := by
  have h' := h.below hb
  have hgS := blk_lt h.hg
  refine ⟨h.bg, by rw [List.length_set, List.length_set]; exact h.len, ?_, fun j s a hs ha => ?_, fun j i a b g hji ha hb' hg => ?_, fun j a g ha hg => ?_⟩
  · have := blk_set (blk_set h'.hg (k * 2) (.bool true)) (k * 2 + 1) (.slice A st.length st.length)
    rw [this]
    congr 2
    rw [← shcs_set X L k ⟨true, st⟩ (A, c) hk h.len]
    simp
  · have far : ∀ g, (Value.slice a.1 s.stack.length a.2).ownBlock = some g → g ≠ gS → ((W'.setCell ⟨gS, k * 2, none⟩ (.bool true)).setCell ⟨gS, k * 2 + 1, none⟩ (.slice A st.length st.length)).heap[g]? = W'.heap[g]? := fun g _ hne => set2_far g hne
    by_cases e : j = k
    · subst e
      rw [List.getElem?_set_self (by simpa using hk)] at hs
      rw [List.getElem?_set_self (by rw [h.len]; exact hk)] at ha
      injection hs with hs; injection ha with ha
      subst hs ha
      refine ot_move (Kd.R_lower hO hbb) (fun g hg => far g hg (fun eg => ?_))
      have := Kd.R_base hO g hg
      omega
    · rw [List.getElem?_set_ne (Ne.symm e)] at hs ha
      exact ot_move (h'.row j s a hs ha) (fun g hg => far g hg (h'.lt ha (by rw [ownBlock_slice] at hg; exact hg)).2.2)
  · have new : ∀ g, blk (A, c) = some g → W.heap.size ≤ g := fun g hg => Nat.le_trans hb2 (Kd.R_base hO g (by rw [ownBlock_slice]; exact hg))
    by_cases e : j = k
    · subst e
      rw [List.getElem?_set_self (by rw [h.len]; exact hk)] at ha
      injection ha with ha; subst ha
      rw [List.getElem?_set_ne hji] at hb'
      intro hgb
      have := (h.lt hb' hgb).2.1
      have := new g hg
      omega
    · rw [List.getElem?_set_ne (Ne.symm e)] at ha
      by_cases e2 : i = k
      · subst e2
        rw [List.getElem?_set_self (by rw [h.len]; exact hk)] at hb'
        injection hb' with hb'; subst hb'
        intro hgb
        have := (h.lt ha hg).2.1
        have := new g hgb
        omega
      · rw [List.getElem?_set_ne (Ne.symm e2)] at hb'
        exact h.sep j i a b g hji ha hb' hg
  · by_cases e : j = k
    · subst e
      rw [List.getElem?_set_self (by rw [h.len]; exact hk)] at ha
      injection ha with ha; subst ha
      intro ep
      have h1 := hp g ep
      have h2 := Kd.R_base hO g (by rw [ownBlock_slice]; exact hg)
      omega
    · rw [List.getElem?_set_ne (Ne.symm e)] at ha
      exact h.prt j a g ha hg
/-- s.Stack[j] = t, in place -/
theorem SS.put (h : SS W base gS X L prot) {k : Nat} {s : Shp} {g c : Nat} (hs : X[k]? = some s) (ha : L[k]? = some (some ⟨g, 0, none⟩, c)) {j : Nat} (hj : j < s.stack.length) (t : Ty) :
    SS ((W.setCell ⟨g, j * 2, none⟩ (.int .i64 t.kind)).setCell ⟨g, j * 2 + 1, none⟩ (.int .i64 t.n)) base gS (X.set k ⟨s.seen, s.stack.set j t⟩) L prot := by
  have hgb : blk (some ⟨g, 0, none⟩, c) = some g := rfl
  have hk : k < X.length := (List.getElem?_eq_some_iff.1 hs).1
  obtain ⟨_, _, hne⟩ := h.lt ha hgb
  refine ⟨h.bg, by rw [List.length_set]; exact h.len, ?_, fun i s' a' hs' ha' => ?_, h.sep, h.prt⟩
  · rw [set2_far gS (fun e => hne e.symm), h.hg, shcs_same X L k s ⟨s.seen, s.stack.set j t⟩ hs rfl (by simp) h.len]
  · by_cases e : i = k
    · subst e
      rw [List.getElem?_set_self hk] at hs'
      injection hs' with hs'; subst hs'
      rw [ha] at ha'; injection ha' with ha'; subst ha'
      simp only [List.length_set]
      exact ot_put2 (h.row i s _ hs ha) j t hj
    · rw [List.getElem?_set_ne (Ne.symm e)] at hs'
      refine ot_move (h.row i s' a' hs' ha') (fun g' hg' => set2_far g' (fun eg => ?_))
      subst eg
      rw [ownBlock_slice] at hg'
      exact h.sep i k a' _ g' e ha' ha hg' rfl
theorem SS.stack (h : SS W base gS X L prot) {k : Nat} {s : Shp} (hs : X[k]? = some s) : ∃ a, L[k]? = some a ∧ OT W base (.slice a.1 s.stack.length a.2) s.stack := by
  have hk : k < L.length := by rw [h.len]; exact (List.getElem?_eq_some_iff.1 hs).1
  exact ⟨L[k], List.getElem?_eq_getElem hk, h.row k s _ hs (List.getElem?_eq_getElem hk)⟩
/-- as a row that is read -/
theorem SS.reads (h : SS W base gS X L prot) (hl : X.length ≤ 9223372036854775807) : kShp.C W (some ⟨gS, 0, none⟩) X.length X := by
  refine C_block kShp W gS _ _ _ X X.length h.hg rfl hl (fun j x hx => ?_)
  obtain ⟨a, ha, hO⟩ := h.stack hx
  obtain ⟨h1, h2⟩ := shcs_at X L j x a hx ha
  refine ⟨[.bool x.seen, .slice a.1 x.stack.length x.stack.length], rfl, kShp_mk (h := ⟨a.1, x.stack.length⟩) ⟨(Kd.R_reads' hO).2.2, Nat.le_refl _⟩, fun i u hu => ?_⟩
  have e : kShp.sz = 2 := rfl
  rw [e]
  rcases i with _ | _ | i
  · simp at hu; subst hu; simpa using h1
  · simp at hu; subst hu; simpa using h2
  · simp at hu
end
end Go.Proofs.YtgcokdcdpdndjaaDoor
