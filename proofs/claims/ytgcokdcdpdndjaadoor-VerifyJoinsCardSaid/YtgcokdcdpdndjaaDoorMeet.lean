/- verify.checker.meet. -/
import Derived.Test.YtgcokdcdpdndjaaDoorShape
namespace Go.Proofs.YtgcokdcdpdndjaaDoor
open Go.RowKit Go.Proofs.YtgcokdcdpdndjaaDoorW.PrintWords
set_option linter.unusedVariables false
set_option linter.unusedSimpArgs false

/-- a row of ints of the call's own that may begin inside its block -/
@[reducible] def QI (w : World) (base : Nat) (v : Value) (xs : List Int) : Prop := (Kd.int .i64).Q 3 w base (fun _ => True) v xs
def ints (l : List Nat) : List Int := l.map Int.ofNat
/-- the checker at gc -/
structure CS (w0 W : World) (base gc gS : Nat) (q0 q1 q2 q3 q4 : Value) (f : Nat) (X : List Shp) (L : List (Option Addr × Nat)) (todo : List Nat) (prot : Nat → Prop) (vT : Value) : Prop where
  fr : Below base w0 W
  hb : base ≤ W.heap.size
  bc : base ≤ gc
  hc : W.heap[gc]? = some (.cells #[q0, q1, q2, q3, q4, .int .i64 f, .slice (some ⟨gS, 0, none⟩) X.length X.length, vT] 75 (0, 0))
  ss : SS W base gS X L prot
  td : QI W base vT (ints todo)
  pv : ∀ k, vT.ownBlock = some k → ¬ prot k
  pl : ∀ k, prot k → k < W.heap.size ∧ k ≠ gc ∧ k ≠ gS
section
variable {w0 W W' : World} {base gc gS : Nat} {q0 q1 q2 q3 q4 : Value} {f : Nat} {X : List Shp} {L : List (Option Addr × Nat)} {todo : List Nat} {prot : Nat → Prop} {vT : Value}
theorem CS.below (h : CS w0 W base gc gS q0 q1 q2 q3 q4 f X L todo prot vT) (b : Below W.heap.size W W') : CS w0 W' base gc gS q0 q1 q2 q3 q4 f X L todo prot vT :=
  ⟨h.fr.trans (b.mono h.hb), Nat.le_trans h.hb b.size, h.bc, (b.block gc (blk_lt h.hc)).trans h.hc, h.ss.below b, Kd.Q_below h.td b, h.pv, fun k hk => ⟨Nat.lt_of_lt_of_le (h.pl k hk).1 b.size, (h.pl k hk).2⟩⟩
theorem CS.ne (h : CS w0 W base gc gS q0 q1 q2 q3 q4 f X L todo prot vT) : gc ≠ gS := fun e => by
  have := h.ss.hg
  rw [← e, h.hc] at this
  injection this with this; injection this with _ this
  exact absurd this (by decide)
theorem CS.cells (h : CS w0 W base gc gS q0 q1 q2 q3 q4 f X L todo prot vT) :
    W.cell? ⟨gc, 0, none⟩ = some q0 ∧ W.cell? ⟨gc, 1, none⟩ = some q1 ∧ W.cell? ⟨gc, 2, none⟩ = some q2 ∧ W.cell? ⟨gc, 3, none⟩ = some q3 ∧ W.cell? ⟨gc, 4, none⟩ = some q4 ∧ W.cell? ⟨gc, 5, none⟩ = some (.int .i64 f) ∧ W.cell? ⟨gc, 6, none⟩ = some (.slice (some ⟨gS, 0, none⟩) X.length X.length) ∧ W.cell? ⟨gc, 7, none⟩ = some vT ∧ ∀ j, W.frozen? ⟨gc, j, none⟩ = false := by
  refine ⟨?_, ?_, ?_, ?_, ?_, ?_, ?_, ?_, blk_frozen h.hc⟩ <;> (rw [blk_cell h.hc]; rfl)
/-- types part a block from the checker's and the shapes' -/
theorem CS.typed (h : CS w0 W base gc gS q0 q1 q2 q3 q4 f X L todo prot vT) {g : Nat} {cells : Array Value} (hg : W.heap[g]? = some (.cells cells 37 (0, 0))) : g ≠ gc ∧ g ≠ gS := by
  constructor
  · intro e; subst e; rw [h.hc] at hg; injection hg with hg; injection hg with _ hg; exact absurd hg (by decide)
  · intro e; subst e; rw [h.ss.hg] at hg; injection hg with hg; injection hg with _ hg; exact absurd hg (by decide)
theorem CS.protect (h : CS w0 W base gc gS q0 q1 q2 q3 q4 f X L todo prot vT) (p : Nat → Prop) (hp : ∀ (k : Nat) (a : Option Addr × Nat) (g : Nat), L[k]? = some a → blk a = some g → ¬ p g) (hv : ∀ k, vT.ownBlock = some k → ¬ p k) (hl : ∀ k, p k → k < W.heap.size ∧ k ≠ gc ∧ k ≠ gS) : CS w0 W base gc gS q0 q1 q2 q3 q4 f X L todo p vT :=
  ⟨h.fr, h.hb, h.bc, h.hc, h.ss.protect p hp, h.td, hv, hl⟩
/-- c.todo is stored -/
theorem CS.setT {w2 : World} {v1 : Value} {todo' : List Nat} (h : CS w0 W base gc gS q0 q1 q2 q3 q4 f X L todo prot vT) (hq : QI w2 base v1 (ints todo')) (hf : Below base w0 w2) (hgw : W.grownBy w2 vT.ownBlock) (hpv : ∀ k, v1.ownBlock = some k → ¬ prot k) :
    CS w0 (w2.setCell ⟨gc, 7, none⟩ v1) base gc gS q0 q1 q2 q3 q4 f X L todo' prot v1 := by
  have hty : ∀ k, vT.ownBlock = some k → ∃ cells, W.heap[k]? = some (.cells cells 3 (0, 0)) := fun k hk => by
    obtain ⟨_, inner, ho, _⟩ := h.td
    exact (q_typed ho k hk).2
  have ne : ∀ (k : Nat) (cells : Array Value) (T : TypeId), W.heap[k]? = some (.cells cells T (0, 0)) → T ≠ 3 → some k ≠ vT.ownBlock := fun k cells T hk hT e => by
    obtain ⟨c, hc⟩ := hty k e.symm
    rw [hk] at hc; injection hc with hc; injection hc with _ hc; exact hT hc
  have h2 : w2.heap[gc]? = W.heap[gc]? := hgw.block gc (blk_lt h.hc) (ne gc _ _ h.hc (by decide))
  have hS : w2.heap[gS]? = W.heap[gS]? := hgw.block gS (blk_lt h.ss.hg) (ne gS _ _ h.ss.hg (by decide))
  have hne := h.ne
  refine ⟨hf.setCell h.bc _, by simpa [World.setCell] using Nat.le_trans h.hb hgw.size, h.bc, blk_put (h2.trans h.hc) 7 v1 rfl, h.ss.far ((Below.heap_setCell w2 ⟨gc, 7, none⟩ v1 gS (fun e => hne e.symm)).trans hS) (fun k a g ha hg => ?_), ?_, hpv, fun k hk => ⟨by have := (h.pl k hk).1; have := hgw.size; simp [World.setCell]; omega, (h.pl k hk).2⟩⟩
  · obtain ⟨s, hs⟩ : ∃ s, X[k]? = some s := ⟨_, List.getElem?_eq_getElem (by rw [← h.ss.len]; exact (List.getElem?_eq_some_iff.1 ha).1)⟩
    obtain ⟨cells, hc⟩ := Kd.R_typed (h.ss.row k s a hs ha) g (by rw [ownBlock_slice]; exact hg)
    exact (Below.heap_setCell w2 ⟨gc, 7, none⟩ v1 g (h.typed hc).1).trans (hgw.block g (blk_lt hc) (ne g _ _ hc (by decide)))
  · exact Kd.Q_set hq (h2.trans h.hc) (by intro q hq'; simp [Kd.int, Kd.scalar] at hq'; subst hq'; decide) 7 v1
/-- the shapes are turned -/
theorem CS.setS {X' : List Shp} {L' : List (Option Addr × Nat)} (h : CS w0 W base gc gS q0 q1 q2 q3 q4 f X L todo prot vT) (hl : X'.length = X.length) (hs : SS W' base gS X' L' prot) (hf : Below base w0 W') (hsz : W.heap.size ≤ W'.heap.size) (hgc : W'.heap[gc]? = W.heap[gc]?)
    (hT : ∀ k, vT.ownBlock = some k → W'.heap[k]? = W.heap[k]?) : CS w0 W' base gc gS q0 q1 q2 q3 q4 f X' L' todo prot vT := by
  refine ⟨hf, Nat.le_trans h.hb hsz, h.bc, by rw [hgc, hl]; exact h.hc, hs, ?_, h.pv, fun k hk => ⟨Nat.lt_of_lt_of_le (h.pl k hk).1 hsz, (h.pl k hk).2⟩⟩
  obtain ⟨h0, inner, ho, hr⟩ := h.td
  exact ⟨h0, inner, q_move ho hT, hr⟩
/-- c.todo's block is none of types -/
theorem CS.tne (h : CS w0 W base gc gS q0 q1 q2 q3 q4 f X L todo prot vT) {g : Nat} {cells : Array Value} {T : TypeId} (hg : W.heap[g]? = some (.cells cells T (0, 0))) (hT : T ≠ 3) : ∀ k, vT.ownBlock = some k → k ≠ g := fun k hk e => by
  obtain ⟨_, inner, ho, _⟩ := h.td
  obtain ⟨_, c, hc⟩ := q_typed ho k hk
  subst e
  rw [hg] at hc; injection hc with hc; injection hc with _ hc; exact hT hc
end
theorem infoInt : (Tryd.prog.info? 3).map (fun i => (i.zero, i.size, i.bytes)) = some (some (.int .i64 0), (Kd.int .i64).sz, 8) := by kernel_rfl
/-- c.todo = append(c.todo, pc) -/
theorem aTodo {ops : Array Oper} {rest : List Oper} {o : Oper} {a : Act} {Q : Exit → Act → World → Prop} {w0 W : World} {base gc gS : Nat} {q0 q1 q2 q3 q4 : Value} {f : Nat} {X : List Shp} {L : List (Option Addr × Nat)} {todo : List Nat} {prot : Nat → Prop} {vT : Value} {pc : Nat}
    (s x : Operand) (z : Nat) (hz : z = W.heap.size) (hM : CS w0 W base gc gS q0 q1 q2 q3 q4 f X L todo prot vT) (hn : todo.length ≤ 1000000)
    (hgd : o.guard = none) (ho : o.op = .call { callee := .builtin .append, args := #[s, x], argTypes := #[32, 32] })
    (hs : a.eval s = vT) (hx : a.eval x = .slice (some ⟨z, 0, none⟩) 1 1)
    (h : ∀ A1 c1 w2, Hid (CS w0 (w2.setCell ⟨gc, 7, none⟩ (.slice A1 (todo.length + 1) c1)) base gc gS q0 q1 q2 q3 q4 f X L (todo ++ [pc]) prot (.slice A1 (todo.length + 1) c1)) → w2.cell? ⟨gc, 7, none⟩ = some vT → w2.frozen? ⟨gc, 7, none⟩ = false → Hid (∀ k, prot k → (w2.setCell ⟨gc, 7, none⟩ (.slice A1 (todo.length + 1) c1)).heap[k]? = W.heap[k]?) → wpList Tryd.prog ops Q rest (a.put o.dst (.slice A1 (todo.length + 1) c1)) w2) :
    wpList Tryd.prog ops Q (o :: rest) a (W.alloc (.cells #[.int .i64 pc] 3)) := by
  subst hz
  refine Kd.Q_append (Kd.int .i64) (w0 := w0) (W := W) base hgd s x 32 3 (.int .i64 0) 8 ho Tryd.underlying32 infoInt rfl (by decide) (by omega) vT (ints todo) (pc : Int) [.int .i64 pc] (fun _ => True) (fun _ => False) hs hx rfl (fun _ hk => hk.elim) (fun _ _ => trivial) hM.td hM.fr hM.hb (by simp [ints]; omega) ?_
  intro v1 w1 h1 hf hg hat
  have e : ints todo ++ [(pc : Int)] = ints (todo ++ [pc]) := by simp [ints]
  rw [e] at h1
  obtain ⟨A1, c1, rfl, _⟩ := Kd.Q_slice h1
  have hpv : ∀ k, (Value.slice A1 (ints (todo ++ [pc])).length c1).ownBlock = some k → ¬ prot k := fun k hk => by
    rcases hat with hat | ⟨b, hb, hle⟩
    · exact hM.pv k (hat ▸ hk)
    · intro hp
      rw [hb] at hk; injection hk with hk
      have := (hM.pl k hp).1
      omega
  have el : (ints (todo ++ [pc])).length = todo.length + 1 := by simp [ints]
  rw [el] at h1 hpv ⊢
  have hcell := hM.setT h1 hf hg hpv
  have hT7 := hM.tne hM.hc (by decide)
  have hgc : w1.heap[gc]? = W.heap[gc]? := hg.block gc (blk_lt hM.hc) (fun e => hT7 gc e.symm rfl)
  refine h A1 c1 w1 (Lib.hid hcell) ?_ ?_ (Lib.hid fun k hk => (Below.heap_setCell w1 ⟨gc, 7, none⟩ _ k (hM.pl k hk).2.1).trans (hg.block k (hM.pl k hk).1 (fun e => hM.pv k e.symm hk)))
  · rw [blk_cell (hgc.trans hM.hc)]; rfl
  · exact blk_frozen (hgc.trans hM.hc) 7

/-! one round of the join in place -/
def jk (s a : List Ty) (k : Nat) : List Ty := (joinL s a).take k ++ s.drop k
def jf (s a : List Ty) (k : Nat) : Bool := !decide (jk s a k = s)
theorem jk_zero (s a : List Ty) : jk s a 0 = s := by simp [jk]
theorem jf_zero (s a : List Ty) : jf s a 0 = false := by simp [jf, jk_zero]
theorem jk_len {s a : List Ty} (h : s.length = a.length) {k : Nat} (hk : k ≤ s.length) : (jk s a k).length = s.length := by
  simp only [jk, List.length_append, List.length_take, List.length_drop, joinL_len h]; omega
theorem jk_get {s a : List Ty} (h : s.length = a.length) {k : Nat} {x : Ty} (hx : s[k]? = some x) : (jk s a k)[k]? = some x := by
  have hk := (List.getElem?_eq_some_iff.1 hx).1
  have e : ((joinL s a).take k).length = k := by rw [List.length_take, joinL_len h]; omega
  unfold jk
  rw [List.getElem?_append_right (by omega), e, Nat.sub_self, List.getElem?_drop]
  simpa using hx
theorem jk_set {s a : List Ty} (h : s.length = a.length) {k : Nat} {x y : Ty} (hx : s[k]? = some x) (hy : a[k]? = some y) : (jk s a k).set k (joinTy x y) = jk s a (k + 1) := by
  have hk := (List.getElem?_eq_some_iff.1 hx).1
  have e : ((joinL s a).take k).length = k := by rw [List.length_take, joinL_len h]; omega
  have hj : (joinL s a)[k]? = some (joinTy x y) := by simp [joinL, List.getElem?_zipWith, hx, hy]
  unfold jk
  rw [List.set_append_right _ _ (by omega), e, Nat.sub_self, List.take_add_one, hj, List.append_assoc]
  congr 1
  rw [List.drop_eq_getElem_cons hk]
  rfl
theorem jk_all {s a : List Ty} (h : s.length = a.length) : jk s a a.length = joinL s a := by
  unfold jk
  rw [← h, List.drop_length, List.append_nil, List.take_of_length_le (by rw [joinL_len h]; exact Nat.le_refl _)]
theorem jk_same {s a : List Ty} (h : s.length = a.length) {k : Nat} {x y : Ty} (hx : s[k]? = some x) (hy : a[k]? = some y) (e : joinTy x y = x) : jk s a (k + 1) = jk s a k := by
  rw [← jk_set h hx hy, e]
  obtain ⟨h1, h2⟩ := List.getElem?_eq_some_iff.1 (jk_get (a := a) h hx)
  conv => lhs; rw [← h2]
  exact List.set_getElem_self h1
theorem jf_same {s a : List Ty} (h : s.length = a.length) {k : Nat} {x y : Ty} (hx : s[k]? = some x) (hy : a[k]? = some y) (e : joinTy x y = x) : jf s a (k + 1) = jf s a k := by
  unfold jf; rw [jk_same h hx hy e]
theorem jf_true {s a : List Ty} (h : s.length = a.length) {k : Nat} {x y : Ty} (hx : s[k]? = some x) (hy : a[k]? = some y) (e : joinTy x y ≠ x) : jf s a (k + 1) = true := by
  have : jk s a (k + 1) ≠ s := fun e2 => by
    have h3 := congrArg (fun l => l[k]?) (jk_set h hx hy)
    simp only [e2] at h3
    rw [List.getElem?_set_self (List.getElem?_eq_some_iff.1 (jk_get (a := a) h hx)).1, hx] at h3
    injection h3 with h3
    exact e h3
  simp [jf, this]
theorem jf_all {s a : List Ty} (h : s.length = a.length) : jf s a a.length = !decide (joinL s a = s) := by unfold jf; rw [jk_all h]

/-- what meet leaves -/
def MeetRet (w0 : World) (base gc gS : Nat) (q0 q1 q2 q3 q4 : Value) (f : Nat) (prot : Nat → Prop) (w : World) (todo : List Nat) (pc : Nat) (r : Option (List Shp × Bool)) (e : Ending) (W : World) : Prop :=
  match r with
  | none => e = .returned (.bool false) ∧ Below base w0 W
  | some (X', b) => ∃ L' vT', e = .returned (.bool true) ∧ Hid (CS w0 W base gc gS q0 q1 q2 q3 q4 f X' L' (todo ++ if b = true then [pc] else []) prot vT') ∧ Hid (∀ k, prot k → W.heap[k]? = w.heap[k]?)

theorem CS.row {w0 W : World} {base gc gS : Nat} {q0 q1 q2 q3 q4 : Value} {f : Nat} {X : List Shp} {L : List (Option Addr × Nat)} {todo : List Nat} {prot : Nat → Prop} {vT : Value} (h : CS w0 W base gc gS q0 q1 q2 q3 q4 f X L todo prot vT) {k : Nat} {s : Shp} (hs : X[k]? = some s) :
    ∃ A c, L[k]? = some (A, c) ∧ OT W base (.slice A s.stack.length c) s.stack := by
  obtain ⟨⟨A, c⟩, h1, h2⟩ := h.ss.stack hs
  exact ⟨A, c, h1, h2⟩
/-- the shapes' cell is stored: what meet does with an instruction not seen -/
theorem CS.new {w0 W W' : World} {base gc gS : Nat} {q0 q1 q2 q3 q4 : Value} {f : Nat} {X : List Shp} {L : List (Option Addr × Nat)} {todo : List Nat} {prot : Nat → Prop} {vT : Value} {A : Option Addr} {c : Nat} {st : List Ty} (h : CS w0 W base gc gS q0 q1 q2 q3 q4 f X L todo prot vT) {k : Nat} (hk : k < X.length)
    (hb : Below W.heap.size W W') (hO : OT W' W.heap.size (.slice A st.length c) st) (hp : ∀ g, prot g → g < W.heap.size) :
    CS w0 ((W'.setCell ⟨gS, k * 2, none⟩ (.bool true)).setCell ⟨gS, k * 2 + 1, none⟩ (.slice A st.length st.length)) base gc gS q0 q1 q2 q3 q4 f (X.set k ⟨true, st⟩) (L.set k (A, c)) todo prot vT := by
  have hgc := blk_lt h.hc
  refine h.setS (by simp) (h.ss.new hk hb hO (Nat.le_refl _) h.hb hp) (((h.fr.trans (hb.mono h.hb)).setCell h.ss.bg _).setCell h.ss.bg _) (by simpa [World.setCell] using hb.size) ?_ (fun b hbk => ?_)
  · exact (set2_far gc h.ne).trans (hb.block gc hgc)
  · obtain ⟨_, inner, ho, _⟩ := h.td
    obtain ⟨h1, h2⟩ := q_typed ho b hbk
    have hne : b ≠ gS := h.tne h.ss.hg (by decide) b hbk
    obtain ⟨cells, h2⟩ := h2
    exact (set2_far b hne).trans (hb.block b (blk_lt h2))
/-- a type of a shape's stack is stored -/
theorem CS.put {w0 W : World} {base gc gS : Nat} {q0 q1 q2 q3 q4 : Value} {f : Nat} {X : List Shp} {L : List (Option Addr × Nat)} {todo : List Nat} {prot : Nat → Prop} {vT : Value} (h : CS w0 W base gc gS q0 q1 q2 q3 q4 f X L todo prot vT) {k : Nat} {s : Shp} {g c : Nat} (hs : X[k]? = some s) (ha : L[k]? = some (some ⟨g, 0, none⟩, c)) {j : Nat} (hj : j < s.stack.length) (t : Ty) :
    CS w0 ((W.setCell ⟨g, j * 2, none⟩ (.int .i64 t.kind)).setCell ⟨g, j * 2 + 1, none⟩ (.int .i64 t.n)) base gc gS q0 q1 q2 q3 q4 f (X.set k ⟨s.seen, s.stack.set j t⟩) L todo prot vT := by
  obtain ⟨hg1, hg2, hg3⟩ := h.ss.lt ha rfl
  obtain ⟨cells, hc⟩ := Kd.R_typed (h.ss.row k s _ hs ha) g (by rw [ownBlock_slice]; rfl)
  refine h.setS (by simp) (h.ss.put hs ha hj t) (Below.setCell (p := ⟨g, j * 2 + 1, none⟩) (Below.setCell (p := ⟨g, j * 2, none⟩) h.fr hg1 _) hg1 _) (by simp [World.setCell]) (set2_far gc (fun e => (h.typed hc).1 e.symm)) (fun b hbk => set2_far b (h.tne hc (by decide) b hbk))
set_option maxRecDepth 100000 in
set_option maxHeartbeats 6400000 in
theorem verifyMeet {w0 : World} {base gc gS : Nat} {q0 q1 q2 q3 q4 : Value} {f : Nat} {X : List Shp} {L : List (Option Addr × Nat)} {todo : List Nat} {vT : Value} {prot : Nat → Prop} (pc : Nat) (A : Option Addr) (ca : Nat) (a : List Ty) (w : World)
    (hM : CS w0 w base gc gS q0 q1 q2 q3 q4 f X L todo prot vT) (hO : OT w base (.slice A a.length ca) a) (hpA : ∀ k, (Value.slice A a.length ca).ownBlock = some k → prot k) (hpc : pc < X.length) (hX : X.length ≤ 1000) (ht : todo.length ≤ 100000) (hal : a.length ≤ 1000) (hS : ∀ s ∈ X, s.stack.length ≤ 1000) :
    Calls Tryd.prog 64 #[.pointer (some ⟨gc, 0, none⟩), .int .i64 pc, .slice A a.length a.length] w (MeetRet w0 base gc gS q0 q1 q2 q3 q4 f prot w todo pc (meetR X pc a)) := by
  obtain ⟨s, hs⟩ : ∃ s, X[pc]? = some s := ⟨_, List.getElem?_eq_getElem hpc⟩
  have hsl := hS s (List.mem_of_getElem? hs)
  obtain ⟨pA, pk, hL, hrow⟩ := hM.row hs
  obtain ⟨m0, m1, m2, m3, m4, m5, m6, m7, mf⟩ := hM.cells
  obtain ⟨s0, s1, sf⟩ := hM.ss.cell hs hL
  generalize hR : meetR X pc a = R
  have HR := Lib.hid hR
  have HM := Lib.hid hM
  have HO := Lib.hid hO
  have HROW := Lib.hid hrow
  have HS := Lib.hid hs
  have HL := Lib.hid hL
  have hpt : ∀ g, prot g → g < w.heap.size := fun g hg => (hM.pl g hg).1
  have HPA := Lib.hid hpA
  have HPT := Lib.hid hpt
  clear hR hM hO hrow hs hL hS hpt hpA
  cases hseen : s.seen with
  | false =>
    have HSEEN := Lib.hid hseen
    rw [hseen] at s0
    clear hseen
    go_enter Tryd.func64, Tryd.ntmps64
    go_wp2_with fail
    refine (slicesClone A a.length a w (Kd.R_reads' HO.out).2.2 (by omega)).mono ?_
    rintro e w1 ⟨B, cB, rfl, HB, hb1⟩
    go_wp2_with fail
    refine (slicesClip B a.length cB w1 (Kd.R_reads' HB.out).2.1).mono ?_
    rintro e w2 ⟨rfl, hw⟩
    obtain rfl : w1 = w2 := hw.symm
    have hM1 := HM.out.new hpc hb1 HB.out HPT.out
    obtain ⟨t0, t1, tf⟩ := (HM.out.ss.below hb1).cell HS.out HL.out
    have HM1 := Lib.hid hM1
    clear hM1 m0 m1 m2 m3 m4 m5 m6 m7 mf s0 s1 sf
    obtain ⟨m0, m1, m2, m3, m4, m5, m6, m7, mf⟩ := HM1.out.cells
    have hb1h := Lib.hid hb1
    clear hb1
    go_upto_region 4 with fail
    obtain ⟨W3, hW3⟩ : ∃ W, W = (w1.setCell ⟨gS, pc * 2, none⟩ (.bool true)).setCell ⟨gS, pc * 2 + 1, none⟩ (.slice B a.length a.length) := ⟨_, rfl⟩
    rw [← hW3] at HM1 m0 m1 m2 m3 m4 m5 m6 m7 mf ⊢
    have hk3 : ∀ k, prot k → W3.heap[k]? = w.heap[k]? := fun k hk => by
      rw [hW3]
      exact (set2_far k (HM.out.pl k hk).2.2).trans (hb1h.out.block k (HPT.out k hk))
    have HK3 := Lib.hid hk3
    clear hk3 hW3 t0 t1 tf
    go_wp2_with (first
      | ((with_reducible refine g_app (.tmp 36) (.tmp 38) rfl ?_); refine aTodo (.tmp 36) (.tmp 38) _ (by simp) HM1.out (by omega) rfl rfl rfl rfl ?_; intro A5 c5 w5 HM5 u7 uf hg5)
      | fail)
    go_ret
    have hRR := HR.out
    simp only [meetR, HS.out, HSEEN.out, Bool.false_eq_true, if_false] at hRR
    subst hRR
    exact ⟨_, _, rfl, HM5, Lib.hid fun k hk => (hg5.out k hk).trans (HK3.out k hk)⟩
  | true =>
    have HSEEN := Lib.hid hseen
    rw [hseen] at s0
    clear hseen
    by_cases hlen : s.stack.length = a.length
    · rw [hlen] at s1
      have HLEN := Lib.hid hlen
      clear hlen hsl
      have hX0 : X.set pc ⟨true, jk s.stack a 0⟩ = X := by
        obtain ⟨h1, h2⟩ := List.getElem?_eq_some_iff.1 HS.out
        have : (⟨true, jk s.stack a 0⟩ : Shp) = X[pc] := by rw [jk_zero, h2]; have := HSEEN.out; cases s; simp_all
        rw [this]; exact List.set_getElem_self h1
      have HX0 := Lib.hid hX0
      clear hX0
      have HW0 := Lib.hid HM.out.hb
      go_enter Tryd.func64, Tryd.ntmps64
      go_wp2_with fail
      clear m0 m1 m2 m3 m4 m5 m6 m7 mf s0 s1 sf
      go_loopw [52, 8] (fun i b W => ∃ k : Nat, k ≤ a.length ∧ i = .int .i64 k ∧ b = .bool (jf s.stack a k) ∧ Hid (CS w0 W base gc gS q0 q1 q2 q3 q4 f (X.set pc ⟨true, jk s.stack a k⟩) L todo prot vT) ∧ Hid (∀ k, prot k → W.heap[k]? = w.heap[k]?)) (fun i _ _ => a.length - (intOf i).toNat)
      case atStart => exact ⟨0, Nat.zero_le _, rfl, by rw [jf_zero], by rw [HX0.out]; exact HM, Lib.hid fun _ _ => rfl⟩
      case round =>
        obtain ⟨k, hk, rfl, rfl, HM1, HK1⟩ := hrel
        have HO1 := Lib.hid (ot_move HO.out (fun k hk => HK1.out k (HPA.out k hk)))
        obtain ⟨L1, HL1⟩ : ∃ L1, Hid (L1 = jk s.stack a k) := ⟨_, Lib.hid rfl⟩
        have hcur : (X.set pc ⟨true, jk s.stack a k⟩)[pc]? = some ⟨true, jk s.stack a k⟩ := List.getElem?_set_self hpc
        have hcl : (jk s.stack a k).length = a.length := (jk_len HLEN.out (by rw [HLEN.out]; exact hk)).trans HLEN.out
        by_cases hlt : k < a.length
        · obtain ⟨x, hx⟩ : ∃ x, s.stack[k]? = some x := ⟨_, List.getElem?_eq_getElem (by rw [HLEN.out]; exact hlt)⟩
          obtain ⟨y, hy⟩ : ∃ y, a[k]? = some y := ⟨_, List.getElem?_eq_getElem hlt⟩
          obtain ⟨c0, c1, cf⟩ := HM1.out.ss.cell hcur HL.out
          have hrow := HM1.out.ss.row pc _ _ hcur HL.out
          simp only [hcl] at c1 hrow
          obtain ⟨g, rfl, hgb, hgl⟩ := ot_form hrow (by rw [hcl]; omega)
          obtain ⟨ga, rfl, hab, hal2⟩ := ot_form HO1.out (by omega)
          obtain ⟨d0, df0⟩ := ot_cell hrow k x (jk_get HLEN.out hx)
          obtain ⟨d1, df1⟩ := ot_cell2 hrow k x (jk_get HLEN.out hx)
          obtain ⟨u0, uf0⟩ := ot_cell HO1.out k y hy
          obtain ⟨u1, uf1⟩ := ot_cell2 HO1.out k y hy
          have hne := HM1.out.ss.prt pc _ g HL.out rfl
          have hpw : ∀ k, prot k → k < wr.heap.size := fun k hk => (HM1.out.pl k hk).1
          have HPW := Lib.hid hpw
          have HNE := Lib.hid hne
          have HX := Lib.hid hx
          have HY := Lib.hid hy
          have HCUR := Lib.hid hcur
          have HCL := Lib.hid hcl
          clear hne hx hy hrow hcur hcl hpw
          go_wp2_with fail
          have KS : ∀ X : World, Below (wr.alloc (.cells #[.int .i64 y.kind, .int .i64 y.n] 37)).heap.size (wr.alloc (.cells #[.int .i64 y.kind, .int .i64 y.n] 37)) X → (fun w' : World => Below (wr.alloc (.cells #[.int .i64 y.kind, .int .i64 y.n] 37)).heap.size (wr.alloc (.cells #[.int .i64 y.kind, .int .i64 y.n] 37)) w' ∧ w'.cell? ⟨gS, pc * 2 + 1, none⟩ = some (.slice (some ⟨g, 0, none⟩) a.length a.length) ∧ w'.cell? ⟨g, k * 2, none⟩ = some (.int .i64 x.kind) ∧ w'.cell? ⟨g, k * 2 + 1, none⟩ = some (.int .i64 x.n) ∧ w'.cell? ⟨wr.heap.size, 0, none⟩ = some (.int .i64 y.kind) ∧ w'.cell? ⟨wr.heap.size, 1, none⟩ = some (.int .i64 y.n)) X := fun X hb =>
            ⟨hb, pw_cell_below ((bAl wr _).trans (hb.mono (bAl wr _).size)) c1, pw_cell_below ((bAl wr _).trans (hb.mono (bAl wr _).size)) d0, pw_cell_below ((bAl wr _).trans (hb.mono (bAl wr _).size)) d1, pw_cell_below hb (by go_simp), pw_cell_below hb (by go_simp)⟩
          have KS := Lib.hid KS
          have HB3 := Lib.hid (bAl wr (.cells #[.int .i64 y.kind, .int .i64 y.n] 37))
          clear c0 c1 cf d0 df0 d1 df1 u0 uf0 u1 uf1
          generalize (wr.alloc (.cells #[.int .i64 y.kind, .int .i64 y.n] 37)) = w3 at KS HB3 ⊢
          go_region_held3 (fun w' => Below w3.heap.size w3 w' ∧ w'.cell? ⟨gS, pc * 2 + 1, none⟩ = some (.slice (some ⟨g, 0, none⟩) a.length a.length) ∧ w'.cell? ⟨g, k * 2, none⟩ = some (.int .i64 x.kind) ∧ w'.cell? ⟨g, k * 2 + 1, none⟩ = some (.int .i64 x.n) ∧ w'.cell? ⟨wr.heap.size, 0, none⟩ = some (.int .i64 y.kind) ∧ w'.cell? ⟨wr.heap.size, 1, none⟩ = some (.int .i64 y.n))
            ((refine KS.out _ ?_; first | exact below_drew (Below.refl _ _) | exact hbw | exact hbw.alloc hbw.size _ | exact below_set2 hbw (Nat.le_refl _) _ _ | exact Below.alloc (by go_split_ands; assumption) (Below.size (by go_split_ands; assumption)) _ | (trace_state; fail)))
            ((first | (go_at_call 93; with_reducible refine (kindJoin _ _ _ _ _).mono ?_; intro e w1 hr; obtain ⟨rfl, hb1⟩ := hr; have hbw := blt (show Below w3.heap.size w3 _ by go_split_ands; assumption) hb1; obtain ⟨hc1, hf1, hz1⟩ := bcell hb1)))
          all_goals
            rw [show joinTy ⟨x.kind, x.n⟩ ⟨y.kind, y.n⟩ = joinTy x y from rfl]
            generalize hJ : joinTy x y = J
          all_goals first
            | (have hq4 : w1.heap[w3.heap.size]? = some (.cells #[.int .i64 0, .int .i64 0] 37 (0, 0)) := (hb1.block _ (by simp)).trans (heap_alloc_new w3.drew _)
               have kg0 := (set2' hq4 (.int .i64 J.kind) (.int .i64 J.n)).1
               have kg1 := (set2' hq4 (.int .i64 J.kind) (.int .i64 J.n)).2
               have kb := below_set2 hbw (Nat.le_refl _) (.int .i64 J.kind) (.int .i64 J.n)
               clear hq4 hb1 hbw hc1 hf1 hz1
               generalize ((w1.setCell _ _).setCell _ _) = W at kg0 kg1 kb ⊢
               generalize w3.heap.size = g2 at kg0 kg1 ⊢)
            | (have kg0 : (w1.alloc (.cells #[.int .i64 J.kind, .int .i64 J.n] 37)).cell? ⟨w1.heap.size, 0, none⟩ = some (.int .i64 J.kind) := by go_simp
               have kg1 : (w1.alloc (.cells #[.int .i64 J.kind, .int .i64 J.n] 37)).cell? ⟨w1.heap.size, 1, none⟩ = some (.int .i64 J.n) := by go_simp
               have kb := hbw.alloc hbw.size (.cells #[.int .i64 J.kind, .int .i64 J.n] 37)
               clear hb1 hbw hc1 hf1 hz1
               generalize (w1.alloc _) = W at kg0 kg1 kb ⊢
               generalize w1.heap.size = g2 at kg0 kg1 ⊢)
          all_goals
            obtain ⟨_, c1, d0, d1, -, -⟩ := KS.out W kb
            have hW := Lib.hid (blt HB3.out kb)
            have HJ := Lib.hid hJ
            clear kb hJ
            by_cases heq : J = x
            · have e1 : J.kind = x.kind := by rw [heq]
              have e2 : J.n = x.n := by rw [heq]
              have HEQ := Lib.hid heq
              clear heq
              go_wp2_with fail
              go_quiet (fail)
              go_wp2_with fail
              go_roundw
              case rel =>
                have hb := blt hW.out (pw_below_drewN (Below.refl _ _) nq)
                refine ⟨k + 1, by omega, by go_num, by rw [jf_same HLEN.out HX.out HY.out (HJ.out.trans HEQ.out)], Lib.hid ?_, Lib.hid fun k hk => (hb.block k (HPW.out k hk)).trans (HK1.out k hk)⟩
                rw [jk_same HLEN.out HX.out HY.out (HJ.out.trans HEQ.out)]
                exact HM1.out.below hb
              case measure => simp [intOf]; omega
            · have e12 : J.kind ≠ x.kind ∨ (J.kind = x.kind ∧ J.n ≠ x.n) := by
                by_cases h : J.kind = x.kind
                · exact .inr ⟨h, fun h2 => heq (ty_ext h h2)⟩
                · exact .inl h
              have HEQ := Lib.hid heq
              clear heq
              rcases e12 with e1 | ⟨e1, e2⟩
              all_goals
                go_wp2_with fail
                go_quiet (fail)
                go_wp2_with fail
                have hbq := pw_below_drewN (Below.refl W.heap.size W) nq
                have hb5 := blt hW.out hbq
                have kq0 := pw_cell_below hbq kg0
                have kq1 := pw_cell_below hbq kg1
                have hM5 := HM1.out.below hb5
                have hk5 : ∀ k, prot k → (W.drewN nq).heap[k]? = w.heap[k]? := fun k hk => (hb5.block k (HPW.out k hk)).trans (HK1.out k hk)
                clear c1 d0 d1 kg0 kg1 hbq hb5 e1
                try clear e2
                generalize W.drewN nq = W5 at *
                obtain ⟨c0, c1, cf⟩ := hM5.ss.cell HCUR.out HL.out
                have hrow := hM5.ss.row pc _ _ HCUR.out HL.out
                simp only [HCL.out] at c1 hrow
                obtain ⟨d0, df0⟩ := ot_cell hrow k x (jk_get HLEN.out HX.out)
                obtain ⟨d1, df1⟩ := ot_cell2 hrow k x (jk_get HLEN.out HX.out)
                have HM5 := Lib.hid hM5
                have HK5 := Lib.hid hk5
                clear hM5 hk5 hrow
                go_region
                go_wp2_with fail
                have hM6 := HM5.out.put HCUR.out HL.out (j := k) (by rw [HCL.out]; exact hlt) J
                simp only [List.set_set] at hM6
                have ej : (jk s.stack a k).set k J = jk s.stack a (k + 1) := by rw [← HJ.out]; exact jk_set HLEN.out HX.out HY.out
                rw [ej] at hM6
                have hd := below_drew (Below.refl ((W5.setCell ⟨g, k * 2, none⟩ (.int .i64 J.kind)).setCell ⟨g, k * 2 + 1, none⟩ (.int .i64 J.n)).heap.size ((W5.setCell ⟨g, k * 2, none⟩ (.int .i64 J.kind)).setCell ⟨g, k * 2 + 1, none⟩ (.int .i64 J.n)))
                go_roundw
                case rel => exact ⟨k + 1, by omega, by go_num, by rw [jf_true HLEN.out HX.out HY.out (fun h => HEQ.out (HJ.out.symm.trans h))], Lib.hid (hM6.below hd), Lib.hid fun b hb => (hd.block b (hM6.pl b hb).1).trans ((set2_far b (fun e => by subst e; exact HNE.out hb)).trans (HK5.out b hb))⟩
                case measure => simp [intOf]; omega
        · obtain rfl : k = a.length := by omega
          have hjf := jf_all (s := s.stack) (a := a) HLEN.out
          have hM2 := HM1.out
          rw [jk_all HLEN.out] at hM2
          by_cases hj : joinL s.stack a = s.stack
          · have e1 : jf s.stack a a.length = false := by rw [hjf]; simp [hj]
            rw [hj] at hM2
            have hXX : X.set pc ⟨true, s.stack⟩ = X := by have := HX0.out; rwa [jk_zero] at this
            rw [hXX] at hM2
            have hRR := HR.out
            simp only [meetR, HS.out, HSEEN.out, if_true, HLEN.out, hj] at hRR
            subst hRR
            clear hcur hcl hjf hXX
            have HM2 := Lib.hid hM2
            clear hM2 hj
            rw [e1]
            clear e1
            go_wp2_with fail
            go_ret
            exact ⟨L, vT, rfl, by simp only [Bool.false_eq_true, if_false, List.append_nil]; exact HM2, HK1⟩
          · have e1 : jf s.stack a a.length = true := by rw [hjf]; simp [hj]
            have hRR := HR.out
            simp only [meetR, HS.out, HSEEN.out, if_true, HLEN.out, if_neg hj] at hRR
            subst hRR
            clear hcur hcl hjf
            obtain ⟨m0, m1, m2, m3, m4, m5, m6, m7, mf⟩ := hM2.cells
            have HM2 := Lib.hid hM2
            clear hM2 hj
            rw [e1]
            clear e1
            go_wp2_with (first
              | ((with_reducible refine g_app (.tmp 88) (.tmp 90) rfl ?_); refine aTodo (.tmp 88) (.tmp 90) _ (by simp) HM2.out (by omega) rfl rfl rfl rfl ?_; intro A5 c5 w5 HM5 u7 uf hg5)
              | fail)
            go_ret
            exact ⟨_, _, rfl, HM5, Lib.hid fun k hk => (hg5.out k hk).trans (HK1.out k hk)⟩
    · have hRR := HR.out
      simp only [meetR, HS.out, HSEEN.out, if_true, hlen, if_false] at hRR
      subst hRR
      have h1 : (s.stack.length : Int) ≠ a.length := by omega
      go_enter Tryd.func64, Tryd.ntmps64
      go_wp2_with fail
      go_ret
      exact ⟨rfl, HM.out.fr⟩
end Go.Proofs.YtgcokdcdpdndjaaDoor
