/- Rows of bytes: append; num.Var. -/
import Derived.Test.YtgcokdcdpdndjaaDoorKindFns
import Derived.Lib.Hide
namespace Go.Proofs.YtgcokdcdpdndjaaDoor
open Go.RowKit Go.Proofs.YtgcokdcdpdndjaaDoorW.PrintWords
set_option linter.unusedVariables false
set_option linter.unusedSimpArgs false

theorem infoU8 : (Tryd.prog.info? 5).map (fun i => (i.zero, i.size, i.bytes)) = some (some (.int .u8 0), 1, 1) := by kernel_rfl
/-- a row of bytes of the call's own -/
def OB (w : World) (base : Nat) (v : Value) (bs : List Int) : Prop := Kd.R (Kd.int .u8) 5 w base (fun _ => True) v bs
theorem OB.nil (w : World) (base : Nat) : OB w base (.slice none 0 0) [] := Kd.R_nil _ _ _ _ _
theorem OB.below {w W : World} {base : Nat} {v : Value} {bs : List Int} (h : OB w base v bs) (hb : Below w.heap.size w W) : OB W base v bs := Kd.R_below h hb
theorem OB.lower {w : World} {base b' : Nat} {v : Value} {bs : List Int} (h : OB w base v bs) (hb : b' ≤ base) : OB w b' v bs := Kd.R_lower h hb
theorem OB.alloc {w : World} {base : Nat} {v : Value} {bs : List Int} (h : OB w base v bs) (o : Obj) : OB (w.alloc o) base v bs := Kd.R_alloc h o
theorem OB.reads {w : World} {base : Nat} {v : Value} {bs : List Int} (h : OB w base v bs) : ∃ A c, v = .slice A bs.length c ∧ bs.length ≤ c ∧ Kd.C (Kd.int .u8) w A bs.length bs := Kd.R_reads h
theorem OB.lit (W : World) (base : Nat) (y : Int) (hb : base ≤ W.heap.size) : OB (W.alloc (.cells #[.int .u8 y] 5)) base (.slice (some ⟨W.heap.size, 0, none⟩) 1 1) [y] :=
  Kd.R_of_own (enc := Value.int .u8) (h1 := fun _ => rfl) (own_lit W base 5 .u8 [y] hb (by simp)) (fun _ _ => trivial)
theorem OB.C {w : World} {base : Nat} {A : Option Addr} {n c : Nat} {bs : List Int} (h : OB w base (.slice A n c) bs) : Kd.C (Kd.int .u8) w A n bs := by
  obtain ⟨A', c', he, _, hC⟩ := Kd.R_reads h
  injection he with h1 h2 h3
  subst h1 h2
  exact hC
theorem OB.other {w W : World} {base : Nat} {v v' : Value} {bs : List Int} (h : OB w base v bs) (hg : w.grownBy W v'.ownBlock) (hn : ∀ k, v.ownBlock = some k → v'.ownBlock ≠ some k) : OB W base v bs := by
  have h2 : Kd.R (Kd.int .u8) 5 w base (fun k => some k ≠ v'.ownBlock) v bs := ⟨fun k hk e => hn k hk e.symm, h.2.imp_ (fun _ _ hp => hp)⟩
  exact Kd.R_mono (Kd.R_grown h2 hg (fun _ hk => hk)) (fun _ _ => trivial)
theorem OB.far {w : World} {base : Nat} {v : Value} {bs : List Int} (h : OB w base v bs) {g : Nat} (hn : ∀ k, v.ownBlock = some k → k ≠ g) (j : Nat) (u : Value) : OB (w.setCell ⟨g, j, none⟩ u) base v bs := by
  have h2 : Kd.R (Kd.int .u8) 5 w base (fun k => k ≠ g) v bs := ⟨fun k hk => hn k hk, h.2.imp_ (fun _ _ hp => hp)⟩
  exact Kd.R_mono (Kd.R_far (p := ⟨g, j, none⟩) h2 (fun _ hk => hk) u) (fun _ _ => trivial)
section
variable {ops : Array Oper} {rest : List Oper} {o : Oper} {a : Act} {Q : Exit → Act → World → Prop}
theorem g_app {W : World} (s x : Operand) {ts : Array TypeId} (_ho : o.op = .call { callee := .builtin .append, args := #[s, x], argTypes := ts }) (h : wpList Tryd.prog ops Q (o :: rest) a W) : wpList Tryd.prog ops Q (o :: rest) a W := h
/-- append(v, y): the goal's world has the variadic's box -/
theorem app1 {W : World} (s x : Operand) (base : Nat) (v : Value) (xs : List Int) (y : Int)
    (HO : OB W base v xs) (hbase : base ≤ W.heap.size) (hl : xs.length ≤ 1000000000000)
    (hgd : o.guard = none) (ho : o.op = .call { callee := .builtin .append, args := #[s, x], argTypes := #[78, 78] })
    (hs : a.eval s = v) (hx : a.eval x = .slice (some ⟨W.heap.size, 0, none⟩) 1 1) 
    (h : ∀ v1 w1, Hid (OB w1 base v1 (xs ++ [y])) → Below base W w1 → W.grownBy w1 v.ownBlock → (v1.ownBlock = v.ownBlock ∨ ∃ b, v1.ownBlock = some b ∧ W.heap.size ≤ b) → wpList Tryd.prog ops Q rest (a.put o.dst v1) w1) :
    wpList Tryd.prog ops Q (o :: rest) a (W.alloc (.cells #[.int .u8 y] 5)) :=
  Kd.R_append (Kd.int .u8) base hgd s x 78 5 (.int .u8 0) 1 ho Tryd.underlying78 infoU8 rfl (by decide) (by omega) v xs y [.int .u8 y] (fun _ => True) (fun _ => False) hs hx rfl (fun _ hk => hk.elim) (fun _ _ => trivial) HO (Below.refl _ _) hbase (by omega)
    (fun v1 w1 h1 h2 h3 h4 => h v1 w1 (Lib.hid h1) h2 h3 h4)
/-- append(v, ys...) -/
theorem appN {W : World} (s x : Operand) (base : Nat) (v : Value) (xs ys : List Int) (A : Option Addr) (m c : Nat)
    (HO : OB W base v xs) (HR : Kd.C (Kd.int .u8) W A m ys) (hbase : base ≤ W.heap.size) (hl : xs.length + m ≤ 1000000000000)
    (hgd : o.guard = none) (ho : o.op = .call { callee := .builtin .append, args := #[s, x], argTypes := #[78, 78] })
    (hs : a.eval s = v) (hx : a.eval x = .slice A m c) 
    (h : ∀ v1 w1, Hid (OB w1 base v1 (xs ++ ys)) → Below base W w1 → W.grownBy w1 v.ownBlock → (v1.ownBlock = v.ownBlock ∨ ∃ b, v1.ownBlock = some b ∧ W.heap.size ≤ b) → wpList Tryd.prog ops Q rest (a.put o.dst v1) w1) :
    wpList Tryd.prog ops Q (o :: rest) a W :=
  Kd.R_append_rows (Kd.int .u8) (Rr := (Kd.int .u8).K W) base hgd s x 78 5 (.int .u8 0) 1 ho Tryd.underlying78 infoU8 rfl (by decide) (by omega) v xs ys A m c (fun _ => True) (fun _ => False) hs hx HO HR (fun _ _ hk => hk) (fun _ hk => hk.elim) (fun _ _ => trivial) (Below.refl _ _) hbase (by omega)
    (fun v1 w1 h1 h2 h3 h4 => h v1 w1 (Lib.hid h1) h2 h3 h4)
end
section
variable {ops : Array Oper} {o : Oper} {a : Act} {Q : Exit → Act → World → Prop} {K : Act → World → Prop}
theorem gs_app {W : World} (s x : Operand) {ts : Array TypeId} (_ho : o.op = .call { callee := .builtin .append, args := #[s, x], argTypes := ts })
    (h : if Region.wanted o (yielded ops a.tmps) = true then Oper.wp Tryd.prog o a W K Q else K (a.put o.dst undef) W) : if Region.wanted o (yielded ops a.tmps) = true then Oper.wp Tryd.prog o a W K Q else K (a.put o.dst undef) W := h
/-- append(v, ys...) as a step of a region that draws -/
theorem appNs {W : World} (s x : Operand) (base : Nat) (v : Value) (xs ys : List Int) (A : Option Addr) (m c : Nat)
    (HO : OB W base v xs) (HR : Kd.C (Kd.int .u8) W A m ys) (hbase : base ≤ W.heap.size) (hl : xs.length + m ≤ 1000000000000)
    (hw : Region.wanted o (yielded ops a.tmps) = true) (ho : o.op = .call { callee := .builtin .append, args := #[s, x], argTypes := #[78, 78] })
    (hs : a.eval s = v) (hx : a.eval x = .slice A m c) 
    (h : ∀ v1 w1, Hid (OB w1 base v1 (xs ++ ys)) → Below base W w1 → W.grownBy w1 v.ownBlock → (v1.ownBlock = v.ownBlock ∨ ∃ b, v1.ownBlock = some b ∧ W.heap.size ≤ b) → K (a.put o.dst v1) w1) :
    if Region.wanted o (yielded ops a.tmps) = true then Oper.wp Tryd.prog o a W K Q else K (a.put o.dst undef) W :=
  Kd.R_append_rows_step (Kd.int .u8) (Rr := (Kd.int .u8).K W) base hw s x 78 5 (.int .u8 0) 1 ho Tryd.underlying78 infoU8 rfl (by decide) (by omega) v xs ys A m c (fun _ => True) (fun _ => False) hs hx HO HR (fun _ _ hk => hk) (fun _ hk => hk.elim) (fun _ _ => trivial) (Below.refl _ _) hbase (by omega)
    (fun v1 w1 h1 h2 h3 h4 => h v1 w1 (Lib.hid h1) h2 h3 h4)
end
/-- A row of bytes that is handed back. -/
def RetB (w : World) (bs : List Int) (e : Ending) (w' : World) : Prop :=
  ∃ A c, e = .returned (.slice A bs.length c) ∧ OB w' w.heap.size (.slice A bs.length c) bs ∧ Below w.heap.size w w'
theorem RetB.open_ {w w' : World} {bs : List Int} {e : Ending} (h : RetB w bs e w') : ∃ A c, e = .returned (.slice A bs.length c) ∧ Hid (OB w' w.heap.size (.slice A bs.length c) bs) ∧ Below w.heap.size w w' := by
  obtain ⟨A, c, h1, h2, h3⟩ := h
  exact ⟨A, c, h1, Lib.hid h2, h3⟩
theorem RetB.mk {w W : World} {v : Value} {bs : List Int} (h : OB W w.heap.size v bs) (hb : Below w.heap.size w W) : RetB w bs (.returned v) W := by
  obtain ⟨A, c, rfl, _, _⟩ := h.reads
  exact ⟨A, c, rfl, h, hb⟩

/-! ### num.Var -/
def varF : Nat → Nat → List Int
  | 0, _ => []
  | f + 1, v => if v < 128 then [(v : Int)] else ((v % 128 + 128 : Nat) : Int) :: varF f (v / 128)
theorem varF_fuel : ∀ (f g v : Nat), v < f → v < g → varF f v = varF g v := by
  intro f
  induction f with
  | zero => intro g v h; omega
  | succ f ih =>
    intro g v h h'
    obtain ⟨g, rfl⟩ : ∃ m, g = m + 1 := ⟨g - 1, by omega⟩
    simp only [varF]
    split
    · rfl
    · rw [ih g (v / 128) (by omega) (by omega)]
def varB (v : Nat) : List Int := varF (v + 1) v
theorem varB_lt {v : Nat} (h : v < 128) : varB v = [(v : Int)] := by simp [varB, varF, h]
theorem varB_ge {v : Nat} (h : 128 ≤ v) : varB v = ((v % 128 + 128 : Nat) : Int) :: varB (v / 128) := by
  unfold varB
  rw [show varF (v + 1) v = if v < 128 then [(v : Int)] else ((v % 128 + 128 : Nat) : Int) :: varF v (v / 128) from rfl, if_neg (by omega), varF_fuel v (v / 128 + 1) (v / 128) (by omega) (by omega)]
theorem varB_len : ∀ (k v : Nat), v < 128 ^ (k + 1) → (varB v).length ≤ k + 1 := by
  intro k
  induction k with
  | zero => intro v h; rw [varB_lt (by simpa using h)]; simp
  | succ k ih =>
    intro v h
    by_cases hv : v < 128
    · rw [varB_lt hv]; simp
    · rw [varB_ge (by omega)]
      have := ih (v / 128) (by rw [Nat.div_lt_iff_lt_mul (by omega)]; rw [Nat.pow_succ] at h; omega)
      simp; omega
theorem varB_len64 {v : Nat} (h : v < 18446744073709551616) : (varB v).length ≤ 10 := varB_len 9 v (by omega)
theorem varB_pos (v : Nat) : 1 ≤ (varB v).length := by
  by_cases h : v < 128
  · rw [varB_lt h]; simp
  · rw [varB_ge (by omega)]; simp
theorem or128 : ∀ y : Fin 256, Go.bits .or .u8 (y.val : Int) 128 = ((y.val % 128 + 128 : Nat) : Int) := by decide +kernel
theorem or128' (v : Nat) : Go.bits .or .u8 ((v : Int) % 256) 128 = ((v % 128 + 128 : Nat) : Int) := by
  have := or128 ⟨v % 256, by omega⟩
  simp only at this
  rw [show ((v : Int) % 256) = ((v % 256 : Nat) : Int) by omega, this]
  congr 2; omega

set_option maxHeartbeats 800000 in
theorem numVar (n : Int) (w : World) (h0 : 0 ≤ n) (h1 : n < 18446744073709551616) :
    Calls Tryd.prog 105 #[.int .u64 n] w (RetB w (varB n.toNat)) := by
  obtain ⟨n, rfl⟩ := Int.eq_ofNat_of_zero_le h0
  rw [Int.toNat_natCast]
  have hlen := varB_len64 (v := n) (by omega)
  go_enter Tryd.func105, Tryd.ntmps105
  go_wp2
  go_loopw [0, 3] (fun x v W => ∃ (m : Nat) (bs : List Int), m ≤ n ∧ x = .int .u64 m ∧ Hid (OB W w.heap.size v bs) ∧ Below w.heap.size w W ∧ Hid (bs ++ varB m = varB n)) (fun x _ _ => (intOf x).toNat)
  case atStart => exact ⟨n, [], Nat.le_refl _, rfl, Lib.hid (OB.nil _ _), Below.refl _ _, Lib.hid rfl⟩
  case round =>
    obtain ⟨m, bs, hmn, rfl, HO, HB, HV⟩ := hrel
    have hbl : bs.length ≤ 10 := by have := congrArg List.length HV.out; rw [List.length_append] at this; omega
    by_cases hm : m < 128
    · have hm' : ¬ (128 : Int) ≤ m := by omega
      go_wp2_with ((with_reducible refine g_app (.tmp 14) (.tmp 17) rfl ?_); refine app1 (.tmp 14) (.tmp 17) w.heap.size _ bs _ ?c1 ?c3 ?c4 rfl rfl rfl rfl ?_; (case c1 => exact HO.out); (case c3 => exact HB.size); (case c4 => omega); intro v1 w1 HO1 HB1 _ _)
      go_ret
      rw [← HV.out, varB_lt hm]
      exact RetB.mk HO1.out (HB.trans HB1)
    · have hm' : (128 : Int) ≤ m := by omega
      go_wp2_with ((with_reducible refine g_app (.tmp 8) (.tmp 12) rfl ?_); refine app1 (.tmp 8) (.tmp 12) w.heap.size _ bs _ ?c1 ?c3 ?c4 rfl rfl rfl rfl ?_; (case c1 => exact HO.out); (case c3 => exact HB.size); (case c4 => omega); intro v1 w1 HO1 HB1 _ _)
      go_roundw
      case rel => exact ⟨m / 128, bs ++ [((m % 128 + 128 : Nat) : Int)], by omega, by go_num, by rw [← or128' m]; exact HO1, HB.trans HB1, Lib.hid (by rw [← HV.out, varB_ge (v := m) (by omega), List.append_assoc]; rfl)⟩
      case measure => simp [intOf]; omega
end Go.Proofs.YtgcokdcdpdndjaaDoor
