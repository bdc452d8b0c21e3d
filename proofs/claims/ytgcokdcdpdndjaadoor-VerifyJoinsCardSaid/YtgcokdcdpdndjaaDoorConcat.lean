/- slices.Grow, slices.Concat at types. -/
import Derived.Test.YtgcokdcdpdndjaaDoorSub
import Derived.Shelf.Spec.SlicesGrow
namespace Go.Proofs.YtgcokdcdpdndjaaDoor
open Go.RowKit Go.Proofs.YtgcokdcdpdndjaaDoorW.PrintWords Go.Shelf Go.Proofs
set_option linter.unusedVariables false
set_option linter.unusedSimpArgs false
def growTy_ren : Go.Shelf.Ren := ⟨fun | 4 => 89 | n => n, fun | 22 => 29 | 25 => 37 | 3 => 3 | 4 => 4 | 9 => 9 | 20 => 20 | 0 => 0 | 2 => 3 | n => n, fun | n => n⟩
theorem growTy : Go.Proofs.Lays8.n4 Tryd.prog growTy_ren := {
  mixed := by kernel_rfl
  f4 := ⟨Tryd.f89.name, by decide, Tryd.func89.trans (congrArg some (by kernel_rfl))⟩
  t0 := Tryd.underlying0
  a0 := Tryd.isAgg0
  z0 := Tryd.sizeOf0
  v0 := Tryd.zeroValue0
  t3 := Tryd.underlying3
  a3 := Tryd.isAgg3
  z3 := Tryd.sizeOf3
  v3 := Tryd.zeroValue3
  t4 := Tryd.underlying4
  a4 := Tryd.isAgg4
  z4 := Tryd.sizeOf4
  v4 := Tryd.zeroValue4
  t9 := Tryd.underlying9
  a9 := Tryd.isAgg9
  z9 := Tryd.sizeOf9
  v9 := Tryd.zeroValue9
  t20 := Tryd.underlying20
  a20 := Tryd.isAgg20
  z20 := Tryd.sizeOf20
  v20 := Tryd.zeroValue20
  t22 := Tryd.underlying29
  a22 := Tryd.isAgg29
  z22 := Tryd.sizeOf29
  v22 := Tryd.zeroValue29 }

/-- a row of types of the call's own -/
@[reducible] def OT (w : World) (base : Nat) (v : Value) (xs : List Ty) : Prop := kTy.R 37 w base (fun _ => True) v xs
theorem infoTy : (Tryd.prog.info? 37).map (fun i => (i.zero, i.size, i.bytes)) = some (some (.agg #[.int .i64 0, .int .i64 0]), kTy.sz, 16) := by kernel_rfl
theorem ot_new (w : World) (cur : Array Value) (cap : Nat) (hc : cap ≤ maxLen) (hs : cur.size = cap * 2) : OT (w.drew.alloc (.cells cur 37)) w.heap.size (.slice (some ⟨w.heap.size, 0, none⟩) 0 cap) [] :=
  ⟨fun _ _ => trivial, [], ⟨by simp, .inr ⟨w.heap.size, cap, cur, rfl, Nat.le_refl _, heap_alloc_new w.drew (.cells cur 37), Nat.zero_le _, hc, hs, by simp⟩⟩, Reps.none _ _⟩
theorem zcells (n k : Nat) (cs : Array Value) (h : cs.size = k) : (Builtin.zeroCells cs n).size = n * k := by
  rw [size_zeroCells, h]
theorem slicesGrow0 (n : Nat) (hn : n ≤ 1000000000) (w : World) :
    Calls Tryd.prog 89 #[.slice none 0 0, .int .i64 n] w fun e w' => ∃ A c, e = .returned (.slice A 0 c) ∧ Hid (OT w' w.heap.size (.slice A 0 c) []) ∧ Below w.heap.size w w' := by
  rcases Nat.eq_zero_or_pos n with rfl | h0
  · refine (Any8.slices_Grow_room growTy none 0 0 0 w (by omega) (by omega) (by omega) (by omega)).mono ?_
    rintro e w' ⟨rfl, rfl⟩
    exact ⟨none, 0, rfl, Lib.hid (Kd.R_nil _ _ _ _ _), Below.refl _ _⟩
  · obtain ⟨i0, hi, hzz⟩ := Option.map_eq_some_iff.1 infoTy
    simp only [Prod.mk.injEq] at hzz
    obtain ⟨hz, hs, hb⟩ := hzz
    refine (Any8.slices_Grow_grow growTy i0 _ hi hz (by rw [hs]; decide) none 0 0 n [] w (by omega) (by omega) (by rw [hb]; omega) (by omega) (by simp) (fun _ => rfl) (by simp)).mono ?_
    rintro e w' ⟨rfl, rfl⟩
    refine ⟨_, _, rfl, Lib.hid (ot_new _ _ _ (grownCap_le_maxLen _ _ _ _ (by simp [maxLen]; omega)) ?_), (below_drew (Below.refl _ _)).alloc (by simp) _⟩
    have hge := grownCap_ge w (0 + n) 0 (growTy_ren.t 25)
    rw [Array.size_append, Array.size_append, zcells _ 2 _ rfl, zcells _ 2 _ rfl]
    rw [Nat.zero_add] at hge ⊢
    simp only [List.size_toArray, List.length_nil]
    omega
/-- append(v, ys...) at types, in a walk -/
theorem appT {ops : Array Oper} {rest : List Oper} {o : Oper} {a : Act} {Q : Exit → Act → World → Prop} {W : World} (s x : Operand) (base : Nat) (v : Value) (xs ys : List Ty) (A : Option Addr) (m c : Nat)
    (HO : OT W base v xs) (HR : kTy.C W A m ys) (hbase : base ≤ W.heap.size) (hl : xs.length + m ≤ 1000000000)
    (hgd : o.guard = none) (ho : o.op = .call { callee := .builtin .append, args := #[s, x], argTypes := #[29, 29] })
    (hs : a.eval s = v) (hx : a.eval x = .slice A m c)
    (h : ∀ v1 w1, Hid (OT w1 base v1 (xs ++ ys)) → Below base W w1 → W.grownBy w1 v.ownBlock → (v1.ownBlock = v.ownBlock ∨ ∃ b, v1.ownBlock = some b ∧ W.heap.size ≤ b) → wpList Tryd.prog ops Q rest (a.put o.dst v1) w1) :
    wpList Tryd.prog ops Q (o :: rest) a W :=
  Kd.R_append_rows kTy (Rr := kTy.K W) base hgd s x 29 37 (.agg #[.int .i64 0, .int .i64 0]) 16 ho Tryd.underlying29 infoTy rfl (by decide) (by omega) v xs ys A m c (fun _ => True) (fun _ => False) hs hx HO HR (fun _ _ hk => hk) (fun _ hk => hk.elim) (fun _ _ => trivial) (Below.refl _ _) hbase (by omega)
    (fun v1 w1 h1 h2 h3 h4 => h v1 w1 (Lib.hid h1) h2 h3 h4)
/-- a row of types of the call's own that is handed back -/
def TysRet (w : World) (xs : List Ty) (e : Ending) (w' : World) : Prop :=
  ∃ A c, e = .returned (.slice A xs.length c) ∧ Hid (OT w' w.heap.size (.slice A xs.length c) xs) ∧ Below w.heap.size w w'
theorem sum_take (xss : List (List Ty)) (k : Nat) : ((xss.take k).flatten).length ≤ xss.flatten.length := by
  conv => rhs; rw [← List.take_append_drop k xss, List.flatten_append, List.length_append]
  exact Nat.le_add_right _ _
theorem take_succ_flat (xss : List (List Ty)) (k : Nat) (x : List Ty) (h : xss[k]? = some x) : (xss.take (k + 1)).flatten = (xss.take k).flatten ++ x := by
  rw [List.take_add_one, h]; simp
set_option maxHeartbeats 3200000 in
theorem slicesConcat (A : Option Addr) (c : Nat) (xss : List (List Ty)) (w : World) (hC : kTys.C w A xss.length xss) (hn : xss.length ≤ 1000) (hl : xss.flatten.length ≤ 1000000) :
    Calls Tryd.prog 60 #[.slice A xss.length c] w (TysRet w xss.flatten) := by
  have R := Lib.hid hC
  clear hC
  go_enter Tryd.func60, Tryd.ntmps60
  go_wp2_with fail
  go_loopw [3, 11] (fun s i W => ∃ k : Nat, k ≤ xss.length ∧ i = .int .i64 k ∧ s = .int .i64 (((xss.take k).flatten).length : Nat) ∧ W = w) (fun _ i _ => xss.length - (intOf i).toNat)
  case atStart => exact ⟨0, Nat.zero_le _, rfl, rfl, rfl⟩
  case round =>
    obtain ⟨k, hk, rfl, rfl, rfl⟩ := hrel
    by_cases hlt : k < xss.length
    · obtain ⟨ad, x, Ax, cx, rfl, hx, hA, hA2, hy⟩ := at_Tys R.out k hlt
      have hs1 := sum_take xss k
      have hs2 := sum_take xss (k + 1)
      have e1 := congrArg List.length (take_succ_flat xss k x hx)
      rw [List.length_append] at e1
      clear hA hx
      have hcl := hl
      generalize ((xss.take k).flatten).length = s at *
      generalize hS : ((xss.take (k + 1)).flatten).length = s' at *
      have e2 : IntKind.i64.wrap ((s : Int) + (x.length : Int)) = (s' : Int) := by rw [wrapi _ (by omega) (by omega)]; omega
      have e3 : ¬ ((s' : Int) < 0) := by omega
      go_wp2_with fail
      go_roundw
      case rel => exact ⟨k + 1, by omega, by go_num, by rw [hS, e1]; simp, trivial⟩
      case measure => simp [intOf]; omega
    · obtain rfl : k = xss.length := by omega
      rw [List.take_length]
      have hlc := hl
      generalize hF : xss.flatten = F at hl ⊢
      go_wp2_with fail
      refine (slicesGrow0 F.length (by omega) wr).mono ?_
      rintro e w1 ⟨Ag, cg, rfl, HG, hb1⟩
      obtain ⟨hc1, hf1, hsz1⟩ := bcell hb1
      go_wp2_with fail
      obtain ⟨w, rfl⟩ : ∃ w : World, w = wr := ⟨_, rfl⟩
      go_loopw [6, 27] (fun v i W => ∃ k : Nat, k ≤ xss.length ∧ i = .int .i64 k ∧ Hid (OT W w.heap.size v ((xss.take k).flatten)) ∧ Below w.heap.size w W) (fun _ i _ => xss.length - (intOf i).toNat)
      case atStart => exact ⟨0, Nat.zero_le _, rfl, HG, hb1⟩
      case round =>
        obtain ⟨k, hk, rfl, HO, hb⟩ := hrel
        by_cases hlt : k < xss.length
        · obtain ⟨ad, x, Ax, cx, rfl, hx, hA, hA2, hy⟩ := at_Tys R.out k hlt
          have hy0 := pw_cell_below hb hy
          have hs2 := sum_take xss (k + 1)
          have e1 := take_succ_flat xss k x hx
          rw [e1, List.length_append, hF] at hs2
          have HX := Lib.hid (Kd.C_below hA hb)
          have E1 := Lib.hid e1
          clear hy hx hA e1
          go_wp2_with (first | ((with_reducible refine g_app (.tmp 31) (.tmp 32) rfl ?_); refine appT _ _ w.heap.size _ _ _ _ _ _ HO.out HX.out hb.size (by omega) rfl rfl rfl rfl ?_; intro v1 w1' HO1 hb1' hg1 hat1) | fail)
          go_roundw
          case rel => exact ⟨k + 1, by omega, by go_num, Lib.hid (by rw [E1.out]; exact HO1.out), hb.trans hb1'⟩
          case measure => simp [intOf]; omega
        · obtain rfl : k = xss.length := by omega
          rw [List.take_length, hF] at HO
          obtain ⟨Az, cz, rfl⟩ := Kd.R_slice HO.out
          go_wp2_with fail
          go_ret
          rw [hF]
          exact ⟨_, _, rfl, HO, hb⟩
end Go.Proofs.YtgcokdcdpdndjaaDoor
