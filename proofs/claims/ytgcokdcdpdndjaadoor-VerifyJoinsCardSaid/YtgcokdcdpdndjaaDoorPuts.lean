/- kind.Put, inst.Args, inst.may, inst.Put, num.Fixed. -/
import Derived.Test.YtgcokdcdpdndjaaDoorBytes
import Derived.Deep.RegionHeld3
import Derived.Deep.AppendLies
import Derived.Deep.RegionWith
namespace Go.Proofs.YtgcokdcdpdndjaaDoor
open Go.RowKit Go.Proofs.YtgcokdcdpdndjaaDoorW.PrintWords
theorem max2_int' (k k' : IntKind) (x y : Int) : Builtin.max2 (.int k x) (.int k' y) = pure (.int k (max x y)) := by
  simp only [Builtin.max2, gt_iff_lt]; congr 2; rw [Int.max_def]; split <;> split <;> omega
theorem min2_int' (k k' : IntKind) (x y : Int) : Builtin.min2 (.int k x) (.int k' y) = pure (.int k (min x y)) := by
  simp only [Builtin.min2]; congr 2; rw [Int.min_def]; split <;> split <;> omega
attribute [local go_sem] max2_int' min2_int'
set_option linter.unusedVariables false
set_option linter.unusedSimpArgs false

def instArgs (op : Int) : Int :=
  if op = 29 ∨ op = 30 then 2
  else if op = 0 ∨ op = 1 ∨ op = 3 ∨ op = 4 ∨ op = 23 ∨ op = 24 ∨ op = 25 ∨ op = 27 ∨ op = 28 then 1
  else if op < 0 ∨ 42 ≤ op then -1 else 0
set_option maxHeartbeats 800000 in
theorem instArgs_calls (op : Int) (w : World) :
    Calls Tryd.prog 118 #[.int .i64 op] w fun e w' => e = .returned (.int .i64 (instArgs op)) ∧ Below w.heap.size w w' := by
  go_enter Tryd.func118, Tryd.ntmps118
  go_wp2
  all_goals
    go_ret
    refine ⟨ret_int ?_, Below.refl _ _⟩
    go_light
    first | (simp_all [instArgs]; done) | (simp_all [instArgs]; omega) | (simp only [beq_iff_eq, beq_eq_false_iff_ne] at *; unfold instArgs; split <;> (try split) <;> (try split) <;> omega)

def instMay (n : Int) (has : Bool) : Bool := decide (0 ≤ n) && decide (n ≤ 255) && (has || decide (n = 0))
theorem instMay_calls (n : Int) (has : Bool) (w : World) :
    Calls Tryd.prog 119 #[.int .i64 n, .bool has] w fun e w' => e = .returned (.bool (instMay n has)) ∧ Below w.heap.size w w' := by
  cases has
  all_goals
    go_enter Tryd.func119, Tryd.ntmps119
    go_wp2
    all_goals
      go_ret
      refine ⟨ret_bool ?_, Below.refl _ _⟩
      go_light
      first | (simp_all [instMay]; done) | (rw [Bool.eq_iff_iff]; simp_all [instMay]; done) | (rw [Bool.eq_iff_iff]; simp_all [instMay]; omega)

def putTy (t : Ty) : List Int := varB (max t.kind 0).toNat ++ varB (max t.n 0).toNat
theorem wrapu (x : Int) (h0 : 0 ≤ x) (h1 : x ≤ 9223372036854775807) : IntKind.u64.wrap x = x := by unfold IntKind.wrap; simp [IntKind.signed, IntKind.bits]; omega

theorem wmax0 (k : Int) (hk : k ≤ 9223372036854775807) : IntKind.u64.wrap (if k < 0 then 0 else k) = max k 0 := by
  split
  · rw [wrapu _ (by omega) (by omega)]; omega
  · rw [wrapu _ (by omega) (by omega)]; omega
theorem numVarW (k : Int) (W : World) (h0 : 0 ≤ k) (hk : k ≤ 9223372036854775807) :
    Calls Tryd.prog 105 #[.int .u64 (IntKind.u64.wrap k)] W (RetB W (varB k.toNat)) := by
  rw [wrapu k h0 hk]; exact numVar _ _ (by omega) (by omega)

set_option maxHeartbeats 1600000 in
theorem kindPut (k n : Int) (w : World) (hk : k ≤ 9223372036854775807) (hn : n ≤ 9223372036854775807) :
    Calls Tryd.prog 108 #[.agg #[.int .i64 k, .int .i64 n]] w (RetB w (putTy ⟨k, n⟩)) := by
  have hl1 := varB_len64 (v := (max k 0).toNat) (by omega)
  have hl2 := varB_len64 (v := (max n 0).toNat) (by omega)
  unfold putTy
  simp only
  have e1 : (if k < 0 then 0 else k) = max k 0 := by split <;> omega
  have e2 : (if n < 0 then 0 else n) = max n 0 := by split <;> omega
  have b1 : 0 ≤ max k 0 ∧ max k 0 ≤ 9223372036854775807 := by omega
  have b2 : 0 ≤ max n 0 ∧ max n 0 ≤ 9223372036854775807 := by omega
  generalize max k 0 = K at *
  generalize max n 0 = N at *
  obtain ⟨b10, b11⟩ := b1
  obtain ⟨b20, b21⟩ := b2
  go_enter Tryd.func108, Tryd.ntmps108
  go_wp2_with fail
  go_region_held3 (fun w' => w'.cell? ⟨w.heap.size, 0, none⟩ = some (.int .i64 k) ∧ w'.cell? ⟨w.heap.size, 1, none⟩ = some (.int .i64 n) ∧ Below w.heap.size w w')
    ((refine ⟨?_, ?_, ?_⟩ <;> (first | go_keep | exact (bAl _ _).drew | (refine pw_cell_below (by assumption) ?_; go_split_ands; assumption) | (refine blt ?_ (by assumption); go_split_ands; assumption) | (rw [(by assumption : Below (w.heap.size + 1) _ _).cell (by simp)]; go_split_ands; assumption) | (refine Below.trans (by go_split_ands; assumption) (Below.mono (by assumption : Below (w.heap.size + 1) _ _) (by omega))))))
    ((first
      | ((with_reducible refine (numVarW K _ b10 b11).mono ?_); rintro e w1 ⟨A1, c1, rfl, hO1, hb1⟩)
      | ((with_reducible refine (numVarW N _ b20 b21).mono ?_); rintro e w2 ⟨A2, c2, rfl, hO2, hb2⟩)
      | ((with_reducible refine gs_app (.tmp 7) (.tmp 12) rfl ?_); refine appNs (.tmp 7) (.tmp 12) (w.heap.size + 1) (.slice A1 (varB K.toNat).length c1) (varB K.toNat) (varB N.toNat) A2 (varB N.toNat).length c2 ?c1 ?c2 ?c4 ?c5 rfl rfl rfl rfl ?_; (case c1 => exact (hO1.below hb2).lower (by simp)); (case c2 => exact hO2.C); (case c4 => have := hb1.size; have := hb2.size; simp at *; omega); (case c5 => omega); intro v1 w3 hO3 hb3 _ _)))
  all_goals
    go_wp2
    go_ret
    exact RetB.mk (hO3.out.lower (by omega)) (by go_split_ands; assumption)

/-! ### num.Fixed -/
def fixB (v : Nat) : Nat → List Int
  | 0 => []
  | n + 1 => ((v % 256 : Nat) : Int) :: fixB (v / 256) n
theorem fixB_len (v n : Nat) : (fixB v n).length = n := by induction n generalizing v with
  | zero => rfl
  | succ n ih => simp [fixB, ih]
theorem fixB_snoc (n : Nat) : ∀ v, fixB v (n + 1) = fixB v n ++ [((v / 256 ^ n % 256 : Nat) : Int)] := by
  induction n with
  | zero => intro v; simp [fixB]
  | succ n ih =>
    intro v
    rw [fixB, ih (v / 256)]
    rw [show fixB v (n + 1) = ((v % 256 : Nat) : Int) :: fixB (v / 256) n from rfl, List.cons_append, Nat.div_div_eq_div_mul]
    congr 4
    rw [Nat.pow_succ, Nat.mul_comm]

theorem fixE (v k : Nat) : ((v : Int) / 2 ^ (8 * k) % 256) = ((v / 256 ^ k % 256 : Nat) : Int) := by
  have e : (2 : Int) ^ (8 * k) = ((256 ^ k : Nat) : Int) := by
    rw [show (256 : Nat) ^ k = 2 ^ (8 * k) by rw [Nat.pow_mul]]; push_cast; rfl
  rw [e]; rfl
set_option maxHeartbeats 1600000 in
theorem numFixed (v : Nat) (n : Int) (w : World) (hv : v < 18446744073709551616) :
    Calls Tryd.prog 110 #[.int .u64 v, .int .i64 n] w (RetB w (fixB v (min (max n 0) 8).toNat)) := by
  have e1 : (if n < 0 then 0 else n) = max n 0 := by split <;> omega
  have e2 : (if 8 < max n 0 then 8 else max n 0) = min (max n 0) 8 := by split <;> omega
  have hm : min (max n 0) 8 ≤ 8 ∧ 0 ≤ min (max n 0) 8 := by omega
  generalize max n 0 = N at *
  generalize hM : min N 8 = M at *
  clear hM
  obtain ⟨M, rfl⟩ := Int.eq_ofNat_of_zero_le hm.2
  obtain ⟨hm1, _⟩ := hm
  rw [Int.toNat_natCast]
  go_enter Tryd.func110, Tryd.ntmps110
  go_wp2
  go_loopw [5, 10] (fun x i W => ∃ (k : Nat), k ≤ M ∧ i = .int .i64 k ∧ Hid (OB W w.heap.size x (fixB v k)) ∧ Below w.heap.size w W) (fun _ i _ => M - (intOf i).toNat)
  case atStart => exact ⟨0, Nat.zero_le _, rfl, Lib.hid (OB.nil _ _), Below.refl _ _⟩
  case round =>
    obtain ⟨k, hk, rfl, HO, HB⟩ := hrel
    by_cases hlt : k < M
    · go_wp2_with ((with_reducible refine g_app (.tmp 13) (.tmp 19) rfl ?_); refine app1 (.tmp 13) (.tmp 19) w.heap.size _ (fixB v k) _ ?c1 ?c3 ?c4 rfl rfl rfl rfl ?_; (case c1 => exact HO.out); (case c3 => exact HB.size); (case c4 => rw [fixB_len]; omega); intro v1 w1 HO1 HB1 _ _)
      go_roundw
      case rel => exact ⟨k + 1, by omega, by go_num, Lib.hid (by rw [fixB_snoc, ← fixE]; exact HO1.out), HB.trans HB1⟩
      case measure => simp [intOf]; omega
    · go_wp2
      go_ret
      obtain rfl : k = M := by omega
      exact RetB.mk HO.out HB

/-! ### inst.Put -/
theorem instArgs_range (op : Int) : (instArgs op = -1 ∨ instArgs op = 0 ∨ instArgs op = 1 ∨ instArgs op = 2) ∧ (0 ≤ instArgs op → 0 ≤ op ∧ op < 42) := by
  unfold instArgs; repeat' split
  all_goals omega
def insPut (i : Ins) : List Int :=
  if instArgs i.op < 0 ∨ instMay i.a (decide (0 < instArgs i.op)) = false ∨ instMay i.b (decide (1 < instArgs i.op)) = false then []
  else i.op :: ((([i.a, i.b].take (instArgs i.op).toNat).map fun x => varB x.toNat).flatten)
theorem instMay_bd {n : Int} {b : Bool} (h : instMay n b = true) : 0 ≤ n ∧ n ≤ 255 := by simp [instMay] at h; omega

def ins2 (a b : Int) (k : Nat) : List Int := (([a, b].take k).map fun x => varB x.toNat).flatten
theorem ins2_len {a b : Int} (ha : a ≤ 255) (hb : b ≤ 255) (k : Nat) : (ins2 a b k).length ≤ 20 := by
  have h1 := varB_len64 (v := a.toNat) (by omega)
  have h2 := varB_len64 (v := b.toNat) (by omega)
  unfold ins2
  rcases k with _ | _ | k <;> simp <;> omega
theorem insPut_bad (i : Ins) (N : Int) (p1 p2 : Bool) (hN : instArgs i.op = N) (h1 : decide (0 < N) = p1) (h2 : decide (1 < N) = p2) (h : instMay i.a p1 = false ∨ instMay i.b p2 = false) : insPut i = [] := by
  unfold insPut; rw [hN, h1, h2]; rcases h with h | h <;> simp [h]
theorem insPut_ok (i : Ins) (N : Nat) (p1 p2 : Bool) (hN : instArgs i.op = N) (h1 : decide (0 < (N : Int)) = p1) (h2 : decide (1 < (N : Int)) = p2) (h : instMay i.a p1 = true) (h' : instMay i.b p2 = true) : insPut i = i.op :: ins2 i.a i.b N := by
  unfold insPut ins2; rw [hN, h1, h2, h, h']; simp
set_option maxHeartbeats 1600000 in
theorem instPut (op a b : Int) (w : World) :
    Calls Tryd.prog 109 #[.agg #[.int .i64 op, .int .i64 a, .int .i64 b]] w (RetB w (insPut ⟨op, a, b⟩)) := by
  obtain ⟨hN, hop⟩ := instArgs_range op
  have C1 := Lib.hid (instArgs_calls op)
  have C2 := Lib.hid (fun x b w => instMay_calls x b w)
  generalize hNe : instArgs op = N at *
  have HNe := Lib.hid hNe
  clear hNe
  obtain ⟨p1, hp1⟩ : ∃ p1, decide (0 < N) = p1 := ⟨_, rfl⟩
  obtain ⟨p2, hp2⟩ : ∃ p2, decide (1 < N) = p2 := ⟨_, rfl⟩
  have HP1 := Lib.hid hp1
  have HP2 := Lib.hid hp2
  by_cases hneg : N < 0
  · have hfin : insPut ⟨op, a, b⟩ = [] := by simp [insPut, HNe.out, hneg]
    rw [hfin]
    clear hop hp1 hp2 hN
    go_enter Tryd.func109, Tryd.ntmps109
    go_wp2_with fail
    refine (C1.out _).mono ?_
    rintro e w1 ⟨rfl, hb1⟩
    go_wp2
    go_ret
    exact RetB.mk (OB.nil _ _) (blt (bAl _ _) hb1)
  obtain ⟨N, rfl⟩ := Int.eq_ofNat_of_zero_le (show 0 ≤ N by omega)
  have hN2 : N ≤ 2 := by omega
  obtain ⟨hop0, hop1⟩ := hop (by omega)
  clear hop hN hneg
  have hp1' : decide (0 < N) = p1 := by rw [← hp1]; simp
  cases h1 : instMay a p1
  · have hfin := insPut_bad ⟨op, a, b⟩ _ _ _ HNe.out HP1.out HP2.out (.inl h1)
    rw [hfin]
    clear hfin
    have H1 := Lib.hid h1
    clear h1
    go_enter Tryd.func109, Tryd.ntmps109
    go_wp2_with fail
    refine (C1.out _).mono ?_
    rintro e w1 ⟨rfl, hb1⟩
    obtain ⟨hc1, hf1, _⟩ := bcell hb1
    have hz1 : w.heap.size < w1.heap.size := by have := hb1.size; simp at this; omega
    go_wp2_with fail
    refine (C2.out _ _ _).mono ?_
    rintro e w2 ⟨rfl, hb2⟩
    rw [H1.out]
    go_wp2
    go_ret
    exact RetB.mk (OB.nil _ _) (blt (blt (bAl _ _) hb1) hb2)
  cases h2 : instMay b p2
  · have hfin := insPut_bad ⟨op, a, b⟩ _ _ _ HNe.out HP1.out HP2.out (.inr h2)
    rw [hfin]
    clear hfin
    have H1 := Lib.hid h1
    have H2 := Lib.hid h2
    clear h1 h2
    go_enter Tryd.func109, Tryd.ntmps109
    go_wp2_with fail
    refine (C1.out _).mono ?_
    rintro e w1 ⟨rfl, hb1⟩
    obtain ⟨hc1, hf1, _⟩ := bcell hb1
    have hz1 : w.heap.size < w1.heap.size := by have := hb1.size; simp at this; omega
    go_wp2_with fail
    refine (C2.out _ _ _).mono ?_
    rintro e w2 ⟨rfl, hb2⟩
    rw [H1.out]
    obtain ⟨hc2, hf2, _⟩ := bcell hb2
    have hz2 : w.heap.size < w2.heap.size := by have := hb2.size; omega
    go_wp2_with fail
    refine (C2.out _ _ _).mono ?_
    rintro e w3 ⟨rfl, hb3⟩
    rw [H2.out]
    go_wp2
    go_ret
    exact RetB.mk (OB.nil _ _) (blt (blt (blt (bAl _ _) hb1) hb2) hb3)
  rw [insPut_ok ⟨op, a, b⟩ N _ _ HNe.out HP1.out HP2.out h1 h2]
  simp only
  obtain ⟨ha0, ha1⟩ := instMay_bd h1
  obtain ⟨hb0, hb1⟩ := instMay_bd h2
  have H1 := Lib.hid h1
  have H2 := Lib.hid h2
  clear h1 h2
  go_enter Tryd.func109, Tryd.ntmps109
  go_wp2_with fail
  refine (C1.out _).mono ?_
  rintro e w1 ⟨rfl, hb1⟩
  obtain ⟨hc1, hf1, _⟩ := bcell hb1
  have hz1 : w.heap.size < w1.heap.size := by have := hb1.size; simp at this; omega
  go_wp2_with fail
  refine (C2.out _ _ _).mono ?_
  rintro e w2 ⟨rfl, hb2⟩
  rw [H1.out]
  obtain ⟨hc2, hf2, _⟩ := bcell hb2
  have hz2 : w.heap.size < w2.heap.size := by have := hb2.size; omega
  go_wp2_with fail
  refine (C2.out _ _ _).mono ?_
  rintro e w3 ⟨rfl, hb3⟩
  rw [H2.out]
  obtain ⟨hc3, hf3, _⟩ := bcell hb3
  have hz3 : w.heap.size < w3.heap.size := by have := hb3.size; omega
  have hN2' : (N : Int) ≤ 2 := by omega
  go_wp2_with fail
  go_loopw [4, 41] (fun x i W => ∃ k : Nat, k ≤ N ∧ i = .int .i64 k ∧ Hid (OB W w3.heap.size x (op :: ins2 a b k)) ∧ Below w3.heap.size w3 W ∧ Hid (W.cell? ⟨w3.heap.size + 1, 0, none⟩ = some (.int .i64 a)) ∧ Hid (W.cell? ⟨w3.heap.size + 1, 1, none⟩ = some (.int .i64 b)) ∧ Hid (x.ownBlock ≠ some (w3.heap.size + 1))) (fun _ i _ => N - (intOf i).toNat)
  case atStart =>
    refine ⟨0, by omega, rfl, Lib.hid (((OB.lit w3 w3.heap.size op (Nat.le_refl _)).alloc _)), bAl2 _ _ _, Lib.hid ?_, Lib.hid ?_, Lib.hid (by simp [Value.ownBlock])⟩
    all_goals (rw [World.cell?_alloc_at _ _ _ _ (by simp)]; rfl)
  case round =>
    obtain ⟨k, hk, rfl, HO, HB, hca, hcb, HD⟩ := hrel
    have hlen := ins2_len (a := a) (b := b) (by omega) (by omega) k
    by_cases hlt : k < N
    · obtain ⟨x, hx, hx0, hx1, hxs⟩ : ∃ x, wr.cell? ⟨w3.heap.size + 1, k, none⟩ = some (.int .i64 x) ∧ 0 ≤ x ∧ x ≤ 255 ∧ Hid (ins2 a b (k + 1) = ins2 a b k ++ varB x.toNat) := by
        rcases (show k = 0 ∨ k = 1 by omega) with rfl | rfl
        · exact ⟨a, hca.out, by omega, by omega, Lib.hid (by simp [ins2])⟩
        · exact ⟨b, hcb.out, by omega, by omega, Lib.hid (by simp [ins2])⟩
      have hvl := varB_len64 (v := x.toNat) (by omega)
      have hsz := HB.size
      go_wp2_with fail
      with_reducible refine (numVar x _ hx0 (by omega)).mono ?_
      rintro e w4 ⟨A4, c4, rfl, hO4, hb4⟩
      have HO4 := Lib.hid hO4
      clear hO4
      go_wp2_with ((with_reducible refine g_app (.tmp 45) (.tmp 48) rfl ?_); refine appN (.tmp 45) (.tmp 48) w3.heap.size _ (op :: ins2 a b k) (varB x.toNat) A4 (varB x.toNat).length c4 ?c1 ?c2 ?c3 ?c4 rfl rfl rfl rfl ?_; (case c1 => exact HO.out.below hb4); (case c2 => exact HO4.out.C); (case c3 => have := hb4.size; omega); (case c4 => simp; omega); intro v1 w5 HO5 hb5 hg5 hat5)
      go_roundw
      case rel =>
        obtain ⟨-, -, hlt1⟩ := bcell hb4
        have hbk := World.block_lt_of_cell? _ _ hca.out
        simp only at hbk
        refine ⟨k + 1, by omega, by go_num, Lib.hid (by rw [hxs.out, ← List.cons_append]; exact HO5.out), (HB.trans (hb4.mono hsz)).trans hb5, Lib.hid ?_, Lib.hid ?_, Lib.hid ?_⟩
        · exact hg5.cell (pw_cell_below hb4 hca.out) (Ne.symm HD.out)
        · exact hg5.cell (pw_cell_below hb4 hcb.out) (Ne.symm HD.out)
        · rcases hat5 with h | ⟨g, h, hg⟩
          · rw [h]; exact HD.out
          · rw [h]; intro he; injection he with he; omega
      case measure => simp [intOf]; omega
    · go_wp2
      go_ret
      obtain rfl : k = N := by omega
      exact RetB.mk (HO.out.lower (by omega)) (blt (blt (blt (blt (bAl _ _) hb1) hb2) hb3) HB)
end Go.Proofs.YtgcokdcdpdndjaaDoor
