/- ref01.Light, ref01.Types. -/
import Derived.Test.YtgcokdcdpdndjaaDoorOpen
import Derived.Test.YtgcokdcdpdndjaaDoorFlowTop
namespace Go.Proofs.YtgcokdcdpdndjaaDoor
open Go.RowKit Go.Proofs.YtgcokdcdpdndjaaDoorW.PrintWords
set_option linter.unusedVariables false
set_option linter.unusedSimpArgs false

def tops (m : Mod) : Nat := m.recs.length + m.funcs.length + m.imports.length + m.ints.length + m.texts.length
def sumOf {α : Type} (f : α → Nat) (l : List α) : Nat := (l.map f).sum
def fnLen (f : Fn) : Nat := f.args.length + f.locals.length + f.code.length
def lightB (m : Mod) : Bool := decide (tops m ≤ 200) && decide (tops m + sumOf List.length m.recs + sumOf fnLen m.funcs + sumOf (fun i : Imp => i.args.length) m.imports + sumOf ByteArray.size m.texts < 3000)
theorem sumOf_take {α : Type} (f : α → Nat) (l : List α) (k : Nat) (x : α) (h : l[k]? = some x) : sumOf f (l.take (k + 1)) = sumOf f (l.take k) + f x := by
  obtain ⟨hk, rfl⟩ := List.getElem?_eq_some_iff.1 h
  rw [sumOf, List.take_succ_eq_append_getElem hk, List.map_append, List.sum_append]; simp [sumOf]
theorem sumOf_le {α : Type} (f : α → Nat) (l : List α) (B : Nat) (h : ∀ x ∈ l, f x ≤ B) : sumOf f l ≤ B * l.length := by
  induction l with
  | nil => simp [sumOf]
  | cons x xs ih =>
    have h1 := h x (by simp)
    have h2 := ih (fun y hy => h y (by simp [hy]))
    simp only [sumOf, List.map_cons, List.sum_cons, List.length_cons] at h2 ⊢
    rw [Nat.mul_add]; omega
theorem sumOf_take_le {α : Type} (f : α → Nat) (l : List α) (k : Nat) (B : Nat) (h : ∀ x ∈ l, f x ≤ B) : sumOf f (l.take k) ≤ B * l.length := by
  refine Nat.le_trans (sumOf_le f _ B (fun x hx => h x (List.mem_of_mem_take hx))) (Nat.mul_le_mul_left _ ?_)
  rw [List.length_take]; omega
theorem reach_eq : reachBytes = 140737488351232 := by decide
set_option maxRecDepth 100000 in
set_option maxHeartbeats 3200000 in
theorem refLight (m : Mod) (h : ModH) (w : World) (hm : ModAt w m h) (hb : ModBig m) :
    Calls Tryd.prog 13 #[m.v h] w fun e w' => e = .returned (.bool (lightB m)) ∧ Below w.heap.size w w' := by
  have l0 := hb.l0
  have l1 := hb.l1
  have l2 := hb.l2
  have l3 := hb.l3
  have l4 := hb.l4
  rw [reach_eq] at l0 l1 l2 l3 l4
  have S0 := Lib.hid (fun k => sumOf_take_le List.length m.recs k 140737488351232 (fun x hx => by have := (hb.r0 x hx).1; rwa [reach_eq] at this))
  have S1 := Lib.hid (fun k => sumOf_take_le fnLen m.funcs k 422212465053696 (fun x hx => by obtain ⟨⟨h1, -⟩, -, ⟨h2, -⟩, h3, -⟩ := hb.r1 x hx; rw [reach_eq] at h1 h2 h3; simp only [fnLen]; omega))
  have S2 := Lib.hid (fun k => sumOf_take_le (fun i : Imp => i.args.length) m.imports k 140737488351232 (fun x hx => by have := (hb.r2 x hx).1.1; rwa [reach_eq] at this))
  have S4 := Lib.hid (fun k => sumOf_take_le ByteArray.size m.texts k 140737488351232 (fun x hx => by have := hb.r4 x hx; rwa [reach_eq] at this))
  have F1 := Lib.hid (fun (f : Fn) (hf : f ∈ m.funcs) => show f.args.length ≤ 140737488351232 ∧ f.locals.length ≤ 140737488351232 ∧ f.code.length ≤ 140737488351232 by obtain ⟨⟨h1, -⟩, -, ⟨h2, -⟩, h3, -⟩ := hb.r1 f hf; rw [reach_eq] at h1 h2 h3; exact ⟨h1, h2, h3⟩)
  have HM := Lib.hid hm
  clear hm hb
  generalize hR : lightB m = R
  have HR := Lib.hid hR
  clear hR
  obtain ⟨q0, cc0, q1, cc1, q2, cc2, q3, cc3, q4, cc4⟩ := h
  unfold Mod.v
  simp only
  obtain ⟨t, ht⟩ : ∃ t, t = tops m := ⟨_, rfl⟩
  have HT := Lib.hid ht
  have ht' : t = m.recs.length + m.funcs.length + m.imports.length + m.ints.length + m.texts.length := ht
  clear ht
  go_enter Tryd.func13, Tryd.ntmps13
  by_cases hT : t ≤ 200
  rotate_left
  · have hT1 : (200 : Int) < (m.recs.length : Int) + m.funcs.length + m.imports.length + m.ints.length + m.texts.length := by omega
    have e1 : R = false := by rw [← HR.out, lightB]; rw [show decide (tops m ≤ 200) = false by rw [← HT.out]; simpa using hT]; rfl
    subst e1
    clear ht'
    go_wp2
    go_ret
    exact ⟨rfl, bAl _ _⟩
  go_wp2_with fail
  have hT2 : (m.recs.length : Int) + m.funcs.length + m.imports.length + m.ints.length + m.texts.length = (t : Int) := by omega
  rw [hT2]
  have b0 : (w.alloc (.cells #[.slice q0 m.recs.length cc0, .slice q1 m.funcs.length cc1, .slice q2 m.imports.length cc2, .slice q3 m.ints.length cc3, .slice q4 m.texts.length cc4] 28)).cell? ⟨w.heap.size, 0, none⟩ = some (.slice q0 m.recs.length cc0) := by go_simp
  have b1 : (w.alloc (.cells #[.slice q0 m.recs.length cc0, .slice q1 m.funcs.length cc1, .slice q2 m.imports.length cc2, .slice q3 m.ints.length cc3, .slice q4 m.texts.length cc4] 28)).cell? ⟨w.heap.size, 1, none⟩ = some (.slice q1 m.funcs.length cc1) := by go_simp
  have b2 : (w.alloc (.cells #[.slice q0 m.recs.length cc0, .slice q1 m.funcs.length cc1, .slice q2 m.imports.length cc2, .slice q3 m.ints.length cc3, .slice q4 m.texts.length cc4] 28)).cell? ⟨w.heap.size, 2, none⟩ = some (.slice q2 m.imports.length cc2) := by go_simp
  have b4 : (w.alloc (.cells #[.slice q0 m.recs.length cc0, .slice q1 m.funcs.length cc1, .slice q2 m.imports.length cc2, .slice q3 m.ints.length cc3, .slice q4 m.texts.length cc4] 28)).cell? ⟨w.heap.size, 4, none⟩ = some (.slice q4 m.texts.length cc4) := by go_simp
  have hB := Lib.hid (bAl w (.cells #[.slice q0 m.recs.length cc0, .slice q1 m.funcs.length cc1, .slice q2 m.imports.length cc2, .slice q3 m.ints.length cc3, .slice q4 m.texts.length cc4] 28))
  generalize (w.alloc (.cells #[.slice q0 m.recs.length cc0, .slice q1 m.funcs.length cc1, .slice q2 m.imports.length cc2, .slice q3 m.ints.length cc3, .slice q4 m.texts.length cc4] 28)) = w0 at b0 b1 b2 b4 hB ⊢
  obtain ⟨R0, -, R1, -, R2, -, -, -, R4, -⟩ := HM.out.below hB.out
  simp only at R0 R1 R2 R4
  have R0 := Lib.hid R0
  have R1 := Lib.hid R1
  have R2 := Lib.hid R2
  have R4 := Lib.hid R4
  clear hT2 HM
  obtain ⟨n0, n1, n2, n4⟩ : m.recs.length ≤ 200 ∧ m.funcs.length ≤ 200 ∧ m.imports.length ≤ 200 ∧ m.texts.length ≤ 200 := by omega
  clear ht'
  go_loop [3, 4] (fun n i => ∃ k : Nat, k ≤ m.recs.length ∧ i = .int .i64 k ∧ n = .int .i64 ((t + sumOf List.length (m.recs.take k) : Nat) : Int)) (fun _ i => m.recs.length - (intOf i).toNat)
  case atStart => exact ⟨0, Nat.zero_le _, rfl, by simp [sumOf]⟩
  case round =>
    obtain ⟨k, hk, rfl, rfl⟩ := hrel
    by_cases hlt : k < m.recs.length
    · obtain ⟨ad, x, Ax, cx, rfl, hx, hA, hA2, hy⟩ := at_Tys R0.out k hlt
      have hs2 := S0.out (k + 1)
      have e1 := sumOf_take List.length m.recs k x hx
      clear hA hx
      generalize hU : t + sumOf List.length (m.recs.take k) = u
      have hU2 : t + sumOf List.length (m.recs.take (k + 1)) = u + x.length := by omega
      have e2 : IntKind.i64.wrap ((u : Int) + (x.length : Int)) = (u : Int) + (x.length : Int) := wrapi _ (by omega) (by omega)
      have HU2 := Lib.hid hU2
      clear hU hU2 e1 hs2
      go_wp2_with fail
      go_round
      case rel => exact ⟨k + 1, by omega, by go_num, by rw [HU2.out]; go_num⟩
      case measure => simp [intOf]; omega
    · obtain rfl : k = m.recs.length := by omega
      rw [List.take_length]
      have s0 := S0.out m.recs.length
      rw [List.take_length] at s0
      obtain ⟨t1, ht1⟩ : ∃ x, x = t + sumOf List.length m.recs := ⟨_, rfl⟩
      have hb1 : t1 ≤ 28147497670246600 := by omega
      rw [← ht1]
      have HT1 := Lib.hid ht1
      clear ht1 s0
      go_wp2_with fail
      go_loopw [3, 5] (fun n i W => ∃ k : Nat, k ≤ m.funcs.length ∧ i = .int .i64 k ∧ n = .int .i64 ((t1 + sumOf fnLen (m.funcs.take k) : Nat) : Int) ∧ Below w0.heap.size w0 W) (fun _ i _ => m.funcs.length - (intOf i).toNat)
      case atStart => exact ⟨0, Nat.zero_le _, rfl, by simp [sumOf], Below.refl _ _⟩
      case round =>
        obtain ⟨k, hk, rfl, rfl, hbW⟩ := hrel
        have c1 := pw_cell_below hbW b1
        by_cases hlt : k < m.funcs.length
        · obtain ⟨ad, x, hh, rfl, hx, hF, y0, -, -, y3, y4⟩ := at_Fn (Kd.C_below R1.out hbW) k hlt
          have hs2 := S1.out (k + 1)
          have e1 := sumOf_take fnLen m.funcs k x hx
          obtain ⟨f1, f2, f3⟩ := F1.out x (List.mem_of_getElem? hx)
          have hm1 := C_len R1.out
          clear hF hx
          generalize hU : t1 + sumOf fnLen (m.funcs.take k) = u
          simp only [fnLen] at e1
          have hU2 : t1 + sumOf fnLen (m.funcs.take (k + 1)) = u + x.args.length + x.locals.length + x.code.length := by omega
          have e2 : IntKind.i64.wrap ((u : Int) + (x.args.length : Int)) = (u : Int) + (x.args.length : Int) := wrapi _ (by omega) (by omega)
          have e3 : IntKind.i64.wrap ((u : Int) + (x.args.length : Int) + (x.locals.length : Int)) = (u : Int) + (x.args.length : Int) + (x.locals.length : Int) := wrapi _ (by omega) (by omega)
          have e4 : IntKind.i64.wrap ((u : Int) + (x.args.length : Int) + (x.locals.length : Int) + (x.code.length : Int)) = (u : Int) + (x.args.length : Int) + (x.locals.length : Int) + (x.code.length : Int) := wrapi _ (by omega) (by omega)
          have hlt' : (k : Int) < (m.funcs.length : Int) := by omega
          have HU2 := Lib.hid hU2
          clear hU hU2 e1 hs2
          go_wp2_with fail
          go_quiet (fail)
          go_wp2_with fail
          go_roundw
          case rel => exact ⟨k + 1, by omega, by go_num, by rw [HU2.out]; go_num, pw_below_drewN hbW _⟩
          case measure => simp [intOf]; omega
        · obtain rfl : k = m.funcs.length := by omega
          rw [List.take_length]
          have s1 := S1.out m.funcs.length
          rw [List.take_length] at s1
          obtain ⟨t2, ht2⟩ : ∃ x, x = t1 + sumOf fnLen m.funcs := ⟨_, rfl⟩
          have hb2 : t2 ≤ 112589990681682600 := by omega
          rw [← ht2]
          have HT2 := Lib.hid ht2
          clear ht2 s1 hb1
          go_wp2_with fail
          have c2 := pw_cell_below hbW b2
          have c4 := pw_cell_below hbW b4
          have R2 := Lib.hid (Kd.C_below R2.out hbW)
          have R4 := Lib.hid (Kd.C_below R4.out hbW)
          have hB := Lib.hid (blt hB.out hbW)
          clear hbW b0 b1 b2 b4 c1
          go_loop [3, 6] (fun n i => ∃ k : Nat, k ≤ m.imports.length ∧ i = .int .i64 k ∧ n = .int .i64 ((t2 + sumOf (fun i : Imp => i.args.length) (m.imports.take k) : Nat) : Int)) (fun _ i => m.imports.length - (intOf i).toNat)
          case atStart => exact ⟨0, Nat.zero_le _, rfl, by simp [sumOf]⟩
          case round =>
            obtain ⟨k, hk, rfl, rfl⟩ := hrel
            by_cases hlt : k < m.imports.length
            · obtain ⟨ad, x, hh, rfl, hx, hF, y0, -, -⟩ := at_Imp R2.out k hlt
              have hs2 := S2.out (k + 1)
              have e1 := sumOf_take (fun i : Imp => i.args.length) m.imports k x hx
              clear hF hx
              generalize hU : t2 + sumOf (fun i : Imp => i.args.length) (m.imports.take k) = u
              have hU2 : t2 + sumOf (fun i : Imp => i.args.length) (m.imports.take (k + 1)) = u + x.args.length := by omega
              have e2 : IntKind.i64.wrap ((u : Int) + (x.args.length : Int)) = (u : Int) + (x.args.length : Int) := wrapi _ (by omega) (by omega)
              have HU2 := Lib.hid hU2
              clear hU hU2 e1 hs2
              go_wp2_with fail
              go_round
              case rel => exact ⟨k + 1, by omega, by go_num, by rw [HU2.out]; go_num⟩
              case measure => simp [intOf]; omega
            · obtain rfl : k = m.imports.length := by omega
              rw [List.take_length]
              have s2 := S2.out m.imports.length
              rw [List.take_length] at s2
              obtain ⟨t3, ht3⟩ : ∃ x, x = t2 + sumOf (fun i : Imp => i.args.length) m.imports := ⟨_, rfl⟩
              have hb3 : t3 ≤ 141000000000000000 := by omega
              rw [← ht3]
              have HT3 := Lib.hid ht3
              clear ht3 s2 hb2
              go_wp2_with fail
              go_loop [3, 7] (fun n i => ∃ k : Nat, k ≤ m.texts.length ∧ i = .int .i64 k ∧ n = .int .i64 ((t3 + sumOf ByteArray.size (m.texts.take k) : Nat) : Int)) (fun _ i => m.texts.length - (intOf i).toNat)
              case atStart => exact ⟨0, Nat.zero_le _, rfl, by simp [sumOf]⟩
              case round =>
                obtain ⟨k, hk, rfl, rfl⟩ := hrel
                by_cases hlt : k < m.texts.length
                · obtain ⟨ad, x, c, rfl, hx, hK, hc⟩ := C_at R4.out k hlt
                  obtain rfl : c = [.string x] := hK
                  have y0 : wr.cell? (ad.add k) = some (.string x) := by
                    have := hc 0 _ rfl
                    simpa [Kd.string, Kd.scalar] using this
                  have hs2 := S4.out (k + 1)
                  have e1 := sumOf_take ByteArray.size m.texts k x hx
                  clear hc hx
                  generalize hU : t3 + sumOf ByteArray.size (m.texts.take k) = u
                  have hU2 : t3 + sumOf ByteArray.size (m.texts.take (k + 1)) = u + x.size := by omega
                  have e2 : IntKind.i64.wrap ((u : Int) + (x.size : Int)) = (u : Int) + (x.size : Int) := wrapi _ (by omega) (by omega)
                  have HU2 := Lib.hid hU2
                  clear hU hU2 e1 hs2
                  go_wp2_with fail
                  go_round
                  case rel => exact ⟨k + 1, by omega, by go_num, by rw [HU2.out]; go_num⟩
                  case measure => simp [intOf]; omega
                · obtain rfl : k = m.texts.length := by omega
                  rw [List.take_length]
                  have s4 := S4.out m.texts.length
                  rw [List.take_length] at s4
                  obtain ⟨t4, ht4⟩ : ∃ x, x = t3 + sumOf ByteArray.size m.texts := ⟨_, rfl⟩
                  have hb4 : t4 ≤ 170000000000000000 := by omega
                  rw [← ht4]
                  have HT4 := Lib.hid ht4
                  clear ht4 s4 hb3
                  go_wp2_with fail
                  go_ret
                  refine ⟨ret_bool ?_, hB.out⟩
                  rw [← HR.out, lightB, ← HT.out, ← HT1.out, ← HT2.out, ← HT3.out, ← HT4.out, decide_eq_true hT, Bool.true_and]
                  rw [Bool.eq_iff_iff]; simp; omega
theorem types_take {a b : List Ty} {k : Nat} {x y : Ty} (h : a.take k = b.take k) (hx : a[k]? = some x) (hy : b[k]? = some y) (e : x = y) : a.take (k + 1) = b.take (k + 1) := by
  obtain ⟨h1, rfl⟩ := List.getElem?_eq_some_iff.1 hx
  obtain ⟨h2, rfl⟩ := List.getElem?_eq_some_iff.1 hy
  rw [List.take_succ_eq_append_getElem h1, List.take_succ_eq_append_getElem h2, h, e]
set_option maxHeartbeats 3200000 in
theorem refTypes (A B : Option Addr) (c d : Nat) (a b : List Ty) (w : World) (hA : kTy.C w A a.length a) (hB : kTy.C w B b.length b) :
    Calls Tryd.prog 16 #[.slice A a.length c, .slice B b.length d] w fun e w' => e = .returned (.bool (decide (a = b))) ∧ Below w.heap.size w w' := by
  have RA := Lib.hid hA
  have RB := Lib.hid hB
  have l0 := C_len hA
  have l1 := C_len hB
  clear hA hB
  generalize hR : decide (a = b) = R
  have HR := Lib.hid hR
  clear hR
  go_enter Tryd.func16, Tryd.ntmps16
  by_cases hl : a.length = b.length
  rotate_left
  · have e1 : R = false := by rw [← HR.out]; simp; intro e; subst e; exact hl rfl
    subst e1
    have hl' : ¬ (a.length : Int) = b.length := by omega
    clear hl
    go_wp2
    go_ret
    exact ⟨rfl, Below.refl _ _⟩
  · have HL := Lib.hid hl
    have hb1 : ((a.length : Int) != (b.length : Int)) = false := by simp [hl]
    clear hl
    go_wp2_with fail
    obtain ⟨wo, rfl⟩ : ∃ wo : World, wo = w := ⟨_, rfl⟩
    go_loopw [5] (fun i W => ∃ k : Nat, k ≤ a.length ∧ i = .int .i64 k ∧ Hid (a.take k = b.take k) ∧ Below wo.heap.size wo W) (fun i _ => a.length - (intOf i).toNat)
    case atStart => exact ⟨0, Nat.zero_le _, rfl, Lib.hid (by simp), Below.refl _ _⟩
    case round =>
      obtain ⟨k, hk, rfl, HT, hbW⟩ := hrel
      by_cases hlt : k < a.length
      · have hll := HL.out
        have hltb : k < b.length := by omega
        clear hll
        obtain ⟨ad, x, rfl, hx, x0, x1⟩ := at_Ty (Kd.C_below RA.out hbW) k hlt
        obtain ⟨ae, y, rfl, hy, y0, y1⟩ := at_Ty (Kd.C_below RB.out hbW) k hltb
        have HX := Lib.hid hx
        have HY := Lib.hid hy
        clear hx hy
        by_cases he : x = y
        · subst he
          have t1 : (x.kind == x.kind) = true := by simp
          have t2 : (x.n == x.n) = true := by simp
          go_wp2_with fail
          go_quiet (fail)
          go_wp2_with fail
          go_roundw
          case rel => exact ⟨k + 1, by omega, by go_num, Lib.hid (types_take HT.out HX.out HY.out rfl), pw_below_drewN hbW _⟩
          case measure => simp [intOf]; omega
        · have e1 : R = false := by
            rw [← HR.out]; simp; intro e
            have h1 := HX.out; have h2 := HY.out
            rw [e, h2] at h1; injection h1 with h1; exact he h1.symm
          subst e1
          have hne : ¬ (x.kind = y.kind ∧ x.n = y.n) := fun h => he (by cases x; cases y; simp_all)
          clear he
          by_cases hk1 : x.kind = y.kind
          · have t1 : (x.kind == y.kind) = true := by simp [hk1]
            have t2 : (x.n == y.n) = false := by simp; exact fun h => hne ⟨hk1, h⟩
            clear hk1 hne
            go_wp2_with fail
            go_quiet (fail)
            go_wp2_with fail
            go_ret
            exact ⟨rfl, pw_below_drewN hbW _⟩
          · have t1 : (x.kind == y.kind) = false := by simp [hk1]
            clear hk1 hne
            go_wp2_with fail
            go_quiet (fail)
            go_wp2_with fail
            go_ret
            exact ⟨rfl, pw_below_drewN hbW _⟩
      · obtain rfl : k = a.length := by omega
        go_wp2_with fail
        go_ret
        refine ⟨ret_bool ?_, hbW⟩
        have h1 := HT.out
        rw [List.take_length, HL.out, List.take_length] at h1
        rw [← HR.out]; simp [h1]
end Go.Proofs.YtgcokdcdpdndjaaDoor
