/- chrysalislaw08: answers, FlowOwn. -/
import Derived.Test.YtgcokdcdpdndjaaDoorLight
namespace Go.Proofs.YtgcokdcdpdndjaaDoor
open Go.RowKit Go.Proofs.YtgcokdcdpdndjaaDoorW.PrintWords
set_option linter.unusedVariables false
set_option linter.unusedSimpArgs false

theorem flowFlowV (m : Mod) (h : ModH) (v : Value) (hv : v = m.v h) (f pc : Int) (A : Option Addr) (n c : Nat) (st : List Ty) (w : World) (hgl : Gl w) (hm : ModAt w m h) (hok : ModOk m) (hC : kTy.C w A n st) (hsl : n ≤ 1000) (hsc : n ≤ c) :
    Calls Tryd.prog 15 #[v, .int .i64 f, .int .i64 pc, .slice A n c] w (StepRet w (flowR m f pc st)) := by
  subst hv
  obtain rfl := hC.1
  exact flowFlow m h f pc A c st w hgl hm hok hC hsl hsc
theorem flat_at {α β : Type} (f : α → List β) (s : Nat) (hf : ∀ x, (f x).length = s) : ∀ (l : List α) (j : Nat) (x : α) (i : Nat) (u : β), l[j]? = some x → (f x)[i]? = some u → (l.flatMap f)[j * s + i]? = some u
  | [], j, x, i, u, h, _ => by simp at h
  | y :: l, 0, x, i, u, h, hu => by
    simp at h; subst h
    rw [List.flatMap_cons, Nat.zero_mul, Nat.zero_add, List.getElem?_append_left ((List.getElem?_eq_some_iff.1 hu).1)]
    exact hu
  | y :: l, j + 1, x, i, u, h, hu => by
    simp at h
    rw [List.flatMap_cons, List.getElem?_append_right (by rw [hf, Nat.add_mul]; omega), hf, show (j + 1) * s + i - s = j * s + i by rw [Nat.add_mul]; omega]
    exact flat_at f s hf l j x i u h hu
theorem C_flat {α : Type} (d : Kd α) (f : α → List Value) (hf : ∀ x, (f x).length = d.sz) (hK : ∀ W x, d.K W x (f x)) (W : World) (g : Nat) (cs : Array Value) (T : TypeId) (fr : Nat × Nat) (l : List α) (n : Nat) (hn : l.length = n)
    (hh : W.heap[g]? = some (.cells cs T fr)) (he : cs.toList = l.flatMap f) (hl : n ≤ 9223372036854775807) : d.C W (some ⟨g, 0, none⟩) n l :=
  C_block d W g cs T fr l n hh hn hl (fun j x hx => ⟨f x, hf x, hK W x, fun i u hu => by rw [← Array.getElem?_toList, he]; exact flat_at f d.sz hf l j x i u hx hu⟩)
theorem C_inss (W : World) (g : Nat) (cs : Array Value) (T : TypeId) (fr : Nat × Nat) (l : List Ins) (n : Nat) (hn : l.length = n) (hh : W.heap[g]? = some (.cells cs T fr)) (he : cs.toList = l.flatMap (fun x => [.int .i64 x.op, .int .i64 x.a, .int .i64 x.b])) (hl : n ≤ 9223372036854775807) : kIns.C W (some ⟨g, 0, none⟩) n l :=
  C_flat kIns _ (fun _ => rfl) (fun _ _ => kIns_mk) W g cs T fr l n hn hh he hl
/-- the first of a row of numbers -/
theorem oi_head {W : World} {base : Nat} {B : Option Addr} {n d : Nat} {t : Int} {l : List Int} (h : OI W base (.slice B n d) (t :: l)) : ∃ tb, B = some tb ∧ W.cell? tb = some (.int .i64 t) := by
  obtain ⟨A, c, e, _, hC⟩ := Kd.R_reads h
  injection e with e1 e2 e3
  subst e1
  obtain ⟨tb, eb, hcell⟩ := hC.2.2 (by simp)
  subst eb
  obtain ⟨cs, _, hcs, hcc⟩ := hcell 0 t rfl
  have hcs' : cs = [.int .i64 t] := hcs
  subst hcs'
  have t00 := hcc 0 _ rfl
  refine ⟨tb, rfl, ?_⟩
  have : tb.add (0 * (Kd.int .i64).sz + 0) = tb := by simp [Addr.add]; try (rcases tb with ⟨b, o, _ | s⟩ <;> simp)
  rw [this] at t00; exact t00
def mod8 : Mod := ⟨[], [⟨[], ⟨1, 0⟩, [], [⟨8, 0, 0⟩, ⟨26, 0, 0⟩]⟩], [], [], []⟩
theorem tab8 : flowR mod8 0 0 [⟨1, 0⟩, ⟨1, 0⟩] = (0, [⟨1, 0⟩], [1]) := by decide +kernel
set_option maxHeartbeats 1600000 in
theorem answers08 (w : World) (hgl : Gl w) :
    Calls Tryd.prog 14 #[] w fun e w' => e = .returned (.bool true) ∧ Below w.heap.size w w' := by
  have HG := Lib.hid hgl
  clear hgl
  go_enter Tryd.func14, Tryd.ntmps14
  go_wp2_with fail
  refine (flowFlowV mod8 ⟨none, 0, some ⟨w.heap.size + 1 + 1, 0, none⟩, 1, none, 0, none, 0, none, 0⟩ _ rfl 0 0 _ 2 2 [⟨1, 0⟩, ⟨1, 0⟩] _ (HG.out.below (bA5 _ _ _ _ _ _)) ?hm ?hok ?hC (by omega) (by omega)).mono ?_
  case hm =>
    refine ⟨C_nil _ _, Nat.le_refl _, ?_, Nat.le_refl _, C_nil _ _, Nat.le_refl _, C_nil _ _, Nat.le_refl _, C_nil _ _, Nat.le_refl _⟩
    refine C_one kFn _ _ _ _ _ _ (at5_2 _ _ _ _ _ _) ?_
    refine kFn_mk (h := ⟨none, 0, none, 0, some ⟨w.heap.size + 1, 0, none⟩, 2⟩) ⟨C_nil _ _, Nat.le_refl _, C_nil _ _, Nat.le_refl _, ?_, Nat.le_refl _⟩
    exact C_inss _ _ _ _ _ _ 2 rfl (at5_1 _ _ _ _ _ _) rfl (by omega)
  case hok => intro x hx; simp [mod8] at hx
  case hC => exact C_two _ _ _ _ _ _ (at5_4 _ _ _ _ _ _)
  rintro e w1 hr
  rw [tab8] at hr
  obtain ⟨Az, cz, Bz, dz, rfl, HO1, HO2, hb1⟩ := hr
  obtain ⟨tb, rfl, ht⟩ := oi_head HO2.out
  have HB := Lib.hid (blt (bA5 _ _ _ _ _ _) hb1)
  clear HO1 HO2 hb1
  go_wp2_with fail
  go_ret
  exact ⟨rfl, HB.out⟩
end Go.Proofs.YtgcokdcdpdndjaaDoor
