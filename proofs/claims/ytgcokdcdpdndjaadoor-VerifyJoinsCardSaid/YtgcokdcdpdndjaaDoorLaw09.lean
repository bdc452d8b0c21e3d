/- chrysalislaw09: answers. -/
import Derived.Test.YtgcokdcdpdndjaaDoorCheck
namespace Go.Proofs.YtgcokdcdpdndjaaDoor
open Go.RowKit Go.Proofs.YtgcokdcdpdndjaaDoorW.PrintWords
set_option linter.unusedVariables false
set_option linter.unusedSimpArgs false

theorem verifyCheckV (m : Mod) (h : ModH) (v : Value) (hv : v = m.v h) (w : World) (hgl : Gl w) (hm : ModAt w m h) (hok : ModOk m) :
    Calls Tryd.prog 22 #[v] w (CheckRet w (checkR m)) := by
  subst hv
  exact verifyCheck m h w hgl hm hok
/-- a header among the maps -/
theorem rh_at {W : World} {base : Nat} {A : Option Addr} {n c : Nat} {hd : List (Nat × Nat)} (h : RH W base (.slice A n c) hd) {j g l : Nat} (hj : hd[j]? = some (g, l)) :
    ∃ gM, A = some ⟨gM, 0, none⟩ ∧ base ≤ gM ∧ W.cell? ⟨gM, j, none⟩ = some (.slice (some ⟨g, 0, none⟩) l l) := by
  have hl := (List.getElem?_eq_some_iff.1 hj).1
  obtain ⟨gM, cap, e, h1, h2, _⟩ := Kd.R_form h (by omega)
  injection e with e1 e2 e3
  subst e1
  refine ⟨gM, rfl, h1, ?_⟩
  obtain ⟨tb, eb, hcell⟩ := (Kd.R_reads' h).2.2.2.2 (by omega)
  injection eb with eb; subst eb
  obtain ⟨cs, _, hcs, hcc⟩ := hcell j (g, l) hj
  have hcs' : cs = [.slice (some ⟨g, 0, none⟩) l l] := hcs
  subst hcs'
  have t := hcc 0 _ rfl
  have e : (⟨gM, 0, none⟩ : Addr).add (j * kHd.sz + 0) = ⟨gM, j, none⟩ := by simp [Addr.add, kHd, Kd.scalar]; try (intro h; exact h.symm)
  rw [e] at t
  exact t
/-- a shape among the maps -/
theorem maps_at {W : World} {base : Nat} {A : Option Addr} {n c : Nat} {hd : List (Nat × Nat)} {Zs : List (List Shp)} (h : RH W base (.slice A n c) hd) (hS : ShpsAt W base hd Zs) {f pc : Nat} {Z : List Shp} {s : Shp} (hf : Zs[f]? = some Z) (hp : Z[pc]? = some s) :
    ∃ gM gS A' c', A = some ⟨gM, 0, none⟩ ∧ W.cell? ⟨gM, f, none⟩ = some (.slice (some ⟨gS, 0, none⟩) Z.length Z.length) ∧ W.cell? ⟨gS, pc * 2, none⟩ = some (.bool s.seen) ∧ W.cell? ⟨gS, pc * 2 + 1, none⟩ = some (.slice A' s.stack.length s.stack.length) ∧ OT W base (.slice A' s.stack.length c') s.stack := by
  obtain ⟨⟨g, l⟩, hj⟩ : ∃ x, hd[f]? = some x := ⟨_, List.getElem?_eq_getElem (by rw [hS.1]; exact (List.getElem?_eq_some_iff.1 hf).1)⟩
  obtain ⟨Z', L, h1, h2, h3⟩ := hS.2 f g l hj
  rw [hf] at h1; injection h1 with h1; subst h1 h2
  obtain ⟨gM, eA, -, hc⟩ := rh_at h hj
  obtain ⟨⟨A', c'⟩, ha, hO⟩ := h3.stack hp
  obtain ⟨c1, c2, -⟩ := h3.cell hp ha
  exact ⟨gM, g, A', c', eA, hc, c1, c2, hO⟩
def mod9 : Mod := ⟨[], [⟨[], ⟨1, 0⟩, [], [⟨0, 0, 0⟩, ⟨26, 0, 0⟩]⟩], [], [7], []⟩
theorem tab9 : checkR mod9 = .ok [[⟨true, []⟩, ⟨true, [⟨1, 0⟩]⟩]] := by kernel_rfl
theorem C_ints (W : World) (g : Nat) (cs : Array Value) (T : TypeId) (fr : Nat × Nat) (l : List Int) (n : Nat) (hn : l.length = n) (hh : W.heap[g]? = some (.cells cs T fr)) (he : cs.toList = l.flatMap (fun x => [.int .u64 x])) (hl : n ≤ 9223372036854775807) : (Kd.int .u64).C W (some ⟨g, 0, none⟩) n l :=
  C_flat (Kd.int .u64) _ (fun _ => rfl) (fun _ _ => rfl) W g cs T fr l n hn hh he hl
set_option maxRecDepth 100000 in
set_option maxHeartbeats 1600000 in
theorem answers09 (w : World) (hgl : Gl w) :
    Calls Tryd.prog 21 #[] w fun e w' => e = .returned (.bool true) ∧ Below w.heap.size w w' := by
  have HG := Lib.hid hgl
  clear hgl
  go_enter Tryd.func21, Tryd.ntmps21
  go_wp2_with fail
  refine (verifyCheckV mod9 ⟨none, 0, some ⟨w.heap.size + 1 + 1 + 1, 0, none⟩, 1, none, 0, some ⟨w.heap.size + 1, 0, none⟩, 1, none, 0⟩ _ rfl _ (HG.out.below (bA5 _ _ _ _ _ _)) ?hm ?hok).mono ?_
  case hm =>
    refine ⟨C_nil _ _, Nat.le_refl _, ?_, Nat.le_refl _, C_nil _ _, Nat.le_refl _, C_ints _ _ _ _ _ [7] 1 rfl (at5_1 _ _ _ _ _ _) rfl (by omega), Nat.le_refl _, C_nil _ _, Nat.le_refl _⟩
    refine C_one kFn _ _ _ _ _ _ (at5_3 _ _ _ _ _ _) ?_
    refine kFn_mk (h := ⟨none, 0, none, 0, some ⟨w.heap.size + 1 + 1, 0, none⟩, 2⟩) ⟨C_nil _ _, Nat.le_refl _, C_nil _ _, Nat.le_refl _, ?_, Nat.le_refl _⟩
    exact C_inss _ _ _ _ _ _ 2 rfl (at5_2 _ _ _ _ _ _) rfl (by omega)
  case hok => intro x hx; simp [mod9] at hx; subst hx; omega
  rintro e w1 hr
  rw [tab9] at hr
  obtain ⟨A, c, hd, rfl, HR, HS, hb1⟩ := hr
  obtain ⟨gM, gS, A', c', rfl, c0, c1, c2, -⟩ := maps_at (f := 0) (pc := 1) HR.out HS.out rfl rfl
  have HB := Lib.hid (blt (bA5 _ _ _ _ _ _) hb1)
  clear HR HS hb1
  simp only [List.length_cons, List.length_nil] at c0 c1 c2
  go_wp2_with fail
  go_ret
  exact ⟨rfl, HB.out⟩
end Go.Proofs.YtgcokdcdpdndjaaDoor
