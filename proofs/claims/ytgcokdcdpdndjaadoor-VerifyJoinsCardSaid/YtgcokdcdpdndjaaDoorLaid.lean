/- The five listed variables of package flow: what the rows' condition gives the walks. -/
import Derived.Test.YtgcokdcdpdndjaaDoorRows
import Derived.Test.YtgcokdcdpdndjaaDoorCards
import Derived.Test.YtgcokdcdpdndjaaDoorTie
import Derived.Test.YtgcokdcdpdndjaaDoorFlow
import Derived.Test.YtgcokdcdpdndjaaDoorOpen
import Derived.ProofKit
import Derived.LaidMore
import Derived.OpenShut
import Derived.Stop.Joined
import Derived.Carry
namespace Go.Proofs.YtgcokdcdpdndjaaDoor
open Go.ChangeShapes Go.WideShapes Go.ChangeAt Go.WideMaps Go.WideElems Go.RowKit
set_option linter.unusedVariables false

def laid5 : List (String × DataW Unit) := [("chrysalis/flow.number", Rows.laid_chrysalis_flow_number), ("chrysalis/flow.octets", Rows.laid_chrysalis_flow_octets), ("chrysalis/flow.words", Rows.laid_chrysalis_flow_words), ("chrysalis/flow.refs", Rows.laid_chrysalis_flow_refs), ("chrysalis/flow.use", Rows.laid_chrysalis_flow_use)]
theorem ownDoor : ownKnob Tryd.prog.godebug = none := by kernel_rfl
theorem laidOut : laidOutB Tryd.prog = true := by kernel_rfl
theorem gN : Tryd.prog.globalNamed "chrysalis/flow.number" = some 1 := by kernel_rfl
theorem gO : Tryd.prog.globalNamed "chrysalis/flow.octets" = some 3 := by kernel_rfl
theorem gW : Tryd.prog.globalNamed "chrysalis/flow.words" = some 2 := by kernel_rfl
theorem gR : Tryd.prog.globalNamed "chrysalis/flow.refs" = some 4 := by kernel_rfl
theorem gU : Tryd.prog.globalNamed "chrysalis/flow.use" = some 0 := by kernel_rfl
theorem tN : (Tryd.prog.globals[1]?).map (·.type) = some 37 := by kernel_rfl
theorem tO : (Tryd.prog.globals[3]?).map (·.type) = some 37 := by kernel_rfl
theorem tW : (Tryd.prog.globals[2]?).map (·.type) = some 37 := by kernel_rfl
theorem tR : (Tryd.prog.globals[4]?).map (·.type) = some 37 := by kernel_rfl
theorem tU : (Tryd.prog.globals[0]?).map (·.type) = some 37 := by kernel_rfl
/-- The door's own heap meets the condition. -/
theorem door_met (os : Os) (args : Array Value) : laidMetH Tryd.prog laid5 ((World.doorLaid Tryd.prog 400 os).forCall (fun _ _ => 0) ⟨#[], args, []⟩).memory :=
  laidMetH_of_parts3 (fuel := 8) (laidMet_of_run' 8 (by kernel_rfl) (by kernel_rfl)) (by kernel_rfl) (by kernel_rfl)
set_option maxRecDepth 100000 in
theorem laid_ty {H : Type} {enc : TypeId × Value → H} {W : World} {base : Nat} {spare : Nat → Bool} {held : Bool} {fuel : Nat} {cs : Array Value} {a b : Int} {p : List MemPlace} (h : DataW.trod enc Tryd.prog W base spare held fuel 37 cs.toList = some (.agg [.lit (.int .i64 a), .lit (.int .i64 b)], p)) :
    cs[0]? = some (.int .i64 a) ∧ cs[1]? = some (.int .i64 b) := by
  obtain ⟨xs, n, rfl, hx, hl, hlen, hf⟩ := DataW.trod_struct Tryd.underlying37 h
  have h0 := hf 0 _ rfl
  have h1 := hf 1 _ rfl
  match xs, hlen with
  | [x0, x1], _ =>
    simp only [List.map_cons, List.map_nil, Prod.mk.injEq, DataW.agg.injEq, List.cons.injEq] at hx
    obtain ⟨⟨e0, e1, _⟩, _⟩ := hx
    have c3 : Tryd.prog.cellsOf 3 = 1 := by kernel_rfl
    obtain ⟨k, k1, k2, _⟩ := DataW.trod_int Tryd.underlying3 (show DataW.trod enc Tryd.prog W base spare held n 3 _ = some x0 from h0)
    obtain ⟨l, l1, l2, _⟩ := DataW.trod_int Tryd.underlying3 (show DataW.trod enc Tryd.prog W base spare held n 3 _ = some x1 from h1)
    rw [k2] at e0
    rw [l2] at e1
    simp at e0 e1
    subst e0 e1
    rw [show Tryd.prog.cellsOf 37 = 2 by kernel_rfl] at hl
    obtain ⟨cs⟩ := cs
    match cs, hl with
    | [c0, c1], _ =>
      simp [c3] at k1 l1
      simp [k1, l1]
/-- WHAT THE CONDITION GIVES THE WALKS. -/
theorem of_laid {W : World} (h : laidMetH Tryd.prog laid5 W) : Gl W := by
  rw [MakeChecks.laidMetH_plain _ _ _ (by kernel_rfl)] at h
  obtain ⟨ps, ⟨g0, t0, cs0, f0, p0, q0, hg0, ht0, hv0, hd0, ⟨g1, t1, cs1, f1, p1, q1, hg1, ht1, hv1, hd1, ⟨g2, t2, cs2, f2, p2, q2, hg2, ht2, hv2, hd2, ⟨g3, t3, cs3, f3, p3, q3, hg3, ht3, hv3, hd3, ⟨g4, t4, cs4, f4, p4, q4, hg4, ht4, hv4, hd4, _, _⟩, _⟩, _⟩, _⟩, _⟩, _, _⟩ := h
  obtain rfl := Option.some.inj (gN.symm.trans hg0)
  obtain rfl := Option.some.inj (gO.symm.trans hg1)
  obtain rfl := Option.some.inj (gW.symm.trans hg2)
  obtain rfl := Option.some.inj (gR.symm.trans hg3)
  obtain rfl := Option.some.inj (gU.symm.trans hg4)
  obtain rfl := Option.some.inj (tN.symm.trans ht0)
  obtain rfl := Option.some.inj (tO.symm.trans ht1)
  obtain rfl := Option.some.inj (tW.symm.trans ht2)
  obtain rfl := Option.some.inj (tR.symm.trans ht3)
  obtain rfl := Option.some.inj (tU.symm.trans ht4)
  obtain ⟨a0, b0⟩ := laid_ty hd0
  obtain ⟨a1, b1⟩ := laid_ty hd1
  obtain ⟨a2, b2⟩ := laid_ty hd2
  obtain ⟨a3, b3⟩ := laid_ty hd3
  obtain ⟨a4, b4⟩ := laid_ty hd4
  exact ⟨(World.var?_cell hg4 hv4 0).trans a4, (World.var?_cell hg4 hv4 1).trans b4, (World.var?_cell hg0 hv0 0).trans a0, (World.var?_cell hg0 hv0 1).trans b0, (World.var?_cell hg2 hv2 0).trans a2, (World.var?_cell hg2 hv2 1).trans b2, (World.var?_cell hg1 hv1 0).trans a1, (World.var?_cell hg1 hv1 1).trans b1, (World.var?_cell hg3 hv3 0).trans a3, (World.var?_cell hg3 hv3 1).trans b3⟩
theorem weights_of {H : Type} {ts : List TypeId} {ds : List (DataW H)} (h : (DataW.weightsEach Tryd.prog ts ds).all (· ≤ reachBytes) = true) {j : Nat} {t : TypeId} {d : DataW H} (ht : ts[j]? = some t) (hd : ds[j]? = some d) : ∀ n ∈ d.weights Tryd.prog t, n ≤ reachBytes := by
  intro n hn
  have := List.all_eq_true.1 h n (DataW.weights_mem_each ht hd n hn)
  simpa using this
end Go.Proofs.YtgcokdcdpdndjaaDoor
