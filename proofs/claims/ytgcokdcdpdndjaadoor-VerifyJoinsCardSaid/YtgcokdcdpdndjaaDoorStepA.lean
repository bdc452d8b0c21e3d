/- rows of rows of types: what flow.Step's last region wants. -/
import Derived.Test.YtgcokdcdpdndjaaDoorConcat
namespace Go.Proofs.YtgcokdcdpdndjaaDoor
open Go.RowKit Go.Proofs.YtgcokdcdpdndjaaDoorW.PrintWords
set_option linter.unusedVariables false
set_option linter.unusedSimpArgs false
theorem C_take {w : World} {A : Option Addr} {N : Nat} {xs : List Ty} (h : kTy.C w A N xs) (n : Nat) (hn : n ≤ N) : kTy.C w A n (xs.take n) := by
  have hl := h.1
  refine ⟨by rw [List.length_take]; omega, by have := h.2.1; omega, fun h0 => ?_⟩
  obtain ⟨ad, e, hc⟩ := h.2.2 (by omega)
  refine ⟨ad, e, fun j p hj => hc j p ?_⟩
  rw [List.getElem?_take] at hj
  split at hj
  · exact hj
  · simp at hj
theorem kTys_two (W : World) (g : Nat) (A B : Option Addr) (c d : Nat) (xs ys : List Ty) (T : TypeId) (fr : Nat × Nat) (hA : kTy.C W A xs.length xs) (hc : xs.length ≤ c) (hB : kTy.C W B ys.length ys) (hd : ys.length ≤ d)
    (hh : W.heap[g]? = some (.cells #[.slice A xs.length c, .slice B ys.length d] T fr)) : kTys.C W (some ⟨g, 0, none⟩) 2 [xs, ys] :=
  C_block kTys W g _ T fr [xs, ys] 2 hh rfl (by omega) (fun j z hz => by
    rcases j with _ | _ | j
    · simp at hz; subst hz; exact ⟨[.slice A xs.length c], rfl, ⟨A, c, rfl, hc, hA⟩, fun i u hi => by rcases i with _ | i <;> simp_all [kTys, Kd.slice]⟩
    · simp at hz; subst hz; exact ⟨[.slice B ys.length d], rfl, ⟨B, d, rfl, hd, hB⟩, fun i u hi => by rcases i with _ | i <;> simp_all [kTys, Kd.slice]⟩
    · simp at hz)
theorem kTys_two' (W : World) (g : Nat) (A B : Option Addr) (n c k d : Nat) (xs ys : List Ty) (T : TypeId) (fr : Nat × Nat) (hA : kTy.C W A n xs) (hc : n ≤ c) (hB : kTy.C W B k ys) (hd : k ≤ d)
    (hh : W.heap[g]? = some (.cells #[.slice A n c, .slice B k d] T fr)) : kTys.C W (some ⟨g, 0, none⟩) 2 [xs, ys] := by
  obtain rfl := hA.1
  obtain rfl := hB.1
  exact kTys_two W g A B c d xs ys T fr hA hc hB hd hh
theorem ot_le {w : World} {base : Nat} {A : Option Addr} {n c : Nat} {xs : List Ty} (h : OT w base (.slice A n c) xs) : n ≤ c := by
  obtain ⟨A', c', e, hl, _⟩ := Kd.R_reads h
  injection e with _ e2 e3
  omega
theorem slicesConcat2 (A : Option Addr) (c : Nat) (xs ys : List Ty) (w : World) (hC : kTys.C w A 2 [xs, ys]) (hl : xs.length + ys.length ≤ 1000000) :
    Calls Tryd.prog 60 #[.slice A 2 c] w (TysRet w (xs ++ ys)) := by
  have h := slicesConcat A c [xs, ys] w hC (by simp) (by simpa using hl)
  have e : [xs, ys].flatten = xs ++ ys := by simp
  rw [e] at h; exact h
end Go.Proofs.YtgcokdcdpdndjaaDoor
