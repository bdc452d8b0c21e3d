/- chrysalislaw08.FlowOwn: the plain part. -/
import Derived.Test.YtgcokdcdpdndjaaDoorLaw08
import Derived.Test.YtgcokdcdpdndjaaDoorPost
namespace Go.Proofs.YtgcokdcdpdndjaaDoor
open Go.RowKit Go.Proofs.YtgcokdcdpdndjaaDoorW.PrintWords
set_option linter.unusedVariables false
set_option linter.unusedSimpArgs false

/-! ### what flow.Flow answers is of int's range -/
def kOk (t : Ty) : Prop := i64ok t.kind
theorem i64_small {n : Int} (h0 : -1000000 ≤ n) (h1 : n ≤ 1000000) : i64ok n := by
  have e1 : IntKind.i64.min = -9223372036854775808 := by decide
  have e2 : IntKind.i64.max = 9223372036854775807 := by decide
  unfold i64ok; omega
theorem kOk_getD {l : List Ty} {k : Nat} {d : Ty} (h : ∀ t ∈ l, TyOk t) (hd : kOk d) : kOk ((l[k]?).getD d) := by
  cases e : l[k]? with
  | none => exact hd
  | some x => exact (h x (List.mem_of_getElem? e)).1
theorem kOk_default : kOk default := i64_small (by decide) (by decide)
theorem kOk_local {f : Fn} {n : Int} (hf : FnOk f) : kOk (localTy f n) := by
  unfold localTy
  split
  · exact i64_small (by decide) (by decide)
  · refine kOk_getD (fun t ht => ?_) (i64_small (by decide) (by decide))
    rcases List.mem_append.1 ht with ht | ht
    · exact hf.1.2 t ht
    · exact hf.2.2.1.2 t ht
theorem kOk_rec {m : Mod} {a : Int} {k : Nat} (hm : ModBig m) : kOk (((rec0 m a)[k]?).getD default) := by
  refine kOk_getD (fun t ht => ?_) kOk_default
  unfold rec0 at ht
  cases e : m.recs[a.toNat]? with
  | none => rw [e] at ht; simp at ht
  | some x => rw [e] at ht; exact (hm.r0 x (List.mem_of_getElem? e)).2 t ht
theorem plainR_ok {op : Int} {r : Rul} (h : plainR op = some r) : ∀ t ∈ r.out, kOk t := by
  unfold plainR at h
  revert h
  repeat (intro h; refine ite_some (P := fun r => ∀ t ∈ r.out, kOk t) h (fun h => by injection h with h; subst h; intro t ht; (repeat (rcases List.mem_cons.1 ht with rfl | ht; · exact i64_small (by simp) (by simp))); exact absurd ht (by simp)) ?_; clear h)
  intro h
  cases h
theorem ofR_ok {m : Mod} {fn : Fn} {i : Ins} {st : List Ty} {r : Rul} (hm : ModBig m) (hf : fn ∈ m.funcs) (hst : ∀ t ∈ st, TyOk t) (h : ofR m fn i st = some r) : ∀ t ∈ r.out, kOk t := by
  unfold ofR at h
  split at h
  · unfold freeR at h
    split at h
    · cases h
    · rename_i t r0 hr
      have ht : kOk t := (hst t (by rw [← List.mem_reverse, hr]; simp)).1
      split at h
      · cases h; intro x hx; simp at hx; subst hx; exact ht
      · split at h
        · split at h
          · cases h
          · rename_i s r1
            have hs : kOk s := (hst s (by rw [← List.mem_reverse, hr]; simp)).1
            cases h; intro x hx; simp at hx; rcases hx with rfl | rfl
            · exact ht
            · exact hs
        · split at h
          · split at h
            · cases h; intro x hx; simp at hx
            · cases h
          · cases h
  · injection h with h
    cases hp : plainR i.op with
    | some q =>
      rw [hp] at h
      simp only [Option.getD_some] at h
      subst h
      exact plainR_ok hp
    | none =>
      rw [hp] at h
      simp only [Option.getD_none] at h
      subst h
      have e1 : kOk ((m.funcs[i.a.toNat]?).getD default).ret := by
        cases e : m.funcs[i.a.toNat]? with
        | none => exact kOk_default
        | some x => exact (hm.r1 x (List.mem_of_getElem? e)).2.1.1
      have e2 : kOk ((m.imports[i.a.toNat]?).getD default).ret := by
        cases e : m.imports[i.a.toNat]? with
        | none => exact kOk_default
        | some x => exact (hm.r2 x (List.mem_of_getElem? e)).2.1
      have e3 : kOk (localTy fn i.a) := kOk_local (hm.r1 fn hf)
      have e4 : kOk (((rec0 m i.a)[i.b.toNat]?).getD default) := kOk_rec hm
      unfold named
      repeat' split
      all_goals (intro t ht; (repeat (rcases List.mem_cons.1 ht with rfl | ht; · (first | exact e1 | exact e2 | exact e3 | exact e4 | exact i64_small (by simp) (by simp)))); exact absurd ht (by simp))
theorem ite_P {c : Prop} [Decidable c] {α : Type} {a b : α} {P : α → Prop} (ha : P a) (hb : P b) : P (if c then a else b) := by split <;> assumption
theorem flowR_ok {m : Mod} {f pc : Int} {st : List Ty} (hm : ModBig m) (hst : ∀ t ∈ st, TyOk t) : (∀ t ∈ (flowR m f pc st).2.1, kOk t) ∧ (∀ t ∈ (flowR m f pc st).2.2, i64ok t) := by
  unfold flowR
  split
  · rename_i hs
    split
    · simp
    · rename_i fn hfn
      split
      · simp
      · rename_i i hi
        have K := sane_known hs.1 (List.mem_of_getElem? hfn) (List.mem_of_getElem? hi)
        have ha := (fitFn_a (fitMod_fn (sane_fit hs.1).1 fn (List.mem_of_getElem? hfn)) i (List.mem_of_getElem? hi))
        have hpc : pc.toNat < fn.code.length := (List.getElem?_eq_some_iff.1 hi).1
        have hcl := K.hcl
        unfold stepR
        split
        · simp
        · rename_i r hr
          have hout := ofR_ok hm (List.mem_of_getElem? hfn) hst hr
          split
          · simp
          · split
            · refine ite_P (P := fun x : Int × List Ty × List Int => (∀ t ∈ x.2.1, kOk t) ∧ ∀ t ∈ x.2.2, i64ok t) (by simp) ⟨fun t ht => ?_, fun t ht => ?_⟩
              · simp only [List.mem_append] at ht
                rcases ht with ht | ht
                · exact (hst t (List.mem_of_mem_take ht)).1
                · exact hout t ht
              · simp only at ht
                unfold nextI at ht
                repeat' split at ht
                all_goals ((repeat (rcases List.mem_cons.1 ht with rfl | ht; · exact i64_small (by omega) (by omega))); exact absurd ht (by simp))
            · simp
  · simp
end Go.Proofs.YtgcokdcdpdndjaaDoor
