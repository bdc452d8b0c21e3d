/- flow.Step as a step of a function: it keeps what is below, and is proper (plain). -/
import Derived.Test.YtgcokdcdpdndjaaDoorLeast
namespace Go.Proofs.YtgcokdcdpdndjaaDoor
set_option linter.unusedVariables false
set_option linter.unusedSimpArgs false
structure SaneTys (m : Mod) : Prop where
  recs : ∀ l ∈ m.recs, ∀ t ∈ l, goodTy t m.recs.length = true
  args : ∀ f ∈ m.funcs, ∀ t ∈ f.args, goodTy t m.recs.length = true
  ret : ∀ f ∈ m.funcs, goodTy f.ret m.recs.length = true
  locals : ∀ f ∈ m.funcs, ∀ t ∈ f.locals, goodTy t m.recs.length = true
  iargs : ∀ f ∈ m.imports, ∀ t ∈ f.args, goodTy t m.recs.length = true
  iret : ∀ f ∈ m.imports, goodTy f.ret m.recs.length = true
theorem goodL_all {l : List Ty} {r most : Int} (h : goodL l r most = true) : ∀ t ∈ l, goodTy t r = true := by
  unfold goodL at h
  simp only [Bool.and_eq_true, Bool.not_eq_true', List.any_eq_false] at h
  intro t ht
  simpa using h.2 t ht
theorem sane_tys {m : Mod} (hs : sane m = 0) : SaneTys m := by
  have h := (sane_fit hs).1
  unfold fitMod at h
  simp only [Bool.and_eq_true, Bool.not_eq_true', List.any_eq_false] at h
  obtain ⟨_, h1, _, _, h2, _, h3, _⟩ := h
  have f2 : ∀ f ∈ m.funcs, fitFn f m.recs.length = true := fun f hf => by simpa using h2 f hf
  have i3 : ∀ f ∈ m.imports, badImp f m.recs.length = false := fun f hf => by simpa using h3 f hf
  refine ⟨fun l hl => goodL_all (r := m.recs.length) (most := 6) (by simpa using h1 l hl), fun f hf => ?_, fun f hf => ?_, fun f hf => ?_, fun f hf => ?_, fun f hf => ?_⟩
  · have := f2 f hf; unfold fitFn at this; simp only [Bool.and_eq_true] at this; exact goodL_all this.1
  · have := f2 f hf; unfold fitFn at this; simp only [Bool.and_eq_true] at this; exact this.2.1
  · have := f2 f hf; unfold fitFn at this; simp only [Bool.and_eq_true] at this; exact goodL_all this.2.2.1
  · have := i3 f hf; unfold badImp at this; simp only [Bool.or_eq_false_iff, Bool.not_eq_false'] at this; exact goodL_all this.1
  · have := i3 f hf; unfold badImp at this; simp only [Bool.or_eq_false_iff, Bool.not_eq_false'] at this; exact this.2
/-! ### one function's steps -/
def stepN (m : Mod) (fn : Fn) : Stp := fun pc st =>
  match fn.code[pc]? with
  | none => none
  | some i => if (stepR m fn i pc st).1 = 0 then some ((stepR m fn i pc st).2.1, (stepR m fn i pc st).2.2.map Int.toNat) else none
/-- what a step that goes on is -/
theorem stepR_ok {m : Mod} {fn : Fn} {i : Ins} {pc : Nat} {st : List Ty} (h : (stepR m fn i pc st).1 = 0) :
    ∃ r, ofR m fn i st = some r ∧ r.inn.length ≤ st.length ∧ st.length - r.inn.length + r.out.length ≤ 8 ∧
      (∀ k, k < r.inn.length → subTy (st.getD (st.length - r.inn.length + k) default) (r.inn.getD k default) = true) ∧
      (∀ t, (nextI i.op i.a pc).head? = some t → t < fn.code.length) ∧
      stepR m fn i pc st = (0, st.take (st.length - r.inn.length) ++ r.out, nextI i.op i.a pc) := by
  unfold stepR at h ⊢
  cases hr : ofR m fn i st with
  | none => rw [hr] at h; simp at h
  | some r =>
    rw [hr] at h
    simp only at h ⊢
    by_cases h1 : st.length < r.inn.length ∨ 8 < st.length - r.inn.length + r.out.length
    · rw [if_pos h1] at h; simp at h
    · rw [if_neg h1] at h ⊢
      by_cases h2 : (List.range r.inn.length).all (fun k => subTy (st.getD (st.length - r.inn.length + k) default) (r.inn.getD k default)) = true
      · rw [if_pos h2] at h ⊢
        cases hn : nextI i.op i.a pc with
        | nil => exact ⟨r, rfl, by omega, by omega, fun k hk => List.all_eq_true.1 h2 k (List.mem_range.2 hk), fun t ht => by simp at ht, by simp⟩
        | cons a l =>
          rw [hn] at h
          by_cases h3 : (fn.code.length : Int) ≤ a
          · simp [h3] at h
          · exact ⟨r, rfl, by omega, by omega, fun k hk => List.all_eq_true.1 h2 k (List.mem_range.2 hk), fun t ht => by simp at ht; omega, by simp [h3]⟩
      · rw [if_neg h2] at h; simp at h
theorem stepR_mk {m : Mod} {fn : Fn} {i : Ins} {pc : Nat} {st : List Ty} {r : Rul} (h1 : ofR m fn i st = some r) (h2 : r.inn.length ≤ st.length) (h3 : st.length - r.inn.length + r.out.length ≤ 8)
    (h4 : ∀ k, k < r.inn.length → subTy (st.getD (st.length - r.inn.length + k) default) (r.inn.getD k default) = true) (h5 : ∀ t, (nextI i.op i.a pc).head? = some t → t < fn.code.length) :
    stepR m fn i pc st = (0, st.take (st.length - r.inn.length) ++ r.out, nextI i.op i.a pc) := by
  unfold stepR
  rw [h1]
  simp only
  rw [if_neg (by omega), if_pos (List.all_eq_true.2 fun k hk => h4 k (List.mem_range.1 hk)), if_neg]
  intro h
  cases hn : nextI i.op i.a pc with
  | nil => rw [hn] at h; simp at h
  | cons a l =>
    rw [hn] at h h5
    have := h5 a rfl
    simp at h; omega
theorem free_cases {op : Int} {st : List Ty} {r : Rul} (h : freeR op st = some r) :
    (∃ l t, st = l ++ [t] ∧ r = ⟨[t], [t, t]⟩ ∧ op = 6) ∨ (∃ l s t, st = l ++ [s, t] ∧ r = ⟨[s, t], [t, s]⟩ ∧ op = 7 ∧ op ≠ 6) ∨ (∃ l t, st = l ++ [t] ∧ r = ⟨[t], []⟩ ∧ t.kind = 5 ∧ op = 41 ∧ op ≠ 6 ∧ op ≠ 7) := by
  unfold freeR at h
  split at h
  · cases h
  · rename_i t r0 hr
    have e : st = r0.reverse ++ [t] := by rw [← List.reverse_reverse st, hr]; simp
    split at h
    · rename_i ho
      injection h with h
      exact .inl ⟨_, t, e, h.symm, ho⟩
    · rename_i n6
      split at h
      · rename_i ho
        split at h
        · cases h
        · rename_i s r1
          injection h with h
          exact .inr (.inl ⟨r1.reverse, s, t, by rw [e]; simp, h.symm, ho, n6⟩)
      · rename_i n7
        split at h
        · rename_i ho
          split at h
          · rename_i hk
            injection h with h
            exact .inr (.inr ⟨_, t, e, h.symm, hk, ho, n6, n7⟩)
          · cases h
        · cases h
theorem free_dup (l : List Ty) (t : Ty) : freeR 6 (l ++ [t]) = some ⟨[t], [t, t]⟩ := by simp [freeR]
theorem free_swap (l : List Ty) (s t : Ty) : freeR 7 (l ++ [s, t]) = some ⟨[s, t], [t, s]⟩ := by simp [freeR]
theorem free_close (l : List Ty) (t : Ty) (h : t.kind = 5) : freeR 41 (l ++ [t]) = some ⟨[t], []⟩ := by simp [freeR, h]
theorem bel_app {a b c d : List Ty} (h : Bel a b) (k : Bel c d) : Bel (a ++ c) (b ++ d) := by
  refine ⟨by rw [List.length_append, List.length_append, h.1, k.1], fun i x y hx hy => ?_⟩
  rcases Nat.lt_or_ge i a.length with hi | hi
  · rw [List.getElem?_append_left hi] at hx
    rw [List.getElem?_append_left (by rw [← h.1]; exact hi)] at hy
    exact h.2 i x y hx hy
  · rw [List.getElem?_append_right hi] at hx
    rw [List.getElem?_append_right (by rw [← h.1]; exact hi), ← h.1] at hy
    exact k.2 _ x y hx hy
theorem bel_take {a b : List Ty} (h : Bel a b) (n : Nat) : Bel (a.take n) (b.take n) := by
  refine ⟨by rw [List.length_take, List.length_take, h.1], fun i x y hx hy => ?_⟩
  rw [List.getElem?_take] at hx hy
  split at hx
  · rename_i hi; rw [if_pos hi] at hy; exact h.2 i x y hx hy
  · cases hx
theorem bel_split {a b c : List Ty} (h : Bel a (b ++ c)) : ∃ b' c', a = b' ++ c' ∧ Bel b' b ∧ Bel c' c := by
  have hl := h.1
  rw [List.length_append] at hl
  refine ⟨a.take b.length, a.drop b.length, (List.take_append_drop _ _).symm, ⟨by rw [List.length_take]; omega, fun i x y hx hy => ?_⟩, ⟨by rw [List.length_drop]; omega, fun i x y hx hy => ?_⟩⟩
  · rw [List.getElem?_take] at hx
    split at hx
    · rename_i hi
      exact h.2 i x y hx (by rw [List.getElem?_append_left hi]; exact hy)
    · cases hx
  · rw [List.getElem?_drop] at hx
    exact h.2 _ x y hx (by rw [List.getElem?_append_right (by omega), show b.length + i - b.length = i by omega]; exact hy)
theorem bel_one {a : List Ty} {t : Ty} (h : Bel a [t]) : ∃ t', a = [t'] ∧ subTy t' t = true := by
  obtain ⟨t', rfl⟩ := List.length_eq_one_iff.1 h.1
  exact ⟨t', rfl, h.2 0 t' t rfl rfl⟩
theorem bel_two {a : List Ty} {s t : Ty} (h : Bel a [s, t]) : ∃ s' t', a = [s', t'] ∧ subTy s' s = true ∧ subTy t' t = true := by
  obtain ⟨s', t', rfl⟩ : ∃ s' t', a = [s', t'] := by
    have := h.1
    match a, this with
    | [s', t'], _ => exact ⟨s', t', rfl⟩
  exact ⟨s', t', rfl, h.2 0 s' s rfl rfl, h.2 1 t' t rfl rfl⟩
theorem bel_mk1 {s s' : Ty} (h : subTy s s' = true) : Bel [s] [s'] := ⟨rfl, fun i x y hx hy => by
  rcases i with _ | i
  · simp at hx hy; subst hx hy; exact h
  · simp at hx⟩
theorem bel_mk2 {s s' t t' : Ty} (h : subTy s s' = true) (k : subTy t t' = true) : Bel [s, t] [s', t'] := bel_app (bel_mk1 h) (bel_mk1 k)
theorem sub_han {a b : Ty} (h : subTy a b = true) (hb : b.kind = 5) : a = b := by
  rw [sub_iff] at h
  rcases h with h | h | ⟨h1, h2, h3⟩
  · exact h
  · omega
  · rw [ref_iff] at h2; omega
theorem getD_app_right {a b : List Ty} {k : Nat} (h : k < b.length) : (a ++ b).getD (a.length + k) default = b.getD k default := by
  rw [List.getD_eq_getElem?_getD, List.getD_eq_getElem?_getD, List.getElem?_append_right (by omega)]
  congr 2; omega
/-- a rule whose own types are taken -/
theorem step_free {m : Mod} {fn : Fn} {i : Ins} {pc : Nat} {l c : List Ty} {r : Rul} (h1 : ofR m fn i (l ++ c) = some r) (hc : r.inn = c) (h3 : l.length + r.out.length ≤ 8) (h5 : ∀ t, (nextI i.op i.a pc).head? = some t → t < fn.code.length) :
    stepR m fn i pc (l ++ c) = (0, l ++ r.out, nextI i.op i.a pc) := by
  subst hc
  have e : (l ++ r.inn).length - r.inn.length = l.length := by rw [List.length_append]; omega
  rw [stepR_mk h1 (by rw [List.length_append]; omega) (by rw [e]; exact h3) (fun k hk => by rw [e, getD_app_right hk]; exact sub_refl _) h5, e, List.take_left]
theorem stepR_mono {m : Mod} {fn : Fn} {i : Ins} {pc : Nat} {st st' : List Ty} (hb : Bel st st') (h : (stepR m fn i pc st').1 = 0) :
    (stepR m fn i pc st).1 = 0 ∧ Bel (stepR m fn i pc st).2.1 (stepR m fn i pc st').2.1 ∧ (stepR m fn i pc st).2.2 = (stepR m fn i pc st').2.2 := by
  obtain ⟨r, h1, h2, h3, h4, h5, e⟩ := stepR_ok h
  by_cases hf : isFree i.op = true
  · have h1' := h1
    unfold ofR at h1
    rw [if_pos hf] at h1
    have mk : ∀ st0, ofR m fn i st0 = freeR i.op st0 := fun st0 => by unfold ofR; rw [if_pos hf]
    rcases free_cases h1 with ⟨l, t, rfl, rfl, ho⟩ | ⟨l, s, t, rfl, rfl, ho, _⟩ | ⟨l, t, rfl, rfl, hk, ho, _, _⟩
    · obtain ⟨l', c, rfl, b1, b2⟩ := bel_split hb
      obtain ⟨t', rfl, b3⟩ := bel_one b2
      have hl : l.length + 2 ≤ 8 := by simpa using h3
      have e1 := step_free (pc := pc) (l := l) (c := [t]) h1' rfl (by simpa using hl) h5
      have e2 := step_free (pc := pc) (l := l') (c := [t']) (r := ⟨[t'], [t', t']⟩) (by rw [mk, ho]; exact free_dup l' t') rfl (by rw [b1.1]; simpa using hl) h5
      rw [e1, e2]
      exact ⟨rfl, bel_app b1 (bel_mk2 b3 b3), rfl⟩
    · obtain ⟨l', c, rfl, b1, b2⟩ := bel_split hb
      obtain ⟨s', t', rfl, b3, b4⟩ := bel_two b2
      have hl : l.length + 2 ≤ 8 := by simpa using h3
      have e1 := step_free (pc := pc) (l := l) (c := [s, t]) h1' rfl (by simpa using hl) h5
      have e2 := step_free (pc := pc) (l := l') (c := [s', t']) (r := ⟨[s', t'], [t', s']⟩) (by rw [mk, ho]; exact free_swap l' s' t') rfl (by rw [b1.1]; simpa using hl) h5
      rw [e1, e2]
      exact ⟨rfl, bel_app b1 (bel_mk2 b4 b3), rfl⟩
    · obtain ⟨l', c, rfl, b1, b2⟩ := bel_split hb
      obtain ⟨t', rfl, b3⟩ := bel_one b2
      obtain rfl := sub_han b3 hk
      have hl : l.length ≤ 8 := by simpa using h3
      have e1 := step_free (pc := pc) (l := l) (c := [t']) h1' rfl (by simpa using hl) h5
      have e2 := step_free (pc := pc) (l := l') (c := [t']) (r := ⟨[t'], []⟩) (by rw [mk, ho]; exact free_close l' t' hk) rfl (by rw [b1.1]; simpa using hl) h5
      rw [e1, e2]
      exact ⟨rfl, bel_app b1 (Bel.refl _), rfl⟩
  · have hof : ofR m fn i st = some r := by
      unfold ofR at h1 ⊢
      rw [if_neg hf] at h1 ⊢; exact h1
    have hl := hb.1
    have e2 := stepR_mk (pc := pc) hof (by omega) (by omega) (fun k hk => by
      have := h4 k hk
      rw [← hl] at this
      refine sub_trans ?_ this
      have g1 : st.length - r.inn.length + k < st.length := by omega
      rw [List.getD_eq_getElem?_getD, List.getD_eq_getElem?_getD, List.getElem?_eq_getElem g1, List.getElem?_eq_getElem (by rw [← hl]; exact g1)]
      exact hb.2 _ _ _ (List.getElem?_eq_getElem g1) (List.getElem?_eq_getElem (by rw [← hl]; exact g1))) h5
    rw [e, e2]
    refine ⟨rfl, ?_, rfl⟩
    rw [hl]
    exact bel_app (bel_take hb _) (Bel.refl _)
theorem stepN_mono (m : Mod) (fn : Fn) : Mono (stepN m fn) := by
  intro pc st st' r' hb h
  unfold stepN at h ⊢
  cases hi : fn.code[pc]? with
  | none => rw [hi] at h; cases h
  | some i =>
    rw [hi] at h
    simp only at h ⊢
    split at h
    · rename_i h0
      injection h with h; subst h
      obtain ⟨h1, h2, h3⟩ := stepR_mono hb h0
      rw [if_pos h1]
      exact ⟨_, rfl, h2, by simp only [h3]⟩
    · cases h
theorem next_head {op a : Int} {pc : Nat} {t : Int} (h : t ∈ nextI op a pc) : (nextI op a pc).head? = some t ∨ (op = 24 ∧ t = a) := by
  unfold nextI at h ⊢
  repeat' split at h
  all_goals (try simp_all)
  rcases h with h | h
  · exact .inl h.symm
  · exact .inr h
theorem next_nonneg {op a : Int} {pc : Nat} {t : Int} (ha : 0 ≤ a) (h : t ∈ nextI op a pc) : 0 ≤ t := by
  unfold nextI at h
  repeat' split at h
  all_goals (simp at h; try omega)
theorem stepN_in {m : Mod} {fn : Fn} (hs : sane m = 0) (hf : fn ∈ m.funcs) : InR (stepN m fn) fn.code.length := by
  intro pc st r h q hq
  unfold stepN at h
  cases hi : fn.code[pc]? with
  | none => rw [hi] at h; cases h
  | some i =>
    rw [hi] at h
    simp only at h
    have K := sane_known hs hf (List.mem_of_getElem? hi)
    split at h
    · rename_i h0
      injection h with h; subst h
      obtain ⟨r, h1, h2, h3, h4, h5, e⟩ := stepR_ok h0
      simp only [e, List.mem_map] at hq
      obtain ⟨t, ht, rfl⟩ := hq
      have h0t := next_nonneg K.ha ht
      rcases next_head ht with hh | ⟨ho, rfl⟩
      · have := h5 t hh; omega
      · have hn := K.hn
        unfold namesOk at hn
        rw [ho] at hn
        simp at hn
        omega
    · cases h
/-! proper -/
theorem good_prp {t : Ty} {r : Int} (h : goodTy t r = true) : Prp t := by
  intro hk
  unfold goodTy at h
  rcases hk with hk | hk | hk
  · rw [if_neg (by omega), if_neg (by omega), if_neg (by omega)] at h; cases h
  · rw [if_pos (by omega)] at h; simpa using h
  · rw [if_neg (by omega), if_neg (by omega), if_neg (by omega)] at h; cases h
theorem prp_small {k : Int} : Prp ⟨k, 0⟩ := fun _ => rfl
theorem prp_rec {a : Int} : Prp ⟨4, a⟩ := fun h => by simp at h
theorem prp_default : Prp default := fun _ => rfl
theorem prp_getD {l : List Ty} {k : Nat} {d : Ty} (h : ∀ t ∈ l, Prp t) (hd : Prp d) : Prp ((l[k]?).getD d) := by
  cases e : l[k]? with
  | none => exact hd
  | some x => exact h x (List.mem_of_getElem? e)
theorem ite_some' {c : Prop} [Decidable c] {a b : Option Rul} {r : Rul} {P : Rul → Prop} (h : (if c then a else b) = some r) (ha : a = some r → P r) (hb : b = some r → P r) : P r := by
  by_cases hc : c
  · rw [if_pos hc] at h; exact ha h
  · rw [if_neg hc] at h; exact hb h
theorem plainR_prp {op : Int} {r : Rul} (h : plainR op = some r) : ∀ t ∈ r.out, Prp t := by
  unfold plainR at h
  revert h
  repeat (intro h; refine ite_some' (P := fun r => ∀ t ∈ r.out, Prp t) h (fun h => by injection h with h; subst h; intro t ht; (repeat (rcases List.mem_cons.1 ht with rfl | ht; · exact prp_small)); exact absurd ht (by simp)) ?_; clear h)
  intro h
  cases h
theorem ofR_prp {m : Mod} {fn : Fn} {i : Ins} {st : List Ty} {r : Rul} (hs : sane m = 0) (hf : fn ∈ m.funcs) (hst : ∀ t ∈ st, Prp t) (h : ofR m fn i st = some r) : ∀ t ∈ r.out, Prp t := by
  have S := sane_tys hs
  unfold ofR at h
  split at h
  · rcases free_cases h with ⟨l, t, rfl, rfl, ho⟩ | ⟨l, s, t, rfl, rfl, ho, _⟩ | ⟨l, t, rfl, rfl, hk, ho, _, _⟩
    · intro x hx; simp at hx; subst hx; exact hst _ (by simp)
    · intro x hx; simp at hx; rcases hx with rfl | rfl <;> exact hst _ (by simp)
    · intro x hx; simp at hx
  · injection h with h
    cases hp : plainR i.op with
    | some q =>
      rw [hp] at h
      simp only [Option.getD_some] at h
      subst h
      exact plainR_prp hp
    | none =>
      rw [hp] at h
      simp only [Option.getD_none] at h
      subst h
      have e1 : Prp ((m.funcs[i.a.toNat]?).getD default).ret := by
        cases e : m.funcs[i.a.toNat]? with
        | none => exact prp_default
        | some x => exact good_prp (S.ret x (List.mem_of_getElem? e))
      have e2 : Prp ((m.imports[i.a.toNat]?).getD default).ret := by
        cases e : m.imports[i.a.toNat]? with
        | none => exact prp_default
        | some x => exact good_prp (S.iret x (List.mem_of_getElem? e))
      have e3 : Prp (localTy fn i.a) := by
        unfold localTy
        split
        · exact prp_small
        · refine prp_getD (fun t ht => ?_) prp_small
          rcases List.mem_append.1 ht with ht | ht
          · exact good_prp (S.args fn hf t ht)
          · exact good_prp (S.locals fn hf t ht)
      have e4 : Prp (((rec0 m i.a)[i.b.toNat]?).getD default) := by
        refine prp_getD (fun t ht => ?_) prp_default
        unfold rec0 at ht
        cases e : m.recs[i.a.toNat]? with
        | none => rw [e] at ht; simp at ht
        | some x => rw [e] at ht; exact good_prp (S.recs x (List.mem_of_getElem? e) t ht)
      unfold named
      repeat' split
      all_goals (intro t ht; (repeat (rcases List.mem_cons.1 ht with rfl | ht; · (first | exact e1 | exact e2 | exact e3 | exact e4 | exact prp_small | exact prp_rec))); exact absurd ht (by simp))
theorem stepN_prp {m : Mod} {fn : Fn} (hs : sane m = 0) (hf : fn ∈ m.funcs) : PrpS (stepN m fn) := by
  intro pc st r h hst
  unfold stepN at h
  cases hi : fn.code[pc]? with
  | none => rw [hi] at h; cases h
  | some i =>
    rw [hi] at h
    simp only at h
    split at h
    · rename_i h0
      injection h with h; subst h
      obtain ⟨r, h1, h2, h3, h4, h5, e⟩ := stepR_ok h0
      simp only [e]
      refine ⟨by rw [List.length_append, List.length_take]; omega, fun t ht => ?_⟩
      rcases List.mem_append.1 ht with ht | ht
      · exact hst t (List.mem_of_mem_take ht)
      · exact ofR_prp hs hf hst h1 t ht
    · cases h
end Go.Proofs.YtgcokdcdpdndjaaDoor
