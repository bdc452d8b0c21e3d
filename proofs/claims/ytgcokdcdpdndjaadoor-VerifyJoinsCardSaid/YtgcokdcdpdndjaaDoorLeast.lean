/- Both ways to the types of a function, by a list of what is to be done and by going round, lead to the least ones: plain Lean, no program in sight. -/
import Derived.Test.YtgcokdcdpdndjaaDoorFlowTop
namespace Go.Proofs.YtgcokdcdpdndjaaDoor
set_option linter.unusedVariables false
set_option linter.unusedSimpArgs false
def joinTy (a b : Ty) : Ty := if subTy a b = true then b else if subTy b a = true then a else if (isRef a && isRef b) = true then ⟨7, 0⟩ else ⟨8, 0⟩
theorem sub_iff (a b : Ty) : subTy a b = true ↔ a = b ∨ b.kind = 8 ∨ (isRef a = true ∧ isRef b = true ∧ (a.kind = 6 ∨ b.kind = 7)) := by
  simp [subTy, Bool.or_eq_true, or_assoc, and_assoc]
theorem ref_iff (a : Ty) : isRef a = true ↔ (a.kind = 2 ∨ a.kind = 3 ∨ a.kind = 4 ∨ a.kind = 6 ∨ a.kind = 7) := by simp [isRef]
theorem sub_refl (a : Ty) : subTy a a = true := by rw [sub_iff]; exact .inl rfl
theorem sub_trans {a b c : Ty} (h : subTy a b = true) (k : subTy b c = true) : subTy a c = true := by
  rw [sub_iff] at *
  rcases h with rfl | h | ⟨h1, h2, h3⟩
  · exact k
  · rcases k with rfl | k | ⟨k1, k2, k3⟩
    · exact .inr (.inl h)
    · exact .inr (.inl k)
    · rw [ref_iff] at k1; omega
  · rcases k with rfl | k | ⟨k1, k2, k3⟩
    · exact .inr (.inr ⟨h1, h2, h3⟩)
    · exact .inr (.inl k)
    · refine .inr (.inr ⟨h1, k2, ?_⟩)
      rw [ref_iff] at h2
      omega
theorem join_l (a b : Ty) : subTy a (joinTy a b) = true := by
  unfold joinTy
  split
  · assumption
  · split
    · exact sub_refl a
    · split
      · rename_i h
        simp only [Bool.and_eq_true] at h
        rw [sub_iff]; exact .inr (.inr ⟨h.1, by simp [isRef], .inr rfl⟩)
      · rw [sub_iff]; exact .inr (.inl rfl)
theorem join_r (a b : Ty) : subTy b (joinTy a b) = true := by
  unfold joinTy
  split
  · exact sub_refl b
  · split
    · assumption
    · split
      · rename_i h
        simp only [Bool.and_eq_true] at h
        rw [sub_iff]; exact .inr (.inr ⟨h.2, by simp [isRef], .inr rfl⟩)
      · rw [sub_iff]; exact .inr (.inl rfl)
theorem join_least {a b c : Ty} (h : subTy a c = true) (k : subTy b c = true) : subTy (joinTy a b) c = true := by
  unfold joinTy
  split
  · exact k
  · rename_i n1
    split
    · exact h
    · rename_i n2
      rw [sub_iff] at h k
      split
      · rename_i hr
        simp only [Bool.and_eq_true] at hr
        rw [sub_iff]
        rcases h with rfl | h | ⟨h1, h2, h3⟩
        · exact absurd ((sub_iff _ _).2 k) n2
        · exact .inr (.inl h)
        · rcases h3 with h3 | h3
          · exact absurd ((sub_iff a b).2 (.inr (.inr ⟨hr.1, hr.2, .inl h3⟩))) n1
          · exact .inr (.inr ⟨by simp [isRef], h2, .inr h3⟩)
      · rename_i hr
        rw [sub_iff]
        rcases h with rfl | h | ⟨h1, h2, h3⟩
        · exact absurd ((sub_iff _ _).2 k) n2
        · exact .inr (.inl h)
        · rcases k with rfl | k | ⟨k1, k2, k3⟩
          · exact absurd (by simp [h1, h2]) hr
          · exact .inr (.inl k)
          · exact absurd (by simp [h1, k1]) hr
/-! ### stacks -/
def Bel (a b : List Ty) : Prop := a.length = b.length ∧ ∀ (i : Nat) (x y : Ty), a[i]? = some x → b[i]? = some y → subTy x y = true
theorem Bel.refl (a : List Ty) : Bel a a := ⟨rfl, fun i x y hx hy => by rw [hx] at hy; injection hy with hy; subst hy; exact sub_refl x⟩
theorem Bel.trans {a b c : List Ty} (h : Bel a b) (k : Bel b c) : Bel a c :=
  ⟨h.1.trans k.1, fun i x z hx hz => by
    have hi : i < b.length := by rw [← h.1]; exact (List.getElem?_eq_some_iff.1 hx).1
    exact sub_trans (h.2 i x _ hx (List.getElem?_eq_getElem hi)) (k.2 i _ z (List.getElem?_eq_getElem hi) hz)⟩
def joinL (a b : List Ty) : List Ty := List.zipWith joinTy a b
theorem joinL_len {a b : List Ty} (h : a.length = b.length) : (joinL a b).length = a.length := by simp [joinL, h]
theorem joinL_l {a b : List Ty} (h : a.length = b.length) : Bel a (joinL a b) :=
  ⟨(joinL_len h).symm, fun i x y hx hy => by
    simp only [joinL, List.getElem?_zipWith] at hy
    rw [hx] at hy
    cases hb : b[i]? with
    | none => rw [hb] at hy; simp at hy
    | some z => rw [hb] at hy; simp at hy; subst hy; exact join_l x z⟩
theorem joinL_r {a b : List Ty} (h : a.length = b.length) : Bel b (joinL a b) :=
  ⟨h.symm.trans (joinL_len h).symm, fun i x y hx hy => by
    simp only [joinL, List.getElem?_zipWith] at hy
    rw [hx] at hy
    cases hb : a[i]? with
    | none => rw [hb] at hy; simp at hy
    | some z => rw [hb] at hy; simp at hy; subst hy; exact join_r z x⟩
theorem joinL_least {a b c : List Ty} (h : Bel a c) (k : Bel b c) : Bel (joinL a b) c :=
  ⟨by rw [joinL_len (h.1.trans k.1.symm)]; exact h.1, fun i x y hx hy => by
    simp only [joinL, List.getElem?_zipWith] at hx
    cases ha : a[i]? with
    | none => rw [ha] at hx; simp at hx
    | some u =>
      cases hb : b[i]? with
      | none => rw [ha, hb] at hx; simp at hx
      | some v => rw [ha, hb] at hx; simp at hx; subst hx; exact join_least (h.2 i u y ha hy) (k.2 i v y hb hy)⟩
/-! ### shapes -/
def atS (X : List Shp) (q : Nat) : Option (List Ty) := match X[q]? with | some s => if s.seen = true then some s.stack else none | none => none
def LeX (X Y : List Shp) : Prop := ∀ q st, atS X q = some st → ∃ st', atS Y q = some st' ∧ Bel st st'
theorem LeX.refl (X : List Shp) : LeX X X := fun q st h => ⟨st, h, Bel.refl st⟩
theorem LeX.trans {X Y Z : List Shp} (h : LeX X Y) (k : LeX Y Z) : LeX X Z := fun q st hq => by
  obtain ⟨s1, h1, b1⟩ := h q st hq
  obtain ⟨s2, h2, b2⟩ := k q s1 h1
  exact ⟨s2, h2, b1.trans b2⟩
/-- an instruction is come to with a stack: the shapes behind it, and whether they were turned; none: the heights are two -/
def meetR (X : List Shp) (q : Nat) (a : List Ty) : Option (List Shp × Bool) :=
  match X[q]? with
  | none => none
  | some s =>
    if s.seen = true then
      (if s.stack.length = a.length then (if joinL s.stack a = s.stack then some (X, false) else some (X.set q ⟨true, joinL s.stack a⟩, true)) else none)
    else some (X.set q ⟨true, a⟩, true)
theorem atS_set_self {X : List Shp} {q : Nat} {st : List Ty} (h : q < X.length) : atS (X.set q ⟨true, st⟩) q = some st := by
  simp [atS, h]
theorem atS_set_ne {X : List Shp} {q p : Nat} {s : Shp} (h : p ≠ q) : atS (X.set q s) p = atS X p := by
  simp [atS, List.getElem?_set_ne (Ne.symm h)]
theorem meet_len {X X' : List Shp} {q : Nat} {a : List Ty} {b : Bool} (h : meetR X q a = some (X', b)) : X'.length = X.length := by
  unfold meetR at h
  split at h
  · cases h
  · split at h
    · split at h
      · split at h
        · injection h with h; injection h with h _; rw [h]
        · injection h with h; injection h with h _; rw [← h]; simp
      · cases h
    · injection h with h; injection h with h _; rw [← h]; simp
theorem meet_spec {X X' : List Shp} {q : Nat} {a : List Ty} {b : Bool} (h : meetR X q a = some (X', b)) :
    LeX X X' ∧ (∃ st, atS X' q = some st ∧ Bel a st) ∧ (∀ p, p ≠ q → atS X' p = atS X p) ∧ (b = false → X' = X) ∧
    (∀ Y st, LeX X Y → atS Y q = some st → Bel a st → LeX X' Y) := by
  unfold meetR at h
  split at h
  · cases h
  · rename_i s hs
    have hl := (List.getElem?_eq_some_iff.1 hs).1
    split at h
    · rename_i hseen
      have hat : atS X q = some s.stack := by simp [atS, hs, hseen]
      split at h
      · rename_i hlen
        split at h
        · rename_i hj
          injection h with h; injection h with h1 h2
          subst h1 h2
          exact ⟨LeX.refl _, ⟨s.stack, hat, hj ▸ joinL_r hlen⟩, fun _ _ => rfl, fun _ => rfl, fun Y st hY _ _ => hY⟩
        · injection h with h; injection h with h1 h2
          subst h1 h2
          refine ⟨fun p st hp => ?_, ⟨_, atS_set_self hl, joinL_r hlen⟩, fun p hp => atS_set_ne hp, fun h => (by cases h), fun Y st hY hYq hB p t hp => ?_⟩
          · by_cases e : p = q
            · subst e
              rw [hat] at hp; injection hp with hp; subst hp
              exact ⟨_, atS_set_self hl, joinL_l hlen⟩
            · exact ⟨st, by rw [atS_set_ne e]; exact hp, Bel.refl _⟩
          · by_cases e : p = q
            · subst e
              rw [atS_set_self hl] at hp; injection hp with hp; subst hp
              obtain ⟨st', h1, h2⟩ := hY _ _ hat
              rw [hYq] at h1; injection h1 with h1; subst h1
              exact ⟨st, hYq, joinL_least h2 hB⟩
            · rw [atS_set_ne e] at hp
              exact hY p t hp
      · cases h
    · rename_i hseen
      have hat : atS X q = none := by simp [atS, hs, hseen]
      injection h with h; injection h with h1 h2
      subst h1 h2
      refine ⟨fun p st hp => ?_, ⟨_, atS_set_self hl, Bel.refl _⟩, fun p hp => atS_set_ne hp, fun h => (by cases h), fun Y st hY hYq hB p t hp => ?_⟩
      · by_cases e : p = q
        · subst e; rw [hat] at hp; cases hp
        · exact ⟨st, by rw [atS_set_ne e]; exact hp, Bel.refl _⟩
      · by_cases e : p = q
        · subst e
          rw [atS_set_self hl] at hp; injection hp with hp; subst hp
          exact ⟨st, hYq, hB⟩
        · rw [atS_set_ne e] at hp
          exact hY p t hp
theorem meet_some {X Y : List Shp} {q : Nat} {a st : List Ty} (hq : q < X.length) (hY : LeX X Y) (hYq : atS Y q = some st) (hB : Bel a st) : ∃ r, meetR X q a = some r := by
  unfold meetR
  rw [List.getElem?_eq_getElem hq]
  simp only
  split
  · rename_i hseen
    have hat : atS X q = some X[q].stack := by simp [atS, List.getElem?_eq_getElem hq, hseen]
    obtain ⟨st', h1, h2⟩ := hY _ _ hat
    rw [hYq] at h1; injection h1 with h1; subst h1
    rw [if_pos (h2.1.trans hB.1.symm)]
    split <;> exact ⟨_, rfl⟩
  · exact ⟨_, rfl⟩
/-- all of an instruction's ways: the shapes, and those that were turned, in order -/
def meets (a : List Ty) : List Nat → List Shp → Option (List Shp × List Nat)
  | [], X => some (X, [])
  | q :: qs, X => match meetR X q a with
    | none => none
    | some (X', b) => match meets a qs X' with
      | none => none
      | some (X'', t) => some (X'', if b = true then q :: t else t)
theorem meets_len {a : List Ty} : ∀ {qs : List Nat} {X X' : List Shp} {t : List Nat}, meets a qs X = some (X', t) → X'.length = X.length
  | [], X, X', t, h => by simp only [meets, Option.some.injEq, Prod.mk.injEq] at h; rw [h.1]
  | q :: qs, X, X', t, h => by
    simp only [meets] at h
    split at h
    · cases h
    · rename_i X1 b h1
      split at h
      · cases h
      · rename_i X2 t2 h2
        injection h with h; injection h with h _
        subst h
        rw [meets_len h2, meet_len h1]
theorem meets_spec {a : List Ty} : ∀ {qs : List Nat} {X X' : List Shp} {t : List Nat}, meets a qs X = some (X', t) →
    LeX X X' ∧ (∀ q ∈ qs, ∃ st, atS X' q = some st ∧ Bel a st) ∧ (∀ p, p ∉ t → atS X' p = atS X p) ∧ (∀ q ∈ t, q ∈ qs) ∧ (t = [] → X' = X) ∧
    (∀ Y, LeX X Y → (∀ q ∈ qs, ∃ st, atS Y q = some st ∧ Bel a st) → LeX X' Y)
  | [], X, X', t, h => by
    simp only [meets, Option.some.injEq, Prod.mk.injEq] at h
    obtain ⟨rfl, rfl⟩ := h
    exact ⟨LeX.refl _, by simp, fun _ _ => rfl, by simp, fun _ => rfl, fun Y hY _ => hY⟩
  | q :: qs, X, X', t, h => by
    simp only [meets] at h
    split at h
    · cases h
    · rename_i X1 b h1
      split at h
      · cases h
      · rename_i X2 t2 h2
        injection h with h; injection h with h3 h4
        subst h3
        obtain ⟨l1, ⟨st, a1, b1⟩, k1, e1, m1⟩ := meet_spec h1
        obtain ⟨l2, a2, k2, s2, e2, m2⟩ := meets_spec h2
        refine ⟨l1.trans l2, ?_, fun p hp => ?_, fun p hp => ?_, fun ht => ?_, fun Y hY hq => ?_⟩
        · intro p hp
          rcases List.mem_cons.1 hp with rfl | hp
          · obtain ⟨st', h5, h6⟩ := l2 _ _ a1
            exact ⟨st', h5, b1.trans h6⟩
          · exact a2 p hp
        · cases b with
          | true =>
            simp only [if_true] at h4
            subst h4
            simp only [List.mem_cons, not_or] at hp
            rw [k2 p hp.2, k1 p hp.1]
          | false =>
            simp only [Bool.false_eq_true, if_false] at h4
            subst h4
            rw [k2 p hp, e1 rfl]
        · cases b with
          | true =>
            simp only [if_true] at h4
            subst h4
            rcases List.mem_cons.1 hp with rfl | hp
            · simp
            · exact List.mem_cons_of_mem _ (s2 p hp)
          | false =>
            simp only [Bool.false_eq_true, if_false] at h4
            subst h4
            exact List.mem_cons_of_mem _ (s2 p hp)
        · cases b with
          | true =>
            simp only [if_true] at h4
            rw [ht] at h4; cases h4
          | false =>
            simp only [Bool.false_eq_true, if_false] at h4
            rw [e2 (h4.trans ht), e1 rfl]
        · obtain ⟨st', h5, h6⟩ := hq q (by simp)
          exact m2 Y (m1 Y st' hY h5 h6) (fun p hp => hq p (by simp [hp]))
theorem meets_some {a : List Ty} {Y : List Shp} : ∀ {qs : List Nat} {X : List Shp}, LeX X Y → (∀ q ∈ qs, q < X.length) → (∀ q ∈ qs, ∃ st, atS Y q = some st ∧ Bel a st) → ∃ r, meets a qs X = some r
  | [], X, _, _, _ => ⟨_, rfl⟩
  | q :: qs, X, hY, hl, hq => by
    obtain ⟨st, h1, h2⟩ := hq q (by simp)
    obtain ⟨⟨X1, b⟩, hr⟩ := meet_some (hl q (by simp)) hY h1 h2
    obtain ⟨_, _, _, _, m1⟩ := meet_spec hr
    obtain ⟨⟨X2, t⟩, hr2⟩ := meets_some (qs := qs) (m1 Y st hY h1 h2) (fun p hp => by rw [meet_len hr]; exact hl p (by simp [hp])) (fun p hp => hq p (by simp [hp]))
    exact ⟨(X2, if b = true then q :: t else t), by simp only [meets, hr, hr2]⟩
/-! ### least solutions -/
abbrev Stp := Nat → List Ty → Option (List Ty × List Nat)
def Mono (step : Stp) : Prop := ∀ (pc : Nat) (st st' : List Ty) (r' : List Ty × List Nat), Bel st st' → step pc st' = some r' → ∃ r, step pc st = some r ∧ Bel r.1 r'.1 ∧ r.2 = r'.2
def InR (step : Stp) (n : Nat) : Prop := ∀ (pc : Nat) (st : List Ty) (r : List Ty × List Nat), step pc st = some r → ∀ q ∈ r.2, q < n
def Clo (step : Stp) (X : List Shp) (p : Nat) : Prop := ∀ st, atS X p = some st → ∃ r, step p st = some r ∧ ∀ q ∈ r.2, ∃ st', atS X q = some st' ∧ Bel r.1 st'
def SolC (step : Stp) (X : List Shp) : Prop := ∀ p, Clo step X p
def work (step : Stp) : Nat → List Shp → List Nat → Option (Except Nat (List Shp))
  | 0, _, _ => none
  | _ + 1, X, [] => some (.ok X)
  | k + 1, X, pc :: todo => match step pc (X.getD pc default).stack with
    | none => some (.error pc)
    | some r => match meets r.1 r.2 X with
      | none => some (.error pc)
      | some (X', t) => work step k X' (todo ++ t)
structure WInv (step : Stp) (n : Nat) (X : List Shp) (todo : List Nat) : Prop where
  len : X.length = n
  seen : ∀ p ∈ todo, ∃ st, atS X p = some st
  clo : ∀ p, p ∉ todo → Clo step X p
theorem atS_getD {X : List Shp} {p : Nat} {st : List Ty} (h : atS X p = some st) : (X.getD p default).stack = st := by
  unfold atS at h
  split at h
  · rename_i s hs
    split at h
    · injection h with h; rw [List.getD_eq_getElem?_getD, hs]; exact h
    · cases h
  · cases h
theorem clo_mono {step : Stp} {X X' : List Shp} {p : Nat} (h : Clo step X p) (hl : LeX X X') (he : atS X' p = atS X p) : Clo step X' p := by
  intro st hst
  rw [he] at hst
  obtain ⟨r, h1, h2⟩ := h st hst
  refine ⟨r, h1, fun q hq => ?_⟩
  obtain ⟨st', h3, h4⟩ := h2 q hq
  obtain ⟨st'', h5, h6⟩ := hl q st' h3
  exact ⟨st'', h5, h4.trans h6⟩
/-- one instruction's turn -/
theorem turn_spec {step : Stp} {n : Nat} (hm : Mono step) (hr : InR step n) {X : List Shp} {pc : Nat} {st : List Ty} (hlen : X.length = n) (hst : atS X pc = some st) :
    (step pc st = none → ∀ Y, SolC step Y → ¬ LeX X Y) ∧
    (∀ r, step pc st = some r → (meets r.1 r.2 X = none → ∀ Y, SolC step Y → ¬ LeX X Y) ∧
      (∀ X' t, meets r.1 r.2 X = some (X', t) → LeX X X' ∧ X'.length = n ∧ (pc ∉ t → Clo step X' pc) ∧ (∀ p, p ∉ t → p ≠ pc → Clo step X p → Clo step X' p) ∧ (∀ q ∈ t, ∃ s, atS X' q = some s) ∧ (t = [] → X' = X) ∧ ∀ Y, SolC step Y → LeX X Y → LeX X' Y)) := by
  have key : ∀ Y, SolC step Y → LeX X Y → ∃ r, step pc st = some r ∧ ∀ q ∈ r.2, ∃ st', atS Y q = some st' ∧ Bel r.1 st' := by
    intro Y hY hl
    obtain ⟨sy, h1, h2⟩ := hl pc st hst
    obtain ⟨ry, h3, h4⟩ := hY pc sy h1
    obtain ⟨r, h5, h6, h7⟩ := hm pc st sy ry h2 h3
    refine ⟨r, h5, fun q hq => ?_⟩
    obtain ⟨s', h8, h9⟩ := h4 q (h7 ▸ hq)
    exact ⟨s', h8, h6.trans h9⟩
  refine ⟨fun hn Y hY hl => ?_, fun r hrr => ⟨fun hn Y hY hl => ?_, fun X' t hx => ?_⟩⟩
  · obtain ⟨r, h1, _⟩ := key Y hY hl
    rw [hn] at h1; cases h1
  · obtain ⟨r', h1, h2⟩ := key Y hY hl
    rw [hrr] at h1; injection h1 with h1; subst h1
    obtain ⟨z, hz⟩ := meets_some hl (fun q hq => by rw [hlen]; exact hr pc st r hrr q hq) h2
    rw [hn] at hz; cases hz
  · obtain ⟨l1, a1, k1, s1, e1, m1⟩ := meets_spec hx
    refine ⟨l1, by rw [meets_len hx, hlen], fun hp s hs => ?_, fun p hp _ hc => clo_mono hc l1 (k1 p hp), fun q hq => ?_, e1, fun Y hY hl => ?_⟩
    · rw [k1 pc hp, hst] at hs
      injection hs with hs; subst hs
      exact ⟨r, hrr, a1⟩
    · obtain ⟨s, h1, _⟩ := a1 q (s1 q hq)
      exact ⟨s, h1⟩
    · obtain ⟨r', h1, h2⟩ := key Y hY hl
      rw [hrr] at h1; injection h1 with h1; subst h1
      exact m1 Y hl h2
theorem work_ok {step : Stp} {n : Nat} (hm : Mono step) (hr : InR step n) : ∀ (k : Nat) (X : List Shp) (todo : List Nat) (Z : List Shp), WInv step n X todo → work step k X todo = some (.ok Z) →
    SolC step Z ∧ LeX X Z ∧ Z.length = n ∧ ∀ Y, SolC step Y → LeX X Y → LeX Z Y
  | 0, X, todo, Z, _, h => by simp [work] at h
  | k + 1, X, [], Z, hI, h => by
    simp only [work, Option.some.injEq, Except.ok.injEq] at h
    subst h
    exact ⟨fun p => hI.clo p (by simp), LeX.refl _, hI.len, fun Y _ h => h⟩
  | k + 1, X, pc :: todo, Z, hI, h => by
    obtain ⟨st, hst⟩ := hI.seen pc (by simp)
    simp only [work, atS_getD hst] at h
    obtain ⟨_, T⟩ := turn_spec hm hr hI.len hst
    split at h
    · cases h
    · rename_i r hrr
      split at h
      · cases h
      · rename_i X' t hx
        obtain ⟨l1, n1, c1, o1, s1, e1, m1⟩ := (T r hrr).2 X' t hx
        have hI' : WInv step n X' (todo ++ t) := by
          refine ⟨n1, fun p hp => ?_, fun p hp => ?_⟩
          · rcases List.mem_append.1 hp with hp | hp
            · obtain ⟨s, hs⟩ := hI.seen p (by simp [hp])
              obtain ⟨s', h1, _⟩ := l1 p s hs
              exact ⟨s', h1⟩
            · exact s1 p hp
          · simp only [List.mem_append, not_or] at hp
            by_cases e : p = pc
            · subst e; exact c1 hp.2
            · exact o1 p hp.2 e (hI.clo p (by simp [e, hp.1]))
        obtain ⟨z1, z2, z3, z4⟩ := work_ok hm hr k X' (todo ++ t) Z hI' h
        exact ⟨z1, l1.trans z2, z3, fun Y hY hl => z4 Y hY (m1 Y hY hl)⟩
theorem work_err {step : Stp} {n : Nat} (hm : Mono step) (hr : InR step n) : ∀ (k : Nat) (X : List Shp) (todo : List Nat) (pc : Nat), WInv step n X todo → work step k X todo = some (.error pc) →
    pc < n ∧ ∀ Y, SolC step Y → ¬ LeX X Y
  | 0, X, todo, pc, _, h => by simp [work] at h
  | k + 1, X, [], pc, hI, h => by simp [work] at h
  | k + 1, X, p0 :: todo, pc, hI, h => by
    obtain ⟨st, hst⟩ := hI.seen p0 (by simp)
    simp only [work, atS_getD hst] at h
    obtain ⟨N, T⟩ := turn_spec hm hr hI.len hst
    have hp0 : p0 < n := by
      rw [← hI.len]
      unfold atS at hst
      split at hst
      · rename_i s hs; exact (List.getElem?_eq_some_iff.1 hs).1
      · cases hst
    split at h
    · rename_i hn
      injection h with h; injection h with h; subst h
      exact ⟨hp0, N hn⟩
    · rename_i r hrr
      split at h
      · rename_i hn
        injection h with h; injection h with h; subst h
        exact ⟨hp0, (T r hrr).1 hn⟩
      · rename_i X' t hx
        obtain ⟨l1, n1, c1, o1, s1, e1, m1⟩ := (T r hrr).2 X' t hx
        have hI' : WInv step n X' (todo ++ t) := by
          refine ⟨n1, fun p hp => ?_, fun p hp => ?_⟩
          · rcases List.mem_append.1 hp with hp | hp
            · obtain ⟨s, hs⟩ := hI.seen p (by simp [hp])
              obtain ⟨s', h1, _⟩ := l1 p s hs
              exact ⟨s', h1⟩
            · exact s1 p hp
          · simp only [List.mem_append, not_or] at hp
            by_cases e : p = p0
            · subst e; exact c1 hp.2
            · exact o1 p hp.2 e (hI.clo p (by simp [e, hp.1]))
        obtain ⟨z1, z2⟩ := work_err hm hr k X' (todo ++ t) pc hI' h
        exact ⟨z1, fun Y hY hl => z2 Y hY (m1 Y hY hl)⟩
/-! ### the same by going round -/
def visit (step : Stp) (X : List Shp) (pc : Nat) : Option (List Shp × Bool) :=
  match atS X pc with
  | none => some (X, false)
  | some st => match step pc st with
    | none => none
    | some r => match meets r.1 r.2 X with
      | none => none
      | some (X', t) => some (X', !t.isEmpty)
def pass (step : Stp) : List Nat → List Shp → Option (List Shp × Bool)
  | [], X => some (X, false)
  | p :: ps, X => match visit step X p with
    | none => none
    | some (X', b) => match pass step ps X' with
      | none => none
      | some (X'', b') => some (X'', b || b')
def rounds (step : Stp) (n : Nat) : Nat → List Shp → Option (Option (List Shp))
  | 0, _ => none
  | k + 1, X => match pass step (List.range n) X with
    | none => some none
    | some (X', b) => if b = true then rounds step n k X' else some (some X')
theorem visit_spec {step : Stp} {n : Nat} (hm : Mono step) (hr : InR step n) {X : List Shp} {pc : Nat} (hlen : X.length = n) :
    (visit step X pc = none → ∀ Y, SolC step Y → ¬ LeX X Y) ∧
    ∀ X' b, visit step X pc = some (X', b) → LeX X X' ∧ X'.length = n ∧ (b = false → X' = X ∧ Clo step X pc) ∧ ∀ Y, SolC step Y → LeX X Y → LeX X' Y := by
  unfold visit
  cases hst : atS X pc with
  | none =>
    simp only
    refine ⟨fun h => (by cases h), fun X' b h => ?_⟩
    injection h with h; injection h with h1 h2; subst h1 h2
    exact ⟨LeX.refl _, hlen, fun _ => ⟨rfl, fun st h => by rw [hst] at h; cases h⟩, fun Y _ h => h⟩
  | some st =>
    simp only
    obtain ⟨N, T⟩ := turn_spec hm hr hlen hst
    cases hs : step pc st with
    | none => exact ⟨fun _ => N hs, fun X' b h => (by cases h)⟩
    | some r =>
      simp only
      cases hx : meets r.1 r.2 X with
      | none => exact ⟨fun _ => (T r hs).1 hx, fun X' b h => (by cases h)⟩
      | some z =>
        obtain ⟨X1, t⟩ := z
        simp only
        refine ⟨fun h => (by cases h), fun X' b h => ?_⟩
        injection h with h; injection h with h1 h2; subst h1
        obtain ⟨l1, n1, c1, o1, s1, e1, m1⟩ := (T r hs).2 X1 t hx
        refine ⟨l1, n1, fun hb => ?_, m1⟩
        rw [hb] at h2
        have ht : t = [] := by cases t with
          | nil => rfl
          | cons a l => simp at h2
        subst ht
        have e := e1 rfl
        exact ⟨e, e ▸ c1 (by simp)⟩
theorem pass_spec {step : Stp} {n : Nat} (hm : Mono step) (hr : InR step n) : ∀ (ps : List Nat) (X : List Shp), X.length = n →
    (pass step ps X = none → ∀ Y, SolC step Y → ¬ LeX X Y) ∧
    ∀ X' b, pass step ps X = some (X', b) → LeX X X' ∧ X'.length = n ∧ (b = false → X' = X ∧ ∀ p ∈ ps, Clo step X p) ∧ ∀ Y, SolC step Y → LeX X Y → LeX X' Y
  | [], X, hlen => by
    refine ⟨fun h => (by cases h), fun X' b h => ?_⟩
    simp only [pass, Option.some.injEq, Prod.mk.injEq] at h
    obtain ⟨rfl, rfl⟩ := h
    exact ⟨LeX.refl _, hlen, fun _ => ⟨rfl, by simp⟩, fun Y _ h => h⟩
  | p :: ps, X, hlen => by
    obtain ⟨N, T⟩ := visit_spec hm hr (pc := p) hlen
    unfold pass
    cases hv : visit step X p with
    | none => exact ⟨fun _ => N hv, fun X' b h => (by cases h)⟩
    | some z =>
      obtain ⟨X1, b1⟩ := z
      simp only
      obtain ⟨l1, n1, e1, m1⟩ := T X1 b1 hv
      obtain ⟨N2, T2⟩ := pass_spec hm hr ps X1 n1
      cases hp : pass step ps X1 with
      | none => exact ⟨fun _ Y hY hl => N2 hp Y hY (m1 Y hY hl), fun X' b h => (by cases h)⟩
      | some z =>
        obtain ⟨X2, b2⟩ := z
        simp only
        refine ⟨fun h => (by cases h), fun X' b h => ?_⟩
        injection h with h; injection h with h1 h2; subst h1 h2
        obtain ⟨l2, n2, e2, m2⟩ := T2 X2 b2 hp
        refine ⟨l1.trans l2, n2, fun hb => ?_, fun Y hY hl => m2 Y hY (m1 Y hY hl)⟩
        simp only [Bool.or_eq_false_iff] at hb
        obtain ⟨x1, c1⟩ := e1 hb.1
        obtain ⟨x2, c2⟩ := e2 hb.2
        subst x1
        refine ⟨x2, fun q hq => ?_⟩
        rcases List.mem_cons.1 hq with rfl | hq
        · exact c1
        · exact c2 q hq
theorem rounds_ok {step : Stp} {n : Nat} (hm : Mono step) (hr : InR step n) : ∀ (k : Nat) (X Z : List Shp), X.length = n → rounds step n k X = some (some Z) →
    SolC step Z ∧ LeX X Z ∧ Z.length = n ∧ ∀ Y, SolC step Y → LeX X Y → LeX Z Y
  | 0, X, Z, _, h => by simp [rounds] at h
  | k + 1, X, Z, hlen, h => by
    obtain ⟨N, T⟩ := pass_spec hm hr (List.range n) X hlen
    simp only [rounds] at h
    split at h
    · cases h
    · rename_i X1 b hp
      obtain ⟨l1, n1, e1, m1⟩ := T X1 b hp
      split at h
      · obtain ⟨z1, z2, z3, z4⟩ := rounds_ok hm hr k X1 Z n1 h
        exact ⟨z1, l1.trans z2, z3, fun Y hY hl => z4 Y hY (m1 Y hY hl)⟩
      · rename_i hb
        injection h with h; injection h with h; subst h
        obtain ⟨x1, c1⟩ := e1 (by simpa using hb)
        subst x1
        refine ⟨fun p => ?_, LeX.refl _, hlen, fun Y _ h => h⟩
        by_cases hp' : p < n
        · exact c1 p (List.mem_range.2 hp')
        · intro st hst
          unfold atS at hst
          rw [List.getElem?_eq_none (by omega)] at hst
          cases hst
theorem rounds_none {step : Stp} {n : Nat} (hm : Mono step) (hr : InR step n) : ∀ (k : Nat) (X : List Shp), X.length = n → rounds step n k X = some none → ∀ Y, SolC step Y → ¬ LeX X Y
  | 0, X, _, h => by simp [rounds] at h
  | k + 1, X, hlen, h => by
    obtain ⟨N, T⟩ := pass_spec hm hr (List.range n) X hlen
    simp only [rounds] at h
    split at h
    · rename_i hp; exact N hp
    · rename_i X1 b hp
      obtain ⟨l1, n1, e1, m1⟩ := T X1 b hp
      split at h
      · intro Y hY hl
        exact rounds_none hm hr k X1 n1 h Y hY (m1 Y hY hl)
      · injection h with h; cases h
/-! ### an end -/
def rank (t : Ty) : Nat := if t.kind = 8 then 3 else if t.kind = 7 then 2 else if t.kind = 6 then 0 else 1
theorem rank_le (t : Ty) : rank t ≤ 3 := by unfold rank; (repeat' split) <;> omega
def Prp (t : Ty) : Prop := t.kind = 6 ∨ t.kind = 7 ∨ t.kind = 8 → t.n = 0
theorem ty_ext {a b : Ty} (h1 : a.kind = b.kind) (h2 : a.n = b.n) : a = b := by cases a; cases b; simp_all
theorem join_prp {a b : Ty} (ha : Prp a) (hb : Prp b) : Prp (joinTy a b) := by
  unfold joinTy
  repeat' split
  all_goals first | exact ha | exact hb | (intro _; rfl)
theorem join_rank {a b : Ty} (ha : Prp a) (hb : Prp b) : joinTy a b = a ∨ rank a < rank (joinTy a b) := by
  unfold joinTy
  split
  · rename_i h
    rw [sub_iff] at h
    by_cases e : a = b
    · exact .inl e.symm
    right
    rcases h with h | h | ⟨h1, h2, h3⟩
    · exact absurd h e
    · have hk : a.kind ≠ 8 := fun hk => e (ty_ext (hk.trans h.symm) ((ha (.inr (.inr hk))).trans (hb (.inr (.inr h))).symm))
      unfold rank
      rw [if_neg hk, if_pos h]; (repeat' split) <;> omega
    · rw [ref_iff] at h1 h2
      rcases h3 with h3 | h3
      · have hk : b.kind ≠ 6 := fun hk => e (ty_ext (h3.trans hk.symm) ((ha (.inl h3)).trans (hb (.inl hk)).symm))
        unfold rank
        repeat' split
        all_goals omega
      · have hk : a.kind ≠ 7 := fun hk => e (ty_ext (hk.trans h3.symm) ((ha (.inr (.inl hk))).trans (hb (.inr (.inl h3))).symm))
        unfold rank
        repeat' split
        all_goals omega
  · rename_i n1
    split
    · exact .inl rfl
    · rename_i n2
      right
      split
      · rename_i hr
        simp only [Bool.and_eq_true] at hr
        have hk : a.kind ≠ 7 := fun hk => n2 ((sub_iff b a).2 (.inr (.inr ⟨hr.2, hr.1, .inr hk⟩)))
        have h1 := (ref_iff a).1 hr.1
        show rank a < 2
        unfold rank
        repeat' split
        all_goals omega
      · have hk : a.kind ≠ 8 := fun hk => n2 ((sub_iff b a).2 (.inr (.inl hk)))
        show rank a < 3
        unfold rank
        repeat' split
        all_goals omega
def sumR (l : List Ty) : Nat := (l.map rank).sum
theorem sumR_le (l : List Ty) : sumR l ≤ 3 * l.length := by
  induction l with
  | nil => simp [sumR]
  | cons x l ih => have := rank_le x; simp [sumR] at ih ⊢; omega
theorem joinL_prp : ∀ {a b : List Ty}, (∀ t ∈ a, Prp t) → (∀ t ∈ b, Prp t) → ∀ t ∈ joinL a b, Prp t
  | [], _, _, _ => by simp [joinL]
  | x :: a, [], _, _ => by simp [joinL]
  | x :: a, y :: b, ha, hb => by
    intro t ht
    simp only [joinL, List.zipWith_cons_cons, List.mem_cons] at ht
    rcases ht with rfl | ht
    · exact join_prp (ha x (by simp)) (hb y (by simp))
    · exact joinL_prp (fun t h => ha t (by simp [h])) (fun t h => hb t (by simp [h])) t ht
theorem joinL_rank : ∀ {a b : List Ty}, a.length = b.length → (∀ t ∈ a, Prp t) → (∀ t ∈ b, Prp t) → joinL a b = a ∨ sumR a < sumR (joinL a b)
  | [], [], _, _, _ => .inl rfl
  | [], _ :: _, h, _, _ => by simp at h
  | _ :: _, [], h, _, _ => by simp at h
  | x :: a, y :: b, hl, ha, hb => by
    have h1 := join_rank (ha x (by simp)) (hb y (by simp))
    have h2 := joinL_rank (a := a) (b := b) (by simpa using hl) (fun t h => ha t (by simp [h])) (fun t h => hb t (by simp [h]))
    simp only [joinL, List.zipWith_cons_cons] at h2 ⊢
    rcases h1 with h1 | h1
    · rcases h2 with h2 | h2
      · exact .inl (by rw [h1, h2])
      · right; rw [h1]; simp [sumR] at h2 ⊢; omega
    · right
      rcases h2 with h2 | h2
      · rw [h2]; simp [sumR]; omega
      · simp [sumR] at h2 ⊢; omega
def hS (s : Shp) : Nat := if s.seen = true then 1 + sumR s.stack else 0
def hX (X : List Shp) : Nat := (X.map hS).sum
structure PrpX (X : List Shp) : Prop where
  low : ∀ s ∈ X, s.seen = true → s.stack.length ≤ 8 ∧ ∀ t ∈ s.stack, Prp t
  uns : ∀ s ∈ X, s.seen = false → s.stack = []
theorem hX_le {X : List Shp} (h : PrpX X) : hX X ≤ 25 * X.length := by
  have : ∀ s ∈ X, hS s ≤ 25 := by
    intro s hs
    unfold hS
    split
    · rename_i hseen
      have := (h.low s hs hseen).1
      have := sumR_le s.stack
      omega
    · omega
  clear h
  induction X with
  | nil => simp [hX]
  | cons x X ih =>
    have h1 := this x (by simp)
    have h2 := ih (fun s hs => this s (by simp [hs]))
    simp [hX] at h2 ⊢; omega
theorem hX_set : ∀ {X : List Shp} {q : Nat} {s s' : Shp}, X[q]? = some s → hX (X.set q s') + hS s = hX X + hS s'
  | [], _, _, _, h => by simp at h
  | x :: X, 0, s, s', h => by simp at h; subst h; simp [hX]; omega
  | x :: X, q + 1, s, s', h => by
    have := hX_set (s' := s') (show X[q]? = some s by simpa using h)
    simp [hX] at this ⊢; omega
theorem prpX_set {X : List Shp} (h : PrpX X) (q : Nat) {st : List Ty} (h1 : st.length ≤ 8) (h2 : ∀ t ∈ st, Prp t) : PrpX (X.set q ⟨true, st⟩) := by
  constructor
  · intro s hs hseen
    rcases List.mem_or_eq_of_mem_set hs with hs | rfl
    · exact h.low s hs hseen
    · exact ⟨h1, h2⟩
  · intro s hs hseen
    rcases List.mem_or_eq_of_mem_set hs with hs | rfl
    · exact h.uns s hs hseen
    · cases hseen
theorem meet_up {X X' : List Shp} {q : Nat} {a : List Ty} {b : Bool} (hX' : PrpX X) (ha : a.length ≤ 8) (hp : ∀ t ∈ a, Prp t) (h : meetR X q a = some (X', b)) :
    PrpX X' ∧ hX X + (if b = true then 1 else 0) ≤ hX X' := by
  unfold meetR at h
  split at h
  · cases h
  · rename_i s hs
    have hmem := List.mem_of_getElem? hs
    split at h
    · rename_i hseen
      obtain ⟨l1, p1⟩ := hX'.low s hmem hseen
      split at h
      · rename_i hlen
        split at h
        · injection h with h; injection h with h1 h2; subst h1 h2
          exact ⟨hX', by simp⟩
        · rename_i hj
          injection h with h; injection h with h1 h2; subst h1 h2
          refine ⟨prpX_set hX' q (by rw [joinL_len hlen]; exact l1) (joinL_prp p1 hp), ?_⟩
          have e := hX_set (s' := ⟨true, joinL s.stack a⟩) hs
          rcases joinL_rank hlen p1 hp with hr | hr
          · exact absurd hr hj
          · simp [hS, hseen] at e ⊢; omega
      · cases h
    · rename_i hseen
      injection h with h; injection h with h1 h2; subst h1 h2
      refine ⟨prpX_set hX' q ha hp, ?_⟩
      have e := hX_set (s' := ⟨true, a⟩) hs
      simp [hS, hseen] at e ⊢; omega
theorem meets_up {a : List Ty} (ha : a.length ≤ 8) (hp : ∀ t ∈ a, Prp t) : ∀ {qs : List Nat} {X X' : List Shp} {t : List Nat}, PrpX X → meets a qs X = some (X', t) → PrpX X' ∧ hX X + t.length ≤ hX X'
  | [], X, X', t, hX', h => by
    simp only [meets, Option.some.injEq, Prod.mk.injEq] at h
    obtain ⟨rfl, rfl⟩ := h
    exact ⟨hX', by simp⟩
  | q :: qs, X, X', t, hX', h => by
    simp only [meets] at h
    split at h
    · cases h
    · rename_i X1 b h1
      split at h
      · cases h
      · rename_i X2 t2 h2
        injection h with h; injection h with h3 h4
        subst h3
        obtain ⟨p1, u1⟩ := meet_up hX' ha hp h1
        obtain ⟨p2, u2⟩ := meets_up ha hp p1 h2
        refine ⟨p2, ?_⟩
        cases b with
        | true => simp only [if_true] at h4 u1; subst h4; simp; omega
        | false => simp only [Bool.false_eq_true, if_false] at h4 u1; subst h4; omega
def PrpS (step : Stp) : Prop := ∀ (pc : Nat) (st : List Ty) (r : List Ty × List Nat), step pc st = some r → (∀ t ∈ st, Prp t) → r.1.length ≤ 8 ∧ ∀ t ∈ r.1, Prp t
theorem atS_mem {X : List Shp} {p : Nat} {st : List Ty} (h : atS X p = some st) : ∃ s ∈ X, s.seen = true ∧ s.stack = st := by
  unfold atS at h
  split at h
  · rename_i s hs
    split at h
    · rename_i hseen
      injection h with h
      exact ⟨s, List.mem_of_getElem? hs, hseen, h⟩
    · cases h
  · cases h
theorem prp_at {X : List Shp} {p : Nat} (h : PrpX X) : ∀ t ∈ (X.getD p default).stack, Prp t := by
  rw [List.getD_eq_getElem?_getD]
  cases e : X[p]? with
  | none => intro t ht; simp [default, instInhabitedShp.default] at ht
  | some s =>
    simp only [Option.getD_some]
    cases hs : s.seen with
    | true => exact (h.low s (List.mem_of_getElem? e) hs).2
    | false => rw [h.uns s (List.mem_of_getElem? e) hs]; simp
theorem work_total {step : Stp} {n : Nat} (hs : PrpS step) : ∀ (k : Nat) (X : List Shp) (todo : List Nat), X.length = n → PrpX X → 2 * (25 * n - hX X) + todo.length < k → ∃ r, work step k X todo = some r
  | 0, X, todo, _, _, h => by omega
  | k + 1, X, [], _, _, _ => ⟨_, rfl⟩
  | k + 1, X, pc :: todo, hl, hp, h => by
    simp only [work]
    cases h1 : step pc (X.getD pc default).stack with
    | none => exact ⟨_, rfl⟩
    | some r =>
      simp only
      obtain ⟨r1, r2⟩ := hs pc _ r h1 (prp_at hp)
      cases h2 : meets r.1 r.2 X with
      | none => exact ⟨_, rfl⟩
      | some z =>
        obtain ⟨X', t⟩ := z
        simp only
        obtain ⟨p1, u1⟩ := meets_up r1 r2 hp h2
        have hl' := meets_len h2
        have hle := hX_le p1
        rw [hl', hl] at hle
        refine work_total hs k X' (todo ++ t) (hl'.trans hl) p1 ?_
        simp only [List.length_append, List.length_cons] at h ⊢
        omega
/-- one round of the list: what is left of the end -/
theorem work_step_up {step : Stp} (hs : PrpS step) {X X' : List Shp} {pc : Nat} {r : List Ty × List Nat} {t : List Nat} (hp : PrpX X) (h1 : step pc (X.getD pc default).stack = some r) (h2 : meets r.1 r.2 X = some (X', t)) : PrpX X' ∧ hX X + t.length ≤ hX X' := by
  obtain ⟨r1, r2⟩ := hs pc _ r h1 (prp_at hp)
  exact meets_up r1 r2 hp h2
theorem visit_up {step : Stp} (hs : PrpS step) {X X' : List Shp} {pc : Nat} {b : Bool} (hp : PrpX X) (h : visit step X pc = some (X', b)) : PrpX X' ∧ X'.length = X.length ∧ hX X + (if b = true then 1 else 0) ≤ hX X' := by
  unfold visit at h
  split at h
  · injection h with h; injection h with h1 h2; subst h1 h2
    exact ⟨hp, rfl, by simp⟩
  · rename_i st hst
    split at h
    · cases h
    · rename_i r h1
      split at h
      · cases h
      · rename_i X1 t h2
        injection h with h; injection h with h3 h4; subst h3
        obtain ⟨s, hm, hseen, rfl⟩ := atS_mem hst
        obtain ⟨r1, r2⟩ := hs pc _ r h1 (hp.low s hm hseen).2
        obtain ⟨p1, u1⟩ := meets_up r1 r2 hp h2
        refine ⟨p1, meets_len h2, ?_⟩
        cases t with
        | nil => simp at h4; subst h4; simpa using u1
        | cons q t => simp at h4; subst h4; simp at u1 ⊢; omega
theorem pass_up {step : Stp} (hs : PrpS step) : ∀ {ps : List Nat} {X X' : List Shp} {b : Bool}, PrpX X → pass step ps X = some (X', b) → PrpX X' ∧ X'.length = X.length ∧ hX X + (if b = true then 1 else 0) ≤ hX X'
  | [], X, X', b, hp, h => by
    simp only [pass, Option.some.injEq, Prod.mk.injEq] at h
    obtain ⟨rfl, rfl⟩ := h
    exact ⟨hp, rfl, by simp⟩
  | p :: ps, X, X', b, hp, h => by
    simp only [pass] at h
    split at h
    · cases h
    · rename_i X1 b1 h1
      split at h
      · cases h
      · rename_i X2 b2 h2
        injection h with h; injection h with h3 h4; subst h3
        obtain ⟨p1, l1, u1⟩ := visit_up hs hp h1
        obtain ⟨p2, l2, u2⟩ := pass_up hs p1 h2
        refine ⟨p2, l2.trans l1, ?_⟩
        subst h4
        cases b1 <;> cases b2 <;> simp at u1 u2 ⊢ <;> omega
theorem rounds_total {step : Stp} {n : Nat} (hs : PrpS step) : ∀ (k : Nat) (X : List Shp), X.length = n → PrpX X → 25 * n - hX X < k → ∃ r, rounds step n k X = some r
  | 0, X, _, _, h => by omega
  | k + 1, X, hl, hp, h => by
    simp only [rounds]
    cases h1 : pass step (List.range n) X with
    | none => exact ⟨_, rfl⟩
    | some z =>
      obtain ⟨X', b⟩ := z
      simp only
      obtain ⟨p1, l1, u1⟩ := pass_up hs hp h1
      cases b with
      | false => exact ⟨_, rfl⟩
      | true =>
        simp only [if_true] at u1 ⊢
        have hle := hX_le p1
        rw [l1, hl] at hle
        exact rounds_total hs k X' (l1.trans hl) p1 (by omega)
/-! ### both are one -/
theorem bel_antisymm {a b : List Ty} (ha : ∀ t ∈ a, Prp t) (hb : ∀ t ∈ b, Prp t) (h : Bel a b) (k : Bel b a) : a = b := by
  apply List.ext_getElem? 
  intro i
  rcases Nat.lt_or_ge i a.length with hi | hi
  · have hi' : i < b.length := by rw [← h.1]; exact hi
    have s1 := h.2 i _ _ (List.getElem?_eq_getElem hi) (List.getElem?_eq_getElem hi')
    have s2 := k.2 i _ _ (List.getElem?_eq_getElem hi') (List.getElem?_eq_getElem hi)
    rw [List.getElem?_eq_getElem hi, List.getElem?_eq_getElem hi']
    congr 1
    have pa := ha a[i] (List.getElem_mem hi)
    have pb := hb b[i] (List.getElem_mem hi')
    generalize a[i] = x at *
    generalize b[i] = y at *
    rw [sub_iff] at s1 s2
    rcases s1 with s1 | s1 | ⟨h1, h2, h3⟩
    · exact s1
    · rcases s2 with s2 | s2 | ⟨k1, k2, k3⟩
      · exact s2.symm
      · exact ty_ext (s2.trans s1.symm) ((pa (.inr (.inr s2))).trans (pb (.inr (.inr s1))).symm)
      · rw [ref_iff] at k1; omega
    · rcases s2 with s2 | s2 | ⟨k1, k2, k3⟩
      · exact s2.symm
      · rw [ref_iff] at h1; omega
      · rcases h3 with h3 | h3
        · have hy : y.kind = 6 := by omega
          exact ty_ext (h3.trans hy.symm) ((pa (.inl h3)).trans (pb (.inl hy)).symm)
        · have hx : x.kind = 7 := by omega
          exact ty_ext (hx.trans h3.symm) ((pa (.inr (.inl hx))).trans (pb (.inr (.inl h3))).symm)
  · rw [List.getElem?_eq_none hi, List.getElem?_eq_none (by rw [← h.1]; exact hi)]
theorem leX_antisymm {X Y : List Shp} (hx : PrpX X) (hy : PrpX Y) (hl : X.length = Y.length) (h : LeX X Y) (k : LeX Y X) : X = Y := by
  apply List.ext_getElem?
  intro i
  rcases Nat.lt_or_ge i X.length with hi | hi
  · have hi' : i < Y.length := by rw [← hl]; exact hi
    rw [List.getElem?_eq_getElem hi, List.getElem?_eq_getElem hi']
    congr 1
    have mx := List.getElem_mem hi
    have my := List.getElem_mem hi'
    have ax : atS X i = if X[i].seen = true then some X[i].stack else none := by simp [atS, List.getElem?_eq_getElem hi]
    have ay : atS Y i = if Y[i].seen = true then some Y[i].stack else none := by simp [atS, List.getElem?_eq_getElem hi']
    cases sx : X[i].seen with
    | true =>
      rw [sx, if_pos rfl] at ax
      obtain ⟨st', h1, h2⟩ := h i _ ax
      rw [ay] at h1
      split at h1
      · rename_i sy
        injection h1 with h1; subst h1
        obtain ⟨st'', h3, h4⟩ := k i _ (ay.trans (if_pos sy))
        rw [ax] at h3; injection h3 with h3; subst h3
        have := bel_antisymm (hx.low _ mx sx).2 (hy.low _ my sy).2 h2 h4
        revert sx sy this
        generalize X[i] = a; generalize Y[i] = b
        intro sx sy e
        cases a; cases b; simp_all
      · cases h1
    | false =>
      have sy : Y[i].seen = false := by
        cases sy : Y[i].seen with
        | false => rfl
        | true =>
          rw [sy, if_pos rfl] at ay
          obtain ⟨st', h1, _⟩ := k i _ ay
          rw [ax, sx] at h1; simp at h1
      have e1 := hx.uns _ mx sx
      have e2 := hy.uns _ my sy
      revert sx sy e1 e2
      generalize X[i] = a; generalize Y[i] = b
      intro sx sy e1 e2
      cases a; cases b; simp_all
  · rw [List.getElem?_eq_none hi, List.getElem?_eq_none (by rw [← hl]; exact hi)]
theorem work_prp {step : Stp} (hs : PrpS step) : ∀ (k : Nat) (X : List Shp) (todo : List Nat) (Z : List Shp), PrpX X → work step k X todo = some (.ok Z) → PrpX Z
  | 0, X, todo, Z, _, h => by simp [work] at h
  | k + 1, X, [], Z, hp, h => by
    simp only [work, Option.some.injEq, Except.ok.injEq] at h
    subst h; exact hp
  | k + 1, X, pc :: todo, Z, hp, h => by
    simp only [work] at h
    split at h
    · cases h
    · rename_i r h1
      split at h
      · cases h
      · rename_i X' t h2
        exact work_prp hs k X' _ Z (work_step_up hs hp h1 h2).1 h
theorem rounds_prp {step : Stp} {n : Nat} (hs : PrpS step) : ∀ (k : Nat) (X Z : List Shp), PrpX X → rounds step n k X = some (some Z) → PrpX Z
  | 0, X, Z, _, h => by simp [rounds] at h
  | k + 1, X, Z, hp, h => by
    simp only [rounds] at h
    split at h
    · cases h
    · rename_i X' b h1
      have p1 := (pass_up hs hp h1).1
      split at h
      · exact rounds_prp hs k X' Z p1 h
      · injection h with h; injection h with h; subst h; exact p1
def X0 (n : Nat) : List Shp := (List.replicate n ⟨false, []⟩).set 0 ⟨true, []⟩
theorem X0_prp (n : Nat) : PrpX (X0 n) := by
  refine prpX_set ⟨fun s hs hseen => ?_, fun s hs _ => ?_⟩ 0 (by simp) (by simp)
  · rw [List.mem_replicate] at hs; rw [hs.2] at hseen; cases hseen
  · rw [List.mem_replicate] at hs; rw [hs.2]
theorem X0_at {n : Nat} {p : Nat} {st : List Ty} (h : atS (X0 n) p = some st) : p = 0 ∧ st = [] := by
  by_cases e : p = 0
  · subst e
    obtain ⟨s, hm, hs, rfl⟩ := atS_mem h
    rcases List.mem_or_eq_of_mem_set hm with hm | rfl
    · rw [List.mem_replicate] at hm; rw [hm.2] at hs; cases hs
    · exact ⟨rfl, rfl⟩
  · unfold X0 at h
    rw [atS_set_ne e] at h
    obtain ⟨s, hm, hs, _⟩ := atS_mem h
    rw [List.mem_replicate] at hm; rw [hm.2] at hs; cases hs
theorem X0_inv (step : Stp) {n : Nat} (hn : 0 < n) : WInv step n (X0 n) [0] :=
  ⟨by simp [X0], fun p hp => by simp at hp; subst hp; exact ⟨[], atS_set_self (by simpa using hn)⟩, fun p hp st hst => by simp at hp; exact absurd (X0_at hst).1 hp⟩
/-- what is right of a function: closed, and begun with nothing -/
def SolF (step : Stp) (X : List Shp) : Prop := SolC step X ∧ atS X 0 = some []
theorem X0_le {step : Stp} {n : Nat} {Y : List Shp} (h : SolF step Y) : LeX (X0 n) Y := fun q st hq => by
  obtain ⟨rfl, rfl⟩ := X0_at hq
  exact ⟨[], h.2, Bel.refl _⟩
theorem le_X0 {n : Nat} {Y : List Shp} (hn : 0 < n) (h : LeX (X0 n) Y) : atS Y 0 = some [] := by
  obtain ⟨st, h1, h2⟩ := h 0 [] (atS_set_self (by simpa using hn))
  rw [h1, List.eq_nil_of_length_eq_zero h2.1.symm]
def FUEL : Nat := 6000
/-- by the list -/
def workF (step : Stp) (n : Nat) : Except Nat (List Shp) := (work step FUEL (X0 n) [0]).getD (.error 0)
/-- by going round -/
def roundF (step : Stp) (n : Nat) : Option (List Shp) := (rounds step n FUEL (X0 n)).getD none
theorem workF_spec {step : Stp} {n : Nat} (hn : 0 < n) (hn2 : n ≤ 100) (hm : Mono step) (hr : InR step n) (hs : PrpS step) :
    (∀ pc, workF step n = .error pc → pc < n ∧ ∀ Y, ¬ SolF step Y) ∧
    (∀ Z, workF step n = .ok Z → SolF step Z ∧ Z.length = n ∧ PrpX Z ∧ ∀ Y, SolF step Y → LeX Z Y) := by
  obtain ⟨r, hr1⟩ := work_total (n := n) hs FUEL (X0 n) [0] (by simp [X0]) (X0_prp n) (by simp [FUEL]; omega)
  have e : workF step n = r := by simp [workF, hr1]
  rw [e]
  constructor
  · intro pc hpc
    subst hpc
    obtain ⟨h1, h2⟩ := work_err hm hr FUEL _ _ pc (X0_inv step hn) hr1
    exact ⟨h1, fun Y hY => h2 Y hY.1 (X0_le hY)⟩
  · intro Z hZ
    subst hZ
    obtain ⟨h1, h2, h3, h4⟩ := work_ok hm hr FUEL _ _ Z (X0_inv step hn) hr1
    exact ⟨⟨h1, le_X0 hn h2⟩, h3, work_prp hs FUEL _ _ Z (X0_prp n) hr1, fun Y hY => h4 Y hY.1 (X0_le hY)⟩
theorem roundF_spec {step : Stp} {n : Nat} (hn : 0 < n) (hn2 : n ≤ 100) (hm : Mono step) (hr : InR step n) (hs : PrpS step) :
    (roundF step n = none → ∀ Y, ¬ SolF step Y) ∧
    (∀ Z, roundF step n = some Z → SolF step Z ∧ Z.length = n ∧ PrpX Z ∧ ∀ Y, SolF step Y → LeX Z Y) := by
  obtain ⟨r, hr1⟩ := rounds_total (n := n) hs FUEL (X0 n) (by simp [X0]) (X0_prp n) (by simp [FUEL]; omega)
  have e : roundF step n = r := by simp [roundF, hr1]
  rw [e]
  constructor
  · intro h
    subst h
    have h2 := rounds_none hm hr FUEL (X0 n) (by simp [X0]) hr1
    exact fun Y hY => h2 Y hY.1 (X0_le hY)
  · intro Z hZ
    subst hZ
    obtain ⟨h1, h2, h3, h4⟩ := rounds_ok hm hr FUEL (X0 n) Z (by simp [X0]) hr1
    exact ⟨⟨h1, le_X0 hn h2⟩, h3, rounds_prp hs FUEL _ Z (X0_prp n) hr1, fun Y hY => h4 Y hY.1 (X0_le hY)⟩
/-- both answer the same -/
theorem both {step : Stp} {n : Nat} (hn : 0 < n) (hn2 : n ≤ 100) (hm : Mono step) (hr : InR step n) (hs : PrpS step) :
    (∀ Z, workF step n = .ok Z ↔ roundF step n = some Z) := by
  obtain ⟨w1, w2⟩ := workF_spec hn hn2 hm hr hs
  obtain ⟨r1, r2⟩ := roundF_spec hn hn2 hm hr hs
  intro Z
  constructor
  · intro h
    obtain ⟨a1, a2, a3, a4⟩ := w2 Z h
    cases e : roundF step n with
    | none => exact absurd a1 (r1 e Z)
    | some Z' =>
      obtain ⟨b1, b2, b3, b4⟩ := r2 Z' e
      rw [leX_antisymm a3 b3 (a2.trans b2.symm) (a4 Z' b1) (b4 Z a1)]
  · intro h
    obtain ⟨b1, b2, b3, b4⟩ := r2 Z h
    cases e : workF step n with
    | error pc => exact absurd b1 ((w1 pc e).2 Z)
    | ok Z' =>
      obtain ⟨a1, a2, a3, a4⟩ := w2 Z' e
      rw [leX_antisymm a3 b3 (a2.trans b2.symm) (a4 Z b1) (b4 Z' a1)]
end Go.Proofs.YtgcokdcdpdndjaaDoor
