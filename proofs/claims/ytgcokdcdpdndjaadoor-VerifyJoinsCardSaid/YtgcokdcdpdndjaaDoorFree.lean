/- flow.free. -/
import Derived.Test.YtgcokdcdpdndjaaDoorPlainTop
import Derived.Test.YtgcokdcdpdndjaaDoorNamedTop
namespace Go.Proofs.YtgcokdcdpdndjaaDoor
open Go.RowKit Go.Proofs.YtgcokdcdpdndjaaDoorW.PrintWords
set_option linter.unusedVariables false
set_option linter.unusedSimpArgs false

set_option maxHeartbeats 3200000 in
theorem free6 (A : Option Addr) (n c j : Nat) (st : List Ty) (t : Ty) (w : World) (hC : kTy.C w A n st) (hj : j + 1 = n) (ht : st[j]? = some t) :
    Calls Tryd.prog 85 #[.int .i64 6, .slice A n c] w (RuleRet w ⟨[t], [t, t]⟩ true) := by
  obtain ⟨ad, x, rfl, hx, hz0, hz1⟩ := at_Ty hC j (by omega)
  obtain rfl : t = x := by rw [ht] at hx; injection hx
  have m1 := C_len hC
  have y0 := fun o => pw_cell_below (bAl w o) hz0
  have y1 := fun o => pw_cell_below (bAl w o) hz1
  clear hC ht hx hz0 hz1
  have e1 : (n : Int) - 1 = j := by omega
  have hj1 : j < n := by omega
  have hn1 : (1 : Int) ≤ n := by omega
  clear hj
  go_enter Tryd.func85, Tryd.ntmps85
  go_wp2_with fail
  go_region_held3 (fun w' => w'.cell? ⟨w.heap.size + 1, 0, none⟩ = some (.int .i64 t.kind) ∧ w'.cell? ⟨w.heap.size + 1, 1, none⟩ = some (.int .i64 t.n))
    ((refine ⟨?_, ?_⟩ <;> go_simp))
    ((first | (go_at_call 111; with_reducible refine (flowTypes _ _ _ _).mono ?_; intro e w1 hr; obtain ⟨rfl, rfl⟩ := hr)))
  all_goals
    go_wp2
    refine bodyPost_ret (by simp [results, Tryd.results85, go_sem]; rfl) rfl ?_
    refine ⟨⟨_, _, _, _⟩, rfl, Lib.hid ⟨?_, Nat.le_refl _, ?_, Nat.le_refl _⟩, by repeat (first | exact Below.refl _ _ | apply below_alloc | apply below_drew)⟩
    · exact C_one kTy _ _ _ _ _ _ (by first | exact at4_2 _ _ _ _ _ | exact at4_3 _ _ _ _ _) kTy_mk
    · exact C_two _ _ _ _ _ _ (by first | exact at4_2 _ _ _ _ _ | exact at4_3 _ _ _ _ _)
theorem wrapi (x : Int) (h0 : -9223372036854775808 ≤ x) (h1 : x ≤ 9223372036854775807) : IntKind.i64.wrap x = x := by unfold IntKind.wrap; simp [IntKind.signed, IntKind.bits]; omega
set_option maxRecDepth 100000 in
set_option maxHeartbeats 3200000 in
theorem free7 (A : Option Addr) (n c j : Nat) (st : List Ty) (s t : Ty) (w : World) (hC : kTy.C w A n st) (hj : j + 2 = n) (hs : st[j]? = some s) (ht : st[j + 1]? = some t) :
    Calls Tryd.prog 85 #[.int .i64 7, .slice A n c] w (RuleRet w ⟨[s, t], [t, s]⟩ true) := by
  obtain ⟨ad, x, rfl, hx, hz0, hz1⟩ := at_Ty hC j (by omega)
  obtain rfl : s = x := by rw [hs] at hx; injection hx
  obtain ⟨ad', x', he, hx', hz2, hz3⟩ := at_Ty hC (j + 1) (by omega)
  obtain rfl : t = x' := by rw [ht] at hx'; injection hx'
  injection he with he
  subst he
  have m1 := C_len hC
  clear hC ht hx hs hx'
  have e1 : (n : Int) - 1 = ((j + 1 : Nat) : Int) := by omega
  have e2 : (n : Int) - 2 = (j : Int) := by omega
  have hj1 : j < n := by omega
  have hj2 : j + 1 < n := by omega
  have hn1 : (2 : Int) ≤ n := by omega
  have w1 : IntKind.i64.wrap ((n : Int) - 1) = ((j + 1 : Nat) : Int) := by rw [wrapi _ (by omega) (by omega)]; omega
  have w2 : IntKind.i64.wrap ((n : Int) - 2) = (j : Int) := by rw [wrapi _ (by omega) (by omega)]; omega
  have hp1 : (0 : Int) ≤ j := by omega
  have hp2 : (j : Int) < n := by omega
  have hp4 : ((j + 1 : Nat) : Int) < n := by omega
  clear hj
  generalize j + 1 = j' at *
  have hp3 : (0 : Int) ≤ j' := by omega
  have w3 : IntKind.i64.wrap (j : Int) = j := wrapi _ (by omega) (by omega)
  have w4 : IntKind.i64.wrap (j' : Int) = j' := wrapi _ (by omega) (by omega)
  go_enter Tryd.func85, Tryd.ntmps85
  go_wp2_with fail
  go_region_held3 (fun w' => w'.cell? (ad.add (j * 2)) = some (.int .i64 s.kind) ∧ w'.cell? ⟨(ad.add (j * 2)).block, (ad.add (j * 2)).off + 1, none⟩ = some (.int .i64 s.n) ∧ w'.cell? (ad.add (j' * 2)) = some (.int .i64 t.kind) ∧ w'.cell? ⟨(ad.add (j' * 2)).block, (ad.add (j' * 2)).off + 1, none⟩ = some (.int .i64 t.n))
    ((refine ⟨?_, ?_, ?_, ?_⟩ <;> (refine pw_cell_below (w := w) ?_ (by assumption); repeat (first | exact Below.refl _ _ | apply below_alloc | apply below_drew))))
    ((first | (go_at_call 111; with_reducible refine (flowTypes _ _ _ _).mono ?_; intro e w1 hr; obtain ⟨rfl, rfl⟩ := hr)))
  all_goals
    go_wp2
    refine bodyPost_ret (by simp [results, Tryd.results85, go_sem]; rfl) rfl ?_
    refine ⟨⟨_, _, _, _⟩, rfl, Lib.hid ⟨?_, Nat.le_refl _, ?_, Nat.le_refl _⟩, by repeat (first | exact Below.refl _ _ | apply below_alloc | apply below_drew)⟩
    · exact C_two _ _ _ _ _ _ (by first | exact at3_1 _ _ _ _ | exact at3_2 _ _ _ _)
    · exact C_two _ _ _ _ _ _ (by first | exact at3_1 _ _ _ _ | exact at3_2 _ _ _ _)

set_option maxHeartbeats 3200000 in
theorem free41 (A : Option Addr) (n c j : Nat) (st : List Ty) (t : Ty) (w : World) (hC : kTy.C w A n st) (hj : j + 1 = n) (ht : st[j]? = some t) (hk : t.kind = 5) :
    Calls Tryd.prog 85 #[.int .i64 41, .slice A n c] w (RuleRet w ⟨[t], []⟩ true) := by
  obtain ⟨ad, x, rfl, hx, hz0, hz1⟩ := at_Ty hC j (by omega)
  obtain rfl : t = x := by rw [ht] at hx; injection hx
  have m1 := C_len hC
  obtain ⟨tk, tn⟩ := t
  simp only at hk hz0 hz1
  subst hk
  have y0 := fun o => pw_cell_below (bAl w o) hz0
  have y1 := fun o => pw_cell_below (bAl w o) hz1
  clear hC ht hx hz0 hz1
  have e1 : (n : Int) - 1 = j := by omega
  have hj1 : j < n := by omega
  have hn1 : (1 : Int) ≤ n := by omega
  clear hj
  go_enter Tryd.func85, Tryd.ntmps85
  go_wp2_with (go_at_call 111; refine (flowTypes _ _ _ _).mono ?_; rintro e w' ⟨rfl, rfl⟩)
  refine bodyPost_ret (by simp [results, Tryd.results85, go_sem]; rfl) rfl ?_
  exact ⟨⟨_, _, _, _⟩, rfl, Lib.hid ⟨C_one kTy _ _ _ _ _ ⟨5, tn⟩ (at2_1 _ _ _) kTy_mk, Nat.le_refl _, C_nil _ _, Nat.le_refl _⟩, bA2 _ _ _⟩
set_option maxHeartbeats 3200000 in
theorem free41n (A : Option Addr) (n c j : Nat) (st : List Ty) (t : Ty) (w : World) (hC : kTy.C w A n st) (hj : j + 1 = n) (ht : st[j]? = some t) (hk : ¬ t.kind = 5) :
    Calls Tryd.prog 85 #[.int .i64 41, .slice A n c] w (RuleRet w ⟨[], []⟩ false) := by
  obtain ⟨ad, x, rfl, hx, hz0, hz1⟩ := at_Ty hC j (by omega)
  obtain rfl : t = x := by rw [ht] at hx; injection hx
  have m1 := C_len hC
  have y0 := fun o => pw_cell_below (bAl w o) hz0
  have y1 := fun o => pw_cell_below (bAl w o) hz1
  clear hC ht hx hz0 hz1
  have e1 : (n : Int) - 1 = j := by omega
  have hj1 : j < n := by omega
  have hn1 : (1 : Int) ≤ n := by omega
  clear hj
  go_enter Tryd.func85, Tryd.ntmps85
  go_wp2
  refine bodyPost_ret (by simp [results, Tryd.results85, go_sem]; rfl) rfl ?_
  exact ⟨⟨_, _, _, _⟩, rfl, Lib.hid ⟨C_nil _ _, Nat.le_refl _, C_nil _ _, Nat.le_refl _⟩, bAl _ _⟩
set_option maxHeartbeats 3200000 in
theorem free0 (A : Option Addr) (op : Int) (n c : Nat) (w : World) (h : (op = 6 ∧ n = 0) ∨ (op = 7 ∧ n < 2) ∨ (op = 41 ∧ n = 0)) :
    Calls Tryd.prog 85 #[.int .i64 op, .slice A n c] w (RuleRet w ⟨[], []⟩ false) := by
  rcases h with ⟨rfl, rfl⟩ | ⟨rfl, hn⟩ | ⟨rfl, rfl⟩
  · go_enter Tryd.func85, Tryd.ntmps85
    go_wp2
    refine bodyPost_ret (by simp [results, Tryd.results85, go_sem]; rfl) rfl ?_
    exact ⟨⟨_, _, _, _⟩, rfl, Lib.hid ⟨C_nil _ _, Nat.le_refl _, C_nil _ _, Nat.le_refl _⟩, bAl _ _⟩
  · have hn' : ¬ (2 : Int) ≤ n := by omega
    go_enter Tryd.func85, Tryd.ntmps85
    go_wp2
    refine bodyPost_ret (by simp [results, Tryd.results85, go_sem]; rfl) rfl ?_
    exact ⟨⟨_, _, _, _⟩, rfl, Lib.hid ⟨C_nil _ _, Nat.le_refl _, C_nil _ _, Nat.le_refl _⟩, bAl _ _⟩
  · go_enter Tryd.func85, Tryd.ntmps85
    go_wp2
    refine bodyPost_ret (by simp [results, Tryd.results85, go_sem]; rfl) rfl ?_
    exact ⟨⟨_, _, _, _⟩, rfl, Lib.hid ⟨C_nil _ _, Nat.le_refl _, C_nil _ _, Nat.le_refl _⟩, bAl _ _⟩

def freeR (op : Int) (st : List Ty) : Option Rul :=
  match st.reverse with
  | [] => none
  | t :: r =>
    if op = 6 then some ⟨[t], [t, t]⟩
    else if op = 7 then (match r with | [] => none | s :: _ => some ⟨[s, t], [t, s]⟩)
    else if op = 41 then (if t.kind = 5 then some ⟨[t], []⟩ else none) else none
theorem flowFree (A : Option Addr) (op : Int) (c : Nat) (st : List Ty) (w : World) (hC : kTy.C w A st.length st) (h : op = 6 ∨ op = 7 ∨ op = 41) :
    Calls Tryd.prog 85 #[.int .i64 op, .slice A st.length c] w (RuleRet w ((freeR op st).getD ⟨[], []⟩) (freeR op st).isSome) := by
  rcases List.eq_nil_or_concat st with rfl | ⟨l, t, rfl⟩ <;> (try simp only [List.concat_eq_append] at *)
  · have e : freeR op [] = none := rfl
    rw [e]
    exact free0 A op 0 c w (by rcases h with rfl | rfl | rfl <;> simp)
  · have ht : (l ++ [t])[l.length]? = some t := by simp
    have hl : (l ++ [t]).length = l.length + 1 := by simp
    rcases h with rfl | rfl | rfl
    · have e : freeR 6 (l ++ [t]) = some ⟨[t], [t, t]⟩ := by simp [freeR]
      rw [e]
      exact free6 A _ c l.length _ t w hC hl.symm ht
    · rcases List.eq_nil_or_concat l with rfl | ⟨l, s, rfl⟩ <;> (try simp only [List.concat_eq_append] at *)
      · have e : freeR 7 ([] ++ [t]) = none := by simp [freeR]
        rw [e]
        exact free0 A 7 _ c w (by simp)
      · have e : freeR 7 ((l ++ [s]) ++ [t]) = some ⟨[s, t], [t, s]⟩ := by simp [freeR]
        rw [e]
        exact free7 A _ c l.length _ s t w hC (by simp) (by simp [List.getElem?_append]) (by first | simp | simpa using ht)
    · by_cases hk : t.kind = 5
      · have e : freeR 41 (l ++ [t]) = some ⟨[t], []⟩ := by simp [freeR, hk]
        rw [e]
        exact free41 A _ c l.length _ t w hC hl.symm ht hk
      · have e : freeR 41 (l ++ [t]) = none := by simp [freeR, hk]
        rw [e]
        exact free41n A _ c l.length _ t w hC hl.symm ht hk
end Go.Proofs.YtgcokdcdpdndjaaDoor
