/- slices.IndexFunc and slices.ContainsFunc at the types that the program uses. -/
import Derived.Test.YtgcokdcdpdndjaaKinds
namespace Go.Proofs.Ytgcokdcdpdndjaa
open Go.RowKit Go.Proofs.YtgcokdcdpdndjaaW.PrintWords
set_option linter.unusedVariables false
set_option linter.unusedSimpArgs false

set_option maxHeartbeats 800000 in
theorem IndexFuncTy (A : Option Addr) (c : Nat) (xs : List Ty) (g : Nat) (caps : Array Value) (p : Ty → Bool) (w : World)
    (hx : Kd.C kTy w A xs.length xs)
    (hg : ∀ args W, (callFunc g args).run Try.prog W = .ok (.enter g args) W)
    (hp : ∀ (x : Ty), x ∈ xs → ∀ W, Below w.heap.size w W → Calls Try.prog g (#[x.v] ++ caps) W fun e W' => e = .returned (.bool (p x)) ∧ Below W.heap.size W W') :
    Calls Try.prog 30 #[.slice A xs.length c, .func (.func g) #[] caps] w fun e w' => e = .returned (.int .i64 (idxF p xs)) ∧ Below w.heap.size w w' := by
  have hm : xs.length ≤ 9223372036854775807 := C_len hx
  have HX := Lib.hid hx
  clear hx
  have HP := Lib.hid hp
  clear hp
  go_enter Try.func30, Try.ntmps30
  go_wp2
  go_loopw [8] (fun i W => ∃ k : Nat, k ≤ xs.length ∧ i = .int .i64 k ∧ Below w.heap.size w W ∧ Hid (IdxAt p xs k)) (fun i _ => xs.length - (intOf i).toNat)
  case atStart => exact ⟨0, by omega, rfl, Below.refl _ _, Lib.hid (IdxAt.zero _ _)⟩
  case round =>
    obtain ⟨k, hk, rfl, hb, HI⟩ := hrel
    by_cases hlt : k < xs.length
    · obtain ⟨ad, x, rfl, hx, h0, h1⟩ := at_Ty (Kd.C_below HX.out hb) k hlt
      have HXK := Lib.hid hx
      clear hx
      go_wp2_with fail
      refine (HP.out x (List.mem_of_getElem? HXK.out) wr hb).mono ?_
      rintro e W' ⟨rfl, hb'⟩
      cases hpx : p x
      · have HPX := Lib.hid hpx
        clear hpx
        go_wp2
        go_roundw
        case rel => exact ⟨k + 1, by omega, by go_num, blt hb hb', Lib.hid (HI.out.miss HXK.out HPX.out)⟩
        case measure => simp [intOf]; omega
      · have HPX := Lib.hid hpx
        clear hpx
        go_wp2
        go_ret
        exact ⟨ret_int (HI.out.hit HXK.out HPX.out).symm, blt hb hb'⟩
    · go_wp2
      go_ret
      exact ⟨ret_int (HI.out.none (by omega)).symm, hb⟩
theorem ContainsFuncTy (A : Option Addr) (c : Nat) (xs : List Ty) (g : Nat) (caps : Array Value) (p : Ty → Bool) (w : World)
    (hx : Kd.C kTy w A xs.length xs)
    (hg : ∀ args W, (callFunc g args).run Try.prog W = .ok (.enter g args) W)
    (hp : ∀ (x : Ty), x ∈ xs → ∀ W, Below w.heap.size w W → Calls Try.prog g (#[x.v] ++ caps) W fun e W' => e = .returned (.bool (p x)) ∧ Below W.heap.size W W') :
    Calls Try.prog 12 #[.slice A xs.length c, .func (.func g) #[] caps] w fun e w' => e = .returned (.bool (xs.any p)) ∧ Below w.heap.size w w' := by
  have H := Lib.hid (IndexFuncTy A c xs g caps p w hx hg hp)
  clear hp hx
  go_enter Try.func12, Try.ntmps12
  go_wp2_with fail
  refine H.out.mono ?_
  rintro e W' ⟨rfl, hb'⟩
  go_wp2
  go_ret
  exact ⟨ret_bool (idxF_any p xs), hb'⟩

set_option maxHeartbeats 800000 in
theorem IndexFuncIns (A : Option Addr) (c : Nat) (xs : List Ins) (g : Nat) (caps : Array Value) (p : Ins → Bool) (w : World)
    (hx : Kd.C kIns w A xs.length xs)
    (hg : ∀ args W, (callFunc g args).run Try.prog W = .ok (.enter g args) W)
    (hp : ∀ (x : Ins), x ∈ xs → ∀ W, Below w.heap.size w W → Calls Try.prog g (#[x.v] ++ caps) W fun e W' => e = .returned (.bool (p x)) ∧ Below W.heap.size W W') :
    Calls Try.prog 29 #[.slice A xs.length c, .func (.func g) #[] caps] w fun e w' => e = .returned (.int .i64 (idxF p xs)) ∧ Below w.heap.size w w' := by
  have hm : xs.length ≤ 9223372036854775807 := C_len hx
  have HX := Lib.hid hx
  clear hx
  have HP := Lib.hid hp
  clear hp
  go_enter Try.func29, Try.ntmps29
  go_wp2
  go_loopw [8] (fun i W => ∃ k : Nat, k ≤ xs.length ∧ i = .int .i64 k ∧ Below w.heap.size w W ∧ Hid (IdxAt p xs k)) (fun i _ => xs.length - (intOf i).toNat)
  case atStart => exact ⟨0, by omega, rfl, Below.refl _ _, Lib.hid (IdxAt.zero _ _)⟩
  case round =>
    obtain ⟨k, hk, rfl, hb, HI⟩ := hrel
    by_cases hlt : k < xs.length
    · obtain ⟨ad, x, rfl, hx, h0, h1, h2⟩ := at_Ins (Kd.C_below HX.out hb) k hlt
      have HXK := Lib.hid hx
      clear hx
      go_wp2_with fail
      refine (HP.out x (List.mem_of_getElem? HXK.out) wr hb).mono ?_
      rintro e W' ⟨rfl, hb'⟩
      cases hpx : p x
      · have HPX := Lib.hid hpx
        clear hpx
        go_wp2
        go_roundw
        case rel => exact ⟨k + 1, by omega, by go_num, blt hb hb', Lib.hid (HI.out.miss HXK.out HPX.out)⟩
        case measure => simp [intOf]; omega
      · have HPX := Lib.hid hpx
        clear hpx
        go_wp2
        go_ret
        exact ⟨ret_int (HI.out.hit HXK.out HPX.out).symm, blt hb hb'⟩
    · go_wp2
      go_ret
      exact ⟨ret_int (HI.out.none (by omega)).symm, hb⟩
theorem ContainsFuncIns (A : Option Addr) (c : Nat) (xs : List Ins) (g : Nat) (caps : Array Value) (p : Ins → Bool) (w : World)
    (hx : Kd.C kIns w A xs.length xs)
    (hg : ∀ args W, (callFunc g args).run Try.prog W = .ok (.enter g args) W)
    (hp : ∀ (x : Ins), x ∈ xs → ∀ W, Below w.heap.size w W → Calls Try.prog g (#[x.v] ++ caps) W fun e W' => e = .returned (.bool (p x)) ∧ Below W.heap.size W W') :
    Calls Try.prog 11 #[.slice A xs.length c, .func (.func g) #[] caps] w fun e w' => e = .returned (.bool (xs.any p)) ∧ Below w.heap.size w w' := by
  have H := Lib.hid (IndexFuncIns A c xs g caps p w hx hg hp)
  clear hp hx
  go_enter Try.func11, Try.ntmps11
  go_wp2_with fail
  refine H.out.mono ?_
  rintro e W' ⟨rfl, hb'⟩
  go_wp2
  go_ret
  exact ⟨ret_bool (idxF_any p xs), hb'⟩

set_option maxHeartbeats 800000 in
theorem IndexFuncImp (A : Option Addr) (c : Nat) (xs : List Imp) (g : Nat) (caps : Array Value) (p : Imp → Bool) (w : World)
    (hx : Kd.C kImp w A xs.length xs)
    (hg : ∀ args W, (callFunc g args).run Try.prog W = .ok (.enter g args) W)
    (hp : ∀ (x : Imp) (h : ImpH) , x ∈ xs → ∀ W, Below w.heap.size w W → ImpAt W x h → Calls Try.prog g (#[(x.v h)] ++ caps) W fun e W' => e = .returned (.bool (p x)) ∧ Below W.heap.size W W') :
    Calls Try.prog 31 #[.slice A xs.length c, .func (.func g) #[] caps] w fun e w' => e = .returned (.int .i64 (idxF p xs)) ∧ Below w.heap.size w w' := by
  have hm : xs.length ≤ 9223372036854775807 := C_len hx
  have HX := Lib.hid hx
  clear hx
  have HP := Lib.hid hp
  clear hp
  go_enter Try.func31, Try.ntmps31
  go_wp2
  go_loopw [8] (fun i W => ∃ k : Nat, k ≤ xs.length ∧ i = .int .i64 k ∧ Below w.heap.size w W ∧ Hid (IdxAt p xs k)) (fun i _ => xs.length - (intOf i).toNat)
  case atStart => exact ⟨0, by omega, rfl, Below.refl _ _, Lib.hid (IdxAt.zero _ _)⟩
  case round =>
    obtain ⟨k, hk, rfl, hb, HI⟩ := hrel
    by_cases hlt : k < xs.length
    · obtain ⟨ad, x, h, rfl, hx, hA, h0, h1, h2⟩ := at_Imp (Kd.C_below HX.out hb) k hlt
      have HXK := Lib.hid hx
      clear hx
      have HA := Lib.hid hA
      clear hA
      go_wp2_with fail
      refine (HP.out x h (List.mem_of_getElem? HXK.out) wr hb HA.out).mono ?_
      rintro e W' ⟨rfl, hb'⟩
      cases hpx : p x
      · have HPX := Lib.hid hpx
        clear hpx
        go_wp2
        go_roundw
        case rel => exact ⟨k + 1, by omega, by go_num, blt hb hb', Lib.hid (HI.out.miss HXK.out HPX.out)⟩
        case measure => simp [intOf]; omega
      · have HPX := Lib.hid hpx
        clear hpx
        go_wp2
        go_ret
        exact ⟨ret_int (HI.out.hit HXK.out HPX.out).symm, blt hb hb'⟩
    · go_wp2
      go_ret
      exact ⟨ret_int (HI.out.none (by omega)).symm, hb⟩
theorem ContainsFuncImp (A : Option Addr) (c : Nat) (xs : List Imp) (g : Nat) (caps : Array Value) (p : Imp → Bool) (w : World)
    (hx : Kd.C kImp w A xs.length xs)
    (hg : ∀ args W, (callFunc g args).run Try.prog W = .ok (.enter g args) W)
    (hp : ∀ (x : Imp) (h : ImpH) , x ∈ xs → ∀ W, Below w.heap.size w W → ImpAt W x h → Calls Try.prog g (#[(x.v h)] ++ caps) W fun e W' => e = .returned (.bool (p x)) ∧ Below W.heap.size W W') :
    Calls Try.prog 17 #[.slice A xs.length c, .func (.func g) #[] caps] w fun e w' => e = .returned (.bool (xs.any p)) ∧ Below w.heap.size w w' := by
  have H := Lib.hid (IndexFuncImp A c xs g caps p w hx hg hp)
  clear hp hx
  go_enter Try.func17, Try.ntmps17
  go_wp2_with fail
  refine H.out.mono ?_
  rintro e W' ⟨rfl, hb'⟩
  go_wp2
  go_ret
  exact ⟨ret_bool (idxF_any p xs), hb'⟩

set_option maxHeartbeats 800000 in
theorem IndexFuncFn (A : Option Addr) (c : Nat) (xs : List Fn) (g : Nat) (caps : Array Value) (p : Fn → Bool) (w : World)
    (hx : Kd.C kFn w A xs.length xs)
    (hg : ∀ args W, (callFunc g args).run Try.prog W = .ok (.enter g args) W)
    (hp : ∀ (x : Fn) (h : FnH) , x ∈ xs → ∀ W, Below w.heap.size w W → FnAt W x h → Calls Try.prog g (#[(x.v h)] ++ caps) W fun e W' => e = .returned (.bool (p x)) ∧ Below W.heap.size W W') :
    Calls Try.prog 78 #[.slice A xs.length c, .func (.func g) #[] caps] w fun e w' => e = .returned (.int .i64 (idxF p xs)) ∧ Below w.heap.size w w' := by
  have hm : xs.length ≤ 9223372036854775807 := C_len hx
  have HX := Lib.hid hx
  clear hx
  have HP := Lib.hid hp
  clear hp
  go_enter Try.func78, Try.ntmps78
  go_wp2
  go_loopw [8] (fun i W => ∃ k : Nat, k ≤ xs.length ∧ i = .int .i64 k ∧ Below w.heap.size w W ∧ Hid (IdxAt p xs k)) (fun i _ => xs.length - (intOf i).toNat)
  case atStart => exact ⟨0, by omega, rfl, Below.refl _ _, Lib.hid (IdxAt.zero _ _)⟩
  case round =>
    obtain ⟨k, hk, rfl, hb, HI⟩ := hrel
    by_cases hlt : k < xs.length
    · obtain ⟨ad, x, h, rfl, hx, hA, h0, h1, h2, h3, h4⟩ := at_Fn (Kd.C_below HX.out hb) k hlt
      have HXK := Lib.hid hx
      clear hx
      have HA := Lib.hid hA
      clear hA
      go_wp2_with fail
      refine (HP.out x h (List.mem_of_getElem? HXK.out) wr hb HA.out).mono ?_
      rintro e W' ⟨rfl, hb'⟩
      cases hpx : p x
      · have HPX := Lib.hid hpx
        clear hpx
        go_wp2
        go_roundw
        case rel => exact ⟨k + 1, by omega, by go_num, blt hb hb', Lib.hid (HI.out.miss HXK.out HPX.out)⟩
        case measure => simp [intOf]; omega
      · have HPX := Lib.hid hpx
        clear hpx
        go_wp2
        go_ret
        exact ⟨ret_int (HI.out.hit HXK.out HPX.out).symm, blt hb hb'⟩
    · go_wp2
      go_ret
      exact ⟨ret_int (HI.out.none (by omega)).symm, hb⟩
theorem ContainsFuncFn (A : Option Addr) (c : Nat) (xs : List Fn) (g : Nat) (caps : Array Value) (p : Fn → Bool) (w : World)
    (hx : Kd.C kFn w A xs.length xs)
    (hg : ∀ args W, (callFunc g args).run Try.prog W = .ok (.enter g args) W)
    (hp : ∀ (x : Fn) (h : FnH) , x ∈ xs → ∀ W, Below w.heap.size w W → FnAt W x h → Calls Try.prog g (#[(x.v h)] ++ caps) W fun e W' => e = .returned (.bool (p x)) ∧ Below W.heap.size W W') :
    Calls Try.prog 35 #[.slice A xs.length c, .func (.func g) #[] caps] w fun e w' => e = .returned (.bool (xs.any p)) ∧ Below w.heap.size w w' := by
  have H := Lib.hid (IndexFuncFn A c xs g caps p w hx hg hp)
  clear hp hx
  go_enter Try.func35, Try.ntmps35
  go_wp2_with fail
  refine H.out.mono ?_
  rintro e W' ⟨rfl, hb'⟩
  go_wp2
  go_ret
  exact ⟨ret_bool (idxF_any p xs), hb'⟩

set_option maxHeartbeats 800000 in
theorem IndexFuncTys (A : Option Addr) (c : Nat) (xs : List (List Ty)) (g : Nat) (caps : Array Value) (p : (List Ty) → Bool) (w : World)
    (hx : Kd.C kTys w A xs.length xs)
    (hg : ∀ args W, (callFunc g args).run Try.prog W = .ok (.enter g args) W)
    (hp : ∀ (x : List Ty) (A0 : Option Addr) (c0 : Nat) , x ∈ xs → ∀ W, Below w.heap.size w W → kTy.C W A0 x.length x → x.length ≤ c0 → Calls Try.prog g (#[(.slice A0 x.length c0)] ++ caps) W fun e W' => e = .returned (.bool (p x)) ∧ Below W.heap.size W W') :
    Calls Try.prog 76 #[.slice A xs.length c, .func (.func g) #[] caps] w fun e w' => e = .returned (.int .i64 (idxF p xs)) ∧ Below w.heap.size w w' := by
  have hm : xs.length ≤ 9223372036854775807 := C_len hx
  have HX := Lib.hid hx
  clear hx
  have HP := Lib.hid hp
  clear hp
  go_enter Try.func76, Try.ntmps76
  go_wp2
  go_loopw [8] (fun i W => ∃ k : Nat, k ≤ xs.length ∧ i = .int .i64 k ∧ Below w.heap.size w W ∧ Hid (IdxAt p xs k)) (fun i _ => xs.length - (intOf i).toNat)
  case atStart => exact ⟨0, by omega, rfl, Below.refl _ _, Lib.hid (IdxAt.zero _ _)⟩
  case round =>
    obtain ⟨k, hk, rfl, hb, HI⟩ := hrel
    by_cases hlt : k < xs.length
    · obtain ⟨ad, x, A0, c0, rfl, hx, hA, hA2, h0⟩ := at_Tys (Kd.C_below HX.out hb) k hlt
      have HXK := Lib.hid hx
      clear hx
      have HA := Lib.hid hA
      clear hA
      go_wp2_with fail
      refine (HP.out x A0 c0 (List.mem_of_getElem? HXK.out) wr hb HA.out hA2).mono ?_
      rintro e W' ⟨rfl, hb'⟩
      cases hpx : p x
      · have HPX := Lib.hid hpx
        clear hpx
        go_wp2
        go_roundw
        case rel => exact ⟨k + 1, by omega, by go_num, blt hb hb', Lib.hid (HI.out.miss HXK.out HPX.out)⟩
        case measure => simp [intOf]; omega
      · have HPX := Lib.hid hpx
        clear hpx
        go_wp2
        go_ret
        exact ⟨ret_int (HI.out.hit HXK.out HPX.out).symm, blt hb hb'⟩
    · go_wp2
      go_ret
      exact ⟨ret_int (HI.out.none (by omega)).symm, hb⟩
theorem ContainsFuncTys (A : Option Addr) (c : Nat) (xs : List (List Ty)) (g : Nat) (caps : Array Value) (p : (List Ty) → Bool) (w : World)
    (hx : Kd.C kTys w A xs.length xs)
    (hg : ∀ args W, (callFunc g args).run Try.prog W = .ok (.enter g args) W)
    (hp : ∀ (x : List Ty) (A0 : Option Addr) (c0 : Nat) , x ∈ xs → ∀ W, Below w.heap.size w W → kTy.C W A0 x.length x → x.length ≤ c0 → Calls Try.prog g (#[(.slice A0 x.length c0)] ++ caps) W fun e W' => e = .returned (.bool (p x)) ∧ Below W.heap.size W W') :
    Calls Try.prog 32 #[.slice A xs.length c, .func (.func g) #[] caps] w fun e w' => e = .returned (.bool (xs.any p)) ∧ Below w.heap.size w w' := by
  have H := Lib.hid (IndexFuncTys A c xs g caps p w hx hg hp)
  clear hp hx
  go_enter Try.func32, Try.ntmps32
  go_wp2_with fail
  refine H.out.mono ?_
  rintro e W' ⟨rfl, hb'⟩
  go_wp2
  go_ret
  exact ⟨ret_bool (idxF_any p xs), hb'⟩

set_option maxHeartbeats 800000 in
theorem IndexFuncStr (A : Option Addr) (c : Nat) (xs : List ByteArray) (g : Nat) (caps : Array Value) (p : ByteArray → Bool) (w : World)
    (hx : Kd.C Kd.string w A xs.length xs)
    (hg : ∀ args W, (callFunc g args).run Try.prog W = .ok (.enter g args) W)
    (hp : ∀ (x : ByteArray), x ∈ xs → ∀ W, Below w.heap.size w W → Calls Try.prog g (#[(.string x)] ++ caps) W fun e W' => e = .returned (.bool (p x)) ∧ Below W.heap.size W W') :
    Calls Try.prog 80 #[.slice A xs.length c, .func (.func g) #[] caps] w fun e w' => e = .returned (.int .i64 (idxF p xs)) ∧ Below w.heap.size w w' := by
  have hm : xs.length ≤ 9223372036854775807 := C_len hx
  have HX := Lib.hid hx
  clear hx
  have HP := Lib.hid hp
  clear hp
  go_enter Try.func80, Try.ntmps80
  go_wp2
  go_loopw [8] (fun i W => ∃ k : Nat, k ≤ xs.length ∧ i = .int .i64 k ∧ Below w.heap.size w W ∧ Hid (IdxAt p xs k)) (fun i _ => xs.length - (intOf i).toNat)
  case atStart => exact ⟨0, by omega, rfl, Below.refl _ _, Lib.hid (IdxAt.zero _ _)⟩
  case round =>
    obtain ⟨k, hk, rfl, hb, HI⟩ := hrel
    by_cases hlt : k < xs.length
    · obtain ⟨ad, x, rfl, hx, h0⟩ := at_str (Kd.C_below HX.out hb) k hlt
      have HXK := Lib.hid hx
      clear hx
      go_wp2_with fail
      refine (HP.out x (List.mem_of_getElem? HXK.out) wr hb).mono ?_
      rintro e W' ⟨rfl, hb'⟩
      cases hpx : p x
      · have HPX := Lib.hid hpx
        clear hpx
        go_wp2
        go_roundw
        case rel => exact ⟨k + 1, by omega, by go_num, blt hb hb', Lib.hid (HI.out.miss HXK.out HPX.out)⟩
        case measure => simp [intOf]; omega
      · have HPX := Lib.hid hpx
        clear hpx
        go_wp2
        go_ret
        exact ⟨ret_int (HI.out.hit HXK.out HPX.out).symm, blt hb hb'⟩
    · go_wp2
      go_ret
      exact ⟨ret_int (HI.out.none (by omega)).symm, hb⟩
theorem ContainsFuncStr (A : Option Addr) (c : Nat) (xs : List ByteArray) (g : Nat) (caps : Array Value) (p : ByteArray → Bool) (w : World)
    (hx : Kd.C Kd.string w A xs.length xs)
    (hg : ∀ args W, (callFunc g args).run Try.prog W = .ok (.enter g args) W)
    (hp : ∀ (x : ByteArray), x ∈ xs → ∀ W, Below w.heap.size w W → Calls Try.prog g (#[(.string x)] ++ caps) W fun e W' => e = .returned (.bool (p x)) ∧ Below W.heap.size W W') :
    Calls Try.prog 40 #[.slice A xs.length c, .func (.func g) #[] caps] w fun e w' => e = .returned (.bool (xs.any p)) ∧ Below w.heap.size w w' := by
  have H := Lib.hid (IndexFuncStr A c xs g caps p w hx hg hp)
  clear hp hx
  go_enter Try.func40, Try.ntmps40
  go_wp2_with fail
  refine H.out.mono ?_
  rintro e W' ⟨rfl, hb'⟩
  go_wp2
  go_ret
  exact ⟨ret_bool (idxF_any p xs), hb'⟩
end Go.Proofs.Ytgcokdcdpdndjaa
